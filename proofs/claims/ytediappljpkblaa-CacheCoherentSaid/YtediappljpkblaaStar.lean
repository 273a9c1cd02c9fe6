/- Separation: many assertions of one kind; the length of a map. No program in sight. -/
import Derived.Test.YtediappljpkblaaSepMap
namespace Go.Proofs.Ytediappljpkblaa
set_option linter.unusedSimpArgs false
set_option linter.unusedVariables false
set_option linter.unusedSectionVars false
open Go.RowKit
section
variable {ι : Type} [DecidableEq ι]
/-- the assertions of all of l, apart -/
def big (l : List ι) (f : ι → HProp) : HProp := pack (l.map f)
variable {w0 w : World} {Γ Γ' : List HProp} {f g : ι → HProp} {s : ι} {l : List ι}
theorem On.big_nil (hs : On w0 w Γ) : On w0 w (big ([] : List ι) f :: Γ) := On.pack_iff.2 hs
theorem On.big_put (hs : On w0 w (f s :: big l f :: Γ)) : On w0 w (big (s :: l) f :: Γ) := by
  have h1 := hs.perm (.swap _ _ _)
  have h2 := On.pack_iff.1 h1
  refine On.pack_iff.2 (h2.perm ?_)
  simp only [List.map_cons, List.cons_append]
  exact List.perm_middle
theorem On.big_take (h : s ∈ l) (hs : On w0 w (big l f :: Γ)) : On w0 w (f s :: big (l.erase s) f :: Γ) := by
  have h1 := On.pack_iff.1 hs
  have hp : (l.map f).Perm (f s :: (l.erase s).map f) := (List.perm_cons_erase h).map f
  have h2 := h1.perm (hp.append_right Γ)
  have h3 : On w0 w ((l.erase s).map f ++ (f s :: Γ)) := h2.perm List.perm_middle.symm
  exact (On.pack_iff.2 h3).perm (.swap _ _ _)
theorem big_congr (h : ∀ x ∈ l, f x = g x) : big l f = big l g := by
  unfold big
  rw [List.map_congr_left h]
end
section
variable {K V : Type} {ek : K → Value} {ev : V → Value} {P : Program} {t kt et : TypeId}
theorem good_size {es : Array MapEntry} {clock : Nat} {F : K → Option V} (inj : ∀ {a b : K}, ek a = ek b → a = b) (G : Good ek ev es clock F) {l : List K} (hn : l.Nodup) (hl : ∀ k, k ∈ l ↔ (F k).isSome = true) : es.size = l.length := by
  have h1 : (es.toList.map (·.key)).Nodup := by
    rw [List.Nodup, List.pairwise_map]
    exact G.dist
  have h2 : (l.map ek).Nodup := by
    rw [List.Nodup, List.pairwise_map]
    exact hn.imp fun {a b} hab e => hab (inj e)
  have h3 : ∀ x, x ∈ es.toList.map (·.key) ↔ x ∈ l.map ek := by
    intro x
    simp only [List.mem_map]
    constructor
    · rintro ⟨e, he, rfl⟩
      obtain ⟨k, v, h4, _, h6⟩ := G.key e he
      exact ⟨k, (hl k).2 (by rw [h6]; rfl), h4.symm⟩
    · rintro ⟨k, hk, rfl⟩
      obtain ⟨v, hv⟩ := Option.isSome_iff_exists.1 ((hl k).1 hk)
      obtain ⟨e, he, h5, _⟩ := G.all k v hv
      exact ⟨e, he, h5⟩
  have h4 := ((List.perm_ext_iff_of_nodup h1 h2).2 h3).length_eq
  simpa using h4
variable {ops rest : List Oper} {Q : Exit → Act → World → Prop} {o : Oper} {a : Act} {w0 w : World} {Γ Γ' : List HProp}
theorem wl_maplen {z : Value} (T : MapT P t kt et ek z) {m : Operand} {b n : Nat} {F : K → Option V} {l : List K} (hn : l.Nodup) (hl : ∀ k, k ∈ l ↔ (F k).isSome = true) (hln : l.length = n) (hs : On w0 w Γ) (ho : o.op = Op.call { callee := Callee.builtin Builtin.len, args := #[m], argTypes := #[t] })
    (hw : Region.wanted o (yielded ops.toArray a.tmps) = true) (hm : a.eval m = .map (some b)) (ht : Take (hmap b ek ev F) Γ Γ') (next : wpList P ops.toArray Q rest (a.put o.dst (.int .i64 n)) w) : wpList P ops.toArray Q (o :: rest) a w := by
  refine wl_value hw ?_ next
  obtain ⟨es, clock, h1, G⟩ := hmap_is hs.2 ht
  have h2 := good_size T.KT.inj G hn hl
  unfold execOp
  simp only [ho, resolve, invoke, builtin, Sem.run_bind, Sem.run_pure, Result.andThen_ok, List.map_toArray, List.map_cons, List.map_nil, hm]
  have h3 : (getObj b).run P w = .ok (.map es clock) w := by simp [getObj, Sem.run, h1]
  simp [Builtin.len_, run_underlying T.ht, h3, goInt, h2, hln]
def Op.isLen : Op → Bool
  | .call { callee := .builtin .len, .. } => true
  | _ => false
theorem wl_islen (h : Op.isLen o.op = true) (next : wpList P ops.toArray Q (o :: rest) a w) : wpList P ops.toArray Q (o :: rest) a w := next
end
end Go.Proofs.Ytediappljpkblaa
