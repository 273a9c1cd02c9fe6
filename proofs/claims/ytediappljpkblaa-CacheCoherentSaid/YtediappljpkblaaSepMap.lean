/- Separation: maps. 'hmap b ek ev F': block b is a map that holds F. No program in sight. -/
import Derived.Test.YtediappljpkblaaSepSl
import Derived.Test.YtediappljpkblaaMem
namespace Go.Proofs.Ytediappljpkblaa
set_option linter.unusedSimpArgs false
set_option linter.unusedVariables false
open Go.RowKit
section
variable {K V : Type} {ek : K → Value} {ev : V → Value}
def hmap (b : Nat) (ek : K → Value) (ev : V → Value) (F : K → Option V) : HProp := fun r => ∃ es clock, r = Res.one b false (.map es clock) ∧ Good ek ev es clock F
theorem hmap_is {w : World} {Γ Γ' : List HProp} {b : Nat} {F : K → Option V} (hs : Sat w Γ) (ht : Take (hmap b ek ev F) Γ Γ') : IsMap w b ek ev F := by
  obtain ⟨r, _, _, ⟨es, clock, rfl, h2⟩, h3, _⟩ := Sat.cons_iff.1 (hs.take ht)
  exact ⟨es, clock, h3 b _ _ Res.one_at, h2⟩
theorem hmap_new {w : World} {Γ : List HProp} {b : Nat} (hs : Sat w (pt b (.map #[] 0) :: Γ)) : Sat w (hmap b ek ev (fun _ => none) :: Γ) :=
  hs.imp fun r _ h => ⟨#[], 0, h, ⟨by simp, by simp, by simp, by simp, by simp⟩⟩
theorem On.hmap_new {w0 w : World} {Γ : List HProp} {b : Nat} (hs : On w0 w (pt b (.map #[] 0) :: Γ)) : On w0 w (hmap b ek ev (fun _ => none) :: Γ) := ⟨hs.1, Go.Proofs.Ytediappljpkblaa.hmap_new hs.2⟩
theorem hmap_upd {w w' : World} {Γ : List HProp} {b : Nat} {F F' : K → Option V} (hs : Sat w (hmap b ek ev F :: Γ)) (hf : Fr (fun i => i = b) w w') (h : IsMap w' b ek ev F') : Sat w' (hmap b ek ev F' :: Γ) := by
  obtain ⟨es, clock, h1, h2⟩ := h
  refine hs.upd fun r hr _ => ?_
  obtain ⟨es0, c0, rfl, _⟩ := hr
  refine ⟨⟨_, ⟨es, clock, rfl, h2⟩, Res.fits_one h1, fun i p x hx => .inr ⟨.map es0 c0, by have e := (Res.one_some hx).1; subst e; exact Res.one_at⟩⟩, fun i hi hn => hf.block i hi fun e => hn _ (by subst e; exact Res.one_at)⟩
section
variable {P : Program} {kt et t : TypeId} {ops rest : List Oper} {Q : Exit → Act → World → Prop} {o : Oper} {a : Act} {w0 w : World} {Γ Γ' : List HProp}
/-- what is asked of a map's type -/
structure MapT (P : Program) (t kt et : TypeId) (ek : K → Value) (z : Value) : Prop where
  KT : KeyT P kt ek
  ht : P.underlying t = some (.map kt et)
  hz : ∀ w, (zeroValue et).run P w = .ok z w
theorem exec_lookup {z : Value} (T : MapT P t kt et ek z) {m x : Operand} (ho : o.op = .lookup t m x false) {b : Nat} (hm : a.eval m = .map (some b)) {F : K → Option V} {k : K} (hx : a.eval x = ek k) (h : IsMap w b ek ev F) : (execOp a.eval o).run P w = .ok (.value ((F k).elim z ev)) w := by
  have hl := h.lookup T.KT T.ht T.hz k w rfl
  unfold execOp; rw [ho]; simp only [hm, hx, Sem.run_bind, hl, Result.andThen_ok, Sem.run_pure]
theorem exec_lookup_ok {z : Value} (T : MapT P t kt et ek z) {m x : Operand} (ho : o.op = .lookup t m x true) {b : Nat} (hm : a.eval m = .map (some b)) {F : K → Option V} {k : K} (hx : a.eval x = ek k) (h : IsMap w b ek ev F) : (execOp a.eval o).run P w = .ok (.value (.tuple #[(F k).elim z ev, .bool (F k).isSome])) w := by
  have hl := h.lookup_ok T.KT T.ht T.hz k w rfl
  unfold execOp; rw [ho]; simp only [hm, hx, Sem.run_bind, hl, Result.andThen_ok, Sem.run_pure]
theorem wl_lookup {z : Value} (T : MapT P t kt et ek z) {m x : Operand} {b : Nat} {F : K → Option V} (k : K) (hs : On w0 w Γ) (ho : o.op = .lookup t m x false) (hw : Region.wanted o (yielded ops.toArray a.tmps) = true) (hm : a.eval m = .map (some b)) (hx : a.eval x = ek k)
    (ht : Take (hmap b ek ev F) Γ Γ') (next : wpList P ops.toArray Q rest (a.put o.dst ((F k).elim z ev)) w) : wpList P ops.toArray Q (o :: rest) a w :=
  wl_value hw (exec_lookup T ho hm hx (hmap_is hs.2 ht)) next
theorem wl_lookup_ok {z : Value} (T : MapT P t kt et ek z) {m x : Operand} {b : Nat} {F : K → Option V} (k : K) (hs : On w0 w Γ) (ho : o.op = .lookup t m x true) (hw : Region.wanted o (yielded ops.toArray a.tmps) = true) (hm : a.eval m = .map (some b)) (hx : a.eval x = ek k)
    (ht : Take (hmap b ek ev F) Γ Γ') (next : wpList P ops.toArray Q rest (a.put o.dst (.tuple #[(F k).elim z ev, .bool (F k).isSome])) w) : wpList P ops.toArray Q (o :: rest) a w :=
  wl_value hw (exec_lookup_ok T ho hm hx (hmap_is hs.2 ht)) next
theorem does_mapUpdate [DecidableEq K] {z : Value} (T : MapT P t kt et ek z) {m x v : Operand} {b : Nat} {F : K → Option V} (k : K) (c : V) (ho : o.op = .mapUpdate t m x v) (hm : a.eval m = .map (some b)) (hx : a.eval x = ek k) (hv : a.eval v = ev c) :
    Does P (execOp a.eval o) [hmap b ek ev F] (fun u => pack [pur (u = undef), hmap b ek ev (putF F k c)]) := by
  intro w F' hs
  obtain ⟨w', hrun, r1, r2, r3, _⟩ := (hmap_is hs (Take.head _ _)).update T.KT T.ht k c
  have : (execOp a.eval o).run P w = .ok .skip w' := by
    unfold execOp; rw [ho]; simp only [hm, hx, hv, Sem.run_bind, hrun, Result.andThen_ok, Sem.run_pure]
  rw [this]
  exact ⟨⟨r2.os, r2.tape, r2.output, r2.size⟩, Sat.pack_iff.2 (Sat.pur_iff.2 ⟨rfl, hmap_upd hs r2 r1⟩)⟩
theorem wl_mapUpdate [DecidableEq K] {z : Value} (T : MapT P t kt et ek z) {m x v : Operand} {b : Nat} {F : K → Option V} (k : K) (c : V) (hs : On w0 w Γ) (ho : o.op = .mapUpdate t m x v) (hw : Region.wanted o (yielded ops.toArray a.tmps) = true) (hm : a.eval m = .map (some b)) (hx : a.eval x = ek k) (hv : a.eval v = ev c)
    (ht : Take (hmap b ek ev F) Γ Γ') (next : ∀ w', On w0 w' (hmap b ek ev (putF F k c) :: Γ') → wpList P ops.toArray Q rest (a.put o.dst undef) w') : wpList P ops.toArray Q (o :: rest) a w := by
  unfold wpList
  rw [if_pos hw]
  refine .inl ((does_mapUpdate (F := F) T k c ho hm hx hv w Γ' (hs.2.take ht)).wp fun v w' ⟨h3, h4⟩ => ?_)
  obtain ⟨rfl, h5⟩ := Sat.pur_iff.1 (Sat.pack_iff.1 h4)
  exact next w' ⟨hs.1.trans h3, h5⟩
variable {n0 i : Nat} {D : Nat → Says} {l : List Oper} {KK : List HProp → Act → Prop} {r : List PStep} {use : List Nat}
theorem par_lookup {z : Value} (T : MapT P t kt et ek z) {m x : Operand} {b : Nat} {F : K → Option V} (k : K) (ho : nthO l i = some o) (hw : Region.wanted o (yielded l.toArray a.tmps) = true) (hop : o.op = .lookup t m x false) (hm : a.eval m = .map (some b)) (hx : a.eval x = ek k)
    (hu : sel use Γ = [hmap b ek ev F]) (h : par P l.toArray n0 D KK r Γ (a.put o.dst ((F k).elim z ev))) : par P l.toArray n0 D KK (⟨0, i, use⟩ :: r) Γ a :=
  par_q ho hw ⟨_, fun w hs => exec_lookup T hop hm hx (hmap_is hs (hu ▸ Take.head _ _)), h⟩
theorem par_lookup_ok {z : Value} (T : MapT P t kt et ek z) {m x : Operand} {b : Nat} {F : K → Option V} (k : K) (ho : nthO l i = some o) (hw : Region.wanted o (yielded l.toArray a.tmps) = true) (hop : o.op = .lookup t m x true) (hm : a.eval m = .map (some b)) (hx : a.eval x = ek k)
    (hu : sel use Γ = [hmap b ek ev F]) (h : par P l.toArray n0 D KK r Γ (a.put o.dst (.tuple #[(F k).elim z ev, .bool (F k).isSome]))) : par P l.toArray n0 D KK (⟨0, i, use⟩ :: r) Γ a :=
  par_q ho hw ⟨_, fun w hs => exec_lookup_ok T hop hm hx (hmap_is hs (hu ▸ Take.head _ _)), h⟩
/-- what 'delete' does to a map -/
theorem IsMap.delete1 [DecidableEq K] {b : Nat} {F : K → Option V} (h : IsMap w b ek ev F) (KT : KeyT P kt ek) (ht : P.underlying t = some (.map kt et)) (k : K) (ty : TypeId) :
    ∃ w', (Builtin.delete_ #[t, kt] ty #[.map (some b), ek k]).run P w = .ok (.tuple #[]) w' ∧ IsMap w' b ek ev (delF F k) ∧ Fr (fun i => i = b) w w' := by
  obtain ⟨w1, n, _, hI, hq, hsz⟩ := h.range (P := P) ht
  obtain ⟨es, clock, h1, G⟩ := h
  rcases good_find KT G w k with ⟨h2, h3, h4⟩ | ⟨j, e0, v0, h2, h3, h4, h5, h6⟩
  · refine ⟨setB w b (.map es clock), ?_, ⟨es, clock, setB_same h1, ?_⟩, Fr.setB _ _ _⟩
    · simp [Builtin.delete_, run_underlying ht, getObj, setObj, Sem.run, h1, KT.check, h2, setB]
    · have : delF F k = F := by
        funext x; unfold delF; split
        · rename_i e; rw [e, h3]
        · rfl
      rw [this]; exact G
  · obtain ⟨g1, g2⟩ := good_del (k := k) G KT.inj h3 h4
    refine ⟨setB w b (.map (es.eraseIdxIfInBounds j) clock), ?_, ⟨_, _, setB_same h1, g1⟩, Fr.setB _ _ _⟩
    simp [Builtin.delete_, run_underlying ht, getObj, setObj, Sem.run, h1, KT.check, h2, setB]
theorem does_delete [DecidableEq K] {z : Value} (T : MapT P t kt et ek z) {m x : Operand} {b : Nat} {F : K → Option V} (k : K) (ho : o.op = Op.call { callee := Callee.builtin Builtin.delete, args := #[m, x], argTypes := #[t, kt] }) (hm : a.eval m = .map (some b)) (hx : a.eval x = ek k) :
    Does P (execOp a.eval o) [hmap b ek ev F] (fun u => pack [pur (u = .tuple #[]), hmap b ek ev (delF F k)]) := by
  intro w F' hs
  obtain ⟨w', hrun, r1, r2⟩ := (hmap_is hs (Take.head _ _)).delete1 T.KT T.ht k o.type
  have : (execOp a.eval o).run P w = .ok (.value (.tuple #[])) w' := by
    unfold execOp; simp only [ho, resolve, invoke, builtin, Sem.run_bind, Sem.run_pure, Result.andThen_ok, List.map_toArray, List.map_cons, List.map_nil, hm, hx, hrun]
  rw [this]
  exact ⟨⟨r2.os, r2.tape, r2.output, r2.size⟩, Sat.pack_iff.2 (Sat.pur_iff.2 ⟨rfl, hmap_upd hs r2 r1⟩)⟩
end
end
end Go.Proofs.Ytediappljpkblaa
