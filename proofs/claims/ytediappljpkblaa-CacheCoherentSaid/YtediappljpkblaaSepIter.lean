/- Separation: a map that is ranged over. No program in sight. -/
import Derived.Test.YtediappljpkblaaSepDel
import Derived.Test.YtediappljpkblaaBridge
namespace Go.Proofs.Ytediappljpkblaa
set_option linter.unusedSimpArgs false
set_option linter.unusedVariables false
set_option linter.unusedSectionVars false
open Go.RowKit
theorem modify_filter {α : Type _} {p : α → Bool} {f : α → α} (h : ∀ e, p (f e) = p e) : ∀ (l : List α) (j : Nat), ((l.modify j f).filter p).length = (l.filter p).length
  | [], j => by simp
  | x :: l, 0 => by simp only [List.modify_zero_cons, List.filter_cons, h]; split <;> simp
  | x :: l, j + 1 => by simp only [List.modify_succ_cons, List.filter_cons]; have := modify_filter h l j; split <;> simp [this]
section
variable {K V : Type} {ek : K → Value} {ev : V → Value} {P : Program} {t kt et : TypeId}
/-- 'm[k] = v' at a key that the map has, while m is ranged over -/
theorem IsIter.update [DecidableEq K] {w : World} {b r : Nat} {F : K → Option V} {S : K → Prop} {n : Nat} (h : IsIter w b r ek ev F S n) (KT : KeyT P kt ek) (ht : P.underlying t = some (.map kt et)) (k : K) (v : V) (hk : (F k).isSome = true) :
    ∃ w', (Instr.mapUpdate t (.map (some b)) (ek k) (ev v)).run P w = .ok () w' ∧ IsIter w' b r ek ev (putF F k v) S n ∧ Fr (fun i => i = b) w w' := by
  have hne := h.ne
  obtain ⟨w', hrun, ⟨es2, clock2, e1, G2⟩, hf, _⟩ := h.map.update KT ht k v
  obtain ⟨es, clock, seen, h1, G, hr, hs, hn⟩ := h
  rcases good_find KT G w k with ⟨h2, h3, h4⟩ | ⟨j, e0, v0, h2, h3, h4, h5, h6⟩
  · rw [h3] at hk; cases hk
  · have hkey : ((es[j]?).map (·.key)).getD (ek k) = ek k := by rw [← Array.getElem?_toList, h3]; exact h4
    have hrun2 : (Instr.mapUpdate t (.map (some b)) (ek k) (ev v)).run P w = .ok () (setB w b (.map (es.modify j fun e => { e with key := ek k, val := ev v }) clock)) := by
      simp [Instr.mapUpdate, run_underlying ht, getObj, setObj, Sem.run, h1, KT.check, h2, setB, hkey, KT.stays]
    rw [hrun] at hrun2
    cases hrun2
    rw [setB_same h1] at e1
    cases e1
    refine ⟨_, hrun, ⟨_, _, _, setB_same h1, G2, (setB_other hne.symm).trans hr, ?_, ?_⟩, hf⟩
    · intro e he k' hk'
      rcases (mem_modify h3 e).1 he with rfl | ⟨i, hi, hx⟩
      · have : k' = k := KT.inj hk'.symm
        subst this
        exact hs e0 (List.mem_of_getElem? h3) k' h4
      · exact hs e (List.mem_of_getElem? hx) k' hk'
    · rw [toList_modify]
      exact (modify_filter (p := fun e : MapEntry => !seen.contains e.born) (f := fun e => { e with key := ek k, val := ev v }) (fun _ => rfl) es.toList j).trans hn
theorem iter_local (b r : Nat) (F : K → Option V) (S : K → Prop) (n : Nat) : Local (fun i => i = b ∨ i = r) (fun w => IsIter w b r ek ev F S n) :=
  fun w w' h d => d.of_heap (h b (.inl rfl)) (h r (.inr rfl))
/-- a map that is ranged over -/
def hiter (b r : Nat) (ek : K → Value) (ev : V → Value) (F : K → Option V) (S : K → Prop) (n : Nat) : HProp := atH (fun i => i = b ∨ i = r) (fun w => IsIter w b r ek ev F S n)
variable {ops rest : List Oper} {Q : Exit → Act → World → Prop} {o : Oper} {a : Act} {w0 w : World} {Γ Γ' : List HProp}
theorem hiter_is {b r n : Nat} {F : K → Option V} {S : K → Prop} (hs : Sat w Γ) (ht : Take (hiter b r ek ev F S n) Γ Γ') : IsIter w b r ek ev F S n := atH_use hs ht
theorem wl_range {z : Value} (T : MapT P t kt et ek z) {m : Operand} {b : Nat} {F : K → Option V} (hs : On w0 w Γ) (ho : o.op = .range t m) (hw : Region.wanted o (yielded ops.toArray a.tmps) = true) (hm : a.eval m = .map (some b))
    (ht : Take (hmap b ek ev F) Γ Γ') (next : ∀ r n w', On w0 w' (hiter b r ek ev F (fun _ => False) n :: Γ') → wpList P ops.toArray Q rest (a.put o.dst (.pointer (some ⟨r, 0, none⟩))) w') : wpList P ops.toArray Q (o :: rest) a w := by
  unfold wpList
  rw [if_pos hw]
  refine .inl ?_
  unfold Oper.wp
  have hmap_ := hmap_is hs.2 ht
  obtain ⟨w', n, hrun, hI, hq, hsz⟩ := hmap_.range (P := P) T.ht
  have : (execOp a.eval o).run P w = .ok (.value (.pointer (some ⟨w.heap.size, 0, none⟩))) w' := by
    unfold execOp; rw [ho]; simp only [hm, Sem.run_bind, hrun, Result.andThen_ok, Sem.run_pure]
  rw [this]
  refine next _ n _ ⟨hs.1.trans (Same.fr hq), (hs.2.take ht).upd fun res hres hfit => ?_⟩
  obtain ⟨es, clock, rfl, _⟩ := hres
  have hS : ∀ i, (i = b ∨ i = w.heap.size) → i < w'.heap.size := by
    rintro i (rfl | rfl)
    · exact hI.map.lt
    · exact hI.lt
  obtain ⟨h1, h2⟩ := resOf_atH (S := fun i => i = b ∨ i = w.heap.size) (iter_local b w.heap.size F (fun _ => False) n) hS hI
  refine ⟨⟨_, h1, h2, fun i p o h => ?_⟩, fun i hi _ => hq.block i hi fun x => x⟩
  rcases (resOf_some h).1 with rfl | rfl
  · exact .inr ⟨_, Res.one_at⟩
  · exact .inl (Nat.le_refl _)
theorem wl_next {z : Value} (T : MapT P t kt et ek z) {it : Operand} {b r n : Nat} {F : K → Option V} {S : K → Prop} (hs : On w0 w Γ) (ho : o.op = .next it false) (hw : Region.wanted o (yielded ops.toArray a.tmps) = true) (hi : a.eval it = .pointer (some ⟨r, 0, none⟩))
    (ht : Take (hiter b r ek ev F S n) Γ Γ') (done : n = 0 → (∀ k, (F k).isSome = true → S k) → wpList P ops.toArray Q rest (a.put o.dst (.tuple #[.bool false])) w)
    (next : ∀ k v n' w', F k = some v → ¬ S k → n' < n → On w0 w' (hiter b r ek ev F (fun x => S x ∨ x = k) n' :: Γ') → (Instr.entry (.pointer (some ⟨r, 0, none⟩))).run P w' = .ok (.tuple #[ek k, ev v]) w' → wpList P ops.toArray Q rest (a.put o.dst (.tuple #[.bool true, ek k, ev v])) w') : wpList P ops.toArray Q (o :: rest) a w := by
  unfold wpList
  rw [if_pos hw]
  refine .inl ?_
  unfold Oper.wp
  have hI := hiter_is hs.2 ht
  rcases hI.next (P := P) T.KT.inj o.type with ⟨h0, hl, hrun⟩ | ⟨k, v, w', n', h1, h2, hrun, h3, h4, h5, h6, h7⟩
  · have : (execOp a.eval o).run P w = .ok (.value (.tuple #[.bool false])) w := by
      unfold execOp; rw [ho]; simp only [hi, Sem.run_bind, hrun, Result.andThen_ok, Sem.run_pure]
    rw [this]
    exact done h0 hl
  · have : (execOp a.eval o).run P w = .ok (.value (.tuple #[.bool true, ek k, ev v])) w' := by
      unfold execOp; rw [ho]; simp only [hi, Sem.run_bind, hrun, Result.andThen_ok, Sem.run_pure]
    rw [this]
    exact next k v n' w' h1 h2 h4 ⟨hs.1.trans (Same.fr h5), atH_step (hs.2.take ht) h5 (fun i e => .inr e) (iter_local _ _ _ _ _) h3⟩ h7
theorem wl_iterUpdate [DecidableEq K] {z : Value} (T : MapT P t kt et ek z) {m x v : Operand} {b r n : Nat} {F : K → Option V} {S : K → Prop} (k : K) (c : V) (hk : (F k).isSome = true) (hs : On w0 w Γ) (ho : o.op = .mapUpdate t m x v) (hw : Region.wanted o (yielded ops.toArray a.tmps) = true) (hm : a.eval m = .map (some b)) (hx : a.eval x = ek k) (hv : a.eval v = ev c)
    (ht : Take (hiter b r ek ev F S n) Γ Γ') (next : ∀ w', On w0 w' (hiter b r ek ev (putF F k c) S n :: Γ') → wpList P ops.toArray Q rest (a.put o.dst undef) w') : wpList P ops.toArray Q (o :: rest) a w := by
  unfold wpList
  rw [if_pos hw]
  refine .inl ?_
  unfold Oper.wp
  obtain ⟨w', hrun, h1, h2⟩ := (hiter_is hs.2 ht).update T.KT T.ht k c hk
  have : (execOp a.eval o).run P w = .ok .skip w' := by
    unfold execOp; rw [ho]; simp only [hm, hx, hv, Sem.run_bind, hrun, Result.andThen_ok, Sem.run_pure]
  rw [this]
  exact next w' ⟨hs.1.trans (Same.fr h2), atH_step (hs.2.take ht) h2 (fun i e => .inl e) (iter_local _ _ _ _ _) h1⟩
/-- the range is over -/
theorem On.iter_done {b r n : Nat} {F : K → Option V} {S : K → Prop} (hs : On w0 w (hiter b r ek ev F S n :: Γ)) : On w0 w (hmap b ek ev F :: Γ) := by
  have hI := hiter_is hs.2 (Take.head _ _)
  obtain ⟨es, clock, h1, G⟩ := hI.map
  refine ⟨hs.1, hs.2.upd fun res hres hfit => ⟨⟨_, ⟨es, clock, rfl, G⟩, Res.fits_one h1, fun i p o h => .inr ?_⟩, fun i hi _ => rfl⟩⟩
  have e := (Res.one_some h).1
  exact hres.1 i (.inl e)
end
end Go.Proofs.Ytediappljpkblaa
