/- Separation: a slice that its owner writes: one element set; the tail cleared and cut off. No program in sight. -/
import Derived.Test.YtediappljpkblaaSepMap
namespace Go.Proofs.Ytediappljpkblaa
set_option linter.unusedSimpArgs false
set_option linter.unusedVariables false
open Go.RowKit
section
variable {α : Type} {sz : Nat} {enc : α → List Value} {P : Program} {E : TypeId}
theorem setc_eq : ∀ (vs cs : List Value) (k : Nat), k + vs.length ≤ cs.length → setc cs k vs = cs.take k ++ vs ++ cs.drop (k + vs.length)
  | [], cs, k, h => by simp [setc]
  | v :: vs, cs, k, h => by
    simp only [List.length_cons] at h
    rw [setc, setc_eq vs _ (k + 1) (by simp; omega), List.take_set, List.drop_set]
    have h1 : ¬ (k + 1 + vs.length ≤ k) := by omega
    rw [if_pos (by omega)]
    have h2 : (cs.take (k + 1)).set k v = cs.take k ++ [v] := by
      rw [List.take_succ_eq_append_getElem (by omega), List.set_append_right _ _ (by rw [List.length_take]; omega)]
      simp [Nat.min_eq_left (show k ≤ cs.length by omega)]
    rw [h2]
    simp [Nat.add_assoc, Nat.add_comm 1]
theorem flatMap_set (hlen : ∀ x, (enc x).length = sz) (xs : List α) (k : Nat) (hk : k < xs.length) (y : α) : (xs.set k y).flatMap enc = (xs.flatMap enc).take (k * sz) ++ enc y ++ (xs.flatMap enc).drop (k * sz + sz) := by
  have h1 : xs.set k y = xs.take k ++ y :: xs.drop (k + 1) := by
    rw [List.set_eq_take_append_cons_drop, if_pos hk]
  have h2 : xs = xs.take k ++ xs[k] :: xs.drop (k + 1) := by rw [List.getElem_cons_drop, List.take_append_drop]
  have h3 : ((xs.take k).flatMap enc).length = k * sz := by rw [flat_len hlen, List.length_take, Nat.min_eq_left (by omega)]
  have h4 : xs.flatMap enc = (xs.take k).flatMap enc ++ (enc xs[k] ++ (xs.drop (k + 1)).flatMap enc) := by
    rw [← List.flatMap_cons, ← List.flatMap_append, ← h2]
  rw [h1, h4, ← h3]
  simp only [List.flatMap_append, List.flatMap_cons, List.take_left, List.append_assoc]
  congr 2
  rw [← hlen xs[k], ← List.append_assoc, ← List.length_append, List.drop_left]
/-- one element of a slice that is owned, set -/
theorem run_setown {w : World} {g c n : Nat} {xs : List α} {Γ : List HProp} (hlen : ∀ x, (enc x).length = sz) (hone : ∀ x, ∀ u ∈ enc x, u.oneCell' = true) (hs : Sat w (own E sz enc (.slice (some ⟨g, 0, none⟩) n c) xs :: Γ)) (k : Nat) (hk : k < xs.length) (y : α) :
    ∃ w', (storeCells ⟨g, k * sz, none⟩ (enc y)).run P w = .ok () w' ∧ Same w w' ∧ Sat w' (own E sz enc (.slice (some ⟨g, 0, none⟩) n c) (xs.set k y) :: Γ) := by
  obtain ⟨r, L, h1, h2, h3, h4, h5, h6⟩ := Sat.cons_iff.1 hs
  rcases h2 with ⟨h2, _⟩ | ⟨g', cap, cur, e, rfl, h7, h8, h9, h10⟩
  · cases h2
  · cases e
    have hpt : Sat w (pt g (.cells cur.toList.toArray E (0, 0)) :: Γ) := Sat.cons_iff.2 ⟨_, L, h1, rfl, h3, h4, h5, h6⟩
    have hle : xs.length * sz ≤ cur.toList.length := by rw [show cur.toList.length = cur.size from Array.length_toList, h9]; exact Nat.mul_le_mul_right _ h7
    have hks : k * sz + sz ≤ xs.length * sz := by rw [← Nat.succ_mul]; exact Nat.mul_le_mul_right _ hk
    obtain ⟨w', e1, e2, e3⟩ := run_storeCells_pt (P := P) (i := 0) (enc y) cur.toList (k * sz) w Γ hpt (by rw [hlen]; omega) (by simpa using hone y)
    refine ⟨w', e1, e2, e3.imp fun r _ hr => .inr ⟨g, c, _, by simp, hr, by simpa using h7, h8, ?_, ?_⟩⟩
    · simp [setc_length, h9]
    · rw [List.length_set, flatMap_set hlen _ _ hk, ← h10, Nat.add_zero]
      simp only [List.toList_toArray]
      rw [setc_eq _ _ _ (by rw [hlen]; omega), hlen]
      have hAB : (cur.toList.take (k * sz) ++ enc y).length = k * sz + sz := by rw [List.length_append, hlen, List.length_take]; omega
      rw [List.take_append, hAB, List.take_of_length_le (by rw [hAB]; exact hks), List.take_take, Nat.min_eq_left (show k * sz ≤ xs.length * sz by omega), List.drop_take]
variable {t : TypeId} {ops rest : List Oper} {Q : Exit → Act → World → Prop} {o : Oper} {a : Act} {w0 w : World} {Γ Γ' : List HProp} {bytes : Nat}
theorem wl_setown (T : SlT P t E sz bytes enc) {u : TypeId} {addr x : Operand} {g c n off : Nat} {xs : List α} {v : Value} (k : Nat) (y : α) (hs : On w0 w Γ) (ho : o.op = .store u addr x) (hw : Region.wanted o (yielded ops.toArray a.tmps) = true) (ha : a.eval addr = .pointer (some ⟨g, off, none⟩)) (hoff : off = k * sz)
    (hx : a.eval x = v) (hv : v.cells.toList = enc y) (hb : Take (own E sz enc (.slice (some ⟨g, 0, none⟩) n c) xs) Γ Γ') (hn : ∀ w, (sizeOf u).run P w = .ok v.cells.size w) (hk : k < xs.length)
    (next : ∀ w', On w0 w' (own E sz enc (.slice (some ⟨g, 0, none⟩) n c) (xs.set k y) :: Γ') → wpList P ops.toArray Q rest (a.put o.dst undef) w') : wpList P ops.toArray Q (o :: rest) a w := by
  subst hoff
  obtain ⟨w', h2, h3, h4⟩ := run_setown (P := P) T.hlen T.hone (hs.2.take hb) k hk y
  unfold wpList
  rw [if_pos hw]
  refine .inl ?_
  unfold Oper.wp
  have : (execOp a.eval o).run P w = .ok .skip w' := by
    have hp : (Instr.sureAddr (.pointer (some ⟨g, k * sz, none⟩))).run P w = .ok ⟨g, k * sz, none⟩ w := rfl
    unfold execOp; rw [ho]
    simp only [ha, hx, Instr.storeAt, hp, storeVar, Sem.run_bind, hn, Result.andThen_ok, ne_eq, not_true_eq_false, if_false, Sem.run_pure, hv, h2]
  rw [this]
  exact next w' ⟨hs.1.trans h3, h4⟩
/-- a slice that is owned, cut -/
theorem own_cut {g c n m : Nat} {xs : List α} (hlen : ∀ x, (enc x).length = sz) (hm : m ≤ xs.length) (hs : Sat w (own E sz enc (.slice (some ⟨g, 0, none⟩) n c) xs :: Γ)) : Sat w (own E sz enc (.slice (some ⟨g, 0, none⟩) m c) (xs.take m) :: Γ) := by
  refine hs.imp ?_
  rintro r _ (⟨h2, _⟩ | ⟨g', cap, cur, e, hr, h7, h8, h9, h10⟩)
  · cases h2
  · cases e
    have hl : (xs.take m).length = m := by simp; omega
    refine .inr ⟨g, c, cur, by rw [hl], hr, by omega, h8, h9, ?_⟩
    have h11 : xs.flatMap enc = (xs.take m).flatMap enc ++ (xs.drop m).flatMap enc := by rw [← List.flatMap_append, List.take_append_drop]
    have h12 : ((xs.take m).flatMap enc).length = m * sz := by rw [flat_len hlen, hl]
    rw [hl, ← List.take_left (l₁ := (xs.take m).flatMap enc) (l₂ := (xs.drop m).flatMap enc), h12, ← h11, ← h10, List.take_take, Nat.min_eq_left (Nat.mul_le_mul_right _ hm)]
theorem zeroCells_one {z : Value} (h : z.cells.toList.all (·.oneCell') = true) (q : Nat) : (Builtin.zeroCells z.cells q).toList.all (·.oneCell') = true := by
  rw [List.all_eq_true] at *
  intro x hx
  simp only [Builtin.zeroCells, Array.toList_map, List.mem_map, Array.mem_toList_iff, Array.mem_range] at hx
  obtain ⟨i, hi, rfl⟩ := hx
  have h0 : 0 < z.cells.size := by
    rcases Nat.eq_zero_or_pos z.cells.size with h | h
    · rw [h] at hi; simp at hi
    · exact h
  have h1 := Nat.mod_lt i h0
  rw [getElem!_pos z.cells _ h1]
  exact h _ (by simp)
/-- the tail of a slice that is owned, cleared: what is kept is the head -/
theorem run_clear_own {z : Value} {g c n m q : Nat} {p : Addr} {xs : List α} (ty : TypeId) (ht : P.underlying t = some (.slice E)) (hz : ∀ w, (zeroValue E).run P w = .ok z w) (hzs : z.cells.size = sz) (hz1 : z.cells.toList.all (·.oneCell') = true) (hlen : ∀ x, (enc x).length = sz) (hm : m ≤ xs.length) (hq : q = xs.length - m)
    (hp : m < xs.length → p = ⟨g, m * sz, none⟩) {c' : Nat} (hs : Sat w (own E sz enc (.slice (some ⟨g, 0, none⟩) n c) xs :: Γ)) :
    ∃ w', (Builtin.clear_ #[t] ty #[.slice (some p) q c']).run P w = .ok (.tuple #[]) w' ∧ Same w w' ∧ Sat w' (own E sz enc (.slice (some ⟨g, 0, none⟩) m c) (xs.take m) :: Γ) := by
  rcases Nat.lt_or_ge m xs.length with hlt | hge
  · obtain ⟨r, L, h1, h2, h3, h4, h5, h6⟩ := Sat.cons_iff.1 hs
    rcases h2 with ⟨h2, _⟩ | ⟨g', cap, cur, e, rfl, h7, h8, h9, h10⟩
    · cases h2
    · cases e
      obtain rfl := hp hlt
      have hpt : Sat w (pt g (.cells cur.toList.toArray E (0, 0)) :: Γ) := Sat.cons_iff.2 ⟨_, L, h1, rfl, h3, h4, h5, h6⟩
      have hle : xs.length * sz ≤ cur.toList.length := by rw [show cur.toList.length = cur.size from Array.length_toList, h9]; exact Nat.mul_le_mul_right _ h7
      have hzl : (Builtin.zeroCells z.cells q).toList.length = q * sz := by rw [Array.length_toList, size_zeroCells, hzs]
      have hsum : m * sz + q * sz = xs.length * sz := by rw [← Nat.add_mul]; congr 1; omega
      obtain ⟨w', e1, e2, e3⟩ := run_storeCells_pt (P := P) (i := 0) (Builtin.zeroCells z.cells q).toList cur.toList (m * sz) w Γ hpt (by rw [hzl]; omega) (zeroCells_one hz1 q)
      have hl : (xs.take m).length = m := by simp; omega
      refine ⟨w', ?_, e2, e3.imp fun r _ hr => .inr ⟨g, c, _, by rw [hl], hr, by omega, h8, ?_, ?_⟩⟩
      · obtain ⟨q', rfl⟩ : ∃ q', q = q' + 1 := ⟨q - 1, by omega⟩
        simp only [Builtin.clear_, List.getElem?_toArray, List.getElem?_cons_zero, Sem.run_bind, run_underlying ht, Result.andThen_ok, hz, e1, Sem.run_pure]
      · simp [setc_length, h9]
      · simp only [List.toList_toArray, Nat.add_zero]
        rw [hl, setc_eq _ _ _ (by rw [hzl]; omega), List.append_assoc, List.take_append, List.take_take, Nat.min_self, List.length_take, Nat.min_eq_left (by omega), Nat.sub_self, List.take_zero, List.append_nil]
        have h11 : xs.flatMap enc = (xs.take m).flatMap enc ++ (xs.drop m).flatMap enc := by rw [← List.flatMap_append, List.take_append_drop]
        have h12 : ((xs.take m).flatMap enc).length = m * sz := by rw [flat_len hlen, hl]
        rw [← List.take_left (l₁ := (xs.take m).flatMap enc) (l₂ := (xs.drop m).flatMap enc), h12, ← h11, ← h10, List.take_take, Nat.min_eq_left (Nat.mul_le_mul_right _ hm)]
  · obtain rfl : q = 0 := by omega
    refine ⟨w, ?_, Same.refl w, own_cut hlen hm hs⟩
    simp [Builtin.clear_, run_underlying ht]
def Op.isClear : Op → Bool
  | .call { callee := .builtin .clear, .. } => true
  | _ => false
theorem wl_isclear (h : Op.isClear o.op = true) (next : wpList P ops.toArray Q (o :: rest) a w) : wpList P ops.toArray Q (o :: rest) a w := next
theorem wl_clear (T : SlT P t E sz bytes enc) {z : Value} (hz : ∀ w, (zeroValue E).run P w = .ok z w) (hzs : z.cells.size = sz) (hz1 : z.cells.toList.all (·.oneCell') = true) {x : Operand} {g c n m q off c' : Nat} {xs : List α} (hs : On w0 w Γ)
    (ho : o.op = Op.call { callee := Callee.builtin Builtin.clear, args := #[x], argTypes := #[t] }) (hw : Region.wanted o (yielded ops.toArray a.tmps) = true) (ha : a.eval x = .slice (some ⟨g, off, none⟩) q c') (hb : Take (own E sz enc (.slice (some ⟨g, 0, none⟩) n c) xs) Γ Γ')
    (hm : m ≤ xs.length) (hq : q = xs.length - m) (hoff : m < xs.length → off = m * sz)
    (next : ∀ w', On w0 w' (own E sz enc (.slice (some ⟨g, 0, none⟩) m c) (xs.take m) :: Γ') → wpList P ops.toArray Q rest (a.put o.dst (.tuple #[])) w') : wpList P ops.toArray Q (o :: rest) a w := by
  obtain ⟨w', h2, h3, h4⟩ := run_clear_own (P := P) (c' := c') (p := ⟨g, off, none⟩) o.type T.ht hz hzs hz1 T.hlen hm hq (fun h => by rw [hoff h]) (hs.2.take hb)
  unfold wpList
  rw [if_pos hw]
  refine .inl ?_
  unfold Oper.wp
  have : (execOp a.eval o).run P w = .ok (.value (.tuple #[])) w' := by
    unfold execOp; simp only [ho, resolve, invoke, builtin, Sem.run_bind, Sem.run_pure, Result.andThen_ok, List.map_toArray, List.map_cons, List.map_nil, ha, h2]
  rw [this]
  exact next w' ⟨hs.1.trans h3, h4⟩
end
section
variable {K V : Type} {ek : K → Value} {ev : V → Value} {P : Program} {kt et t : TypeId} {ops rest : List Oper} {Q : Exit → Act → World → Prop} {o : Oper} {a : Act} {w0 w : World} {Γ Γ' : List HProp}
theorem wl_delete [DecidableEq K] {z : Value} (T : MapT P t kt et ek z) {m x : Operand} {b : Nat} {F : K → Option V} (k : K) (hs : On w0 w Γ) (ho : o.op = Op.call { callee := Callee.builtin Builtin.delete, args := #[m, x], argTypes := #[t, kt] }) (hw : Region.wanted o (yielded ops.toArray a.tmps) = true) (hm : a.eval m = .map (some b)) (hx : a.eval x = ek k)
    (ht : Take (hmap b ek ev F) Γ Γ') (next : ∀ w', On w0 w' (hmap b ek ev (delF F k) :: Γ') → wpList P ops.toArray Q rest (a.put o.dst (.tuple #[])) w') : wpList P ops.toArray Q (o :: rest) a w := by
  unfold wpList
  rw [if_pos hw]
  refine .inl ((does_delete (F := F) T k ho hm hx w Γ' (hs.2.take ht)).wp fun v w' ⟨h3, h4⟩ => ?_)
  obtain ⟨rfl, h5⟩ := Sat.pur_iff.1 (Sat.pack_iff.1 h4)
  exact next w' ⟨hs.1.trans h3, h5⟩
end
/-! ### New blocks, and stores to them, as steps -/
/-- what the pointer v points to -/
def ptv (v : Value) (o : Obj) : HProp := match v with
  | .pointer (some ⟨b, 0, none⟩) => pt b o
  | _ => fun _ => False
def Says.new (ob : Obj) : Says := ⟨fun _ v => ∃ b, v = .pointer (some ⟨b, 0, Option.none⟩), fun _ v => ptv v ob⟩
def Says.storeV (k : Nat) (cs : List Value) (T : TypeId) : Says := ⟨fun _ u => u = undef, fun vs _ => ptv (vs.getD 0 undef) (.cells (setc cs k (vs.getD 1 undef).cells.toList).toArray T (0, 0))⟩
section
variable {P : Program} {n0 : Nat} {D : Nat → Says} {l : List Oper} {K : List HProp → Act → Prop} {r : List PStep} {i : Nat} {use : List Nat} {Γ : List HProp} {a : Act} {o : Oper}
theorem par_new {ob : Obj} (ho : nthO l i = some o) (hw : Region.wanted o (yielded l.toArray a.tmps) = true) (hD : D i = Says.new ob) (hr : ∀ w : World, (execOp a.eval o).run P w = .ok (.value (.pointer (some ⟨w.heap.size, 0, none⟩))) (w.alloc ob)) (hu : sel use Γ = [])
    (h : ∀ b, par P l.toArray n0 D K r (after (n0 + i) use (pt b ob) Γ) (a.put o.dst (.pointer (some ⟨b, 0, none⟩)))) : par P l.toArray n0 D K (⟨1, i, use⟩ :: r) Γ a :=
  par_e ho hw hD (by rw [hu]; exact does_new (fun b => .pointer (some ⟨b, 0, none⟩)) hr (fun b w F hs => Sat.pack_iff.2 (Sat.pur_iff.2 ⟨⟨b, rfl⟩, hs⟩))) (by rintro v ⟨b, rfl⟩; exact h b)
theorem par_storeV {t : TypeId} {addr x : Operand} {b k : Nat} {cs cs' : List Value} {T : TypeId} {v : Value} (ho : nthO l i = some o)
    (hw : Region.wanted o (yielded l.toArray a.tmps) = true) (hop : o.op = .store t addr x) (hD : D i = Says.storeV k cs T) (hk0 : k = 0) (ha : a.eval addr = .pointer (some ⟨b, k, none⟩)) (hx : a.eval x = v) (hu : sel use Γ = [pt b (.cells cs.toArray T (0, 0))])
    (hn : ∀ w, (sizeOf t).run P w = .ok v.cells.size w) (hk : decide (k + v.cells.toList.length ≤ cs.length) = true) (h1 : v.cells.toList.all (·.oneCell') = true) (hc : setc cs k v.cells.toList = cs')
    (h : par P l.toArray n0 D K r (after (n0 + i) use (pt b (.cells cs'.toArray T (0, 0))) Γ) (a.put o.dst undef)) : par P l.toArray n0 D K (⟨1, i, use⟩ :: r) Γ a := by
  subst hk0
  have hv0 : (vals o a).getD 0 undef = .pointer (some ⟨b, 0, none⟩) := by
    unfold vals
    rw [hop]
    exact ha
  have hv : (vals o a).getD 1 undef = v := by
    unfold vals
    rw [hop]
    exact hx
  refine ⟨o, (nthO_eq l i).trans ho, .inr (.inl ⟨rfl, hw, ?_⟩)⟩
  have hD' : D (PStep.mk 1 i use).i = Says.storeV 0 cs T := hD
  simp only [hD', Says.storeV, hv0, hv, hc, hu]
  refine ⟨does_store hop ha hx hn hk h1 hc, ?_⟩
  rintro u rfl
  exact h
end
end Go.Proofs.Ytediappljpkblaa
