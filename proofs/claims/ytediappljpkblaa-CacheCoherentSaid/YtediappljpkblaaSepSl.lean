/- Separation: slices. 'sl sz enc v xs': the slice v reads as xs, in blocks that nobody writes any more; 'own E sz enc v xs': the slice v reads as xs, its block is the owner's. No program in sight. -/
import Derived.Test.YtediappljpkblaaSepPar
namespace Go.Proofs.Ytediappljpkblaa
set_option linter.unusedSimpArgs false
set_option linter.unusedVariables false
open Go.RowKit
section
variable {α : Type} {sz : Nat} {enc : α → List Value}
/-- the slice v reads as xs in w -/
def Rd (w : World) (sz : Nat) (enc : α → List Value) (v : Value) (xs : List α) : Prop :=
  ∃ A c, v = .slice A xs.length c ∧ (A = none → xs = []) ∧ xs.length ≤ 9223372036854775807 ∧
    ∀ k (hk : k < xs.length) j u, (enc xs[k])[j]? = some u → ∃ b off, A = some ⟨b, off, none⟩ ∧ w.cell? ⟨b, off + k * sz + j, none⟩ = some u
def sl (sz : Nat) (enc : α → List Value) (v : Value) (xs : List α) : HProp := fun r => (∀ i o, r i ≠ some (false, o)) ∧
  ∃ A c, v = .slice A xs.length c ∧ (A = none → xs = []) ∧ xs.length ≤ 9223372036854775807 ∧
    ∀ k (hk : k < xs.length) j u, (enc xs[k])[j]? = some u → ∃ b off cs T fr, A = some ⟨b, off, none⟩ ∧ r b = some (true, .cells cs T fr) ∧ cs[off + k * sz + j]? = some u
def own (E : TypeId) (sz : Nat) (enc : α → List Value) (v : Value) (xs : List α) : HProp := fun r =>
  (v = .slice none 0 0 ∧ xs = []) ∨ ∃ g cap cur, v = .slice (some ⟨g, 0, none⟩) xs.length cap ∧ r = Res.one g false (.cells cur E (0, 0)) ∧ xs.length ≤ cap ∧ cap ≤ maxLen ∧ cur.size = cap * sz ∧ cur.toList.take (xs.length * sz) = xs.flatMap enc
/-- S is enough to read the slice v as xs -/
def Reads (S : HProp) (sz : Nat) (enc : α → List Value) (v : Value) (xs : List α) : Prop := ∀ w r, S r → r.fits w → Rd w sz enc v xs

theorem flat_len (hlen : ∀ x, (enc x).length = sz) (xs : List α) : (xs.flatMap enc).length = xs.length * sz := by
  induction xs with
  | nil => simp
  | cons x xs ih => rw [List.flatMap_cons, List.length_append, ih, hlen, List.length_cons, Nat.succ_mul, Nat.add_comm]
theorem flat_at (hlen : ∀ x, (enc x).length = sz) : ∀ (xs : List α) (k : Nat) (hk : k < xs.length) (j : Nat) (u : Value), (enc xs[k])[j]? = some u → (xs.flatMap enc)[k * sz + j]? = some u
  | x :: xs, 0, hk, j, u, hu => by
    simp only [List.getElem_cons_zero] at hu
    have hj := (List.getElem?_eq_some_iff.1 hu).1
    rw [List.flatMap_cons, Nat.zero_mul, Nat.zero_add, List.getElem?_append_left hj]
    exact hu
  | x :: xs, k + 1, hk, j, u, hu => by
    simp only [List.getElem_cons_succ] at hu
    have := flat_at hlen xs k (by simpa using hk) j u hu
    rw [List.flatMap_cons, List.getElem?_append_right (by rw [hlen, Nat.succ_mul]; omega), hlen, Nat.succ_mul, show k * sz + sz + j - sz = k * sz + j by omega]
    exact this
theorem flat_get (hlen : ∀ x, (enc x).length = sz) (hs : 0 < sz) : ∀ (xs : List α) (m : Nat) (u : Value), (xs.flatMap enc)[m]? = some u → ∃ k, ∃ hk : k < xs.length, (enc xs[k])[m - k * sz]? = some u ∧ k * sz ≤ m
  | [], m, u, h => by simp at h
  | x :: xs, m, u, h => by
    rw [List.flatMap_cons] at h
    by_cases hm : m < sz
    · rw [List.getElem?_append_left (by rw [hlen]; exact hm)] at h
      exact ⟨0, by simp, by simpa using h, by simp⟩
    · rw [List.getElem?_append_right (by rw [hlen]; omega), hlen] at h
      obtain ⟨k, hk, h1, h2⟩ := flat_get hlen hs xs (m - sz) u h
      refine ⟨k + 1, by simpa using hk, ?_, by rw [Nat.succ_mul]; omega⟩
      simp only [List.getElem_cons_succ]
      rw [show m - (k + 1) * sz = m - sz - k * sz by rw [Nat.succ_mul]; omega]
      exact h1
theorem Dup.sl (v : Value) (xs : List α) : Dup (sl sz enc v xs) := fun _ h => h.1
theorem sl_reads (v : Value) (xs : List α) : Reads (sl sz enc v xs) sz enc v xs := by
  rintro w r ⟨_, A, c, rfl, h1, h2, h3⟩ hf
  refine ⟨A, c, rfl, h1, h2, fun k hk j u hu => ?_⟩
  obtain ⟨b, off, cs, T, fr, h4, h5, h6⟩ := h3 k hk j u hu
  exact ⟨b, off, h4, (cell_of_heap (hf b _ _ h5) _).trans h6⟩
theorem own_at {g cap : Nat} {cur : Array Value} {xs : List α} (hlen : ∀ x, (enc x).length = sz) (h : cur.toList.take (xs.length * sz) = xs.flatMap enc) (k : Nat) (hk : k < xs.length) (j : Nat) (u : Value) (hu : (enc xs[k])[j]? = some u) : cur[0 + k * sz + j]? = some u := by
  have h1 := flat_at hlen xs k hk j u hu
  rw [← h, List.getElem?_take] at h1
  split at h1
  · rw [Nat.zero_add, ← Array.getElem?_toList]; exact h1
  · cases h1
theorem own_reads (E : TypeId) (hlen : ∀ x, (enc x).length = sz) (v : Value) (xs : List α) : Reads (own E sz enc v xs) sz enc v xs := by
  rintro w r (⟨rfl, rfl⟩ | ⟨g, cap, cur, rfl, rfl, h1, h2, h3, h4⟩) hf
  · exact ⟨none, 0, rfl, fun _ => rfl, by simp, fun k hk => by simp at hk⟩
  · exact ⟨_, cap, rfl, (fun h => by cases h), by unfold maxLen at h2; omega, fun k hk j u hu => ⟨g, 0, rfl, (cell_of_heap (hf g _ _ Res.one_at) _).trans (own_at (g := g) (cap := cap) hlen h4 k hk j u hu)⟩⟩
/-- what is owned may be shared -/
theorem own_share {w : World} {E : TypeId} {Γ : List HProp} (hlen : ∀ x, (enc x).length = sz) {v : Value} {xs : List α} (hs : Sat w (own E sz enc v xs :: Γ)) : Sat w (sl sz enc v xs :: Γ) := by
  obtain ⟨r, L, h1, h2, h3, h4, h5, h6⟩ := Sat.cons_iff.1 hs
  rcases h2 with ⟨rfl, rfl⟩ | ⟨g, cap, cur, rfl, rfl, h7, h8, h9, h10⟩
  · exact (Sat.emp_iff.2 hs.tail).perm (.refl _) |> fun h => by
      obtain ⟨L, e1, e2, e3⟩ := h.tail
      exact Sat.cons_iff.2 ⟨fun _ => none, L, e1, ⟨by simp, none, 0, rfl, fun _ => rfl, by simp, fun k hk => by simp at hk⟩, (fun i p o h => by cases h), e2, e3, fun x _ i => ⟨(fun o h => by cases h), fun _ _ => rfl⟩⟩
  · have hsh : Sat w (ro g (.cells cur E (0, 0)) :: Γ) := Sat.share (Sat.cons_iff.2 ⟨_, L, h1, rfl, h3, h4, h5, h6⟩)
    refine hsh.imp ?_
    rintro r _ rfl
    refine ⟨Dup.ro g _ _ rfl, _, cap, rfl, (fun h => by cases h), by unfold maxLen at h8; omega, fun k hk j u hu => ⟨g, 0, cur, E, (0, 0), rfl, Res.one_at, own_at (g := g) (cap := cap) hlen h10 k hk j u hu⟩⟩
theorem On.own_share {w0 w : World} {E : TypeId} {Γ : List HProp} (hlen : ∀ x, (enc x).length = sz) {v : Value} {xs : List α} (hs : On w0 w (own E sz enc v xs :: Γ)) : On w0 w (sl sz enc v xs :: Γ) := ⟨hs.1, Go.Proofs.Ytediappljpkblaa.own_share hlen hs.2⟩
theorem sl_nil {w : World} {Γ : List HProp} (hs : Sat w Γ) : Sat w (sl sz enc (.slice none 0 0) ([] : List α) :: Γ) := by
  obtain ⟨L, e1, e2, e3⟩ := hs
  exact Sat.cons_iff.2 ⟨fun _ => none, L, e1, ⟨by simp, none, 0, rfl, fun _ => rfl, by simp, fun k hk => by simp at hk⟩, (fun i p o h => by cases h), e2, e3, fun x _ i => ⟨(fun o h => by cases h), fun _ _ => rfl⟩⟩
theorem own_nil {w : World} {E : TypeId} {Γ : List HProp} (hs : Sat w Γ) : Sat w (own E sz enc (.slice none 0 0) ([] : List α) :: Γ) :=
  (Sat.emp_iff.2 hs).imp fun _ _ _ => .inl ⟨rfl, rfl⟩
theorem own_pt {w : World} {E : TypeId} {Γ : List HProp} {g n : Nat} {cs : Array Value} {xs : List α} (hs : Sat w (pt g (.cells cs E (0, 0)) :: Γ)) (hn : xs.length = n) (hm : decide (n ≤ maxLen) = true) (hc : cs.toList = xs.flatMap enc) (hlen : ∀ x, (enc x).length = sz) : Sat w (own E sz enc (.slice (some ⟨g, 0, none⟩) n n) xs :: Γ) :=
  hs.imp fun r _ h => by
    subst hn
    have h1 : cs.size = xs.length * sz := by rw [← Array.length_toList, hc, flat_len hlen]
    exact .inr ⟨g, xs.length, cs, rfl, h, Nat.le_refl _, of_decide_eq_true hm, h1, by rw [← h1, ← Array.length_toList, List.take_length, hc]⟩
theorem On.own_pt {w0 w : World} {E : TypeId} {Γ : List HProp} {g n : Nat} {cs : Array Value} {xs : List α} (hs : On w0 w (pt g (.cells cs E (0, 0)) :: Γ)) (hn : xs.length = n) (hm : decide (n ≤ maxLen) = true) (hc : cs.toList = xs.flatMap enc) (hlen : ∀ x, (enc x).length = sz) : On w0 w (own E sz enc (.slice (some ⟨g, 0, none⟩) n n) xs :: Γ) :=
  ⟨hs.1, Go.Proofs.Ytediappljpkblaa.own_pt hs.2 hn hm hc hlen⟩
/-- the shape of a slice that is read -/
theorem Sat.shape {w : World} {Γ : List HProp} {S : HProp} {v : Value} {xs : List α} (hS : Reads S sz enc v xs) (hs : Sat w (S :: Γ)) : Rd w sz enc v xs := by
  obtain ⟨r, L, h1, h2, h3, _⟩ := Sat.cons_iff.1 hs
  exact hS w r h2 h3

/-- an element of a slice that is read -/
theorem Rd.at {w : World} {A : Option Addr} {n c : Nat} {xs : List α} (h : Rd w sz enc (.slice A n c) xs) (k : Nat) (hk : k < xs.length) (h0 : 0 < (enc xs[k]).length) :
    ∃ b off, A = some ⟨b, off, none⟩ ∧ ∀ j u, (enc xs[k])[j]? = some u → w.cell? ⟨b, off + k * sz + j, none⟩ = some u := by
  obtain ⟨A', c', e, _, _, h⟩ := h
  cases e
  obtain ⟨b, off, rfl, _⟩ := h k hk 0 _ (List.getElem?_eq_getElem h0)
  refine ⟨b, off, rfl, fun j u hu => ?_⟩
  obtain ⟨b', off', e, hc⟩ := h k hk j u hu
  cases e
  exact hc
theorem On.rd {w0 w : World} {Γ Γ' : List HProp} {S : HProp} {v : Value} {xs : List α} (hs : On w0 w Γ) (hS : Reads S sz enc v xs) (ht : Take S Γ Γ') : Rd w sz enc v xs := (hs.2.take ht).shape hS

theorem own_shape {w : World} {E : TypeId} {Γ Γ' : List HProp} {v : Value} {xs : List α} (hs : Sat w Γ) (ht : Take (own E sz enc v xs) Γ Γ') : ∃ A c, v = .slice A xs.length c := by
  obtain ⟨r, L, h1, h2, h3, _⟩ := Sat.cons_iff.1 (hs.take ht)
  rcases h2 with ⟨rfl, rfl⟩ | ⟨g, cap, cur, rfl, _⟩
  · exact ⟨_, _, rfl⟩
  · exact ⟨_, _, rfl⟩
theorem sl_shape {w : World} {Γ Γ' : List HProp} {v : Value} {xs : List α} (hs : Sat w Γ) (ht : Take (sl sz enc v xs) Γ Γ') : ∃ A c, v = .slice A xs.length c ∧ xs.length ≤ 9223372036854775807 := by
  obtain ⟨A, c, h1, _, h2, _⟩ := (hs.take ht).shape (sl_reads v xs)
  exact ⟨A, c, h1, h2⟩

theorem own_shape' {w : World} {E : TypeId} {Γ Γ' : List HProp} {v : Value} {xs : List α} (hs : Sat w Γ) (ht : Take (own E sz enc v xs) Γ Γ') (hne : xs ≠ []) : ∃ g c, v = .slice (some ⟨g, 0, none⟩) xs.length c ∧ xs.length ≤ c ∧ c ≤ maxLen := by
  obtain ⟨r, L, h1, h2, h3, _⟩ := Sat.cons_iff.1 (hs.take ht)
  rcases h2 with ⟨_, h2⟩ | ⟨g, cap, cur, rfl, _, h4, h5, _⟩
  · exact absurd h2 hne
  · exact ⟨g, cap, rfl, h4, h5⟩
/-- a part of a slice that is read -/
theorem Reads.part {S : HProp} {b off n c : Nat} {xs : List α} (hS : Reads S sz enc (.slice (some ⟨b, off, none⟩) n c) xs) (hpos : ∀ x, 0 < (enc x).length) (lo hi : Nat) (hh : hi ≤ xs.length) (hl : lo ≤ hi) {A : Option Addr} {c' m : Nat} (hm : m = hi - lo) (hA : lo < hi → A = some ⟨b, off + lo * sz, none⟩) : Reads S sz enc (.slice A m c') ((xs.take hi).drop lo) := by
  intro w r h1 h2
  have h := hS w r h1 h2
  obtain ⟨A0, c0, e0, _, hlen, hrd⟩ := h
  cases e0
  have hlen2 : ((xs.take hi).drop lo).length = hi - lo := by simp; omega
  refine ⟨A, c', by rw [hlen2, hm], fun h => List.eq_nil_of_length_eq_zero (by
    rw [hlen2]
    by_cases hlt : lo < hi
    · rw [hA hlt] at h; cases h
    · omega), by omega, fun k hk j u hu => ?_⟩
  have hk2 : lo + k < xs.length := by omega
  have hx : ((xs.take hi).drop lo)[k] = xs[lo + k] := by simp [List.getElem_drop, List.getElem_take]
  rw [hx] at hu
  obtain ⟨b', off', e, hcell⟩ := hrd (lo + k) hk2 j u hu
  cases e
  refine ⟨b, off + lo * sz, hA (by omega), ?_⟩
  rw [← hcell]; congr 2
  rw [Nat.add_mul]; omega
theorem Reads.take {S : HProp} {b off n c : Nat} {xs : List α} (hS : Reads S sz enc (.slice (some ⟨b, off, none⟩) n c) xs) (hpos : ∀ x, 0 < (enc x).length) (k : Nat) (hk : k ≤ xs.length) {b' off' m c' : Nat} (hm : m = k) (hb : b' = b) (ho : off' = off) : Reads S sz enc (.slice (some ⟨b', off', none⟩) m c') (xs.take k) := by
  subst hm hb ho
  have := hS.part hpos 0 m hk (Nat.zero_le _) (A := some ⟨b', off', none⟩) (c' := c') (m := m) (by omega) (fun _ => by simp)
  simpa using this
theorem Reads.drop {S : HProp} {b off n c : Nat} {xs : List α} (hS : Reads S sz enc (.slice (some ⟨b, off, none⟩) n c) xs) (hpos : ∀ x, 0 < (enc x).length) (k : Nat) (hk : k ≤ xs.length) {b' off' m c' : Nat} (hm : m = xs.length - k) (hb : b' = b) (ho : k < xs.length → off' = off + k * sz) : Reads S sz enc (.slice (some ⟨b', off', none⟩) m c') (xs.drop k) := by
  subst hb
  have := hS.part hpos k xs.length (Nat.le_refl _) hk (A := some ⟨b', off', none⟩) (c' := c') (m := m) hm (fun h => by rw [ho h])
  simpa using this
/-- S is enough to know a cell; a row of cells -/
def CellIn (S : HProp) (p : Addr) (v : Value) : Prop := ∀ w r, S r → r.fits w → w.cell? p = some v
def RowIn (S : HProp) (b k : Nat) (vs : List Value) : Prop := ∀ w r, S r → r.fits w → ∀ j u, vs[j]? = some u → w.cell? ⟨b, k + j, none⟩ = some u
theorem RowIn.cell {S : HProp} {b k : Nat} {vs : List Value} (h : RowIn S b k vs) (j : Nat) {u : Value} (hu : vs[j]? = some u) : CellIn S ⟨b, k + j, none⟩ u := fun w r hS hf => h w r hS hf j u hu
theorem RowIn.cell0 {S : HProp} {b k : Nat} {vs : List Value} (h : RowIn S b k vs) {u : Value} (hu : vs[0]? = some u) : CellIn S ⟨b, k, none⟩ u := h.cell 0 hu
theorem Reads.row {S : HProp} {A : Option Addr} {n c : Nat} {xs : List α} (hS : Reads S sz enc (.slice A n c) xs) {w : World} {Γ Γ' : List HProp} (hs : Sat w Γ) (ht : Take S Γ Γ') (k : Nat) (hk : k < xs.length) (h0 : 0 < (enc xs[k]).length) :
    ∃ b off, A = some ⟨b, off, none⟩ ∧ RowIn S b (off + k * sz) (enc xs[k]) := by
  obtain ⟨b, off, rfl, _⟩ := ((hs.take ht).shape hS).at k hk h0
  refine ⟨b, off, rfl, fun w' r' h1 h2 j u hu => ?_⟩
  obtain ⟨b', off', e, h3⟩ := (hS w' r' h1 h2).at k hk h0
  cases e
  exact h3 j u hu
theorem CellIn.at {S : HProp} {p : Addr} {v : Value} (h : CellIn S p v) {w : World} {Γ Γ' : List HProp} (hs : Sat w Γ) (ht : Take S Γ Γ') : w.cell? p = some v := by
  obtain ⟨r, _, _, h2, h3, _⟩ := Sat.cons_iff.1 (hs.take ht)
  exact h w r h2 h3
theorem RowIn.at {S : HProp} {b k : Nat} {vs : List Value} (h : RowIn S b k vs) {w : World} {Γ Γ' : List HProp} (hs : Sat w Γ) (ht : Take S Γ Γ') : ∀ j u, vs[j]? = some u → w.cell? ⟨b, k + j, none⟩ = some u := by
  obtain ⟨r, _, _, h2, h3, _⟩ := Sat.cons_iff.1 (hs.take ht)
  exact h w r h2 h3
section
variable {P : Program} {ops rest : List Oper} {Q : Exit → Act → World → Prop} {o : Oper} {a : Act} {w0 w : World} {Γ Γ' : List HProp} {S : HProp}
theorem run_loadC {t : TypeId} {p : Addr} {v : Value} (hc : w.cell? p = some v) (hi : (isAgg t).run P w = .ok false w) : (Instr.loadAt t (.pointer (some p))).run P w = .ok v w := by
  have hp : (Instr.sureAddr (.pointer (some p))).run P w = .ok p w := rfl
  simp [Instr.loadAt, loadVar, hp, hi, hc]
theorem run_loadR {t : TypeId} {b k : Nat} {vs : List Value} (hc : ∀ j u, vs[j]? = some u → w.cell? ⟨b, k + j, none⟩ = some u) (hi : (isAgg t).run P w = .ok true w) (hn : (sizeOf t).run P w = .ok vs.length w) :
    (Instr.loadAt t (.pointer (some ⟨b, k, none⟩))).run P w = .ok (.agg vs.toArray) w := by
  have hp : (Instr.sureAddr (.pointer (some ⟨b, k, none⟩))).run P w = .ok ⟨b, k, none⟩ w := rfl
  have h := run_loadCells_list (P := P) w ⟨b, k, none⟩ vs (fun j v hj => by
    have : (Addr.add ⟨b, k, none⟩ j) = ⟨b, k + j, none⟩ := by unfold Addr.add; split <;> simp_all
    rw [this]; exact hc j v hj)
  simp only [Instr.loadAt, loadVar, Sem.run_bind, hp, Result.andThen_ok, hi, if_true, hn, h, Sem.run_pure]
theorem wl_loadC {t : TypeId} {addr : Operand} {p : Addr} {v : Value} (hs : On w0 w Γ) (ho : o.op = .load t addr) (hw : Region.wanted o (yielded ops.toArray a.tmps) = true) (ha : a.eval addr = .pointer (some p))
    (hc : CellIn S p v) (ht : Take S Γ Γ') (hi : ∀ w, (isAgg t).run P w = .ok false w) (next : wpList P ops.toArray Q rest (a.put o.dst v) w) : wpList P ops.toArray Q (o :: rest) a w :=
  wl_value hw (exec_load ho ha (run_loadC (hc.at hs.2 ht) (hi w))) next
theorem wl_loadR {t : TypeId} {addr : Operand} {b k : Nat} {vs : List Value} (hs : On w0 w Γ) (ho : o.op = .load t addr) (hw : Region.wanted o (yielded ops.toArray a.tmps) = true) (ha : a.eval addr = .pointer (some ⟨b, k, none⟩))
    (hc : RowIn S b k vs) (ht : Take S Γ Γ') (hi : ∀ w, (isAgg t).run P w = .ok true w) (hn : ∀ w, (sizeOf t).run P w = .ok vs.length w) (next : wpList P ops.toArray Q rest (a.put o.dst (.agg vs.toArray)) w) : wpList P ops.toArray Q (o :: rest) a w :=
  wl_value hw (exec_load ho ha (run_loadR (hc.at hs.2 ht) (hi w) (hn w))) next
variable {n0 i : Nat} {D : Nat → Says} {l : List Oper} {K : List HProp → Act → Prop} {r : List PStep} {use : List Nat}
theorem par_loadS {t : TypeId} {addr : Operand} {p : Addr} {v : Value} (ho : nthO l i = some o) (hw : Region.wanted o (yielded l.toArray a.tmps) = true) (hop : o.op = .load t addr) (ha : a.eval addr = .pointer (some p))
    (hc : CellIn S p v) (hu : sel use Γ = [S]) (hi : ∀ w, (isAgg t).run P w = .ok false w) (h : par P l.toArray n0 D K r Γ (a.put o.dst v)) : par P l.toArray n0 D K (⟨0, i, use⟩ :: r) Γ a :=
  par_q ho hw ⟨v, fun w hs => exec_load hop ha (run_loadC (hc.at hs (hu ▸ Take.head _ _)) (hi w)), h⟩
theorem par_loadR {t : TypeId} {addr : Operand} {b k : Nat} {vs : List Value} (ho : nthO l i = some o) (hw : Region.wanted o (yielded l.toArray a.tmps) = true) (hop : o.op = .load t addr) (ha : a.eval addr = .pointer (some ⟨b, k, none⟩))
    (hc : RowIn S b k vs) (hu : sel use Γ = [S]) (hi : ∀ w, (isAgg t).run P w = .ok true w) (hn : ∀ w, (sizeOf t).run P w = .ok vs.length w) (h : par P l.toArray n0 D K r Γ (a.put o.dst (.agg vs.toArray))) : par P l.toArray n0 D K (⟨0, i, use⟩ :: r) Γ a :=
  par_q ho hw ⟨.agg vs.toArray, fun w hs => exec_load hop ha (run_loadR (hc.at hs (hu ▸ Take.head _ _)) (hi w) (hn w)), h⟩
end

/-! ### append -/
section
variable {P : Program} {E t : TypeId} {i : TypeInfo} {z : Value} {bytes : Nat}
theorem run_append_sep (ty : TypeId) (ht : P.underlying t = some (.slice E)) (hi : P.info? E = some i) (hz : i.zero = some z) (hsize : i.size = sz) (hby : i.bytes = bytes) (hzs : z.cells.size = sz) (hsz : 0 < sz)
    (hlen : ∀ x, (enc x).length = sz) (hone : ∀ x, ∀ u ∈ enc x, u.oneCell' = true) {w : World} {v src : Value} {xs ys : List α} {S : HProp} (hS : Reads S sz enc src ys) {F : List HProp} (hs : Sat w (own E sz enc v xs :: S :: F))
    (h63 : xs.length + ys.length ≤ 9223372036854775807) (hb : (xs.length + ys.length) * bytes ≤ 140737488355328) :
    ∃ v' w', (Builtin.append_ #[t, t] ty #[v, src]).run P w = .ok v' w' ∧ Same w w' ∧ Sat w' (own E sz enc v' (xs ++ ys) :: S :: F) := by
  obtain ⟨A, c, rfl, hA, hl, hrd⟩ := (hs.tail).shape hS
  have flen := flat_len hlen xs
  have glen := flat_len hlen ys
  have hnews : ∀ a, A = some a → ∀ j u, (ys.flatMap enc)[j]? = some u → w.cell? (a.add j) = some u := by
    rintro a rfl j u hu
    obtain ⟨k, hk, h1, h2⟩ := flat_get hlen hsz ys j u hu
    obtain ⟨b, off, e, hc⟩ := hrd k hk _ u h1
    cases e
    rw [← hc]; congr 1
    unfold Addr.add; split
    · rename_i e; subst e; simp; try omega
    · simp; try omega
  have hone' : ∀ u ∈ ys.flatMap enc, u.oneCell' = true := by
    intro u hu
    obtain ⟨x, _, hx⟩ := List.mem_flatMap.1 hu
    exact hone x u hx
  have hlen2 : (xs ++ ys).length = xs.length + ys.length := by simp
  have hfl2 : (xs ++ ys).flatMap enc = xs.flatMap enc ++ ys.flatMap enc := by simp
  have hm63 : xs.length + ys.length ≤ maxLen := by unfold maxLen; omega
  -- a new block
  have grown : ∀ old, old ≤ maxLen → Sat (w.drew.alloc (.cells ((xs.flatMap enc).toArray ++ (ys.flatMap enc).toArray ++ Builtin.zeroCells z.cells (grownCap w (xs.length + ys.length) old E - (xs.length + ys.length))) E))
      (own E sz enc (.slice (some ⟨w.heap.size, 0, none⟩) (xs.length + ys.length) (grownCap w (xs.length + ys.length) old E)) (xs ++ ys) :: S :: F) := by
    intro old _
    have hge := grownCap_ge w (xs.length + ys.length) old E
    have hcm := grownCap_le_maxLen w (xs.length + ys.length) old E hm63
    have h1 := (hs.tail.drew).alloc (.cells ((xs.flatMap enc).toArray ++ (ys.flatMap enc).toArray ++ Builtin.zeroCells z.cells (grownCap w (xs.length + ys.length) old E - (xs.length + ys.length))) E)
    refine h1.imp fun r _ hr => .inr ⟨w.heap.size, _, _, by rw [hlen2], hr, by rw [hlen2]; exact hge, hcm, ?_, ?_⟩
    · simp only [Array.size_append, List.size_toArray, size_zeroCells, hzs, flen, glen, ← Nat.add_mul]
      congr 1
      omega
    · simp only [Array.toList_append, List.append_assoc]
      rw [← List.append_assoc, hlen2, Nat.add_mul, ← flen, ← glen, ← List.length_append, hfl2]
      exact List.take_left
  obtain ⟨r, L, h1, h2, h3, h4, h5, h6⟩ := Sat.cons_iff.1 hs
  rcases h2 with ⟨rfl, rfl⟩ | ⟨g, cap, cur, rfl, rfl, hnc, hcm, hcs, htake⟩
  · by_cases hm : ys = []
    · subst hm
      refine ⟨.slice none 0 0, w, ?_, Same.refl w, hs⟩
      cases A with
      | none => simp [Builtin.append_, run_underlying ht, sizeOf, typeInfo, hi, Builtin.lenOf, Builtin.firstCells]
      | some a => simp [Builtin.append_, run_underlying ht, sizeOf, typeInfo, hi, Builtin.lenOf, Builtin.firstCells, loadCells, loadCellsFrom]
    · cases A with
      | none => exact absurd (hA rfl) hm
      | some a =>
        have hpos : 0 < ys.length := List.length_pos_iff.2 hm
        have hr := run_append_nil (P := P) w t ty E i z ht hi hz a ys.length c (ys.flatMap enc) (by rw [glen, hsize]) (hnews a rfl) hpos (by omega) (by simp only [List.length_nil, Nat.zero_add] at hb; rw [hby]; omega)
        have hg := grown 0 (by unfold maxLen; omega)
        simp only [List.length_nil, Nat.zero_add, List.nil_append, List.flatMap_nil, Array.empty_append] at hg ⊢
        exact ⟨_, _, hr, ⟨rfl, rfl, rfl, by simp⟩, hg⟩
  · have hg : w.heap[g]? = some (.cells cur E (0, 0)) := h3 g _ _ Res.one_at
    cases A with
    | none =>
      obtain rfl := hA rfl
      refine ⟨_, w, ?_, Same.refl w, by simpa using hs⟩
      have : xs.length + 0 ≤ cap := by omega
      simp [Builtin.append_, run_underlying ht, sizeOf, typeInfo, hi, Builtin.lenOf, Builtin.firstCells, storeCells, hnc]
    | some a =>
      by_cases hroom : xs.length + ys.length ≤ cap
      · have hfit : xs.length * i.size + (ys.flatMap enc).length ≤ cur.size := by rw [glen, hcs, hsize, ← Nat.add_mul]; exact Nat.mul_le_mul_right _ hroom
        have hr := run_append_room (P := P) w t ty E i ht hi g xs.length cap cur hg a ys.length c (ys.flatMap enc) (by rw [glen, hsize]) (hnews a rfl) hone' hroom hfit
        refine ⟨_, _, hr, ⟨rfl, rfl, rfl, by simp [World.setRow]⟩, ?_⟩
        have hpt : Sat w (pt g (.cells cur E (0, 0)) :: S :: F) := Sat.cons_iff.2 ⟨_, L, h1, rfl, h3, h4, h5, h6⟩
        have h7 := hpt.pt_upd (setRow_heap w g cur (cur.toList.take (xs.length * i.size) ++ ys.flatMap enc ++ cur.toList.drop (xs.length * i.size + (ys.flatMap enc).length)).toArray E _ hg) (fun k hk _ => setRow_other w g k _ hk)
        refine h7.imp fun r _ hr => .inr ⟨g, cap, _, by rw [hlen2], hr, by rw [hlen2]; exact hroom, hcm, ?_, ?_⟩
        · simp only [List.size_toArray, List.length_append, List.length_take, List.length_drop, Array.length_toList]
          omega
        · simp only [hsize]
          rw [htake, hlen2, Nat.add_mul, ← flen, ← glen, ← List.length_append, hfl2]
          exact List.take_left
      · have holds : ∀ j u, (xs.flatMap enc)[j]? = some u → w.cell? ((⟨g, 0, none⟩ : Addr).add j) = some u := by
          intro j u hu
          have : (Addr.add ⟨g, 0, none⟩ j) = ⟨g, j, none⟩ := by unfold Addr.add; split <;> simp_all
          rw [this, cell_of_heap hg, ← Array.getElem?_toList]
          rw [← htake, List.getElem?_take] at hu
          split at hu
          · exact hu
          · cases hu
        have hr := run_append_grow (P := P) w t ty E i z ht hi hz ⟨g, 0, none⟩ xs.length cap (xs.flatMap enc) (by rw [flen, hsize]) holds a ys.length c (ys.flatMap enc) (by rw [glen, hsize]) (hnews a rfl) (by omega) (by omega) (growslice_fits (by omega) (by rw [hby]; exact hb))
        exact ⟨_, _, hr, ⟨rfl, rfl, rfl, by simp⟩, grown cap hcm⟩
theorem does_append {o : Oper} {a : Act} {s x : Operand} (ho : o.op = .call { callee := .builtin .append, args := #[s, x], argTypes := #[t, t] }) (ht : P.underlying t = some (.slice E)) (hi : P.info? E = some i) (hz : i.zero = some z) (hsize : i.size = sz) (hby : i.bytes = bytes) (hzs : z.cells.size = sz) (hsz : 0 < sz)
    (hlen : ∀ x, (enc x).length = sz) (hone : ∀ x, ∀ u ∈ enc x, u.oneCell' = true) {v src : Value} (hs : a.eval s = v) (hx : a.eval x = src) {xs ys : List α} {S : HProp} (hS : Reads S sz enc src ys)
    (h63 : xs.length + ys.length ≤ 9223372036854775807) (hb : (xs.length + ys.length) * bytes ≤ 140737488355328) :
    Does P (execOp a.eval o) [own E sz enc v xs, S] (fun v' => pack [own E sz enc v' (xs ++ ys), S]) := by
  intro w F hs'
  obtain ⟨v', w', hr, h1, h2⟩ := run_append_sep (P := P) o.type ht hi hz hsize hby hzs hsz hlen hone hS hs' h63 hb
  have : (execOp a.eval o).run P w = .ok (.value v') w' := by
    unfold execOp
    simp only [ho, resolve, invoke, builtin, Sem.run_bind, Sem.run_pure, Result.andThen_ok, List.map_toArray, List.map_cons, List.map_nil, hs, hx, hr]
  rw [this]
  exact ⟨h1, Sat.pack_iff.2 h2⟩
end
end
/-- a slice type with its elements -/
structure SlT {α : Type} (P : Program) (t E : TypeId) (sz bytes : Nat) (enc : α → List Value) : Prop where
  ht : P.underlying t = some (.slice E)
  hi : (P.info? E).map (fun i => (i.zero.map (·.cells.size), i.size, i.bytes)) = some (some sz, sz, bytes)
  hsz : 0 < sz
  hlen : ∀ x, (enc x).length = sz
  hone : ∀ x, ∀ u ∈ enc x, u.oneCell' = true
theorem SlT.parts {α : Type} {P : Program} {t E : TypeId} {sz bytes : Nat} {enc : α → List Value} (T : SlT P t E sz bytes enc) : ∃ i z, P.info? E = some i ∧ i.zero = some z ∧ i.size = sz ∧ i.bytes = bytes ∧ z.cells.size = sz := by
  have h := T.hi
  cases hi : P.info? E with
  | none => rw [hi] at h; cases h
  | some i =>
    rw [hi] at h
    simp only [Option.map_some, Option.some.injEq, Prod.mk.injEq] at h
    obtain ⟨h1, h2, h3⟩ := h
    cases hz : i.zero with
    | none => rw [hz] at h1; cases h1
    | some z =>
      rw [hz] at h1
      simp only [Option.map_some, Option.some.injEq] at h1
      exact ⟨i, z, rfl, hz, h2, h3, h1⟩
section
variable {α : Type} {sz bytes : Nat} {enc : α → List Value} {P : Program} {t E : TypeId}
theorem SlT.append (T : SlT P t E sz bytes enc) {o : Oper} {a : Act} {s x : Operand} (ho : o.op = .call { callee := .builtin .append, args := #[s, x], argTypes := #[t, t] }) {v src : Value} (hs : a.eval s = v) (hx : a.eval x = src) {xs ys : List α} {S : HProp} (hS : Reads S sz enc src ys)
    (h63 : xs.length + ys.length ≤ 9223372036854775807) (hb : (xs.length + ys.length) * bytes ≤ 140737488355328) :
    Does P (execOp a.eval o) [own E sz enc v xs, S] (fun v' => pack [own E sz enc v' (xs ++ ys), S]) := by
  obtain ⟨i, z, h1, h2, h3, h4, h5⟩ := T.parts
  exact does_append ho T.ht h1 h2 h3 h4 h5 T.hsz T.hlen T.hone hs hx hS h63 hb
/-- 'append(v, y)' -/
theorem wl_append1 (T : SlT P t E sz bytes enc) (y : α) {ops rest : List Oper} {Q : Exit → Act → World → Prop} {o : Oper} {a : Act} {w0 w : World} {Γ Γ' : List HProp} {s x : Operand} {v : Value} {b : Nat} {cs : Array Value} {xs : List α} (hs : On w0 w Γ)
    (ho : o.op = .call { callee := .builtin .append, args := #[s, x], argTypes := #[t, t] }) (hw : Region.wanted o (yielded ops.toArray a.tmps) = true) (hv : a.eval s = v) (hx : a.eval x = .slice (some ⟨b, 0, none⟩) 1 1)
    (ht : Takes [own E sz enc v xs, pt b (.cells cs E (0, 0))] Γ Γ') (hc : cs.toList = enc y) (h63 : xs.length + 1 ≤ 9223372036854775807) (hb : (xs.length + 1) * bytes ≤ 140737488355328)
    (next : ∀ v' w', On w0 w' (own E sz enc v' (xs ++ [y]) :: Γ') → wpList P ops.toArray Q rest (a.put o.dst v') w') : wpList P ops.toArray Q (o :: rest) a w := by
  have h := hs.2.takes ht
  have h1 : Sat w (own E sz enc v xs :: own E sz enc (.slice (some ⟨b, 0, none⟩) 1 1) [y] :: Γ') := by
    have h2 := own_pt (enc := enc) (xs := [y]) (n := 1) (h.perm (.swap _ _ _)) rfl (by decide) (by simp [hc]) T.hlen
    exact h2.perm (.swap _ _ _)
  have d := T.append ho hv hx (own_reads E T.hlen _ [y]) (xs := xs) h63 hb w Γ' h1
  unfold wpList
  rw [if_pos hw]
  refine .inl (d.wp fun v' w' ⟨h3, h4⟩ => next v' w' ⟨hs.1.trans h3, ?_⟩)
  exact (Sat.pack_iff.1 h4).sub (by simp)
/-- 'append(v, ys...)' -/
theorem wl_appends (T : SlT P t E sz bytes enc) {ops rest : List Oper} {Q : Exit → Act → World → Prop} {o : Oper} {a : Act} {w0 w : World} {Γ Γ' : List HProp} {s x : Operand} {v src : Value} {S : HProp} {xs ys : List α} (hS : Reads S sz enc src ys) (hs : On w0 w Γ)
    (ho : o.op = .call { callee := .builtin .append, args := #[s, x], argTypes := #[t, t] }) (hw : Region.wanted o (yielded ops.toArray a.tmps) = true) (hv : a.eval s = v) (hx : a.eval x = src)
    (ht : Takes [own E sz enc v xs, S] Γ Γ') (h63 : xs.length + ys.length ≤ 9223372036854775807) (hb : (xs.length + ys.length) * bytes ≤ 140737488355328)
    (next : ∀ v' w', On w0 w' (own E sz enc v' (xs ++ ys) :: S :: Γ') → wpList P ops.toArray Q rest (a.put o.dst v') w') : wpList P ops.toArray Q (o :: rest) a w := by
  have d := T.append ho hv hx hS (xs := xs) h63 hb w Γ' (hs.2.takes ht)
  unfold wpList
  rw [if_pos hw]
  exact .inl (d.wp fun v' w' ⟨h3, h4⟩ => next v' w' ⟨hs.1.trans h3, Sat.pack_iff.1 h4⟩)
end
theorem On.get {w0 w : World} {Γ Δ Γ' : List HProp} (h : On w0 w Γ) (ht : Takes Δ Γ Γ') : On w0 w Δ := ⟨h.1, (h.2.takes ht).sub (List.sublist_append_left _ _)⟩
theorem On.gets {w0 w : World} {Γ Δ Γ' : List HProp} (h : On w0 w Γ) (ht : Takes Δ Γ Γ') : On w0 w (Δ ++ Γ') := ⟨h.1, h.2.takes ht⟩
/-- a call of a function, by its triple -/
theorem does_call {P : Program} {o : Oper} {a : Act} {f : FuncId} {args : Array Value} {A : List HProp} {B : Value → HProp} (h : Tri P f args A B) (hr : ∀ w, (execOp a.eval o).run P w = .ok (.enter f args) w) : Does P (execOp a.eval o) A B := by
  intro w F hs
  rw [hr]
  exact h w F hs
theorem does_new {P : Program} {o : Oper} {a : Act} {ob : Obj} {B : Value → HProp} (f : Nat → Value) (hr : ∀ w : World, (execOp a.eval o).run P w = .ok (.value (f w.heap.size)) (w.alloc ob)) (hB : ∀ b w F, Sat w (pt b ob :: F) → Sat w (B (f b) :: F)) : Does P (execOp a.eval o) [] B := by
  intro w F hs
  rw [hr]
  exact ⟨Same.alloc w ob, hB _ _ _ (hs.alloc ob)⟩
theorem does_store {P : Program} {o : Oper} {a : Act} {t : TypeId} {addr x : Operand} {b k : Nat} {cs cs' : List Value} {T : TypeId} {v : Value} (ho : o.op = .store t addr x) (ha : a.eval addr = .pointer (some ⟨b, k, none⟩))
    (hx : a.eval x = v) (hn : ∀ w, (sizeOf t).run P w = .ok v.cells.size w) (hk : decide (k + v.cells.toList.length ≤ cs.length) = true) (h1 : v.cells.toList.all (·.oneCell') = true) (hc : setc cs k v.cells.toList = cs') :
    Does P (execOp a.eval o) [pt b (.cells cs.toArray T (0, 0))] (fun u => pack [pur (u = undef), pt b (.cells cs'.toArray T (0, 0))]) := by
  intro w F hs
  obtain ⟨w', h2, h3, h4⟩ := run_storeCells_pt (P := P) (i := 0) _ _ _ _ _ hs (by simpa using of_decide_eq_true hk) h1
  have : (execOp a.eval o).run P w = .ok .skip w' := by
    have hp : (Instr.sureAddr (.pointer (some ⟨b, k, none⟩))).run P w = .ok ⟨b, k, none⟩ w := rfl
    unfold execOp; rw [ho]
    simp only [ha, hx, Instr.storeAt, hp, storeVar, Sem.run_bind, hn, Result.andThen_ok, ne_eq, not_true_eq_false, if_false, Sem.run_pure, h2]
  rw [this]
  refine ⟨h3, Sat.pack_iff.2 (Sat.pur_iff.2 ⟨rfl, ?_⟩)⟩
  subst hc
  exact h4

/-! ### For regions that draw their order -/
def Says.none : Says := ⟨fun _ _ => False, fun _ _ => emp⟩
theorem Does.true {P : Program} {s : Sem Next} {A : List HProp} {B : Value → HProp} (h : Does P s A B) : Does P s A (fun v => pack [pur True, B v]) :=
  fun w F hs => (h w F hs).mono fun v _ ⟨h1, h2⟩ => ⟨h1, Sat.pack_iff.2 (Sat.pur_iff.2 ⟨trivial, h2⟩)⟩
theorem Does.drop {P : Program} {s : Sem Next} {A : List HProp} {B : Value → HProp} {S : Value → HProp} (h : Does P s A (fun v => pack [B v, S v])) : Does P s A B :=
  fun w F hs => (h w F hs).mono fun v _ ⟨h1, h2⟩ => ⟨h1, (Sat.pack_iff.1 h2).sub (by simp)⟩
/-- what is taken may be said otherwise, and the rest goes along -/
theorem Does.frame {P : Program} {s : Sem Next} {A A' R : List HProp} {B : Value → HProp} (h : Does P s A B) (k : ∀ w F, Sat w (A' ++ F) → Sat w (A ++ (R ++ F))) : Does P s A' (fun v => pack (B v :: R)) :=
  fun w F hs => (h w (R ++ F) (k w F hs)).mono fun v _ ⟨h1, h2⟩ => ⟨h1, Sat.pack_iff.2 h2⟩
theorem Does.post {P : Program} {s : Sem Next} {A : List HProp} {B B' : Value → HProp} (h : Does P s A B) (k : ∀ v w F, Sat w (B v :: F) → Sat w (B' v :: F)) : Does P s A B' :=
  fun w F hs => (h w F hs).mono fun v w' ⟨h1, h2⟩ => ⟨h1, k v w' F h2⟩
section
variable {α : Type} {sz bytes : Nat} {enc : α → List Value} {P : Program} {t E : TypeId}
/-- a slice literal -/
theorem SlT.lit (T : SlT P t E sz bytes enc) (ys : List α) {o : Oper} {a : Act} {n : Nat} {cs : Array Value} (hr : ∀ w : World, (execOp a.eval o).run P w = .ok (.value (.slice (some ⟨w.heap.size, 0, none⟩) n n)) (w.alloc (.cells cs E))) (hn : ys.length = n) (hm : decide (n ≤ maxLen) = true) (hc : cs.toList = ys.flatMap enc) :
    Does P (execOp a.eval o) [] (fun v => own E sz enc v ys) :=
  does_new (fun b => .slice (some ⟨b, 0, none⟩) n n) hr fun _ _ _ hs => own_pt hs hn hm hc T.hlen
end
theorem Tri.on {P : Program} {f : FuncId} {args : Array Value} {A : List HProp} {B : Value → HProp} {w0 w : World} {Γ Γ' : List HProp} {R : Ending → World → Prop} (h : Tri P f args A B) (ht : Takes A Γ Γ') (hs : On w0 w Γ)
    (k : ∀ v w', On w0 w' (B v :: Γ') → R (.returned v) w') : Calls P f args w R := h.use ht hs.2 fun v w' h1 h2 => k v w' ⟨hs.1.trans h1, h2⟩
/-- a store, as a step -/
def Says.store (b k : Nat) (cs : List Value) (T : TypeId) : Says := ⟨fun _ u => u = undef, fun vs _ => pt b (.cells (setc cs k (vs.getD 1 undef).cells.toList).toArray T (0, 0))⟩
theorem par_store {P : Program} {n0 : Nat} {D : Nat → Says} {l : List Oper} {K : List HProp → Act → Prop} {r : List PStep} {i : Nat} {use : List Nat} {Γ : List HProp} {a : Act} {o : Oper} {t : TypeId} {addr x : Operand} {b k : Nat} {cs cs' : List Value} {T : TypeId} {v : Value} (ho : nthO l i = some o)
    (hw : Region.wanted o (yielded l.toArray a.tmps) = true) (hop : o.op = .store t addr x) (hD : D i = Says.store b k cs T) (ha : a.eval addr = .pointer (some ⟨b, k, none⟩)) (hx : a.eval x = v) (hu : sel use Γ = [pt b (.cells cs.toArray T (0, 0))])
    (hn : ∀ w, (sizeOf t).run P w = .ok v.cells.size w) (hk : decide (k + v.cells.toList.length ≤ cs.length) = true) (h1 : v.cells.toList.all (·.oneCell') = true) (hc : setc cs k v.cells.toList = cs')
    (h : par P l.toArray n0 D K r (after (n0 + i) use (pt b (.cells cs'.toArray T (0, 0))) Γ) (a.put o.dst undef)) : par P l.toArray n0 D K (⟨1, i, use⟩ :: r) Γ a := by
  have hv : (vals o a).getD 1 undef = v := by
    unfold vals
    rw [hop]
    exact hx
  refine ⟨o, (nthO_eq l i).trans ho, .inr (.inl ⟨rfl, hw, ?_⟩)⟩
  have hD' : D (PStep.mk 1 i use).i = Says.store b k cs T := hD
  simp only [hD', Says.store, hv, hc, hu]
  refine ⟨does_store hop ha hx hn hk h1 hc, ?_⟩
  rintro u rfl
  exact h
/-- to prove a triple, one assertion for all the rest -/
theorem Tri.mk {P : Program} {f : FuncId} {args : Array Value} {A : List HProp} {B : Value → HProp} (h : ∀ w G, On w w (A ++ [G]) → Calls P f args w fun e w' => ∃ v, e = .returned v ∧ On w w' [B v, G]) : Tri P f args A B := by
  intro w F hs
  have h1 : Sat w (A ++ [pack F]) := (Sat.pack_iff.2 (hs.perm List.perm_append_comm)).perm (List.perm_append_singleton _ _).symm
  refine (h w (pack F) (On.start h1)).mono ?_
  rintro e w' ⟨v, he, h2, h3⟩
  refine ⟨v, he, h2, ?_⟩
  have h4 := Sat.pack_iff.1 (h3.perm (.swap _ _ _))
  exact h4.perm (List.perm_append_singleton _ _)
end Go.Proofs.Ytediappljpkblaa
