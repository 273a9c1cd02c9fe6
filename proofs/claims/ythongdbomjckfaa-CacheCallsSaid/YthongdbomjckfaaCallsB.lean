/- CacheCalls: the directory and the reference's state say the same. -/
import Derived.Test.YthongdbomjckfaaCallsA
namespace Go.Proofs.Ythongdbomjckfaa
set_option linter.unusedSimpArgs false
set_option linter.unusedVariables false
structure LInv (m : Nat) (D : Dir) (X : St53) : Prop where
  cnt : X.cnt = D.cnt
  cm : D.cnt ≤ m
  fit : D.fit
  ver : ∀ i p, 0 ≤ p → ofl X.vers i p = D.ver (i, p)
  reg : ∀ s i p, 0 ≤ p → ((s, i, p) ∈ X.ents ↔ (D.reg (s, i, p)).isSome = true)
  ents : X.ents.length ≤ m
  vers : X.vers.length ≤ 10 * m
  cap : D.cap ≤ m
  regT : ∀ k b, D.reg k = some b → b = true
theorem LInv.new : LInv 0 aDir ⟨0, [], []⟩ := ⟨rfl, by decide, fit_new, fun _ _ _ => rfl, fun _ _ _ _ => by simp [aDir], by simp, by simp, by simp [aDir], fun _ _ h => by simp [aDir] at h⟩
theorem LInv.mono {m n : Nat} {D : Dir} {X : St53} (h : LInv m D X) (hn : m ≤ n) : LInv n D X :=
  ⟨h.cnt, by have := h.cm; omega, h.fit, h.ver, h.reg, by have := h.ents; omega, by have := h.vers; omega, by have := h.cap; omega, h.regT⟩
theorem LInv.register {m : Nat} {D : Dir} {X : St53} (h : LInv m D X) (s i p : Int) : LInv (m + 1) (D.regd s i p) ⟨X.cnt, X.vers, regE X.ents (s, i, p)⟩ := by
  refine ⟨h.cnt, by have := h.cm; simp only [Dir.regd]; omega, h.fit.regd s i p, fun i' p' hp => h.ver i' p' hp, fun s' i' p' hp => ?_, ?_, by have := h.vers; show X.vers.length ≤ _; omega, by have := h.cap; simp only [Dir.regd]; omega, fun k b hk => ?_⟩
  · have h1 := h.reg s' i' p' hp
    simp only [regE, Dir.regd, putF]
    by_cases e : (s', i', p') = (s, i, p)
    · rw [if_pos e, e]
      split
      · rename_i hc; simpa using hc
      · simp
    · rw [if_neg e, ← h1]
      split
      · rfl
      · simp [e]
  · have := h.ents
    simp only [regE]
    split
    · omega
    · simp; omega
  · simp only [Dir.regd, putF] at hk
    split at hk
    · cases hk; rfl
    · exact h.regT k b hk
theorem ofl_app (l l' : List E53) (i p : Int) : ofl (l ++ l') i p = l'.foldl (ofStep i p) (ofl l i p) := by simp [ofl]
theorem ofl_chg (i p id c : Int) (hp : 0 ≤ p) : ∀ (l : List Int) (n : Int), (∀ q ∈ l, 0 ≤ q) → (l.map (fun q => (id, q, c))).foldl (ofStep i p) n = if id = i ∧ p ∈ l then max n c else n
  | [], n, _ => by simp
  | q :: l, n, h => by
    have hq := h q (by simp)
    have ih := ofl_chg i p id c hp l
    simp only [List.map_cons, List.foldl_cons]
    rw [ih _ (fun x hx => h x (by simp [hx]))]
    have hall : ¬ q = -4611686018427387904 := by omega
    simp only [ofStep, hall, or_false, List.mem_cons]
    by_cases h1 : id = i <;> by_cases h2 : q = p <;> by_cases h3 : p ∈ l <;> simp [h1, h2, h3, eq_comm] <;> try omega
    all_goals (intro h4; exact absurd h4.symm h2)
theorem mem_wo (l : List E53) (id q : Int) (hq : 0 ≤ q) (e : E53) : e ∈ wo l id q ↔ e ∈ l ∧ ¬ (e.2.1 = id ∧ e.2.2 = q) := by
  have hall : ¬ q = -4611686018427387904 := by omega
  unfold wo
  rw [List.mem_filter]
  by_cases h1 : e.2.1 = id <;> by_cases h2 : e.2.2 = q <;> simp [h1, h2, hall]
theorem mem_wos (id : Int) (e : E53) : ∀ (l : List Int) (es : List E53), (∀ q ∈ l, 0 ≤ q) → (e ∈ l.foldl (fun es q => wo es id q) es ↔ e ∈ es ∧ ¬ (e.2.1 = id ∧ e.2.2 ∈ l))
  | [], es, _ => by simp
  | q :: l, es, h => by
    simp only [List.foldl_cons, List.mem_cons]
    rw [mem_wos id e l _ (fun x hx => h x (by simp [hx])), mem_wo _ _ _ (h q (by simp))]
    by_cases h1 : e.2.1 = id <;> by_cases h2 : e.2.2 = q <;> simp [h1, h2]
theorem LInv.change {m : Nat} {D : Dir} {X : St53} (h : LInv m D X) (id : Int) (l : List Int) (hl : ∀ q ∈ l, 0 ≤ q) (h10 : l.length ≤ 10) : LInv (m + 1) (D.change id l) (St53.chg ⟨X.cnt + 1, X.vers, X.ents⟩ id l) := by
  have hle := chg_le ⟨X.cnt + 1, X.vers, X.ents⟩ id l
  refine ⟨?_, ?_, h.fit.change id l, fun i p hp => ?_, fun s i p hp => ?_, ?_, ?_, Nat.le_trans h.cap (Nat.le_succ _), fun k b hk => ?_⟩
  · simp [St53.chg, Dir.change, h.cnt]
  · have := h.cm; simp [Dir.change]; omega
  · simp only [St53.chg]
    rw [ofl_app, ofl_chg i p id _ hp l _ hl, h.ver i p hp, h.cnt]
    have hf := h.fit.ver (i, p)
    by_cases hc : id = i ∧ p ∈ l
    · rw [if_pos hc, ← hc.1, ver_change_yes h.fit id p l (by simpa using hc.2)]
      have := h.fit.ver (id, p)
      omega
    · rw [if_neg hc, ver_change_no D id i p l]
      simp only [Bool.and_eq_false_iff, beq_eq_false_iff_ne]
      by_cases e : i = id
      · right; simpa using fun hm => hc ⟨e.symm, hm⟩
      · exact .inl e
  · simp only [St53.chg]
    rw [mem_wos id (s, i, p) l _ hl, h.reg s i p hp]
    simp only [Dir.change, offF, accChange]
    by_cases e1 : i = id <;> by_cases e2 : p ∈ l <;> simp [e1, e2]
  · have := h.ents; have := hle.2; simp only at this; omega
  · have := h.vers; have := hle.1; simp only at this; omega
  · simp only [Dir.change, offF] at hk
    split at hk
    · cases hk
    · exact h.regT k b hk
theorem LInv.renew {m : Nat} {D : Dir} {X : St53} (h : LInv m D X) (id : Int) : LInv (m + 1) (D.renew id) (St53.chg ⟨X.cnt + 1, X.vers, X.ents⟩ id [-4611686018427387904]) := by
  have hle := chg_le ⟨X.cnt + 1, X.vers, X.ents⟩ id [-4611686018427387904]
  refine ⟨?_, ?_, h.fit.renew id, fun i p hp => ?_, fun s i p hp => ?_, ?_, ?_, Nat.le_trans h.cap (Nat.le_succ _), fun k b hk => ?_⟩
  · simp [St53.chg, Dir.renew, h.cnt]
  · have := h.cm; simp [Dir.renew]; omega
  · simp only [St53.chg]
    rw [ofl_app, h.ver i p hp, h.cnt]
    simp only [List.map_cons, List.map_nil, List.foldl_cons, List.foldl_nil, ofStep, or_true, and_true]
    by_cases e : id = i
    · subst e
      rw [if_pos rfl, ver_renew_yes h.fit id p]
      have := h.fit.ver (id, p)
      omega
    · rw [if_neg e, ver_renew_no D id i p (fun h => e h.symm)]
  · simp only [St53.chg, List.foldl_cons, List.foldl_nil, Dir.renew, offF, accRenew]
    have h1 := h.reg s i p hp
    unfold wo
    rw [List.mem_filter]
    by_cases e : i = id <;> simp [e, h1] <;> (try (rw [← h1]; simp [e]))
  · have := h.ents; have := hle.2; simp only at this; omega
  · have := h.vers; have := hle.1; simp only [List.length_cons, List.length_nil] at this; omega
  · simp only [Dir.renew, offF] at hk
    split at hk
    · cases hk
    · exact h.regT k b hk
theorem LInv.forget {m : Nat} {D : Dir} {X : St53} (h : LInv m D X) (s : Int) : LInv (m + 1) (D.forget s) ⟨X.cnt, X.vers, forgE X.ents s⟩ := by
  refine ⟨h.cnt, by have := h.cm; simp only [Dir.forget]; omega, h.fit.forget s, fun i p hp => h.ver i p hp, fun s' i p hp => ?_, ?_, by have := h.vers; show X.vers.length ≤ _; omega, Nat.le_trans h.cap (Nat.le_succ _), fun k b hk => ?_⟩
  · have h1 := h.reg s' i p hp
    simp only [forgE, List.mem_filter, Dir.forget, offF, accForget]
    by_cases e : s' = s <;> simp [e] <;> (try (first | (rw [← h1]; done) | (rw [← h1]; simp [e])))
  · have := h.ents; have := forgE_le X.ents s; show (forgE X.ents s).length ≤ _; omega
  · simp only [Dir.forget, offF] at hk
    split at hk
    · cases hk
    · exact h.regT k b hk
/-! ### Sets -/
theorem setStep_inv (o : List Int) (x : Int) (hp : o.Pairwise (· < ·)) : (setStep o x).Pairwise (· < ·) ∧ ∀ y, y ∈ setStep o x ↔ y = x ∨ y ∈ o := by
  have hsplit : o = o.takeWhile (fun y => decide (y < x)) ++ o.dropWhile (fun y => decide (y < x)) := List.takeWhile_append_dropWhile.symm
  have htk : o.take (upTo o x) = o.takeWhile (fun y => decide (y < x)) := by
    unfold upTo
    conv => lhs; arg 2; rw [hsplit]
    exact List.take_left
  have hdr : o.drop (upTo o x) = o.dropWhile (fun y => decide (y < x)) := by
    unfold upTo
    conv => lhs; arg 2; rw [hsplit]
    exact List.drop_left
  have h1 : ∀ y ∈ o.takeWhile (fun y => decide (y < x)), y < x := fun y hy => by
    have := List.all_takeWhile (l := o) (p := fun y => decide (y < x))
    rw [List.all_eq_true] at this
    simpa using this y hy
  have hpd : (o.dropWhile (fun y => decide (y < x))).Pairwise (· < ·) := hp.sublist (List.dropWhile_sublist _)
  have hpt : (o.takeWhile (fun y => decide (y < x))).Pairwise (· < ·) := hp.sublist (List.takeWhile_sublist _)
  have hmem : ∀ y, y ∈ o ↔ y ∈ o.takeWhile (fun y => decide (y < x)) ∨ y ∈ o.dropWhile (fun y => decide (y < x)) := fun y => by
    conv => lhs; rw [hsplit]
    exact List.mem_append
  unfold setStep
  split
  · rename_i hc
    refine ⟨hp, fun y => ⟨fun h => .inr h, fun h => h.elim (fun e => ?_) id⟩⟩
    have : o.getD (upTo o x) 0 ∈ o := by rw [List.getD_eq_getElem?_getD, List.getElem?_eq_getElem hc.1]; exact List.getElem_mem _
    rw [e, ← hc.2]; rw [hc.2]; rw [hc.2] at this; exact this
  · rename_i hc
    rw [htk, hdr]
    have h2 : ∀ y ∈ o.dropWhile (fun y => decide (y < x)), x < y := by
      cases hd : o.dropWhile (fun y => decide (y < x)) with
      | nil => simp
      | cons a r =>
        have ha : ¬ a < x := by
          have := List.head?_dropWhile_not (fun y => decide (y < x)) o
          rw [hd] at this; simpa using this
        have hne : a ≠ x := fun e => hc (by
          have hlt : upTo o x < o.length := by
            rcases Nat.lt_or_ge (upTo o x) o.length with h | h
            · exact h
            · rw [List.drop_eq_nil_of_le h] at hdr; rw [← hdr] at hd; cases hd
          refine ⟨hlt, ?_⟩
          rw [hd] at hdr
          have := congrArg (·[0]?) hdr
          simp only [List.getElem?_drop, Nat.add_zero, List.getElem?_cons_zero] at this
          rw [List.getD_eq_getElem?_getD, this, e]; rfl)
        rw [hd] at hpd
        have h3 := List.pairwise_cons.1 hpd
        intro y hy
        rcases List.mem_cons.1 hy with rfl | hy
        · omega
        · have := h3.1 y hy; omega
    refine ⟨?_, fun y => ?_⟩
    · rw [List.append_assoc, List.pairwise_append]
      refine ⟨hpt, ?_, fun a ha b hb => ?_⟩
      · exact List.pairwise_cons.2 ⟨h2, hpd⟩
      · have := h1 a ha
        rcases List.mem_cons.1 hb with rfl | hb
        · exact this
        · have := h2 b hb; omega
    · rw [hmem y]; simp only [List.mem_append, List.mem_singleton]
      constructor
      · rintro ((h | h) | h)
        · exact .inr (.inl h)
        · exact .inl h
        · exact .inr (.inr h)
      · rintro (h | h | h)
        · exact .inl (.inr h)
        · exact .inl (.inl h)
        · exact .inr h
theorem setList_inv (l : List Int) : (setList l).Pairwise (· < ·) ∧ ∀ y, y ∈ setList l ↔ y ∈ l := by
  have key : ∀ (l o : List Int), o.Pairwise (· < ·) → (l.foldl setStep o).Pairwise (· < ·) ∧ ∀ y, y ∈ l.foldl setStep o ↔ y ∈ l ∨ y ∈ o := by
    intro l
    induction l with
    | nil => intro o h; exact ⟨h, by simp⟩
    | cons x l ih =>
      intro o h
      obtain ⟨h1, h2⟩ := setStep_inv o x h
      obtain ⟨h3, h4⟩ := ih _ h1
      refine ⟨h3, fun y => ?_⟩
      rw [List.foldl_cons, h4, h2, List.mem_cons]
      constructor
      · rintro (h | h | h)
        · exact .inl (.inr h)
        · exact .inl (.inl h)
        · exact .inr h
      · rintro ((h | h) | h)
        · exact .inr (.inl h)
        · exact .inl h
        · exact .inr (.inr h)
  have := key l [] (by simp)
  refine ⟨this.1, fun y => ?_⟩
  have h2 := this.2 y
  simpa [setList] using h2
theorem sorted_eq : ∀ (a b : List Int), a.Pairwise (· < ·) → b.Pairwise (· < ·) → (∀ y, y ∈ a ↔ y ∈ b) → a = b
  | [], [], _, _, _ => rfl
  | [], y :: b, _, _, h => by have := (h y).2 (by simp); cases this
  | x :: a, [], _, _, h => by have := (h x).1 (by simp); cases this
  | x :: a, y :: b, ha, hb, h => by
    have ha' := List.pairwise_cons.1 ha
    have hb' := List.pairwise_cons.1 hb
    have hxy : x = y := by
      have h1 := (h x).1 (by simp)
      have h2 := (h y).2 (by simp)
      rcases List.mem_cons.1 h1 with e | h1
      · exact e
      · rcases List.mem_cons.1 h2 with e | h2
        · exact e.symm
        · have := hb'.1 x h1; have := ha'.1 y h2; omega
    subst hxy
    rw [sorted_eq a b ha'.2 hb'.2 fun y => ⟨fun hy => ?_, fun hy => ?_⟩]
    · rcases List.mem_cons.1 ((h y).1 (by simp [hy])) with e | h1
      · subst e; have := ha'.1 y hy; omega
      · exact h1
    · rcases List.mem_cons.1 ((h y).2 (by simp [hy])) with e | h1
      · subst e; have := hb'.1 y hy; omega
      · exact h1
theorem mem_holdE (l : List E53) (i p s : Int) : s ∈ holdE l i p ↔ (s, i, p) ∈ l := by
  unfold holdE
  simp only [List.mem_map, List.mem_filter, Bool.and_eq_true, decide_eq_true_eq]
  constructor
  · rintro ⟨⟨a, b, c⟩, ⟨h1, h2, h3⟩, h4⟩
    simp only at h2 h3 h4
    subst h2 h3 h4; exact h1
  · intro h; exact ⟨_, ⟨h, rfl, rfl⟩, rfl⟩
theorem LInv.holders {m : Nat} {D : Dir} {X : St53} (h : LInv m D X) (i p : Int) (hp : 0 ≤ p) {l : List Int} (hl : D.holds i p l) (hs : l.Pairwise (· ≤ ·)) : l = setList (holdE X.ents i p) := by
  obtain ⟨h1, h2⟩ := setList_inv (holdE X.ents i p)
  refine sorted_eq _ _ ?_ h1 fun y => by rw [h2, mem_holdE, h.reg y i p hp, hl.2 y]
  exact (hs.and hl.1).imp fun ⟨a, b⟩ => by omega
theorem LInv.valid {m : Nat} {D : Dir} {X : St53} (h : LInv m D X) (s i p n : Int) (hp : 0 ≤ p) : D.valid s i p n = (X.ents.contains (s, i, p) && ofl X.vers i p == n) := by
  have h1 := h.reg s i p hp
  unfold Dir.valid
  rw [h.ver i p hp]
  congr 1
  cases hr : D.reg (s, i, p) with
  | none =>
    rw [hr] at h1
    have : (s, i, p) ∉ X.ents := fun hm => by have := h1.1 hm; cases this
    simp [this]
  | some b =>
    rw [hr] at h1
    have : (s, i, p) ∈ X.ents := h1.2 rfl
    rw [h.regT _ _ hr]
    simp [this]
end Go.Proofs.Ythongdbomjckfaa
