/- Separation: a region that draws its order. The operations are walked in the order of the text; each says which assertions it reads or takes; what is not ordered must take nothing that the other one uses. No program in sight. -/
import Derived.Test.YtediappljpkblaaSepOp
import Derived.Orders
import Derived.StillTail
namespace Go.Proofs.Ytediappljpkblaa
set_option linter.unusedSimpArgs false
set_option linter.unusedVariables false
open Go.RowKit

/-- what a step's operation says: what it comes to, and the assertion that it leaves (by the values of its operands, and its own value) -/
structure Says where
  φ : List Value → Value → Prop
  B : List Value → Value → HProp
structure PStep where
  /-- 0: a value that the world decides not, or a read; 1: an effect; 2: not wanted -/
  k : Nat
  i : Nat
  use : List Nat
def sel : List Nat → List HProp → List HProp
  | [], _ => []
  | t :: ts, Γ => Γ.getD t emp :: sel ts (Γ.set t emp)
def tak : List Nat → List HProp → List HProp
  | [], Γ => Γ
  | t :: ts, Γ => tak ts (Γ.set t emp)
theorem Sat.set_emp' {w : World} : ∀ (Γ : List HProp) (D : HProp) (t : Nat), Sat w (D :: Γ) → Sat w (D :: Γ.getD t emp :: Γ.set t emp)
  | [], D, t, h => by simpa using (Sat.emp_iff.2 h).perm (.swap _ _ _)
  | A :: Γ, D, 0, h => by
    simp only [List.getD_cons_zero, List.set_cons_zero]
    exact (Sat.emp_iff.2 h).perm ((List.Perm.swap _ _ _).trans (List.Perm.cons _ (.swap _ _ _)))
  | A :: Γ, D, t + 1, h => by
    simp only [List.getD_cons_succ, List.set_cons_succ]
    have h1 := Sat.pack_iff.1 (Sat.set_emp' Γ (pack [D, A]) t (Sat.pack_iff.2 h))
    exact h1.perm (List.Perm.cons _ (.swap _ _ _))
theorem Sat.sel' {w : World} : ∀ (ts : List Nat) (Γ : List HProp) (D : HProp), Sat w (D :: Γ) → Sat w (D :: (sel ts Γ ++ tak ts Γ))
  | [], _, _, h => h
  | t :: ts, Γ, D, h => Sat.pack_iff.1 (Sat.sel' ts _ (pack [D, Γ.getD t emp]) (Sat.pack_iff.2 (Sat.set_emp' Γ D t h)))
theorem Sat.sel {w : World} (ts : List Nat) {Γ : List HProp} (h : Sat w Γ) : Sat w (sel ts Γ ++ tak ts Γ) := (Sat.sel' ts Γ emp (Sat.emp_iff.2 h)).tail
theorem On.pick {w0 w : World} {Γ : List HProp} (is : List Nat) (h : On w0 w Γ) : On w0 w (sel is Γ) := ⟨h.1, (h.2.sel is).sub (List.sublist_append_left _ _)⟩
theorem Sat.put' {w : World} {A : HProp} : ∀ (Δ : List HProp) (D : HProp) (k : Nat), Sat w (D :: A :: Δ) → Sat w (D :: Δ.set k A)
  | [], _, _, h => h.sub (by simp)
  | B :: Δ, D, 0, h => h.sub (by simp)
  | B :: Δ, D, k + 1, h => Sat.pack_iff.1 (Sat.put' Δ (pack [D, B]) k (Sat.pack_iff.2 (h.perm (List.Perm.cons _ (.swap _ _ _)))))
theorem Sat.put {w : World} {A : HProp} {Δ : List HProp} (k : Nat) (h : Sat w (A :: Δ)) : Sat w (Δ.set k A) := (Sat.put' Δ emp k (Sat.emp_iff.2 h)).tail

theorem getD_set_ne' {Γ : List HProp} {s t : Nat} (A : HProp) (h : s ≠ t) : (Γ.set t A).getD s emp = Γ.getD s emp := by
  simp [List.getD_eq_getElem?_getD, List.getElem?_set_ne (Ne.symm h)]
theorem sel_set {t : Nat} (A : HProp) : ∀ (ts : List Nat) (Γ : List HProp), t ∉ ts → sel ts (Γ.set t A) = sel ts Γ
  | [], _, _ => rfl
  | s :: ts, Γ, h => by
    simp only [List.mem_cons, not_or] at h
    simp only [sel]
    rw [getD_set_ne' A (Ne.symm h.1), List.set_comm _ _ h.1, sel_set A ts _ h.2]
theorem tak_set {t : Nat} (A : HProp) : ∀ (ts : List Nat) (Γ : List HProp), t ∉ ts → tak ts (Γ.set t A) = (tak ts Γ).set t A
  | [], _, _ => rfl
  | s :: ts, Γ, h => by
    simp only [List.mem_cons, not_or] at h
    simp only [tak]
    rw [List.set_comm _ _ h.1, tak_set A ts _ h.2]
theorem sel_tak : ∀ (us ts : List Nat) (Γ : List HProp), (∀ t ∈ us, t ∉ ts) → sel ts (tak us Γ) = sel ts Γ
  | [], _, _, _ => rfl
  | u :: us, ts, Γ, h => by
    simp only [tak]
    rw [sel_tak us ts _ (fun t ht => h t (by simp [ht])), sel_set _ _ _ (h u (by simp))]
theorem tak_tak : ∀ (us ts : List Nat) (Γ : List HProp), (∀ t ∈ us, t ∉ ts) → tak ts (tak us Γ) = tak us (tak ts Γ)
  | [], _, _, _ => rfl
  | u :: us, ts, Γ, h => by
    simp only [tak]
    rw [tak_tak us ts _ (fun t ht => h t (by simp [ht])), tak_set _ _ _ (h u (by simp))]
/-- the assertions behind an effect -/
def after (p : Nat) (use : List Nat) (B : HProp) (Γ : List HProp) : List HProp := (tak use Γ).set p B
theorem sel_after {p : Nat} {us ts : List Nat} {B : HProp} {Γ : List HProp} (h : ∀ t ∈ p :: us, t ∉ ts) : sel ts (after p us B Γ) = sel ts Γ := by
  unfold after
  rw [sel_set _ _ _ (h p (by simp)), sel_tak us ts _ (fun t ht => h t (by simp [ht]))]
theorem after_comm {p q : Nat} {us ts : List Nat} {B C : HProp} {Γ : List HProp} (h : ∀ t ∈ p :: us, t ∉ q :: ts) : after p us B (after q ts C Γ) = after q ts C (after p us B Γ) := by
  unfold after
  have h1 : q ∉ us := fun hq => h q (by simp [hq]) (by simp)
  have h2 : p ∉ ts := fun hp => h p (by simp) (by simp [hp])
  have h3 : p ≠ q := fun e => h p (by simp) (by simp [e])
  rw [tak_set _ _ _ h1, tak_set _ _ _ h2, List.set_comm _ _ h3.symm, tak_tak us ts _ (fun t ht hx => h t (by simp [ht]) (by simp [hx]))]

section
variable {P : Program} {ops : Array Oper} {n0 : Nat} {D : Nat → Says}
/-- the values of an operation's operands -/
def vals (o : Oper) (a : Act) : List Value := o.op.operands.toList.map a.eval
/-- one step; what follows is K -/
def pstep (P : Program) (ops : Array Oper) (n0 : Nat) (D : Nat → Says) (s : PStep) (K : List HProp → Act → Prop) (Γ : List HProp) (a : Act) : Prop :=
  ∃ o, ops[s.i]? = some o ∧
    ((s.k = 0 ∧ Region.wanted o (yielded ops a.tmps) = true ∧ ∃ v, (∀ w, Sat w (sel s.use Γ) → (execOp a.eval o).run P w = .ok (.value v) w) ∧ K Γ (a.put o.dst v)) ∨
     (s.k = 1 ∧ Region.wanted o (yielded ops a.tmps) = true ∧ Does P (execOp a.eval o) (sel s.use Γ) (fun v => pack [pur ((D s.i).φ (vals o a) v), (D s.i).B (vals o a) v]) ∧
        ∀ v, (D s.i).φ (vals o a) v → K (after (n0 + s.i) s.use ((D s.i).B (vals o a) v) Γ) (a.put o.dst v)) ∨
     (s.k = 2 ∧ Region.wanted o (yielded ops a.tmps) = false ∧ K Γ (a.put o.dst undef)))
def par (P : Program) (ops : Array Oper) (n0 : Nat) (D : Nat → Says) (Q : List HProp → Act → Prop) : List PStep → List HProp → Act → Prop
  | [], Γ, a => Q Γ a
  | s :: r, Γ, a => pstep P ops n0 D s (par P ops n0 D Q r) Γ a
/-- the places that a step turns -/
def PStep.turns (n0 : Nat) (s : PStep) : List Nat := if s.k = 1 then (n0 + s.i) :: s.use else []
/-- two steps that may come in either order -/
def indep (n0 : Nat) (ops : Array Oper) (x y : PStep) : Bool :=
  (match ops[x.i]?, ops[y.i]? with | some o, some p => o.apart ops p | _, _ => false) &&
  (x.turns n0).all (fun t => !y.use.contains t && !(y.turns n0).contains t) && (y.turns n0).all (fun t => !x.use.contains t)
theorem indep_spec {x y : PStep} (h : indep n0 ops x y = true) {o p : Oper} (ho : ops[x.i]? = some o) (hp : ops[y.i]? = some p) :
    o.apart ops p = true ∧ (∀ t ∈ x.turns n0, t ∉ y.use) ∧ (∀ t ∈ x.turns n0, t ∉ y.turns n0) ∧ ∀ t ∈ y.turns n0, t ∉ x.use := by
  simp only [indep, ho, hp, Bool.and_eq_true, List.all_eq_true, Bool.not_eq_true', List.contains_eq_mem, decide_eq_false_iff_not] at h
  exact ⟨h.1.1, fun t ht => (h.1.2 t ht).1, fun t ht => (h.1.2 t ht).2, h.2⟩
theorem vals_put {o : Oper} {a : Act} {dst : Option Tmp} {v : Value} (h : ∀ d, dst = some d → d ∉ o.looksAt ops) : vals o (a.put dst v) = vals o a := by
  unfold vals
  refine List.map_congr_left fun x hx => Act.eval_put fun d hd hxd => h d hd ?_
  subst hxd
  exact List.mem_append_left _ (List.mem_filterMap.2 ⟨.tmp d, hx, rfl⟩)
/-- what a step leaves -/
def res (P : Program) (ops : Array Oper) (n0 : Nat) (D : Nat → Says) (s : PStep) (o : Oper) (Γ : List HProp) (a : Act) (Γ' : List HProp) (v : Value) : Prop :=
  (s.k = 0 ∧ (∀ w, Sat w (sel s.use Γ) → (execOp a.eval o).run P w = .ok (.value v) w) ∧ (∃ w, Sat w (sel s.use Γ)) ∧ Γ' = Γ) ∨
  (s.k = 1 ∧ (D s.i).φ (vals o a) v ∧ Γ' = after (n0 + s.i) s.use ((D s.i).B (vals o a) v) Γ) ∨
  (s.k = 2 ∧ v = undef ∧ Γ' = Γ)
theorem res_put {s : PStep} {o : Oper} {Γ Γ' : List HProp} {a : Act} {v : Value} (hsel : ∀ cs b, o.op ≠ .select cs b) {dst : Option Tmp} {u : Value} (hd : ∀ d, dst = some d → d ∉ o.looksAt ops) (h : res P ops n0 D s o Γ a Γ' v) :
    res P ops n0 D s o Γ (a.put dst u) Γ' v := by
  unfold res at *
  rw [execOp_put o hsel a dst u hd, vals_put hd]
  exact h
theorem res_after {s : PStep} {o : Oper} {Γ Γ' : List HProp} {a : Act} {v : Value} {p : Nat} {us : List Nat} {B : HProp} (h1 : ∀ t ∈ p :: us, t ∉ s.use) (h2 : ∀ t ∈ p :: us, t ∉ s.turns n0) (h : res P ops n0 D s o Γ a Γ' v) :
    res P ops n0 D s o (after p us B Γ) a (after p us B Γ') v := by
  unfold res at *
  rw [sel_after h1]
  rcases h with ⟨hk, h3, h4, rfl⟩ | ⟨hk, h3, rfl⟩ | ⟨hk, h3, rfl⟩
  · exact .inl ⟨hk, h3, h4, rfl⟩
  · refine .inr (.inl ⟨hk, h3, ?_⟩)
    refine after_comm fun t ht => ?_
    have := h2 t ht
    rw [PStep.turns, if_pos hk] at this
    exact this
  · exact .inr (.inr ⟨hk, h3, rfl⟩)
/-- (2) what a step leaves, with those before it still to come -/
theorem par_pull {Q : List HProp → Act → Prop} (hsel : ∀ (j : Nat) (o : Oper) cs b, ops[j]? = some o → o.op ≠ .select cs b) {s : PStep} {o : Oper} (ho : ops[s.i]? = some o) (π2 : List PStep) :
    ∀ (π1 : List PStep) (Γ Γ' : List HProp) (a : Act) (v : Value), (∀ x ∈ π1, indep n0 ops x s = true) → res P ops n0 D s o Γ a Γ' v → par P ops n0 D Q (π1 ++ s :: π2) Γ a → par P ops n0 D Q (π1 ++ π2) Γ' (a.put o.dst v)
  | [], Γ, Γ', a, v, _, hr, h => by
    obtain ⟨o', ho', h⟩ := h
    obtain rfl : o' = o := Option.some.inj (ho'.symm.trans ho)
    rcases hr with ⟨hk, h3, ⟨w, hw⟩, rfl⟩ | ⟨hk, h3, rfl⟩ | ⟨hk, rfl, rfl⟩
    · rcases h with ⟨_, _, v', hv, h⟩ | ⟨hk', _⟩ | ⟨hk', _⟩
      · have e1 := h3 w hw
        rw [hv w hw] at e1
        cases e1
        exact h
      · omega
      · omega
    · rcases h with ⟨hk', _⟩ | ⟨_, _, _, h⟩ | ⟨hk', _⟩
      · omega
      · exact h v h3
      · omega
    · rcases h with ⟨hk', _⟩ | ⟨hk', _⟩ | ⟨_, _, h⟩
      · omega
      · omega
      · exact h
  | x :: π1, Γ, Γ', a, v, hx, hr, h => by
    obtain ⟨ox, hox, h⟩ := h
    have hin := indep_spec (hx x (by simp)) hox ho
    have hap := Oper.apart_spec hin.1
    have hpc : ∀ u, (a.put ox.dst u).put o.dst v = (a.put o.dst v).put ox.dst u := fun u => Act.put_comm a u v hap.2.1
    have IH := fun Γ Γ' a hr h => par_pull (Q := Q) hsel ho π2 π1 Γ Γ' a v (fun y hy => hx y (by simp [hy])) hr h
    have hrun := execOp_put ox (fun cs b => hsel x.i ox cs b hox) a o.dst v hap.2.2
    have hwant := wanted_put (ops := ops) ox a o.dst v hap.2.2
    have hvals : vals ox (a.put o.dst v) = vals ox a := vals_put hap.2.2
    have hselx : sel x.use Γ' = sel x.use Γ := by
      rcases hr with ⟨_, _, _, rfl⟩ | ⟨hk, _, rfl⟩ | ⟨_, _, rfl⟩
      · rfl
      · refine sel_after fun t ht => hin.2.2.2 t ?_
        rw [PStep.turns, if_pos hk]; exact ht
      · rfl
    refine ⟨ox, hox, ?_⟩
    rw [hrun, hwant, hvals, hselx]
    rcases h with ⟨hk, hw, u, hu, h⟩ | ⟨hk, hw, hd, h⟩ | ⟨hk, hw, h⟩
    · refine .inl ⟨hk, hw, u, hu, ?_⟩
      rw [← hpc]
      exact IH _ _ _ (res_put (fun cs b => hsel s.i o cs b ho) hap.1 hr) h
    · refine .inr (.inl ⟨hk, hw, hd, fun u hu => ?_⟩)
      rw [← hpc]
      refine IH _ _ _ ?_ (h u hu)
      have ht : x.turns n0 = (n0 + x.i) :: x.use := by rw [PStep.turns, if_pos hk]
      exact res_after (fun t h => hin.2.1 t (ht ▸ h)) (fun t h => hin.2.2.1 t (ht ▸ h)) (res_put (fun cs b => hsel s.i o cs b ho) hap.1 hr)
    · refine .inr (.inr ⟨hk, hw, ?_⟩)
      rw [← hpc]
      exact IH _ _ _ (res_put (fun cs b => hsel s.i o cs b ho) hap.1 hr) h
/-- (1) what a step does, as it is found behind others -/
theorem par_find {Q : List HProp → Act → Prop} (hsel : ∀ (j : Nat) (o : Oper) cs b, ops[j]? = some o → o.op ≠ .select cs b) {s : PStep} {o : Oper} (ho : ops[s.i]? = some o) (π2 : List PStep) :
    ∀ (π1 : List PStep) (Γ : List HProp) (a : Act) (w : World), (∀ x ∈ π1, indep n0 ops x s = true) → Sat w Γ → par P ops n0 D Q (π1 ++ s :: π2) Γ a → pstep P ops n0 D s (fun _ _ => True) Γ a
  | [], Γ, a, w, _, _, h => by
    obtain ⟨o', ho', h⟩ := h
    refine ⟨o', ho', ?_⟩
    rcases h with ⟨hk, hw, v, hv, _⟩ | ⟨hk, hw, hd, _⟩ | ⟨hk, hw, _⟩
    · exact .inl ⟨hk, hw, v, hv, trivial⟩
    · exact .inr (.inl ⟨hk, hw, hd, fun _ _ => trivial⟩)
    · exact .inr (.inr ⟨hk, hw, trivial⟩)
  | x :: π1, Γ, a, w, hx, hs, h => by
    obtain ⟨ox, hox, h⟩ := h
    have hin := indep_spec (hx x (by simp)) hox ho
    have hap := Oper.apart_spec hin.1
    have IH := fun Γ a w hs h => par_find (Q := Q) hsel ho π2 π1 Γ a w (fun y hy => hx y (by simp [hy])) hs h
    have key : ∀ (Γ1 : List HProp) (u : Value), sel s.use Γ1 = sel s.use Γ → pstep P ops n0 D s (fun _ _ => True) Γ1 (a.put ox.dst u) → pstep P ops n0 D s (fun _ _ => True) Γ a := by
      intro Γ1 u he h
      obtain ⟨o', ho', h⟩ := h
      obtain rfl : o' = o := Option.some.inj (ho'.symm.trans ho)
      refine ⟨o', ho', ?_⟩
      rw [he, execOp_put o' (fun cs b => hsel s.i o' cs b ho) a ox.dst u hap.1, wanted_put (ops := ops) o' a ox.dst u hap.1, vals_put hap.1] at h
      exact h
    rcases h with ⟨hk, hw, u, hu, h⟩ | ⟨hk, hw, hd, h⟩ | ⟨hk, hw, h⟩
    · exact key Γ u rfl (IH _ _ w hs h)
    · obtain ⟨u, w', _, h2⟩ := (hd w _ (hs.sel x.use)).ex
      have h3 := Sat.pack_iff.1 h2
      simp only [List.cons_append, List.nil_append] at h3
      obtain ⟨hφ, h4⟩ := Sat.pur_iff.1 h3
      have ht : x.turns n0 = (n0 + x.i) :: x.use := by rw [PStep.turns, if_pos hk]
      exact key _ u (sel_after fun t h => hin.2.1 t (ht ▸ h)) (IH _ _ w' (h4.put _) (h u hφ))
    · exact key Γ _ rfl (IH _ _ w hs h)
end

/-- operation i waits for operation j, at once or through others: by a table -/
def waits (T : Array Nat) (i j : Nat) : Bool := (T.getD i 0).testBit j
/-- the table says no more than the edges -/
def ancOk (md : Region.Mode) (ops : Array Oper) (T : Array Nat) : Bool :=
  (List.range ops.size).all fun i => (List.range ops.size).all fun j => !waits T i j || (match ops[i]? with
    | some o => o.after.any fun e => Region.binds md e && (e.on == j || (decide (e.on < i) && waits T e.on j))
    | none => false)
/-- what is listed has its predecessors listed -/
def Down (md : Region.Mode) (ops : Array Oper) (listed : Array Bool) : Prop := ∀ k o, ops[k]? = some o → listed.getD k false = true → ∀ e ∈ o.after, Region.binds md e = true → listed.getD e.on false = true
theorem anc_listed {md : Region.Mode} {ops : Array Oper} {T : Array Nat} {listed : Array Bool} (hT : ancOk md ops T = true) (hd : Down md ops listed) : ∀ i o, ops[i]? = some o → (∀ e ∈ o.after, Region.binds md e = true → listed.getD e.on false = true) → ∀ j, j < ops.size → waits T i j = true → listed.getD j false = true := by
  intro i
  induction i using Nat.strongRecOn with
  | ind i ih =>
    intro o ho hp j hj hw
    have hi := (Array.getElem?_eq_some_iff.1 ho).1
    simp only [ancOk, List.all_eq_true, List.mem_range, Bool.or_eq_true, Bool.not_eq_true'] at hT
    have h1 := (hT i hi j hj).resolve_left (by rw [hw]; simp)
    simp only [ho, Array.any_eq_true, Bool.and_eq_true, Bool.or_eq_true, beq_iff_eq, decide_eq_true_eq] at h1
    obtain ⟨k, hk, hb, h2⟩ := h1
    have h3 := hp _ (Array.getElem_mem hk) hb
    rcases h2 with h2 | ⟨h2, h4⟩
    · rw [← h2]; exact h3
    · have h5 : (o.after[k]).on < ops.size := by omega
      exact ih _ h2 _ (Array.getElem?_eq_getElem h5) (fun e he hb' => hd _ _ (Array.getElem?_eq_getElem h5) h3 e he hb') j hj h4
/-- the steps of a region: each operation once, and what is not ordered is independent -/
def parB (T : Array Nat) (ops : Array Oper) (n0 : Nat) : List PStep → Bool
  | [] => true
  | s :: r => r.all (fun t => t.i != s.i && (waits T t.i s.i || indep n0 ops s t)) && parB T ops n0 r
/-- each waits only for such as come before it -/
def parL (md : Region.Mode) (ops : Array Oper) (N : Nat) : List PStep → Bool
  | [] => true
  | s :: r => (match ops[s.i]? with
    | some o => o.after.all fun e => !Region.binds md e || (decide (e.on < N) && e.on != s.i && r.all (fun t => t.i != e.on))
    | none => false) && parL md ops N r
theorem parL_split {md : Region.Mode} {ops : Array Oper} {N : Nat} {s : PStep} {π2 : List PStep} : ∀ {π1 : List PStep}, parL md ops N (π1 ++ s :: π2) = true → parL md ops N (π1 ++ π2) = true
  | [], h => by
    simp only [List.nil_append, parL, Bool.and_eq_true] at h
    exact h.2
  | y :: π1, h => by
    simp only [List.cons_append, parL, Bool.and_eq_true] at h ⊢
    refine ⟨?_, parL_split h.2⟩
    have h1 := h.1
    cases ho : ops[y.i]? with
    | none => rw [ho] at h1; cases h1
    | some o =>
      rw [ho] at h1
      dsimp only at h1 ⊢
      rw [Array.all_eq_true] at h1 ⊢
      intro k hk
      have h2 := h1 k hk
      simp only [Bool.or_eq_true, Bool.and_eq_true, List.all_eq_true, List.mem_append, List.mem_cons] at h2 ⊢
      rcases h2 with h2 | h2
      · exact .inl h2
      · exact .inr ⟨h2.1, fun t ht => h2.2 t (ht.elim .inl (fun h => .inr (.inr h)))⟩
theorem parB_split {T : Array Nat} {ops : Array Oper} {n0 : Nat} {s : PStep} {π2 : List PStep} : ∀ {π1 : List PStep}, parB T ops n0 (π1 ++ s :: π2) = true →
    (∀ x ∈ π1, waits T s.i x.i = true ∨ indep n0 ops x s = true) ∧ parB T ops n0 (π1 ++ π2) = true ∧ ∀ x ∈ π1 ++ π2, x.i ≠ s.i
  | [], h => by
    simp only [List.nil_append, parB, Bool.and_eq_true, List.all_eq_true] at h
    exact ⟨by simp, h.2, fun x hx => by simpa using (h.1 x hx).1⟩
  | y :: π1, h => by
    simp only [List.cons_append, parB, Bool.and_eq_true, List.all_eq_true] at h
    obtain ⟨h1, h2, h3⟩ := parB_split h.2
    refine ⟨fun x hx => ?_, ?_, fun x hx => ?_⟩
    · rcases List.mem_cons.1 hx with rfl | hx
      · simpa using (h.1 s (by simp)).2
      · exact h1 x hx
    · simp only [List.cons_append, parB, Bool.and_eq_true, List.all_eq_true]
      refine ⟨fun t ht => h.1 t ?_, h2⟩
      rcases List.mem_append.1 ht with ht | ht <;> simp [ht]
    · simp only [List.cons_append, List.mem_cons] at hx
      rcases hx with rfl | hx
      · have := (h.1 s (by simp)).1
        intro e; simp [e] at this
      · exact h3 x hx

section
variable {P : Program} {ops : Array Oper} {n0 : Nat} {D : Nat → Says} {md : Region.Mode} {Q : Exit → Act → World → Prop}
/-- what stands behind the first N operations waits for them all -/
def tailB (T : Array Nat) (ops : Array Oper) (N : Nat) : Bool := (List.range ops.size).all fun j => decide (j < N) || (List.range N).all fun i => waits T j i
def headsDone (ops : Array Oper) (N : Nat) : Array Bool := (Array.range ops.size).map fun i => decide (i < N)
theorem wpAny_of_par {w0 : World} {N m : Nat} {T : Array Nat} (hTab : ancOk md ops T = true) (hsel : ∀ (j : Nat) (o : Oper) cs b, ops[j]? = some o → o.op ≠ .select cs b) (hNm : N + m = ops.size) (hT : tailB T ops N = true) (hseq : Region.seqB md ops m N (headsDone ops N) = true) (tail : List Oper) (htl : tail.length = m) (htail : ∀ j, tail[j]? = ops[N + j]?) :
    ∀ (n : Nat) (π : List PStep) (listed : Array Bool) (Γ : List HProp) (a : Act) (w : World), π.length = n → parB T ops n0 π = true → parL md ops N π = true → Down md ops listed → (∀ s ∈ π, s.i < N) → listed.size = ops.size →
      (∀ i, i < ops.size → (listed.getD i true = false ↔ (∃ s ∈ π, s.i = i) ∨ N ≤ i)) → On w0 w Γ →
      par P ops n0 D (fun Γ a => ∀ w', On w0 w' Γ → wpList P ops Q tail a w') π Γ a → wpAny P md ops Q (n + m) listed a w := by
  intro n
  induction n with
  | zero =>
    intro π listed Γ a w hn _ _ _ _ hsz hl hs h
    have : π = [] := List.eq_nil_of_length_eq_zero hn
    subst this
    have he : listed = headsDone ops N := by
      apply Array.ext
      · simp [headsDone, hsz]
      · intro i h1 h2
        have h3 := hl i (by omega)
        simp only [List.not_mem_nil, false_and, exists_false, false_or] at h3
        simp only [headsDone, Array.getElem_map, Array.getElem_range]
        simp [h1] at h3
        cases hx : listed[i] with
        | false => rw [hx] at h3; have := h3.1 rfl; simp; omega
        | true => rw [hx] at h3; simp at h3; simp; omega
    subst he
    rw [Nat.zero_add, ← htl]
    exact wpAny_of_seq tail N _ a w htail (by rw [htl]; exact hseq) (h w hs)
  | succ n ih =>
    intro π listed Γ a w hn hB hL hdn hlt0 hsz hl hs h
    have run : ∀ i ∈ Region.ready md ops listed, wpOp P ops Q i (wpAny P md ops Q (n + m) (listed.setIfInBounds i true)) a w := by
      intro i hi
      obtain ⟨h0, o, ho, hall⟩ := mem_ready.1 hi
      have hlt := (Array.getElem?_eq_some_iff.1 ho).1
      have hiN : i < N := by
        rcases Nat.lt_or_ge i N with h' | h'
        · exact h'
        · exfalso
          cases π with
          | nil => cases hn
          | cons s0 r0 =>
            have hs0 := hlt0 s0 (by simp)
            simp only [tailB, List.all_eq_true, List.mem_range, Bool.or_eq_true, decide_eq_true_eq] at hT
            have h5 := (hT i hlt).resolve_left (by omega) s0.i hs0
            have h6 := anc_listed hTab hdn i o ho hall s0.i (by omega) h5
            have h7 := (hl s0.i (by omega)).2 (.inl ⟨s0, by simp, rfl⟩)
            have h8 : s0.i < listed.size := by omega
            simp [h8] at h6 h7
            rw [h6] at h7; cases h7
      obtain ⟨s, hsm, rfl⟩ := ((hl i hlt).1 h0).resolve_right (by omega)
      obtain ⟨π1, π2, rfl⟩ := List.append_of_mem hsm
      obtain ⟨h1, h2, h3⟩ := parB_split hB
      have hind : ∀ x ∈ π1, indep n0 ops x s = true := by
        intro x hx
        rcases h1 x hx with hw | hi
        · exfalso
          have hxlt : x.i < ops.size := by have := hlt0 x (by simp [hx]); omega
          have h4 := anc_listed hTab hdn s.i o ho hall x.i hxlt hw
          have h5 := (hl x.i hxlt).2 (.inl ⟨x, by simp [hx], rfl⟩)
          have hx2 : x.i < listed.size := by omega
          simp [hx2] at h4 h5
          rw [h4] at h5; cases h5
        · exact hi
      have nextl : ∀ i, i < ops.size → ((listed.setIfInBounds s.i true).getD i true = false ↔ (∃ x ∈ π1 ++ π2, x.i = i) ∨ N ≤ i) := by
        intro i hi
        by_cases e : s.i = i
        · subst e
          constructor
          · intro h; exfalso
            have : s.i < listed.size := by omega
            simp [this] at h
          · rintro (⟨x, hx, he⟩ | h)
            · exact absurd he (h3 x hx)
            · omega
        · rw [getD_set_ne true e, hl i hi]
          constructor
          · rintro (⟨x, hx, rfl⟩ | h)
            · refine .inl ⟨x, ?_, rfl⟩
              simp only [List.mem_append, List.mem_cons] at hx ⊢
              rcases hx with hx | rfl | hx
              · exact .inl hx
              · exact absurd rfl e
              · exact .inr hx
            · exact .inr h
          · rintro (⟨x, hx, rfl⟩ | h)
            · refine .inl ⟨x, ?_, rfl⟩
              simp only [List.mem_append, List.mem_cons] at hx ⊢
              rcases hx with hx | hx
              · exact .inl hx
              · exact .inr (.inr hx)
            · exact .inr h
      have hlen : (π1 ++ π2).length = n := by simp only [List.length_append, List.length_cons] at hn ⊢; omega
      have hdn' : Down md ops (listed.setIfInBounds s.i true) := by
        intro k ok hok hk e he hb
        by_cases e0 : s.i = k
        · subst e0
          obtain rfl : ok = o := Option.some.inj (hok.symm.trans ho)
          exact getD_set_true (hall e he hb)
        · refine getD_set_true (hdn k ok hok ?_ e he hb)
          rw [getD_set_ne false e0] at hk
          exact hk
      have hlt1 : ∀ x ∈ π1 ++ π2, x.i < N := fun x hx => hlt0 x (by
        rcases List.mem_append.1 hx with h | h <;> simp [h])
      have go : ∀ v Γ' w', res P ops n0 D s o Γ a Γ' v → On w0 w' Γ' → wpAny P md ops Q (n + m) (listed.setIfInBounds s.i true) (a.put o.dst v) w' := fun v Γ' w' hr hs' =>
        ih (π1 ++ π2) _ Γ' _ w' hlen h2 (parL_split hL) hdn' hlt1 (by simpa using hsz) nextl hs' (par_pull hsel ho π2 π1 Γ Γ' a v hind hr h)
      obtain ⟨o', ho', hp⟩ := par_find hsel ho π2 π1 Γ a w hind hs.2 h
      obtain rfl : o' = o := Option.some.inj (ho'.symm.trans ho)
      unfold wpOp
      simp only [ho]
      have hsl := hs.2.sel s.use
      rcases hp with ⟨hk, hw, v, hv, _⟩ | ⟨hk, hw, hd, _⟩ | ⟨hk, hw, _⟩
      · rw [if_pos hw]
        left
        unfold Oper.wp
        have hu : Sat w (sel s.use Γ) := hsl.sub (List.sublist_append_left _ _)
        rw [hv w hu]
        exact go v Γ w (.inl ⟨hk, hv, ⟨w, hu⟩, rfl⟩) hs
      · rw [if_pos hw]
        left
        refine (hd w _ hsl).wp fun v w' ⟨h5, h6⟩ => ?_
        have h7 := Sat.pack_iff.1 h6
        simp only [List.cons_append, List.nil_append] at h7
        obtain ⟨hφ, h8⟩ := Sat.pur_iff.1 h7
        exact go v _ w' (.inr (.inl ⟨hk, hφ, rfl⟩)) ⟨hs.1.trans h5, h8.put _⟩
      · rw [if_neg (by simp [hw])]
        exact go _ Γ w (.inr (.inr ⟨hk, rfl, rfl⟩)) hs
    rw [show n + 1 + m = (n + m) + 1 by omega]
    refine ⟨fun h0 => ?_, run⟩
    -- some operation is ready: the head of π waits for nothing
    exfalso
    cases π with
    | nil => cases hn
    | cons s r =>
      simp only [parL, Bool.and_eq_true] at hL
      cases ho : ops[s.i]? with
      | none => rw [ho] at hL; cases hL.1
      | some o =>
        have hlt := (Array.getElem?_eq_some_iff.1 ho).1
        have h1 := hL.1
        rw [ho] at h1
        dsimp only at h1
        rw [Array.all_eq_true] at h1
        have : s.i ∈ Region.ready md ops listed := by
          refine mem_ready.2 ⟨(hl s.i hlt).2 (.inl ⟨s, by simp, rfl⟩), o, ho, fun e he hb => ?_⟩
          obtain ⟨k, hk, rfl⟩ := Array.getElem_of_mem he
          have h2 := h1 k hk
          simp only [hb, Bool.not_true, Bool.false_or, Bool.and_eq_true, decide_eq_true_eq, List.all_eq_true, bne_iff_ne] at h2
          obtain ⟨⟨h3, h4⟩, h5⟩ := h2
          have h6 : listed.getD (o.after[k]).on true ≠ false := by
            rw [ne_eq, hl _ (by omega)]
            rintro (⟨x, hx, he⟩ | h)
            · rcases List.mem_cons.1 hx with rfl | hx
              · exact h4 he.symm
              · exact h5 x hx he
            · omega
          have hx2 : (o.after[k]).on < listed.size := by omega
          simp [hx2] at h6 ⊢
          exact h6
        rw [h0] at this; cases this
/-- the steps fit the first N operations of the region; what stands behind them follows in the order of the text -/
def parOk (ops : Array Oper) (n0 N : Nat) (π : List PStep) : Bool :=
  let T := Region.before ops
  Region.noSelect ops && decide (π.length = N) && parB T ops n0 π && parL .any ops N π && (List.range N).all (fun i => π.any (fun s => s.i == i)) && decide (N ≤ ops.size) && tailB T ops N && Region.seqB .any ops (ops.size - N) N (headsDone ops N) && π.all (fun s => decide (s.i < N)) && ancOk .any ops T
theorem getD_both_false {n i : Nat} : (Array.replicate n false).getD i false = false := by
  simp only [Array.getD_eq_getD_getElem?, Array.getElem?_replicate]
  split <;> rfl
theorem wp_region_par {w0 w : World} {id : Nat} {l : List Oper} {a : Act} {Γ : List HProp} (N : Nat) (π : List PStep) (n0 : Nat) (D : Nat → Says) (hs : On w0 w Γ) (hm : P.follows .mixedOrders = true) (hB : parOk l.toArray n0 N π = true)
    (h : par P l.toArray n0 D (fun Γ a => ∀ w', On w0 w' Γ → wpList P l.toArray Q (l.drop N) a w') π (Γ ++ List.replicate N emp) a) : (Code.region id l.toArray true).wp P Q a w := by
  simp only [parOk, Bool.and_eq_true, decide_eq_true_eq, List.all_eq_true, List.mem_range, List.any_eq_true, beq_iff_eq] at hB
  obtain ⟨⟨⟨⟨⟨⟨⟨⟨⟨h1, h2⟩, h3⟩, h4⟩, h5⟩, h6⟩, h7⟩, h8⟩, h9⟩, h10⟩ := hB
  refine wp_region_any hm ?_
  have hs' : On w0 w.drew (Γ ++ List.replicate N emp) := by
    refine (On.map hs fun h => ?_).drew
    generalize N = k
    induction k with
    | zero => simpa using h
    | succ k ih =>
      have := Sat.emp_iff.2 ih
      refine this.perm ?_
      rw [List.replicate_succ]
      exact List.perm_middle.symm
  have hsz : l.toArray.size = l.length := by simp
  have := wpAny_of_par (md := .any) (N := N) (m := l.toArray.size - N) (Q := Q) (w0 := w0) h10 (Region.noSelect_spec h1) (by omega) h7 h8 (l.drop N) (by simp) (fun j => by simp) N π (Array.replicate l.toArray.size false) _ a w.drew h2 h3 h4 (fun k o _ hk => by rw [getD_both_false] at hk; cases hk) h9 (by simp) (fun i hi => by
    have hi' : i < l.length := by simpa using hi
    simp only [Array.getD_eq_getD_getElem?, Array.getElem?_replicate, hi, if_true, Option.getD_some, true_iff]
    rcases Nat.lt_or_ge i N with h' | h'
    · exact .inl (h5 i h')
    · exact .inr h') hs' h
  rw [show N + (l.toArray.size - N) = l.toArray.size by omega] at this
  exact this
/-- an operation by its number -/
def nthO : List Oper → Nat → Option Oper
  | [], _ => none
  | o :: _, 0 => some o
  | _ :: r, n + 1 => nthO r n
theorem nthO_eq : ∀ (l : List Oper) (i : Nat), l.toArray[i]? = nthO l i
  | [], i => by simp [nthO]
  | o :: l, 0 => by simp [nthO]
  | o :: l, i + 1 => by have := nthO_eq l i; simpa [nthO] using this
section
variable {l : List Oper} {K : List HProp → Act → Prop} {r : List PStep} {i : Nat} {use : List Nat} {Γ : List HProp} {a : Act} {o : Oper}
theorem par_nil (h : K Γ a) : par P l.toArray n0 D K [] Γ a := h
theorem par_q (ho : nthO l i = some o) (hw : Region.wanted o (yielded l.toArray a.tmps) = true) (h : ∃ v, (∀ w, Sat w (sel use Γ) → (execOp a.eval o).run P w = .ok (.value v) w) ∧ par P l.toArray n0 D K r Γ (a.put o.dst v)) : par P l.toArray n0 D K (⟨0, i, use⟩ :: r) Γ a :=
  ⟨o, (nthO_eq l i).trans ho, .inl ⟨rfl, hw, h⟩⟩
theorem par_no (ho : nthO l i = some o) (hw : Region.wanted o (yielded l.toArray a.tmps) = false) (h : par P l.toArray n0 D K r Γ (a.put o.dst undef)) : par P l.toArray n0 D K (⟨2, i, use⟩ :: r) Γ a :=
  ⟨o, (nthO_eq l i).trans ho, .inr (.inr ⟨rfl, hw, h⟩)⟩
theorem par_e {φ : Value → Prop} {B : Value → HProp} (ho : nthO l i = some o) (hw : Region.wanted o (yielded l.toArray a.tmps) = true) (hD : D i = ⟨fun _ => φ, fun _ => B⟩) (hd : Does P (execOp a.eval o) (sel use Γ) (fun v => pack [pur (φ v), B v]))
    (h : ∀ v, φ v → par P l.toArray n0 D K r (after (n0 + i) use (B v) Γ) (a.put o.dst v)) : par P l.toArray n0 D K (⟨1, i, use⟩ :: r) Γ a := by
  refine ⟨o, (nthO_eq l i).trans ho, .inr (.inl ⟨rfl, hw, ?_⟩)⟩
  rw [hD]
  exact ⟨hd, h⟩
theorem par_load1 {t : TypeId} {addr : Operand} {b k : Nat} {cs : Array Value} {T : TypeId} {fr : Nat × Nat} {v : Value} (ho : nthO l i = some o) (hw : Region.wanted o (yielded l.toArray a.tmps) = true) (hop : o.op = .load t addr) (ha : a.eval addr = .pointer (some ⟨b, k, none⟩))
    (hb : At (sel use Γ) b (.cells cs T fr)) (hi : ∀ w, (isAgg t).run P w = .ok false w) (hv : cs[k]? = some v) (h : par P l.toArray n0 D K r Γ (a.put o.dst v)) : par P l.toArray n0 D K (⟨0, i, use⟩ :: r) Γ a :=
  par_q ho hw ⟨v, fun w hs => exec_load hop ha (run_load1 (hb w hs) (hi w) hv), h⟩
theorem par_loadN {t : TypeId} {addr : Operand} {b k n : Nat} {cs : Array Value} {T : TypeId} {fr : Nat × Nat} {vs : Array Value} (ho : nthO l i = some o) (hw : Region.wanted o (yielded l.toArray a.tmps) = true) (hop : o.op = .load t addr) (ha : a.eval addr = .pointer (some ⟨b, k, none⟩))
    (hb : At (sel use Γ) b (.cells cs T fr)) (hi : ∀ w, (isAgg t).run P w = .ok true w) (hn : ∀ w, (sizeOf t).run P w = .ok n w) (hk : decide (k + n ≤ cs.size) = true) (hv : ((cs.toList.drop k).take n).toArray = vs) (h : par P l.toArray n0 D K r Γ (a.put o.dst (.agg vs))) : par P l.toArray n0 D K (⟨0, i, use⟩ :: r) Γ a :=
  par_q ho hw ⟨.agg vs, fun w hs => exec_load hop ha (hv ▸ extract_take cs k n ▸ run_loadN (hb w hs) (hi w) (hn w) (of_decide_eq_true hk)), h⟩
/-- a load whose cell is known in every world that holds what it reads -/
theorem par_loadC {t : TypeId} {addr : Operand} {p : Addr} {v : Value} (ho : nthO l i = some o) (hw : Region.wanted o (yielded l.toArray a.tmps) = true) (hop : o.op = .load t addr) (ha : a.eval addr = .pointer (some p))
    (hi : ∀ w, (isAgg t).run P w = .ok false w) (hc : ∀ w, Sat w (sel use Γ) → w.cell? p = some v) (h : par P l.toArray n0 D K r Γ (a.put o.dst v)) : par P l.toArray n0 D K (⟨0, i, use⟩ :: r) Γ a :=
  par_q ho hw ⟨v, fun w hs => exec_load hop ha (by
    have hp : (Instr.sureAddr (.pointer (some p))).run P w = .ok p w := rfl
    have := hc w hs
    simp [Instr.loadAt, loadVar, hp, hi, this]), h⟩
end
end
end Go.Proofs.Ytediappljpkblaa
