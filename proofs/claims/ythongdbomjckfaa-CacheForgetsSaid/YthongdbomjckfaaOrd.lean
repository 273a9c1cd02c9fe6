/- A region that draws its order, walked in one given processing order: what only reads in a class of worlds is taken first, what has an effect comes alone. -/
import Derived.Test.YthongdbomjckfaaReg
import Derived.OrdersHeld
namespace Go.Proofs.Ythongdbomjckfaa
open Go.RowKit
/-! ### Loads beside operations with effects: a processing order is given; what only reads in a class S is taken first, what has an effect comes alone -/
section
variable {P : Program} {ops : Array Oper} {md : Region.Mode} {S : World → Prop} {Q : Exit → Act → World → Prop}
def heldB (md : Region.Mode) (ops : Array Oper) : List (Nat × Bool) → Array Bool → Bool
  | [], listed => (Region.ready md ops listed).isEmpty
  | (i, true) :: r, listed => decide (Region.ready md ops listed = [i]) && heldB md ops r (listed.setIfInBounds i true)
  | (i, false) :: r, listed => (Region.ready md ops listed).contains i && Region.free md ops listed i && heldB md ops r (listed.setIfInBounds i true)
/-- what is asked behind an operation with an effect -/
def heldQ (S : World → Prop) (Q : Exit → Act → World → Prop) (K : Act → World → Prop) : Exit → Act → World → Prop
  | .normal, a, w => S w ∧ K a w
  | e, a, w => Q e a w
def nthO : List Oper → Nat → Option Oper
  | [], _ => none
  | o :: _, 0 => some o
  | _ :: r, n + 1 => nthO r n
theorem nthO_eq : ∀ (l : List Oper) (i : Nat), l.toArray[i]? = nthO l i
  | [], i => by simp [nthO]
  | o :: l, 0 => by simp [nthO]
  | o :: l, i + 1 => by have := nthO_eq l i; simpa [nthO] using this
def wpHeld (P : Program) (l : List Oper) (S : World → Prop) (Q : Exit → Act → World → Prop) : List (Nat × Bool) → Act → World → Prop
  | [], a, w => Q .normal a w
  | (i, false) :: r, a, w => ∃ o, nthO l i = some o ∧ ((Region.wanted o (yielded l.toArray a.tmps) = true ∧ ∃ v, (∀ w', S w' → (execOp a.eval o).run P w' = .ok (.value v) w') ∧ wpHeld P l S Q r (a.put o.dst v) w) ∨
      (Region.wanted o (yielded l.toArray a.tmps) = false ∧ wpHeld P l S Q r (a.put o.dst undef) w))
  | (i, true) :: r, a, w => ∃ o, nthO l i = some o ∧ wpList P l.toArray (heldQ S Q (wpHeld P l S Q r)) [o] a w
theorem wp_heldQ {o : Oper} {a : Act} {w : World} {K K2 : Act → World → Prop} (h : o.wp P a w K (heldQ S Q K2)) : o.wp P a w K Q := by
  unfold Oper.wp at *
  generalize (execOp a.eval o).run P w = r at *
  cases r with
  | ok n w' =>
    cases n <;> simp only [Oper.upon] at h ⊢ <;> exact h
  | halt x w' => cases x <;> simp only [Oper.upon] at h ⊢ <;> exact h
theorem wpOp_of_heldList {i : Nat} {o : Oper} {a : Act} {w : World} {K : Act → World → Prop} (hi : ops[i]? = some o) (h : wpList P ops (heldQ S Q K) [o] a w) : wpOp P ops Q i (fun a' w' => S w' ∧ K a' w') a w := by
  unfold wpOp
  simp only [hi]
  unfold wpList at h
  split
  · rename_i hw
    rw [if_pos hw] at h
    rcases h with h | ⟨h1, a0, w0, h2⟩
    · refine .inl ?_
      have := wp_heldQ h
      exact this
    · exact .inr ⟨h1, a0, w0, h2⟩
  · rename_i hw
    rw [if_neg hw] at h
    exact h
theorem wpAnyH_of_held {l : List Oper} (hsel : Region.noSelect l.toArray = true) (hQ : ∀ c (a : Act) d v w, Q (.panic c) (a.put d v) w → Q (.panic c) a w) :
    ∀ (π : List (Nat × Bool)) (listed : Array Bool) (a : Act) (w : World), heldB md l.toArray π listed = true → S w → wpHeld P l S Q π a w → wpAnyH P md l.toArray Q S π.length listed a w
  | [], listed, a, w, hB, _, h => ⟨by simpa [heldB] using hB, h⟩
  | (i, false) :: r, listed, a, w, hB, hS, h => by
    simp only [heldB, Bool.and_eq_true] at hB
    obtain ⟨⟨hr, hf⟩, hB'⟩ := hB
    obtain ⟨o, ho, h⟩ := h
    rw [← nthO_eq] at ho
    rcases h with ⟨hw, v, hv, h⟩ | ⟨hw, h⟩
    · exact wpAnyH_take ho hsel hf hr (fun c a w => hQ c a _ _ w) (.inl ⟨hw, hv⟩) hS (wpAnyH_of_held hsel hQ r _ _ _ hB' hS h)
    · exact wpAnyH_take ho hsel hf hr (fun c a w => hQ c a _ _ w) (.inr ⟨hw, rfl⟩) hS (wpAnyH_of_held hsel hQ r _ _ _ hB' hS h)
  | (i, true) :: r, listed, a, w, hB, hS, h => by
    simp only [heldB, Bool.and_eq_true, decide_eq_true_eq] at hB
    obtain ⟨o, ho, h⟩ := h
    rw [← nthO_eq] at ho
    refine wpAnyH_all hB.1 (by simp) fun j hj => ?_
    have : j = i := by simpa using hj
    subst this
    exact wpOp_mono (fun a' w' h' => ⟨h'.1, wpAnyH_of_held hsel hQ r _ _ _ hB.2 h'.1 h'.2⟩) (wpOp_of_heldList ho h)
/-- A region in the given processing order. -/
theorem wp_region_ord {id : Nat} {a : Act} {w : World} {l : List Oper} (π : List (Nat × Bool)) (hm : P.follows .mixedOrders = true)
    (hB : (Region.noSelect l.toArray && decide (π.length = l.toArray.size) && heldB .any l.toArray π (Array.replicate l.toArray.size false)) = true) (S : World → Prop) (hS : S w.drew)
    (hQ : ∀ c (a : Act) d v w, Q (.panic c) (a.put d v) w → Q (.panic c) a w) (h : wpHeld P l S Q π a w.drew) : (Code.region id l.toArray true).wp P Q a w := by
  simp only [Bool.and_eq_true, decide_eq_true_eq] at hB
  refine wp_region_held (S := S) hm ?_
  have := wpAnyH_of_held (md := .any) hB.1.1 hQ π _ a w.drew hB.2 hS h
  rw [hB.1.2] at this
  exact this
theorem wpHeld_nil {l : List Oper} {a : Act} {w : World} (h : Q .normal a w) : wpHeld P l S Q [] a w := h
theorem wpHeld_q {l : List Oper} {i : Nat} {r : List (Nat × Bool)} {o : Oper} {a : Act} {w : World} (ho : nthO l i = some o) (hw : Region.wanted o (yielded l.toArray a.tmps) = true)
    (h : ∃ v, (∀ w', S w' → (execOp a.eval o).run P w' = .ok (.value v) w') ∧ wpHeld P l S Q r (a.put o.dst v) w) : wpHeld P l S Q ((i, false) :: r) a w := ⟨o, ho, .inl ⟨hw, h⟩⟩
theorem wpHeld_no {l : List Oper} {i : Nat} {r : List (Nat × Bool)} {o : Oper} {a : Act} {w : World} (ho : nthO l i = some o) (hw : Region.wanted o (yielded l.toArray a.tmps) = false)
    (h : wpHeld P l S Q r (a.put o.dst undef) w) : wpHeld P l S Q ((i, false) :: r) a w := ⟨o, ho, .inr ⟨hw, h⟩⟩
theorem wpHeld_e {l : List Oper} {i : Nat} {r : List (Nat × Bool)} {o : Oper} {a : Act} {w : World} (ho : nthO l i = some o) (h : wpList P l.toArray (heldQ S Q (wpHeld P l S Q r)) [o] a w) : wpHeld P l S Q ((i, true) :: r) a w := ⟨o, ho, h⟩
end
end Go.Proofs.Ythongdbomjckfaa
