/- From contracts that speak of worlds to assertions: what lay in memory at the start, and what a predicate over worlds says of blocks that are owned. -/
import Derived.Test.YtediappljpkblaaSepSl
import Derived.Test.YtediappljpkblaaMem
namespace Go.Proofs.Ytediappljpkblaa
set_option linter.unusedSimpArgs false
set_option linter.unusedVariables false
open Go.RowKit
/-- all blocks of w0, as they were -/
def old (w0 : World) : HProp := fun r => r = fun i => (w0.heap[i]?).map fun o => (true, o)
theorem old_start (w0 : World) : On w0 w0 [old w0] :=
  On.start (Sat.cons_iff.2 ⟨_, [], rfl, rfl, fun i p o h => by
    cases hw : w0.heap[i]? with
    | none => simp [hw] at h
    | some x => simp [hw] at h; rw [h.2], ⟨by simp, by simp⟩, by simp, by simp⟩)
theorem Dup.old (w0 : World) : Dup (old w0) := by
  rintro r rfl i o h
  cases hw : w0.heap[i]? with
  | none => simp [hw] at h
  | some x => simp [hw] at h
theorem old_heap {w0 w : World} {r : Res} (h : old w0 r) (hf : r.fits w) {b : Nat} {o : Obj} (hb : w0.heap[b]? = some o) : w.heap[b]? = some o := by
  subst h
  exact hf b true o (by simp [hb])
theorem old_cell {w0 : World} {p : Addr} {v : Value} (h : w0.cell? p = some v) : CellIn (old w0) p v := by
  intro w r hr hf
  have hlt := World.block_lt_of_cell? w0 p h
  rw [World.cell?_of_block (w := w0) ((old_heap hr hf (Array.getElem?_eq_getElem hlt)).trans (Array.getElem?_eq_getElem hlt).symm)]
  exact h
theorem old_row {w0 : World} {b k : Nat} {vs : List Value} (h : ∀ j u, vs[j]? = some u → w0.cell? ⟨b, k + j, none⟩ = some u) : RowIn (old w0) b k vs :=
  fun w r hr hf j u hu => old_cell (h j u hu) w r hr hf
theorem old_qt {w0 w : World} {Γ Γ' : List HProp} (hs : On w0 w Γ) (ht : Take (old w0) Γ Γ') : Fr Emp w0 w := by
  refine ⟨hs.1.os, hs.1.tape, hs.1.output, hs.1.size, fun k hk _ => ?_⟩
  obtain ⟨r, _, _, h2, h3, _⟩ := Sat.cons_iff.1 (hs.2.take ht)
  rw [Array.getElem?_eq_getElem hk]
  exact old_heap h2 h3 (Array.getElem?_eq_getElem hk)
/-- the blocks of S are owned, and a world that has them as they are is as Pw says -/
def atH (S : Nat → Prop) (Pw : World → Prop) : HProp := fun r => (∀ i, S i → ∃ o, r i = some (false, o)) ∧ (∀ i x, r i = some x → S i) ∧ ∀ w, r.fits w → Pw w
/-- Pw speaks of the blocks of S alone -/
def Local (S : Nat → Prop) (Pw : World → Prop) : Prop := ∀ w w' : World, (∀ i : Nat, S i → w'.heap[i]? = w.heap[i]?) → Pw w → Pw w'
theorem atH_use {w : World} {S : Nat → Prop} {Pw : World → Prop} {Γ Γ' : List HProp} (hs : Sat w Γ) (ht : Take (atH S Pw) Γ Γ') : Pw w := by
  obtain ⟨r, _, _, h2, h3, _⟩ := Sat.cons_iff.1 (hs.take ht)
  exact h2.2.2 w h3
open Classical in
/-- the blocks of S in w, owned -/
noncomputable def resOf (S : Nat → Prop) (w : World) : Res := fun i => if S i then (w.heap[i]?).map fun o => (false, o) else none
theorem resOf_some {S : Nat → Prop} {w : World} {i : Nat} {x : Bool × Obj} (h : resOf S w i = some x) : S i ∧ x.1 = false ∧ w.heap[i]? = some x.2 := by
  unfold resOf at h
  split at h
  · rename_i hi
    cases hw : w.heap[i]? with
    | none => simp [hw] at h
    | some o => simp [hw] at h; subst h; exact ⟨hi, rfl, rfl⟩
  · cases h
theorem resOf_atH {S : Nat → Prop} {Pw : World → Prop} {w : World} (hl : Local S Pw) (hS : ∀ i, S i → i < w.heap.size) (hP : Pw w) : atH S Pw (resOf S w) ∧ (resOf S w).fits w := by
  refine ⟨⟨fun i hi => ⟨w.heap[i]'(hS i hi), by unfold resOf; rw [if_pos hi, Array.getElem?_eq_getElem (hS i hi)]; rfl⟩, fun i x h => (resOf_some h).1, fun w' hf => hl w w' (fun i hi => ?_) hP⟩, fun i p o h => (resOf_some h).2.2⟩
  have h1 : resOf S w i = some (false, w.heap[i]'(hS i hi)) := by unfold resOf; rw [if_pos hi, Array.getElem?_eq_getElem (hS i hi)]; rfl
  rw [hf i _ _ h1, Array.getElem?_eq_getElem (hS i hi)]
theorem atH_step {w w' : World} {S T : Nat → Prop} {Pw Pw' : World → Prop} {Γ : List HProp} (hs : Sat w (atH S Pw :: Γ)) (hf : Fr T w w') (hT : ∀ i, T i → S i) (hl : Local S Pw') (hP : Pw' w') : Sat w' (atH S Pw' :: Γ) :=
  hs.upd fun r hr hfit => by
    have hS : ∀ i, S i → i < w'.heap.size := fun i hi => by
      obtain ⟨o, ho⟩ := hr.1 i hi
      exact Nat.lt_of_lt_of_le (Array.getElem?_eq_some_iff.1 (hfit i _ _ ho)).1 hf.size
    obtain ⟨h1, h2⟩ := resOf_atH hl hS hP
    refine ⟨⟨_, h1, h2, fun i p o h => .inr (hr.1 i (resOf_some h).1)⟩, fun i hi hn => hf.block i hi fun hT' => ?_⟩
    obtain ⟨o, ho⟩ := hr.1 i (hT i hT')
    exact hn o ho
theorem Sat.qt {w w' : World} {Γ : List HProp} (hs : Sat w Γ) (hf : Fr Emp w w') : Sat w' Γ := hs.heap fun i hi => hf.block i hi fun x => x
theorem Same.fr {w w' : World} {S : Nat → Prop} (hf : Fr S w w') : Same w w' := ⟨hf.os, hf.tape, hf.output, hf.size⟩
theorem atH_new {w w' : World} {S : Nat → Prop} {Pw : World → Prop} {Γ : List HProp} (hs : Sat w Γ) (hf : Fr Emp w w') (hS : ∀ i, S i → w.heap.size ≤ i ∧ i < w'.heap.size) (hl : Local S Pw) (hP : Pw w') : Sat w' (atH S Pw :: Γ) :=
  (Sat.emp_iff.2 hs).upd fun r _ _ => by
    obtain ⟨h1, h2⟩ := resOf_atH hl (fun i hi => (hS i hi).2) hP
    exact ⟨⟨_, h1, h2, fun i p o h => .inl (hS i (resOf_some h).1).1⟩, fun i hi _ => hf.block i hi fun x => x⟩
/-- a row that the call has made -/
theorem own_made {α : Type} {sz : Nat} {enc : α → List Value} {w w' : World} {E : TypeId} {v : Value} {xs : List α} {Γ : List HProp} (hs : Sat w Γ) (hf : Fr Emp w w') (h : w'.ownsRow w.heap.size E sz v xs.length (xs.flatMap enc)) : Sat w' (own E sz enc v xs :: Γ) := by
  rcases h.2 with ⟨rfl, h0⟩ | ⟨g, cap, cur, rfl, hb, hg, h1, h2, h3, h4⟩
  · have : xs = [] := List.eq_nil_of_length_eq_zero h0
    subst this
    exact own_nil (hs.qt hf)
  · refine (Sat.emp_iff.2 hs).upd fun r _ _ => ⟨⟨Res.one g false (.cells cur E (0, 0)), .inr ⟨g, cap, cur, rfl, rfl, h1, h2, h3, h4⟩, Res.fits_one hg, fun i p o hi => .inl ?_⟩, fun i hi _ => hf.block i hi fun x => x⟩
    rw [(Res.one_some hi).1]; exact hb
/-- a call that reads what A says and makes memory -/
theorem Tri.of_qt {P : Program} {f : FuncId} {args : Array Value} {A : List HProp} {v : Value} (h : ∀ w F, Sat w (A ++ F) → Calls P f args w fun e w' => e = .returned v ∧ Fr Emp w w') : Tri P f args A (fun r => pack (pur (r = v) :: A)) := by
  intro w F hs
  refine (h w F hs).mono ?_
  rintro e w' ⟨rfl, hf⟩
  exact ⟨v, rfl, Same.fr hf, Sat.pack_iff.2 (Sat.pur_iff.2 ⟨rfl, hs.qt hf⟩)⟩
/-- a call that turns what is owned -/
theorem Tri.of_at {P : Program} {f : FuncId} {args : Array Value} {A : List HProp} {S T : Nat → Prop} {Pw Pw' : World → Prop} {v : Value} (hT : ∀ i, T i → S i) (hl : Local S Pw') (h : ∀ w F, Sat w (atH S Pw :: (A ++ F)) → Calls P f args w fun e w' => e = .returned v ∧ Pw' w' ∧ Fr T w w') :
    Tri P f args (atH S Pw :: A) (fun r => pack (pur (r = v) :: atH S Pw' :: A)) := by
  intro w F hs
  refine (h w F hs).mono ?_
  rintro e w' ⟨rfl, hP, hf⟩
  exact ⟨v, rfl, Same.fr hf, Sat.pack_iff.2 (Sat.pur_iff.2 ⟨rfl, atH_step hs hf hT hl hP⟩)⟩
end Go.Proofs.Ytediappljpkblaa
