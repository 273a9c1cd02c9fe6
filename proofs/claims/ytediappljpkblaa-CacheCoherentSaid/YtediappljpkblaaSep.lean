/- Separation: a world holds a list of assertions, each with blocks of its own (or blocks that nobody writes any more); triples of calls and operations. No program in sight. -/
import Derived.WalkKit
import Derived.WalkSpells
import Derived.WalkLawsBesides
namespace Go.Proofs.Ytediappljpkblaa
set_option linter.unusedSimpArgs false
set_option linter.unusedVariables false
open Go.RowKit

/-- Blocks, each alone (false) or shared and never written again (true). -/
abbrev Res := Nat → Option (Bool × Obj)
abbrev HProp := Res → Prop
def Res.sep (a b : Res) : Prop := ∀ i, (∀ o, a i = some (false, o) → b i = none) ∧ (∀ o, b i = some (false, o) → a i = none)
def Res.fits (w : World) (r : Res) : Prop := ∀ i p o, r i = some (p, o) → w.heap[i]? = some o
def Res.le (a b : Res) : Prop := ∀ i x, a i = some x → b i = some x
def Res.one (b : Nat) (p : Bool) (o : Obj) : Res := fun i => if i = b then some (p, o) else none
theorem Res.sep.symm {a b : Res} (h : a.sep b) : b.sep a := fun i => ⟨(h i).2, (h i).1⟩
theorem Res.sep.le {a b a' : Res} (h : a.sep b) (ha : a'.le a) : a'.sep b := fun i => ⟨fun o ho => (h i).1 o (ha i _ ho), fun o ho => by
  have := (h i).2 o ho
  cases hx : a' i with
  | none => rfl
  | some x => rw [ha i x hx] at this; cases this⟩
theorem Res.fits.le {w : World} {a b : Res} (h : b.fits w) (hl : a.le b) : a.fits w := fun i p o ho => h i p o (hl i _ ho)
theorem Res.fits.of_heap {w w' : World} {r : Res} (h : r.fits w) (hw : ∀ i : Nat, (∃ x, r i = some x) → w'.heap[i]? = w.heap[i]?) : r.fits w' := fun i p o ho => (hw i ⟨_, ho⟩).trans (h i p o ho)

/-- the assertions of a list with their blocks -/
def Lay (L : List (HProp × Res)) : Prop := (∀ x ∈ L, x.1 x.2) ∧ L.Pairwise (fun x y => x.2.sep y.2)
theorem Lay.perm {L L' : List (HProp × Res)} (h : Lay L) (hp : L.Perm L') : Lay L' :=
  ⟨fun x hx => h.1 x (hp.mem_iff.2 hx), (hp.pairwise_iff (fun {_ _} h => Res.sep.symm h)).1 h.2⟩
/-- THE WORLD HOLDS THESE ASSERTIONS, APART. -/
def Sat (w : World) (Γ : List HProp) : Prop := ∃ L : List (HProp × Res), L.map (·.1) = Γ ∧ Lay L ∧ ∀ x ∈ L, x.2.fits w

theorem perm_lift {α β : Type _} (f : α → β) : ∀ {l l' : List β}, l.Perm l' → ∀ L : List α, L.map f = l → ∃ L', L.Perm L' ∧ L'.map f = l' := by
  intro l l' h
  induction h with
  | nil => intro L hL; exact ⟨L, .refl _, hL⟩
  | cons x _ ih =>
    intro L hL
    cases L with
    | nil => cases hL
    | cons y L => simp only [List.map_cons, List.cons.injEq] at hL; obtain ⟨L', h1, h2⟩ := ih L hL.2; exact ⟨y :: L', h1.cons y, by simp [hL.1, h2]⟩
  | swap x y l =>
    intro L hL
    cases L with
    | nil => cases hL
    | cons a L =>
      cases L with
      | nil => simp at hL
      | cons b L => simp only [List.map_cons, List.cons.injEq] at hL; exact ⟨b :: a :: L, .swap b a L, by simp [hL.1, hL.2.1, hL.2.2]⟩
  | trans _ _ ih1 ih2 =>
    intro L hL
    obtain ⟨L1, h1, h2⟩ := ih1 L hL
    obtain ⟨L2, h3, h4⟩ := ih2 L1 h2
    exact ⟨L2, h1.trans h3, h4⟩
theorem Sat.perm {w : World} {Γ Δ : List HProp} (h : Sat w Γ) (hp : Γ.Perm Δ) : Sat w Δ := by
  obtain ⟨L, rfl, h2, h3⟩ := h
  obtain ⟨L', h4, rfl⟩ := perm_lift _ hp L rfl
  exact ⟨L', rfl, h2.perm h4, fun x hx => h3 x (h4.mem_iff.2 hx)⟩
theorem Sat.sub {w : World} {Γ Δ : List HProp} (h : Sat w Γ) (hp : Δ.Sublist Γ) : Sat w Δ := by
  obtain ⟨L, rfl, h2, h3⟩ := h
  obtain ⟨L', h4, rfl⟩ := List.sublist_map_iff.1 hp
  exact ⟨L', rfl, ⟨fun x hx => h2.1 x (h4.subset hx), h2.2.sublist h4⟩, fun x hx => h3 x (h4.subset hx)⟩
theorem Sat.nil (w : World) : Sat w [] := ⟨[], rfl, ⟨by simp, by simp⟩, by simp⟩
theorem Sat.tail {w : World} {A : HProp} {Γ : List HProp} (h : Sat w (A :: Γ)) : Sat w Γ := h.sub (List.sublist_cons_self _ _)
theorem Sat.cons_iff {w : World} {A : HProp} {Γ : List HProp} : Sat w (A :: Γ) ↔ ∃ r L, L.map (·.1) = Γ ∧ A r ∧ r.fits w ∧ Lay L ∧ (∀ x ∈ L, x.2.fits w) ∧ ∀ x ∈ L, r.sep x.2 := by
  constructor
  · rintro ⟨L, h1, h2, h3⟩
    cases L with
    | nil => cases h1
    | cons x L =>
      simp only [List.map_cons, List.cons.injEq] at h1
      have hp := List.pairwise_cons.1 h2.2
      exact ⟨x.2, L, h1.2, h1.1 ▸ h2.1 x (by simp), h3 x (by simp), ⟨fun y hy => h2.1 y (by simp [hy]), hp.2⟩, fun y hy => h3 y (by simp [hy]), hp.1⟩
  · rintro ⟨r, L, rfl, h2, h3, h4, h5, h6⟩
    refine ⟨(A, r) :: L, rfl, ⟨?_, List.pairwise_cons.2 ⟨h6, h4.2⟩⟩, ?_⟩
    · intro x hx; rcases List.mem_cons.1 hx with rfl | hx; · exact h2
      · exact h4.1 x hx
    · intro x hx; rcases List.mem_cons.1 hx with rfl | hx; · exact h3
      · exact h5 x hx
theorem Sat.imp {w : World} {A B : HProp} {Γ : List HProp} (h : Sat w (A :: Γ)) (hAB : ∀ r, r.fits w → A r → B r) : Sat w (B :: Γ) := by
  rw [Sat.cons_iff] at *
  obtain ⟨r, L, h1, h2, h3, h4⟩ := h
  exact ⟨r, L, h1, hAB r h3 h2, h3, h4⟩

/-! ### Assertions -/
def emp : HProp := fun _ => True
def pur (p : Prop) : HProp := fun _ => p
def hex {α : Sort _} (f : α → HProp) : HProp := fun r => ∃ x, f x r
/-- block b is o, and its owner may write it -/
def pt (b : Nat) (o : Obj) : HProp := fun r => r = Res.one b false o
/-- block b is o, for good -/
def ro (b : Nat) (o : Obj) : HProp := fun r => r = Res.one b true o
/-- several assertions, apart -/
def pack (Δ : List HProp) : HProp := fun r => ∃ L : List (HProp × Res), L.map (·.1) = Δ ∧ Lay L ∧ ∀ x ∈ L, x.2.le r

theorem Sat.emp_iff {w : World} {Γ : List HProp} : Sat w (emp :: Γ) ↔ Sat w Γ := by
  refine ⟨Sat.tail, fun h => ?_⟩
  rw [Sat.cons_iff]
  obtain ⟨L, h1, h2, h3⟩ := h
  exact ⟨fun _ => none, L, h1, trivial, (fun i p o h => by cases h), h2, h3, fun x _ i => ⟨(fun o h => by cases h), fun _ _ => rfl⟩⟩
theorem Sat.pur_iff {w : World} {p : Prop} {Γ : List HProp} : Sat w (pur p :: Γ) ↔ p ∧ Sat w Γ := by
  constructor
  · intro h
    refine ⟨?_, h.tail⟩
    obtain ⟨r, L, _, h2, _⟩ := Sat.cons_iff.1 h
    exact h2
  · rintro ⟨hp, h⟩
    exact (Sat.emp_iff.2 h).imp (fun _ _ _ => hp)
theorem Sat.hex_iff {w : World} {α : Sort _} {f : α → HProp} {Γ : List HProp} : Sat w (hex f :: Γ) ↔ ∃ x, Sat w (f x :: Γ) := by
  simp only [Sat.cons_iff]
  constructor
  · rintro ⟨r, L, h1, ⟨x, h2⟩, h3⟩; exact ⟨x, r, L, h1, h2, h3⟩
  · rintro ⟨x, r, L, h1, h2, h3⟩; exact ⟨r, L, h1, ⟨x, h2⟩, h3⟩
theorem Lay.append_iff {L M : List (HProp × Res)} : Lay (L ++ M) ↔ Lay L ∧ Lay M ∧ ∀ x ∈ L, ∀ y ∈ M, x.2.sep y.2 := by
  unfold Lay
  rw [List.pairwise_append]
  constructor
  · rintro ⟨h1, h2, h3, h4⟩
    exact ⟨⟨fun x hx => h1 x (by simp [hx]), h2⟩, ⟨fun x hx => h1 x (by simp [hx]), h3⟩, h4⟩
  · rintro ⟨⟨h1, h2⟩, ⟨h3, h4⟩, h5⟩
    exact ⟨fun x hx => (List.mem_append.1 hx).elim (h1 x) (h3 x), h2, h4, h5⟩
/-- the resources of a list, joined -/
def joinR : List (HProp × Res) → Res
  | [] => fun _ => none
  | x :: L => fun i => (x.2 i).or (joinR L i)
theorem joinR_some {L : List (HProp × Res)} {i : Nat} {y : Bool × Obj} (h : joinR L i = some y) : ∃ x ∈ L, x.2 i = some y := by
  induction L with
  | nil => cases h
  | cons x L ih =>
    simp only [joinR] at h
    cases hx : x.2 i with
    | some z => rw [hx] at h; cases h; exact ⟨x, by simp, hx⟩
    | none => rw [hx, Option.none_or] at h; obtain ⟨z, hz, h⟩ := ih h; exact ⟨z, by simp [hz], h⟩
theorem joinR_le {w : World} {L : List (HProp × Res)} (h : Lay L) (hf : ∀ x ∈ L, x.2.fits w) : ∀ x ∈ L, x.2.le (joinR L) := by
  induction L with
  | nil => simp
  | cons y L ih =>
    have hp := List.pairwise_cons.1 h.2
    intro x hx i v hv
    simp only [joinR]
    rcases List.mem_cons.1 hx with rfl | hx
    · rw [hv]; rfl
    · have h1 := ih ⟨fun x hx => h.1 x (by simp [hx]), hp.2⟩ (fun x hx => hf x (by simp [hx])) x hx i v hv
      cases hy : y.2 i with
      | none => rw [Option.none_or]; exact h1
      | some z =>
        have h2 := hp.1 x hx i
        obtain ⟨p, o⟩ := v
        obtain ⟨q, o'⟩ := z
        cases p with
        | false => rw [h2.2 o hv] at hy; cases hy
        | true =>
          cases q with
          | false => rw [h2.1 o' hy] at hv; cases hv
          | true =>
            have e1 := hf x (by simp [hx]) i _ _ hv
            have e2 := hf y (by simp) i _ _ hy
            rw [e1] at e2; cases e2; rfl
theorem Sat.pack_iff {w : World} {Δ Γ : List HProp} : Sat w (pack Δ :: Γ) ↔ Sat w (Δ ++ Γ) := by
  constructor
  · intro h
    obtain ⟨r, L, rfl, ⟨M, rfl, hM, hle⟩, hf, hL, hLf, hs⟩ := Sat.cons_iff.1 h
    refine ⟨M ++ L, by simp, Lay.append_iff.2 ⟨hM, hL, fun x hx y hy => (hs y hy).le (hle x hx)⟩, fun x hx => ?_⟩
    rcases List.mem_append.1 hx with h | h
    · exact hf.le (hle x h)
    · exact hLf x h
  · rintro ⟨L, h1, h2, h3⟩
    obtain ⟨M, N, rfl, rfl, rfl⟩ := List.map_eq_append_iff.1 h1
    obtain ⟨hM, hN, hs⟩ := Lay.append_iff.1 h2
    have hf : ∀ x ∈ M, x.2.fits w := fun x hx => h3 x (by simp [hx])
    refine Sat.cons_iff.2 ⟨joinR M, N, rfl, ⟨M, rfl, hM, joinR_le hM hf⟩, ?_, hN, fun x hx => h3 x (by simp [hx]), fun x hx i => ?_⟩
    · intro i p o h
      obtain ⟨x, hx, h⟩ := joinR_some h
      exact hf x hx i p o h
    · refine ⟨fun o h => ?_, fun o h => ?_⟩
      · obtain ⟨y, hy, h⟩ := joinR_some h
        exact ((hs y hy x hx) i).1 o h
      · cases hj : joinR M i with
        | none => rfl
        | some z => obtain ⟨y, hy, hz⟩ := joinR_some hj; rw [((hs y hy x hx) i).2 o h] at hz; cases hz

/-! ### The world turns -/
/-- nothing but memory has turned -/
structure Same (w w' : World) : Prop where
  os : w'.os = w.os
  tape : w'.tape = w.tape
  output : w'.output = w.output
  size : w.heap.size ≤ w'.heap.size
theorem Same.refl (w : World) : Same w w := ⟨rfl, rfl, rfl, Nat.le_refl _⟩
theorem Same.trans {a b c : World} (h : Same a b) (k : Same b c) : Same a c := ⟨k.os.trans h.os, k.tape.trans h.tape, k.output.trans h.output, Nat.le_trans h.size k.size⟩
theorem Same.drew {a w : World} (h : Same a w) : Same a w.drew := ⟨h.os, h.tape, h.output, h.size⟩

/-- WHAT ONE ASSERTION OWNS TURNS; ALL ELSE HOLDS ON. -/
theorem Sat.upd {w w' : World} {A B : HProp} {Γ : List HProp} (hs : Sat w (A :: Γ))
    (h : ∀ r, A r → r.fits w → (∃ r', B r' ∧ r'.fits w' ∧ ∀ i p o, r' i = some (p, o) → w.heap.size ≤ i ∨ ∃ o0, r i = some (false, o0)) ∧
      ∀ i, i < w.heap.size → (∀ o0, r i ≠ some (false, o0)) → w'.heap[i]? = w.heap[i]?) : Sat w' (B :: Γ) := by
  obtain ⟨r, L, h1, h2, h3, h4, h5, h6⟩ := Sat.cons_iff.1 hs
  obtain ⟨⟨r', hB, hf, hn⟩, hk⟩ := h r h2 h3
  have lt : ∀ x ∈ L, ∀ i y, x.2 i = some y → i < w.heap.size := fun x hx i y hy => (Array.getElem?_eq_some_iff.1 (h5 x hx i y.1 y.2 hy)).1
  refine Sat.cons_iff.2 ⟨r', L, h1, hB, hf, h4, fun x hx => (h5 x hx).of_heap fun i ⟨y, hy⟩ => hk i (lt x hx i y hy) fun o0 ho => ?_, fun x hx i => ⟨fun o ho => ?_, fun o ho => ?_⟩⟩
  · rw [((h6 x hx) i).1 o0 ho] at hy; cases hy
  · rcases hn i _ _ ho with hi | ⟨o0, hi⟩
    · cases hx' : x.2 i with
      | none => rfl
      | some y => have := lt x hx i y hx'; omega
    · exact ((h6 x hx) i).1 o0 hi
  · cases hr : r' i with
    | none => rfl
    | some z =>
      rcases hn i z.1 z.2 hr with hi | ⟨o0, hi⟩
      · have := lt x hx i _ ho; omega
      · rw [((h6 x hx) i).2 o ho] at hi; cases hi
theorem Sat.heap {w w' : World} {Γ : List HProp} (hs : Sat w Γ) (h : ∀ i : Nat, i < w.heap.size → w'.heap[i]? = w.heap[i]?) : Sat w' Γ := by
  obtain ⟨L, h1, h2, h3⟩ := hs
  exact ⟨L, h1, h2, fun x hx => (h3 x hx).of_heap fun i ⟨y, hy⟩ => h i (Array.getElem?_eq_some_iff.1 (h3 x hx i y.1 y.2 hy)).1⟩
theorem Sat.drew {w : World} {Γ : List HProp} (hs : Sat w Γ) : Sat w.drew Γ := hs.heap fun _ _ => rfl
theorem Sat.drewN {w : World} {Γ : List HProp} (hs : Sat w Γ) (n : Nat) : Sat (w.drewN n) Γ := hs.heap fun _ _ => rfl
theorem Same.drewN {a w : World} (h : Same a w) (n : Nat) : Same a (w.drewN n) := ⟨h.os, h.tape, h.output, h.size⟩
theorem Res.fits_one {w : World} {b : Nat} {p : Bool} {o : Obj} (h : w.heap[b]? = some o) : (Res.one b p o).fits w := by
  intro i q x hx
  unfold Res.one at hx
  split at hx
  · rename_i e; subst e; cases hx; exact h
  · cases hx
theorem Res.one_at {b : Nat} {p : Bool} {o : Obj} : Res.one b p o b = some (p, o) := if_pos rfl
theorem Res.one_some {b i : Nat} {p : Bool} {o : Obj} {y : Bool × Obj} (h : Res.one b p o i = some y) : i = b ∧ y = (p, o) := by
  unfold Res.one at h
  split at h
  · rename_i e; cases h; exact ⟨e, rfl⟩
  · cases h
theorem Sat.alloc {w : World} {Γ : List HProp} (hs : Sat w Γ) (o : Obj) : Sat (w.alloc o) (pt w.heap.size o :: Γ) :=
  (Sat.emp_iff.2 hs).upd fun r _ _ => ⟨⟨_, rfl, Res.fits_one (heap_alloc_new w o), fun i p x hx => .inl (Nat.le_of_eq (Res.one_some hx).1.symm)⟩,
    fun i hi _ => Below.heap_alloc _ _ _ hi⟩
theorem Same.alloc (w : World) (o : Obj) : Same w (w.alloc o) := ⟨rfl, rfl, rfl, by simp⟩
theorem Sat.pt_heap {w : World} {Γ : List HProp} {b : Nat} {o : Obj} (hs : Sat w (pt b o :: Γ)) : w.heap[b]? = some o := by
  obtain ⟨r, _, _, rfl, h, _⟩ := Sat.cons_iff.1 hs
  exact h b _ _ Res.one_at
theorem Sat.ro_heap {w : World} {Γ : List HProp} {b : Nat} {o : Obj} (hs : Sat w (ro b o :: Γ)) : w.heap[b]? = some o := by
  obtain ⟨r, _, _, rfl, h, _⟩ := Sat.cons_iff.1 hs
  exact h b _ _ Res.one_at
theorem Sat.pt_upd {w w' : World} {Γ : List HProp} {b : Nat} {o o' : Obj} (hs : Sat w (pt b o :: Γ)) (h1 : w'.heap[b]? = some o') (h2 : ∀ i : Nat, i ≠ b → i < w.heap.size → w'.heap[i]? = w.heap[i]?) : Sat w' (pt b o' :: Γ) :=
  hs.upd fun r hr _ => ⟨⟨_, rfl, Res.fits_one h1, fun i p x hx => .inr ⟨o, by rw [hr, (Res.one_some hx).1]; exact Res.one_at⟩⟩,
    fun i hi hn => h2 i (fun e => hn o (by rw [hr, e]; exact Res.one_at)) hi⟩
theorem Sat.share {w : World} {Γ : List HProp} {b : Nat} {o : Obj} (hs : Sat w (pt b o :: Γ)) : Sat w (ro b o :: Γ) := by
  obtain ⟨r, L, h1, rfl, h3, h4, h5, h6⟩ := Sat.cons_iff.1 hs
  refine Sat.cons_iff.2 ⟨_, L, h1, rfl, Res.fits_one (h3 b _ _ Res.one_at), h4, h5, fun x hx i => ⟨fun o' ho => ?_, fun o' ho => ?_⟩⟩
  · have := (Res.one_some ho).2; cases this
  · have h7 := (h6 x hx i).2 o' ho
    unfold Res.one at h7 ⊢
    split at h7
    · cases h7
    · rename_i e; rw [if_neg e]
/-- what is shared may be had twice -/
def Dup (A : HProp) : Prop := ∀ r, A r → ∀ i o, r i ≠ some (false, o)
theorem Dup.ro (b : Nat) (o : Obj) : Dup (ro b o) := by
  rintro r rfl i o' h
  have := (Res.one_some h).2; cases this
theorem Sat.dup {w : World} {Γ : List HProp} {A : HProp} (hA : Dup A) (hs : Sat w (A :: Γ)) : Sat w (A :: A :: Γ) := by
  obtain ⟨r, L, h1, h2, h3, h4, h5, h6⟩ := Sat.cons_iff.1 hs
  refine Sat.cons_iff.2 ⟨r, (A, r) :: L, by simp [h1], h2, h3, ⟨?_, List.pairwise_cons.2 ⟨h6, h4.2⟩⟩, ?_, ?_⟩
  · intro x hx; rcases List.mem_cons.1 hx with rfl | hx; · exact h2
    · exact h4.1 x hx
  · intro x hx; rcases List.mem_cons.1 hx with rfl | hx; · exact h3
    · exact h5 x hx
  · intro x hx; rcases List.mem_cons.1 hx with rfl | hx
    · exact fun i => ⟨fun o h => absurd h (hA r h2 i o), fun o h => absurd h (hA r h2 i o)⟩
    · exact h6 x hx
theorem Sat.ne {w : World} {Γ : List HProp} {b c : Nat} {o o' : Obj} (hs : Sat w (pt b o :: pt c o' :: Γ)) : b ≠ c := by
  obtain ⟨r, L, h1, rfl, h3, h4, h5, h6⟩ := Sat.cons_iff.1 hs
  cases L with
  | nil => cases h1
  | cons x L =>
    simp only [List.map_cons, List.cons.injEq] at h1
    have hx : x.2 = Res.one c false o' := by have := h4.1 x (by simp); rw [h1.1] at this; exact this
    have := (h6 x (by simp) b).1 o Res.one_at
    rintro rfl
    rw [hx] at this; rw [Res.one_at] at this; cases this

/-! ### Taking -/
/-- A stands in Γ; Γ' is the rest -/
def Take (A : HProp) (Γ Γ' : List HProp) : Prop := Γ.Perm (A :: Γ')
theorem Take.head (A : HProp) (Γ : List HProp) : Take A (A :: Γ) Γ := .refl _
theorem Take.tail {A B : HProp} {Γ Γ' : List HProp} (h : Take A Γ Γ') : Take A (B :: Γ) (B :: Γ') := (List.Perm.cons B h).trans (.swap A B Γ')
def Takes (As Γ Γ' : List HProp) : Prop := Γ.Perm (As ++ Γ')
theorem Takes.nil (Γ : List HProp) : Takes [] Γ Γ := .refl _
theorem Takes.cons {A : HProp} {As Γ Γ' Γ'' : List HProp} (h : Take A Γ Γ') (k : Takes As Γ' Γ'') : Takes (A :: As) Γ Γ'' := h.trans (List.Perm.cons A k)
theorem Sat.take {w : World} {A : HProp} {Γ Γ' : List HProp} (hs : Sat w Γ) (h : Take A Γ Γ') : Sat w (A :: Γ') := hs.perm h
theorem Sat.takes {w : World} {As Γ Γ' : List HProp} (hs : Sat w Γ) (h : Takes As Γ Γ') : Sat w (As ++ Γ') := hs.perm h

/-! ### Triples -/
def Tri (P : Program) (f : FuncId) (args : Array Value) (A : List HProp) (B : Value → HProp) : Prop :=
  ∀ w F, Sat w (A ++ F) → Calls P f args w fun e w' => ∃ v, e = .returned v ∧ Same w w' ∧ Sat w' (B v :: F)
theorem Tri.use {P : Program} {f : FuncId} {args : Array Value} {A : List HProp} {B : Value → HProp} {w : World} {Γ Γ' : List HProp} {R : Ending → World → Prop} (h : Tri P f args A B) (ht : Takes A Γ Γ') (hs : Sat w Γ)
    (k : ∀ v w', Same w w' → Sat w' (B v :: Γ') → R (.returned v) w') : Calls P f args w R :=
  (h w Γ' (hs.takes ht)).mono fun e w' ⟨v, he, h1, h2⟩ => he ▸ k v w' h1 h2
/-- what a run may come to: a value and a world that R takes -/
def Comes1 (P : Program) (R : Value → World → Prop) : Result Next → Prop
  | .ok (.value v) w => R v w
  | .ok .skip w => R undef w
  | .ok (.enter f args) w => Calls P f args w fun e w' => ∃ v, e = .returned v ∧ R v w'
  | _ => False
def Does (P : Program) (s : Sem Next) (A : List HProp) (B : Value → HProp) : Prop :=
  ∀ w F, Sat w (A ++ F) → Comes1 P (fun v w' => Same w w' ∧ Sat w' (B v :: F)) (s.run P w)
/-- one operation: it comes to a value, and to a world -/
def OpTri (P : Program) (o : Oper) (a : Act) (A : List HProp) (B : Value → HProp) : Prop := Does P (execOp a.eval o) A B
theorem Comes1.wp {P : Program} {o : Oper} {a : Act} {w : World} {R : Value → World → Prop} {K : Act → World → Prop} {Q : Exit → Act → World → Prop} (h : Comes1 P R ((execOp a.eval o).run P w)) (k : ∀ v w', R v w' → K (a.put o.dst v) w') : o.wp P a w K Q := by
  unfold Oper.wp
  generalize (execOp a.eval o).run P w = r at h
  cases r with
  | halt x w' => exact h.elim
  | ok n w' =>
    cases n with
    | value v => exact k v w' h
    | skip => exact k _ w' h
    | enter f args => exact Calls.mono h fun e w'' ⟨v, he, hr⟩ => by subst he; exact k v w'' hr
    | _ => exact h.elim
theorem Comes1.ex {P : Program} {r : Result Next} {R : Value → World → Prop} (h : Comes1 P R r) : ∃ v w', R v w' := by
  cases r with
  | halt x w' => exact h.elim
  | ok n w' =>
    cases n with
    | value v => exact ⟨v, w', h⟩
    | skip => exact ⟨_, w', h⟩
    | enter f args =>
      obtain ⟨e, w'', _, ⟨v, _, hr⟩, _⟩ := h []
      exact ⟨v, w'', hr⟩
    | _ => exact h.elim
theorem Comes1.mono {P : Program} {r : Result Next} {R R' : Value → World → Prop} (h : Comes1 P R r) (k : ∀ v w, R v w → R' v w) : Comes1 P R' r := by
  cases r with
  | halt x w' => exact h.elim
  | ok n w' =>
    cases n with
    | value v => exact k _ _ h
    | skip => exact k _ _ h
    | enter f args => exact Calls.mono h fun e w'' ⟨v, he, hr⟩ => ⟨v, he, k _ _ hr⟩
    | _ => exact h.elim
theorem Does.imp {P : Program} {s : Sem Next} {A : List HProp} {B B' : Value → HProp} (h : Does P s A B) (k : ∀ v r, B v r → B' v r) : Does P s A B' :=
  fun w F hs => (h w F hs).mono fun v _ ⟨h1, h2⟩ => ⟨h1, h2.imp fun r _ => k v r⟩
/-- one operation: it comes to a value, the world stays -/
def OpRd (P : Program) (o : Oper) (a : Act) (A : List HProp) (v : Value) : Prop :=
  ∀ w F, Sat w (A ++ F) → (execOp a.eval o).run P w = .ok (.value v) w
theorem OpTri.list {P : Program} {o : Oper} {a : Act} {A : List HProp} {B : Value → HProp} {w : World} {Γ Γ' : List HProp} {ops : Array Oper} {Q : Exit → Act → World → Prop} {rest : List Oper} (h : OpTri P o a A B) (hw : Region.wanted o (yielded ops a.tmps) = true)
    (ht : Takes A Γ Γ') (hs : Sat w Γ) (k : ∀ v w', Same w w' → Sat w' (B v :: Γ') → wpList P ops Q rest (a.put o.dst v) w') : wpList P ops Q (o :: rest) a w := by
  unfold wpList
  rw [if_pos hw]
  exact .inl ((h w Γ' (hs.takes ht)).wp fun v w' ⟨h1, h2⟩ => k v w' h1 h2)
theorem OpRd.list {P : Program} {o : Oper} {a : Act} {A : List HProp} {v : Value} {w : World} {Γ Γ' : List HProp} {ops : Array Oper} {Q : Exit → Act → World → Prop} {rest : List Oper} (h : OpRd P o a A v) (hw : Region.wanted o (yielded ops a.tmps) = true)
    (ht : Takes A Γ Γ') (hs : Sat w Γ) (k : wpList P ops Q rest (a.put o.dst v) w) : wpList P ops Q (o :: rest) a w := by
  unfold wpList
  rw [if_pos hw]
  refine .inl ?_
  unfold Oper.wp
  rw [h w Γ' (hs.takes ht)]
  exact k
end Go.Proofs.Ytediappljpkblaa
