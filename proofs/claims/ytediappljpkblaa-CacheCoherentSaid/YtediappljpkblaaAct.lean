/- the acts of a law's argument, by separation. -/
import Derived.Test.YtediappljpkblaaDirTri
namespace Go.Proofs.Ytediappljpkblaa
set_option linter.unusedSimpArgs false
set_option linter.unusedVariables false
set_option linter.unusedSectionVars false
open Go.RowKit
theorem old_sl {w0 w : World} {Γ : List HProp} {v : Value} {xs : List Int} (h : RdInts w0 (fun i => i < w0.heap.size) v xs) (hs : On w0 w (old w0 :: Γ)) : On w0 w (sl 1 encI v xs :: old w0 :: Γ) := by
  obtain ⟨A, c, rfl, h⟩ := h
  refine On.imp (hs.dup (Dup.old w0)) fun r hr => ?_
  refine ⟨Dup.old w0 r hr, A, c, rfl, fun hA => ?_, ?_, fun k hk j u hu => ?_⟩
  · rcases Nat.eq_zero_or_pos xs.length with h0 | h0
    · exact List.eq_nil_of_length_eq_zero h0
    · obtain ⟨b, off, e, _⟩ := h h0; rw [hA] at e; cases e
  · rcases Nat.eq_zero_or_pos xs.length with h0 | h0
    · omega
    · obtain ⟨b, off, _, _, hl, _⟩ := h h0; exact hl
  · obtain ⟨b, off, e, hb, hl, hc⟩ := h (by omega)
    have h1 := hc k hk
    have hj : j = 0 := by have := (List.getElem?_eq_some_iff.1 hu).1; rw [encI_len] at this; omega
    subst hj
    have hu' : u = .int .i64 xs[k] := by simp [encI] at hu; exact hu.symm
    subst hu'
    have hb' : w0.heap[b]? = some w0.heap[b] := Array.getElem?_eq_getElem hb
    unfold World.cell? at h1
    simp only [hb'] at h1
    cases ho : w0.heap[b] with
    | cells cs T fr =>
      rw [ho] at h1 hb'
      refine ⟨b, off, cs, T, fr, e, by rw [hr]; simp [hb'], ?_⟩
      simp only [Option.isSome_none, Bool.false_eq_true, if_false] at h1
      rw [Nat.mul_one, Nat.add_zero, h1]; simp [hk]
    | _ => rw [ho] at h1; cases h1
theorem few53_ok {l : List Act53} {n : Int} (h : few53 l n = true) : (l.length : Int) ≤ n ∧ ∀ a ∈ l, a.pages.length ≤ 10 ∧ 0 ≤ a.page ∧ ∀ p ∈ a.pages, 0 ≤ p := by
  unfold few53 at h
  simp only [Bool.and_eq_true, decide_eq_true_eq, List.all_eq_true, Act53.ok] at h
  exact ⟨h.1, fun a ha => by
    obtain ⟨⟨h1, h2⟩, h3⟩ := h.2 a ha
    exact ⟨h1, h2, h3⟩⟩
theorem act_row {w0 : World} {b o : Nat} {a : Act53} (h : ActAt w0 (fun i => i < w0.heap.size) b o a) : ∃ A c, RowIn (old w0) b o [.int .i64 a.kind, .int .i64 a.sys, .int .i64 a.id, .int .i64 a.page, .slice A a.pages.length c] ∧ RdInts w0 (fun i => i < w0.heap.size) (.slice A a.pages.length c) a.pages := by
  obtain ⟨h0, h1, h2, h3, v, h4, h5⟩ := h
  obtain ⟨A, c, rfl, _⟩ := id h5
  refine ⟨A, c, old_row fun j u hu => ?_, h5⟩
  match j, hu with
  | 0, hu => cases hu; exact h0
  | 1, hu => cases hu; exact h1
  | 2, hu => cases hu; exact h2
  | 3, hu => cases hu; exact h3
  | 4, hu => cases hu; exact h4
end Go.Proofs.Ytediappljpkblaa
