/- awake: the example of chapter 53. -/
import Derived.Test.YtediappljpkblaaFew
namespace Go.Proofs.Ytediappljpkblaa
set_option linter.unusedSimpArgs false
set_option linter.unusedVariables false
open Go.RowKit

theorem reg_has {B : DirB} {w w' : World} (f : Fr (fun k => k = B.g) w w') : Fr B.has w w' := f.mono (fun _ _ x => by simp [DirB.has, x])
theorem register_as (w : World) (B : DirB) (D D' : Dir) (s i p n : Int) (h : DirAt w B D) (hn : D.ver (i, p) = n) (hD : { D with reg := putF D.reg (s, i, p) true, cap := D.cap + 1 } = D') :
    Calls Try.prog 14 #[.pointer (some ⟨B.b, 0, none⟩), .int .i64 s, .int .i64 i, .int .i64 p] w fun e w' => e = .returned (.int .i64 n) ∧ DirAt w' B D' ∧ Fr B.has w w' :=
  (register_any w B D s i p h).mono fun e w' ⟨h1, h2, h3⟩ => ⟨by rw [h1, hn], hD ▸ h2, reg_has h3⟩
theorem valid_as (w : World) (B : DirB) (D : Dir) (s i p v : Int) (b : Bool) (h : DirAt w B D) (hb : D.valid s i p v = b) :
    Calls Try.prog 15 #[.pointer (some ⟨B.b, 0, none⟩), .int .i64 s, .int .i64 i, .int .i64 p, .int .i64 v] w fun e w' => e = .returned (.bool b) ∧ DirAt w' B D ∧ Fr B.has w w' :=
  (valid_any w B D s i p v h).mono fun e w' ⟨h1, h2⟩ => ⟨by rw [h1, hb], h.qt h2, h2.mono (fun _ _ x => x.elim)⟩

def aD0 : Dir := ⟨0, fun _ => none, fun _ => none, fun _ => none, 0⟩
def aD1 : Dir := { aD0 with reg := putF aD0.reg (1, 9, 4) true, cap := aD0.cap + 1 }
def aD2 : Dir := aD1.change 9 [4, 5]
def aD3 : Dir := { aD2 with reg := putF aD2.reg (1, 9, 4) true, cap := aD2.cap + 1 }
def aD4 : Dir := aD3.renew 9
def aD5 : Dir := { aD4 with reg := putF aD4.reg (1, 9, 4) true, cap := aD4.cap + 1 }
def aD6 : Dir := { aD5 with reg := putF aD5.reg (1, 9, 77) true, cap := aD5.cap + 1 }
def aD7 : Dir := { aD6 with reg := putF aD6.reg (1, 8, 4) true, cap := aD6.cap + 1 }
theorem holds_aD3 (l : List Int) (h : aD3.holds 9 4 l) : l.length = 1 := by
  obtain ⟨nd, hm⟩ := h
  have key : ∀ s, (aD3.reg (s, 9, 4)).isSome = true ↔ s = 1 := fun s => by
    simp only [aD3, aD2, Dir.change, aD1, aD0, putF, offF, accChange]
    by_cases hs : s = 1
    · subst hs; simp
    · simp [hs]
  have h1 : (1 : Int) ∈ l := (hm 1).2 ((key 1).2 rfl)
  cases l with
  | nil => simp at h1
  | cons a r =>
    have ha : a = 1 := (key a).1 ((hm a).1 (by simp))
    cases r with
    | nil => rfl
    | cons b r =>
      have hb : b = 1 := (key b).1 ((hm b).1 (by simp))
      rw [ha, hb] at nd
      simp at nd
theorem rdInts_lit (w : World) (x y : Int) : RdInts (w.alloc (.cells #[.int .i64 x, .int .i64 y] 3)) (fun i => i = w.heap.size) (.slice (some ⟨w.heap.size, 0, none⟩) 2 2) [x, y] :=
  ⟨_, _, rfl, fun _ => ⟨_, _, rfl, rfl, by simp, fun j hj => by
    simp at hj
    match j, hj with
    | 0, _ => simp
    | 1, _ => simp⟩⟩
theorem Dir_new {w : World} {B : DirB} {D : Dir} (h : DirAt w B D) : ∀ i, B.has i → ¬ i = w.heap.size := by
  rintro i (rfl | rfl | rfl | rfl)
  · have := h.lt; omega
  · have := h.ren.lt; omega
  · have := h.chg.lt; omega
  · have := h.reg.lt; omega
theorem DirAt.step {w w' : World} {S : Nat → Prop} {L : Nat} (f : Fr S w w') (hS : ∀ i, S i → L ≤ i) {w0 : World} (f0 : Below L w0 w) (hl : L ≤ w.heap.size) : Below L w0 w' := f0.trans (f.below hl hS)

set_option maxHeartbeats 2000000 in
set_option maxRecDepth 100000 in
theorem awake_any (w : World) : Calls Try.prog 6 #[] w fun e w' => e = .returned (.bool true) ∧ Qt w w' := by
  go_enter Try.func6, Try.ntmps6
  go_wp2_with fail
  refine (new_any _).mono ?_
  rintro e w1 ⟨B, rfl, h1, q1, hge⟩
  have HG := Lib.hid hge
  clear hge
  go_wp2_with fail
  refine (register_as _ B aD0 aD1 1 9 4 0 h1 rfl rfl).mono ?_
  rintro e w2 ⟨rfl, h2, f2⟩
  go_wp2_with fail
  refine (valid_as _ B aD1 1 9 4 0 true h2 rfl).mono ?_
  rintro e w3 ⟨rfl, h3, f3⟩
  go_wp2_with fail
  refine (valid_as _ B aD1 2 9 4 0 false h3 rfl).mono ?_
  rintro e w4 ⟨rfl, h4, f4⟩
  go_wp2_with fail
  have g4 : DirAt (w4.alloc (.cells #[.int .i64 4, .int .i64 5] 3)) B aD1 := h4.qt ((Fr.refl _ _).alloc _)
  refine (change_any _ B aD1 (fun i => i = w4.heap.size) 9 _ [4, 5] g4 (Dir_new h4) (rdInts_lit w4 4 5) (by decide) (by decide)).mono ?_
  rintro e w5 ⟨rfl, h5', f5⟩
  have h5 : DirAt w5 B aD2 := h5'
  go_wp2_with fail
  refine (valid_as _ B aD2 1 9 4 0 false h5 rfl).mono ?_
  rintro e w6 ⟨rfl, h6, f6⟩
  go_wp2_with fail
  refine (register_as _ B aD2 aD3 1 9 4 1 h6 rfl rfl).mono ?_
  rintro e w7 ⟨rfl, h7, f7⟩
  go_wp2_with fail
  refine (valid_as _ B aD3 1 9 4 1 true h7 rfl).mono ?_
  rintro e w8 ⟨rfl, h8, f8⟩
  go_wp2_with fail
  refine (holders_any _ B aD3 9 4 h8 (by decide)).mono ?_
  rintro e w9 ⟨v, l, rfl, hl, _, own, _, q9⟩
  have hlen := holds_aD3 l hl
  rw [hlen] at own
  obtain ⟨A9, c9, rfl⟩ : ∃ A c, v = .slice A 1 c := by
    rcases own.2 with ⟨_, h0⟩ | ⟨g, cap, cur, rfl, _⟩
    · cases h0
    · exact ⟨_, _, rfl⟩
  have h9 := h8.qt q9
  clear own hl hlen
  go_wp2_with fail
  refine (renew_any _ B aD3 9 h9 (by decide) (by decide)).mono ?_
  rintro e w10 ⟨rfl, h10', f10⟩
  have h10 : DirAt w10 B aD4 := h10'
  go_wp2_with fail
  refine (valid_as _ B aD4 1 9 4 1 false h10 rfl).mono ?_
  rintro e w11 ⟨rfl, h11, f11⟩
  go_wp2_with fail
  refine (register_as _ B aD4 aD5 1 9 4 2 h11 rfl rfl).mono ?_
  rintro e w12 ⟨rfl, h12, f12⟩
  go_wp2_with fail
  refine (register_as _ B aD5 aD6 1 9 77 2 h12 rfl rfl).mono ?_
  rintro e w13 ⟨rfl, h13, f13⟩
  go_wp2_with fail
  refine (register_as _ B aD6 aD7 1 8 4 0 h13 rfl rfl).mono ?_
  rintro e w14 ⟨rfl, h14, f14⟩
  go_wp2
  go_ret
  refine ⟨rfl, ?_⟩
  have hb : ∀ {a b : World}, Fr B.has a b → w.heap.size ≤ a.heap.size → Below w.heap.size a b := fun f hs => f.below hs (fun i hi => HG.out i hi)
  have z1 := q1.size
  have z2 := Nat.le_trans z1 f2.size
  have z3 := Nat.le_trans z2 f3.size
  have z4 := Nat.le_trans z3 f4.size
  have f5' : Fr B.has w4 w5 := ((Fr.refl B.has _).alloc _).trans' f5
  have z5 := Nat.le_trans z4 f5'.size
  have z6 := Nat.le_trans z5 f6.size
  have z7 := Nat.le_trans z6 f7.size
  have z8 := Nat.le_trans z7 f8.size
  have z9 := Nat.le_trans z8 q9.size
  have z10 := Nat.le_trans z9 f10.size
  have z11 := Nat.le_trans z10 f11.size
  have z12 := Nat.le_trans z11 f12.size
  have z13 := Nat.le_trans z12 f13.size
  have bb := ((((((((((((((q1.below (Nat.le_refl _) (fun _ x => x.elim)).trans (hb f2 z1)).trans (hb f3 z2)).trans (hb f4 z3)).trans (hb f5' z4)).trans (hb f6 z5)).trans (hb f7 z6)).trans (hb f8 z7)).trans (q9.below z8 (fun _ x => x.elim))).trans (hb f10 z9)).trans (hb f11 z10)).trans (hb f12 z11)).trans (hb f13 z12)).trans (hb f14 z13))
  exact Fr.mono (below_fr bb) (fun i hi hh => by omega)
end Go.Proofs.Ytediappljpkblaa
