/- The acts as they lie in memory; few. -/
import Derived.Test.YtediappljpkblaaDirD
namespace Go.Proofs.Ytediappljpkblaa
set_option linter.unusedSimpArgs false
set_option linter.unusedVariables false
open Go.RowKit

theorem getD_mem (l : List Int) {j : Nat} (h : j < l.length) : l.getD j 0 ∈ l := by
  have : l.getD j 0 = l[j] := by simp [h]
  rw [this]; exact List.getElem_mem h

structure Act53 where
  kind : Int
  sys : Int
  id : Int
  page : Int
  pages : List Int
/-- an act's five cells from (b, o) on -/
def ActAt (w : World) (L : Nat → Prop) (b o : Nat) (a : Act53) : Prop :=
  w.cell? ⟨b, o, none⟩ = some (.int .i64 a.kind) ∧ w.cell? ⟨b, o + 1, none⟩ = some (.int .i64 a.sys) ∧ w.cell? ⟨b, o + 2, none⟩ = some (.int .i64 a.id) ∧ w.cell? ⟨b, o + 3, none⟩ = some (.int .i64 a.page) ∧
    ∃ v, w.cell? ⟨b, o + 4, none⟩ = some v ∧ RdInts w L v a.pages
def ActsAt (w : World) (L : Nat → Prop) (v : Value) (l : List Act53) : Prop :=
  ∃ A c, v = .slice A l.length c ∧ l.length ≤ 9223372036854775807 ∧ (0 < l.length → ∃ b off, A = some ⟨b, off, none⟩ ∧ L b ∧ ∀ k (hk : k < l.length), ActAt w L b (off + k * 5) l[k])
theorem ActAt.fr {w w' : World} {L : Nat → Prop} {b o : Nat} {a : Act53} {S : Nat → Prop} (h : ActAt w L b o a) (hb : L b) (hf : Fr S w w') (hs : ∀ i, L i → ¬ S i) : ActAt w' L b o a := by
  obtain ⟨h0, h1, h2, h3, v, h4, h5⟩ := h
  exact ⟨hf.cell h0 (hs b hb), hf.cell h1 (hs b hb), hf.cell h2 (hs b hb), hf.cell h3 (hs b hb), v, hf.cell h4 (hs b hb), h5.fr hf hs⟩
theorem ActsAt.fr {w w' : World} {L : Nat → Prop} {v : Value} {l : List Act53} {S : Nat → Prop} (h : ActsAt w L v l) (hf : Fr S w w') (hs : ∀ i, L i → ¬ S i) : ActsAt w' L v l := by
  obtain ⟨A, c, rfl, hl, h⟩ := h
  refine ⟨A, c, rfl, hl, fun h0 => ?_⟩
  obtain ⟨b, off, rfl, hb, hc⟩ := h h0
  exact ⟨b, off, rfl, hb, fun k hk => (hc k hk).fr hb hf hs⟩

/-- what 'few' asks of an act -/
def Act53.ok (a : Act53) : Bool := decide (a.pages.length ≤ 10) && decide (0 ≤ a.page) && a.pages.all fun p => decide (0 ≤ p)
def few53 (l : List Act53) (most : Int) : Bool := decide ((l.length : Int) ≤ most) && l.all Act53.ok

set_option maxHeartbeats 1000000 in
set_option maxRecDepth 100000 in
theorem few_any (w : World) (L : Nat → Prop) (v : Value) (l : List Act53) (most : Int) (h : ActsAt w L v l) :
    Calls Try.prog 5 #[v, .int .i64 most] w fun e w' => e = .returned (.bool (few53 l most)) ∧ Qt w w' := by
  obtain ⟨A, c, rfl, hl, hA⟩ := h
  have HA := Lib.hid hA
  clear hA
  by_cases hm : most < (l.length : Int)
  · go_enter Try.func5, Try.ntmps5
    go_wp2
    go_ret
    refine ⟨?_, Fr.refl _ _⟩
    have : few53 l most = false := by unfold few53; rw [decide_eq_false (by omega)]; rfl
    rw [this]; rfl
  · have hm' : (l.length : Int) ≤ most := by omega
    go_enter Try.func5, Try.ntmps5
    go_wp2
    go_loopw [15] (fun i wr => ∃ k : Nat, k ≤ l.length ∧ i = .int .i64 k ∧ (l.take k).all Act53.ok = true ∧ Qt w wr) (fun i _ => l.length - (intOf i).toNat)
    case atStart => exact ⟨0, Nat.zero_le _, rfl, by simp, Fr.refl _ _⟩
    case round =>
      obtain ⟨k, hk, rfl, hok, qq⟩ := hrel
      have OK := Lib.hid hok
      clear hok
      by_cases hlt : k < l.length
      · obtain ⟨b, off, rfl, hb, hc⟩ := HA.out (by omega)
        obtain ⟨wo, rfl⟩ : ∃ wo : World, wo = wr := ⟨_, rfl⟩
        obtain ⟨x, hx⟩ : ∃ x, x = l[k] := ⟨_, rfl⟩
        have hc' := hc k hlt
        rw [← hx] at hc'
        obtain ⟨g0, g1, g2, g3, pv, g4, g5⟩ := hc'.fr hb qq (fun _ _ x => x)
        obtain ⟨A2, c2, rfl, hp⟩ := g5
        have HX := Lib.hid hx
        have HP := Lib.hid hp
        clear hx hp hc hc'
        have hbad : x.ok = false → few53 l most = false := fun e => by
          have : l.all Act53.ok = false := by
            rw [Bool.eq_false_iff]; intro hall
            rw [List.all_eq_true] at hall
            have := hall l[k] (List.getElem_mem hlt)
            rw [← HX.out, e] at this; cases this
          unfold few53; rw [this]; simp
        have HB := Lib.hid hbad
        clear hbad
        by_cases p10 : 10 < (x.pages.length : Int)
        · have hb0 : decide (10 < (x.pages.length : Int)) = true := by simpa using p10
          have hbo : x.ok = false := by unfold Act53.ok; rw [decide_eq_false (by omega)]; rfl
          have HO := Lib.hid hbo
          clear hbo
          go_wp2
          go_ret
          exact ⟨by rw [HB.out HO.out]; rfl, qq.alloc _⟩
        · have hb0 : decide (10 < (x.pages.length : Int)) = false := by simpa using p10
          by_cases p0 : x.page < 0
          · have hb1 : decide (x.page < 0) = true := by simpa using p0
            have hbo : x.ok = false := by unfold Act53.ok; rw [decide_eq_false (p := 0 ≤ x.page) (by omega)]; simp
            have HO := Lib.hid hbo
            clear hbo
            go_wp2
            go_ret
            exact ⟨by rw [HB.out HO.out]; rfl, qq.alloc _⟩
          · have hb1 : decide (x.page < 0) = false := by simpa using p0
            go_wp2
            go_loopw [31] (fun i wr2 => ∃ j : Nat, j ≤ x.pages.length ∧ i = .int .i64 j ∧ (x.pages.take j).all (fun p => decide (0 ≤ p)) = true ∧ Qt wo wr2) (fun i _ => x.pages.length - (intOf i).toNat)
            case atStart => exact ⟨0, Nat.zero_le _, rfl, by simp, (Fr.refl _ _).alloc _⟩
            case round =>
              obtain ⟨j, hj, rfl, hjk, q2⟩ := hrel
              have HJ := Lib.hid hjk
              clear hjk
              by_cases hlt2 : j < x.pages.length
              · obtain ⟨b2, off2, rfl, hb2, hl2, hc2⟩ := HP.out (by omega)
                obtain ⟨y, hy⟩ : ∃ y, y = x.pages.getD j 0 := ⟨_, rfl⟩
                have cj : wr.cell? ⟨b2, off2 + j, none⟩ = some (.int .i64 y) := by rw [hy]; exact q2.cell (hc2 j hlt2) (fun x => x)
                have HY := Lib.hid hy
                clear hy hc2
                by_cases hy0 : y < 0
                · have hb2 : decide (y < 0) = true := by simpa using hy0
                  have hbo : x.ok = false := by
                    have : (x.pages.all fun p => decide (0 ≤ p)) = false := by
                      rw [Bool.eq_false_iff]; intro hall
                      rw [List.all_eq_true] at hall
                      have := hall (x.pages.getD j 0) (getD_mem _ hlt2)
                      rw [← HY.out] at this; simp at this; omega
                    unfold Act53.ok; rw [this]; simp
                  have HO := Lib.hid hbo
                  clear hbo
                  go_wp2
                  go_ret
                  exact ⟨by rw [HB.out HO.out]; rfl, qq.trans' q2⟩
                · have hb2 : decide (y < 0) = false := by simpa using hy0
                  go_wp2
                  go_roundw
                  case rel =>
                    refine ⟨j + 1, by omega, by go_num, ?_, q2⟩
                    rw [take_snoc_int _ _ hlt2, List.all_append, HJ.out, ← HY.out]
                    simp; omega
                  case measure => simp [intOf]; omega
              · go_wp2
                refine ⟨⟨k + 1, by omega, by go_num, ?_, qq.trans' q2⟩, by simp [intOf]; omega⟩
                have hj' : j = x.pages.length := by omega
                have hj2 := HJ.out
                rw [hj', List.take_length] at hj2
                have hxo : x.ok = true := by unfold Act53.ok; rw [hj2, decide_eq_true (p := x.pages.length ≤ 10) (by omega), decide_eq_true (p := 0 ≤ x.page) (by omega)]; rfl
                rw [List.take_succ_eq_append_getElem hlt, List.all_append, OK.out, ← HX.out]
                simp [hxo]
      · go_wp2
        go_ret
        refine ⟨?_, qq⟩
        have hk' : k = l.length := by omega
        have := OK.out
        rw [hk', List.take_length] at this
        unfold few53; rw [this, decide_eq_true hm']; rfl
end Go.Proofs.Ytediappljpkblaa
