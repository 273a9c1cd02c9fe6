/- The directory of package cache: forget, Change, Renew, Forget. -/
import Derived.Test.YtediappljpkblaaDirA
import Derived.Test.YtediappljpkblaaShelf
namespace Go.Proofs.Ytediappljpkblaa
set_option linter.unusedSimpArgs false
set_option linter.unusedVariables false
open Go.RowKit

open Classical in
/-- R without what A accepts among the keys of S -/
noncomputable def cutF (R : Int × Int × Int → Option Bool) (A : Int × Int × Int → Bool) (S : Int × Int × Int → Prop) : Int × Int × Int → Option Bool := fun k => if S k ∧ A k = true then none else R k
def offF (R : Int × Int × Int → Option Bool) (A : Int × Int × Int → Bool) : Int × Int × Int → Option Bool := fun k => if A k then none else R k
theorem cutF_none (R A) : cutF R A (fun _ => False) = R := by funext k; simp [cutF]
theorem cutF_all {R A S} (h : ∀ k, (cutF R A S k).isSome = true → S k) : cutF R A S = offF R A := by
  funext k
  have hk := h k
  unfold cutF offF at *
  by_cases hS : S k <;> cases hA : A k <;> simp_all
theorem cutF_skip {R A S k} (hA : A k = false) : cutF R A (fun x => S x ∨ x = k) = cutF R A S := by
  funext x
  unfold cutF
  by_cases hx : x = k
  · subst hx; simp [hA]
  · by_cases hS : S x <;> simp [hx, hS]
theorem cutF_cut {R A S k} (hA : A k = true) : delF (cutF R A S) k = cutF R A (fun x => S x ∨ x = k) := by
  funext x
  unfold cutF delF
  by_cases hx : x = k
  · subst hx; simp [hA]
  · by_cases hS : S x <;> simp [hx, hS]

set_option maxHeartbeats 1000000 in
set_option maxRecDepth 100000 in
theorem forget_any (w : World) (B : DirB) (D : Dir) (f : Nat) (caps : Array Value) (A : Int × Int × Int → Bool) (h : DirAt w B D) (hcf : ∀ a w, (callFunc f a).run Try.prog w = .ok (.enter f a) w)
    (H : Hid (∀ w1, Fr (fun k => k = B.g) w w1 → ∀ s i p, Calls Try.prog f (#[.agg #[.int .i64 s, .int .i64 i, .int .i64 p]] ++ caps) w1 fun e w2 => e = .returned (.bool (A (s, i, p))) ∧ Qt w1 w2)) :
    Calls Try.prog 20 #[.pointer (some ⟨B.b, 0, none⟩), .func (.func f) #[] caps] w fun e w' => e = .returned (.tuple #[]) ∧ DirAt w' B { D with reg := offF D.reg A } ∧ Fr (fun k => k = B.g) w w' := by
  have c3 := h.c3
  go_enter Try.func20, Try.ntmps20
  go_wp2_with (at_range; refine wpList_rng _ rfl _ 57 rfl Try.underlying57 B.g D.reg rfl h.reg ?_; intro w0 n0 it0 q0 z0)
  go_frame
  go_loopw [4] (fun _ wr => ∃ S n, IsIter wr B.g w.heap.size eReg eBool (cutF D.reg A S) S n ∧ Fr (fun k => k = B.g) w wr ∧ mapSize wr B.g ≤ D.cap) (fun _ wr => iterLeft wr B.g w.heap.size)
  case atStart => exact ⟨_, n0, by rw [cutF_none]; exact it0, q0.mono (fun _ _ x => x.elim), by rw [h.reg.size_fr q0 (fun x => x)]; exact h.small⟩
  case round =>
    obtain ⟨S, n, it, ff, sm⟩ := hrel
    have hne := it.ne
    rcases it.next (P := Try.prog) key63.inj 0 with ⟨hn, hall, hrun⟩ | ⟨⟨k1, k2, k3⟩, v, w1, n', hF, hnS, hrun, it1, hlt, f1, z1, hen⟩
    · go_wp2
      go_end0
      have ec := cutF_all hall
      refine ⟨rfl, ?_, ff⟩
      have hm := it.map
      rw [ec] at hm
      exact h.setReg hm ff (fun k b hb => by
        unfold offF at hb; split at hb
        · cases hb
        · exact h.reg1 k b hb) sm
    · have Hlt := Lib.hid hlt
      have HF := Lib.hid hF
      have HnS := Lib.hid hnS
      clear hlt hF hnS
      simp only [eReg, eBool] at hrun hen
      have hr : Fr (fun k => k = B.g) w w1 := ff.trans f1 (fun _ x => x) (fun i hi x => by omega)
      cases hA : A (k1, k2, k3)
      all_goals
        have HA := Lib.hid hA
        clear hA
      · go_wp2_with ((refine (H.out _ (hr.alloc _) _ _ _).mono ?_); rintro e w2 ⟨rfl, q2⟩; rw [HA.out])
        have qq : Qt w1 w2 := ((Fr.refl _ _).alloc _).trans' q2
        have it2 := it1.fr qq (fun x => x) (fun x => x)
        rw [← cutF_skip (R := D.reg) (S := S) HA.out] at it2
        have sm2 : mapSize w2 B.g ≤ D.cap := by rw [it1.map.size_fr qq (fun x => x), it.map.size_fr f1 hne]; exact sm
        refine ⟨⟨_, n', it2, hr.trans qq (fun _ x => x) (fun _ _ x => x.elim), sm2⟩, ?_⟩
        rw [it2.left_eq, it.left_eq]; exact Hlt.out
      · go_wp2_with ((refine (H.out _ (hr.alloc _) _ _ _).mono ?_); rintro e w2 ⟨rfl, q2⟩; rw [HA.out])
        have qq : Qt w1 w2 := ((Fr.refl _ _).alloc _).trans' q2
        have Z : Hid (w1.heap.size = wr.heap.size) := z1
        clear z1
        have s3 : ∀ w', Qt w2 w' → w'.cell? ⟨B.b, 3, none⟩ = some (.map (some B.g)) := fun w' hq => hq.cell (qq.cell (hr.cell h.c3 h.bg) (fun x => x)) (fun x => x)
        have sk : ∀ (o : Nat) v, (#[Value.int .i64 k1, Value.int .i64 k2, Value.int .i64 k3])[o]? = some v → ∀ w', Qt w2 w' → w'.cell? ⟨wr.heap.size, o, none⟩ = some v := fun o v hv w' hq =>
          hq.cell (q2.cell (by rw [← Z.out]; simpa using hv) (fun x => x)) (fun x => x)
        have sk0 := sk 0 _ rfl
        have sk1 := sk 1 _ rfl
        have sk2 := sk 2 _ rfl
        clear sk
        refine wp_region_qtail 5 (by kernel_rfl) (by kernel_rfl) (Qt w2) ((Fr.refl _ _).drew) ?_
        simp only [List.take_succ_cons, List.take_zero, List.drop_succ_cons, List.drop_zero]
        iterate 5
          refine wpQuiet_ex rfl ?_
          apply Exists.intro
          refine ⟨fun w' hw' => ?_, ?_⟩
          · go_simp
            exact rfl
          go_frame
        refine wpQuiet_nil ?_
        intro w3 q3
        have it2 := (it1.fr qq (fun x => x) (fun x => x)).fr q3 (fun x => x) (fun x => x)
        refine wpList_dlt _ rfl _ _ _ rfl key63 Try.underlying57 B.g w.heap.size n' _ _ rfl it2 (k1, k2, k3) rfl ?_
        intro w4 n4 it4 hle f4 z4 y4
        have sm4 : mapSize w4 B.g ≤ D.cap := Nat.le_trans y4 (by rw [(it1.map.fr qq (fun x => x)).size_fr q3 (fun x => x), it1.map.size_fr qq (fun x => x), it.map.size_fr f1 hne]; exact sm)
        rw [cutF_cut HA.out] at it4
        go_frame
        go_wp2
        go_roundw
        case rel => exact ⟨_, n4, it4, ((hr.trans qq (fun _ x => x) (fun _ _ x => x.elim)).trans q3 (fun _ x => x) (fun _ _ x => x.elim)).trans f4 (fun _ x => x) (fun _ _ x => x), sm4⟩
        case measure => rw [it4.left_eq, it.left_eq]; exact Nat.lt_of_le_of_lt hle Hlt.out


/-- v is a slice of ints in a block of L that reads as xs -/
def RdInts (w : World) (L : Nat → Prop) (v : Value) (xs : List Int) : Prop :=
  ∃ A c, v = .slice A xs.length c ∧ (0 < xs.length → ∃ b off, A = some ⟨b, off, none⟩ ∧ L b ∧ xs.length ≤ 9223372036854775807 ∧ ∀ j, j < xs.length → w.cell? ⟨b, off + j, none⟩ = some (.int .i64 (xs.getD j 0)))
theorem RdInts.fr {w w' : World} {L : Nat → Prop} {v : Value} {xs : List Int} {S : Nat → Prop} (h : RdInts w L v xs) (hf : Fr S w w') (hs : ∀ i, L i → ¬ S i) : RdInts w' L v xs := by
  obtain ⟨A, c, rfl, h⟩ := h
  refine ⟨A, c, rfl, fun h0 => ?_⟩
  obtain ⟨b, off, rfl, hb, hl, hc⟩ := h h0
  exact ⟨b, off, rfl, hb, hl, fun j hj => hf.cell (hc j hj) (hs b hb)⟩
theorem contains_any (w : World) (L : Nat → Prop) (v : Value) (xs : List Int) (x : Int) (h : RdInts w L v xs) :
    Calls Try.prog 22 #[v, .int .i64 x] w fun e w' => e = .returned (.bool (xs.contains x)) ∧ w = w' := by
  obtain ⟨A, c, rfl, h⟩ := h
  cases hx : xs with
  | nil => exact (Try.slices_Contains_int_empty A c x w).mono fun e w' ⟨h1, h2⟩ => ⟨h1, h2.symm⟩
  | cons y ys =>
    obtain ⟨b, off, rfl, hb, hl, hc⟩ := h (by simp [hx])
    rw [← hx]
    refine (Try.slices_Contains_int b off xs.length c xs x w (Nat.le_refl _) (by omega) hc).mono fun e w' ⟨h1, h2⟩ => ⟨?_, h2.symm⟩
    rw [h1, List.take_length]

set_option maxHeartbeats 400000 in
theorem change1_any (w : World) (L : Nat → Prop) (bi bp : Nat) (v : Value) (xs : List Int) (s i p id : Int) (hi : w.cell? ⟨bi, 0, none⟩ = some (.int .i64 id)) (hp : w.cell? ⟨bp, 0, none⟩ = some v) (h : RdInts w L v xs) :
    Calls Try.prog 21 #[.agg #[.int .i64 s, .int .i64 i, .int .i64 p], .pointer (some ⟨bi, 0, none⟩), .pointer (some ⟨bp, 0, none⟩)] w fun e w' => e = .returned (.bool (i == id && xs.contains p)) ∧ Qt w w' := by
  have q0 : Qt w (w.alloc (.cells #[.int .i64 s, .int .i64 i, .int .i64 p] 72)) := (Fr.refl _ _).alloc _
  have hv := h.fr q0 (fun _ _ x => x)
  obtain ⟨A, c, rfl, h'⟩ := h
  have HH := Lib.hid hv
  have hi1 := cell_al (o := .cells #[.int .i64 s, .int .i64 i, .int .i64 p] 72) hi
  have hp1 := cell_al (o := .cells #[.int .i64 s, .int .i64 i, .int .i64 p] 72) hp
  clear hv h'
  by_cases hd : i = id
  · subst hd
    have hb : (i == i) = true := by simp
    go_enter Try.func21, Try.ntmps21
    go_wp2_with (go_at_call 22; refine (contains_any _ L _ _ _ HH.out).mono ?_; rintro e w' ⟨rfl, rfl⟩)
    go_ret
    exact ⟨by simp, q0⟩
  · have hb : (i == id) = false := by simpa using hd
    go_enter Try.func21, Try.ntmps21
    go_wp2
    go_ret
    exact ⟨by simp [hb], q0⟩
theorem renew1_any (w : World) (bi : Nat) (s i p id : Int) (hi : w.cell? ⟨bi, 0, none⟩ = some (.int .i64 id)) :
    Calls Try.prog 23 #[.agg #[.int .i64 s, .int .i64 i, .int .i64 p], .pointer (some ⟨bi, 0, none⟩)] w fun e w' => e = .returned (.bool (i == id)) ∧ Qt w w' := by
  have hi1 := cell_al (o := .cells #[.int .i64 s, .int .i64 i, .int .i64 p] 72) hi
  go_enter Try.func23, Try.ntmps23
  go_wp2
  go_ret
  exact ⟨rfl, (Fr.refl _ _).alloc _⟩
theorem forget1_any (w : World) (bi : Nat) (s i p id : Int) (hi : w.cell? ⟨bi, 0, none⟩ = some (.int .i64 id)) :
    Calls Try.prog 24 #[.agg #[.int .i64 s, .int .i64 i, .int .i64 p], .pointer (some ⟨bi, 0, none⟩)] w fun e w' => e = .returned (.bool (s == id)) ∧ Qt w w' := by
  have hi1 := cell_al (o := .cells #[.int .i64 s, .int .i64 i, .int .i64 p] 72) hi
  go_enter Try.func24, Try.ntmps24
  go_wp2
  go_ret
  exact ⟨rfl, (Fr.refl _ _).alloc _⟩
end Go.Proofs.Ytediappljpkblaa
