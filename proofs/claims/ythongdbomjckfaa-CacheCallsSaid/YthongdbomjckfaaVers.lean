/- CacheVersions: the walk. -/
import Derived.Test.YthongdbomjckfaaAwake
namespace Go.Proofs.Ythongdbomjckfaa
open Go.RowKit

/-- versions are not greater than the counter -/
structure Dir.fit (D : Dir) : Prop where
  c0 : 0 ≤ D.cnt
  ren : ∀ k v, D.ren k = some v → v ≤ D.cnt
  chg : ∀ k v, D.chg k = some v → v ≤ D.cnt
theorem Dir.fit.ver {D : Dir} (h : D.fit) (q : Int × Int) : D.ver q ≤ D.cnt := by
  unfold Dir.ver
  have h1 : (D.ren q.1).getD 0 ≤ D.cnt := by
    cases hr : D.ren q.1 with
    | none => simpa using h.c0
    | some v => simpa using h.ren _ _ hr
  have h2 : (D.chg q).getD 0 ≤ D.cnt := by
    cases hr : D.chg q with
    | none => simpa using h.c0
    | some v => simpa using h.chg _ _ hr
  omega
theorem fit_new : aD0.fit := ⟨by decide, fun _ _ h => by simp [aD0] at h, fun _ _ h => by simp [aD0] at h⟩
def Dir.regd (D : Dir) (s i p : Int) : Dir := { D with reg := putF D.reg (s, i, p) true, cap := D.cap + 1 }
theorem Dir.fit.regd {D : Dir} (h : D.fit) (s i p : Int) : (D.regd s i p).fit := ⟨h.c0, h.ren, h.chg⟩
theorem Dir.fit.change {D : Dir} (h : D.fit) (id : Int) (l : List Int) : (D.change id l).fit := by
  refine ⟨by have := h.c0; simp [Dir.change]; omega, fun k v hk => ?_, fun k v hk => ?_⟩
  · have := h.ren k v hk; simp [Dir.change]; omega
  · simp only [Dir.change, chgs] at hk ⊢
    split at hk
    · cases hk; omega
    · have := h.chg k v hk; omega
theorem Dir.fit.renew {D : Dir} (h : D.fit) (id : Int) : (D.renew id).fit := by
  refine ⟨by have := h.c0; simp [Dir.renew]; omega, fun k v hk => ?_, fun k v hk => ?_⟩
  · simp only [Dir.renew, putF] at hk ⊢
    split at hk
    · cases hk; omega
    · have := h.ren k v hk; omega
  · have := h.chg k v hk; simp [Dir.renew]; omega
theorem Dir.fit.forget {D : Dir} (h : D.fit) (s : Int) : (D.forget s).fit := ⟨h.c0, h.ren, h.chg⟩
theorem ver_regd (D : Dir) (s i p : Int) (q) : (D.regd s i p).ver q = D.ver q := rfl
theorem ver_forget (D : Dir) (s : Int) (q) : (D.forget s).ver q = D.ver q := rfl
theorem ver_change_yes {D : Dir} (h : D.fit) (id p : Int) (l : List Int) (hp : l.contains p = true) : (D.change id l).ver (id, p) = D.cnt + 1 := by
  have h2 : (D.ren id).getD 0 ≤ D.cnt := by
    cases hr : D.ren id with
    | none => simpa using h.c0
    | some v => simpa using h.ren _ _ hr
  have : (chgs D.chg id l (D.cnt + 1)) (id, p) = some (D.cnt + 1) := by
    unfold chgs; rw [if_pos ⟨rfl, by simpa using hp⟩]
  show max ((D.ren id).getD 0) (((chgs D.chg id l (D.cnt + 1)) (id, p)).getD 0) = _
  rw [this]; simp; omega
theorem ver_change_no (D : Dir) (id i p : Int) (l : List Int) (hp : (i == id && l.contains p) = false) : (D.change id l).ver (i, p) = D.ver (i, p) := by
  have : (chgs D.chg id l (D.cnt + 1)) (i, p) = D.chg (i, p) := by
    unfold chgs; rw [if_neg]
    rintro ⟨h1, h2⟩
    simp only at h1 h2
    rw [h1] at hp; simp [h2] at hp
  show max _ (((chgs D.chg id l (D.cnt + 1)) (i, p)).getD 0) = _
  rw [this]; rfl
theorem ver_renew_yes {D : Dir} (h : D.fit) (id p : Int) : (D.renew id).ver (id, p) = D.cnt + 1 := by
  have h2 : (D.chg (id, p)).getD 0 ≤ D.cnt := by
    cases hr : D.chg (id, p) with
    | none => simpa using h.c0
    | some v => simpa using h.chg _ _ hr
  show max ((putF D.ren id (D.cnt + 1) id).getD 0) ((D.chg (id, p)).getD 0) = _
  simp [putF]; omega
theorem ver_renew_no (D : Dir) (id i p : Int) (hp : i ≠ id) : (D.renew id).ver (i, p) = D.ver (i, p) := by
  show max ((putF D.ren id (D.cnt + 1) i).getD 0) ((D.chg (i, p)).getD 0) = _
  simp [putF, hp, Dir.ver]

theorem contains_snoc (l : List Int) (y p : Int) : (l ++ [y]).contains p = (l.contains p || y == p) := by
  have e : (([y] : List Int).contains p) = (y == p) := by
    show (p == y || false) = _
    rw [Bool.or_false]; exact Bool.beq_comm
  rw [List.contains_append, e]
theorem valid_change (D : Dir) (id i p : Int) (l : List Int) (v s : Int) (h : accChange id l (s, i, p) = true) : (D.change id l).valid s i p v = false := by
  have e : (D.change id l).reg (s, i, p) = none := by
    show offF D.reg (accChange id l) (s, i, p) = none
    unfold offF; rw [if_pos h]
  unfold Dir.valid; rw [e]; rfl
/-- an act's copy in a block of the call's own -/
def ownAct (a : Act53) (v : Value) : Obj := .cells #[.int .i64 a.kind, .int .i64 a.sys, .int .i64 a.id, .int .i64 a.page, v] 33

set_option maxHeartbeats 4000000 in
set_option maxRecDepth 100000 in
theorem versions_any (w : World) (L : Nat → Prop) (v : Value) (l : List Act53) (s i p : Int) (h : ActsAt w L v l) (hL : ∀ k, L k → k < w.heap.size) (hs0 : 0 ≤ s) (hs1 : s < 256) (hi0 : 0 ≤ i) (hi1 : i < 256) (hp0 : 0 ≤ p) (hp1 : p < 256) :
    Calls Try.prog 4 #[v, .int .u8 s, .int .u8 i, .int .u8 p] w fun e w' => e = .returned (.bool true) ∧ Qt w w' := by
  obtain ⟨A, c, rfl, hl, hA⟩ := id h
  have HA := Lib.hid h
  have HB := Lib.hid hA
  clear hA
  cases hf : few53 l 50
  · have HF := Lib.hid hf
    clear hf
    go_enter Try.func4, Try.ntmps4
    go_wp2_with fail
    refine (few_any _ L _ l 50 HA.out).mono ?_
    rw [HF.out]
    rintro e w1 ⟨rfl, q1⟩
    go_wp2_with fail
    refine (awake_any _).mono ?_
    rintro e w2 ⟨rfl, q2⟩
    go_wp2
    go_ret
    exact ⟨rfl, q1.trans' q2⟩
  · have HF := Lib.hid hf
    clear hf
    go_enter Try.func4, Try.ntmps4
    go_wp2_with fail
    refine (few_any _ L _ l 50 HA.out).mono ?_
    rw [HF.out]
    rintro e w1 ⟨rfl, q1⟩
    go_wp2_with fail
    refine (new_any _).mono ?_
    rintro e w2 ⟨B, rfl, h2, q2, hge⟩
    have HG := Lib.hid hge
    clear hge
    go_wp2_with fail
    refine (register_any _ B aD0 s i p h2).mono ?_
    rintro e w3 ⟨rfl, h3, f3⟩
    go_wp2
    have q12 : Qt w w2 := q1.trans' q2
    go_loopw [40, 13] (fun x last wr => ∃ (k : Nat) (D : Dir), k ≤ l.length ∧ x = .int .i64 k ∧ DirAt wr B D ∧ last = .int .i64 (D.ver (i, p)) ∧ D.reg (s, i, p) = some true ∧ D.fit ∧ D.cnt ≤ k ∧ Fr B.has w2 wr) (fun x _ _ => l.length - (intOf x).toNat)
    case atStart => exact ⟨0, _, Nat.zero_le _, rfl, h3, rfl, by simp [putF], fit_new.regd s i p, by simp [aD0], reg_has f3⟩
    case round =>
      obtain ⟨k, D, hk, rfl, hD, rfl, hreg, hfit, hcnt, ff⟩ := hrel
      by_cases hlt : k < l.length
      · obtain ⟨b, off, rfl, hb, hc⟩ := HB.out (by omega)
        obtain ⟨x, hx⟩ : ∃ x, x = l[k] := ⟨_, rfl⟩
        have hc' := hc k hlt
        rw [← hx] at hc'
        have fw : Fr B.has w wr := q12.trans ff (fun _ x => x.elim) (fun _ _ x => x)
        obtain ⟨g0, g1, g2, g3, pv, g4, g5⟩ := hc'.fr hb fw (fun j hj hh => by have := hL j hj; have := HG.out j hh; have := q1.size; omega)
        obtain ⟨A2, c2, rfl, hp⟩ := id g5
        have HX := Lib.hid hx
        have HR := Lib.hid hreg
        have HP := Lib.hid hp
        clear hx hp hc hc' hreg
        have hle := hfit.ver (i, p)
        have hlo : (l.length : Int) ≤ 50 := by
          have := HF.out
          unfold few53 at this
          simp only [Bool.and_eq_true, decide_eq_true_eq] at this
          exact this.1
        have hc0 := hfit.c0
        obtain ⟨K, hK⟩ : ∃ K, K = bits BinOp.and IntKind.i64 x.kind 3 := ⟨_, rfl⟩
        have qa : Qt wr (wr.alloc (.cells #[.int .i64 x.kind, .int .i64 x.sys, .int .i64 x.id, .int .i64 x.page, .slice A2 x.pages.length c2] 33)) := (Fr.refl _ _).alloc _
        have hD1 := hD.qt qa
        have fr1 : Fr B.has w2 (wr.alloc (.cells #[.int .i64 x.kind, .int .i64 x.sys, .int .i64 x.id, .int .i64 x.page, .slice A2 x.pages.length c2] 33)) := ff.trans qa (fun _ x => x) (fun _ _ x => x.elim)
        have g6 := g5.fr qa (fun _ _ x => x)
        have G6 := Lib.hid g6
        clear g6 g5
        have valF : ∀ (D2 : Dir), D2.reg (s, i, p) = some true → D2.ver (i, p) = D.ver (i, p) → D2.valid s i p (D.ver (i, p)) = true := fun D2 h1 h2 => by simp [Dir.valid, h1, h2]
        have VF := Lib.hid valF
        have offT : ∀ (D2 : Dir) (acc : Int × Int × Int → Bool), acc (s, i, p) = false → D2.reg (s, i, p) = some true → offF D2.reg acc (s, i, p) = some true := fun D2 acc h1 h2 => by simp [offF, h1, h2]
        have OT := Lib.hid offT
        clear valF offT
        by_cases k0 : K = 0
        · have kb : (bits BinOp.and IntKind.i64 x.kind 3 == 0) = true := by rw [← hK, k0]; rfl
          clear hK k0
          go_wp2_with fail
          refine (register_as _ B D (D.regd x.sys x.id x.page) x.sys x.id x.page _ hD1 rfl rfl).mono ?_
          rintro e wc ⟨rfl, hd2, f2'⟩
          have hvv : (D.regd x.sys x.id x.page).valid s i p (D.ver (i, p)) = true := VF.out _ (by simp only [Dir.regd, putF]; split <;> first | rfl | exact HR.out) rfl
          have hnn : (D.regd x.sys x.id x.page).ver (i, p) = (D.ver (i, p)) := rfl
          have HV := Lib.hid hvv
          have HN := Lib.hid hnn
          clear hvv hnn
          go_wp2_with fail
          refine (valid_as _ B (D.regd x.sys x.id x.page) s i p _ true hd2 HV.out).mono ?_
          rintro e wa ⟨rfl, ha, fa⟩
          go_wp2_with fail
          refine (register_as _ B (D.regd x.sys x.id x.page) ((D.regd x.sys x.id x.page).regd s i p) s i p (D.ver (i, p)) ha HN.out rfl).mono ?_
          rintro e wb ⟨rfl, hb', fb⟩
          go_wp2
          refine ⟨⟨k + 1, (D.regd x.sys x.id x.page).regd s i p, by omega, by go_num, hb', ?_, by simp [Dir.regd, putF], (hfit.regd x.sys x.id x.page).regd s i p, ?_, ?_⟩, by simp [intOf]; omega⟩
          · rw [ver_regd, HN.out]
          · show D.cnt ≤ _; omega
          · exact ((fr1.trans' f2').trans' fa).trans' fb
        · have kb0 : (bits BinOp.and IntKind.i64 x.kind 3 == 0) = false := by rw [← hK]; simpa using k0
          by_cases k1 : K = 1
          · have kb1 : (bits BinOp.and IntKind.i64 x.kind 3 == 1) = true := by rw [← hK, k1]; rfl
            clear hK k0 k1
            have hLB : ∀ q, B.has q → ¬ L q := fun q h1 h2 => by have := hL q h2; have := HG.out q h1; have := q1.size; omega
            have HLB := Lib.hid hLB
            clear hLB
            by_cases hid : x.id = i
            · have hidb : (x.id == i) = true := by simpa using hid
              have HI := Lib.hid hid
              clear hid
              go_wp2
              go_loopw [62, 16] (fun y cc wr2 => ∃ (j : Nat) (bb : Bool), j ≤ x.pages.length ∧ y = .int .i64 j ∧ cc = .bool bb ∧ bb = (x.pages.take j).contains p ∧ wr2 = (wr.alloc (.cells #[.int .i64 x.kind, .int .i64 x.sys, .int .i64 x.id, .int .i64 x.page, .slice A2 x.pages.length c2] 33))) (fun y _ _ => x.pages.length - (intOf y).toNat)
              case atStart => exact ⟨0, false, Nat.zero_le _, rfl, rfl, by simp, rfl⟩
              case round =>
                obtain ⟨j, bb, hj, rfl, rfl, hbb, rfl⟩ := hrel
                have HBB := Lib.hid hbb
                clear hbb
                by_cases hlt2 : j < x.pages.length
                · obtain ⟨b2, off2, rfl, hb2, hl2, hc2⟩ := HP.out (by omega)
                  obtain ⟨y, hy⟩ : ∃ y, y = x.pages.getD j 0 := ⟨_, rfl⟩
                  have cj := qa.cell (hc2 j hlt2) (fun x => x)
                  rw [← hy] at cj
                  have HY := Lib.hid hy
                  clear hy hc2
                  have nx : (x.pages.take (j + 1)).contains p = (bb || y == p) := by
                    rw [take_snoc_int _ _ hlt2, HBB.out, ← HY.out, contains_snoc]
                  have NX := Lib.hid nx
                  clear nx
                  cases bb
                  · by_cases hyp : y = p
                    · have hyb : (y == p) = true := by simpa using hyp
                      clear hyp
                      go_wp2
                      go_roundw
                      case rel => exact ⟨j + 1, true, by omega, by go_num, rfl, by rw [NX.out, hyb]; rfl, by first | rfl | trivial⟩
                      case measure => simp [intOf]; omega
                    · have hyb : (y == p) = false := by simpa using hyp
                      clear hyp
                      go_wp2
                      go_roundw
                      case rel => exact ⟨j + 1, false, by omega, by go_num, rfl, by rw [NX.out, hyb]; rfl, by first | rfl | trivial⟩
                      case measure => simp [intOf]; omega
                  · go_wp2
                    go_roundw
                    case rel => exact ⟨j + 1, true, by omega, by go_num, rfl, by rw [NX.out]; rfl, by first | rfl | trivial⟩
                    case measure => simp [intOf]; omega
                · have hbe : bb = x.pages.contains p := by
                    have hj' : j = x.pages.length := by omega
                    rw [HBB.out, hj', List.take_length]
                  have HBE := Lib.hid hbe
                  clear hbe
                  cases bb
                  · go_wp2_with fail
                    refine (change_any _ B D L x.id _ x.pages hD1 HLB.out G6.out hc0 (by omega)).mono ?_
                    rintro e wc ⟨rfl, hd2, f2'⟩
                    have hvv : (D.change x.id x.pages).valid s i p (D.ver (i, p)) = true := VF.out _ (OT.out D (accChange x.id x.pages) (by simp only [accChange]; rw [← HBE.out]; simp) HR.out) (ver_change_no D x.id i p x.pages (by rw [← HBE.out]; simp))
                    have hnn : (D.change x.id x.pages).ver (i, p) = (D.ver (i, p)) := ver_change_no D x.id i p x.pages (by rw [← HBE.out]; simp)
                    have HV := Lib.hid hvv
                    have HN := Lib.hid hnn
                    clear hvv hnn
                    go_wp2_with fail
                    refine (valid_as _ B (D.change x.id x.pages) s i p _ true hd2 HV.out).mono ?_
                    rintro e wa ⟨rfl, ha, fa⟩
                    go_wp2_with fail
                    refine (register_as _ B (D.change x.id x.pages) ((D.change x.id x.pages).regd s i p) s i p (D.ver (i, p)) ha HN.out rfl).mono ?_
                    rintro e wb ⟨rfl, hb', fb⟩
                    go_wp2
                    refine ⟨⟨k + 1, (D.change x.id x.pages).regd s i p, by omega, by go_num, hb', ?_, by simp [Dir.regd, putF], (hfit.change x.id x.pages).regd s i p, ?_, ?_⟩, by simp [intOf]; omega⟩
                    · rw [ver_regd, HN.out]
                    · show D.cnt + 1 ≤ _; push_cast; omega
                    · exact ((fr1.trans' f2').trans' fa).trans' fb
                  · go_wp2_with fail
                    refine (change_any _ B D L x.id _ x.pages hD1 HLB.out G6.out hc0 (by omega)).mono ?_
                    rintro e wc ⟨rfl, hd2, f2'⟩
                    have hvv : (D.change x.id x.pages).valid s i p (D.ver (i, p)) = false := valid_change D _ i p _ _ s (by simp only [accChange]; rw [← HBE.out, HI.out]; simp)
                    have hnn : (D.change x.id x.pages).ver (i, p) = (D.cnt + 1) := by rw [HI.out]; exact ver_change_yes hfit i p x.pages HBE.out.symm
                    have HV := Lib.hid hvv
                    have HN := Lib.hid hnn
                    clear hvv hnn
                    go_wp2_with fail
                    refine (valid_as _ B (D.change x.id x.pages) s i p _ false hd2 HV.out).mono ?_
                    rintro e wa ⟨rfl, ha, fa⟩
                    go_wp2_with fail
                    refine (register_as _ B (D.change x.id x.pages) ((D.change x.id x.pages).regd s i p) s i p (D.cnt + 1) ha HN.out rfl).mono ?_
                    rintro e wb ⟨rfl, hb', fb⟩
                    go_wp2
                    refine ⟨⟨k + 1, (D.change x.id x.pages).regd s i p, by omega, by go_num, hb', ?_, by simp [Dir.regd, putF], (hfit.change x.id x.pages).regd s i p, ?_, ?_⟩, by simp [intOf]; omega⟩
                    · rw [ver_regd, HN.out]
                    · show D.cnt + 1 ≤ _; push_cast; omega
                    · exact ((fr1.trans' f2').trans' fa).trans' fb
            · have hidb : (x.id == i) = false := by simpa using hid
              have HI := Lib.hid hid
              clear hid
              go_wp2
              go_loopw [62, 16] (fun y cc wr2 => ∃ (j : Nat), j ≤ x.pages.length ∧ y = .int .i64 j ∧ cc = .bool false ∧ wr2 = (wr.alloc (.cells #[.int .i64 x.kind, .int .i64 x.sys, .int .i64 x.id, .int .i64 x.page, .slice A2 x.pages.length c2] 33))) (fun y _ _ => x.pages.length - (intOf y).toNat)
              case atStart => exact ⟨0, Nat.zero_le _, rfl, rfl, rfl⟩
              case round =>
                obtain ⟨j, hj, rfl, rfl, rfl⟩ := hrel
                by_cases hlt2 : j < x.pages.length
                · obtain ⟨b2, off2, rfl, hb2, hl2, hc2⟩ := HP.out (by omega)
                  obtain ⟨y, hy⟩ : ∃ y, y = x.pages.getD j 0 := ⟨_, rfl⟩
                  have cj := qa.cell (hc2 j hlt2) (fun x => x)
                  rw [← hy] at cj
                  clear hy hc2
                  go_wp2
                  go_roundw
                  case rel => exact ⟨j + 1, by omega, by go_num, by first | rfl | trivial, by first | rfl | trivial⟩
                  case measure => simp [intOf]; omega
                · go_wp2_with fail
                  refine (change_any _ B D L x.id _ x.pages hD1 HLB.out G6.out hc0 (by omega)).mono ?_
                  rintro e wc ⟨rfl, hd2, f2'⟩
                  have hvv : (D.change x.id x.pages).valid s i p (D.ver (i, p)) = true := VF.out _ (OT.out D (accChange x.id x.pages) (by simp only [accChange]; rw [beq_false_of_ne (fun e => HI.out e.symm)]; rfl) HR.out) (ver_change_no D x.id i p x.pages (by rw [beq_false_of_ne (fun e => HI.out e.symm)]; rfl))
                  have hnn : (D.change x.id x.pages).ver (i, p) = (D.ver (i, p)) := ver_change_no D x.id i p x.pages (by rw [beq_false_of_ne (fun e => HI.out e.symm)]; rfl)
                  have HV := Lib.hid hvv
                  have HN := Lib.hid hnn
                  clear hvv hnn
                  go_wp2_with fail
                  refine (valid_as _ B (D.change x.id x.pages) s i p _ true hd2 HV.out).mono ?_
                  rintro e wa ⟨rfl, ha, fa⟩
                  go_wp2_with fail
                  refine (register_as _ B (D.change x.id x.pages) ((D.change x.id x.pages).regd s i p) s i p (D.ver (i, p)) ha HN.out rfl).mono ?_
                  rintro e wb ⟨rfl, hb', fb⟩
                  go_wp2
                  refine ⟨⟨k + 1, (D.change x.id x.pages).regd s i p, by omega, by go_num, hb', ?_, by simp [Dir.regd, putF], (hfit.change x.id x.pages).regd s i p, ?_, ?_⟩, by simp [intOf]; omega⟩
                  · rw [ver_regd, HN.out]
                  · show D.cnt + 1 ≤ _; push_cast; omega
                  · exact ((fr1.trans' f2').trans' fa).trans' fb

          · have kb1 : (bits BinOp.and IntKind.i64 x.kind 3 == 1) = false := by rw [← hK]; simpa using k1
            by_cases k2 : K = 2
            · have kb2 : (bits BinOp.and IntKind.i64 x.kind 3 == 2) = true := by rw [← hK, k2]; rfl
              clear hK k0 k1 k2
              by_cases hid : x.id = i
              · have hidb : (x.id == i) = true := by simpa using hid
                have HI := Lib.hid hid
                clear hid
                go_wp2_with fail
                refine (renew_any _ B D x.id hD1 hc0 (by omega)).mono ?_
                rintro e wc ⟨rfl, hd2, f2'⟩
                have hvv : (D.renew x.id).valid s i p (D.ver (i, p)) = false := by rw [HI.out]; simp [Dir.valid, Dir.renew, offF, accRenew]
                have hnn : (D.renew x.id).ver (i, p) = (D.cnt + 1) := by rw [HI.out]; exact ver_renew_yes hfit i p
                have HV := Lib.hid hvv
                have HN := Lib.hid hnn
                clear hvv hnn
                go_wp2_with fail
                refine (valid_as _ B (D.renew x.id) s i p _ false hd2 HV.out).mono ?_
                rintro e wa ⟨rfl, ha, fa⟩
                go_wp2_with fail
                refine (register_as _ B (D.renew x.id) ((D.renew x.id).regd s i p) s i p (D.cnt + 1) ha HN.out rfl).mono ?_
                rintro e wb ⟨rfl, hb', fb⟩
                go_wp2
                refine ⟨⟨k + 1, (D.renew x.id).regd s i p, by omega, by go_num, hb', ?_, by simp [Dir.regd, putF], (hfit.renew x.id).regd s i p, ?_, ?_⟩, by simp [intOf]; omega⟩
                · rw [ver_regd, HN.out]
                · show D.cnt + 1 ≤ _; push_cast; omega
                · exact ((fr1.trans' f2').trans' fa).trans' fb
              · have hidb : (x.id == i) = false := by simpa using hid
                have HI := Lib.hid hid
                clear hid
                go_wp2_with fail
                refine (renew_any _ B D x.id hD1 hc0 (by omega)).mono ?_
                rintro e wc ⟨rfl, hd2, f2'⟩
                have hvv : (D.renew x.id).valid s i p (D.ver (i, p)) = true := VF.out _ (OT.out D (accRenew x.id) (by simp [accRenew]; exact fun e => HI.out e.symm) HR.out) (ver_renew_no D x.id i p (fun e => HI.out e.symm))
                have hnn : (D.renew x.id).ver (i, p) = (D.ver (i, p)) := ver_renew_no D x.id i p (fun e => HI.out e.symm)
                have HV := Lib.hid hvv
                have HN := Lib.hid hnn
                clear hvv hnn
                go_wp2_with fail
                refine (valid_as _ B (D.renew x.id) s i p _ true hd2 HV.out).mono ?_
                rintro e wa ⟨rfl, ha, fa⟩
                go_wp2_with fail
                refine (register_as _ B (D.renew x.id) ((D.renew x.id).regd s i p) s i p (D.ver (i, p)) ha HN.out rfl).mono ?_
                rintro e wb ⟨rfl, hb', fb⟩
                go_wp2
                refine ⟨⟨k + 1, (D.renew x.id).regd s i p, by omega, by go_num, hb', ?_, by simp [Dir.regd, putF], (hfit.renew x.id).regd s i p, ?_, ?_⟩, by simp [intOf]; omega⟩
                · rw [ver_regd, HN.out]
                · show D.cnt + 1 ≤ _; push_cast; omega
                · exact ((fr1.trans' f2').trans' fa).trans' fb
            · have kb2 : (bits BinOp.and IntKind.i64 x.kind 3 == 2) = false := by rw [← hK]; simpa using k2
              by_cases k3 : K = 3
              · have kb3 : (bits BinOp.and IntKind.i64 x.kind 3 == 3) = true := by rw [← hK, k3]; rfl
                clear hK k0 k1 k2 k3
                by_cases hsy : x.sys = s
                · have hsb : (x.sys == s) = true := by simpa using hsy
                  clear hsy
                  go_wp2
                  exact ⟨⟨k + 1, D, by omega, by go_num, hD1, rfl, HR.out, hfit, by push_cast; omega, fr1⟩, by simp [intOf]; omega⟩
                · have hsb : (x.sys == s) = false := by simpa using hsy
                  have HI := Lib.hid hsy
                  clear hsy
                  go_wp2_with fail
                  refine (forgets_any _ B D x.sys hD1).mono ?_
                  rintro e wc ⟨rfl, hd2, f2'⟩
                  have hvv : (D.forget x.sys).valid s i p (D.ver (i, p)) = true := VF.out _ (OT.out D (accForget x.sys) (by simp [accForget]; exact fun e => HI.out e.symm) HR.out) rfl
                  have hnn : (D.forget x.sys).ver (i, p) = (D.ver (i, p)) := rfl
                  have HV := Lib.hid hvv
                  have HN := Lib.hid hnn
                  clear hvv hnn
                  go_wp2_with fail
                  refine (valid_as _ B (D.forget x.sys) s i p _ true hd2 HV.out).mono ?_
                  rintro e wa ⟨rfl, ha, fa⟩
                  go_wp2_with fail
                  refine (register_as _ B (D.forget x.sys) ((D.forget x.sys).regd s i p) s i p (D.ver (i, p)) ha HN.out rfl).mono ?_
                  rintro e wb ⟨rfl, hb', fb⟩
                  go_wp2
                  refine ⟨⟨k + 1, (D.forget x.sys).regd s i p, by omega, by go_num, hb', ?_, by simp [Dir.regd, putF], (hfit.forget x.sys).regd s i p, ?_, ?_⟩, by simp [intOf]; omega⟩
                  · rw [ver_regd, HN.out]
                  · show D.cnt ≤ _; omega
                  · exact ((fr1.trans' f2').trans' fa).trans' fb
              · have kb3 : (bits BinOp.and IntKind.i64 x.kind 3 == 3) = false := by rw [← hK]; simpa using k3
                clear hK k0 k1 k2 k3
                have hvv : (D).valid s i p (D.ver (i, p)) = true := VF.out _ HR.out rfl
                have hnn : (D).ver (i, p) = (D.ver (i, p)) := rfl
                have HV := Lib.hid hvv
                have HN := Lib.hid hnn
                clear hvv hnn
                go_wp2_with fail
                refine (valid_as _ B (D) s i p _ true hD1 HV.out).mono ?_
                rintro e wa ⟨rfl, ha, fa⟩
                go_wp2_with fail
                refine (register_as _ B (D) ((D).regd s i p) s i p (D.ver (i, p)) ha rfl rfl).mono ?_
                rintro e wb ⟨rfl, hb', fb⟩
                go_wp2
                refine ⟨⟨k + 1, (D).regd s i p, by omega, by go_num, hb', ?_, by simp [Dir.regd, putF], (hfit).regd s i p, ?_, ?_⟩, by simp [intOf]; omega⟩
                · rw [ver_regd]
                · show D.cnt ≤ _; omega
                · exact ((fr1).trans' fa).trans' fb
      · have hk' : k = l.length := by omega
        clear hk'
        go_wp2_with fail
        refine (awake_any _).mono ?_
        rintro e w4 ⟨rfl, q4⟩
        go_wp2
        go_ret
        have b1 := (q12.below (Nat.le_refl _) (fun _ x => x.elim)).trans (ff.below q12.size (fun j hj => by have := HG.out j hj; have := q1.size; omega))
        exact ⟨rfl, (Fr.mono (below_fr b1) (fun j hj hh => by omega)).trans' q4⟩

theorem versions_row (w : World) {v : Value} {l : List Act53} (h : ActsAt w (fun i => i < w.heap.size) v l) {s i p : Int} (hs : (Lit.int .u8 s).wf = true) (hi : (Lit.int .u8 i).wf = true) (hp : (Lit.int .u8 p).wf = true) :
    Calls Try.prog 4 #[v, .int .u8 s, .int .u8 i, .int .u8 p] w fun e w' => e = .returned (.bool true) ∧ Below w.heap.size w w' := by
  have b : ∀ n : Int, (Lit.int .u8 n).wf = true → 0 ≤ n ∧ n < 256 := fun n h => by
    have h' : IntKind.u8.min ≤ n ∧ n ≤ IntKind.u8.max := by simpa [Lit.wf] using h
    have e1 : IntKind.u8.min = 0 := by decide
    have e2 : IntKind.u8.max = 255 := by decide
    omega
  exact (versions_any w _ v l s i p h (fun _ x => x) (b s hs).1 (b s hs).2 (b i hi).1 (b i hi).2 (b p hp).1 (b p hp).2).mono fun e w' ⟨h1, h2⟩ => ⟨h1, h2.below (Nat.le_refl _) (fun _ x => x.elim)⟩
end Go.Proofs.Ythongdbomjckfaa
