/- CacheForgets. -/
import Derived.Test.YthongdbomjckfaaVers
import Derived.Test.YthongdbomjckfaaOrd
namespace Go.Proofs.Ythongdbomjckfaa
open Go.RowKit

def eKey (k : Int × Int × Int) : Value := .agg #[.int .i64 k.1, .int .i64 k.2.1, .int .i64 k.2.2]
theorem size3 (w : World) : (sizeOf 3).run Try.prog w = .ok 1 w := by kernel_rfl
theorem eq50 (d : Nat) (w : World) (a b : Int × Int × Int) : (Op.equalIn (d + 2) 50 (eKey a) (eKey b)).run Try.prog w = .ok (decide (a = b)) w := by
  obtain ⟨a1, a2, a3⟩ := a
  obtain ⟨b1, b2, b3⟩ := b
  unfold eKey
  simp only [Op.equalIn, Sem.run_bind, run_underlying Try.underlying50, Result.andThen_ok, size3]
  simp [Std.Legacy.Range.forIn_eq_forIn_range', Std.Legacy.Range.size, List.range', part0, run_underlying Try.underlying3]
  by_cases h1 : a1 = b1 <;> by_cases h2 : a2 = b2 <;> by_cases h3 : a3 = b3 <;> simp [h1, h2, h3]
theorem key50 : KeyT Try.prog 50 eKey :=
  KeyT.of_equal Try.underlying50 (fun _ _ => rfl) (fun {a b} h => by
      obtain ⟨a1, a2, a3⟩ := a; obtain ⟨b1, b2, b3⟩ := b
      simp [eKey] at h; simp [h])
    (fun w a b => eq50 9998 w a b)
    (fun w em k => by
      show (Instr.checkKey em (9998 + 1 + 1) _ _).run _ w = _
      unfold Instr.checkKey
      simp only [Sem.run_bind, run_underlying Try.underlying50, eKey, Result.andThen_ok]
      simp [Std.Legacy.Range.forIn_eq_forIn_range', Std.Legacy.Range.size, List.range', part0, size3, MapKept.run_checkKey (k := .int .i64 _) Try.underlying3 rfl])
    (fun w k => by
      unfold Instr.keyThatStays
      rw [if_pos (by show Instr.sameBits (9998 + 1 + 1) _ _ = true; simp [Instr.sameBits, eKey])]
      rfl)
theorem valid_forget (D : Dir) (sys s i p v : Int) : (D.forget sys).valid s i p v = (D.valid s i p v && (s != sys)) := by
  unfold Dir.valid
  have e : (D.forget sys).reg (s, i, p) = if s == sys then none else D.reg (s, i, p) := rfl
  rw [e, ver_forget]
  cases h : (s == sys) <;> simp [bne, h]
theorem valid_q (w : World) (B : DirB) (D : Dir) (s i p v : Int) (b : Bool) (h : DirAt w B D) (hb : D.valid s i p v = b) :
    Calls Try.prog 18 #[.pointer (some ⟨B.b, 0, none⟩), .int .i64 s, .int .i64 i, .int .i64 p, .int .i64 v] w fun e w' => e = .returned (.bool b) ∧ Qt w w' :=
  (valid_any w B D s i p v h).mono fun e w' ⟨h1, h2⟩ => ⟨by rw [h1, hb], h2⟩
theorem holds_forget (D : Dir) (sys i p : Int) (l : List Int) (h : (D.forget sys).holds i p l) : ∀ x ∈ l, x ≠ sys := by
  intro x hx e
  have := (h.2 x).1 hx
  have e2 : (D.forget sys).reg (x, i, p) = if x == sys then none else D.reg (x, i, p) := rfl
  rw [e2, e] at this
  simp at this
theorem DirAt.has_lt {w : World} {B : DirB} {D : Dir} (h : DirAt w B D) : ∀ i, B.has i → i < w.heap.size := by
  rintro i (rfl | rfl | rfl | rfl)
  · exact h.lt
  · exact h.ren.lt
  · exact h.chg.lt
  · exact h.reg.lt

theorem own_ints {w : World} {base : Nat} {v : Value} {l : List Int} (h : w.ownsRow base 3 1 v l.length (l.map eInt)) : RdInts w (fun b => base ≤ b) v l := by
  rcases h.2 with ⟨rfl, h0⟩ | ⟨g, cap, cur, rfl, hb, hg, hn, hm, hs, ht⟩
  · exact ⟨none, 0, by rw [h0], fun h => by omega⟩
  · refine ⟨_, cap, rfl, fun _ => ⟨g, 0, rfl, hb, by unfold maxLen at hm; omega, fun j hj => ?_⟩⟩
    have := h.cells (g := g) rfl j (eInt (l.getD j 0)) (by simp [hj])
    show _ = some (eInt (l.getD j 0))
    rw [← this]; congr 1
    unfold Addr.add; split
    · rename_i e; simp [e]
    · rfl

set_option maxHeartbeats 8000000 in
set_option maxRecDepth 100000 in
theorem forgetsLaw_any (w : World) (v : Value) (l : List Act53) (sys : Int) (h : ActsAt w (fun i => i < w.heap.size) v l) :
    Calls Try.prog 5 #[v, .int .i64 sys] w fun e w' => e = .returned (.bool true) ∧ Qt w w' := by
  obtain ⟨A, c, rfl, hl, hA⟩ := id h
  have HA := Lib.hid h
  have HB := Lib.hid hA
  clear hA
  have hmm := @run_makeMap Try.prog
  cases hf : few53 l 40
  · have HF := Lib.hid hf
    clear hf
    go_enter Try.func5, Try.ntmps5
    go_wp2_with fail
    refine (few_any _ _ _ l 40 HA.out).mono ?_
    rw [HF.out]
    rintro e w1 ⟨rfl, q1⟩
    go_wp2_with fail
    refine (awake_any _).mono ?_
    rintro e w2 ⟨rfl, q2⟩
    go_wp2
    go_ret
    exact ⟨rfl, q1.trans' q2⟩
  · have HF := Lib.hid hf
    clear hf
    go_enter Try.func5, Try.ntmps5
    go_wp2_with fail
    refine (few_any _ _ _ l 40 HA.out).mono ?_
    rw [HF.out]
    rintro e w1 ⟨rfl, q1⟩
    go_wp2_with fail
    refine (new_any _).mono ?_
    rintro e w2 ⟨B, rfl, h2, q2, hge⟩
    have HG := Lib.hid hge
    clear hge
    have HM1 : Hid (∀ i, B.has i → i < w2.heap.size) := Lib.hid h2.has_lt
    have q12 : Qt w w2 := q1.trans' q2
    have LM1 : Hid (IsMap (w2.alloc (.map #[] 0)) w2.heap.size eKey eInt (fun _ => none)) := Lib.hid (IsMap.made w2)
    go_wp2_with fail
    go_loopw [26] (fun x wr => ∃ (k : Nat) (D : Dir) (Vf : Int × Int × Int → Option Int), k ≤ l.length ∧ x = .int .i64 k ∧ DirAt wr B D ∧ IsMap wr w2.heap.size eKey eInt Vf ∧ 0 ≤ D.cnt ∧ D.cnt ≤ k ∧ D.cap ≤ k ∧ Qt w wr)
      (fun x _ => l.length - (intOf x).toNat)
    case atStart => exact ⟨0, aD0, _, Nat.zero_le _, rfl, h2.qt ((Fr.refl _ _).alloc _), LM1.out, by decide, by decide, by decide, q12.alloc _⟩
    case round =>
      obtain ⟨k, D, Vf, hk, rfl, hD, hV, hc0, hcnt, hcap, qq⟩ := hrel
      have hlo : (l.length : Int) ≤ 40 := by
        have := HF.out
        unfold few53 at this
        simp only [Bool.and_eq_true, decide_eq_true_eq] at this
        exact this.1
      by_cases hlt : k < l.length
      · obtain ⟨b, off, rfl, hb, hc⟩ := HB.out (by omega)
        obtain ⟨x, hx⟩ : ∃ x, x = l[k] := ⟨_, rfl⟩
        have hc' := hc k hlt
        rw [← hx] at hc'
        obtain ⟨g0, g1, g2, g3, pv, g4, g5⟩ := hc'.fr hb qq (fun _ _ x => x)
        obtain ⟨A2, c2, rfl, hp⟩ := id g5
        obtain ⟨K, hK⟩ : ∃ K, K = bits BinOp.and IntKind.i64 x.kind 3 := ⟨_, rfl⟩
        have qa : Qt wr (wr.alloc (.cells #[.int .i64 x.kind, .int .i64 x.sys, .int .i64 x.id, .int .i64 x.page, .slice A2 x.pages.length c2] 33)) := (Fr.refl _ _).alloc _
        have hD1 := hD.qt qa
        have hV1 := hV.fr qa (fun x => x)
        have q1' := qq.trans' qa
        have G6 := Lib.hid (g5.fr qa (fun _ _ x => x))
        have HBw : ∀ i, B.has i → w.heap.size ≤ i := fun i hi => by have := HG.out i hi; have := q1.size; omega
        have HBw' := Lib.hid HBw
        have hMw : w.heap.size ≤ w2.heap.size := q12.size
        have HM1' : ∀ i, B.has i → i ≠ w2.heap.size := fun i hi e => by have := HM1.out i hi; omega
        have HM2 := Lib.hid HM1'
        clear hx hp hc hc' g5 HBw HM1'
        by_cases k0 : K = 0
        · have kb : (bits BinOp.and IntKind.i64 x.kind 3 == 0) = true := by rw [← hK, k0]; rfl
          have hblt : ∀ i, B.has i → i < wr.heap.size := hD.has_lt
          have hmlt := hV.lt
          have sa1 : ∀ w', (Fr (fun k => B.has k ∨ k = w2.heap.size) (wr.alloc (.cells #[.int .i64 x.kind, .int .i64 x.sys, .int .i64 x.id, .int .i64 x.page, .slice A2 x.pages.length c2] 33))) w' → w'.cell? ⟨wr.heap.size, 1, none⟩ = some (.int .i64 x.sys) := fun w' h => h.cell (cell_at _ _ rfl rfl) (fun e => e.elim (fun e => by have := hblt _ e; simp at this) (fun e => by simp at e; omega))
          have sa2 : ∀ w', (Fr (fun k => B.has k ∨ k = w2.heap.size) (wr.alloc (.cells #[.int .i64 x.kind, .int .i64 x.sys, .int .i64 x.id, .int .i64 x.page, .slice A2 x.pages.length c2] 33))) w' → w'.cell? ⟨wr.heap.size, 2, none⟩ = some (.int .i64 x.id) := fun w' h => h.cell (cell_at _ _ rfl rfl) (fun e => e.elim (fun e => by have := hblt _ e; simp at this) (fun e => by simp at e; omega))
          have sa3 : ∀ w', (Fr (fun k => B.has k ∨ k = w2.heap.size) (wr.alloc (.cells #[.int .i64 x.kind, .int .i64 x.sys, .int .i64 x.id, .int .i64 x.page, .slice A2 x.pages.length c2] 33))) w' → w'.cell? ⟨wr.heap.size, 3, none⟩ = some (.int .i64 x.page) := fun w' h => h.cell (cell_at _ _ rfl rfl) (fun e => e.elim (fun e => by have := hblt _ e; simp at this) (fun e => by simp at e; omega))
          clear hK k0 hblt
          go_wp2_with fail
          refine wp_region_ord [(0, false), (1, false), (2, false), (3, false), (4, false), (5, false), (6, false), (7, false), (8, false), (9, false), (10, false), (11, false), (12, false), (13, false), (14, false), (15, true), (16, true)] (by kernel_rfl) (by kernel_rfl) (Fr (fun k => B.has k ∨ k = w2.heap.size) (wr.alloc (.cells #[.int .i64 x.kind, .int .i64 x.sys, .int .i64 x.id, .int .i64 x.page, .slice A2 x.pages.length c2] 33))) ((Fr.refl _ _).drew) (fun c a d v w h => by cases d <;> exact h) ?_
          iterate 15
            refine wpHeld_q rfl rfl ?_
            apply Exists.intro
            refine ⟨fun w' hS => ?_, ?_⟩
            · go_simp
              exact rfl
            go_frame
          refine wpHeld_e rfl ?_
          go_wp2_with fail
          refine (register_as _ B D (D.regd x.sys x.id x.page) x.sys x.id x.page _ (hD1.qt (Fr.refl _ _).drew) rfl rfl).mono ?_
          rintro e wc ⟨rfl, hd2, f2'⟩
          have f3' : Fr B.has (wr.alloc (.cells #[.int .i64 x.kind, .int .i64 x.sys, .int .i64 x.id, .int .i64 x.page, .slice A2 x.pages.length c2] 33)) wc := ((Fr.refl B.has (wr.alloc (.cells #[.int .i64 x.kind, .int .i64 x.sys, .int .i64 x.id, .int .i64 x.page, .slice A2 x.pages.length c2] 33))).drew).trans' f2'
          have hV2 := hV1.fr f3' (fun h => HM2.out _ h rfl)
          go_wp2_with fail
          refine ⟨f3'.mono (fun _ _ h => .inl h), ?_⟩
          refine wpHeld_e rfl ?_
          refine wpList_upd _ rfl _ _ _ _ rfl key50 Try.underlying49 w2.heap.size Vf rfl hV2 (x.sys, x.id, x.page) (D.ver (x.id, x.page)) rfl rfl ?_
          intro wd m4 f4 z4 y4
          have hd4 := hd2.fr f4 (fun i hi e => HM2.out i hi e)
          have q4 : Qt w wd := (q1'.trans f3' (fun _ h => h) (fun i hi h => by have := HBw'.out i h; omega)).trans f4 (fun _ h => h) (fun i hi h => by omega)
          clear z4 y4
          refine ⟨(f3'.mono (fun _ _ h => .inl h)).trans f4 (fun _ h => h) (fun _ _ h => .inr h), ?_⟩
          refine wpHeld_nil ?_
          go_frame
          go_wp2
          go_roundw
          case rel => exact ⟨k + 1, _, _, by omega, by go_num, hd4, m4, hc0, by show D.cnt ≤ _; push_cast; omega, by show D.cap + 1 ≤ _; omega, q4⟩
          case measure => simp [intOf]; omega
        · have kb0 : (bits BinOp.and IntKind.i64 x.kind 3 == 0) = false := by rw [← hK]; simpa using k0
          by_cases k1 : K = 1
          · have kb1 : (bits BinOp.and IntKind.i64 x.kind 3 == 1) = true := by rw [← hK, k1]; rfl
            clear hK k0 k1
            go_wp2_with fail
            refine (change_any _ B D (fun i => i < w.heap.size) x.id _ x.pages hD1 (fun i h1 h2 => by have := HBw'.out i h1; omega) G6.out hc0 (by omega)).mono ?_
            rintro e wc ⟨rfl, hd2, f2'⟩
            have hV2 := hV1.fr f2' (fun h => HM2.out _ h rfl)
            have q4 : Qt w wc := q1'.trans f2' (fun _ h => h) (fun i hi h => by have := HBw'.out i h; omega)
            go_wp2
            exact ⟨⟨k + 1, D.change x.id x.pages, Vf, by omega, by go_num, hd2, hV2, by show 0 ≤ D.cnt + 1; omega, by show D.cnt + 1 ≤ _; push_cast; omega, by show D.cap ≤ _; omega, q4⟩, by simp [intOf]; omega⟩
          · have kb1 : (bits BinOp.and IntKind.i64 x.kind 3 == 1) = false := by rw [← hK]; simpa using k1
            by_cases k2 : K = 2
            · have kb2 : (bits BinOp.and IntKind.i64 x.kind 3 == 2) = true := by rw [← hK, k2]; rfl
              clear hK k0 k1 k2
              go_wp2_with fail
              refine (renew_any _ B D x.id hD1 hc0 (by omega)).mono ?_
              rintro e wc ⟨rfl, hd2, f2'⟩
              have hV2 := hV1.fr f2' (fun h => HM2.out _ h rfl)
              have q4 : Qt w wc := q1'.trans f2' (fun _ h => h) (fun i hi h => by have := HBw'.out i h; omega)
              go_wp2
              exact ⟨⟨k + 1, D.renew x.id, Vf, by omega, by go_num, hd2, hV2, by show 0 ≤ D.cnt + 1; omega, by show D.cnt + 1 ≤ _; push_cast; omega, by show D.cap ≤ _; omega, q4⟩, by simp [intOf]; omega⟩
            · have kb2 : (bits BinOp.and IntKind.i64 x.kind 3 == 2) = false := by rw [← hK]; simpa using k2
              clear hK k0 k1 k2
              go_wp2
              exact ⟨⟨k + 1, D, Vf, by omega, by go_num, hD1, hV1, hc0, by push_cast; omega, by omega, q1'⟩, by simp [intOf]; omega⟩
      · obtain ⟨w4, rfl⟩ : ∃ w4 : World, w4 = wr := ⟨_, rfl⟩
        clear hcnt
        have hMw : w.heap.size ≤ w2.heap.size := q12.size
        have qb : Qt w4 (w4.alloc (.map #[] 0)) := (Fr.refl _ _).alloc _
        have hVb := hV.fr qb (fun x => x)
        have hWb : IsMap (w4.alloc (.map #[] 0)) w4.heap.size eKey eBool (fun _ => none) := IsMap.made w4
        obtain ⟨w5, n5, hrun5, it5, q5, z5⟩ := hVb.range (P := Try.prog) Try.underlying49
        have Z5 := Lib.hid z5
        clear z5
        simp only [World.size_alloc] at hrun5 it5
        have hD5 := (hD.qt qb).qt q5
        have hW5 := hWb.fr q5 (fun x => x)
        have q45 : Qt w w5 := (qq.trans' qb).trans' q5
        have hmlt := hV.lt
        have hblt := hD.has_lt
        have HBL := Lib.hid hblt
        clear hblt
        go_wp2
        go_loopw [10] (fun _ wr => ∃ (S : Int × Int × Int → Prop) (n : Nat) (Wf : Int × Int × Int → Option Bool), IsIter wr w2.heap.size (w4.heap.size + 1) eKey eInt Vf S n ∧ IsMap wr w4.heap.size eKey eBool Wf ∧
            (∀ k b, Wf k = some b → ∃ v, Vf k = some v ∧ b = D.valid k.1 k.2.1 k.2.2 v) ∧ (∀ k, S k → (Vf k).isSome = true → (Wf k).isSome = true) ∧ DirAt wr B D ∧ Qt w wr) (fun _ wr => iterLeft wr w2.heap.size (w4.heap.size + 1))
        case atStart => exact ⟨_, n5, _, it5, hW5, by simp, fun _ h => h.elim, hD5, q45⟩
        case round =>
          obtain ⟨S, n, Wf, it, hW, hWv, hWs, hDr, qr⟩ := hrel
          have HWV := Lib.hid hWv
          have HWS := Lib.hid hWs
          clear hWv hWs hrun5
          rcases it.next (P := Try.prog) key50.inj 0 with ⟨hn, hall, hrun⟩ | ⟨⟨k1, k2, k3⟩, vv, w6, n', hF, hnS, hrun, it1, hlt6, f1, z1, hen⟩
          · have HAL := Lib.hid hall
            clear hall hn
            obtain ⟨w7, rfl⟩ : ∃ w7 : World, w7 = wr := ⟨_, rfl⟩
            go_wp2_with fail
            refine (forgets_any _ B D sys hDr).mono ?_
            rintro e w8 ⟨rfl, hd8, f8⟩
            have hblt7 := hDr.has_lt
            have HB7 := Lib.hid hblt7
            clear hblt7
            have hm2 : ∀ i, B.has i → i ≠ w2.heap.size := fun i hi e => by have := HM1.out i hi; omega
            have hm4 : ∀ i, B.has i → i ≠ w4.heap.size := fun i hi e => by have := HBL.out i hi; omega
            have hV8 := it.map.fr f8 (fun h => hm2 _ h rfl)
            have hW8 := hW.fr f8 (fun h => hm4 _ h rfl)
            have q8 : Qt w w8 := qr.trans f8 (fun _ h => h) (fun i hi h => by have := HG.out i h; have := q1.size; omega)
            obtain ⟨w9, n9, hrun9, it9, q9, z9⟩ := hV8.range (P := Try.prog) Try.underlying49
            have Z9 := Lib.hid z9
            have HH2 := Lib.hid hm2
            have HH4 := Lib.hid hm4
            clear z9 hrun hm2 hm4
            have full : ∀ k v, Vf k = some v → Wf k = some (D.valid k.1 k.2.1 k.2.2 v) := fun k v hk => by
              have h1 := HWS.out k (HAL.out k (by rw [hk]; rfl)) (by rw [hk]; rfl)
              obtain ⟨b, hb⟩ := Option.isSome_iff_exists.1 h1
              obtain ⟨v', hv', e⟩ := HWV.out k b hb
              rw [hk] at hv'; cases hv'
              rw [hb, e]
            have FULL := Lib.hid full
            clear full
            have hd9 := hd8.qt q9
            have hW9 := hW8.fr q9 (fun x => x)
            have q89 := q8.trans' q9
            clear it hW hWb hVb it5 hV hD5 hW5 hD hDr
            go_wp2
            go_loopw [12] (fun _ wr => ∃ (S : Int × Int × Int → Prop) (n : Nat), IsIter wr w2.heap.size w8.heap.size eKey eInt Vf S n ∧ IsMap wr w4.heap.size eKey eBool Wf ∧ DirAt wr B (D.forget sys) ∧ Qt w wr) (fun _ wr => iterLeft wr w2.heap.size w8.heap.size)
            case atStart => exact ⟨_, n9, it9, hW9, hd9, q89⟩
            case round =>
              obtain ⟨S2, m, jt, hWr, hDr, qr2⟩ := hrel
              clear hrun9
              rcases jt.next (P := Try.prog) key50.inj 0 with ⟨hn, hall, hrun⟩ | ⟨⟨k1, k2, k3⟩, vv, wa, m', hF, hnS, hrun, jt1, hltm, f1, z1, hen⟩
              · clear hall hn
                go_wp2_with fail
                refine (awake_any _).mono ?_
                rintro e we ⟨rfl, qe⟩
                go_wp2
                go_ret
                exact ⟨rfl, qr2.trans' qe⟩
              · have HLT := Lib.hid hltm
                have HF6 := Lib.hid hF
                have Z1 := Lib.hid z1
                clear hltm hF hnS z1
                simp only [eKey, eInt] at hrun hen
                have hw8 : w4.heap.size ≤ w8.heap.size := by have := q8.size; have := f8.size; have := hW8.lt; omega
                have hw4 : w.heap.size ≤ w4.heap.size := qq.size
                have hD6 := hDr.fr f1 (fun i hi e => by have := HBL.out i hi; omega)
                have h48 := hW8.lt
                have hW6 := hWr.fr f1 (fun e => by omega)
                have q6 : Qt w wa := qr2.trans f1 (fun _ h => h) (fun i hi h => by omega)
                obtain ⟨wo, rfl⟩ : ∃ wo : World, wo = wr := ⟨_, rfl⟩
                have qa : Qt wa (wa.alloc (.cells #[.int .i64 k1, .int .i64 k2, .int .i64 k3] 50)) := (Fr.refl _ _).alloc _
                have hD7 := hD6.qt qa
                have hW7 := hW6.fr qa (fun x => x)
                have jt7 := jt1.fr qa (fun x => x) (fun x => x)
                have q7 := q6.trans' qa
                have sb0 : ∀ w', Qt (wa.alloc (.cells #[.int .i64 k1, .int .i64 k2, .int .i64 k3] 50)) w' → w'.cell? ⟨wa.heap.size, 0, none⟩ = some (.int .i64 k1) := fun w' h => h.cell (cell_at _ _ rfl rfl) (fun e => e)
                have sb1 : ∀ w', Qt (wa.alloc (.cells #[.int .i64 k1, .int .i64 k2, .int .i64 k3] 50)) w' → w'.cell? ⟨wa.heap.size, 1, none⟩ = some (.int .i64 k2) := fun w' h => h.cell (cell_at _ _ rfl rfl) (fun e => e)
                have sb2 : ∀ w', Qt (wa.alloc (.cells #[.int .i64 k1, .int .i64 k2, .int .i64 k3] 50)) w' → w'.cell? ⟨wa.heap.size, 2, none⟩ = some (.int .i64 k3) := fun w' h => h.cell (cell_at _ _ rfl rfl) (fun e => e)
                obtain ⟨vb, hvb⟩ : ∃ vb, vb = D.valid k1 k2 k3 vv := ⟨_, rfl⟩
                have lk : ∀ w', Qt (wa.alloc (.cells #[.int .i64 k1, .int .i64 k2, .int .i64 k3] 50)) w' → (Instr.lookup 51 (.map (some w4.heap.size)) (.agg #[.int .i64 k1, .int .i64 k2, .int .i64 k3]) false).run Try.prog w' = .ok (.bool vb) w' := fun w' hq => by
                  have := hW7.lookup key50 Try.underlying51 zero4 (k1, k2, k3) w' (hq.block _ hW7.lt (fun x => x))
                  rw [elim_bool, FULL.out (k1, k2, k3) vv HF6.out, ← hvb] at this
                  exact this
                have fin : (D.forget sys).valid k1 k2 k3 vv = (vb && (k1 != sys)) := by rw [valid_forget, hvb]
                have FIN := Lib.hid fin
                clear hvb fin
                have endrel : ∀ (wz : World), Qt (wa.alloc (.cells #[.int .i64 k1, .int .i64 k2, .int .i64 k3] 50)) wz → (∃ (S : Int × Int × Int → Prop) (n : Nat), IsIter wz w2.heap.size w8.heap.size eKey eInt Vf S n ∧ IsMap wz w4.heap.size eKey eBool Wf ∧ DirAt wz B (D.forget sys) ∧ Qt w wz) ∧ iterLeft wz w2.heap.size w8.heap.size < iterLeft wo w2.heap.size w8.heap.size := fun wz hq => by
                  have jtz := jt7.fr hq (fun x => x) (fun x => x)
                  exact ⟨⟨_, m', jtz, hW7.fr hq (fun x => x), hD7.qt hq, q7.trans' hq⟩, by rw [jtz.left_eq, jt.left_eq]; exact HLT.out⟩
                have ER := Lib.hid endrel
                clear endrel
                have hol : ∀ (wz : World), Qt (wa.alloc (.cells #[.int .i64 k1, .int .i64 k2, .int .i64 k3] 50)) wz → Calls Try.prog 21 #[.pointer (some ⟨B.b, 0, none⟩), .int .i64 k2, .int .i64 k3] wz fun e w' => ∃ v l, e = .returned v ∧ (∀ x ∈ l, x ≠ sys) ∧ RdInts w' (fun b => wz.heap.size ≤ b) v l ∧ Qt (wa.alloc (.cells #[.int .i64 k1, .int .i64 k2, .int .i64 k3] 50)) w' := fun wz hq =>
                  (holders_any wz B (D.forget sys) k2 k3 (hD7.qt hq) (by show D.cap ≤ _; omega)).mono fun e w' ⟨v, l, h1, h2, _, h4, _, h6⟩ => ⟨v, l, h1, holds_forget D sys k2 k3 l h2, own_ints h4, hq.trans' h6⟩
                have HOL := Lib.hid hol
                clear hol
                clear jt hWr hDr jt1 hD6 hW6 hW8 hV8 hd8 it9 hd9 hW9 hW7 jt7
                have cases3 : (vb = false) ∨ (vb = true ∧ k1 = sys) ∨ (vb = true ∧ k1 ≠ sys) := by
                  cases vb
                  · exact .inl rfl
                  · by_cases e : k1 = sys
                    · exact .inr (.inl ⟨rfl, e⟩)
                    · exact .inr (.inr ⟨rfl, e⟩)
                rcases cases3 with rfl | ⟨rfl, hks⟩ | ⟨rfl, hks⟩
                · have HBV : Hid ((D.forget sys).valid k1 k2 k3 vv = false) := Lib.hid (by rw [FIN.out]; rfl)
                  go_wp2_with fail
                  refine wp_region_ord [(0, false), (1, false), (2, false), (3, false), (4, false), (5, false), (6, false), (7, false), (9, false), (10, false), (11, false), (8, true), (12, false), (13, false), (14, false), (15, false), (16, false), (17, false), (18, false)] (by kernel_rfl) (by kernel_rfl) (Qt (wa.alloc (.cells #[.int .i64 k1, .int .i64 k2, .int .i64 k3] 50))) ((Fr.refl _ _).drew) (fun c a d v w h => by cases d <;> exact h) ?_
                  iterate 11
                    refine wpHeld_q rfl rfl ?_
                    apply Exists.intro
                    refine ⟨fun w' hS => ?_, ?_⟩
                    · go_simp
                      exact rfl
                    go_frame
                  refine wpHeld_e rfl ?_
                  go_wp2_with fail
                  refine (valid_q _ B (D.forget sys) k1 k2 k3 vv false (hD7.qt (Fr.refl _ _).drew) (HBV.out)).mono ?_
                  rintro e wc ⟨rfl, qc'⟩
                  have qc : Qt (wa.alloc (.cells #[.int .i64 k1, .int .i64 k2, .int .i64 k3] 50)) wc := ((Fr.refl Emp (wa.alloc (.cells #[.int .i64 k1, .int .i64 k2, .int .i64 k3] 50))).drew).trans' qc'
                  go_wp2_with fail
                  refine ⟨qc, ?_⟩
                  iterate 1
                    refine wpHeld_q rfl rfl ?_
                    apply Exists.intro
                    refine ⟨fun w' hS => ?_, ?_⟩
                    · go_simp
                      exact rfl
                    go_frame
                  iterate 4 (refine wpHeld_no rfl rfl ?_; go_frame)
                  iterate 2
                    refine wpHeld_q rfl rfl ?_
                    apply Exists.intro
                    refine ⟨fun w' hS => ?_, ?_⟩
                    · go_simp
                      exact rfl
                    go_frame
                  refine wpHeld_nil ?_
                  have tb1 := qc.cell (cell_at (w := wa) (c := #[.int .i64 k1, .int .i64 k2, .int .i64 k3]) (t := 50) _ 1 rfl rfl) (fun x => x)
                  have tb2 := qc.cell (cell_at (w := wa) (c := #[.int .i64 k1, .int .i64 k2, .int .i64 k3]) (t := 50) _ 2 rfl rfl) (fun x => x)
                  go_wp2_with fail
                  refine (HOL.out _ qc).mono ?_
                  rintro e wh ⟨vh, lh, rfl, hne, hrd, qh⟩
                  obtain ⟨A3, c3, rfl, hp3⟩ := hrd
                  have HNE := Lib.hid hne
                  have HP3 := Lib.hid hp3
                  clear hne hp3
                  go_wp2
                  go_loopw [121] (fun y w4' => ∃ jj : Nat, jj ≤ lh.length ∧ y = .int .i64 jj ∧ w4' = wh) (fun y _ => lh.length - (intOf y).toNat)
                  case atStart => exact ⟨0, Nat.zero_le _, rfl, rfl⟩
                  case round =>
                    obtain ⟨jj, hjj, rfl, rfl⟩ := hrel
                    by_cases hltj : jj < lh.length
                    · obtain ⟨b3, off3, rfl, _, hl3, hc3⟩ := HP3.out (by omega)
                      obtain ⟨y, hy⟩ : ∃ y, y = lh.getD jj 0 := ⟨_, rfl⟩
                      have cj := hc3 jj hltj
                      rw [← hy] at cj
                      have hys : (y == sys) = false := by
                        have := HNE.out _ (getD_mem lh hltj)
                        rw [← hy] at this
                        simpa using this
                      clear hy hc3
                      go_wp2
                      go_roundw
                      case rel => exact ⟨jj + 1, by omega, by go_num, by first | rfl | trivial⟩
                      case measure => simp [intOf]; omega
                    · go_wp2
                      exact ER.out _ qh
                · have hk1 : (k1 == sys) = true := by simpa using hks
                  have hk2 : (k1 != sys) = false := by rw [bne, hk1]; rfl
                  have HBV : Hid ((D.forget sys).valid k1 k2 k3 vv = false) := Lib.hid (by rw [FIN.out, hk2]; rfl)
                  clear hks
                  go_wp2_with fail
                  refine wp_region_ord [(0, false), (1, false), (2, false), (3, false), (4, false), (5, false), (6, false), (7, false), (9, false), (10, false), (11, false), (8, true), (12, false), (13, false), (14, false), (15, false), (16, false), (17, false), (18, false)] (by kernel_rfl) (by kernel_rfl) (Qt (wa.alloc (.cells #[.int .i64 k1, .int .i64 k2, .int .i64 k3] 50))) ((Fr.refl _ _).drew) (fun c a d v w h => by cases d <;> exact h) ?_
                  iterate 11
                    refine wpHeld_q rfl rfl ?_
                    apply Exists.intro
                    refine ⟨fun w' hS => ?_, ?_⟩
                    · go_simp
                      exact rfl
                    go_frame
                  refine wpHeld_e rfl ?_
                  go_wp2_with fail
                  refine (valid_q _ B (D.forget sys) k1 k2 k3 vv false (hD7.qt (Fr.refl _ _).drew) (HBV.out)).mono ?_
                  rintro e wc ⟨rfl, qc'⟩
                  have qc : Qt (wa.alloc (.cells #[.int .i64 k1, .int .i64 k2, .int .i64 k3] 50)) wc := ((Fr.refl Emp (wa.alloc (.cells #[.int .i64 k1, .int .i64 k2, .int .i64 k3] 50))).drew).trans' qc'
                  go_wp2_with fail
                  refine ⟨qc, ?_⟩
                  iterate 7
                    refine wpHeld_q rfl rfl ?_
                    apply Exists.intro
                    refine ⟨fun w' hS => ?_, ?_⟩
                    · go_simp
                      exact rfl
                    go_frame
                  refine wpHeld_nil ?_
                  have tb1 := qc.cell (cell_at (w := wa) (c := #[.int .i64 k1, .int .i64 k2, .int .i64 k3]) (t := 50) _ 1 rfl rfl) (fun x => x)
                  have tb2 := qc.cell (cell_at (w := wa) (c := #[.int .i64 k1, .int .i64 k2, .int .i64 k3]) (t := 50) _ 2 rfl rfl) (fun x => x)
                  go_wp2_with fail
                  refine (HOL.out _ qc).mono ?_
                  rintro e wh ⟨vh, lh, rfl, hne, hrd, qh⟩
                  obtain ⟨A3, c3, rfl, hp3⟩ := hrd
                  have HNE := Lib.hid hne
                  have HP3 := Lib.hid hp3
                  clear hne hp3
                  go_wp2
                  go_loopw [121] (fun y w4' => ∃ jj : Nat, jj ≤ lh.length ∧ y = .int .i64 jj ∧ w4' = wh) (fun y _ => lh.length - (intOf y).toNat)
                  case atStart => exact ⟨0, Nat.zero_le _, rfl, rfl⟩
                  case round =>
                    obtain ⟨jj, hjj, rfl, rfl⟩ := hrel
                    by_cases hltj : jj < lh.length
                    · obtain ⟨b3, off3, rfl, _, hl3, hc3⟩ := HP3.out (by omega)
                      obtain ⟨y, hy⟩ : ∃ y, y = lh.getD jj 0 := ⟨_, rfl⟩
                      have cj := hc3 jj hltj
                      rw [← hy] at cj
                      have hys : (y == sys) = false := by
                        have := HNE.out _ (getD_mem lh hltj)
                        rw [← hy] at this
                        simpa using this
                      clear hy hc3
                      go_wp2
                      go_roundw
                      case rel => exact ⟨jj + 1, by omega, by go_num, by first | rfl | trivial⟩
                      case measure => simp [intOf]; omega
                    · go_wp2
                      exact ER.out _ qh
                · have hk1 : (k1 == sys) = false := by simpa using hks
                  have hk2 : (k1 != sys) = true := by rw [bne, hk1]; rfl
                  have HBV : Hid ((D.forget sys).valid k1 k2 k3 vv = true) := Lib.hid (by rw [FIN.out, hk2]; rfl)
                  clear hks
                  go_wp2_with fail
                  refine wp_region_ord [(0, false), (1, false), (2, false), (3, false), (4, false), (5, false), (6, false), (7, false), (9, false), (10, false), (11, false), (8, true), (12, false), (13, false), (14, false), (15, false), (16, false), (17, false), (18, false)] (by kernel_rfl) (by kernel_rfl) (Qt (wa.alloc (.cells #[.int .i64 k1, .int .i64 k2, .int .i64 k3] 50))) ((Fr.refl _ _).drew) (fun c a d v w h => by cases d <;> exact h) ?_
                  iterate 11
                    refine wpHeld_q rfl rfl ?_
                    apply Exists.intro
                    refine ⟨fun w' hS => ?_, ?_⟩
                    · go_simp
                      exact rfl
                    go_frame
                  refine wpHeld_e rfl ?_
                  go_wp2_with fail
                  refine (valid_q _ B (D.forget sys) k1 k2 k3 vv true (hD7.qt (Fr.refl _ _).drew) (HBV.out)).mono ?_
                  rintro e wc ⟨rfl, qc'⟩
                  have qc : Qt (wa.alloc (.cells #[.int .i64 k1, .int .i64 k2, .int .i64 k3] 50)) wc := ((Fr.refl Emp (wa.alloc (.cells #[.int .i64 k1, .int .i64 k2, .int .i64 k3] 50))).drew).trans' qc'
                  go_wp2_with fail
                  refine ⟨qc, ?_⟩
                  iterate 7
                    refine wpHeld_q rfl rfl ?_
                    apply Exists.intro
                    refine ⟨fun w' hS => ?_, ?_⟩
                    · go_simp
                      exact rfl
                    go_frame
                  refine wpHeld_nil ?_
                  have tb1 := qc.cell (cell_at (w := wa) (c := #[.int .i64 k1, .int .i64 k2, .int .i64 k3]) (t := 50) _ 1 rfl rfl) (fun x => x)
                  have tb2 := qc.cell (cell_at (w := wa) (c := #[.int .i64 k1, .int .i64 k2, .int .i64 k3]) (t := 50) _ 2 rfl rfl) (fun x => x)
                  go_wp2_with fail
                  refine (HOL.out _ qc).mono ?_
                  rintro e wh ⟨vh, lh, rfl, hne, hrd, qh⟩
                  obtain ⟨A3, c3, rfl, hp3⟩ := hrd
                  have HNE := Lib.hid hne
                  have HP3 := Lib.hid hp3
                  clear hne hp3
                  go_wp2
                  go_loopw [121] (fun y w4' => ∃ jj : Nat, jj ≤ lh.length ∧ y = .int .i64 jj ∧ w4' = wh) (fun y _ => lh.length - (intOf y).toNat)
                  case atStart => exact ⟨0, Nat.zero_le _, rfl, rfl⟩
                  case round =>
                    obtain ⟨jj, hjj, rfl, rfl⟩ := hrel
                    by_cases hltj : jj < lh.length
                    · obtain ⟨b3, off3, rfl, _, hl3, hc3⟩ := HP3.out (by omega)
                      obtain ⟨y, hy⟩ : ∃ y, y = lh.getD jj 0 := ⟨_, rfl⟩
                      have cj := hc3 jj hltj
                      rw [← hy] at cj
                      have hys : (y == sys) = false := by
                        have := HNE.out _ (getD_mem lh hltj)
                        rw [← hy] at this
                        simpa using this
                      clear hy hc3
                      go_wp2
                      go_roundw
                      case rel => exact ⟨jj + 1, by omega, by go_num, by first | rfl | trivial⟩
                      case measure => simp [intOf]; omega
                    · go_wp2
                      exact ER.out _ qh
          · have HLT := Lib.hid hlt6
            have HF6 := Lib.hid hF
            have HNS := Lib.hid hnS
            have Z1 := Lib.hid z1
            clear hlt6 hF hnS z1
            simp only [eKey, eInt] at hrun hen
            have hm4 : w4.heap.size ≠ w4.heap.size + 1 := by omega
            have hD6 := hDr.fr f1 (fun i hi e => by have := HBL.out i hi; omega)
            have hW6 := hW.fr f1 (fun e => by omega)
            have hw4 : w.heap.size ≤ w4.heap.size := qq.size
            have q6 : Qt w w6 := qr.trans f1 (fun _ h => h) (fun i hi h => by omega)
            have qa : Qt w6 (w6.alloc (.cells #[.int .i64 k1, .int .i64 k2, .int .i64 k3] 50)) := (Fr.refl _ _).alloc _
            have hD7 := hD6.qt qa
            have hW7 := hW6.fr qa (fun x => x)
            have it7 := it1.fr qa (fun x => x) (fun x => x)
            have hm6 := hW6.lt
            have sb0 : ∀ w', (Fr (fun i => i = w4.heap.size) (w6.alloc (.cells #[.int .i64 k1, .int .i64 k2, .int .i64 k3] 50))) w' → w'.cell? ⟨w6.heap.size, 0, none⟩ = some (.int .i64 k1) := fun w' h => h.cell (cell_at _ _ rfl rfl) (fun e => by simp at e; omega)
            have sb1 : ∀ w', (Fr (fun i => i = w4.heap.size) (w6.alloc (.cells #[.int .i64 k1, .int .i64 k2, .int .i64 k3] 50))) w' → w'.cell? ⟨w6.heap.size, 1, none⟩ = some (.int .i64 k2) := fun w' h => h.cell (cell_at _ _ rfl rfl) (fun e => by simp at e; omega)
            have sb2 : ∀ w', (Fr (fun i => i = w4.heap.size) (w6.alloc (.cells #[.int .i64 k1, .int .i64 k2, .int .i64 k3] 50))) w' → w'.cell? ⟨w6.heap.size, 2, none⟩ = some (.int .i64 k3) := fun w' h => h.cell (cell_at _ _ rfl rfl) (fun e => by simp at e; omega)
            go_wp2_with fail
            refine wp_region_ord [(0, false), (1, false), (2, false), (3, false), (4, false), (5, false), (6, false), (7, false), (8, false), (9, false), (10, true), (11, true)] (by kernel_rfl) (by kernel_rfl) (Fr (fun i => i = w4.heap.size) (w6.alloc (.cells #[.int .i64 k1, .int .i64 k2, .int .i64 k3] 50))) ((Fr.refl _ _).drew) (fun c a d v w h => by cases d <;> exact h) ?_
            iterate 10
              refine wpHeld_q rfl rfl ?_
              apply Exists.intro
              refine ⟨fun w' hS => ?_, ?_⟩
              · go_simp
                exact rfl
              go_frame
            refine wpHeld_e rfl ?_
            go_wp2_with fail
            refine (valid_any _ B D k1 k2 k3 vv (hD7.qt (Fr.refl _ _).drew)).mono ?_
            rintro e wc ⟨rfl, qc'⟩
            have qc : Qt (w6.alloc (.cells #[.int .i64 k1, .int .i64 k2, .int .i64 k3] 50)) wc := ((Fr.refl Emp (w6.alloc (.cells #[.int .i64 k1, .int .i64 k2, .int .i64 k3] 50))).drew).trans' qc'
            go_wp2_with fail
            refine ⟨qc.mono (fun _ _ h => h.elim), ?_⟩
            refine wpHeld_e rfl ?_
            refine wpList_upd _ rfl _ _ _ _ rfl key50 Try.underlying51 w4.heap.size Wf rfl (hW7.fr qc (fun x => x)) (k1, k2, k3) (D.valid k1 k2 k3 vv) rfl rfl ?_
            intro wd m4 f4 z4 y4
            clear z4 y4
            have itd := (it7.fr qc (fun x => x) (fun x => x)).fr f4 (fun e => by omega) (fun e => by omega)
            have hDd := (hD7.qt qc).fr f4 (fun i hi e => by have := HBL.out i hi; omega)
            have qd : Qt w wd := ((q6.trans' qa).trans' qc).trans f4 (fun _ h => h) (fun i hi h => by omega)
            refine ⟨(qc.mono (fun _ _ h => h.elim)).trans' f4, ?_⟩
            refine wpHeld_nil ?_
            go_frame
            go_wp2
            go_roundw
            case rel =>
              refine ⟨_, n', _, itd, m4, ?_, ?_, hDd, qd⟩
              · intro k b hb
                unfold putF at hb
                split at hb
                · rename_i e; subst e; cases hb
                  exact ⟨vv, HF6.out, rfl⟩
                · exact HWV.out k b hb
              · intro k hk hv
                unfold putF
                split
                · rfl
                · rename_i e
                  rcases hk with hk | hk
                  · exact HWS.out k hk hv
                  · exact absurd hk e
            case measure => rw [itd.left_eq, it.left_eq]; exact HLT.out

theorem forgets_row (w : World) {v : Value} {l : List Act53} (h : ActsAt w (fun i => i < w.heap.size) v l) {sys : Int} (_ : (Lit.int .i64 sys).wf = true) :
    Calls Try.prog 5 #[v, .int .i64 sys] w fun e w' => e = .returned (.bool true) ∧ Below w.heap.size w w' :=
  (forgetsLaw_any w v l sys h).mono fun e w' ⟨h1, h2⟩ => ⟨h1, h2.below (Nat.le_refl _) (fun _ x => x.elim)⟩
end Go.Proofs.Ythongdbomjckfaa
