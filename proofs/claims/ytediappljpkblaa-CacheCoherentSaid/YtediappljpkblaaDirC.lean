/- The directory of package cache: Change, Renew, Forget. -/
import Derived.Test.YtediappljpkblaaDirB
namespace Go.Proofs.Ytediappljpkblaa
set_option linter.unusedSimpArgs false
set_option linter.unusedVariables false
open Go.RowKit

theorem DirAt.setCnt {w : World} {B : DirB} {D : Dir} (h : DirAt w B D) (n : Int) : DirAt (w.setCell ⟨B.b, 0, none⟩ (.int .i64 n)) B { D with cnt := n } := by
  have f : Fr (fun k => k = B.b) w (w.setCell ⟨B.b, 0, none⟩ (.int .i64 n)) := (Fr.refl (fun k => k = B.b) w).setCell (p := ⟨B.b, 0, none⟩) (.inr rfl) _
  refine ⟨?_, h.ren.fr f (fun e => h.br e.symm), h.chg.fr f (fun e => h.bc e.symm), h.reg.fr f (fun e => h.bg e.symm), h.rc, h.rg, h.cg, h.reg1, by rw [h.reg.size_fr f (fun e => h.bg e.symm)]; exact h.small⟩
  simp [World.setCell, Array.getElem?_modify, h.cells]
/-- the pages of l of the data set id have the version c -/
def chgs (C : Int × Int → Option Int) (id : Int) (l : List Int) (c : Int) : Int × Int → Option Int := fun q => if q.1 = id ∧ q.2 ∈ l then some c else C q
theorem chgs_nil (C id c) : chgs C id [] c = C := by funext q; simp [chgs]
theorem chgs_snoc (C id l x c) : putF (chgs C id l c) (id, x) c = chgs C id (l ++ [x]) c := by
  funext ⟨q1, q2⟩
  unfold putF chgs
  by_cases h1 : q1 = id <;> by_cases h2 : q2 = x <;> simp [h1, h2]
theorem take_snoc_int (xs : List Int) (k : Nat) (h : k < xs.length) : xs.take (k + 1) = xs.take k ++ [xs.getD k 0] := by
  rw [List.take_succ_eq_append_getElem h]; simp [h]

def accChange (id : Int) (l : List Int) (k : Int × Int × Int) : Bool := k.2.1 == id && l.contains k.2.2
def accRenew (id : Int) (k : Int × Int × Int) : Bool := k.2.1 == id
def accForget (s : Int) (k : Int × Int × Int) : Bool := k.1 == s
/-- what Change makes of a directory -/
def Dir.change (D : Dir) (id : Int) (l : List Int) : Dir :=
  { D with cnt := D.cnt + 1, chg := chgs D.chg id l (D.cnt + 1), reg := offF D.reg (accChange id l) }
/-- what Renew makes of a directory -/
def Dir.renew (D : Dir) (id : Int) : Dir := { D with cnt := D.cnt + 1, ren := putF D.ren id (D.cnt + 1), reg := offF D.reg (accRenew id) }
/-- what Forget makes of a directory -/
def Dir.forget (D : Dir) (s : Int) : Dir := { D with reg := offF D.reg (accForget s) }

theorem callFunc26 (a : Array Value) (w : World) : (callFunc 21 a).run Try.prog w = .ok (.enter 21 a) w := by
  simp [callFunc, Try.func21, Try.f21]
theorem callFunc29 (a : Array Value) (w : World) : (callFunc 23 a).run Try.prog w = .ok (.enter 23 a) w := by
  simp [callFunc, Try.func23, Try.f23]
theorem callFunc30 (a : Array Value) (w : World) : (callFunc 24 a).run Try.prog w = .ok (.enter 24 a) w := by
  simp [callFunc, Try.func24, Try.f24]

set_option maxHeartbeats 1000000 in
set_option maxRecDepth 100000 in
theorem change_any (w : World) (B : DirB) (D : Dir) (L : Nat → Prop) (id : Int) (v : Value) (xs : List Int) (h : DirAt w B D) (hL : ∀ i, B.has i → ¬ L i) (hx : RdInts w L v xs) (hc0 : 0 ≤ D.cnt) (hc1 : D.cnt < 4611686018427387904) :
    Calls Try.prog 10 #[.pointer (some ⟨B.b, 0, none⟩), .int .i64 id, v] w fun e w' => e = .returned (.tuple #[]) ∧ DirAt w' B (D.change id xs) ∧ Fr B.has w w' := by
  obtain ⟨A, c, rfl, hA⟩ := hx
  have f1 : Fr (fun k => k = B.b) w (((w.setCell ⟨B.b, 0, none⟩ (.int .i64 (D.cnt + 1))).alloc (.cells #[.int .i64 id] 3)).alloc (.cells #[.slice A xs.length c] 29)) := (((Fr.refl (fun k => k = B.b) w).setCell (p := ⟨B.b, 0, none⟩) (.inr rfl) _).alloc _).alloc _
  have h1 : DirAt (((w.setCell ⟨B.b, 0, none⟩ (.int .i64 (D.cnt + 1))).alloc (.cells #[.int .i64 id] 3)).alloc (.cells #[.slice A xs.length c] 29)) B { D with cnt := D.cnt + 1 } := (h.setCnt (D.cnt + 1)).qt (((Fr.refl _ _).alloc _).alloc _)
  have c0 := cell_al (o := .cells #[.slice A xs.length c] 29) (cell_al (o := .cells #[.int .i64 id] 3) h.c0)
  have f0 := (h.qt (((Fr.refl _ _).alloc (.cells #[.int .i64 id] 3)).alloc (.cells #[.slice A xs.length c] 29))).f0
  have e4 : (((w.setCell ⟨B.b, 0, none⟩ (.int .i64 (D.cnt + 1))).alloc (.cells #[.int .i64 id] 3)).alloc (.cells #[.slice A xs.length c] 29)).cell? ⟨w.heap.size, 0, none⟩ = some (.int .i64 id) := cell_al (cell_at _ _ (by simp) rfl)
  have e5 : (((w.setCell ⟨B.b, 0, none⟩ (.int .i64 (D.cnt + 1))).alloc (.cells #[.int .i64 id] 3)).alloc (.cells #[.slice A xs.length c] 29)).cell? ⟨w.heap.size + 1, 0, none⟩ = some (.slice A xs.length c) := cell_at _ _ (by simp) rfl
  have hlt := h.lt
  have HA := Lib.hid hA
  clear hA
  go_enter Try.func10, Try.ntmps10
  go_wp2
  have hclt := h.chg.lt
  go_loopw [17] (fun i wr => ∃ k : Nat, k ≤ xs.length ∧ i = .int .i64 k ∧ DirAt wr B { D with cnt := D.cnt + 1, chg := chgs D.chg id (xs.take k) (D.cnt + 1) } ∧ Fr (fun k => k = B.c) (((w.setCell ⟨B.b, 0, none⟩ (.int .i64 (D.cnt + 1))).alloc (.cells #[.int .i64 id] 3)).alloc (.cells #[.slice A xs.length c] 29)) wr) (fun i _ => xs.length - (intOf i).toNat)
  case atStart => exact ⟨0, Nat.zero_le _, rfl, by simpa [chgs_nil] using h1, Fr.refl _ _⟩
  case round =>
    obtain ⟨k, hk, rfl, hd, ff⟩ := hrel
    have e4r := ff.cell e4 (fun e => by simp at e; omega)
    have e5r := ff.cell e5 (fun e => by simp at e; omega)
    have fw : Fr B.has w wr := (f1.trans ff (U := B.has) (fun _ x => by simp [DirB.has, x]) (fun _ _ x => by simp [DirB.has, x]))
    by_cases hlt2 : k < xs.length
    · obtain ⟨b, off, rfl, hb, hl0, hcell⟩ := HA.out (by omega)
      have ck0 : wr.cell? ⟨b, off + k, none⟩ = some (.int .i64 (xs.getD k 0)) := fw.cell (hcell k hlt2) (fun x => hL _ x hb)
      obtain ⟨x, hxk⟩ : ∃ x, x = xs.getD k 0 := ⟨_, rfl⟩
      have ck : wr.cell? ⟨b, off + k, none⟩ = some (.int .i64 x) := by rw [ck0, hxk]
      have HX := Lib.hid hxk
      clear hxk ck0 hcell
      have s0 : ∀ w', Qt wr w' → w'.cell? ⟨B.b, 0, none⟩ = some (.int .i64 (D.cnt + 1)) := fun w' hq => hq.cell hd.c0 (fun x => x)
      have s2 : ∀ w', Qt wr w' → w'.cell? ⟨B.b, 2, none⟩ = some (.map (some B.c)) := fun w' hq => hq.cell hd.c2 (fun x => x)
      have s4 : ∀ w', Qt wr w' → w'.cell? ⟨w.heap.size, 0, none⟩ = some (.int .i64 id) := fun w' hq => hq.cell e4r (fun x => x)
      go_wp2
      refine wp_region_qtail 11 (by kernel_rfl) (by kernel_rfl) (Qt wr) ((Fr.refl _ _).drew) ?_
      simp only [List.take_succ_cons, List.take_zero, List.drop_succ_cons, List.drop_zero]
      iterate 11
        refine wpQuiet_ex rfl ?_
        apply Exists.intro
        refine ⟨fun w' hw' => ?_, ?_⟩
        · go_simp
          exact rfl
        go_frame
      refine wpQuiet_nil ?_
      intro w2 q2
      have hd2 := hd.qt q2
      refine wpList_upd _ rfl _ _ _ _ rfl key61 Try.underlying56 B.c _ rfl hd2.chg (id, x) (D.cnt + 1) rfl rfl ?_
      intro w3 m3 f3 z3 y3
      have hd3 := hd2.setChg m3 f3
      go_frame
      go_wp2
      go_roundw
      case rel =>
        refine ⟨k + 1, by omega, by go_num, ?_, (ff.trans q2 (fun _ x => x) (fun _ _ x => x.elim)).trans' f3⟩
        rw [take_snoc_int xs k hlt2, ← HX.out, ← chgs_snoc]
        exact hd3
      case measure => simp [intOf]; omega
    · have hk' : k = xs.length := by omega
      have hd' := hd
      rw [hk', List.take_length] at hd'
      have HK := Lib.hid hk'
      clear hk'
      have HF : Hid (∀ w1, Fr (fun k => k = B.g) wr w1 → ∀ s i p, Calls Try.prog 21 (#[.agg #[.int .i64 s, .int .i64 i, .int .i64 p]] ++ #[.pointer (some ⟨w.heap.size, 0, none⟩), .pointer (some ⟨w.heap.size + 1, 0, none⟩)]) w1
          fun e w2 => e = .returned (.bool (accChange id xs (s, i, p))) ∧ Qt w1 w2) := Lib.hid fun w1 g1 s i p => by
        have gw : Fr B.has w w1 := fw.trans g1 (fun _ x => x) (fun _ _ x => by simp [DirB.has, x])
        refine change1_any w1 L _ _ (.slice A xs.length c) xs s i p id (g1.cell e4r (fun e => by simp at e; have := h.reg.lt; omega)) (g1.cell e5r (fun e => by simp at e; have := h.reg.lt; omega)) ?_
        exact RdInts.fr ⟨A, c, rfl, HA.out⟩ gw (fun i hi hh => hL i hh hi)
      go_wp2_with (go_at_call 20; refine (forget_any _ B _ _ _ (accChange id xs) hd' callFunc26 HF).mono ?_; rintro e w1 ⟨rfl, hd1, g1⟩)
      go_end0
      exact ⟨rfl, hd1, fw.trans g1 (fun _ x => x) (fun _ _ x => by simp [DirB.has, x])⟩

set_option maxHeartbeats 1000000 in
set_option maxRecDepth 100000 in
theorem renew_any (w : World) (B : DirB) (D : Dir) (id : Int) (h : DirAt w B D) (hc0 : 0 ≤ D.cnt) (hc1 : D.cnt < 4611686018427387904) :
    Calls Try.prog 11 #[.pointer (some ⟨B.b, 0, none⟩), .int .i64 id] w fun e w' => e = .returned (.tuple #[]) ∧ DirAt w' B (D.renew id) ∧ Fr B.has w w' := by
  have f1 : Fr (fun k => k = B.b) w ((w.setCell ⟨B.b, 0, none⟩ (.int .i64 (D.cnt + 1))).alloc (.cells #[.int .i64 id] 3)) := ((Fr.refl (fun k => k = B.b) w).setCell (p := ⟨B.b, 0, none⟩) (.inr rfl) _).alloc _
  have h1 : DirAt ((w.setCell ⟨B.b, 0, none⟩ (.int .i64 (D.cnt + 1))).alloc (.cells #[.int .i64 id] 3)) B { D with cnt := D.cnt + 1 } := (h.setCnt (D.cnt + 1)).qt ((Fr.refl _ _).alloc _)
  have c0 := cell_al (o := .cells #[.int .i64 id] 3) h.c0
  have f0 := (h.qt ((Fr.refl _ _).alloc (.cells #[.int .i64 id] 3))).f0
  have e4 : ((w.setCell ⟨B.b, 0, none⟩ (.int .i64 (D.cnt + 1))).alloc (.cells #[.int .i64 id] 3)).cell? ⟨w.heap.size, 0, none⟩ = some (.int .i64 id) := cell_at _ _ (by simp) rfl
  have hlt := h.lt
  have s0 : ∀ w', Qt ((w.setCell ⟨B.b, 0, none⟩ (.int .i64 (D.cnt + 1))).alloc (.cells #[.int .i64 id] 3)) w' → w'.cell? ⟨B.b, 0, none⟩ = some (.int .i64 (D.cnt + 1)) := fun w' hq => hq.cell h1.c0 (fun x => x)
  have s1 : ∀ w', Qt ((w.setCell ⟨B.b, 0, none⟩ (.int .i64 (D.cnt + 1))).alloc (.cells #[.int .i64 id] 3)) w' → w'.cell? ⟨B.b, 1, none⟩ = some (.map (some B.r)) := fun w' hq => hq.cell h1.c1 (fun x => x)
  have s4 : ∀ w', Qt ((w.setCell ⟨B.b, 0, none⟩ (.int .i64 (D.cnt + 1))).alloc (.cells #[.int .i64 id] 3)) w' → w'.cell? ⟨w.heap.size, 0, none⟩ = some (.int .i64 id) := fun w' hq => hq.cell e4 (fun x => x)
  go_enter Try.func11, Try.ntmps11
  go_wp2
  refine wp_region_qtail 9 (by kernel_rfl) (by kernel_rfl) (Qt ((w.setCell ⟨B.b, 0, none⟩ (.int .i64 (D.cnt + 1))).alloc (.cells #[.int .i64 id] 3))) ((Fr.refl _ _).drew) ?_
  simp only [List.take_succ_cons, List.take_zero, List.drop_succ_cons, List.drop_zero]
  iterate 9
    refine wpQuiet_ex rfl ?_
    apply Exists.intro
    refine ⟨fun w' hw' => ?_, ?_⟩
    · go_simp
      exact rfl
    go_frame
  refine wpQuiet_nil ?_
  intro w2 q2
  have hd2 := h1.qt q2
  refine wpList_upd _ rfl _ _ _ _ rfl key3 Try.underlying55 B.r _ rfl hd2.ren id (D.cnt + 1) rfl rfl ?_
  intro w3 m3 f3 z3 y3
  have hd3 := hd2.setRen m3 f3
  have e43 := f3.cell (q2.cell e4 (fun x => x)) (fun e => by simp at e; have := h.ren.lt; omega)
  have fw : Fr B.has w w3 := (f1.trans q2 (U := B.has) (fun _ x => by simp [DirB.has, x]) (fun _ _ x => x.elim)).trans f3 (fun _ x => x) (fun _ _ x => by simp [DirB.has, x])
  have HF : Hid (∀ w1, Fr (fun k => k = B.g) w3 w1 → ∀ s i p, Calls Try.prog 23 (#[.agg #[.int .i64 s, .int .i64 i, .int .i64 p]] ++ #[.pointer (some ⟨w.heap.size, 0, none⟩)]) w1
      fun e w2 => e = .returned (.bool (accRenew id (s, i, p))) ∧ Qt w1 w2) := Lib.hid fun w1 g1 s i p =>
    renew1_any w1 _ s i p id (g1.cell e43 (fun e => by simp at e; have := h.reg.lt; omega))
  go_frame
  go_wp2_with (go_at_call 20; refine (forget_any _ B _ _ _ (accRenew id) hd3 callFunc29 HF).mono ?_; rintro e w1 ⟨rfl, hd1, g1⟩)
  go_end0
  exact ⟨rfl, hd1, fw.trans g1 (fun _ x => x) (fun _ _ x => by simp [DirB.has, x])⟩
theorem forgets_any (w : World) (B : DirB) (D : Dir) (s : Int) (h : DirAt w B D) :
    Calls Try.prog 12 #[.pointer (some ⟨B.b, 0, none⟩), .int .i64 s] w fun e w' => e = .returned (.tuple #[]) ∧ DirAt w' B (D.forget s) ∧ Fr B.has w w' := by
  have q1 : Qt w (w.alloc (.cells #[.int .i64 s] 3)) := (Fr.refl _ w).alloc _
  have e4 : (w.alloc (.cells #[.int .i64 s] 3)).cell? ⟨w.heap.size, 0, none⟩ = some (.int .i64 s) := cell_at _ _ (by simp) rfl
  have HF : Hid (∀ w1, Fr (fun k => k = B.g) (w.alloc (.cells #[.int .i64 s] 3)) w1 → ∀ s' i p, Calls Try.prog 24 (#[.agg #[.int .i64 s', .int .i64 i, .int .i64 p]] ++ #[.pointer (some ⟨w.heap.size, 0, none⟩)]) w1
          fun e w2 => e = .returned (.bool (accForget s (s', i, p))) ∧ Qt w1 w2) := Lib.hid fun w1 g1 s' i p =>
    forget1_any w1 _ s' i p s (g1.cell e4 (fun e => by simp at e; have := h.reg.lt; omega))
  go_enter Try.func12, Try.ntmps12
  go_wp2_with (go_at_call 20; refine (forget_any _ B _ _ _ (accForget s) (h.qt q1) callFunc30 HF).mono ?_; rintro e w1 ⟨rfl, hd1, g1⟩)
  go_end0
  exact ⟨rfl, hd1, (q1.trans g1 (fun _ x => x.elim) (fun _ _ x => by simp [DirB.has, x]))⟩
end Go.Proofs.Ytediappljpkblaa
