/- The directory of package cache: how it lies in memory; New, version, Register, Valid. -/
import Derived.Test.YtediappljpkblaaRows
import Derived.Test.YtediappljpkblaaMem
import Derived.Deep.QuietTactic
import Derived.BigQuiet
import Derived.StillTailTactics
import Derived.Test.YtediappljpkblaaReg
import Derived.Lib.Hide
namespace Go.Proofs.Ytediappljpkblaa
set_option linter.unusedSimpArgs false
set_option linter.unusedVariables false
open Go.RowKit

def eInt (n : Int) : Value := .int .i64 n
def eBool (b : Bool) : Value := .bool b
def ePlace (p : Int × Int) : Value := .agg #[.int .i64 p.1, .int .i64 p.2]
def eReg (r : Int × Int × Int) : Value := .agg #[.int .i64 r.1, .int .i64 r.2.1, .int .i64 r.2.2]

theorem stood61 : Try.prog.stoodInHeld 69 = false := by kernel_rfl
theorem stood63 : Try.prog.stoodInHeld 72 = false := by kernel_rfl
theorem size61 : (Try.prog.info? 69).map (·.size) = some 2 := by kernel_rfl
theorem part0 (w : World) (c : Array Value) (o : Nat) : (part 3 c o).run Try.prog w = (match c[o]? with | some v => .ok v w | none => .halt (.stuck "part: no such cell") w) := by
  unfold part
  simp only [isAgg, Sem.run_bind, run_underlying Try.underlying3, Result.andThen_ok, Sem.run_pure, Bool.false_eq_true, if_false]
  split <;> simp [*]
theorem part61 (w : World) (c : Array Value) (o : Nat) : (part 69 c o).run Try.prog w = .ok (.agg (c.extract o (o + 2))) w := by
  have hs := size61
  cases h : Try.prog.info? 69 with
  | none => rw [h] at hs; cases hs
  | some i =>
    rw [h] at hs
    have hs' : i.size = 2 := by simpa using hs
    unfold part
    simp [isAgg, run_underlying Try.underlying69, sizeOf, typeInfo, h, hs']
theorem eq61 (d : Nat) (w : World) (a b : Int × Int) : (Op.equalIn (d + 2) 69 (ePlace a) (ePlace b)).run Try.prog w = .ok (decide (a = b)) w := by
  obtain ⟨a1, a2⟩ := a
  obtain ⟨b1, b2⟩ := b
  unfold ePlace
  have ht : Try.prog.underlying 69 = some (.struct (Try.prog.fieldsOf 69)) := by simp [Program.fieldsOf, Try.underlying69]
  rw [run_equalIn_struct w (d + 1) _ _ _ ht stood61]
  simp [Program.fieldsOf, Try.underlying69, Op.eqFields, part0, run_equalIn_int _ _ _ _ _ _ _ Try.underlying3]
  by_cases h1 : a1 = b1 <;> by_cases h2 : a2 = b2 <;> simp [h1, h2]
theorem key61 : KeyT Try.prog 69 ePlace :=
  KeyT.of_equal Try.underlying69 (fun _ _ => rfl) (fun {a b} h => by
      obtain ⟨a1, a2⟩ := a; obtain ⟨b1, b2⟩ := b
      simp [ePlace] at h; simp [h])
    (fun w a b => eq61 9998 w a b)
    (fun w em k => by
      show (Instr.checkKey em (9998 + 1 + 1) _ _).run _ w = _
      unfold Instr.checkKey
      simp [run_underlying Try.underlying69, ePlace, part0, MapKept.run_checkKey (k := .int .i64 _) Try.underlying3 rfl])
    (fun w k => by
      unfold Instr.keyThatStays
      rw [if_pos (by show Instr.sameBits (9998 + 1 + 1) _ _ = true; simp [Instr.sameBits, ePlace])]
      rfl)
theorem eq63 (d : Nat) (w : World) (a b : Int × Int × Int) : (Op.equalIn (d + 3) 72 (eReg a) (eReg b)).run Try.prog w = .ok (decide (a = b)) w := by
  obtain ⟨a1, a2, a3⟩ := a
  obtain ⟨b1, b2, b3⟩ := b
  unfold eReg
  have ht : Try.prog.underlying 72 = some (.struct (Try.prog.fieldsOf 72)) := by simp [Program.fieldsOf, Try.underlying72]
  rw [run_equalIn_struct w (d + 2) _ _ _ ht stood63]
  have h61 := eq61 d w (a2, a3) (b2, b3)
  simp only [ePlace] at h61
  simp [Program.fieldsOf, Try.underlying72, Op.eqFields, part0, part61, run_equalIn_int _ _ _ _ _ _ _ Try.underlying3, h61]
  by_cases h1 : a1 = b1 <;> by_cases h2 : a2 = b2 <;> by_cases h3 : a3 = b3 <;> simp [h1, h2, h3]
theorem key63 : KeyT Try.prog 72 eReg :=
  KeyT.of_equal Try.underlying72 (fun _ _ => rfl) (fun {a b} h => by
      obtain ⟨a1, a2, a3⟩ := a; obtain ⟨b1, b2, b3⟩ := b
      simp [eReg] at h; simp [h])
    (fun w a b => eq63 9997 w a b)
    (fun w em k => by
      show (Instr.checkKey em (9997 + 1 + 1 + 1) _ _).run _ w = _
      unfold Instr.checkKey
      simp only [Sem.run_bind, run_underlying Try.underlying72, eReg, Result.andThen_ok]
      simp [part0, part61, MapKept.run_checkKey (k := .int .i64 _) Try.underlying3 rfl]
      unfold Instr.checkKey
      simp [run_underlying Try.underlying69, part0, MapKept.run_checkKey (k := .int .i64 _) Try.underlying3 rfl])
    (fun w k => by
      unfold Instr.keyThatStays
      rw [if_pos (by show Instr.sameBits (9998 + 1 + 1) _ _ = true; simp [Instr.sameBits, eReg])]
      rfl)
theorem key3 : KeyT Try.prog 3 eInt := KeyT.int Try.underlying3
theorem zero3 (w : World) : (zeroValue 3).run Try.prog w = .ok (.int .i64 0) w := by kernel_rfl
theorem zero4 (w : World) : (zeroValue 4).run Try.prog w = .ok (.bool false) w := by kernel_rfl

theorem ret_int {a b : Int} (h : a = b) : Ending.returned (.int .i64 a) = .returned (.int .i64 b) := by rw [h]
theorem elim_int (x : Option Int) : x.elim (.int .i64 0) eInt = .int .i64 (x.getD 0) := by cases x <;> rfl
theorem elim_bool (x : Option Bool) : x.elim (.bool false) eBool = .bool (x.getD false) := by cases x <;> rfl
/-- What a directory holds. -/
structure Dir where
  cnt : Int
  ren : Int → Option Int
  chg : Int × Int → Option Int
  reg : Int × Int × Int → Option Bool
  cap : Nat
/-- Where a directory lies: its own block, and the blocks of its three maps. -/
structure DirB where
  b : Nat
  r : Nat
  c : Nat
  g : Nat
structure DirAt (w : World) (B : DirB) (D : Dir) : Prop where
  cells : w.heap[B.b]? = some (.cells #[.int .i64 D.cnt, .map (some B.r), .map (some B.c), .map (some B.g)] 59 (0, 0))
  ren : IsMap w B.r eInt eInt D.ren
  chg : IsMap w B.c ePlace eInt D.chg
  reg : IsMap w B.g eReg eBool D.reg
  rc : B.r ≠ B.c
  rg : B.r ≠ B.g
  cg : B.c ≠ B.g
  reg1 : ∀ k b, D.reg k = some b → b = true
  small : mapSize w B.g ≤ D.cap
def DirB.has (B : DirB) (i : Nat) : Prop := i = B.b ∨ i = B.r ∨ i = B.c ∨ i = B.g
theorem DirAt.fr {w w' : World} {B : DirB} {D : Dir} {S : Nat → Prop} (h : DirAt w B D) (hf : Fr S w w') (hs : ∀ i, B.has i → ¬ S i) : DirAt w' B D :=
  ⟨hf.heap h.cells (hs _ (by simp [DirB.has])), h.ren.fr hf (hs _ (by simp [DirB.has])), h.chg.fr hf (hs _ (by simp [DirB.has])), h.reg.fr hf (hs _ (by simp [DirB.has])), h.rc, h.rg, h.cg, h.reg1, by rw [h.reg.size_fr hf (hs _ (by simp [DirB.has]))]; exact h.small⟩
theorem DirAt.qt {w w' : World} {B : DirB} {D : Dir} (h : DirAt w B D) (hf : Qt w w') : DirAt w' B D := h.fr hf (fun _ _ x => x)
/-- the version of a page -/
def Dir.ver (D : Dir) (p : Int × Int) : Int := max ((D.ren p.1).getD 0) ((D.chg p).getD 0)

theorem DirAt.c0 {w : World} {B : DirB} {D : Dir} (h : DirAt w B D) : w.cell? ⟨B.b, 0, none⟩ = some (.int .i64 D.cnt) := cell_of_row w B.b 0 _ _ _ h.cells
theorem DirAt.c1 {w : World} {B : DirB} {D : Dir} (h : DirAt w B D) : w.cell? ⟨B.b, 1, none⟩ = some (.map (some B.r)) := cell_of_row w B.b 1 _ _ _ h.cells
theorem DirAt.c2 {w : World} {B : DirB} {D : Dir} (h : DirAt w B D) : w.cell? ⟨B.b, 2, none⟩ = some (.map (some B.c)) := cell_of_row w B.b 2 _ _ _ h.cells
theorem DirAt.c3 {w : World} {B : DirB} {D : Dir} (h : DirAt w B D) : w.cell? ⟨B.b, 3, none⟩ = some (.map (some B.g)) := cell_of_row w B.b 3 _ _ _ h.cells
theorem DirAt.f0 {w : World} {B : DirB} {D : Dir} (h : DirAt w B D) : w.frozen? ⟨B.b, 0, none⟩ = false := by simp [World.frozen?, h.cells]
theorem DirAt.bg {w : World} {B : DirB} {D : Dir} (h : DirAt w B D) : B.b ≠ B.g := fun e => by obtain ⟨_, _, h1, _⟩ := h.reg; have h2 := h.cells; rw [e, h1] at h2; cases h2
theorem DirAt.br {w : World} {B : DirB} {D : Dir} (h : DirAt w B D) : B.b ≠ B.r := fun e => by obtain ⟨_, _, h1, _⟩ := h.ren; have h2 := h.cells; rw [e, h1] at h2; cases h2
theorem DirAt.bc {w : World} {B : DirB} {D : Dir} (h : DirAt w B D) : B.b ≠ B.c := fun e => by obtain ⟨_, _, h1, _⟩ := h.chg; have h2 := h.cells; rw [e, h1] at h2; cases h2
theorem DirAt.lt {w : World} {B : DirB} {D : Dir} (h : DirAt w B D) : B.b < w.heap.size := (Array.getElem?_eq_some_iff.1 h.cells).1

theorem new_any (w : World) : Calls Try.prog 7 #[] w fun e w' => ∃ B, e = .returned (.pointer (some ⟨B.b, 0, none⟩)) ∧
    DirAt w' B ⟨0, fun _ => none, fun _ => none, fun _ => none, 0⟩ ∧ Qt w w' ∧ ∀ i, B.has i → w.heap.size ≤ i := by
  have hmm := @run_makeMap Try.prog
  go_enter Try.func7, Try.ntmps7
  go_wp2
  go_ret
  refine ⟨⟨w.heap.size + 1 + 1 + 1, w.heap.size, w.heap.size + 1, w.heap.size + 1 + 1⟩, rfl, ⟨?_, ?_, ?_, ?_, by simp, by simp; omega, by simp, by simp, by
    rw [mapSize_of_heap (w := (((w.alloc (.map #[] 0)).alloc (.map #[] 0)).alloc (.map #[] 0))) (Below.heap_alloc _ _ _ (by simp))]
    exact mapSize_made _ _ (by simp)⟩, ((((Fr.refl _ w).alloc _).alloc _).alloc _).alloc _, by simp [DirB.has]; omega⟩
  · exact heap_at _ _ _ (by simp)
  · exact (((IsMap.made w).alloc _).alloc _).alloc _
  · exact ((IsMap.made' _ (by simp)).alloc _).alloc _
  · exact (IsMap.made' _ (by simp)).alloc _

theorem version_any (w : World) (B : DirB) (D : Dir) (p1 p2 : Int) (h : DirAt w B D) :
    Calls Try.prog 26 #[.pointer (some ⟨B.b, 0, none⟩), .agg #[.int .i64 p1, .int .i64 p2]] w fun e w' => e = .returned (.int .i64 (D.ver (p1, p2))) ∧ Qt w w' := by
  have c1 := cell_al (o := .cells #[.int .i64 p1, .int .i64 p2] 69) h.c1
  have c2 := cell_al (o := .cells #[.int .i64 p1, .int .i64 p2] 69) h.c2
  have l1 : ∀ n, (Instr.lookup 55 (.map (some B.r)) (.int .i64 p1) false).run Try.prog ((w.alloc (.cells #[.int .i64 p1, .int .i64 p2] 69)).drewN n) = .ok (.int .i64 ((D.ren p1).getD 0)) _ := fun n => by
    have := h.ren.lookup key3 Try.underlying55 zero3 p1 ((w.alloc (.cells #[.int .i64 p1, .int .i64 p2] 69)).drewN n) (Below.heap_alloc _ _ _ h.ren.lt)
    rw [elim_int] at this
    exact this
  have l2 : ∀ n, (Instr.lookup 56 (.map (some B.c)) (.agg #[.int .i64 p1, .int .i64 p2]) false).run Try.prog ((w.alloc (.cells #[.int .i64 p1, .int .i64 p2] 69)).drewN n) = .ok (.int .i64 ((D.chg (p1, p2)).getD 0)) _ := fun n => by
    have := h.chg.lookup key61 Try.underlying56 zero3 (p1, p2) ((w.alloc (.cells #[.int .i64 p1, .int .i64 p2] 69)).drewN n) (Below.heap_alloc _ _ _ h.chg.lt)
    rw [elim_int] at this
    exact this
  go_enter Try.func26, Try.ntmps26
  go_wp2
  go_quiet (fail)
  go_wp2
  all_goals
    go_ret
    refine ⟨?_, ((Fr.refl _ _).alloc _).drewN _⟩
    exact ret_int (by unfold Dir.ver; show _ = max ((D.ren p1).getD 0) ((D.chg (p1, p2)).getD 0); omega)

theorem DirAt.setReg {w w' : World} {B : DirB} {D : Dir} (h : DirAt w B D) {R : Int × Int × Int → Option Bool} (m : IsMap w' B.g eReg eBool R) (f : Fr (fun k => k = B.g) w w') (hR : ∀ k b, R k = some b → b = true) {c : Nat} (hc : mapSize w' B.g ≤ c) :
    DirAt w' B { D with reg := R, cap := c } :=
  ⟨f.heap h.cells h.bg, h.ren.fr f h.rg, h.chg.fr f h.cg, m, h.rc, h.rg, h.cg, hR, hc⟩
theorem DirAt.setChg {w w' : World} {B : DirB} {D : Dir} (h : DirAt w B D) {R : Int × Int → Option Int} (m : IsMap w' B.c ePlace eInt R) (f : Fr (fun k => k = B.c) w w') :
    DirAt w' B { D with chg := R } :=
  ⟨f.heap h.cells h.bc, h.ren.fr f h.rc, m, h.reg.fr f h.cg.symm, h.rc, h.rg, h.cg, h.reg1, by rw [h.reg.size_fr f h.cg.symm]; exact h.small⟩
theorem DirAt.setRen {w w' : World} {B : DirB} {D : Dir} (h : DirAt w B D) {R : Int → Option Int} (m : IsMap w' B.r eInt eInt R) (f : Fr (fun k => k = B.r) w w') :
    DirAt w' B { D with ren := R } :=
  ⟨f.heap h.cells h.br, m, h.chg.fr f h.rc.symm, h.reg.fr f h.rg.symm, h.rc, h.rg, h.cg, h.reg1, by rw [h.reg.size_fr f h.rg.symm]; exact h.small⟩
theorem putF_true {R : Int × Int × Int → Option Bool} (hR : ∀ k b, R k = some b → b = true) (x : Int × Int × Int) : ∀ k b, putF R x true k = some b → b = true := fun k b hb => by
  unfold putF at hb; split at hb
  · simpa using hb.symm
  · exact hR k b hb

set_option maxRecDepth 100000 in
theorem register_any (w : World) (B : DirB) (D : Dir) (s i p : Int) (h : DirAt w B D) :
    Calls Try.prog 14 #[.pointer (some ⟨B.b, 0, none⟩), .int .i64 s, .int .i64 i, .int .i64 p] w fun e w' => e = .returned (.int .i64 (D.ver (i, p))) ∧
      DirAt w' B { D with reg := putF D.reg (s, i, p) true, cap := D.cap + 1 } ∧ Fr (fun k => k = B.g) w w' := by
  have s3 : ∀ w', Qt (w.alloc (.cells #[.int .i64 i, .int .i64 p] 69)) w' → w'.cell? ⟨B.b, 3, none⟩ = some (.map (some B.g)) := fun w' hq => hq.cell (cell_al h.c3) (fun x => x)
  have sp0 : ∀ w', Qt (w.alloc (.cells #[.int .i64 i, .int .i64 p] 69)) w' → w'.cell? ⟨w.heap.size, 0, none⟩ = some (.int .i64 i) := fun w' hq => hq.cell (by simp) (fun x => x)
  have sp1 : ∀ w', Qt (w.alloc (.cells #[.int .i64 i, .int .i64 p] 69)) w' → w'.cell? ⟨w.heap.size, 1, none⟩ = some (.int .i64 p) := fun w' hq => hq.cell (by simp) (fun x => x)
  go_enter Try.func14, Try.ntmps14
  go_wp2
  refine wp_region_qtail 7 (by kernel_rfl) (by kernel_rfl) (Qt (w.alloc (.cells #[.int .i64 i, .int .i64 p] 69))) ((Fr.refl _ _).drew) ?_
  simp only [List.take_succ_cons, List.take_zero, List.drop_succ_cons, List.drop_zero]
  iterate 7
    refine wpQuiet_ex rfl ?_
    apply Exists.intro
    refine ⟨fun w' hw' => ?_, ?_⟩
    · go_simp
      exact rfl
    go_frame
  refine wpQuiet_nil ?_
  intro w1 hq
  have h1 : DirAt w1 B D := h.qt ((Fr.refl _ _).alloc _ |>.trans' hq)
  refine wpList_upd _ rfl _ _ _ _ rfl key63 Try.underlying57 B.g D.reg rfl h1.reg (s, i, p) true rfl rfl ?_
  intro w2 m2 f2 z2 y2
  have h2 : DirAt w2 B { D with reg := putF D.reg (s, i, p) true, cap := D.cap + 1 } := h1.setReg m2 f2 (putF_true h.reg1 _) (by have := h1.small; omega)
  have e0 : w2.cell? ⟨w.heap.size, 0, none⟩ = some (.int .i64 i) := f2.cell (sp0 w1 hq) (fun x => by have := h.reg.lt; simp at x; omega)
  have e1 : w2.cell? ⟨w.heap.size, 1, none⟩ = some (.int .i64 p) := f2.cell (sp1 w1 hq) (fun x => by have := h.reg.lt; simp at x; omega)
  have ff : Fr (fun k => k = B.g) w w2 := ((Fr.refl Emp _).alloc _ |>.trans' hq).trans f2 (fun _ x => x.elim) (fun _ _ x => x)
  go_wp2_with (go_at_call 26; refine (version_any _ _ _ _ _ h2).mono ?_; rintro e w' ⟨rfl, hq2⟩)
  go_ret
  exact ⟨rfl, h2.qt hq2, ff.trans hq2 (fun _ x => x) (fun _ _ x => x.elim)⟩

/-- the answer of Valid -/
def Dir.valid (D : Dir) (s i p v : Int) : Bool := (D.reg (s, i, p)).getD false && D.ver (i, p) == v

set_option maxHeartbeats 1000000 in
set_option maxRecDepth 100000 in
theorem valid_any (w : World) (B : DirB) (D : Dir) (s i p v : Int) (h : DirAt w B D) :
    Calls Try.prog 15 #[.pointer (some ⟨B.b, 0, none⟩), .int .i64 s, .int .i64 i, .int .i64 p, .int .i64 v] w fun e w' => e = .returned (.bool (D.valid s i p v)) ∧ Qt w w' := by
  have s3 : ∀ w', Qt (w.alloc (.cells #[.int .i64 i, .int .i64 p] 69)) w' → w'.cell? ⟨B.b, 3, none⟩ = some (.map (some B.g)) := fun w' hq => hq.cell (cell_al h.c3) (fun x => x)
  have sp0 : ∀ w', Qt (w.alloc (.cells #[.int .i64 i, .int .i64 p] 69)) w' → w'.cell? ⟨w.heap.size, 0, none⟩ = some (.int .i64 i) := fun w' hq => hq.cell (by simp) (fun x => x)
  have sp1 : ∀ w', Qt (w.alloc (.cells #[.int .i64 i, .int .i64 p] 69)) w' → w'.cell? ⟨w.heap.size, 1, none⟩ = some (.int .i64 p) := fun w' hq => hq.cell (by simp) (fun x => x)
  have q0 : Qt w (w.alloc (.cells #[.int .i64 i, .int .i64 p] 69)) := (Fr.refl _ _).alloc _
  have ll : ∀ w', Qt (w.alloc (.cells #[.int .i64 i, .int .i64 p] 69)) w' → (Instr.lookup 57 (.map (some B.g)) (.agg #[.int .i64 s, .int .i64 i, .int .i64 p]) false).run Try.prog w' = .ok (.bool ((D.reg (s, i, p)).getD false)) w' := fun w' hq => by
    have := h.reg.lookup key63 Try.underlying57 zero4 (s, i, p) w' ((q0.trans' hq).block _ h.reg.lt (fun x => x))
    rw [elim_bool] at this
    exact this
  cases hb : (D.reg (s, i, p)).getD false
  all_goals
    rw [hb] at ll
    have H := Lib.hid hb
    clear hb
    go_enter Try.func15, Try.ntmps15
    go_wp2
    refine wp_region_quiets (by kernel_rfl) (by kernel_rfl) (Qt (w.alloc (.cells #[.int .i64 i, .int .i64 p] 69))) ((Fr.refl _ _).drew) ?_
    iterate 9
      refine wpQuiet_ex rfl ?_
      apply Exists.intro
      refine ⟨fun w' hw' => ?_, ?_⟩
      · go_simp
        exact rfl
      go_frame
  · iterate 5 (refine wpQuiet_no rfl ?_; go_frame)
    iterate 2
      refine wpQuiet_ex rfl ?_
      apply Exists.intro
      refine ⟨fun w' hw' => ?_, ?_⟩
      · go_simp
        exact rfl
      go_frame
    refine wpQuiet_nil ?_
    intro w1 hq
    go_wp2
    go_ret
    exact ⟨by simp [Dir.valid, H.out], q0.trans' hq⟩
  · iterate 2
      refine wpQuiet_ex rfl ?_
      apply Exists.intro
      refine ⟨fun w' hw' => ?_, ?_⟩
      · go_simp
        exact rfl
      go_frame
    refine wpQuiet_ex rfl ?_
    apply Exists.intro
    refine ⟨fun w' hw' => ?_, ?_⟩
    · go_simp
      refine (version_any _ _ _ _ _ (h.qt (q0.trans' hw'))).mono ?_
      rintro e w'' ⟨rfl, hq⟩
      exact ⟨rfl, hw'.trans' hq⟩
    go_frame
    iterate 4
      refine wpQuiet_ex rfl ?_
      apply Exists.intro
      refine ⟨fun w' hw' => ?_, ?_⟩
      · go_simp
        exact rfl
      go_frame
    refine wpQuiet_nil ?_
    intro w1 hq
    go_wp2
    go_ret
    exact ⟨by simp [Dir.valid, H.out], q0.trans' hq⟩
end Go.Proofs.Ytediappljpkblaa
