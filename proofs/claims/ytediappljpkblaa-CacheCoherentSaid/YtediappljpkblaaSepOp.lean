/- Separation: the steps of a walk that make, read and write memory. No program in sight. -/
import Derived.Test.YtediappljpkblaaSep
import Derived.Laws.AppendOwnNone
namespace Go.Proofs.Ytediappljpkblaa
set_option linter.unusedSimpArgs false
set_option linter.unusedVariables false
open Go.RowKit

/-- from w0 on nothing but memory has turned, and w holds Γ -/
def On (w0 w : World) (Γ : List HProp) : Prop := Same w0 w ∧ Sat w Γ
theorem On.start {w : World} {Γ : List HProp} (h : Sat w Γ) : On w w Γ := ⟨Same.refl w, h⟩
theorem On.drew {w0 w : World} {Γ : List HProp} (h : On w0 w Γ) : On w0 w.drew Γ := ⟨h.1.drew, h.2.drew⟩
theorem On.drewN {w0 w : World} {Γ : List HProp} (h : On w0 w Γ) (n : Nat) : On w0 (w.drewN n) Γ := ⟨h.1.drewN n, h.2.drewN n⟩
theorem On.perm {w0 w : World} {Γ Δ : List HProp} (h : On w0 w Γ) (hp : Γ.Perm Δ) : On w0 w Δ := ⟨h.1, h.2.perm hp⟩
theorem On.sub {w0 w : World} {Γ Δ : List HProp} (h : On w0 w Γ) (hp : Δ.Sublist Γ) : On w0 w Δ := ⟨h.1, h.2.sub hp⟩
theorem On.take {w0 w : World} {A : HProp} {Γ Δ : List HProp} (h : On w0 w Γ) (hp : Take A Γ Δ) : On w0 w (A :: Δ) := ⟨h.1, h.2.perm hp⟩
theorem On.tail {w0 w : World} {A : HProp} {Γ : List HProp} (h : On w0 w (A :: Γ)) : On w0 w Γ := ⟨h.1, h.2.tail⟩
theorem On.map {w0 w : World} {Γ Δ : List HProp} (h : On w0 w Γ) (f : Sat w Γ → Sat w Δ) : On w0 w Δ := ⟨h.1, f h.2⟩
theorem On.imp {w0 w : World} {A B : HProp} {Γ : List HProp} (h : On w0 w (A :: Γ)) (f : ∀ r, A r → B r) : On w0 w (B :: Γ) := ⟨h.1, h.2.imp fun r _ => f r⟩
theorem On.pack_iff {w0 w : World} {Δ Γ : List HProp} : On w0 w (pack Δ :: Γ) ↔ On w0 w (Δ ++ Γ) := and_congr_right fun _ => Sat.pack_iff
theorem On.pur_iff {w0 w : World} {p : Prop} {Γ : List HProp} : On w0 w (pur p :: Γ) ↔ p ∧ On w0 w Γ := by unfold On; rw [Sat.pur_iff]; exact and_left_comm
theorem On.emp_iff {w0 w : World} {Γ : List HProp} : On w0 w (emp :: Γ) ↔ On w0 w Γ := and_congr_right fun _ => Sat.emp_iff
theorem On.hex_iff {w0 w : World} {α : Sort _} {f : α → HProp} {Γ : List HProp} : On w0 w (hex f :: Γ) ↔ ∃ x, On w0 w (f x :: Γ) := by unfold On; rw [Sat.hex_iff]; exact exists_and_left.symm
theorem On.share {w0 w : World} {Γ : List HProp} {b : Nat} {o : Obj} (hs : On w0 w (pt b o :: Γ)) : On w0 w (ro b o :: Γ) := ⟨hs.1, hs.2.share⟩
theorem On.dup {w0 w : World} {Γ : List HProp} {A : HProp} (hA : Dup A) (hs : On w0 w (A :: Γ)) : On w0 w (A :: A :: Γ) := ⟨hs.1, hs.2.dup hA⟩
theorem On.alloc {w0 w : World} {Γ : List HProp} (hs : On w0 w Γ) (o : Obj) : On w0 (w.alloc o) (pt w.heap.size o :: Γ) := ⟨hs.1.trans (Same.alloc w o), hs.2.alloc o⟩

/-! ### What a block holds -/
def At (Γ : List HProp) (b : Nat) (o : Obj) : Prop := ∀ w, Sat w Γ → w.heap[b]? = some o
theorem At.head (b : Nat) (o : Obj) (Γ : List HProp) : At (pt b o :: Γ) b o := fun _ h => h.pt_heap
theorem At.headr (b : Nat) (o : Obj) (Γ : List HProp) : At (ro b o :: Γ) b o := fun _ h => h.ro_heap
theorem At.tail {A : HProp} {Γ : List HProp} {b : Nat} {o : Obj} (h : At Γ b o) : At (A :: Γ) b o := fun w hs => h w hs.tail
theorem On.heap {w0 w : World} {Γ : List HProp} {b : Nat} {o : Obj} (hs : On w0 w Γ) (h : At Γ b o) : w.heap[b]? = some o := h w hs.2
theorem cell_of_heap {w : World} {b : Nat} {cs : Array Value} {T : TypeId} {fr : Nat × Nat} (h : w.heap[b]? = some (.cells cs T fr)) (k : Nat) : w.cell? ⟨b, k, none⟩ = cs[k]? := by
  unfold World.cell?; simp [h]
theorem frozen_of_heap {w : World} {b : Nat} {cs : Array Value} {T : TypeId} (h : w.heap[b]? = some (.cells cs T (0, 0))) (k : Nat) : w.frozen? ⟨b, k, none⟩ = false := by
  unfold World.frozen?; simp [h]

/-! ### Loads -/
section
variable {P : Program} {ops rest : List Oper} {Q : Exit → Act → World → Prop} {o : Oper} {a : Act} {w0 w : World} {Γ Γ' : List HProp}
theorem run_load1 {t : TypeId} {b k : Nat} {cs : Array Value} {T : TypeId} {fr : Nat × Nat} {v : Value} (hb : w.heap[b]? = some (.cells cs T fr)) (hi : (isAgg t).run P w = .ok false w) (hv : cs[k]? = some v) :
    (Instr.loadAt t (.pointer (some ⟨b, k, none⟩))).run P w = .ok v w := by
  have hc := (cell_of_heap hb k).trans hv
  have hp : (Instr.sureAddr (.pointer (some ⟨b, k, none⟩))).run P w = .ok ⟨b, k, none⟩ w := rfl
  simp [Instr.loadAt, loadVar, hp, hi, hc]
theorem run_loadN {t : TypeId} {b k n : Nat} {cs : Array Value} {T : TypeId} {fr : Nat × Nat} (hb : w.heap[b]? = some (.cells cs T fr)) (hi : (isAgg t).run P w = .ok true w) (hn : (sizeOf t).run P w = .ok n w) (hk : k + n ≤ cs.size) :
    (Instr.loadAt t (.pointer (some ⟨b, k, none⟩))).run P w = .ok (.agg (cs.extract k (k + n))) w := by
  have hlen : ((cs.extract k (k + n)).toList).length = n := by simp; omega
  have h := run_loadCells_list (P := P) w ⟨b, k, none⟩ (cs.extract k (k + n)).toList (fun j v hj => by
    rw [Array.getElem?_toList, Array.getElem?_extract] at hj
    split at hj
    · rw [← hj]
      have : (Addr.add ⟨b, k, none⟩ j) = ⟨b, k + j, none⟩ := by unfold Addr.add; split <;> simp_all
      rw [this, cell_of_heap hb]
    · cases hj)
  rw [hlen] at h
  have hp : (Instr.sureAddr (.pointer (some ⟨b, k, none⟩))).run P w = .ok ⟨b, k, none⟩ w := rfl
  simp only [Instr.loadAt, loadVar, Sem.run_bind, hp, Result.andThen_ok, hi, if_true, hn, h, Sem.run_pure, Array.toArray_toList]
theorem extract_take (cs : Array Value) (k n : Nat) : cs.extract k (k + n) = ((cs.toList.drop k).take n).toArray := by
  apply Array.ext'
  simp
theorem wl_value {v : Value} (hw : Region.wanted o (yielded ops.toArray a.tmps) = true) (hr : (execOp a.eval o).run P w = .ok (.value v) w) (next : wpList P ops.toArray Q rest (a.put o.dst v) w) : wpList P ops.toArray Q (o :: rest) a w := by
  unfold wpList
  rw [if_pos hw]
  refine .inl ?_
  unfold Oper.wp
  rw [hr]
  exact next
theorem exec_load {t : TypeId} {addr : Operand} (ho : o.op = .load t addr) {p v : Value} (ha : a.eval addr = p) (h : (Instr.loadAt t p).run P w = .ok v w) : (execOp a.eval o).run P w = .ok (.value v) w := by
  unfold execOp; rw [ho]; simp only [ha, Sem.run_bind, h, Result.andThen_ok, Sem.run_pure]
theorem wl_load1 {t : TypeId} {addr : Operand} {b k : Nat} {cs : Array Value} {T : TypeId} {fr : Nat × Nat} {v : Value} (hs : On w0 w Γ) (ho : o.op = .load t addr) (hw : Region.wanted o (yielded ops.toArray a.tmps) = true) (ha : a.eval addr = .pointer (some ⟨b, k, none⟩))
    (hb : At Γ b (.cells cs T fr)) (hi : ∀ w, (isAgg t).run P w = .ok false w) (hv : cs[k]? = some v) (next : wpList P ops.toArray Q rest (a.put o.dst v) w) : wpList P ops.toArray Q (o :: rest) a w :=
  wl_value hw (exec_load ho ha (run_load1 (hs.heap hb) (hi w) hv)) next
theorem wl_loadN {t : TypeId} {addr : Operand} {b k n : Nat} {cs : Array Value} {T : TypeId} {fr : Nat × Nat} {vs : Array Value} (hs : On w0 w Γ) (ho : o.op = .load t addr) (hw : Region.wanted o (yielded ops.toArray a.tmps) = true) (ha : a.eval addr = .pointer (some ⟨b, k, none⟩))
    (hb : At Γ b (.cells cs T fr)) (hi : ∀ w, (isAgg t).run P w = .ok true w) (hn : ∀ w, (sizeOf t).run P w = .ok n w) (hk : (decide (k + n ≤ cs.size)) = true) (hv : ((cs.toList.drop k).take n).toArray = vs) (next : wpList P ops.toArray Q rest (a.put o.dst (.agg vs)) w) : wpList P ops.toArray Q (o :: rest) a w :=
  wl_value hw (exec_load ho ha (hv ▸ extract_take cs k n ▸ run_loadN (hs.heap hb) (hi w) (hn w) (of_decide_eq_true hk))) next

/-- the kind of an operation, for the choice of a step -/
def Op.kd : Op → Nat
  | .load .. => 1
  | .store .. => 2
  | .box .. => 3
  | .alloc _ => 3
  | .buildSlice .. => 4
  | .makeMap .. => 5
  | .call { callee := .builtin .append, .. } => 6
  | .lookup .. => 7
  | .mapUpdate .. => 8
  | .range .. => 9
  | .next .. => 10
  | .call { callee := .builtin .delete, .. } => 11
  | .makeSlice .. => 12
  | .call { callee := .builtin .copy, .. } => 13
  | .convert .. => 14
  | _ => 0
/-- the walk stops here -/
def Stop (p : Prop) : Prop := p
theorem wl_stop (k : Nat) (h : Op.kd o.op = k) (next : Stop (wpList P ops.toArray Q (o :: rest) a w)) : wpList P ops.toArray Q (o :: rest) a w := next
theorem stopped {p : Prop} (h : p) : Stop p := h
theorem wl_at (k : Nat) (h : Op.kd o.op = k) (next : wpList P ops.toArray Q (o :: rest) a w) : wpList P ops.toArray Q (o :: rest) a w := next

/-! ### What is made -/
def Op.newp : Op → Bool
  | .box .. | .alloc _ => true
  | _ => false
def Op.news : Op → Bool
  | .buildSlice .. => true
  | _ => false
def Op.newm : Op → Bool
  | .makeMap .. => true
  | _ => false
theorem wl_new (f : Nat → Value) {ob : Obj} (hs : On w0 w Γ) (hw : Region.wanted o (yielded ops.toArray a.tmps) = true) (hr : ∀ w : World, (execOp a.eval o).run P w = .ok (.value (f w.heap.size)) (w.alloc ob))
    (next : ∀ b w', On w0 w' (pt b ob :: Γ) → wpList P ops.toArray Q rest (a.put o.dst (f b)) w') : wpList P ops.toArray Q (o :: rest) a w := by
  unfold wpList
  rw [if_pos hw]
  refine .inl ?_
  unfold Oper.wp
  rw [hr]
  exact next _ _ (hs.alloc ob)
theorem wl_newp {ob : Obj} (hs : On w0 w Γ) (ho : Op.newp o.op = true) (hw : Region.wanted o (yielded ops.toArray a.tmps) = true) (hr : ∀ w : World, (execOp a.eval o).run P w = .ok (.value (.pointer (some ⟨w.heap.size, 0, none⟩))) (w.alloc ob))
    (next : ∀ b w', On w0 w' (pt b ob :: Γ) → wpList P ops.toArray Q rest (a.put o.dst (.pointer (some ⟨b, 0, none⟩))) w') : wpList P ops.toArray Q (o :: rest) a w := wl_new (fun b => .pointer (some ⟨b, 0, none⟩)) hs hw hr next
theorem wl_news {n m : Nat} {ob : Obj} (hs : On w0 w Γ) (ho : Op.news o.op = true) (hw : Region.wanted o (yielded ops.toArray a.tmps) = true) (hr : ∀ w : World, (execOp a.eval o).run P w = .ok (.value (.slice (some ⟨w.heap.size, 0, none⟩) n m)) (w.alloc ob))
    (next : ∀ b w', On w0 w' (pt b ob :: Γ) → wpList P ops.toArray Q rest (a.put o.dst (.slice (some ⟨b, 0, none⟩) n m)) w') : wpList P ops.toArray Q (o :: rest) a w := wl_new (fun b => .slice (some ⟨b, 0, none⟩) n m) hs hw hr next
theorem wl_newm {ob : Obj} (hs : On w0 w Γ) (ho : Op.newm o.op = true) (hw : Region.wanted o (yielded ops.toArray a.tmps) = true) (hr : ∀ w : World, (execOp a.eval o).run P w = .ok (.value (.map (some w.heap.size))) (w.alloc ob))
    (next : ∀ b w', On w0 w' (pt b ob :: Γ) → wpList P ops.toArray Q rest (a.put o.dst (.map (some b))) w') : wpList P ops.toArray Q (o :: rest) a w := wl_new (fun b => .map (some b)) hs hw hr next

/-! ### Stores -/
/-- cells from k on set -/
def setc : List Value → Nat → List Value → List Value
  | cs, _, [] => cs
  | cs, k, v :: vs => setc (cs.set k v) (k + 1) vs
theorem setc_length : ∀ (vs cs : List Value) (k : Nat), (setc cs k vs).length = cs.length
  | [], _, _ => rfl
  | v :: vs, cs, k => by rw [setc, setc_length vs]; simp
theorem run_storeCells_pt {b : Nat} {T : TypeId} : ∀ (vs cs : List Value) (k i : Nat) (w : World) (Γ : List HProp), Sat w (pt b (.cells cs.toArray T (0, 0)) :: Γ) → k + i + vs.length ≤ cs.length → vs.all (·.oneCell') = true →
    ∃ w', (storeCells ⟨b, k, none⟩ vs i).run P w = .ok () w' ∧ Same w w' ∧ Sat w' (pt b (.cells (setc cs (k + i) vs).toArray T (0, 0)) :: Γ)
  | [], cs, k, i, w, Γ, hs, _, _ => ⟨w, rfl, Same.refl w, hs⟩
  | v :: vs, cs, k, i, w, Γ, hs, hk, h1 => by
    simp only [List.all_cons, Bool.and_eq_true] at h1
    simp only [List.length_cons] at hk
    have hb := hs.pt_heap
    have hadd : Addr.add ⟨b, k, none⟩ i = ⟨b, k + i, none⟩ := by unfold Addr.add; split <;> simp_all
    have hc : w.cell? ⟨b, k + i, none⟩ = some (cs[k + i]'(by omega)) := by rw [cell_of_heap hb]; simp [List.getElem?_eq_getElem (show k + i < cs.length by omega)]
    have hf := frozen_of_heap hb (k + i)
    have hset : (w.setCell ⟨b, k + i, none⟩ v).heap[b]? = some (.cells (cs.set (k + i) v).toArray T (0, 0)) := by
      simp [World.setCell, Array.getElem?_modify, hb]
    have hs' : Sat (w.setCell ⟨b, k + i, none⟩ v) (pt b (.cells (cs.set (k + i) v).toArray T (0, 0)) :: Γ) :=
      hs.pt_upd hset (fun j hj _ => Below.heap_setCell _ _ _ _ hj)
    obtain ⟨w', h2, h3, h4⟩ := run_storeCells_pt vs (cs.set (k + i) v) k (i + 1) _ Γ hs' (by simp; omega) h1.2
    refine ⟨w', ?_, Same.trans (b := w.setCell ⟨b, k + i, none⟩ v) ⟨rfl, rfl, rfl, by simp [World.setCell]⟩ h3, by simpa [setc, Nat.add_assoc] using h4⟩
    have hst : (store (Addr.add ⟨b, k, none⟩ i) v).run P w = .ok () (w.setCell ⟨b, k + i, none⟩ v) := by
      rw [hadd]
      have hone := h1.1
      cases v <;> first | (simp [Value.oneCell'] at hone; done) | simp [store, Sem.run, hc, hf]
    simp only [storeCells, Sem.run_bind, hst, Result.andThen_ok, h2]
theorem wl_store {t : TypeId} {addr x : Operand} {b k : Nat} {cs cs' : List Value} {T : TypeId} {v : Value} (hs : On w0 w Γ) (ho : o.op = .store t addr x) (hw : Region.wanted o (yielded ops.toArray a.tmps) = true) (ha : a.eval addr = .pointer (some ⟨b, k, none⟩))
    (hx : a.eval x = v) (hb : Take (pt b (.cells cs.toArray T (0, 0))) Γ Γ') (hn : ∀ w, (sizeOf t).run P w = .ok v.cells.size w) (hk : decide (k + v.cells.toList.length ≤ cs.length) = true) (h1 : v.cells.toList.all (·.oneCell') = true) (hc : setc cs k v.cells.toList = cs')
    (next : ∀ w', On w0 w' (pt b (.cells cs'.toArray T (0, 0)) :: Γ') → wpList P ops.toArray Q rest (a.put o.dst undef) w') : wpList P ops.toArray Q (o :: rest) a w := by
  obtain ⟨w', h2, h3, h4⟩ := run_storeCells_pt (P := P) (i := 0) _ _ _ _ _ (hs.2.take hb) (by simpa using of_decide_eq_true hk) h1
  unfold wpList
  rw [if_pos hw]
  refine .inl ?_
  unfold Oper.wp
  have : (execOp a.eval o).run P w = .ok .skip w' := by
    have hp : (Instr.sureAddr (.pointer (some ⟨b, k, none⟩))).run P w = .ok ⟨b, k, none⟩ w := rfl
    unfold execOp; rw [ho]
    simp only [ha, hx, Instr.storeAt, hp, storeVar, Sem.run_bind, hn, Result.andThen_ok, ne_eq, not_true_eq_false, if_false, Sem.run_pure, h2]
  rw [this]
  exact next w' ⟨hs.1.trans h3, hc ▸ h4⟩
end
end Go.Proofs.Ytediappljpkblaa
