/- The argument of the laws: a list of acts, read out of memory. -/
import Derived.Test.YtediappljpkblaaFew
import Derived.ProofKit
import Derived.Deep.Slices
namespace Go.Proofs.Ytediappljpkblaa
set_option linter.unusedSimpArgs false
set_option linter.unusedVariables false
open Go.ChangeShapes Go.WideShapes Go.ChangeAt Go.RowKit

theorem cells_get {w : World} {base : Nat} {a : Addr} {n : Nat} {cs : List Value} (h : w.cells? base a n = some cs) (j : Nat) (hj : j < n) : w.cell? (a.add j) = cs[j]? := by
  unfold World.cells? at h
  split at h
  · exact mapM_some_get h j j (by simp [hj])
  · cases h
theorem rdInts_of_trod {H : Type} {enc : TypeId × Value → H} {W : World} {fuel : Nat} {v : Value} {x : DataW H × List MemPlace} (h : DataW.trod enc Try.prog W 0 (fun _ => true) true fuel 29 [v] = some x) :
    ∃ xs, RdInts W (fun i => i < W.heap.size) v xs := by
  rcases open_ints Try.underlying29 Try.underlying3 (by kernel_rfl) h with ⟨hcs, _⟩ | ⟨a, len, cap, zs, hcs, _, hl, hm, hz, _, hcell, _⟩
  · simp at hcs
    exact ⟨[], none, 0, by simp [hcs], fun h => by simp at h⟩
  · simp at hcs
    simp only [if_true] at hz
    have hlen : (zs.take len).length = len := by rw [List.length_take]; omega
    refine ⟨zs.take len, some a, cap, by rw [hlen]; exact hcs, fun h0 => ?_⟩
    rw [hlen] at h0 ⊢
    have c0 := hcell 0 (by omega)
    obtain ⟨b, o, sp⟩ := a
    have hs : sp = none := by
      cases sp with
      | none => rfl
      | some s => unfold Addr.add at c0; rw [if_pos rfl] at c0; unfold World.cell? at c0; split at c0 <;> simp at c0
    subst hs
    unfold maxLen at hm
    refine ⟨b, o, rfl, by have := World.block_lt_of_cell? W _ c0; simpa [Addr.add] using this, by omega, fun j hj => ?_⟩
    have c := hcell j (by omega)
    have e : (zs.take len).getD j 0 = zs.getD j 0 := by simp [List.getD, List.getElem?_take, hj]
    rw [e, ← c]
    congr 1
    unfold Addr.add
    split
    · rename_i e; subst e; rfl
    · rfl
theorem cellsOf33 : Try.prog.cellsOf 31 = 5 := by kernel_rfl
theorem cellsOf3 : Try.prog.cellsOf 3 = 1 := by kernel_rfl
theorem cellsOf31 : Try.prog.cellsOf 29 = 1 := by kernel_rfl
set_option maxRecDepth 100000 in
theorem act_of_trod {H : Type} {enc : TypeId × Value → H} {W : World} {fuel : Nat} {b o : Nat} {cs : List Value} {x : DataW H × List MemPlace} (hc : W.cells? 0 ⟨b, o, none⟩ 5 = some cs)
    (h : DataW.trod enc Try.prog W 0 (fun _ => true) true fuel 31 cs = some x) : ∃ a, ActAt W (fun i => i < W.heap.size) b o a := by
  obtain ⟨xs, n, _, _, hl, hxl, hf⟩ := DataW.trod_struct Try.underlying31 h
  rw [cellsOf33] at hl
  obtain ⟨c0, c1, c2, c3, c4, rfl⟩ : ∃ c0 c1 c2 c3 c4, cs = [c0, c1, c2, c3, c4] := by
    match cs, hl with
    | [c0, c1, c2, c3, c4], _ => exact ⟨_, _, _, _, _, rfl⟩
  have g : ∀ j v, ([c0, c1, c2, c3, c4] : List Value)[j]? = some v → j < 5 → W.cell? ⟨b, o + j, none⟩ = some v := fun j v hv hj => by
    have := cells_get hc j hj
    rw [hv] at this
    rw [← this]; congr 1
    unfold Addr.add; split
    · rename_i e; subst e; rfl
    · rfl
  have some_at : ∀ j, j < 5 → ∃ y, xs[j]? = some y := fun j hj => ⟨_, List.getElem?_eq_getElem (by rw [hxl]; simpa using hj)⟩
  have f0 : DataW.trod enc Try.prog W 0 (fun _ => true) true n 3 [c0] = xs[0]? := by
    have this : DataW.trod enc Try.prog W 0 (fun _ => true) true n 3 ((([c0, c1, c2, c3, c4] : List Value).drop 0).take (Try.prog.cellsOf 3)) = xs[0]? := hf 0 _ rfl
    rw [cellsOf3] at this
    exact this
  have f1 : DataW.trod enc Try.prog W 0 (fun _ => true) true n 3 [c1] = xs[1]? := by
    have this : DataW.trod enc Try.prog W 0 (fun _ => true) true n 3 ((([c0, c1, c2, c3, c4] : List Value).drop 1).take (Try.prog.cellsOf 3)) = xs[1]? := hf 1 _ rfl
    rw [cellsOf3] at this
    exact this
  have f2 : DataW.trod enc Try.prog W 0 (fun _ => true) true n 3 [c2] = xs[2]? := by
    have this : DataW.trod enc Try.prog W 0 (fun _ => true) true n 3 ((([c0, c1, c2, c3, c4] : List Value).drop 2).take (Try.prog.cellsOf 3)) = xs[2]? := hf 2 _ rfl
    rw [cellsOf3] at this
    exact this
  have f3 : DataW.trod enc Try.prog W 0 (fun _ => true) true n 3 [c3] = xs[3]? := by
    have this : DataW.trod enc Try.prog W 0 (fun _ => true) true n 3 ((([c0, c1, c2, c3, c4] : List Value).drop 3).take (Try.prog.cellsOf 3)) = xs[3]? := hf 3 _ rfl
    rw [cellsOf3] at this
    exact this
  have f4 : DataW.trod enc Try.prog W 0 (fun _ => true) true n 29 [c4] = xs[4]? := by
    have this : DataW.trod enc Try.prog W 0 (fun _ => true) true n 29 ((([c0, c1, c2, c3, c4] : List Value).drop 4).take (Try.prog.cellsOf 29)) = xs[4]? := hf 4 _ rfl
    rw [cellsOf31] at this
    exact this
  obtain ⟨y0, e0⟩ := some_at 0 (by omega)
  obtain ⟨y1, e1⟩ := some_at 1 (by omega)
  obtain ⟨y2, e2⟩ := some_at 2 (by omega)
  obtain ⟨y3, e3⟩ := some_at 3 (by omega)
  obtain ⟨y4, e4⟩ := some_at 4 (by omega)
  obtain ⟨n0, k0, _⟩ := DataW.trod_int Try.underlying3 (f0.trans e0)
  obtain ⟨n1, k1, _⟩ := DataW.trod_int Try.underlying3 (f1.trans e1)
  obtain ⟨n2, k2, _⟩ := DataW.trod_int Try.underlying3 (f2.trans e2)
  obtain ⟨n3, k3, _⟩ := DataW.trod_int Try.underlying3 (f3.trans e3)
  obtain ⟨ps, k4⟩ := rdInts_of_trod (f4.trans e4)
  simp only [List.cons.injEq, and_true] at k0 k1 k2 k3
  subst k0 k1 k2 k3
  exact ⟨⟨n0, n1, n2, n3, ps⟩, g 0 _ rfl (by omega), g 1 _ rfl (by omega), g 2 _ rfl (by omega), g 3 _ rfl (by omega), c4, g 4 _ rfl (by omega), k4⟩
theorem acts_of_trod {H : Type} {enc : TypeId × Value → H} {W : World} {v : Value} {d : DataW H} {ps : List MemPlace} (h : DataW.Trod enc Try.prog W 0 (fun _ => true) true 22 v d ps) (hv : ∃ A n c, v = .slice A n c) :
    ∃ l, ActsAt W (fun i => i < W.heap.size) v l := by
  obtain ⟨A, n, c, rfl⟩ := hv
  obtain ⟨fuel, hf⟩ := h
  rcases Go.Deep.open_slice Try.underlying22 hf with ⟨hcs, _⟩ | ⟨a, len, cap, m, n', D, Pl, hcs, _, hl, hm, hmm, _, hx⟩
  · simp [Value.cells] at hcs
    exact ⟨[], none, 0, by simp [hcs], by simp, fun h => by simp at h⟩
  · simp [Value.cells] at hcs
    obtain ⟨rfl, rfl, rfl⟩ := hcs
    simp only [if_true] at hmm
    rw [cellsOf33] at hx
    unfold maxLen at hm
    by_cases h0 : n = 0
    · subst h0
      exact ⟨[], some a, _, rfl, by simp, fun h => by simp at h⟩
    · obtain ⟨b, o, sp⟩ := a
      have hs : sp = none := by
        obtain ⟨cs', h1, _⟩ := hx 0 (by omega)
        have c0 := cells_get h1 0 (by omega)
        cases sp with
        | none => rfl
        | some s =>
          have hlen : ∃ v, cs'[0]? = some v := by
            unfold World.cells? at h1
            split at h1
            · exact ⟨_, List.getElem?_eq_getElem (by rw [mapM_some_length h1]; simp)⟩
            · cases h1
          obtain ⟨v, hv⟩ := hlen
          rw [hv] at c0
          simp only [Nat.zero_mul, Addr.add, if_true] at c0
          unfold World.cell? at c0; split at c0 <;> simp at c0
      subst hs
      have each : ∀ i, i < n → ∃ a, ActAt W (fun i => i < W.heap.size) b (o + i * 5) a := fun i hi => by
        obtain ⟨cs', h1, h2⟩ := hx i (by omega)
        have e : (⟨b, o, none⟩ : Addr).add (i * 5) = ⟨b, o + i * 5, none⟩ := by
          unfold Addr.add; split
          · rename_i e; simp [e]
          · rfl
        rw [e] at h1
        exact act_of_trod h1 h2
      classical
      refine ⟨(List.range n).attach.map fun i => Classical.choose (each i.1 (List.mem_range.1 i.2)), some ⟨b, o, none⟩, _, by simp; rfl, by simp; omega, fun _ => ⟨b, o, rfl, ?_, fun k hk => ?_⟩⟩
      · obtain ⟨a, ha⟩ := each 0 (by omega)
        exact World.block_lt_of_cell? W _ ha.1
      · have hk' : k < n := by simpa using hk
        have := Classical.choose_spec (each k hk')
        simpa using this
end Go.Proofs.Ytediappljpkblaa
