/- keys of arrays of ints. -/
import Derived.Test.YtediappljpkblaaSepMap
import Derived.Test.YtediappljpkblaaDirA
namespace Go.Proofs.Ytediappljpkblaa
set_option linter.unusedSimpArgs false
set_option linter.unusedVariables false
open Go.RowKit
def eKey (k : Int × Int × Int) : Value := .agg #[.int .i64 k.1, .int .i64 k.2.1, .int .i64 k.2.2]
theorem size3 (w : World) : (sizeOf 3).run Try.prog w = .ok 1 w := by kernel_rfl
theorem eqA3 (d : Nat) (w : World) (a b : Int × Int × Int) : (Op.equalIn (d + 2) 46 (eKey a) (eKey b)).run Try.prog w = .ok (decide (a = b)) w := by
  obtain ⟨a1, a2, a3⟩ := a
  obtain ⟨b1, b2, b3⟩ := b
  unfold eKey
  simp only [Op.equalIn, Sem.run_bind, run_underlying Try.underlying46, Result.andThen_ok, size3]
  simp [Std.Legacy.Range.forIn_eq_forIn_range', Std.Legacy.Range.size, List.range', part0, run_underlying Try.underlying3]
  by_cases h1 : a1 = b1 <;> by_cases h2 : a2 = b2 <;> by_cases h3 : a3 = b3 <;> simp [h1, h2, h3]
theorem keyA3 : KeyT Try.prog 46 eKey :=
  KeyT.of_equal Try.underlying46 (fun _ _ => rfl) (fun {a b} h => by
      obtain ⟨a1, a2, a3⟩ := a; obtain ⟨b1, b2, b3⟩ := b
      simp [eKey] at h; simp [h])
    (fun w a b => eqA3 9998 w a b)
    (fun w em k => by
      show (Instr.checkKey em (9998 + 1 + 1) _ _).run _ w = _
      unfold Instr.checkKey
      simp only [Sem.run_bind, run_underlying Try.underlying46, eKey, Result.andThen_ok]
      simp [Std.Legacy.Range.forIn_eq_forIn_range', Std.Legacy.Range.size, List.range', part0, size3, MapKept.run_checkKey (k := .int .i64 _) Try.underlying3 rfl])
    (fun w k => by
      unfold Instr.keyThatStays
      rw [if_pos (by show Instr.sameBits (9998 + 1 + 1) _ _ = true; simp [Instr.sameBits, eKey])]
      rfl)
theorem eqA2 (d : Nat) (w : World) (a b : Int × Int) : (Op.equalIn (d + 2) 48 (ePlace a) (ePlace b)).run Try.prog w = .ok (decide (a = b)) w := by
  obtain ⟨a1, a2⟩ := a
  obtain ⟨b1, b2⟩ := b
  unfold ePlace
  simp only [Op.equalIn, Sem.run_bind, run_underlying Try.underlying48, Result.andThen_ok, size3]
  simp [Std.Legacy.Range.forIn_eq_forIn_range', Std.Legacy.Range.size, List.range', part0, run_underlying Try.underlying3]
  by_cases h1 : a1 = b1 <;> by_cases h2 : a2 = b2 <;> simp [h1, h2]
theorem keyA2 : KeyT Try.prog 48 ePlace :=
  KeyT.of_equal Try.underlying48 (fun _ _ => rfl) (fun {a b} h => by
      obtain ⟨a1, a2⟩ := a; obtain ⟨b1, b2⟩ := b
      simp [ePlace] at h; simp [h])
    (fun w a b => eqA2 9998 w a b)
    (fun w em k => by
      show (Instr.checkKey em (9998 + 1 + 1) _ _).run _ w = _
      unfold Instr.checkKey
      simp only [Sem.run_bind, run_underlying Try.underlying48, ePlace, Result.andThen_ok]
      simp [Std.Legacy.Range.forIn_eq_forIn_range', Std.Legacy.Range.size, List.range', part0, size3, MapKept.run_checkKey (k := .int .i64 _) Try.underlying3 rfl])
    (fun w k => by
      unfold Instr.keyThatStays
      rw [if_pos (by show Instr.sameBits (9998 + 1 + 1) _ _ = true; simp [Instr.sameBits, ePlace])]
      rfl)
theorem mapD : MapT Try.prog 40 48 3 ePlace (.int .i64 0) := ⟨keyA2, Try.underlying40, by intro w; simp⟩
end Go.Proofs.Ytediappljpkblaa
