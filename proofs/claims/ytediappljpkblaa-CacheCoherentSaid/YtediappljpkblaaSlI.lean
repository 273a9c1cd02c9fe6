/- slices of ints. -/
import Derived.Test.YtediappljpkblaaSepSl
import Derived.Test.YtediappljpkblaaRows
namespace Go.Proofs.Ytediappljpkblaa
set_option linter.unusedSimpArgs false
set_option linter.unusedVariables false
open Go.RowKit
def encI (x : Int) : List Value := [.int .i64 x]
theorem encI_len (x : Int) : (encI x).length = 1 := rfl
theorem encI_one : ∀ x, ∀ u ∈ encI x, u.oneCell' = true := by intro x u hu; simp [encI] at hu; subst hu; rfl
theorem slI : SlT Try.prog 29 3 1 8 encI := ⟨Try.underlying29, by kernel_rfl, by decide, encI_len, encI_one⟩
end Go.Proofs.Ytediappljpkblaa
