/-
  Part Macs of the proof: a deterministic evaluator of the machine, its soundness, and what it gives for this seat.
-/
import Derived.Test.YtcncbfgplikphaaGreatTabs
import Derived.Test.YtcncbfgplikphaaGreatDigests
import Derived.KernelRfl
open Go.Proofs
namespace Go.Ac
noncomputable def oS : Over := fun g => cond (Nat.beq g 75) (some (gRows 9 sumRows)) none
theorem mb0 : rowsB tab oS 44 9 macRows0 = true := by kernel_rfl
theorem mb1 : rowsB tab oS 44 9 macRows1 = true := by kernel_rfl
theorem mb2 : rowsB tab oS 44 9 macRows2 = true := by kernel_rfl
theorem mb3 : rowsB tab oS 44 9 macRows3 = true := by kernel_rfl
theorem mb4 : rowsB tab oS 44 9 macRows4 = true := by kernel_rfl
theorem mb5 : rowsB tab oS 44 9 macRows5 = true := by kernel_rfl
end Go.Ac
