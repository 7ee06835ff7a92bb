/-
  Part Sums of the proof: a deterministic evaluator of the machine, its soundness, and what it gives for this seat.
-/
import Derived.Test.YtcncbfgplikphaaGreatTabs
import Derived.Test.YtcncbfgplikphaaGreatDigests
import Derived.KernelRfl
open Go.Proofs
namespace Go.Ac
theorem sb0 : rowsB tab (over1 237) 75 9 sumRows0 = true := by kernel_rfl
theorem sb1 : rowsB tab (over1 237) 75 9 sumRows1 = true := by kernel_rfl
theorem sb2 : rowsB tab (over1 237) 75 9 sumRows2 = true := by kernel_rfl
theorem sb3 : rowsB tab (over1 237) 75 9 sumRows3 = true := by kernel_rfl
theorem sb4 : rowsB tab (over1 237) 75 9 sumRows4 = true := by kernel_rfl
theorem sb5 : rowsB tab (over1 237) 75 9 sumRows5 = true := by kernel_rfl
theorem sb6 : rowsB tab (over1 237) 75 9 sumRows6 = true := by kernel_rfl
theorem sb7 : rowsB tab (over1 237) 75 9 sumRows7 = true := by kernel_rfl
theorem sb8 : rowsB tab (over1 237) 75 9 sumRows8 = true := by kernel_rfl
theorem sb9 : rowsB tab (over1 237) 75 9 sumRows9 = true := by kernel_rfl
theorem sb10 : rowsB tab (over1 237) 75 9 sumRows10 = true := by kernel_rfl
theorem sb11 : rowsB tab (over1 237) 75 9 sumRows11 = true := by kernel_rfl
theorem sb12 : rowsB tab (over1 237) 75 9 sumRows12 = true := by kernel_rfl
theorem sb13 : rowsB tab (over1 237) 75 9 sumRows13 = true := by kernel_rfl
theorem sb14 : rowsB tab (over1 237) 75 9 sumRows14 = true := by kernel_rfl
theorem sb15 : rowsB tab (over1 237) 75 9 sumRows15 = true := by kernel_rfl
theorem sb16 : rowsB tab (over1 237) 75 9 sumRows16 = true := by kernel_rfl
theorem sb17 : rowsB tab (over1 237) 75 9 sumRows17 = true := by kernel_rfl
theorem sb18 : rowsB tab (over1 237) 75 9 sumRows18 = true := by kernel_rfl
theorem sb19 : rowsB tab (over1 237) 75 9 sumRows19 = true := by kernel_rfl
theorem sb20 : rowsB tab (over1 237) 75 9 sumRows20 = true := by kernel_rfl
end Go.Ac
