/-
  Part Turn of the proof: a deterministic evaluator of the machine, its soundness, and what it gives for this seat.
-/
import Derived.Test.YtcncbfgplikphaaGreatTabs
import Derived.Test.YtcncbfgplikphaaGreatDigests
import Derived.KernelRfl
open Go.Proofs
namespace Go.Ac
theorem tb : TurnRun tab 237 := by
  intro tt h b n k
  kernel_rfl
end Go.Ac
