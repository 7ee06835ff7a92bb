/-
  Part Awake of the proof: a deterministic evaluator of the machine, its soundness, and what it gives for this seat.
-/
import Derived.Test.YtcncbfgplikphaaGreatTabs
import Derived.Test.YtcncbfgplikphaaGreatDigests
import Derived.Test.YtcncbfgplikphaaGreatEvD
import Derived.KernelRfl
open Go.Proofs
namespace Go.Ac
theorem aw : isTrueL (callN tab (overTwo 75 44 (gRows 9 sumRows) (gRows 9 macRows)) 1000 4 [] ⟨.nil, 100, [], 0⟩) = true := by kernel_rfl
end Go.Ac
