/-
  Part PieceA of the proof: a deterministic evaluator of the machine, its soundness, and what it gives for this seat.
-/
import Derived.Test.YtcncbfgplikphaaGreatNames
open Go.Proofs Go.Proofs.Wk Go.Lib Go.RowKit
namespace Go.Ac
theorem qC (h f : Nat → Nat) (d a g : Int) (t : ByteArray) : (ok3 (noteV h d a g t) (ep f) (nmN h a g) (hxX f)) = true := by kernel_rfl
end Go.Ac
