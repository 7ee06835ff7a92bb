/-
  Part PieceB of the proof: a deterministic evaluator of the machine, its soundness, and what it gives for this seat.
-/
import Derived.Test.YtcncbfgplikphaaGreatNames
open Go.Proofs Go.Proofs.Wk Go.Lib Go.RowKit
namespace Go.Ac
noncomputable def wX (h f : Nat → Nat) (d a g : Int) (t : ByteArray) : Value := wW (noteV h d a g t) (ep f) (nmN h a g) (hxX f)
theorem qD (h f : Nat → Nat) (d a g : Int) (t : ByteArray) :
   (callAt tab D7 2 (outA (m7 (noteV h d a g t) (ep f) (nmN h a g) (hxX f))), callAt tab cR1 7 (outA (rP1 (wX h f d a g t) (noteV h d a g t) (outS' (m7 (noteV h d a g t) (ep f) (nmN h a g) (hxX f))))),
    callAt tab D8 2 (outA (m8 (noteV h d a g t) (ep f) (nmN h a g) (hxX f))), callAt tab cL1 2 (outA (lP1 (wX h f d a g t) (ep f) (outS' (m8 (noteV h d a g t) (ep f) (nmN h a g) (hxX f))))))
    = (some (.enter 5 [wX h f d a g t, noteV h d a g t]), some (.enter 14 [.agg ⟨hV h⟩, .int .i64 a, .int .i64 g]), some (.enter 6 [wX h f d a g t, ep f]), some (.enter 20 [.agg ⟨hV f⟩])) := by kernel_rfl
end Go.Ac
