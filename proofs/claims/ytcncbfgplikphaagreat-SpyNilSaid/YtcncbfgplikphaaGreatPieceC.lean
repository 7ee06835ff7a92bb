/-
  Part PieceC of the proof: a deterministic evaluator of the machine, its soundness, and what it gives for this seat.
-/
import Derived.Test.YtcncbfgplikphaaGreatPieceB
open Go.Proofs Go.Proofs.Wk Go.Lib Go.RowKit
namespace Go.Ac
noncomputable def gid (i : Nat) : Nat := Nat.mod (Nat.shiftRight 0xe040f1600e14a6e2394de8bd839901d0fc110e25f466afd8ae66dc5a062bb64a (Nat.mul 8 (Nat.sub 31 i))) 256
noncomputable def T8e (h f : Nat → Nat) (d a g : Int) (t : ByteArray) : Couts := lT (wX h f d a g t) (ep f) (hxX f) (outS' (m8 (noteV h d a g t) (ep f) (nmN h a g) (hxX f)))
noncomputable def okE (h f : Nat → Nat) (d a g : Int) (t : ByteArray) : Bool := lOk (wX h f d a g t) (ep f) (hxX f) (outS' (m8 (noteV h d a g t) (ep f) (nmN h a g) (hxX f))) &&
  (isNrm (o8 (noteV h d a g t) (ep f) (nmN h a g) (hxX f) (T8e h f d a g t)) && isTrueL (tl3 (noteV h d a g t) (ep f) (nmN h a g) (hxX f) (T8e h f d a g t)))
theorem qE (h : Nat → Nat) (d a g : Int) (t : ByteArray) : okE h gid d a g t = true := by kernel_rfl
end Go.Ac
