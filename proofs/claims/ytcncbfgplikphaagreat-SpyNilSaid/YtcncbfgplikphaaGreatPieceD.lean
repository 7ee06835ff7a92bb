/-
  Part PieceD of the proof: a deterministic evaluator of the machine, its soundness, and what it gives for this seat.
-/
import Derived.Test.YtcncbfgplikphaaGreatPieceB
open Go.Proofs Go.Proofs.Wk Go.Lib Go.RowKit
namespace Go.Ac
noncomputable def gid' (i : Nat) : Nat := Nat.mod (Nat.shiftRight 0xe040f1600e14a6e2394de8bd839901d0fc110e25f466afd8ae66dc5a062bb64a (Nat.mul 8 (Nat.sub 31 i))) 256
noncomputable def keyStr (f : Nat → Nat) : ByteArray := catS ⟨⟨[101, 112, 111, 99, 104, 32]⟩⟩ (hxX f)
noncomputable def firstOf : Option CallT → Value
  | some (.enter _ (x :: _)) => x
  | _ => undef
section
variable (h f : Nat → Nat) (d a g : Int) (t : ByteArray)
noncomputable def sQ : S := outS' (m8 (noteV h d a g t) (ep f) (nmN h a g) (hxX f))
noncomputable def sQ1 : S := outS' (lQ1 (wX h f d a g t) (ep f) (hxX f) (sQ h f d a g t))
noncomputable def kQ : Value := .string (keyStr f)
noncomputable def bQ : Value := firstOf (callAt tab cN2 2 (outA (nP2 (wX h f d a g t) (kQ f) (sQ1 h f d a g t))))
noncomputable def T8n : Couts := lQT (wX h f d a g t) (bQ h f d a g t) (ep f) (hxX f) (kQ f) (sQ h f d a g t)
noncomputable def okN : Bool := lQok (wX h f d a g t) (bQ h f d a g t) (ep f) (hxX f) (kQ f) (sQ h f d a g t) (keyStr gid').data.toList &&
  (isNrm (o8 (noteV h d a g t) (ep f) (nmN h a g) (hxX f) (T8n h f d a g t)) && isTrueL (tl3 (noteV h d a g t) (ep f) (nmN h a g) (hxX f) (T8n h f d a g t)))
end
theorem qN (h f : Nat → Nat) (d a g : Int) (t : ByteArray) : okN h f d a g t = true := by kernel_rfl
theorem qM (h f : Nat → Nat) (d a g : Int) (t : ByteArray) :
   (callAt tab cL1 4 (outA (lQ1 (wX h f d a g t) (ep f) (hxX f) (sQ h f d a g t))), callAt tab cN2 2 (outA (nP2 (wX h f d a g t) (kQ f) (sQ1 h f d a g t))),
    (slot 16).get (outA (kP3 (bQ h f d a g t) (kQ f) (outS' (nP2 (wX h f d a g t) (kQ f) (sQ1 h f d a g t))))))
    = (some (.enter 13 [wX h f d a g t, kQ f]), some (.enter 38 [bQ h f d a g t, kQ f]), .string (keyStr f)) := by kernel_rfl
end Go.Ac
