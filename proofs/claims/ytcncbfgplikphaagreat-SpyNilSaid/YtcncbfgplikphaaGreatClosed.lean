/-
  Part Closed of the proof: a deterministic evaluator of the machine, its soundness, and what it gives for this seat.
-/
import Derived.Test.YtcncbfgplikphaaGreatRows
import Derived.JoinedOf
import Derived.KernelRfl
namespace Go.Proofs.YtcncbfgplikphaaGreat
theorem two {a b : Bool} (h : a = true) (k : b = true) : (a && b) = true := by rw [h, k]; rfl
set_option maxHeartbeats 4000000 in
theorem facts : joinedFacts Tryz.prog 3 Tryz.f3 Rows.spyNilSpec Rows.spyNilRow = true := by
  unfold joinedFacts
  repeat (refine two ?_ ?_)
  all_goals (as_aux_lemma => kernel_rfl)
theorem named3 : Tryz.prog.funcNamed Rows.spyNilRow.func = some 3 := by kernel_rfl
theorem wraps : Tryz.f3.isWrapper Tryz.prog Rows.spyNilRow.wrapper Rows.spyNilRow.mainSum := by unfold Func.isWrapper; first | (rw [if_pos (by decide +kernel)]; kernel_rfl) | (rw [if_neg (by decide +kernel)]; exact ⟨rfl, rfl⟩)
theorem insts : Tryz.f3.isInstance Tryz.prog Rows.spyNilRow.origin Rows.spyNilRow.targs := of_decide_eq_true (by kernel_rfl)
end Go.Proofs.YtcncbfgplikphaaGreat
