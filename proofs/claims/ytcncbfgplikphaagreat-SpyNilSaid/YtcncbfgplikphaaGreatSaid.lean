/-
  SpyNilSaid: whatever the note and the epoch, the law SpyNil returns true and its two arguments read behind the call as they read before; without conditions.
-/
import Derived.Test.YtcncbfgplikphaaGreatAnswer
import Derived.Test.YtcncbfgplikphaaGreatClosed
namespace Go.Proofs.YtcncbfgplikphaaGreat
theorem over : Rows.spyNilRow.holds Tryz.pinned (OpenSpec.ofChange Rows.spyNilSpec) :=
  OpenClaim.holds_of_wide 3 Tryz.f3 rfl rfl rfl rfl rfl rfl rfl ⟨rfl, rfl, rfl, rfl, rfl⟩ rfl rfl rfl rfl rfl named3 Tryz.func3 facts insts wraps
    (fun os started H enc _ => lifted os started H enc)
/-- THE STATEMENT -/
theorem spyNil_holds : Rows.SpyNilSaid := over
end Go.Proofs.YtcncbfgplikphaaGreat
