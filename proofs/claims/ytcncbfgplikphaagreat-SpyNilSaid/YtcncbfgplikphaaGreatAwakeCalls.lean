/-
  Part AwakeCalls of the proof: a deterministic evaluator of the machine, its soundness, and what it gives for this seat.
-/
import Derived.Test.YtcncbfgplikphaaGreatAwake
import Derived.Test.YtcncbfgplikphaaGreatSums
import Derived.Test.YtcncbfgplikphaaGreatMacs
import Derived.Test.YtcncbfgplikphaaGreatTurn
import Derived.Test.YtcncbfgplikphaaGreatFactsB
open Go.Proofs
namespace Go.Ac
theorem rowsB_append {tab : Tab} {over : Over} {f : FuncId} {e : TypeId} {l m : List Row} (h : ∀ r ∈ l, rowB tab over f e r = true) (k : ∀ r ∈ m, rowB tab over f e r = true) : ∀ r ∈ l ++ m, rowB tab over f e r = true := fun r hr => (List.mem_append.1 hr).elim (h r) (k r)
theorem sumOk : ∀ r ∈ sumRows, rowB tab (over1 237) 75 9 r = true := (rowsB_append (rowsB_append (rowsB_append (rowsB_append (rowsB_append (rowsB_append (rowsB_append (rowsB_append (rowsB_append (rowsB_append (rowsB_append (rowsB_append (rowsB_append (rowsB_append (rowsB_append (rowsB_append (rowsB_append (rowsB_append (rowsB_append (rowsB_append (rowsB_mem sb0) (rowsB_mem sb1)) (rowsB_mem sb2)) (rowsB_mem sb3)) (rowsB_mem sb4)) (rowsB_mem sb5)) (rowsB_mem sb6)) (rowsB_mem sb7)) (rowsB_mem sb8)) (rowsB_mem sb9)) (rowsB_mem sb10)) (rowsB_mem sb11)) (rowsB_mem sb12)) (rowsB_mem sb13)) (rowsB_mem sb14)) (rowsB_mem sb15)) (rowsB_mem sb16)) (rowsB_mem sb17)) (rowsB_mem sb18)) (rowsB_mem sb19)) (rowsB_mem sb20))
theorem macOk : ∀ r ∈ macRows, rowB tab oS 44 9 r = true := (rowsB_append (rowsB_append (rowsB_append (rowsB_append (rowsB_append (rowsB_mem mb0) (rowsB_mem mb1)) (rowsB_mem mb2)) (rowsB_mem mb3)) (rowsB_mem mb4)) (rowsB_mem mb5))
theorem there237 : ∃ fn, tab.funcs.get 237 = some fn := ⟨Tryz.f237, by kernel_rfl⟩
theorem there75 : ∃ fn, tab.funcs.get 75 = some fn := ⟨Tryz.f75, by kernel_rfl⟩
theorem there44 : ∃ fn, tab.funcs.get 44 = some fn := ⟨Tryz.f44, by kernel_rfl⟩
theorem runs (W : World) {over : Over} (hO : OverOk Tryz.prog tab (cx0 tab W) over) (m : Nat) : CallOk Tryz.prog tab (cx0 tab W) (callN tab over m) := (all_ok tok zok rfl rfl fok hO m).1
theorem hG (W : World) : (cx0 tab W).G ≤ 100 := Nat.zero_le _
theorem turnO (W : World) : OverOk Tryz.prog tab (cx0 tab W) (over1 237) := over1_ok there237 (runs W over0_ok 50) (hG W) tb
theorem sumO (W : World) : CallOk Tryz.prog tab (cx0 tab W) fun f' args s => if f' = 75 then (gRows 9 sumRows).run args s else none := gRows_ok there75 (runs W (turnO W) 60) (hG W) sumOk
theorem oSO (W : World) : OverOk Tryz.prog tab (cx0 tab W) oS := by
  intro g o ho
  unfold oS at ho
  cases hg : Nat.beq g 75 with
  | false => rw [hg] at ho; cases ho
  | true =>
    rw [hg] at ho
    cases ho
    have := of_beq hg
    subst this
    exact sumO W
theorem macO (W : World) : CallOk Tryz.prog tab (cx0 tab W) fun f' args s => if f' = 44 then (gRows 9 macRows).run args s else none := gRows_ok there44 (runs W (oSO W) 60) (hG W) macOk
theorem awake (W : World) : Calls Tryz.prog 4 #[] W fun e W' => e = .returned (.bool true) ∧ Kept W W' :=
  run_true (fun W => runs W (overTwo_ok (sumO W) (macO W)) 1000) aw W
end Go.Ac
