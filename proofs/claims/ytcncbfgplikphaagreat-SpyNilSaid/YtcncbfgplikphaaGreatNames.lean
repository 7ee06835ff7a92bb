/-
  Part Names of the proof: a deterministic evaluator of the machine, its soundness, and what it gives for this seat.
-/
import Derived.Test.YtcncbfgplikphaaGreatEvD
import Derived.Test.YtcncbfgplikphaaGreatFactsB
import Derived.Test.YtcncbfgplikphaaGreatDigests
import Derived.Test.YtcncbfgplikphaaGreatWords
import Derived.KernelRfl
import Derived.Test.YtcncbfgplikphaaGreatAwakeCalls
section
open Go.Proofs Go.Proofs.Wk Go.Lib Go.RowKit
namespace Go.Ac
/-! ### Hex and Name by contract -/
def GoodH (A : Array Value) (x : Nat → Int) : Prop := A.size = 32 ∧ (∀ k : Nat, k < 32 → A[k]? = some (.int .u8 (x k))) ∧ ∀ k, 0 ≤ x k ∧ x k < 256
def InI (n : Int) : Prop := -9223372036854775808 ≤ n ∧ n ≤ 9223372036854775807
def GoodX (args : List Value) (v : Value) : Prop := ∃ A x, args = [.agg A] ∧ GoodH A x ∧ v = .string ⟨(Hx.encode (bys x 32)).toArray⟩
def GoodN (args : List Value) (v : Value) : Prop := ∃ A x a g, args = [.agg A, .int .i64 a, .int .i64 g] ∧ GoodH A x ∧ InI a ∧ InI g ∧ v = .string ⟨(nameL x a g).toArray⟩
noncomputable def allLt : List Nat → Bool
  | [] => true
  | x :: l => Nat.ble (Nat.succ x) 256 && allLt l
noncomputable def hexNs (ns : List Nat) : Value := .string ⟨(Hx.encode (ns.map UInt8.ofNat)).toArray⟩
noncomputable def hexF : List Value → Option Value
  | [.agg ⟨l⟩] => match getN .u8 32 l with
    | some (ns, []) => cond (allLt ns) (some (hexNs ns)) none
    | _ => none
  | _ => none
open Classical in
noncomputable def nameF (args : List Value) : Option Value := if h : ∃ v, GoodN args v then some h.choose else none
theorem bys_eq {x y : Nat → Int} {A : Array Value} (h : GoodH A x) (k : GoodH A y) : bys x 32 = bys y 32 := by
  unfold bys
  apply List.map_congr_left
  intro i hi
  have hi := List.mem_range.1 hi
  have e := (h.2.1 i hi).symm.trans (k.2.1 i hi)
  simp only [Option.some.injEq, Value.int.injEq, true_and] at e
  rw [e]
theorem goodX_uniq {args : List Value} {v w : Value} (h : GoodX args v) (k : GoodX args w) : v = w := by
  obtain ⟨A, x, rfl, h1, rfl⟩ := h
  obtain ⟨B, y, e, k1, rfl⟩ := k
  cases e
  rw [bys_eq h1 k1]
theorem goodN_uniq {args : List Value} {v w : Value} (h : GoodN args v) (k : GoodN args w) : v = w := by
  obtain ⟨A, x, a, g, rfl, h1, _, _, rfl⟩ := h
  obtain ⟨B, y, a', g', e, k1, _, _, rfl⟩ := k
  cases e
  unfold nameL
  rw [bys_eq h1 k1]
theorem nameF_eq {args : List Value} {v : Value} (h : GoodN args v) : nameF args = some v := by
  unfold nameF
  rw [dif_pos ⟨v, h⟩, goodN_uniq (Exists.choose_spec ⟨v, h⟩) h]
theorem allLt_of : ∀ {l : List Nat}, allLt l = true → ∀ x ∈ l, x < 256
  | y :: l, h, x, hx => by
    simp only [allLt, Bool.and_eq_true] at h
    rcases List.mem_cons.1 hx with rfl | hx
    · exact of_ble h.1
    · exact allLt_of h.2 x hx
theorem allLt_mk : ∀ {l : List Nat}, (∀ x ∈ l, x < 256) → allLt l = true
  | [], _ => rfl
  | y :: l, h => by
    simp only [allLt, Bool.and_eq_true]
    exact ⟨Nat.ble_eq.mpr (h y (List.mem_cons_self ..)), allLt_mk fun x hx => h x (List.mem_cons_of_mem _ hx)⟩
theorem bys_nth (ns : List Nat) (hl : ns.length = 32) : bys (fun i => ((ns.getD i 0 : Nat) : Int)) 32 = ns.map UInt8.ofNat := by
  unfold bys
  rw [← hl]
  apply List.ext_getElem?
  intro i
  by_cases hi : i < ns.length
  · simp [hi]
  · rw [List.getElem?_eq_none (by simp; omega), List.getElem?_eq_none (by simp; omega)]
theorem hexF_good {args : List Value} {v : Value} (h : hexF args = some v) : GoodX args v := by
  unfold hexF at h
  split at h
  · rename_i l
    split at h
    · rename_i ns e
      obtain ⟨hl, h⟩ := cond_some h
      cases h
      obtain ⟨e1, e2⟩ := getN_ok e
      have hlt := allLt_of hl
      rw [List.append_nil] at e1
      refine ⟨⟨l⟩, fun i => ((ns.getD i 0 : Nat) : Int), rfl, ⟨by rw [e1]; simpa using e2, fun k hk => ?_, fun k => ⟨Int.natCast_nonneg _, ?_⟩⟩, ?_⟩
      · have hk' : k < ns.length := by omega
        rw [List.getElem?_toArray, e1, List.getElem?_map, List.getElem?_eq_getElem hk']
        simp [hk']
      · by_cases hk : k < ns.length
        · have := hlt _ (List.getElem_mem hk)
          simp [hk]
          omega
        · simp [List.getElem?_eq_none (Nat.le_of_not_lt hk)]
      · unfold hexNs
        rw [bys_nth ns e2]
    · cases h
  · cases h
theorem nameF_good {args : List Value} {v : Value} (h : nameF args = some v) : GoodN args v := by
  unfold nameF at h
  split at h
  · rename_i hx
    cases h
    exact hx.choose_spec
  · cases h
theorem vOkL_of {l : List Value} (h : ∀ (i : Nat) (v : Value), l[i]? = some v → vOk v = true) : vOkL l = true := by
  induction l with
  | nil => rfl
  | cons x l ih =>
    simp only [vOkL, Bool.and_eq_true]
    exact ⟨h 0 x rfl, ih fun i v hi => h (i + 1) v hi⟩
theorem goodH_ok {A : Array Value} {x : Nat → Int} (h : GoodH A x) : vOk (.agg A) = true := by
  obtain ⟨l⟩ := A
  have hs : l.length = 32 := h.1
  have key : ∀ (i : Nat) v, l[i]? = some v → ∃ n, v = .int .u8 n := by
    intro i v hi
    have hlt : i < 32 := by have := (List.getElem?_eq_some_iff.1 hi).1; omega
    have e : (⟨l⟩ : Array Value)[i]? = some (.int .u8 (x i)) := h.2.1 i hlt
    rw [List.getElem?_toArray] at e
    rw [hi] at e
    cases e
    exact ⟨_, rfl⟩
  show (vOkL l && l.all Value.oneCell) = true
  rw [Bool.and_eq_true]
  refine ⟨vOkL_of fun i v hi => by obtain ⟨n, rfl⟩ := key i v hi; rfl, ?_⟩
  rw [List.all_eq_true]
  intro v hv
  obtain ⟨i, hi⟩ := List.getElem?_of_mem hv
  obtain ⟨n, rfl⟩ := key i v hi
  rfl
theorem there20 : ∃ fn, tab.funcs.get 20 = some fn := ⟨Tryz.f20, by kernel_rfl⟩
theorem there14 : ∃ fn, tab.funcs.get 14 = some fn := ⟨Tryz.f14, by kernel_rfl⟩
theorem hexO (W : World) : CallOk Tryz.prog tab (cx0 tab W) fun f' args s => if f' = 20 then (gPure hexF).run args s else none := by
  refine gPure_ok there20 fun args v h => ?_
  obtain ⟨A, x, rfl, hg, rfl⟩ := hexF_good h
  exact ⟨by simp only [vOkL, Bool.and_eq_true]; exact ⟨goodH_ok hg, trivial⟩, rfl, fun w => hex_any A x w hg.1 hg.2.1 hg.2.2⟩
theorem nameO (W : World) : CallOk Tryz.prog tab (cx0 tab W) fun f' args s => if f' = 14 then (gPure nameF).run args s else none := by
  refine gPure_ok there14 fun args v h => ?_
  obtain ⟨A, x, a, g, rfl, hg, ha, hb, rfl⟩ := nameF_good h
  exact ⟨by simp only [vOkL, Bool.and_eq_true]; exact ⟨goodH_ok hg, rfl, rfl, trivial⟩, rfl, fun w => name_any A x a g w hg.1 hg.2.1 hg.2.2 ha.1 ha.2 hb.1 hb.2⟩
end Go.Ac
end
section
open Go.Proofs Go.Proofs.Wk Go.Lib Go.RowKit
namespace Go.Ac
/-! ### what is taken by contract -/
noncomputable def trueF : List Value → Option Value
  | [] => some (.bool true)
  | _ => none
noncomputable def over9 : Over := overRow [(4, gPure trueF), (14, gPure nameF), (20, gPure hexF), (75, gRows 9 sumRows), (44, gRows 9 macRows)]
theorem Kept.below {W W' : World} (h : Kept W W') : Below W.heap.size W W' := ⟨h.os, h.tape, h.out, h.size, fun k hk => h.heap k hk⟩
theorem there4 : ∃ fn, tab.funcs.get 4 = some fn := ⟨Tryz.f4, by kernel_rfl⟩
theorem trueO (W : World) : CallOk Tryz.prog tab (cx0 tab W) fun f' args s => if f' = 4 then (gPure trueF).run args s else none := by
  refine gPure_ok there4 fun args v h => ?_
  unfold trueF at h
  split at h
  · cases h
    exact ⟨rfl, rfl, fun w => (awake w).mono fun e w' h => ⟨h.1, h.2.below⟩⟩
  · cases h
theorem over9_ok (W : World) : OverOk Tryz.prog tab (cx0 tab W) over9 := by
  refine overRow_ok fun q hq => ?_
  simp only [List.mem_cons, List.not_mem_nil, or_false] at hq
  rcases hq with rfl | rfl | rfl | rfl | rfl
  · exact trueO W
  · exact nameO W
  · exact hexO W
  · exact sumO W
  · exact macO W

theorem gPure_run {g : List Value → Option Value} {args : List Value} {v : Value} (h : g args = some v) (s : S) : (gPure g).run args s = some [(v, s)] := by
  show (match g args with
    | some v => some [(v, s)]
    | none => none) = _
  rw [h]

/-! ### codes -/
noncomputable def fstC : Code → Code
  | .seq x _ => x
  | c => c
noncomputable def sndC : Code → Code
  | .seq _ y => y
  | c => c
noncomputable def thenC : Code → Code
  | .cond _ x _ => x
  | c => c
noncomputable def bodyC (f : Func) : Code := match f.body with
  | some c => c
  | none => .skip
noncomputable def env9 (n f : Nat) : Env := ⟨callN tab over9 n, yieldN tab over9 n, f, none⟩
noncomputable def a9 (args : List Value) : A := ⟨initTmps args 0 fr0, []⟩
noncomputable def back9 (n : Nat) (f : Func) (o : Outs) : Couts := bindO o (behind (callB tab over9 n) (resL tab f.results.toList))

/-! ### Reads, where nothing is named so -/
noncomputable def cR : Code := bodyC Tryz.f5
noncomputable def cR0 : Code := fstC cR
noncomputable def cR1 : Code := fstC (sndC cR)
noncomputable def cR2 : Code := sndC (sndC cR)
theorem cR_eq : Tryz.f5.body = some (.seq cR0 (.seq cR1 cR2)) := by kernel_rfl
theorem cR1_reg : isReg0 cR1 = true := by kernel_rfl
theorem cR1_ok : okAt tab cR1 0 7 = true := by kernel_rfl
section
variable (wv N : Value) (sN : ByteArray) (s : S)
noncomputable def rP0 : Outs := (den tab cR0).run (env9 996 5) (a9 [wv, N]) s
noncomputable def rP1 : Outs := midO tab (env9 996 5) cR1 0 7 (outA (rP0 wv N s)) (outS' (rP0 wv N s))
noncomputable def rP2 : Outs := fromO tab (env9 996 5) cR1 8 ((putD (dstAt cR1 7)).put (outA (rP1 wv N s)) (.string sN)) (outS' (rP1 wv N s))
noncomputable def rT : Couts := back9 996 Tryz.f5 ((den tab cR2).run (env9 996 5) (outA (rP2 wv N sN s)) (outS' (rP2 wv N sN s)))
noncomputable def rOk : Bool := isNrm (rP0 wv N s) && (isNrm (rP1 wv N s) && (isNrm (rP2 wv N sN s) && isOne (rT wv N sN s)))
end
theorem f5_there : tab.funcs.get 5 = some Tryz.f5 := by kernel_rfl
theorem reads_eq {wv N : Value} {sN : ByteArray} {s : S} {A : List Value} {a g : Int} (hg : GoodN [.agg ⟨A⟩, .int .i64 a, .int .i64 g] (.string sN)) (hk : rOk wv N sN s = true)
    (hc : callAt tab cR1 7 (outA (rP1 wv N s)) = some (.enter 14 [.agg ⟨A⟩, .int .i64 a, .int .i64 g])) : callN tab over9 998 5 [wv, N] s = some [(couV (rT wv N sN s), couS (rT wv N sN s))] := by
  unfold rOk at hk
  simp only [Bool.and_eq_true] at hk
  obtain ⟨k0, k1, k2, k3⟩ := hk
  refine call_body (n := 996) rfl f5_there cR_eq rfl ?_
  have e14 : (env9 996 5).call 14 [.agg ⟨A⟩, .int .i64 a, .int .i64 g] (outS' (rP1 wv N s)) = some [(.string sN, outS' (rP1 wv N s))] := by
    show callN tab over9 996 14 _ _ = _
    rw [call_over (n := 995) (o := gPure nameF) rfl]
    exact gPure_run (nameF_eq hg) _
  show back9 996 Tryz.f5 ((den tab (.seq cR0 (.seq cR1 cR2))).run (env9 996 5) (a9 [wv, N]) s) = _
  rw [seq_out (x := cR0) k0]
  have e1 : (den tab cR1).run (env9 996 5) (outA (rP0 wv N s)) (outS' (rP0 wv N s)) = rP2 wv N sN s := by
    rw [reg_from cR1_reg, from_call cR1_ok k1 hc e14]
    rfl
  have k2' : isNrm ((den tab cR1).run (env9 996 5) (outA (rP0 wv N s)) (outS' (rP0 wv N s))) = true := by rw [e1]; exact k2
  show back9 996 Tryz.f5 ((den tab (.seq cR1 cR2)).run (env9 996 5) (outA (rP0 wv N s)) (outS' (rP0 wv N s))) = _
  rw [seq_out (x := cR1) k2', e1]
  exact one_of k3

/-! ### Learns -/
noncomputable def cL : Code := bodyC Tryz.f6
noncomputable def cL0 : Code := fstC cL
noncomputable def cL1 : Code := fstC (sndC cL)
noncomputable def cL2 : Code := sndC (sndC cL)
theorem cL_eq : Tryz.f6.body = some (.seq cL0 (.seq cL1 cL2)) := by kernel_rfl
theorem cL1_reg : isReg0 cL1 = true := by kernel_rfl
theorem cL1_ok : okAt tab cL1 0 2 = true := by kernel_rfl
section
variable (wv Ep : Value) (sH : ByteArray) (s : S)
noncomputable def lP0 : Outs := (den tab cL0).run (env9 996 6) (a9 [wv, Ep]) s
noncomputable def lP1 : Outs := midO tab (env9 996 6) cL1 0 2 (outA (lP0 wv Ep s)) (outS' (lP0 wv Ep s))
noncomputable def lA : A := (putD (dstAt cL1 2)).put (outA (lP1 wv Ep s)) (.string sH)
noncomputable def lP2 : Outs := fromO tab (env9 996 6) cL1 3 (lA wv Ep sH s) (outS' (lP1 wv Ep s))
noncomputable def lT : Couts := back9 996 Tryz.f6 ((den tab cL2).run (env9 996 6) (outA (lP2 wv Ep sH s)) (outS' (lP2 wv Ep sH s)))
noncomputable def lOk : Bool := isNrm (lP0 wv Ep s) && (isNrm (lP1 wv Ep s) && (isNrm (lP2 wv Ep sH s) && isOne (lT wv Ep sH s)))
end
theorem f6_there : tab.funcs.get 6 = some Tryz.f6 := by kernel_rfl
/-- Learns up to where Hex has answered -/
theorem learns_to {wv Ep : Value} {sH : ByteArray} {s : S} {A : List Value} (hg : hexF [.agg ⟨A⟩] = some (.string sH)) (k0 : isNrm (lP0 wv Ep s) = true) (k1 : isNrm (lP1 wv Ep s) = true)
    (hc : callAt tab cL1 2 (outA (lP1 wv Ep s)) = some (.enter 20 [.agg ⟨A⟩])) {o : Outs} (ho : lP2 wv Ep sH s = o) (k2 : isNrm o = true) {t : Couts} (ht : back9 996 Tryz.f6 ((den tab cL2).run (env9 996 6) (outA o) (outS' o)) = t) (k3 : isOne t = true) :
    callN tab over9 998 6 [wv, Ep] s = some [(couV t, couS t)] := by
  refine call_body (n := 996) rfl f6_there cL_eq rfl ?_
  have e20 : (env9 996 6).call 20 [.agg ⟨A⟩] (outS' (lP1 wv Ep s)) = some [(.string sH, outS' (lP1 wv Ep s))] := by
    show callN tab over9 996 20 _ _ = _
    rw [call_over (n := 995) (o := gPure hexF) rfl]
    exact gPure_run hg _
  show back9 996 Tryz.f6 ((den tab (.seq cL0 (.seq cL1 cL2))).run (env9 996 6) (a9 [wv, Ep]) s) = _
  rw [seq_out (x := cL0) k0]
  have e1 : (den tab cL1).run (env9 996 6) (outA (lP0 wv Ep s)) (outS' (lP0 wv Ep s)) = o := by
    rw [reg_from cL1_reg, from_call cL1_ok k1 hc e20]
    exact ho
  have k2' : isNrm ((den tab cL1).run (env9 996 6) (outA (lP0 wv Ep s)) (outS' (lP0 wv Ep s))) = true := by rw [e1]; exact k2
  show back9 996 Tryz.f6 ((den tab (.seq cL1 cL2)).run (env9 996 6) (outA (lP0 wv Ep s)) (outS' (lP0 wv Ep s))) = _
  rw [seq_out (x := cL1) k2', e1, ht]
  exact one_of k3
theorem learns_eq {wv Ep : Value} {sH : ByteArray} {s : S} {A : List Value} (hg : hexF [.agg ⟨A⟩] = some (.string sH)) (hk : lOk wv Ep sH s = true)
    (hc : callAt tab cL1 2 (outA (lP1 wv Ep s)) = some (.enter 20 [.agg ⟨A⟩])) : callN tab over9 998 6 [wv, Ep] s = some [(couV (lT wv Ep sH s), couS (lT wv Ep sH s))] := by
  unfold lOk at hk
  simp only [Bool.and_eq_true] at hk
  obtain ⟨k0, k1, k2, k3⟩ := hk
  exact learns_to hg k0 k1 hc rfl k2 rfl k3
end Go.Ac
end
section
open Go.Proofs Go.Proofs.Wk Go.Lib Go.RowKit
namespace Go.Ac
variable {tab' : Tab}
/-! ### a look-up that fails -/
noncomputable def keyB (key : List UInt8) : Value → Bool
  | .string k => eqB k.data.toList key
  | _ => false
noncomputable def keysB (key : List UInt8) : List AEntry → Bool
  | [] => true
  | x :: l => keyB key x.key && keysB key l
noncomputable def mapB (key : List UInt8) (s : S) : Value → Bool
  | .map (some r) => match s.map r with
    | some (es, _) => keysB key es
    | none => false
  | _ => false
theorem eqB_refl : ∀ l m : List UInt8, eqB l m = true → l = m := fun l m h => by
  induction l generalizing m with
  | nil => cases m with
    | nil => rfl
    | cons y m => cases h
  | cons x l ih => cases m with
    | nil => cases h
    | cons y m =>
      have h : cond (Nat.beq x.toNat y.toNat) (eqB l m) false = true := h
      cases hb : Nat.beq x.toNat y.toNat with
      | false => rw [hb] at h; cases h
      | true =>
        rw [hb] at h
        rw [ih m h, UInt8.toNat_inj.1 (of_beq hb)]
theorem eqS_ne {a b : ByteArray} (h : a.data.toList ≠ b.data.toList) : eqS a b = false := by
  cases he : eqS a b with
  | false => rfl
  | true => exact absurd (eqB_refl _ _ he) h
theorem keysB_no {key : List UInt8} {str : ByteArray} (hne : str.data.toList ≠ key) : ∀ {es : List AEntry}, keysB key es = true → ∀ x ∈ es, cS.run (.string str) x.key = some false
  | y :: es, h, x, hx => by
    simp only [keysB, Bool.and_eq_true] at h
    rcases List.mem_cons.1 hx with rfl | hx
    · have hk := h.1
      unfold keyB at hk
      split at hk
      · rename_i k e
        rw [e]
        show some (eqS str k) = some false
        rw [eqS_ne]
        rw [eqB_refl _ _ hk]
        exact hne
      · cases hk
    · exact keysB_no hne h.2 x hx
theorem lookup_no {key : List UInt8} {str : ByteArray} {z x k : Value} {s : S} (hx : mapB key s x = true) (hk : k = .string str) (hne : str.data.toList ≠ key) : vLookup ⟨cS, fun _ => true⟩ z true s x k = some (.tuple #[z, .bool false]) := by
  subst hk
  unfold mapB at hx
  split at hx
  · rename_i r
    split at hx
    · rename_i es c hm
      unfold vLookup mapOf
      simp only [hm]
      rw [findKey_none rfl (keysB_no hne hx)]
      rfl
    · cases hx
  · cases hx

noncomputable def zH : Value := .agg ⟨(upTo 32 []).map fun _ => .int .u8 (.ofNat 0)⟩
noncomputable def noV : Value := .tuple #[zH, .bool false]

/-! ### Named -/
noncomputable def cK : Code := bodyC Tryz.f38
noncomputable def cK0 : Code := fstC cK
noncomputable def cK1 : Code := fstC (sndC cK)
noncomputable def cK3 : Code := fstC (sndC (sndC cK))
noncomputable def cK4 : Code := sndC (sndC (sndC cK))
theorem cK_eq : Tryz.f38.body = some (.seq cK0 (.seq cK1 (.seq cK3 cK4))) := by kernel_rfl
theorem cK3_reg : isReg0 cK3 = true := by kernel_rfl
theorem cK3_ok : okAt tab cK3 0 5 = true := by kernel_rfl
theorem f38_there : tab.funcs.get 38 = some Tryz.f38 := by kernel_rfl
section
variable (bp K : Value) (s : S)
noncomputable def kP0 : Outs := (den tab cK0).run (env9 992 38) (a9 [bp, K]) s
noncomputable def kP1 : Outs := (den tab cK1).run (env9 992 38) (outA (kP0 bp K s)) (outS' (kP0 bp K s))
noncomputable def kP3 : Outs := midO tab (env9 992 38) cK3 0 5 (outA (kP1 bp K s)) (outS' (kP1 bp K s))
noncomputable def kP4 : Outs := fromO tab (env9 992 38) cK3 6 ((putD (dstAt cK3 5)).put (outA (kP3 bp K s)) noV) (outS' (kP3 bp K s))
noncomputable def kT : Couts := back9 992 Tryz.f38 ((den tab cK4).run (env9 992 38) (outA (kP4 bp K s)) (outS' (kP4 bp K s)))
noncomputable def kOk (key : List UInt8) : Bool := isNrm (kP0 bp K s) && (isNrm (kP1 bp K s) && (isNrm (kP3 bp K s) && (isNrm (kP4 bp K s) && (isOne (kT bp K s) && mapB key (outS' (kP3 bp K s)) ((slot 15).get (outA (kP3 bp K s)))))))
end
theorem key9 : keyT tab 9 = ⟨cS, fun _ => true⟩ := by kernel_rfl
theorem read5 (a : A) (s : S) : readAt tab cK3 5 a s = vLookup (keyT tab 9) zH true s ((slot 15).get a) ((slot 16).get a) := by kernel_rfl
theorem named_eq {bp K : Value} {s : S} {key : List UInt8} {str : ByteArray} (hk : kOk bp K s key = true) (h16 : (slot 16).get (outA (kP3 bp K s)) = .string str) (hne : str.data.toList ≠ key) :
    callN tab over9 994 38 [bp, K] s = some [(couV (kT bp K s), couS (kT bp K s))] := by
  unfold kOk at hk
  simp only [Bool.and_eq_true] at hk
  obtain ⟨k0, k1, k3, k4, k5, k6⟩ := hk
  refine call_body (n := 992) rfl f38_there cK_eq rfl ?_
  have hr : readAt tab cK3 5 (outA (kP3 bp K s)) (outS' (kP3 bp K s)) = some noV := by
    rw [read5, key9]
    exact lookup_no k6 h16 hne
  show back9 992 Tryz.f38 ((den tab (.seq cK0 (.seq cK1 (.seq cK3 cK4)))).run (env9 992 38) (a9 [bp, K]) s) = _
  rw [seq_out (x := cK0) k0]
  show back9 992 Tryz.f38 ((den tab (.seq cK1 (.seq cK3 cK4))).run (env9 992 38) (outA (kP0 bp K s)) (outS' (kP0 bp K s))) = _
  rw [seq_out (x := cK1) k1]
  have e1 : (den tab cK3).run (env9 992 38) (outA (kP1 bp K s)) (outS' (kP1 bp K s)) = kP4 bp K s := by
    rw [reg_from cK3_reg, from_read cK3_ok k3 hr]
    rfl
  show back9 992 Tryz.f38 ((den tab (.seq cK3 cK4)).run (env9 992 38) (outA (kP1 bp K s)) (outS' (kP1 bp K s))) = _
  rw [seq_out (x := cK3) (by rw [e1]; exact k4), e1]
  exact one_of k5

/-! ### named -/
noncomputable def cN : Code := bodyC Tryz.f13
noncomputable def cN0 : Code := fstC cN
noncomputable def cN1 : Code := fstC (sndC cN)
noncomputable def cN2 : Code := fstC (sndC (sndC cN))
noncomputable def cN3 : Code := sndC (sndC (sndC cN))
theorem cN_eq : Tryz.f13.body = some (.seq cN0 (.seq cN1 (.seq cN2 cN3))) := by kernel_rfl
theorem cN2_reg : isReg0 cN2 = true := by kernel_rfl
theorem cN2_ok : okAt tab cN2 0 2 = true := by kernel_rfl
theorem f13_there : tab.funcs.get 13 = some Tryz.f13 := by kernel_rfl
section
variable (wv bp K : Value) (s : S)
noncomputable def nP0 : Outs := (den tab cN0).run (env9 994 13) (a9 [wv, K]) s
noncomputable def nP1 : Outs := (den tab cN1).run (env9 994 13) (outA (nP0 wv K s)) (outS' (nP0 wv K s))
noncomputable def nP2 : Outs := midO tab (env9 994 13) cN2 0 2 (outA (nP1 wv K s)) (outS' (nP1 wv K s))
noncomputable def nP3 : Outs := fromO tab (env9 994 13) cN2 3 ((putD (dstAt cN2 2)).put (outA (nP2 wv K s)) (couV (kT bp K (outS' (nP2 wv K s))))) (couS (kT bp K (outS' (nP2 wv K s))))
noncomputable def nT : Couts := back9 994 Tryz.f13 ((den tab cN3).run (env9 994 13) (outA (nP3 wv bp K s)) (outS' (nP3 wv bp K s)))
noncomputable def nOk (key : List UInt8) : Bool := isNrm (nP0 wv K s) && (isNrm (nP1 wv K s) && (isNrm (nP2 wv K s) && (isNrm (nP3 wv bp K s) && (isOne (nT wv bp K s) && kOk bp K (outS' (nP2 wv K s)) key))))
end
theorem name_eq {wv bp K : Value} {s : S} {key : List UInt8} {str : ByteArray} (hk : nOk wv bp K s key = true) (hc : callAt tab cN2 2 (outA (nP2 wv K s)) = some (.enter 38 [bp, K]))
    (h16 : (slot 16).get (outA (kP3 bp K (outS' (nP2 wv K s)))) = .string str) (hne : str.data.toList ≠ key) : callN tab over9 996 13 [wv, K] s = some [(couV (nT wv bp K s), couS (nT wv bp K s))] := by
  unfold nOk at hk
  simp only [Bool.and_eq_true] at hk
  obtain ⟨k0, k1, k2, k3, k4, k5⟩ := hk
  refine call_body (n := 994) rfl f13_there cN_eq rfl ?_
  have e38 : (env9 994 13).call 38 [bp, K] (outS' (nP2 wv K s)) = some [(couV (kT bp K (outS' (nP2 wv K s))), couS (kT bp K (outS' (nP2 wv K s))))] := named_eq k5 h16 hne
  show back9 994 Tryz.f13 ((den tab (.seq cN0 (.seq cN1 (.seq cN2 cN3)))).run (env9 994 13) (a9 [wv, K]) s) = _
  rw [seq_out (x := cN0) k0]
  show back9 994 Tryz.f13 ((den tab (.seq cN1 (.seq cN2 cN3))).run (env9 994 13) (outA (nP0 wv K s)) (outS' (nP0 wv K s))) = _
  rw [seq_out (x := cN1) k1]
  have e1 : (den tab cN2).run (env9 994 13) (outA (nP1 wv K s)) (outS' (nP1 wv K s)) = nP3 wv bp K s := by
    rw [reg_from cN2_reg, from_call cN2_ok k2 hc e38]
    rfl
  show back9 994 Tryz.f13 ((den tab (.seq cN2 cN3)).run (env9 994 13) (outA (nP1 wv K s)) (outS' (nP1 wv K s))) = _
  rw [seq_out (x := cN2) (by rw [e1]; exact k3), e1]
  exact one_of k4

/-! ### Learns, where the epoch is not named -/
theorem cL1_ok3 : okAt tab cL1 3 4 = true := by kernel_rfl
section
variable (wv bp Ep : Value) (sH : ByteArray) (K : Value) (s : S)
noncomputable def lQ1 : Outs := midO tab (env9 996 6) cL1 3 4 (lA wv Ep sH s) (outS' (lP1 wv Ep s))
noncomputable def lQ2 : Outs := fromO tab (env9 996 6) cL1 5 ((putD (dstAt cL1 4)).put (outA (lQ1 wv Ep sH s)) (couV (nT wv bp K (outS' (lQ1 wv Ep sH s))))) (couS (nT wv bp K (outS' (lQ1 wv Ep sH s))))
noncomputable def lQT : Couts := back9 996 Tryz.f6 ((den tab cL2).run (env9 996 6) (outA (lQ2 wv bp Ep sH K s)) (outS' (lQ2 wv bp Ep sH K s)))
noncomputable def lQok (key : List UInt8) : Bool := isNrm (lP0 wv Ep s) && (isNrm (lP1 wv Ep s) && (isNrm (lQ1 wv Ep sH s) && (isNrm (lQ2 wv bp Ep sH K s) && (isOne (lQT wv bp Ep sH K s) && nOk wv bp K (outS' (lQ1 wv Ep sH s)) key))))
end
theorem learns_no {wv bp Ep K : Value} {sH : ByteArray} {s : S} {A : List Value} {key : List UInt8} {str : ByteArray} (hg : hexF [.agg ⟨A⟩] = some (.string sH)) (hk : lQok wv bp Ep sH K s key = true)
    (hc : callAt tab cL1 2 (outA (lP1 wv Ep s)) = some (.enter 20 [.agg ⟨A⟩])) (hc2 : callAt tab cL1 4 (outA (lQ1 wv Ep sH s)) = some (.enter 13 [wv, K]))
    (hc3 : callAt tab cN2 2 (outA (nP2 wv K (outS' (lQ1 wv Ep sH s)))) = some (.enter 38 [bp, K])) (h16 : (slot 16).get (outA (kP3 bp K (outS' (nP2 wv K (outS' (lQ1 wv Ep sH s)))))) = .string str) (hne : str.data.toList ≠ key) :
    callN tab over9 998 6 [wv, Ep] s = some [(couV (lQT wv bp Ep sH K s), couS (lQT wv bp Ep sH K s))] := by
  unfold lQok at hk
  simp only [Bool.and_eq_true] at hk
  obtain ⟨k0, k1, k2, k3, k4, k5⟩ := hk
  have e13 : (env9 996 6).call 13 [wv, K] (outS' (lQ1 wv Ep sH s)) = some [(couV (nT wv bp K (outS' (lQ1 wv Ep sH s))), couS (nT wv bp K (outS' (lQ1 wv Ep sH s))))] := name_eq k5 hc3 h16 hne
  refine learns_to hg k0 k1 hc (o := lQ2 wv bp Ep sH K s) ?_ k3 rfl k4
  unfold lP2
  rw [from_call cL1_ok3 k2 hc2 e13]
  rfl
end Go.Ac
end
section
open Go.Proofs Go.Proofs.Wk Go.Lib Go.RowKit
namespace Go.Ac
/-! ### the law's code -/
noncomputable def c3 : Code := bodyC Tryz.f3
noncomputable def D0 : Code := fstC c3
noncomputable def D1 : Code := fstC (fstC (sndC c3))
noncomputable def Dy : Code := thenC (sndC (fstC (sndC c3)))
noncomputable def R3 : Code := sndC (sndC c3)
noncomputable def D3 : Code := fstC R3
noncomputable def D4 : Code := fstC (sndC R3)
noncomputable def D5 : Code := fstC (sndC (sndC R3))
noncomputable def D6 : Code := fstC (sndC (sndC (sndC R3)))
noncomputable def D7 : Code := fstC (sndC (sndC (sndC (sndC R3))))
noncomputable def D8 : Code := fstC (sndC (sndC (sndC (sndC (sndC R3)))))
noncomputable def D9 : Code := sndC (sndC (sndC (sndC (sndC (sndC R3)))))
theorem c3_eq : Tryz.f3.body = some (.seq D0 (.seq (.seq D1 (.cond (.tmp 19) Dy .skip)) R3)) := by kernel_rfl
theorem R3_eq : R3 = .seq D3 (.seq D4 (.seq D5 (.seq D6 (.seq D7 (.seq D8 D9))))) := by kernel_rfl
theorem D3_reg : isReg0 D3 = true := by kernel_rfl
theorem D4_reg : isReg0 D4 = true := by kernel_rfl
theorem D7_reg : isReg0 D7 = true := by kernel_rfl
theorem D8_reg : isReg0 D8 = true := by kernel_rfl
theorem D3_ok : okAt tab D3 0 1 = true := by kernel_rfl
theorem D4_ok : okAt tab D4 0 1 = true := by kernel_rfl
theorem D7_ok : okAt tab D7 0 2 = true := by kernel_rfl
theorem D8_ok : okAt tab D8 0 2 = true := by kernel_rfl
theorem f3_there : tab.funcs.get 3 = some Tryz.f3 := by kernel_rfl
noncomputable def sI : S := ⟨.nil, 100, [], 0⟩
noncomputable def E3 : Env := env9 998 3
noncomputable def nilW : Value := .pointer none
section
variable (N Ep : Value) (sN sH : ByteArray)
noncomputable def o0 : Outs := (den tab D0).run E3 (a9 [N, Ep]) sI
noncomputable def o1 : Outs := (den tab D1).run E3 (outA (o0 N Ep)) (outS' (o0 N Ep))
noncomputable def m3 : Outs := midO tab E3 D3 0 1 (outA (o1 N Ep)) (outS' (o1 N Ep))
noncomputable def T3 : Couts := rT nilW N sN (outS' (m3 N Ep))
noncomputable def o3 : Outs := fromO tab E3 D3 2 ((putD (dstAt D3 1)).put (outA (m3 N Ep)) (couV (T3 N Ep sN))) (couS (T3 N Ep sN))
noncomputable def m4 : Outs := midO tab E3 D4 0 1 (outA (o3 N Ep sN)) (outS' (o3 N Ep sN))
noncomputable def T4 : Couts := lT nilW Ep sH (outS' (m4 N Ep sN))
noncomputable def o4 : Outs := fromO tab E3 D4 2 ((putD (dstAt D4 1)).put (outA (m4 N Ep sN)) (couV (T4 N Ep sN sH))) (couS (T4 N Ep sN sH))
noncomputable def o5 : Outs := (den tab D5).run E3 (outA (o4 N Ep sN sH)) (outS' (o4 N Ep sN sH))
noncomputable def o6 : Outs := (den tab D6).run E3 (outA (o5 N Ep sN sH)) (outS' (o5 N Ep sN sH))
noncomputable def m7 : Outs := midO tab E3 D7 0 2 (outA (o6 N Ep sN sH)) (outS' (o6 N Ep sN sH))
noncomputable def wW : Value := (slot 9).get (outA (o6 N Ep sN sH))
noncomputable def T7 : Couts := rT (wW N Ep sN sH) N sN (outS' (m7 N Ep sN sH))
noncomputable def o7 : Outs := fromO tab E3 D7 3 ((putD (dstAt D7 2)).put (outA (m7 N Ep sN sH)) (couV (T7 N Ep sN sH))) (couS (T7 N Ep sN sH))
noncomputable def m8 : Outs := midO tab E3 D8 0 2 (outA (o7 N Ep sN sH)) (outS' (o7 N Ep sN sH))
noncomputable def o8 (T8 : Couts) : Outs := fromO tab E3 D8 3 ((putD (dstAt D8 2)).put (outA (m8 N Ep sN sH)) (couV T8)) (couS T8)
noncomputable def tl3 (T8 : Couts) : Couts := back9 998 Tryz.f3 ((den tab D9).run E3 (outA (o8 N Ep sN sH T8)) (outS' (o8 N Ep sN sH T8)))
noncomputable def ok3 : Bool := isNrm (m3 N Ep) && (rOk nilW N sN (outS' (m3 N Ep)) && (isNrm (o3 N Ep sN) && (isNrm (m4 N Ep sN) && (lOk nilW Ep sH (outS' (m4 N Ep sN)) && (isNrm (o4 N Ep sN sH) && (isNrm (o5 N Ep sN sH) && (isNrm (o6 N Ep sN sH) && (isNrm (m7 N Ep sN sH) && (rOk (wW N Ep sN sH) N sN (outS' (m7 N Ep sN sH)) && (isNrm (o7 N Ep sN sH) && isNrm (m8 N Ep sN sH)))))))))))
end
theorem seq_to {E : Env} {x y : Code} {a : A} {s : S} {o : Outs} (e : (den tab x).run E a s = o) (h : isNrm o = true) : (den tab (.seq x y)).run E a s = (den tab y).run E (outA o) (outS' o) := by
  subst e
  exact seq_out h
theorem one_T {c : Couts} {n f : Nat} {args : List Value} {s : S} (h : callN tab over9 n f args s = some [(couV c, couS c)]) : (env9 n 3).call f args s = some [(couV c, couS c)] := h
/-- the law's answer, by its pieces -/
theorem law_eq {N Ep : Value} {sN sH : ByteArray} {Ah Af : List Value} {a g : Int} {T8 : Couts} (hN : GoodN [.agg ⟨Ah⟩, .int .i64 a, .int .i64 g] (.string sN)) (hH : hexF [.agg ⟨Af⟩] = some (.string sH))
    (k0 : isNrm (o0 N Ep) = true) (k1 : isNrm (o1 N Ep) = true) (h19 : (opd (.tmp 19)).get (outA (o1 N Ep)) = .bool false) (hk : ok3 N Ep sN sH = true)
    (c3' : callAt tab D3 1 (outA (m3 N Ep)) = some (.enter 5 [nilW, N])) (cR3 : callAt tab cR1 7 (outA (rP1 nilW N (outS' (m3 N Ep)))) = some (.enter 14 [.agg ⟨Ah⟩, .int .i64 a, .int .i64 g]))
    (c4' : callAt tab D4 1 (outA (m4 N Ep sN)) = some (.enter 6 [nilW, Ep])) (cL4 : callAt tab cL1 2 (outA (lP1 nilW Ep (outS' (m4 N Ep sN)))) = some (.enter 20 [.agg ⟨Af⟩]))
    (c7' : callAt tab D7 2 (outA (m7 N Ep sN sH)) = some (.enter 5 [wW N Ep sN sH, N])) (cR7 : callAt tab cR1 7 (outA (rP1 (wW N Ep sN sH) N (outS' (m7 N Ep sN sH)))) = some (.enter 14 [.agg ⟨Ah⟩, .int .i64 a, .int .i64 g]))
    (c8' : callAt tab D8 2 (outA (m8 N Ep sN sH)) = some (.enter 6 [wW N Ep sN sH, Ep])) (h8 : callN tab over9 998 6 [wW N Ep sN sH, Ep] (outS' (m8 N Ep sN sH)) = some [(couV T8, couS T8)])
    (k8 : isNrm (o8 N Ep sN sH T8) = true) (kt : isTrueL (tl3 N Ep sN sH T8) = true) : isTrueL (callN tab over9 1000 3 [N, Ep] sI) = true := by
  unfold ok3 at hk
  simp only [Bool.and_eq_true] at hk
  obtain ⟨q3, r3, p3, q4, r4, p4, p5, p6, q7, r7, p7, q8⟩ := hk
  have hone : isOne (tl3 N Ep sN sH T8) = true := by
    unfold isTrueL at kt
    split at kt
    · rename_i e; rw [e]; rfl
    · cases kt
  have e5 := reads_eq hN r3 cR3
  have e6 := learns_eq hH r4 cL4
  have e7 := reads_eq hN r7 cR7
  have key : callN tab over9 1000 3 [N, Ep] sI = some [(couV (tl3 N Ep sN sH T8), couS (tl3 N Ep sN sH T8))] := by
    refine call_body (n := 998) rfl f3_there c3_eq rfl ?_
    have e1 : (den tab (.seq D1 (.cond (.tmp 19) Dy .skip))).run E3 (outA (o0 N Ep)) (outS' (o0 N Ep)) = some [.nrm (outA (o1 N Ep)) (outS' (o1 N Ep))] := by
      refine (seq_to (o := o1 N Ep) rfl k1).trans ?_
      rw [cond_run h19]
      rfl
    have e3 : (den tab D3).run E3 (outA (o1 N Ep)) (outS' (o1 N Ep)) = o3 N Ep sN := by
      rw [reg_from D3_reg, from_call D3_ok q3 c3' (one_T e5)]
      unfold o3 T3
      rfl
    have e4 : (den tab D4).run E3 (outA (o3 N Ep sN)) (outS' (o3 N Ep sN)) = o4 N Ep sN sH := by
      rw [reg_from D4_reg, from_call D4_ok q4 c4' (one_T e6)]
      unfold o4 T4
      rfl
    have e7' : (den tab D7).run E3 (outA (o6 N Ep sN sH)) (outS' (o6 N Ep sN sH)) = o7 N Ep sN sH := by
      rw [reg_from D7_reg, from_call D7_ok q7 c7' (one_T e7)]
      unfold o7 T7 m7
      rfl
    have e8' : (den tab D8).run E3 (outA (o7 N Ep sN sH)) (outS' (o7 N Ep sN sH)) = o8 N Ep sN sH T8 := by
      rw [reg_from D8_reg, from_call D8_ok q8 c8' (one_T h8)]
      unfold o8 m8
      rfl
    have hR : (den tab (.seq D3 (.seq D4 (.seq D5 (.seq D6 (.seq D7 (.seq D8 D9))))))).run E3 (outA (o1 N Ep)) (outS' (o1 N Ep)) = (den tab D9).run E3 (outA (o8 N Ep sN sH T8)) (outS' (o8 N Ep sN sH T8)) :=
      (seq_to e3 p3).trans ((seq_to e4 p4).trans ((seq_to (o := o5 N Ep sN sH) rfl p5).trans ((seq_to (o := o6 N Ep sN sH) rfl p6).trans ((seq_to e7' p7).trans (seq_to e8' k8)))))
    rw [← R3_eq] at hR
    have hA : (den tab (.seq D0 (.seq (.seq D1 (.cond (.tmp 19) Dy .skip)) R3))).run E3 (a9 [N, Ep]) sI = (den tab D9).run E3 (outA (o8 N Ep sN sH T8)) (outS' (o8 N Ep sN sH T8)) :=
      (seq_to (o := o0 N Ep) rfl k0).trans ((seq_run e1).trans hR)
    exact (congrArg (back9 998 Tryz.f3) hA).trans (one_of hone)
  rw [key, ← one_of hone]
  exact kt
end Go.Ac
end
section
open Go.Proofs Go.Proofs.Wk Go.Lib Go.RowKit
namespace Go.Ac
noncomputable def noteV (h : Nat → Nat) (d a g : Int) (t : ByteArray) : Value := .agg ⟨(upTo 32 []).map (fun i => i8 (h i)) ++ [.int .i64 d, .int .i64 a, .int .i64 g, .string t]⟩
noncomputable def hV (h : Nat → Nat) : List Value := (upTo 32 []).map (fun i => i8 (h i))
noncomputable def ep (f : Nat → Nat) : Value := .agg ⟨hV f⟩
noncomputable def xI (h : Nat → Nat) : Nat → Int := fun i => if i < 32 then (h i : Int) else 0
noncomputable def nmN (h : Nat → Nat) (a g : Int) : ByteArray := ⟨(nameL (xI h) a g).toArray⟩
noncomputable def hxX (f : Nat → Nat) : ByteArray := ⟨(Hx.encode (bys (xI f) 32)).toArray⟩
end Go.Ac
end
section
open Go.Proofs Go.Proofs.Wk Go.Lib Go.RowKit
namespace Go.Ac
theorem qA (h f : Nat → Nat) (d a g : Int) (t : ByteArray) : (isNrm (o0 (noteV h d a g t) (ep f)), isNrm (o1 (noteV h d a g t) (ep f)), (opd (.tmp 19)).get (outA (o1 (noteV h d a g t) (ep f)))) = (true, true, .bool (Nat.ble 3001 (lenB t.data.toList))) := by kernel_rfl
theorem qB (h f : Nat → Nat) (d a g : Int) (t : ByteArray) :
   (callAt tab D3 1 (outA (m3 (noteV h d a g t) (ep f))), callAt tab cR1 7 (outA (rP1 nilW (noteV h d a g t) (outS' (m3 (noteV h d a g t) (ep f))))),
    callAt tab D4 1 (outA (m4 (noteV h d a g t) (ep f) (nmN h a g))), callAt tab cL1 2 (outA (lP1 nilW (ep f) (outS' (m4 (noteV h d a g t) (ep f) (nmN h a g))))))
    = (some (.enter 5 [nilW, noteV h d a g t]), some (.enter 14 [.agg ⟨hV h⟩, .int .i64 a, .int .i64 g]), some (.enter 6 [nilW, ep f]), some (.enter 20 [.agg ⟨hV f⟩])) := by kernel_rfl
end Go.Ac
end
