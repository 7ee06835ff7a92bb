/-
  Part Answer of the proof: a deterministic evaluator of the machine, its soundness, and what it gives for this seat.
-/
import Derived.Test.YtcncbfgplikphaaGreatNames
import Derived.Test.YtcncbfgplikphaaGreatPieceA
import Derived.Test.YtcncbfgplikphaaGreatPieceC
import Derived.Test.YtcncbfgplikphaaGreatPieceD
import Derived.Test.YtcncbfgplikphaaGreatRows
import Derived.WalkKit
import Derived.ProofKit
import Derived.OpenShut
import Derived.JoinedCond
import Derived.Carry
section
open Go.Proofs Go.Proofs.Wk Go.Lib Go.RowKit
namespace Go.Ac
/-! ### the answer, for every note and every epoch -/
theorem hV_nth (h : Nat → Nat) (k : Nat) (hk : k < 32) : (hV h)[k]? = some (.int .u8 (h k : Int)) := by
  unfold hV
  rw [upTo_eq, List.append_nil, List.getElem?_map, List.getElem?_range hk]
  rfl
theorem hV_len (h : Nat → Nat) : (hV h).length = 32 := by
  unfold hV
  rw [upTo_eq]
  simp
theorem goodH_hV {h : Nat → Nat} (hh : ∀ i, i < 32 → h i < 256) : GoodH ⟨hV h⟩ (xI h) := by
  refine ⟨hV_len h, fun k hk => ?_, fun k => ?_⟩
  · rw [List.getElem?_toArray, hV_nth h k hk]
    unfold xI
    rw [if_pos hk]
  · unfold xI
    split
    · rename_i hk
      have := hh k hk
      omega
    · omega
theorem goodN_hV {h : Nat → Nat} {a g : Int} (hh : ∀ i, i < 32 → h i < 256) (ha : InI a) (hg : InI g) : GoodN [.agg ⟨hV h⟩, .int .i64 a, .int .i64 g] (.string (nmN h a g)) :=
  ⟨_, xI h, a, g, rfl, goodH_hV hh, ha, hg, rfl⟩
theorem getN_hV (h : Nat → Nat) : getN .u8 32 (hV h) = some ((upTo 32 []).map h, []) := by kernel_rfl
theorem hexF_hV {h : Nat → Nat} (hh : ∀ i, i < 32 → h i < 256) : hexF [.agg ⟨hV h⟩] = some (.string (hxX h)) := by
  unfold hexF
  simp only [getN_hV]
  have hl : allLt ((upTo 32 []).map h) = true := allLt_mk fun x hx => by
    obtain ⟨i, hi, rfl⟩ := List.mem_map.1 hx
    rw [upTo_eq, List.append_nil] at hi
    exact hh i (List.mem_range.1 hi)
  rw [hl]
  show some (hexNs _) = _
  unfold hexNs hxX
  have e : ((upTo 32 []).map h).map UInt8.ofNat = bys (xI h) 32 := by
    unfold bys
    rw [upTo_eq, List.append_nil, List.map_map]
    apply List.map_congr_left
    intro i hi
    have hi := List.mem_range.1 hi
    unfold xI
    rw [if_pos hi]
    simp
  rw [e]

/-! hexadecimal digits tell bytes apart -/
theorem digit_inj' : ∀ n m : _root_.Fin 16, Hx.digit n.val = Hx.digit m.val → n = m := by decide +kernel
theorem digit_inj {n m : Nat} (hn : n < 16) (hm : m < 16) (h : Hx.digit n = Hx.digit m) : n = m := by
  have := digit_inj' ⟨n, hn⟩ ⟨m, hm⟩ h
  exact congrArg _root_.Fin.val this
theorem encode_inj : ∀ {l m : List UInt8}, Hx.encode l = Hx.encode m → l = m
  | [], [], _ => rfl
  | [], b :: m, h => by rw [Hx.encode_cons] at h; cases h
  | a :: l, [], h => by rw [Hx.encode_cons] at h; cases h
  | a :: l, b :: m, h => by
    rw [Hx.encode_cons, Hx.encode_cons] at h
    simp only [List.cons.injEq] at h
    obtain ⟨h1, h2, h3⟩ := h
    have ha := a.toNat_lt
    have hb := b.toNat_lt
    have e1 := digit_inj (by omega) (by omega) h1
    have e2 := digit_inj (by omega) (by omega) h2
    have : a = b := UInt8.toNat_inj.1 (by omega)
    rw [this, encode_inj h3]
theorem gid_lt (i : Nat) : gid i < 256 := Nat.mod_lt _ (by decide)
theorem gid_same : gid' = gid := rfl
theorem key_ne {f : Nat → Nat} (hf : ∀ i, i < 32 → f i < 256) (hne : ¬ ∀ i, i < 32 → f i = gid i) : (keyStr f).data.toList ≠ (keyStr gid').data.toList := by
  intro h
  apply hne
  rw [gid_same] at h
  have h : appB [101, 112, 111, 99, 104, 32] (Hx.encode (bys (xI f) 32)) = appB [101, 112, 111, 99, 104, 32] (Hx.encode (bys (xI gid) 32)) := h
  rw [appB_eq, appB_eq] at h
  have h := encode_inj (List.append_cancel_left h)
  intro i hi
  have e : (bys (xI f) 32)[i]? = (bys (xI gid) 32)[i]? := by rw [h]
  unfold bys at e
  rw [List.getElem?_map, List.getElem?_map, List.getElem?_range hi] at e
  simp only [Option.map_some, Option.some.injEq] at e
  unfold xI at e
  rw [if_pos hi, if_pos hi] at e
  have e2 := congrArg UInt8.toNat e
  rw [UInt8.toNat_ofNat', UInt8.toNat_ofNat'] at e2
  have := hf i hi
  have := gid_lt i
  simp only [Int.toNat_natCast] at e2
  omega
theorem ep_gid {f : Nat → Nat} (h : ∀ i, i < 32 → f i = gid i) : ep f = ep gid ∧ hxX f = hxX gid := by
  constructor
  · unfold ep hV
    congr 2
    apply List.map_congr_left
    intro i hi
    rw [upTo_eq, List.append_nil] at hi
    rw [h i (List.mem_range.1 hi)]
  · have e : bys (xI f) 32 = bys (xI gid) 32 := by
      unfold bys
      apply List.map_congr_left
      intro i hi
      have hi := List.mem_range.1 hi
      unfold xI
      rw [if_pos hi, if_pos hi, h i hi]
    unfold hxX
    rw [e]

/-! where the text is long -/
noncomputable def longT (N Ep : Value) : Couts := back9 998 Tryz.f3 (bindO ((den tab Dy).run E3 (outA (o1 N Ep)) (outS' (o1 N Ep))) (kSeq (den tab R3) E3))
theorem qL (h f : Nat → Nat) (d a g : Int) (t : ByteArray) : isTrueL (longT (noteV h d a g t) (ep f)) = true := by kernel_rfl
theorem long_eq {N Ep : Value} (k0 : isNrm (o0 N Ep) = true) (k1 : isNrm (o1 N Ep) = true) (h19 : (opd (.tmp 19)).get (outA (o1 N Ep)) = .bool true) (hl : isTrueL (longT N Ep) = true) : isTrueL (callN tab over9 1000 3 [N, Ep] sI) = true := by
  have hone : isOne (longT N Ep) = true := by
    unfold isTrueL at hl
    split at hl
    · rename_i e; rw [e]; rfl
    · cases hl
  have key : callN tab over9 1000 3 [N, Ep] sI = some [(couV (longT N Ep), couS (longT N Ep))] := by
    refine call_body (n := 998) rfl f3_there c3_eq rfl ?_
    have e1 : (den tab (.seq D1 (.cond (.tmp 19) Dy .skip))).run E3 (outA (o0 N Ep)) (outS' (o0 N Ep)) = (den tab Dy).run E3 (outA (o1 N Ep)) (outS' (o1 N Ep)) := by
      refine (seq_to (o := o1 N Ep) rfl k1).trans ?_
      rw [cond_run h19]
      rfl
    have e2 : (den tab (.seq (.seq D1 (.cond (.tmp 19) Dy .skip)) R3)).run E3 (outA (o0 N Ep)) (outS' (o0 N Ep)) = bindO ((den tab Dy).run E3 (outA (o1 N Ep)) (outS' (o1 N Ep))) (kSeq (den tab R3) E3) := by
      show bindO ((den tab (.seq D1 (.cond (.tmp 19) Dy .skip))).run E3 (outA (o0 N Ep)) (outS' (o0 N Ep))) (kSeq (den tab R3) E3) = _
      rw [e1]
    have hA : (den tab (.seq D0 (.seq (.seq D1 (.cond (.tmp 19) Dy .skip)) R3))).run E3 (a9 [N, Ep]) sI = bindO ((den tab Dy).run E3 (outA (o1 N Ep)) (outS' (o1 N Ep))) (kSeq (den tab R3) E3) := (seq_to (o := o0 N Ep) rfl k0).trans e2
    exact (congrArg (back9 998 Tryz.f3) hA).trans (one_of hone)
  rw [key, ← one_of hone]
  exact hl

theorem answer {h f : Nat → Nat} (hh : ∀ i, i < 32 → h i < 256) (hf : ∀ i, i < 32 → f i < 256) {d a g : Int} (ha : InI a) (hg : InI g) (t : ByteArray) : isTrueL (callN tab over9 1000 3 [noteV h d a g t, ep f] sI) = true := by
  have q := qA h f d a g t
  simp only [Prod.mk.injEq] at q
  obtain ⟨k0, k1, h19⟩ := q
  cases hb : Nat.ble 3001 (lenB t.data.toList) with
  | true =>
    rw [hb] at h19
    exact long_eq k0 k1 h19 (qL h f d a g t)
  | false =>
    rw [hb] at h19
    have qb := qB h f d a g t
    simp only [Prod.mk.injEq] at qb
    obtain ⟨b1, b2, b3, b4⟩ := qb
    have qd := qD h f d a g t
    simp only [Prod.mk.injEq] at qd
    obtain ⟨d1, d2, d3, d4⟩ := qd
    by_cases he : ∀ i, i < 32 → f i = gid i
    · obtain ⟨e1, e2⟩ := ep_gid he
      have qe := qE h d a g t
      unfold okE at qe
      simp only [Bool.and_eq_true] at qe
      obtain ⟨r1, r2, r3⟩ := qe
      have d1 := (qD h gid d a g t)
      simp only [Prod.mk.injEq] at d1
      obtain ⟨d1, d2, d3, d4⟩ := d1
      have qb := qB h gid d a g t
      simp only [Prod.mk.injEq] at qb
      obtain ⟨b1, b2, b3, b4⟩ := qb
      have qa := qA h gid d a g t
      simp only [Prod.mk.injEq] at qa
      obtain ⟨k0, k1, h19⟩ := qa
      rw [hb] at h19
      have hgd := fun i (_ : i < 32) => gid_lt i
      rw [e1]
      exact law_eq (T8 := T8e h gid d a g t) (goodN_hV hh ha hg) (hexF_hV hgd) k0 k1 h19 (qC h gid d a g t) b1 b2 b3 b4 d1 d2 d3 (learns_eq (hexF_hV hgd) r1 d4) r2 r3
    · have qn := qN h f d a g t
      unfold okN at qn
      simp only [Bool.and_eq_true] at qn
      obtain ⟨r1, r2, r3⟩ := qn
      have qm := qM h f d a g t
      simp only [Prod.mk.injEq] at qm
      obtain ⟨m1, m2, m3⟩ := qm
      unfold sQ1 at m2 m3
      have h8 : callN tab over9 998 6 [wX h f d a g t, ep f] (sQ h f d a g t) = some [(couV (T8n h f d a g t), couS (T8n h f d a g t))] := by
        refine learns_no (wv := wX h f d a g t) (bp := bQ h f d a g t) (Ep := ep f) (K := kQ f) (sH := hxX f) (s := sQ h f d a g t) (A := hV f) (key := (keyStr gid').data.toList) (str := keyStr f) (hexF_hV hf) r1 ?d4 ?m1 ?m2 ?m3 (key_ne hf he)
        case d4 => exact d4
        case m1 => exact m1
        case m2 => exact m2
        case m3 => exact m3
      exact law_eq (N := noteV h d a g t) (Ep := ep f) (sN := nmN h a g) (sH := hxX f) (T8 := T8n h f d a g t) (goodN_hV hh ha hg) (hexF_hV hf) k0 k1 h19 (qC h f d a g t) b1 b2 b3 b4 d1 d2 d3 h8 r2 r3
end Go.Ac
end
section
open Go.Proofs Go.Proofs.Wk Go.Lib Go.RowKit
namespace Go.Ac
/-- the law's call -/
theorem law_calls {h f : Nat → Nat} (hh : ∀ i, i < 32 → h i < 256) (hf : ∀ i, i < 32 → f i < 256) {d a g : Int} (ha : InI a) (hg : InI g) (t : ByteArray) (W : World) :
    Calls Tryz.prog 3 #[noteV h d a g t, ep f] W fun e W' => e = .returned (.bool true) ∧ Kept W W' := by
  have h1 := goodH_ok (goodH_hV hf)
  have hv : ∀ {h : Nat → Nat}, vOkL (hV h) = true := fun {h} => by
    unfold hV
    exact vOkL_map (fun _ => rfl) _
  have h2 : vOk (noteV h d a g t) = true := by
    have e : ∀ l : List Value, l = [.int .i64 d, .int .i64 a, .int .i64 g, .string t] → vOkL l = true ∧ l.all Value.oneCell = true := fun l hl => by subst hl; exact ⟨rfl, rfl⟩
    obtain ⟨l, hl⟩ : ∃ l : List Value, l = [.int .i64 d, .int .i64 a, .int .i64 g, .string t] := ⟨_, rfl⟩
    obtain ⟨e1, e2⟩ := e l hl
    unfold noteV
    show (vOkL (hV h ++ [Value.int .i64 d, .int .i64 a, .int .i64 g, .string t]) && List.all (hV h ++ [Value.int .i64 d, .int .i64 a, .int .i64 g, .string t]) Value.oneCell) = true
    rw [← hl]
    rw [Bool.and_eq_true, List.all_append, Bool.and_eq_true]
    refine ⟨vOkL_append hv e1, ?_, e2⟩
    rw [List.all_eq_true]
    intro v hx
    unfold hV at hx
    obtain ⟨i, _, rfl⟩ := List.mem_map.1 hx
    rfl
  exact run_true_args (call := callN tab over9 1000) (fun W => runs W (over9_ok W) 1000) (f := 3) (n := 100) (args := [noteV h d a g t, ep f])
    (by simp only [vOkL, Bool.and_eq_true]; exact ⟨h2, h1, trivial⟩) (answer hh hf ha hg t) W
end Go.Ac
namespace Go.Proofs.YtcncbfgplikphaaGreat
open Go.ChangeShapes Go.WideShapes Go.ChangeAt Go.Ac
theorem own : ownKnob Tryz.prog.godebug = none := by kernel_rfl
theorem laidOut : laidOutB Tryz.prog = true := by kernel_rfl

/-! ### what comes in -/
section
variable {P : Program} {w : World} {base : Nat} {v : Value} {t : TypeId}
theorem cell_u8 (hu : P.underlying t = some (.int .u8)) (h : Cell.okWide P w .any base t v) : ∃ n : Nat, n < 256 ∧ v = .int .u8 (n : Int) := by
  unfold Cell.okWide Cell.ok at h
  rw [hu] at h
  cases v with
  | int k n =>
    obtain ⟨rfl, h1, h2⟩ := h
    refine ⟨n.toNat, ?_, ?_⟩
    · have h1 : 0 ≤ n := h1
      have h2 : n ≤ 255 := h2
      omega
    · have h1 : 0 ≤ n := h1
      rw [Int.toNat_of_nonneg h1]
  | _ => exact absurd h (by simp)
theorem cell_i64 (hu : P.underlying t = some (.int .i64)) (h : Cell.okWide P w .any base t v) : ∃ n : Int, InI n ∧ v = .int .i64 n := by
  unfold Cell.okWide Cell.ok at h
  rw [hu] at h
  cases v with
  | int k n =>
    obtain ⟨rfl, h1, h2⟩ := h
    exact ⟨n, ⟨h1, h2⟩, rfl⟩
  | _ => exact absurd h (by simp)
theorem cell_str (hu : P.underlying t = some .string) (h : Cell.okWide P w .any base t v) : ∃ t : ByteArray, v = .string t := by
  unfold Cell.okWide Cell.ok at h
  rw [hu] at h
  cases v with
  | string t => exact ⟨t, rfl⟩
  | _ => exact absurd h (by simp)
def aggT : Option TypeDesc → Bool
  | some (.struct _) => true
  | some (.array _ _) => true
  | _ => false
theorem okWide_agg {ts : List TypeId} {n : Nat} (hu : aggT (P.underlying t) = true) (hc : P.cellTypes P.depth t = some ts) (hn : P.cellsOf t = n) (hl : ts.length = n) (h : Value.okWide P w .any base t v) :
    ∃ cs : Array Value, v = .agg cs ∧ cs.size = n ∧ ∀ (i : Nat) (u : TypeId), i < n → ts[i]? = some u → ∃ x, cs[i]? = some x ∧ Cell.okWide P w .any base u x := by
  unfold Value.okWide at h
  have key : ∃ cs, v = .agg cs ∧ cs.size = P.cellsOf t ∧ Row.okWide P w .any base t cs := by
    split at h
    · exact h
    · exact h
    · rename_i h1 h2
      exfalso
      cases e : P.underlying t with
      | none => rw [e] at hu; cases hu
      | some d =>
        cases d with
        | struct fs => exact h1 _ e
        | array n u => exact h2 _ _ e
        | _ => rw [e] at hu; cases hu
  obtain ⟨cs, rfl, hs, ts', ht, _, hr⟩ := key
  rw [hn] at hs
  rw [hc] at ht
  cases ht
  refine ⟨cs, rfl, hs, fun i u hi hu => ?_⟩
  have hi' : i < cs.size := by omega
  obtain ⟨u', hu', hc⟩ := hr i cs[i] (Array.getElem?_eq_getElem hi')
  rw [hl, Nat.mod_eq_of_lt hi, hu] at hu'
  cases hu'
  exact ⟨_, Array.getElem?_eq_getElem hi', hc⟩
end
theorem agg25 : aggT (Tryz.prog.underlying 25) = true := by kernel_rfl
theorem agg23 : aggT (Tryz.prog.underlying 23) = true := by kernel_rfl
theorem cells25 : Tryz.prog.cellTypes Tryz.prog.depth 25 = some (List.replicate 32 5 ++ [3, 3, 3, 9]) := by kernel_rfl
theorem cells23 : Tryz.prog.cellTypes Tryz.prog.depth 23 = some (List.replicate 32 5) := by kernel_rfl
theorem of25 : Tryz.prog.cellsOf 25 = 36 := by kernel_rfl
theorem of23 : Tryz.prog.cellsOf 23 = 32 := by kernel_rfl
theorem hash_part {cs : Array Value} (H : ∀ i, i < 32 → ∃ n : Nat, n < 256 ∧ cs[i]? = some (.int .u8 (n : Int))) : ∃ f : Nat → Nat, (∀ i, i < 32 → f i < 256) ∧ ∀ i, i < 32 → cs[i]? = (hV f)[i]? := by
  refine ⟨fun i => match cs[i]? with
    | some (.int _ n) => n.toNat
    | _ => 0, fun i hi => ?_, fun i hi => ?_⟩
  · obtain ⟨n, hn, e⟩ := H i hi
    simp only [e]
    simpa using hn
  · obtain ⟨n, hn, e⟩ := H i hi
    rw [hV_nth _ i hi]
    simp only [e]
    simp
set_option maxRecDepth 100000 in
theorem in23 {w : World} {base : Nat} {v : Value} (h : Value.okWide Tryz.prog w .any base 23 v) : ∃ f : Nat → Nat, (∀ i, i < 32 → f i < 256) ∧ v = ep f := by
  obtain ⟨cs, rfl, hs, at_⟩ := okWide_agg agg23 cells23 of23 (by simp) h
  obtain ⟨f, hf, he⟩ := hash_part (cs := cs) fun i hi => by
    obtain ⟨x, e, hc⟩ := at_ i 5 hi (by rw [List.getElem?_replicate, if_pos hi])
    obtain ⟨n, hn, rfl⟩ := cell_u8 Tryz.underlying5 hc
    exact ⟨n, hn, e⟩
  refine ⟨f, hf, ?_⟩
  unfold ep
  congr 1
  apply Array.ext'
  apply List.ext_getElem?
  intro i
  show cs.toList[i]? = (hV f)[i]?
  by_cases hi : i < 32
  · rw [Array.getElem?_toList]
    exact he i hi
  · rw [List.getElem?_eq_none (by simp; omega), List.getElem?_eq_none (by rw [hV_len]; omega)]
set_option maxRecDepth 100000 in
theorem in25 {w : World} {base : Nat} {v : Value} (h : Value.okWide Tryz.prog w .any base 25 v) : ∃ (f : Nat → Nat) (d a g : Int) (t : ByteArray), (∀ i, i < 32 → f i < 256) ∧ InI d ∧ InI a ∧ InI g ∧ v = noteV f d a g t := by
  obtain ⟨cs, rfl, hs, at_⟩ := okWide_agg agg25 cells25 of25 (by simp) h
  obtain ⟨f, hf, he⟩ := hash_part (cs := cs) fun i hi => by
    obtain ⟨x, e, hc⟩ := at_ i 5 (by omega) (by rw [List.getElem?_append_left (by simpa using hi), List.getElem?_replicate, if_pos hi])
    obtain ⟨n, hn, rfl⟩ := cell_u8 Tryz.underlying5 hc
    exact ⟨n, hn, e⟩
  obtain ⟨x32, e32, c32⟩ := at_ 32 3 (by decide) rfl
  obtain ⟨x33, e33, c33⟩ := at_ 33 3 (by decide) rfl
  obtain ⟨x34, e34, c34⟩ := at_ 34 3 (by decide) rfl
  obtain ⟨x35, e35, c35⟩ := at_ 35 9 (by decide) rfl
  obtain ⟨d, hd, rfl⟩ := cell_i64 Tryz.underlying3 c32
  obtain ⟨a, ha, rfl⟩ := cell_i64 Tryz.underlying3 c33
  obtain ⟨g, hg, rfl⟩ := cell_i64 Tryz.underlying3 c34
  obtain ⟨t, rfl⟩ := cell_str Tryz.underlying9 c35
  refine ⟨f, d, a, g, t, hf, hd, ha, hg, ?_⟩
  unfold noteV
  congr 1
  apply Array.ext'
  apply List.ext_getElem?
  intro i
  show cs.toList[i]? = (hV f ++ [.int .i64 d, .int .i64 a, .int .i64 g, .string t])[i]?
  rw [Array.getElem?_toList]
  by_cases hi : i < 32
  · rw [List.getElem?_append_left (by rw [hV_len]; exact hi)]
    exact he i hi
  · rw [List.getElem?_append_right (by rw [hV_len]; omega), hV_len]
    match i, hi with
    | 32, _ => exact e32
    | 33, _ => exact e33
    | 34, _ => exact e34
    | 35, _ => exact e35
    | n + 36, _ =>
      rw [Array.getElem?_eq_none (by omega), List.getElem?_eq_none (by simp)]

section
variable {H : Type} {enc : TypeId × Value → H} {P : Program}
theorem post_of_below {f : Func} {s : ChangeSpec} {apart fresh handsOn again : Bool} {W W' : World} {args : Array Value} {v : Value} {ds gs : List (DataW H)} {before pa pv : List MemPlace}
    (hW : DataW.Whole enc P f.params.toList s.vars apart W args.toList ds gs before)
    (hres : ∀ (b : Nat) (sp : Nat → Bool) (hd : Bool), DataW.TrodAll enc P W' b sp hd f.resultTypes.toList (v.resultList f.resultTypes.size) (s.fn H (ds ++ gs)).results [])
    (hargs : ∀ sp : Nat → Bool, (∀ p ∈ before, sp p.block = true) → DataW.TrodAll enc P W' 0 sp true f.params.toList args.toList (s.fn H (ds ++ gs)).args pa)
    (hvars : ∀ sp : Nat → Bool, (∀ p ∈ before, sp p.block = true) → DataW.TrodVars enc P W' sp s.vars (s.fn H (ds ++ gs)).vars pv)
    (hps : before = pa ++ pv) (hb : Below W.heap.size W W')
    (hok : ∀ (j : Nat) (t : TypeId) (r : Value), f.resultTypes[j]? = some t → (v.resultList f.resultTypes.size)[j]? = some r → Value.okWide P W' .any 0 t r) :
    s.post enc P f apart fresh handsOn again W args v W' := by
  have hlt : ∀ p ∈ before, p.block < W.heap.size := fun p hp => hW.lt p hp
  have hold : ∀ p ∈ before, (fun b => decide (b < W.heap.size)) p.block = true := fun p hp => by simpa using hlt p hp
  refine ⟨ds, gs, before, [], pa, pv, hW, hres _ _ _, hargs _ hold, hvars _ hold, World.keptBut_mono (fun p hp => ⟨hp, ?_⟩) (hb.frame (· ∈ before)), fun _ => ?_⟩
  · rw [hps, List.mem_append] at hp
    exact Or.inr hp
  · obtain ⟨_, _, _, _, _, hz, hn⟩ := hW
    refine ⟨hok, _, _, ([] ++ pa) ++ pv, ⟨[] ++ pa, pv, trodAll_append (hargs _ (fun _ _ => rfl)) (hres _ _ _), hvars _ (fun _ _ => rfl), rfl, ?_, ?_⟩, ?_⟩
    · intro b off hp
      have hin : MemPlace.cell b off ∈ before := by rw [hps]; simpa using hp
      rw [hb.frozen (hlt _ hin)]
      exact hz b off hin
    · intro ha
      have := hn ha
      rw [hps] at this
      simpa using this
    · intro p hp _
      rw [hps]
      simpa using hp
end

set_option maxRecDepth 100000 in
theorem contract (H : Type) (enc : TypeId × Value → H) (W : World) (base : Nat) (args : Array Value) (ds gs : List (DataW H)) (before : List MemPlace)
    (hval : ∀ (j : Nat) t v, Tryz.f3.params[j]? = some t → args[j]? = some v → Value.okWide Tryz.prog W .any base t v)
    (hW : DataW.Whole enc Tryz.prog Tryz.f3.params.toList Rows.spyNilSpec.vars false W args.toList ds gs before) :
    Calls Tryz.prog 3 args W fun e W' => ∃ v, e = .returned v ∧ Rows.spyNilSpec.post enc Tryz.prog Tryz.f3 false true false false W args v W' := by
  have hW' := hW
  obtain ⟨p, q, hA0, hV, rfl, hfz, hnd⟩ := hW
  have hA : DataW.TrodAll enc Tryz.prog W 0 (fun _ => true) true Tryz.f3.params.toList args.toList ds p := hA0
  rw [Tryz.params3] at hA hval
  obtain ⟨v0, vs0, d0, ds0, p0, q0, hargs, rfl, rfl, h0, r0⟩ := trodAll_cons hA
  obtain ⟨v1, vs1, d1, ds1, p1, q1, hargs1, rfl, rfl, h1, r1⟩ := trodAll_cons r0
  obtain ⟨rfl, rfl, rfl⟩ := trodAll_nil r1
  subst hargs1
  obtain rfl : args = #[v0, v1] := by cases args; simp_all
  obtain ⟨rfl, rfl⟩ := trodVars_none hV
  obtain ⟨h, d, a, g, t, hh, hd, ha, hg, rfl⟩ := in25 (hval 0 25 v0 rfl rfl)
  obtain ⟨f, hf, rfl⟩ := in23 (hval 1 23 v1 rfl rfl)
  clear hA0
  simp only [List.append_nil] at hW'
  refine (law_calls hh hf ha hg t W).mono fun e W' ⟨he, hk⟩ => ?_
  subst he
  have hb := hk.below
  have hlt := fun x hx => hW'.lt x hx
  refine ⟨_, rfl, post_of_below (pa := p0 ++ p1) (pv := []) hW' (fun _ _ _ => (trodAll_cons_mk (shut_bool Tryz.underlying4 _) trodAll_mk0)) (fun sp hsp => ?_) (fun _ _ => rfl) (by simp) hb (ok_one (by kernel_rfl) rfl (okWide_bool_mk Tryz.underlying4 _))⟩
  have e0 := WideElems.Trod_stays (sp' := sp) laidOut (by kernel_rfl) (of_decide_eq_true (by kernel_rfl)) h0 (fun x hx => hb.same (hlt x (List.mem_append_left _ hx))) (fun x hx => hsp x (List.mem_append_left _ hx))
  have e1 := WideElems.Trod_stays (sp' := sp) laidOut (by kernel_rfl) (of_decide_eq_true (by kernel_rfl)) h1 (fun x hx => hb.same (hlt x (List.mem_append_right _ hx))) (fun x hx => hsp x (List.mem_append_right _ hx))
  have e2 := trodAll_cons_mk e0 (trodAll_cons_mk e1 trodAll_mk0)
  rw [List.append_nil] at e2
  exact e2
end Go.Proofs.YtcncbfgplikphaaGreat
end
section
open Go.Proofs Go.Proofs.Wk Go.Lib Go.RowKit
namespace Go.Proofs.YtcncbfgplikphaaGreat
open Go.ChangeShapes Go.WideShapes Go.ChangeAt Go.Ac
def z8 : Value := .int .u8 0
set_option maxRecDepth 100000 in
theorem lifted (os : Os) (started : os.Started) (H : Type) (enc : TypeId × Value → H) :
    ReturnsInHanded {} Tryz.checked os 3 .any (Rows.spyNilSpec.pre6 enc Tryz.prog Tryz.f3 Rows.spyNilRow.domain false) (Rows.spyNilSpec.post enc Tryz.prog Tryz.f3 false true false false) := by
  refine returnsInHanded_of_change (C := Tryz.checked) own started (by kernel_rfl) Tryz.func3
    (ChangeSpec.witness6 (enc := enc) (C := Tryz.checked) false ⟨#[], #[.agg (Array.replicate 32 z8 ++ #[.int .i64 0, .int .i64 0, .int .i64 0, .string ⟨#[]⟩]), .agg (Array.replicate 32 z8)], []⟩ 8 (by kernel_rfl) (by kernel_rfl) (by kernel_rfl) (by kernel_rfl)) ?_
  intro W base args ds gs before hval0 hW _ _
  exact contract H enc W base args ds gs before hval0 hW
end Go.Proofs.YtcncbfgplikphaaGreat
end
