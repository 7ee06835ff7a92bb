/-
  Part Words of the proof: a deterministic evaluator of the machine, its soundness, and what it gives for this seat.
-/
import Derived.WalkKit
import Derived.Maps.AppendAt
import Derived.Lib.HexFns
import Derived.Deep.RegionLaw
import Derived.Test.YtcncbfgplikphaaGreatProg
import Derived.ChangeKeysEq
import Derived.KernelRfl
import Derived.Shelf.SlicesE.Kit
import Derived.Shelf.RegionOpenPlain
import Derived.Deep.LoopGhost
import Derived.Lib.Walk
import Derived.Sort.WalkB12
import Derived.Lib.SlicesMore
import Derived.Lib.OwnBridge
import Derived.Shelf.Strings.Builder1
import Derived.Shelf.Strings.Builder2
import Derived.Shelf.Strings.OnBuilder
import Derived.Shelf.Strings.Builder2Cap
section
open Go.RowKit
namespace Go
/-- append to a row of the call's own, as one step of a region that draws. -/
theorem step_append_own {P : Program} {ops : Array Oper} {o : Oper} {a : Act} {w : World} {K : Act → World → Prop} {Q : Exit → Act → World → Prop} {E : Prop}
    (hg : o.guard = none) (s x : Operand) (t : TypeId) (hop : o.op = Op.call { callee := Callee.builtin Builtin.append, args := #[s, x], argTypes := #[t, t] })
    (base : Nat) (e : TypeId) (i : TypeInfo) (z : Value) (size bytes : Nat) (ht : P.underlying t = some (.slice e)) (hi : P.info? e = some i) (hz : i.zero = some z)
    (hsize : i.size = size) (hby : i.bytes = bytes) (hzs : z.cells.size = size) (hsz : 0 < size)
    (v : Value) (n : Nat) (xs : List Value) (hs : a.eval s = v) (hown : w.ownsRow base e size v n xs)
    (ad : Addr) (m c : Nat) (news : List Value) (hx : a.eval x = .slice (some ad) m c) (hl : news.length = m * size) (hnews : ∀ j u, news[j]? = some u → w.cell? (ad.add j) = some u) (h1 : ∀ u ∈ news, u.oneCell' = true)
    (h63 : n + m ≤ maxLen) (hbytes : (n + m) * bytes ≤ 140737488355328) (hbase : base ≤ w.heap.size)
    (hK : ∀ v' w', w'.ownsRow base e size v' (n + m) (xs ++ news) → w.grownBy w' v.ownBlock → (v' = .slice none 0 0 ↔ v = .slice none 0 0 ∧ m = 0) → K (a.put o.dst v') w') :
    if Region.wanted o (yielded ops a.tmps) = true then Oper.wp P o a w K Q else E := by
  have hw : Region.wanted o (yielded ops a.tmps) = true := by simp [Region.wanted, hg]
  rw [if_pos hw]
  exact wp_append_own w s x t hop base e i z size bytes ht hi hz hsize hby hzs hsz v n xs hs hown ad m c news hx hl hnews h1 h63 hbytes hbase hK
theorem cells_new (W : World) (l : List Value) (t : TypeId) (j : Nat) (u : Value) (h : l[j]? = some u) : (W.alloc (.cells l.toArray t)).cell? ((⟨W.heap.size, 0, none⟩ : Addr).add j) = some u := by
  have e : (⟨W.heap.size, 0, none⟩ : Addr).add j = ⟨W.heap.size, j, none⟩ := by unfold Addr.add; split <;> simp_all
  rw [e, World.cell?_alloc_at _ _ _ _ rfl]
  simpa using h
theorem cells_str (W : World) (xs : List ByteArray) (t : TypeId) (j : Nat) (x : ByteArray) (h : xs[j]? = some x) : (W.alloc (.cells (xs.map Value.string).toArray t)).cell? ⟨W.heap.size, 0 + j, none⟩ = some (.string x) := by
  rw [World.cell?_alloc_at _ _ _ _ rfl]
  simp [h]
/-- the string of an owned row of bytes -/
theorem conv_own {P : Program} {w : World} {B e n : Nat} {v : Value} {bs : List UInt8} (src dst : TypeId) (hs : P.underlying src = some (.slice e)) (he : P.underlying e = some (.int .u8)) (hd : P.underlying dst = some .string) (hn : 0 < n)
    (h : w.ownsRow B e 1 v n (bs.map fun b => Value.int .u8 (b.toNat : Int))) : (convert src dst v).run P w = .ok (.string ⟨bs.toArray⟩) w := by
  have hl : bs.length = n := by have := h.1; simpa using this
  rcases h.2 with ⟨_, h0⟩ | ⟨g, cap, cur, rfl, hB, hg, hnc, _, hcs, hc⟩
  · omega
  · have e1 := run_convert_bytes_arg (P := P) w src e hs he g 0 n cap (bs.map fun b => (b.toNat : Int)) (by simpa using hl) (fun i hi => ?_) dst hd
    · rw [e1]
      congr 2
      unfold strOfNums
      congr 1
      rw [List.map_map]
      congr 1
      conv => rhs; rw [← List.map_id bs]
      apply List.map_congr_left
      intro b _
      simp
    · have e2 : cur[i]? = some (Value.int .u8 (((bs.map fun b => (b.toNat : Int)).getD i 0))) := by
        have e3 : (cur.toList.take (n * 1))[i]? = (bs.map fun b => Value.int .u8 (b.toNat : Int))[i]? := by rw [hc]
        rw [List.getElem?_take, if_pos (by omega)] at e3
        have hib : i < bs.length := by omega
        rw [List.getElem?_map, List.getElem?_eq_getElem hib] at e3
        have e4 : cur[i]? = some (Value.int .u8 ((bs[i].toNat : Int))) := by simpa using e3
        rw [e4, List.getD_eq_getElem?_getD, List.getElem?_map, List.getElem?_eq_getElem hib]
        rfl
      rw [Nat.zero_add, cell_of_row w g i cur e (0, 0) hg]
      exact e2
end Go
namespace Go.Proofs.Wk
open Go.Lib
def bys (x : Nat → Int) (k : Nat) : List UInt8 := (List.range k).map fun i => UInt8.ofNat (x i).toNat
def digs (x : Nat → Int) (k : Nat) : List Value := (Hx.encode (bys x k)).map fun b => Value.int .u8 (b.toNat : Int)
theorem bys_len (x : Nat → Int) (k : Nat) : (bys x k).length = k := by simp [bys]
theorem digs_len (x : Nat → Int) (k : Nat) : (digs x k).length = 2 * k := by rw [digs, List.length_map, Hx.encode_length, bys_len]
theorem bys_succ (x : Nat → Int) (k : Nat) : bys x (k + 1) = bys x k ++ [UInt8.ofNat (x k).toNat] := by simp [bys, List.range_succ]
theorem encode_append (l m : List UInt8) : Hx.encode (l ++ m) = Hx.encode l ++ Hx.encode m := by simp [Hx.encode]
theorem digs_succ (x : Nat → Int) (k : Nat) (h0 : 0 ≤ x k) (h1 : x k < 256) (p : (x k / 16).toNat < Hx.tab.size) (q : (x k % 16).toNat < Hx.tab.size) :
    digs x (k + 1) = digs x k ++ [Value.int .u8 ((Hx.tab[(x k / 16).toNat]'p).toNat : Int), Value.int .u8 ((Hx.tab[(x k % 16).toNat]'q).toNat : Int)] := by
  rw [digs, bys_succ, encode_append, List.map_append, Hx.dig_hi _ h0 h1 p, Hx.dig_lo _ h0 h1 q]
  rfl
theorem and15' : ∀ n : Fin 256, bits .and .u8 (n.val : Int) 15 = (n.val : Int) % 16 := by decide +kernel
theorem and15 (y : Int) (h0 : 0 ≤ y) (h1 : y < 256) : bits .and .u8 y 15 = y % 16 := by
  have h := and15' ⟨y.toNat, by omega⟩
  have e : ((y.toNat : Nat) : Int) = y := by omega
  simpa [e] using h
end Go.Proofs.Wk
end
section
open Go.RowKit Go.Lib
namespace Go.Proofs
theorem infoU8 : (Tryz.prog.info? 5).map (fun i => (i.zero, i.size, i.bytes)) = some (some (.int .u8 0), 1, 1) := by kernel_rfl
theorem info23 : (Tryz.prog.info? 23).map (·.size) = some 32 := by kernel_rfl
theorem plain5 : Tryz.prog.plainKey 5 = true := by kernel_rfl
open Wk
theorem idx23 (A : Array Value) (k : Nat) (v : Value) (w : World) (hk : k < 32) (h : A[k]? = some v) : (Instr.index 23 (.agg A) (.int .i64 k)).run Tryz.prog w = .ok v w := by
  have hp : (part 5 A (k * 1)).run Tryz.prog w = .ok v w := run_part_plain _ plain5 (by rw [Nat.mul_one]; exact h)
  unfold Instr.index
  simp only [asIntOf, Sem.run_bind, run_underlying Tryz.underlying23, Sem.run_pure, Result.andThen_ok]
  rw [if_pos ⟨by omega, by omega⟩]
  simp only [Sem.run_bind, Tryz.sizeOf5, Result.andThen_ok]
  exact hp
set_option maxHeartbeats 1000000 in
set_option maxRecDepth 100000 in
theorem hex_any (A : Array Value) (x : Nat → Int) (w : World) (hA : A.size = 32) (hx : ∀ k : Nat, k < 32 → A[k]? = some (.int .u8 (x k))) (hr : ∀ k, 0 ≤ x k ∧ x k < 256) :
    Calls Tryz.prog 20 #[.agg A] w fun e w' => e = .returned (.string ⟨(Hx.encode (bys x 32)).toArray⟩) ∧ Below w.heap.size w w' := by
  obtain ⟨i0, hi, hz0, hz1, hz2⟩ := info_parts infoU8
  have HX : Hid (∀ k : Nat, k < 32 → A[k]? = some (.int .u8 (x k))) := hx
  have HR : Hid (∀ k, 0 ≤ x k ∧ x k < 256) := hr
  have HI : Hid ((Tryz.prog.info? 23).map (·.size) = some A.size) := by rw [hA]; exact info23
  clear hx hr hA
  go_enter Tryz.func20, Tryz.ntmps20
  go_wp2_with (first
    | (refine wpList_load_row rfl 23 _ rfl w.heap.size rfl 23 A (0, 0) _ (heap_alloc_new _ _) Tryz.underlying23 rfl HI.out ?_))
  go_loopw [3, 7] (fun v i wr => ∃ k : Nat, k ≤ 32 ∧ i = .int .i64 k ∧ Hid (wr.ownsRow w.heap.size 5 1 v (2 * k) (digs x k)) ∧ Hid (Below w.heap.size w wr)) (fun _ i _ => 32 - (RowKit.intOf i).toNat)
  case atStart => exact ⟨0, by omega, rfl, World.ownsRow_nil _ _ _ _, (Below.refl _ _).alloc (Nat.le_refl _) _⟩
  case round =>
    obtain ⟨k, hk, rfl, hown, hnx⟩ := hrel
    obtain ⟨y, hy⟩ : ∃ y, y = x k := ⟨_, rfl⟩
    have HY : Hid (y = x k) := hy
    have y0 : 0 ≤ y := by rw [hy]; exact (HR.out k).1
    have y1 : y < 256 := by rw [hy]; exact (HR.out k).2
    have hI : k < 32 → ∀ w, (Instr.index 23 (.agg A) (.int .i64 k)).run Tryz.prog w = .ok (.int .u8 y) w := fun h w => by rw [hy]; exact idx23 A k _ w h (HX.out k h)
    clear hy
    by_cases hlt : k < 32
    · have hI := hI hlt
      go_wp2_with fail
      have hp : (y / 16).toNat < Hx.tab.size := by show _ < 16; omega
      have hq : (y % 16).toNat < Hx.tab.size := by show _ < 16; omega
      have hb : bits BinOp.and IntKind.u8 y 15 = y % 16 := and15 y y0 y1
      have p0 : 0 ≤ y / 16 := by omega
      have p1 : y / 16 < 16 := by omega
      have q0 : 0 ≤ y % 16 := by omega
      have q1 : y % 16 < 16 := by omega
      go_region_law (refine step_append_own rfl (.tmp 10) (.tmp 17) 113 rfl w.heap.size 5 i0 (.int .u8 0) 1 1 Tryz.underlying113 hi hz0 hz1 hz2 rfl (by decide) _ _ _ rfl (hown.out.drew.alloc _) ⟨wr.heap.size, 0, none⟩ 2 2 [Value.int .u8 ((Hx.tab[(y / 16).toNat]'hp).toNat : Int), Value.int .u8 ((Hx.tab[(y % 16).toNat]'hq).toNat : Int)] rfl rfl (fun j u h => cells_new _ [_, _] 5 j u h) (fun u hu => by simp at hu; rcases hu with rfl | rfl <;> rfl) (by unfold maxLen; omega) (by omega) (by have := hnx.out.size; simp; omega) ?_; intro v' w1 hown1 hgrow1 hnil1)
      all_goals
        have hd := digs_succ x k (HR.out k).1 (HR.out k).2 (by rw [← HY.out]; exact hp) (by rw [← HY.out]; exact hq)
        have HO : Hid (w1.ownsRow w.heap.size 5 1 v' (2 * (k + 1)) (digs x (k + 1))) := by
          show w1.ownsRow _ _ _ _ (2 * k + 2) _
          rw [hd]
          simpa only [← HY.out] using hown1
        have HB : Hid (Below w.heap.size w w1) := ((hnx.out.drew).alloc (by have := hnx.out.size; exact this) _).grown hgrow1 (by have := hnx.out.size; simp; omega) (fun q hq => (hown.out.lt q hq).1)
        clear hown1 hgrow1 hnil1 hd hown hnx
        go_wp2
        go_roundw
        case rel => exact ⟨k + 1, by omega, by go_num, HO, HB⟩
        case measure => simp [RowKit.intOf]; omega
    · clear hI
      have hk2 : k = 32 := by omega
      have HC : Hid (∃ b cap, u3 = .slice (some ⟨b, 0, none⟩) 64 cap) := by
        rcases hown.out.2 with ⟨h, _⟩ | ⟨g, cap, cur, h, _⟩
        · omega
        · rw [hk2] at h; exact ⟨g, cap, h⟩
      obtain ⟨b, cap, rfl⟩ := HC.out
      have hconv := conv_own (P := Tryz.prog) (n := 2 * k) 113 9 Tryz.underlying113 Tryz.underlying5 Tryz.underlying9 (by omega) hown.out
      rw [hk2] at hconv
      clear HC hown
      go_wp2
      go_ret
      exact ⟨rfl, hnx.out⟩
end Go.Proofs
end
section
open Go.RowKit Go.Lib Go.Sort Go.Shelf
namespace Go.Proofs
namespace Wk
def encB (b : UInt8) : Value := .int .u8 (b.toNat : Int)
theorem encB_one : OneCell encB := fun _ => rfl
end Wk
open Wk
set_option maxHeartbeats 1600000 in
set_option maxRecDepth 1000000 in
theorem rev_arr (blk off cap : Nat) (d : Array UInt8) (w : World) (hH : Holds encB w blk off d) (hsz : d.size ≤ 9223372036854775807) :
    Calls Tryz.prog 73 #[.slice (some ⟨blk, off, none⟩) d.size cap] w fun e w' => e = .returned (.tuple #[]) ∧ ∃ n, w' = putRow encB (Sort.ahead w n) blk off d.reverse := by
  have hcl := encB_one.cells
  simp only [Value.cells] at hcl
  have hst := encB_one.store Tryz.prog
  go_enter Tryz.func73, Tryz.ntmps73
  go_wp2
  go_loopg [2, 3] d.size (fun k s2 s3 wr => ∃ (i jn : Nat) (jz : Int) (dk : Array UInt8) (n : Nat), s2 = .int .i64 i ∧ s3 = .int .i64 jz ∧ ((i : Int) < jz → jz = jn ∧ jn < d.size) ∧ (¬ (i : Int) < jz → ¬ i < jn) ∧ jn - i ≤ k ∧
    dk.size = d.size ∧ wr = putRow encB (Sort.ahead w n) blk off dk ∧ reverseLoop i jn dk = reverseLoop 0 (d.size - 1) d)
  case atStart => exact ⟨0, d.size - 1, (d.size : Int) - 1, d, 0, rfl, rfl, fun h => ⟨by omega, by omega⟩, fun h => by omega, by omega, rfl, (putRow_self encB w blk off d hH).symm, rfl⟩
  case round =>
    obtain ⟨i, jn, jz, dk, n, rfl, rfl, h1, h2, hk, hds, hwr, heq⟩ := hrel
    by_cases hlt : (i : Int) < jz
    · obtain ⟨rfl, hjn⟩ := h1 hlt
      have hij : i < jn := by omega
      have hHk : Holds encB wr blk off dk := by rw [hwr]; exact holds_putRow encB _ blk off d dk (holds_ahead encB w n blk off d hH) hds
      obtain ⟨ci, fi⟩ := hHk i (by omega)
      obtain ⟨cj, fj⟩ := hHk jn (by omega)
      have A : Aside (wr = putRow encB (Sort.ahead w n) blk off dk) := hwr
      clear hwr hHk hH h1 h2
      go_wp2_with fail
      go_region
      all_goals
        go_wp2
        go_roundg (jn - 1 - (i + 1))
        case measure => omega
        case rel =>
          rw [reverseLoop, if_pos hij] at heq
          exact ⟨i + 1, jn - 1, (jn : Int) - 1, swp dk i jn, n + 1, by simp, rfl, fun h => ⟨by omega, by omega⟩, fun h => by omega, Nat.le_refl _, by rw [size_swp]; exact hds,
            swap_world encB (by omega) (by omega) A.out (by first | rfl | simp [getElem!_pos, show jn < dk.size by omega]) (by first | rfl | simp [getElem!_pos, show i < dk.size by omega]), heq⟩
    · have hnot := h2 hlt
      go_wp2
      go_end0
      refine ⟨rfl, n, ?_⟩
      rw [reverseLoop, if_neg hnot] at heq
      rw [← Lib.reverseLoop_reverse, ← heq]
/-- the bytes of a row of the call's own, turned round -/
theorem rev_own {w : World} {B n : Nat} {v : Value} {bs : List UInt8} (hn : 0 < n) (hn1 : n ≤ 1000000) (h : w.ownsRow B 5 1 v n (bs.map encB)) :
    Calls Tryz.prog 73 #[v] w fun e w' => e = .returned (.tuple #[]) ∧ w'.ownsRow B 5 1 v n (bs.reverse.map encB) ∧ Below B w w' := by
  have hv : v ≠ .slice none 0 0 := by
    rintro rfl
    rcases h.2 with ⟨_, h0⟩ | ⟨g, cap, cur, h0, _⟩
    · omega
    · cases h0
  obtain ⟨g, cap, rfl, hg, hlt, hc, hm, hl, hH⟩ := holds_of_ownsRow h hv
  have hs : bs.toArray.size = n := by simpa using hl
  have hr := rev_arr g 0 cap bs.toArray w hH (by omega)
  rw [hs] at hr
  refine hr.mono fun e w' ⟨he, q, hw⟩ => ⟨he, ?_, ?_⟩
  · rw [hw, show bs.toArray.reverse = bs.reverse.toArray by simp]
    have := ownsRow_putRow (q := q) (ys := bs.reverse) h (by simpa using hl) (Nat.le_refl n)
    rwa [List.take_of_length_le (by simp; omega)] at this
  · rw [hw]
    exact below_putRow (Below.refl _ _) hg
end Go.Proofs
end
section
open Go.RowKit Go.Lib Go.Sort Go.Shelf
namespace Go.Proofs.Wk
/-- decimal digits, the last one first -/
def decL (m : Nat) : List UInt8 := UInt8.ofNat (48 + m % 10) :: if h : m / 10 = 0 then [] else decL (m / 10)
 termination_by m
 decreasing_by omega
theorem decL_last (m : Nat) (h : m / 10 = 0) : decL m = [UInt8.ofNat (48 + m % 10)] := by rw [decL]; simp [h]
theorem decL_more (m : Nat) (h : ¬ m / 10 = 0) : decL m = UInt8.ofNat (48 + m % 10) :: decL (m / 10) := by rw [decL]; simp [h]
theorem decL_len (f : Nat) : ∀ m : Nat, m < 10 ^ (f + 1) → (decL m).length ≤ f + 1 := by
  induction f with
  | zero => intro m h; rw [decL_last m (by omega)]; simp
  | succ f ih =>
    intro m h
    by_cases h0 : m / 10 = 0
    · rw [decL_last m h0]; simp
    · rw [decL_more m h0]
      have := ih (m / 10) (by rw [Nat.pow_succ] at h; omega)
      simp only [List.length_cons]
      omega
def decB (n : Int) : List UInt8 := (if n < 0 then [45] else []) ++ (decL n.natAbs).reverse
theorem dig_enc (j : Nat) : Value.int .u8 (48 + (j : Int) % 10) = encB (UInt8.ofNat (48 + j % 10)) := by
  unfold encB
  congr 1
  rw [UInt8.toNat_ofNat']
  omega
theorem decL_le (m : Nat) (h : m ≤ 9223372036854775808) : (decL m).length ≤ 20 := decL_len 19 m (by omega)
/-- what a round does to the row -/
theorem dec_round {w wr w1 : World} {v v' : Value} {acc : List UInt8} {j : Nat} (hown : wr.ownsRow w.heap.size 5 1 v acc.length (acc.map encB)) (hnx : RowKit.Below w.heap.size w wr)
    (hown1 : w1.ownsRow w.heap.size 5 1 v' (acc.length + 1) (acc.map encB ++ [Value.int .u8 (48 + (j : Int) % 10)])) {o : Obj} (hg : (wr.alloc o).grownBy w1 v.ownBlock) :
    w1.ownsRow w.heap.size 5 1 v' (acc ++ [UInt8.ofNat (48 + j % 10)]).length ((acc ++ [UInt8.ofNat (48 + j % 10)]).map encB) ∧ RowKit.Below w.heap.size w w1 := by
  refine ⟨?_, ((hnx.alloc hnx.size _).grown hg (by have := hnx.size; simp; omega) (fun q hq => (hown.lt q hq).1))⟩
  rw [dig_enc] at hown1
  simpa using hown1
end Wk
open Wk
set_option maxHeartbeats 1600000 in
set_option maxRecDepth 1000000 in
theorem dec_any (n : Int) (w : World) (h0 : -9223372036854775808 ≤ n) (h1 : n ≤ 9223372036854775807) :
    Calls Tryz.prog 40 #[.int .i64 n] w fun e w' => e = .returned (.string ⟨(decB n).toArray⟩) ∧ Below w.heap.size w w' := by
  have hnot : ∀ (x : Bool) (w : World), (Op.unary .not (.bool x)).run Tryz.prog w = .ok (.bool (!x)) w := fun _ _ => rfl
  obtain ⟨i0, hi, hz0, hz1, hz2⟩ := info_parts infoU8
  have hdv : ∀ j : Nat, (-(j : Int)).tdiv 10 = -((j / 10 : Nat) : Int) := fun j => by rw [Int.neg_tdiv]; simp [Int.natCast_ediv, Int.tdiv_eq_ediv_of_nonneg]
  have hmd : ∀ j : Nat, (-(j : Int)).tmod 10 = -((j % 10 : Nat) : Int) := fun j => by rw [Int.neg_tmod]; simp [Int.tmod_eq_emod_of_nonneg]
  by_cases hneg : n < 0
  · have hd : decide (n < 0) = true := by simpa using hneg
    obtain ⟨m, hm⟩ : ∃ m : Nat, n = -(m : Int) := ⟨n.natAbs, by omega⟩
    have HM : Hid (n = -(m : Int)) := hm
    clear hm
    go_enter Tryz.func40, Tryz.ntmps40
    go_wp2_with fail
    go_loopw [0, 4] (fun s0 s4 wr => ∃ (j : Nat) (acc : List UInt8), s0 = .int .i64 (-(j : Int)) ∧ j ≤ m ∧ Hid (acc ++ decL j = decL m) ∧ Hid (wr.ownsRow w.heap.size 5 1 s4 acc.length (acc.map encB)) ∧ Hid (Below w.heap.size w wr)) (fun s0 _ _ => (-(RowKit.intOf s0)).toNat)
    case atStart => exact ⟨m, [], by rw [HM.out], Nat.le_refl _, rfl, World.ownsRow_nil _ _ _ _, Below.refl _ _⟩
    case round =>
      obtain ⟨j, acc, rfl, hj, hacc, hown, hnx⟩ := hrel
      have hlen : acc.length < 20 := by
        have h1 := decL_le m (by have := HM.out; omega)
        rw [← hacc.out, List.length_append] at h1
        have : 0 < (decL j).length := by rw [decL]; simp
        omega
      have hjm : j ≤ 9223372036854775808 := by have := HM.out; omega
      clear hneg
      by_cases h10 : j / 10 = 0
      · have hj10 : ((j / 10 : Nat) : Int) = 0 := by omega
        have tok1 : True := trivial
        go_wp2_with (first
          | (at_builtin; have _t := tok1; refine wpList_append_own _ rfl _ _ 113 rfl w.heap.size 5 i0 (.int .u8 0) 1 1 Tryz.underlying113 hi hz0 hz1 hz2 rfl (by decide) _ _ _ rfl (hown.out.alloc _) ⟨wr.heap.size, 0, none⟩ 1 1 [.int .u8 (48 + (j : Int) % 10)] rfl rfl (cell_one_new _ _ _) (fun u hu => by simp at hu; subst hu; rfl) (by unfold maxLen; omega) (by omega) (by have := hnx.out.size; simp; omega) ?_; intro v' w1 hown1 hgrow1 _; have R := dec_round hown.out hnx.out hown1 hgrow1; have HO := hacc.out; rw [decL_last j h10] at HO; rw [HO] at R; have R1 : Hid (w1.ownsRow w.heap.size 5 1 v' (decL m).length ((decL m).map encB)) := R.1; have R2 : Hid (RowKit.Below w.heap.size w w1) := R.2; have hm0 : 0 < (decL m).length := (by rw [decL]; simp); have hm1 : (decL m).length ≤ 20 := decL_le m (by have := HM.out; omega); clear hown1 hgrow1 R HO hown hnx hacc tok1)
          | (at_builtin; refine wpList_append_own _ rfl _ _ 113 rfl w.heap.size 5 i0 (.int .u8 0) 1 1 Tryz.underlying113 hi hz0 hz1 hz2 rfl (by decide) _ _ _ rfl (R1.out.alloc _) ⟨w1.heap.size, 0, none⟩ 1 1 [.int .u8 45] rfl rfl (cell_one_new _ _ _) (fun u hu => by simp at hu; subst hu; rfl) (by unfold maxLen; omega) (by omega) (by have := R2.out.size; simp; omega) ?_; intro v2 w2 hown2 hgrow2 _; have S1 : Hid (w2.ownsRow w.heap.size 5 1 v2 ((decL m).length + 1) ((decL m ++ [45]).map encB)) := (by show w2.ownsRow _ _ _ _ _ _; simpa [encB] using hown2); have S2 : Hid (RowKit.Below w.heap.size w w2) := ((R2.out.alloc R2.out.size _).grown hgrow2 (by have := R2.out.size; simp; omega) (fun q hq => (R1.out.lt q hq).1)); clear hown2 hgrow2)
          | (go_at_call 73; refine (rev_own (by omega) (by omega) S1.out).mono ?_; rintro e w3 ⟨rfl, h3, b3⟩; have hconv := conv_own (P := Tryz.prog) 113 9 Tryz.underlying113 Tryz.underlying5 Tryz.underlying9 (by omega) h3; have B3 : Hid (RowKit.Below w.heap.size w w3) := (S2.out.trans b3); clear h3 b3))
        go_ret
        refine ⟨?_, B3.out⟩
        congr 2
        unfold decB
        rw [if_pos (by simpa using hd), HM.out]
        simp
      · have hj10 : ¬ ((j / 10 : Nat) : Int) = 0 := by omega
        go_wp2_with (at_builtin; refine wpList_append_own _ rfl _ _ 113 rfl w.heap.size 5 i0 (.int .u8 0) 1 1 Tryz.underlying113 hi hz0 hz1 hz2 rfl (by decide) _ _ _ rfl (hown.out.alloc _) ⟨wr.heap.size, 0, none⟩ 1 1 [.int .u8 (48 + (j : Int) % 10)] rfl rfl (cell_one_new _ _ _) (fun u hu => by simp at hu; subst hu; rfl) (by unfold maxLen; omega) (by omega) (by have := hnx.out.size; simp; omega) ?_; intro v' w1 hown1 hgrow1 _)
        have R := dec_round hown.out hnx.out hown1 hgrow1
        have R1 : Hid (w1.ownsRow w.heap.size 5 1 v' (acc ++ [UInt8.ofNat (48 + j % 10)]).length ((acc ++ [UInt8.ofNat (48 + j % 10)]).map encB)) := R.1
        have R2 : Hid (RowKit.Below w.heap.size w w1) := R.2
        clear hown1 hgrow1 R hown hnx
        go_wp2
        go_roundw
        case rel => exact ⟨j / 10, _, by first | rfl | simp, by omega, by show _ = _; rw [List.append_assoc, ← hacc.out, decL_more j h10]; rfl, R1, R2⟩
        case measure => simp [RowKit.intOf]; omega
  · have hd : decide (n < 0) = false := by simpa using hneg
    obtain ⟨m, hm⟩ : ∃ m : Nat, n = (m : Int) := ⟨n.natAbs, by omega⟩
    have HM : Hid (n = (m : Int)) := hm
    clear hm
    go_enter Tryz.func40, Tryz.ntmps40
    go_wp2_with fail
    go_loopw [0, 4] (fun s0 s4 wr => ∃ (j : Nat) (acc : List UInt8), s0 = .int .i64 (-(j : Int)) ∧ j ≤ m ∧ Hid (acc ++ decL j = decL m) ∧ Hid (wr.ownsRow w.heap.size 5 1 s4 acc.length (acc.map encB)) ∧ Hid (Below w.heap.size w wr)) (fun s0 _ _ => (-(RowKit.intOf s0)).toNat)
    case atStart => exact ⟨m, [], by rw [HM.out], Nat.le_refl _, rfl, World.ownsRow_nil _ _ _ _, Below.refl _ _⟩
    case round =>
      obtain ⟨j, acc, rfl, hj, hacc, hown, hnx⟩ := hrel
      have hlen : acc.length < 20 := by
        have h1 := decL_le m (by have := HM.out; omega)
        rw [← hacc.out, List.length_append] at h1
        have : 0 < (decL j).length := by rw [decL]; simp
        omega
      have hjm : j ≤ 9223372036854775808 := by have := HM.out; omega
      clear hneg
      by_cases h10 : j / 10 = 0
      · have hj10 : ((j / 10 : Nat) : Int) = 0 := by omega
        have tok1 : True := trivial
        go_wp2_with (first
          | (at_builtin; have _t := tok1; refine wpList_append_own _ rfl _ _ 113 rfl w.heap.size 5 i0 (.int .u8 0) 1 1 Tryz.underlying113 hi hz0 hz1 hz2 rfl (by decide) _ _ _ rfl (hown.out.alloc _) ⟨wr.heap.size, 0, none⟩ 1 1 [.int .u8 (48 + (j : Int) % 10)] rfl rfl (cell_one_new _ _ _) (fun u hu => by simp at hu; subst hu; rfl) (by unfold maxLen; omega) (by omega) (by have := hnx.out.size; simp; omega) ?_; intro v' w1 hown1 hgrow1 _; have R := dec_round hown.out hnx.out hown1 hgrow1; have HO := hacc.out; rw [decL_last j h10] at HO; rw [HO] at R; have R1 : Hid (w1.ownsRow w.heap.size 5 1 v' (decL m).length ((decL m).map encB)) := R.1; have R2 : Hid (RowKit.Below w.heap.size w w1) := R.2; have hm0 : 0 < (decL m).length := (by rw [decL]; simp); have hm1 : (decL m).length ≤ 20 := decL_le m (by have := HM.out; omega); clear hown1 hgrow1 R HO hown hnx hacc tok1)
          | (go_at_call 73; refine (rev_own (by omega) (by omega) R1.out).mono ?_; rintro e w3 ⟨rfl, h3, b3⟩; have hconv := conv_own (P := Tryz.prog) 113 9 Tryz.underlying113 Tryz.underlying5 Tryz.underlying9 (by omega) h3; have B3 : Hid (RowKit.Below w.heap.size w w3) := (R2.out.trans b3); clear h3 b3))
        go_ret
        refine ⟨?_, B3.out⟩
        congr 2
        unfold decB
        rw [if_neg (by simpa using hd), HM.out]
        simp
      · have hj10 : ¬ ((j / 10 : Nat) : Int) = 0 := by omega
        go_wp2_with (at_builtin; refine wpList_append_own _ rfl _ _ 113 rfl w.heap.size 5 i0 (.int .u8 0) 1 1 Tryz.underlying113 hi hz0 hz1 hz2 rfl (by decide) _ _ _ rfl (hown.out.alloc _) ⟨wr.heap.size, 0, none⟩ 1 1 [.int .u8 (48 + (j : Int) % 10)] rfl rfl (cell_one_new _ _ _) (fun u hu => by simp at hu; subst hu; rfl) (by unfold maxLen; omega) (by omega) (by have := hnx.out.size; simp; omega) ?_; intro v' w1 hown1 hgrow1 _)
        have R := dec_round hown.out hnx.out hown1 hgrow1
        have R1 : Hid (w1.ownsRow w.heap.size 5 1 v' (acc ++ [UInt8.ofNat (48 + j % 10)]).length ((acc ++ [UInt8.ofNat (48 + j % 10)]).map encB)) := R.1
        have R2 : Hid (RowKit.Below w.heap.size w w1) := R.2
        clear hown1 hgrow1 R hown hnx
        go_wp2
        go_roundw
        case rel => exact ⟨j / 10, _, by first | rfl | simp, by omega, by show _ = _; rw [List.append_assoc, ← hacc.out, decL_more j h10]; rfl, R1, R2⟩
        case measure => simp [RowKit.intOf]; omega
end Go.Proofs
end
section
/-
  DERIVED: THE SHELF's CONTRACTS AT THIS DUMP, IN PLAIN WORDS (tools/lay-plain.mjs out of 'TryzShelfJ.lean', which tools/lay-shelf.mjs wrote): THE SAME DECLARATIONS UNDER THE SAME NAMES: 'import', 'namespace', 'open', 'def', 'theorem' AND NOTHING ELSE: no command of the shelf's: FOR A HAND-IN. Each laying: the table of numbers ('.._ren') and one theorem, a field a fact of the dump's own or the kernel's comparison; each contract: ONE APPLICATION.
-/
namespace Go.Proofs
open Go.Shelf
def Tryz.lays156_ren : Go.Shelf.Ren := ⟨fun | 156 => 39 | 165 => 70 | 166 => 71 | 169 => 72 | 240 => 158 | 241 => 159 | 276 => 235 | 277 => 236 | n => n, fun | 31 => 112 | 9 => 9 | 3 => 3 | 4 => 4 | 0 => 0 | 20 => 20 | 72 => 187 | 76 => 190 | 70 => 185 | 37 => 113 | 75 => 189 | 127 => 307 | 164 => 410 | 5 => 5 | 80 => 128 | n => n, fun | n => n⟩
theorem Tryz.lays156 : Go.Proofs.Lays.n156 Tryz.prog Tryz.lays156_ren := {
  mixed := by kernel_rfl
  f156 := Tryz.func39.trans (congrArg some (by kernel_rfl))
  f165 := Tryz.func70.trans (congrArg some (by kernel_rfl))
  f166 := Tryz.func71.trans (congrArg some (by kernel_rfl))
  f169 := Tryz.func72.trans (congrArg some (by kernel_rfl))
  f240 := Tryz.func158.trans (congrArg some (by kernel_rfl))
  f241 := Tryz.func159.trans (congrArg some (by kernel_rfl))
  f276 := Tryz.func235.trans (congrArg some (by kernel_rfl))
  f277 := Tryz.func236.trans (congrArg some (by kernel_rfl))
  t0 := Tryz.underlying0
  a0 := Tryz.isAgg0
  z0 := Tryz.sizeOf0
  v0 := Tryz.zeroValue0
  t3 := Tryz.underlying3
  a3 := Tryz.isAgg3
  z3 := Tryz.sizeOf3
  v3 := Tryz.zeroValue3
  t4 := Tryz.underlying4
  a4 := Tryz.isAgg4
  z4 := Tryz.sizeOf4
  v4 := Tryz.zeroValue4
  t9 := Tryz.underlying9
  a9 := Tryz.isAgg9
  z9 := Tryz.sizeOf9
  v9 := Tryz.zeroValue9
  t20 := Tryz.underlying20
  a20 := Tryz.isAgg20
  z20 := Tryz.sizeOf20
  v20 := Tryz.zeroValue20
  t31 := Tryz.underlying112
  a31 := Tryz.isAgg112
  z31 := Tryz.sizeOf112
  v31 := Tryz.zeroValue112
  t37 := Tryz.underlying113
  a37 := Tryz.isAgg113
  z37 := Tryz.sizeOf113
  v37 := Tryz.zeroValue113
  t70 := Tryz.underlying185
  a70 := Tryz.isAgg185
  z70 := Tryz.sizeOf185
  v70 := Tryz.zeroValue185
  t72 := Tryz.underlying187
  a72 := Tryz.isAgg187
  z72 := Tryz.sizeOf187
  v72 := Tryz.zeroValue187
  t75 := Tryz.underlying189
  a75 := Tryz.isAgg189
  z75 := Tryz.sizeOf189
  v75 := Tryz.zeroValue189
  t76 := Tryz.underlying190
  a76 := Tryz.isAgg190
  z76 := Tryz.sizeOf190
  v76 := Tryz.zeroValue190
  t127 := Tryz.underlying307
  a127 := Tryz.isAgg307
  z127 := Tryz.sizeOf307
  v127 := Tryz.zeroValue307
  t164 := Tryz.underlying410
  a164 := Tryz.isAgg410
  z164 := Tryz.sizeOf410
  v164 := Tryz.zeroValue410 }
theorem Tryz.Builder_Extra_156 : Builder.Extra Tryz.prog Tryz.lays156_ren := {
  sizeBuilder := by kernel_rfl
  liesBuilder := by kernel_rfl
  t5 := Tryz.underlying5
  a5 := Tryz.isAgg5
  z5 := Tryz.sizeOf5
  v5 := Tryz.zeroValue5
  infoByte := by kernel_rfl
  cellsByte := by kernel_rfl
  sizeByte := by kernel_rfl
  neB5 := by decide }
open Go.RowKit in
/-- No element: the empty string; the world is as it was. (Whatever the slice's address and capacity: a nil slice too.) (LAID: no walk: one application.) -/
theorem Tryz.strings_Join_none (a : Option Addr) (c : Nat) (sep : ByteArray) (w : World) :
    Calls Tryz.prog 39 #[.slice a 0 c, .string sep] w fun e w' => e = .returned (.string ⟨#[]⟩) ∧ w' = w := Any.strings_Join_none Tryz.lays156 Tryz.Builder_Extra_156 a c sep w
open Go.RowKit in
/-- strings.Join: "Join concatenates the elements of its first argument to create a single string. The separator string sep is placed between elements in the resulting string.": HOWEVER MANY ELEMENTS. Below the heap's end the world is as it was. (LAID: no walk: one application.) -/
theorem Tryz.strings_Join (bk o c : Nat) (xs : List ByteArray) (sep : ByteArray) (w : World) (hcells : ∀ (j : Nat) x, xs[j]? = some x → w.cell? ⟨bk, o + j, none⟩ = some (.string x)) (hbk : bk < w.heap.size) (hN : xs.length ≤ 140737488355328) (hcap : xs.length ≤ c) (hlen : (Lib.join (xs.map (·.data.toList)) sep.data.toList).length ≤ 140737488355328) :
    Calls Tryz.prog 39 #[.slice (some ⟨bk, o, none⟩) xs.length c, .string sep] w fun e w' => e = .returned (.string ⟨(Lib.join (xs.map (·.data.toList)) sep.data.toList).toArray⟩) ∧ Below w.heap.size w w' := Any.strings_Join Tryz.lays156 Tryz.Builder_Extra_156 bk o c xs sep w hcells hbk hN hcap hlen
end Go.Proofs
end
section
open Go.RowKit Go.Lib
namespace Go.Proofs.Wk
def nameL (x : Nat → Int) (a g : Int) : List UInt8 := Lib.join [[110, 111, 116, 101], Hx.encode (bys x 32), decB a, decB g] [32]
theorem decB_len (n : Int) (h0 : -9223372036854775808 ≤ n) (h1 : n ≤ 9223372036854775807) : (decB n).length ≤ 21 := by
  have := decL_le n.natAbs (by omega)
  unfold decB
  rw [List.length_append, List.length_reverse]
  split <;> simp <;> omega
theorem name_len (x : Nat → Int) (a g : Int) (a0 : -9223372036854775808 ≤ a) (a1 : a ≤ 9223372036854775807) (g0 : -9223372036854775808 ≤ g) (g1 : g ≤ 9223372036854775807) : (nameL x a g).length ≤ 140737488355328 := by
  have h1 := decB_len a a0 a1
  have h2 := decB_len g g0 g1
  have h3 : (Hx.encode (bys x 32)).length = 64 := by rw [Hx.encode_length, bys_len]
  simp [nameL, Lib.join, h3]
  omega
end Wk
open Wk
set_option maxHeartbeats 1000000 in
set_option maxRecDepth 100000 in
theorem name_any (A : Array Value) (x : Nat → Int) (a g : Int) (w : World) (hA : A.size = 32) (hx : ∀ k : Nat, k < 32 → A[k]? = some (.int .u8 (x k))) (hr : ∀ k, 0 ≤ x k ∧ x k < 256)
    (a0 : -9223372036854775808 ≤ a) (a1 : a ≤ 9223372036854775807) (g0 : -9223372036854775808 ≤ g) (g1 : g ≤ 9223372036854775807) :
    Calls Tryz.prog 14 #[.agg A, .int .i64 a, .int .i64 g] w fun e w' => e = .returned (.string ⟨(nameL x a g).toArray⟩) ∧ Below w.heap.size w w' := by
  have HX : Hid (∀ k : Nat, k < 32 → A[k]? = some (.int .u8 (x k))) := hx
  have HR : Hid (∀ k, 0 ≤ x k ∧ x k < 256) := hr
  have HI : Hid ((Tryz.prog.info? 23).map (·.size) = some A.size) := by rw [hA]; exact info23
  have HA : Hid (A.size = 32) := hA
  clear hx hr hA
  have tok1 : True := trivial
  go_enter Tryz.func14, Tryz.ntmps14
  go_wp2_with (first
    | (refine wpList_load_row rfl 23 _ rfl w.heap.size rfl 23 A (0, 0) _ (heap_alloc_new _ _) Tryz.underlying23 rfl HI.out ?_)
    | (go_at_call 20; refine (hex_any A x _ HA.out HX.out HR.out).mono ?_; rintro e w1 ⟨rfl, hb1⟩; have B1 : Hid (Below w.heap.size w w1) := ((Below.refl _ w).alloc (Nat.le_refl _) _).trans (hb1.mono (by simp)); clear hb1)
    | (go_at_call 40; have _t := tok1; refine (dec_any a _ a0 a1).mono ?_; rintro e w2 ⟨rfl, hb2⟩; have B2 : Hid (Below w.heap.size w w2) := B1.out.trans (hb2.mono B1.out.size); clear hb2 tok1)
    | (go_at_call 40; refine (dec_any g _ g0 g1).mono ?_; rintro e w3 ⟨rfl, hb3⟩; have B3 : Hid (Below w.heap.size w w3) := B2.out.trans (hb3.mono B2.out.size); clear hb3)
    | (go_at_call 39; refine (Tryz.strings_Join w3.heap.size 0 4 [⟨#[110, 111, 116, 101]⟩, ⟨(Hx.encode (bys x 32)).toArray⟩, ⟨(decB a).toArray⟩, ⟨(decB g).toArray⟩] ⟨#[32]⟩ _ (fun j y h => cells_str w3 _ 9 j y h) (by simp) (by simp) (by simp) (name_len x a g a0 a1 g0 g1)).mono ?_; rintro e w4 ⟨rfl, hb4⟩; have B4 : Hid (Below w.heap.size w w4) := (B3.out.alloc B3.out.size _).trans (hb4.mono (by have := B3.out.size; simp; omega)); clear hb4))
  go_ret
  exact ⟨rfl, B4.out⟩
end Go.Proofs
end
