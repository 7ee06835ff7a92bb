/-
  Part EvC of the proof: a deterministic evaluator of the machine, its soundness, and what it gives for this seat.
-/
import Derived.Test.YtcncbfgplikphaaGreatEvB
import Derived.Lib.UnsafeStr
import Derived.Test.YtcncbfgplikphaaGreatEvA
import Derived.AtR
import Derived.Conc.LoneSelect
section
namespace Go.Ac
variable {P : Program} {tab : Tab} {C : Cx} {ρ : Rn} {s : S} {w : World} (tok : TabOk P tab)

theorem ERel.setKey {k k' : Value} (hk : VRel ρ k k') : ∀ {i : Nat} {l : List AEntry} {m : List MapEntry} {x : AEntry}, ERel ρ l m → nthE i l = some x → ERel ρ (Ac.setVal k x.val i l) (m.modify i fun e => { e with key := k' })
  | i, [], m, x, h, hx => by cases i <;> cases hx
  | 0, y :: xs, m, x, h, hx => by
    simp only [ERel] at h
    obtain ⟨e', r, rfl, h1, h2, h3, h4⟩ := h
    cases hx
    simp only [Ac.setVal, List.modify_zero_cons, ERel]
    exact ⟨_, r, rfl, h1, hk, h3, h4⟩
  | i + 1, y :: xs, m, x, h, hx => by
    simp only [ERel] at h
    obtain ⟨e', r, rfl, h1, h2, h3, h4⟩ := h
    simp only [Ac.setVal, List.modify_succ_cons, ERel]
    exact ⟨e', _, rfl, h1, h2, h3, ERel.setKey hk h4 hx⟩

include tok in
theorem mapEntry_ok (hz : ZerosOk tab) (hr : HRel C ρ s w) {mt kt et : Nat} (hd : tab.desc mt = some (.map kt et)) {z : Value} (h0 : tab.zero et = some z) {m m' k k' v : Value} {s' : S} (hm : VRel ρ m m') (hk : VRel ρ k k') (h : vMapEntry (keyT tab kt) z s m k = some (v, s')) :
    ActOk P C ρ s w (Instr.mapEntry mt m' k') v s' := by
  have hzr := vOk_rel ρ z (hz _ _ h0).1
  unfold vMapEntry at h
  split at h
  · rename_i r
    split at h
    · cases h
    · rename_i es c hsm
      obtain ⟨rb, es', h1, h2, h3, h4⟩ := map_there hr hsm
      simp only [VRel] at hm
      obtain ⟨rb', h5, rfl⟩ := hm
      rw [h1] at h5; cases h5
      have hgo := run_getObj (P := P) h3 (by simp)
      split at h
      · rename_i i u hf
        split at h
        · rename_i x hx
          obtain ⟨hok, h⟩ := cond_some h
          cases h
          obtain ⟨hck, q, k1, k2⟩ := findKey_ok (P := P) (w := w) tok hk h4 hf
          obtain ⟨u', rfl, hu⟩ := k2
          obtain ⟨hk1, hk2⟩ := cond_some hf
          obtain ⟨_, x₀, g1, g2, g3⟩ := findKey_hit hk2
          rw [Nat.sub_zero, hx] at g1
          cases g1
          obtain ⟨x', f1, f2, f3, f4⟩ := h4.nth hx
          have hst := key_stays (P := P) (w := w) hk f3 hk1 hok g2
          have f1' : es'[i]? = some x' := by rw [← Array.getElem?_toList]; exact f1
          have he : ERel ρ (setVal k u i es) (es'.modify i fun e => { e with key := k' }).toList := by
            have := ERel.setKey (i := i) hk h4 hx
            rw [g3] at this
            rw [Array.toList_modify]
            exact this
          obtain ⟨m1, m2, m3⟩ := map_turn (P := P) hr h2 h1 h3 (c₁ := c) he
          refine ⟨ρ, _, .tuple #[u', goInt x'.born], ?_, m2, m3, ?_⟩
          · simp [Instr.mapEntry, tok.run_underlying hd, hgo, hck, k1, f1', hst, m1]
          · rw [f2]; exact hu.mkTwo (VRel.mkInt _ _)
        · cases h
      · rename_i hf
        cases h
        obtain ⟨hck, q, k1, k2⟩ := findKey_ok (P := P) (w := w) tok hk h4 hf
        have k2 : q = none := k2
        subst k2
        have he : ERel ρ (es ++ [⟨k, z, c⟩]) (es'.push { key := k', val := z, born := c }).toList := by
          rw [Array.toList_push]
          exact h4.push hk hzr c
        obtain ⟨m1, m2, m3⟩ := map_turn (P := P) hr h2 h1 h3 (c₁ := c + 1) he
        refine ⟨ρ, _, .tuple #[z, goInt c], ?_, m2, m3, hzr.mkTwo (VRel.mkInt _ _)⟩
        simp [Instr.mapEntry, tok.run_underlying hd, hgo, hck, k1, tok.run_zero h0, m1]
      · cases h
  · cases h

theorem ERel.setBorn {b : Nat} {v v' : Value} (hv : VRel ρ v v') : ∀ {l l₁ : List AEntry} {m : List MapEntry}, ERel ρ l m → Ac.setBorn b v l = some l₁ → ∃ i, m.findIdx? (fun e => (e.born : Int) == (b : Int)) = some i ∧ ERel ρ l₁ (m.modify i fun e => { e with val := v' })
  | [], l₁, m, h, hs => by cases hs
  | x :: xs, l₁, m, h, hs => by
    simp only [ERel] at h
    obtain ⟨e', r, rfl, h1, h2, h3, h4⟩ := h
    unfold Ac.setBorn at hs
    cases hb : Nat.beq x.born b with
    | true =>
      rw [hb] at hs
      cases hs
      have := of_beq hb
      refine ⟨0, by simp [List.findIdx?_cons, h1, this], ?_⟩
      simp only [List.modify_zero_cons, ERel]
      exact ⟨_, r, rfl, h1, h2, hv, h4⟩
    | false =>
      rw [hb] at hs
      simp only [cond_false] at hs
      split at hs
      · rename_i l hl
        cases hs
        obtain ⟨i, k1, k2⟩ := ERel.setBorn hv h4 hl
        have hne : ¬ x.born = b := fun e => by rw [beqT e] at hb; cases hb
        have hne' : ¬ (e'.born : Int) = (b : Int) := by rw [h1]; omega
        refine ⟨i + 1, by simp [List.findIdx?_cons, hne', k1], ?_⟩
        simp only [List.modify_succ_cons, ERel]
        exact ⟨e', _, rfl, h1, h2, h3, k2⟩
      · cases hs

theorem entryStore_ok (hr : HRel C ρ s w) {mt : Nat} {m m' b b' v v' u : Value} {s' : S} (hm : VRel ρ m m') (hb : VRel ρ b b') (hv : VRel ρ v v') (h : vEntryStore s m b v = some (u, s')) : UAct P C ρ s w (Instr.entryStore mt m' b' v') s' := by
  unfold vEntryStore at h
  split at h
  · rename_i r
    split at h
    · rename_i n es c hn hsm
      split at h
      · rename_i es₁ hse
        cases h
        obtain ⟨rb, es', h1, h2, h3, h4⟩ := map_there hr hsm
        simp only [VRel] at hm
        obtain ⟨rb', h5, rfl⟩ := hm
        rw [h1] at h5; cases h5
        have hgo := run_getObj (P := P) h3 (by simp)
        obtain ⟨k, rfl⟩ := natOf_some hn
        obtain rfl := hb.int
        obtain ⟨i, k1, k2⟩ := ERel.setBorn hv h4 hse
        have k1' : es'.findIdx? (fun e => (e.born : Int) == (n : Int)) = some i := by have := k1; cases es' with | mk l => simpa using this
        obtain ⟨m1, m2, m3⟩ := map_turn (P := P) hr h2 h1 h3 (c₁ := c) (es₁' := es'.modify i fun e => { e with val := v' }) (by rw [Array.toList_modify]; exact k2)
        refine ⟨ρ, _, ?_, m2, m3⟩
        simp [Instr.entryStore, hgo, asInt, asIntOf, k1', m1]
      · cases h
    · cases h
  · cases h

/-! ### ranges -/
include tok in
theorem rangeStr_ok (hr : HRel C ρ s w) {t : Nat} (hd : tab.desc t = some .string) {x x' v : Value} {s' : S} (hx : VRel ρ x x') (h : vRangeStr s x = some (v, s')) : ActOk P C ρ s w (Instr.range t x') v s' := by
  unfold vRangeStr at h
  split at h
  · rename_i b
    cases h
    obtain rfl := hx.str
    have := hr.make (o := .sIter b 0) (rb := ⟨w.heap.size, 0, 0, 0⟩) (o' := .stringIter b 0) rfl ⟨rfl, rfl⟩
    refine ⟨_, _, .pointer (some ⟨w.heap.size, 0, none⟩), ?_, this.1, this.2, VRel.mkPtr (Rn.add_at _ _ _)⟩
    simp [Instr.range, tok.run_underlying hd]
  · cases h

include tok in
theorem rangeMap_ok (hr : HRel C ρ s w) {t kt et : Nat} (hd : tab.desc t = some (.map kt et)) {x x' v : Value} {s' : S} (hx : VRel ρ x x') (h : vRangeMap s x = some (v, s')) : ActOk P C ρ s w (Instr.range t x') v s' := by
  unfold vRangeMap at h
  split at h
  · cases h
    simp only [VRel] at hx
    subst hx
    have := hr.make (o := .mIter none 0 [] 0) (rb := ⟨w.heap.size, 0, 0, 0⟩) (o' := .mapIter none 0 #[] 0) rfl ⟨rfl, rfl⟩
    refine ⟨_, _, .pointer (some ⟨w.heap.size, 0, none⟩), ?_, this.1, this.2, VRel.mkPtr (Rn.add_at _ _ _)⟩
    simp [Instr.range, tok.run_underlying hd]
  · rename_i m
    split at h
    · rename_i es c hsm
      cases h
      obtain ⟨rb, es', h1, h2, h3, h4⟩ := map_there hr hsm
      simp only [VRel] at hx
      obtain ⟨rb', h5, rfl⟩ := hx
      rw [h1] at h5; cases h5
      have hgo := run_getObj (P := P) h3 (by simp)
      have := hr.make (o := .mIter (some m) c [] c) (rb := ⟨w.heap.size, 0, 0, 0⟩) (o' := .mapIter (some rb.blk) c #[] c) rfl ⟨rfl, rb, h1, rfl⟩
      refine ⟨_, _, .pointer (some ⟨w.heap.size, 0, none⟩), ?_, this.1, this.2, VRel.mkPtr (Rn.add_at _ _ _)⟩
      simp [Instr.range, tok.run_underlying hd, hgo]
    · cases h
  · cases h

theorem nthB_get (b : ByteArray) (i : Nat) : nthB i b.data.toList = b.data[i]? := by
  rw [nthB_eq, Array.getElem?_toList]

theorem nextStr_ok (hr : HRel C ρ s w) {T : Nat} {it it' v : Value} {s' : S} (hi : VRel ρ it it') (h : vNextStr s it = some (v, s')) : ActOk P C ρ s w (Instr.next it' true T) v s' := by
  obtain ⟨ad, h1, h2⟩ := onOpt_some h
  obtain ⟨h3, h4⟩ := cond_some h2
  obtain rfl := vP_some h1
  have h3 := of_beq h3
  obtain ⟨rb, hb, rfl⟩ := hi.ptr
  unfold vNextStrAt at h4
  split at h4
  · rename_i b pos hg
    obtain ⟨rb', q1, hN, o', q2, q0, q3⟩ := hr.live _ _ hg
    rw [hb] at q1; cases q1
    subst q3
    have hgo := run_getObj (P := P) q2 (by simp)
    have h0 : rb.base + ad.off = 0 := by omega
    rw [h0]
    split at h4
    · rename_i c hc
      obtain ⟨h5, h6⟩ := cond_some h4
      cases h6
      have h5 : c.toNat + 1 ≤ 128 := of_ble h5
      rw [nthB_get] at hc
      obtain ⟨hlt, hval⟩ := Array.getElem?_eq_some_iff.1 hc
      have hlt : pos < b.size := hlt
      have hdec : Utf8.decode b pos = (c.toNat, 1) := by
        have hg0 : b.get! (pos + 0) = c := by
          show b.data.getD (pos + 0) _ = c
          rw [Array.getD_eq_getD_getElem?, Nat.add_zero, hc]
          rfl
        unfold Utf8.decode
        simp only [hg0]
        rw [if_pos (by omega)]
      have ht := hr.turn (s' := s.put ad.block (.sIter b (pos + 1))) (o' := .stringIter b (pos + 1)) hg hb (fun c => S.get_put _ _ _ _) rfl ⟨q0, rfl⟩
      have hso := run_setObj (P := P) q2 (by simp) (.stringIter b (pos + 1))
      refine ⟨ρ, _, .tuple #[.bool true, goInt pos, .int .i32 c.toNat], ?_, ht.1, ht.2, ?_⟩
      · simp [Instr.next, hgo, hlt, hdec, hso]
      · simp only [VRel, ARel_iff, LRel]
        exact ⟨_, rfl, _, _, rfl, rfl, _, _, rfl, rfl, _, _, rfl, rfl, rfl⟩
    · rename_i hc
      obtain ⟨h5, h6⟩ := cond_some h4
      cases h6
      have h5 := of_ble h5
      rw [lenB_eq] at h5
      have h5 : ¬ pos < b.size := by
        have : b.data.toList.length = b.size := rfl
        omega
      refine ⟨ρ, w, .tuple #[.bool false], ?_, hr, Goes.refl _ _ _, ?_⟩
      · simp [Instr.next, hgo, h5]
      · simp only [VRel, ARel_iff, LRel]
        exact ⟨_, rfl, _, _, rfl, rfl, rfl⟩
  · cases h4

end Go.Ac
end
section
namespace Go.Ac
variable {P : Program} {tab : Tab} {C : Cx} {ρ : Rn} {s : S} {w : World} (tok : TabOk P tab)

theorem lies_bytes {e : TypeId} (hc : P.cellsOf e = 1) (count off n : Nat) (hn : off + n ≤ count) : liesAt P P.depth e count off e n = true := by
  have hd : P.depth = (2 * (P.types.size + Made.depth) + 1) + 1 := rfl
  rw [hd]
  simp only [liesAt, Bool.or_eq_true]
  left
  rw [hd]
  simp [rowAt, hc, hn, sameLayout, Nat.mod_one]

theorem run_loadBytes' : ∀ (ns : List Nat) (a : Addr) (acc : ByteArray), (∀ j y, (ns.map (fun n : Nat => Value.int .u8 n))[j]? = some y → w.cell? (a.add j) = some y) → a.spot = none →
    (loadBytes a acc ns.length).run P w = .ok ⟨acc.data ++ (ns.map UInt8.ofNat).toArray⟩ w
  | [], a, acc, _, _ => by simp [loadBytes]
  | n :: ns, a, acc, h, hs => by
    have h0 : w.cell? a = some (.int .u8 n) := by
      have := h 0 _ rfl
      simpa [Addr.add] using this
    obtain ⟨b, o, sp⟩ := a
    simp only at hs
    subst hs
    have ih := run_loadBytes' ns ((⟨b, o, none⟩ : Addr).add 1) (acc.push (UInt8.ofNat n)) (fun j y hy => by
      have := h (j + 1) y (by simpa using hy)
      rw [addr_add] at this ⊢
      rw [addr_add, Nat.add_assoc, Nat.add_comm 1 j]
      exact this) (by rw [addr_add])
    have hx : ((n : Int).toNat).toUInt8 = UInt8.ofNat n := by simp
    simp only [List.length_cons, loadBytes, Sem.run_bind, run_load, h0, Result.andThen, hx]
    rw [ih]
    congr 1
    apply ByteArray.ext
    simp [ByteArray.push]

/-- bytes that are frozen: the block is no one's then -/
theorem HRel.freeze (h : HRel C ρ s w) {b : Nat} {o₀ : AO} {rb : RB} (hb : s.get b = some o₀) (hr : ρ b = some rb) (off n : Nat) : HRel C ρ (s.kill b) (w.freeze ⟨rb.blk, off, none⟩ n) ∧ Goes ρ s w ρ (s.kill b) (w.freeze ⟨rb.blk, off, none⟩ n) := by
  by_cases hn : n = 0
  · have : w.freeze ⟨rb.blk, off, none⟩ n = w := by unfold World.freeze; rw [if_pos hn]
    rw [this]
    exact ⟨h.kill b, Goes.kill b⟩
  · have hsz : (w.freeze ⟨rb.blk, off, none⟩ n).heap.size = w.heap.size := by unfold World.freeze; rw [if_neg hn]; simp
    have hget : ∀ i, i ≠ rb.blk → (w.freeze ⟨rb.blk, off, none⟩ n).heap[i]? = w.heap[i]? := by
      intro i hi
      unfold World.freeze
      rw [if_neg hn]
      show (w.heap.modify rb.blk _)[i]? = _
      rw [Array.getElem?_modify, if_neg (Ne.symm hi)]
    have hkill : ∀ c x, (s.kill b).get c = some x → s.get c = some x ∧ c ≠ b := by
      intro c x hx
      rw [S.get_kill] at hx
      split at hx
      · cases hx
      · rename_i h1; exact ⟨hx, h1⟩
    constructor
    · constructor
      · rw [hsz]; exact h.low
      · exact h.glob
      · intro c x hc
        obtain ⟨hg, hne⟩ := hkill c x hc
        obtain ⟨rc, h1, hN, oc, h2, h3⟩ := h.live _ _ hg
        exact ⟨rc, h1, hN, oc, by rw [hget _ fun e => hne (h.inj _ _ _ _ _ _ hg hb h1 hr e)]; exact h2, h3⟩
      · intro b₁ b₂ o₁ o₂ r₁ r₂ e₁ e₂
        exact h.inj _ _ _ _ _ _ (hkill _ _ e₁).1 (hkill _ _ e₂).1
      · intro c rc hc
        rw [hsz]; exact h.fresh c rc hc
    · constructor
      · exact Rn.le_refl ρ
      · rintro i ⟨c, x, rc, e, hc, hi⟩
        exact .inl ⟨c, x, rc, (hkill _ _ e).1, hc, hi⟩
      · intro i hi hno
        exact hget i fun e => hno ⟨b, o₀, rb, hb, hr, e.symm⟩
      · rw [hsz]; exact Nat.le_refl _
      · unfold World.freeze; rw [if_neg hn]
      · unfold World.freeze; rw [if_neg hn]
      · unfold World.freeze; rw [if_neg hn]
      · exact fun _ _ => rfl
      · exact Nat.le_refl _

include tok in
theorem unsafeString_ok (hr : HRel C ρ s w) {pt u : Nat} {rest : List TypeId} {T : Nat} (hd : tab.desc pt = some (.pointer u)) (hu : tab.size u = some 1) {p p' n n' v : Value} {s' : S} (hp : VRel ρ p p') (hn : VRel ρ n n') (h : vUnsafeString u s p n = some (v, s')) :
    ActOk P C ρ s w (Builtin.unsafeString_ (pt :: rest).toArray T #[p', n']) v s' := by
  obtain ⟨ad, h1, h2⟩ := onOpt_some h
  obtain ⟨k, h3, h4⟩ := onOpt_some h2
  obtain rfl := vP_some h1
  split at h4
  · rename_i c size e hg
    obtain ⟨h5, h6⟩ := cond_some h4
    simp only [Bool.and_eq_true] at h5
    have he := of_beq h5.1.1
    subst he
    have hin : ad.off + k ≤ size := of_ble h5.1.2
    have hmaxk : k ≤ 9223372036854775807 := of_ble h5.2
    split at h6
    · rename_i v₀ hs
      cases h6
      obtain ⟨l, r, q1, q2, rfl⟩ := strOf_some hs
      obtain ⟨rb, cs, e', fr, g1, gN, g2, g3, g4, g5, g6, g7, rfl⟩ := hr.cells hg
      have hread : s.read ad.block ad.off k = some l := by unfold S.read; rw [hg]; exact q1
      obtain ⟨rb', l', r1, r2, r3, r4, r5⟩ := hr.read hread
      rw [g1] at r1; cases r1
      obtain ⟨rb', hb, rfl⟩ := hp.ptr
      rw [g1] at hb; cases hb
      obtain ⟨kd, rfl⟩ := natOf_some h3
      obtain rfl := hn.int
      obtain ⟨ns, rfl, rfl⟩ := bytes_rel r2 q2
      have hlen : ns.length = k := by simpa using r3
      have hfz := hr.freeze hg g1 (rb.base + ad.off) k
      have hcell : P.cellsOf e' = 1 := (run_cellsOf tok hu).1
      have hroom : k = 0 ∨ rb.base + ad.off + k ≤ cs.size := by
        by_cases hk : k = 0
        · exact .inl hk
        · obtain ⟨_, x, hx, _⟩ := g6 (ad.off + k - 1) _ (List.getElem?_eq_getElem (by omega))
          have := (Array.getElem?_eq_some_iff.1 hx).1
          right; omega
      have hsh : w.shape? rb.blk = some (e', cs.size) := by unfold World.shape?; rw [g2]
      have hload := run_loadBytes' (P := P) (w := w) ns ⟨rb.blk, rb.base + ad.off, none⟩ .empty (fun j y hj => by rw [addr_add]; exact r5 j y hj) rfl
      rw [hlen] at hload
      have hval : (⟨ByteArray.empty.data ++ (ns.map UInt8.ofNat).toArray⟩ : ByteArray) = ⟨⟨ns.map UInt8.ofNat⟩⟩ := by
        apply ByteArray.ext
        show (#[] : Array UInt8) ++ (ns.map UInt8.ofNat).toArray = _
        simp
      rw [hval] at hload
      have hmax : IntKind.i64.max = 9223372036854775807 := by decide
      refine ⟨ρ, _, .string ⟨⟨ns.map UInt8.ofNat⟩⟩, ?_, hfz.1, hfz.2, VRel.mkStr _⟩
      by_cases hk : k = 0
      · subst hk
        have : ns = [] := List.length_eq_zero_iff.1 hlen
        subst this
        have hfr : w.freeze ⟨rb.blk, rb.base + ad.off, none⟩ 0 = w := by unfold World.freeze; rw [if_pos rfl]
        rw [hfr]
        change (asInt (Value.int _ _) >>= _).run P w = _
        simp [asInt, asIntOf, hmax]
        rfl
      · have hla := lies_bytes (P := P) hcell cs.size (rb.base + ad.off) k (hroom.resolve_left hk)
        have hgt : ¬ ((k : Int) > 9223372036854775807) := by omega
        change (asInt (Value.int _ _) >>= _).run P w = _
        simp [asInt, asIntOf, hmax, hgt, hk, variablesAt, elemOf, tok.run_underlying hd, hsh, hcell, hla, hload]
        intro hlt
        omega
    · cases h6
  · cases h4

end Go.Ac
end
section
namespace Go.Ac
variable {P : Program} {tab : Tab} {C : Cx} {ρ : Rn} {s : S} {w : World} (tok : TabOk P tab)

/-- an operation that goes one of several ways -/
def ManyOk (P : Program) (C : Cx) (ρ : Rn) (s : S) (w : World) (e : Sem Value) (l : List (Value × S)) : Prop := ∃ q ∈ l, ActOk P C ρ s w e q.1 q.2

theorem memN_eq (n : Nat) : ∀ l : List Nat, memN n l = l.contains n
  | [] => rfl
  | x :: xs => by
    unfold memN
    cases h : Nat.beq x n with
    | true => have := of_beq h; subst this; simp
    | false =>
      have hne : ¬ x = n := fun e => by rw [beqT e] at h; cases h
      rw [cond_false, memN_eq n xs]
      simp [List.contains_cons, Ne.symm hne]

theorem leftOf_rel (seen : List Nat) : ∀ {es : List AEntry} {m : List MapEntry}, ERel ρ es m → ERel ρ (leftOf seen es) (m.filter fun e => !seen.contains e.born)
  | [], m, h => by
    simp only [ERel] at h
    subst h
    simp [leftOf, ERel]
  | e :: es, m, h => by
    simp only [ERel] at h
    obtain ⟨e', r, rfl, h1, h2, h3, h4⟩ := h
    have ih := leftOf_rel seen h4
    unfold leftOf
    rw [memN_eq]
    cases hc : seen.contains e.born with
    | true =>
      rw [List.filter_cons_of_neg (by simp only [h1, hc]; simp)]
      exact ih
    | false =>
      rw [List.filter_cons_of_pos (by simp only [h1, hc]; simp)]
      simp only [cond_false, ERel]
      exact ⟨e', _, rfl, h1, h2, h3, ih⟩

theorem allOlder_rel {since : Nat} : ∀ {es : List AEntry} {m : List MapEntry}, ERel ρ es m → allOlder since es = true → ∀ e ∈ m, e.born < since
  | [], m, h, _ => by
    simp only [ERel] at h
    subst h
    simp
  | e :: es, m, h, ha => by
    simp only [ERel] at h
    obtain ⟨e', r, rfl, h1, h2, h3, h4⟩ := h
    unfold allOlder at ha
    obtain ⟨hb, ha⟩ : Nat.ble (Nat.succ e.born) since = true ∧ allOlder since es = true := by
      cases hq : Nat.ble (Nat.succ e.born) since with
      | true => rw [hq] at ha; exact ⟨rfl, ha⟩
      | false => rw [hq] at ha; cases ha
    have hb : e.born + 1 ≤ since := of_ble hb
    intro x hx
    rcases List.mem_cons.1 hx with rfl | hx
    · omega
    · exact allOlder_rel h4 ha x hx

theorem picks_mem {s : S} {b m since : Nat} {seen : List Nat} {clock : Nat} : ∀ {l : List AEntry} {i : Nat} {e : AEntry}, nthE i l = some e →
    ((Value.tuple #[.bool true, e.key, e.val], s.put b (.mIter (some m) since (seen ++ [e.born]) clock)) : Value × S) ∈ picks s b m since seen clock l
  | [], i, e, h => by cases i <;> cases h
  | x :: xs, 0, e, h => by cases h; exact List.mem_cons_self
  | x :: xs, i + 1, e, h => List.mem_cons_of_mem _ (picks_mem (i := i) h)

theorem ERel.nth' : ∀ {i : Nat} {l : List AEntry} {m : List MapEntry}, ERel ρ l m → ∀ {x' : MapEntry}, m[i]? = some x' → ∃ x, nthE i l = some x ∧ x'.born = x.born ∧ VRel ρ x.key x'.key ∧ VRel ρ x.val x'.val
  | i, [], m, h, x', hx => by
    simp only [ERel] at h
    subst h
    simp at hx
  | 0, y :: l, m, h, x', hx => by
    simp only [ERel] at h
    obtain ⟨e', r, rfl, h1, h2, h3, h4⟩ := h
    simp at hx
    subst hx
    exact ⟨y, rfl, h1, h2, h3⟩
  | i + 1, y :: l, m, h, x', hx => by
    simp only [ERel] at h
    obtain ⟨e', r, rfl, h1, h2, h3, h4⟩ := h
    obtain ⟨x, k1, k2⟩ := ERel.nth' h4 (by simpa using hx)
    exact ⟨x, k1, k2⟩

theorem run_mapNext (n : Nat) (hn : n ≠ 0) : ∃ i d, i < n ∧ (choose (.mapNext n)).run P w = .ok i { w with drawn := d } := by
  by_cases h1 : n ≤ 1
  · refine ⟨0, w.drawn, by omega, ?_⟩
    show (if (Question.mapNext n).forced then _ else _) = _
    have : (Question.mapNext n).forced = true := by simp [Question.forced, h1]
    rw [if_pos this]
    rfl
  · refine ⟨w.tape w.drawn (.mapNext n) % n, w.drawn + 1, Nat.mod_lt _ (by omega), ?_⟩
    show (if (Question.mapNext n).forced then _ else _) = _
    have : ¬ (Question.mapNext n).forced = true := by simp [Question.forced]; omega
    rw [if_neg this]
    rfl

theorem nextMap_ok (hr : HRel C ρ s w) {T : Nat} {it it' : Value} {l : List (Value × S)} (hi : VRel ρ it it') (h : vNextMap s it = some l) : ManyOk P C ρ s w (Instr.next it' false T) l := by
  obtain ⟨ad, h1, h2⟩ := onOpt_some h
  obtain ⟨h3, h4⟩ := cond_some h2
  obtain rfl := vP_some h1
  have h3 := of_beq h3
  obtain ⟨rb, hb, rfl⟩ := hi.ptr
  have hover : VRel ρ (.tuple #[.bool false]) (.tuple #[.bool false]) := by
    simp only [VRel, ARel_iff, LRel]
    exact ⟨_, rfl, _, _, rfl, rfl, rfl⟩
  unfold vNextMapAt at h4
  split at h4
  · rename_i since seen stepped hg
    cases h4
    obtain ⟨rb', q1, hN, o', q2, q0, q3⟩ := hr.live _ _ hg
    rw [hb] at q1; cases q1
    subst q3
    have h0 : rb.base + ad.off = 0 := by omega
    rw [h0]
    have hgo := run_getObj (P := P) q2 (by simp)
    exact ⟨_, List.mem_cons_self, ρ, w, _, by simp [Instr.next, hgo], hr, Goes.refl _ _ _, hover⟩
  · rename_i m since seen last hg
    obtain ⟨rb', q1, hN, o', q2, q0, rm, q3, rfl⟩ := hr.live _ _ hg
    rw [hb] at q1; cases q1
    have h0 : rb.base + ad.off = 0 := by omega
    rw [h0]
    have hgo := run_getObj (P := P) q2 (by simp)
    split at h4
    · rename_i es clock hsm
      obtain ⟨h5, h6⟩ := cond_some h4
      simp only [Bool.and_eq_true] at h5
      have hold := h5.1.1
      have hl := of_beq h5.1.2
      have hc := of_beq h5.2
      subst hl; subst hc
      obtain ⟨rb', es', k1, k2, k3, k4⟩ := map_there hr hsm
      rw [q3] at k1; cases k1
      have hgm := run_getObj (P := P) k3 (by simp)
      have hall := allOlder_rel k4 hold
      have hL := leftOf_rel seen k4
      -- what the machine asks first
      have hfirst : ((!seen.toArray.isEmpty && !es'.isEmpty) && es'.all (fun e => decide (e.born ≥ clock))) = false := by
        by_cases hemp : es'.toList = []
        · have : es' = #[] := Array.ext' hemp
          subst this
          simp
        · obtain ⟨x, xs, hx⟩ := List.exists_cons_of_ne_nil hemp
          have hx0 := hall x (by rw [hx]; simp)
          have : es'.all (fun e => decide (e.born ≥ clock)) = false := by
            rw [← Array.all_toList, hx]
            simp
            intro h
            omega
          rw [this]; simp
      have hleft : (es'.filter fun e => !seen.toArray.contains e.born).toList = es'.toList.filter fun e => !seen.contains e.born := by
        rw [Array.toList_filter]
        simp
      obtain ⟨left, hleftdef⟩ : ∃ left, left = es'.filter fun e => !seen.toArray.contains e.born := ⟨_, rfl⟩
      rw [← hleftdef] at hleft
      rw [← hleft] at hL
      have hmem : ∀ e ∈ left.toList, e.born < clock := by
        intro e he
        rw [hleft] at he
        exact hall e (List.mem_filter.1 he).1
      have hOld : left.filter (fun e => decide (e.born < clock)) = left := by
        apply Array.ext'
        rw [Array.toList_filter]
        exact List.filter_eq_self.2 fun e he => by simpa using hmem e he
      have hNew : left.filter (fun e => decide (e.born ≥ clock)) = #[] := by
        apply Array.ext'
        rw [Array.toList_filter]
        exact List.filter_eq_nil_iff.2 fun e he => by have := hmem e he; simp; omega
      have hcl : (clock ≤ clock) = True := by simp
      obtain ⟨cands, hcands⟩ : ∃ cands : Array (Option MapEntry), cands = (if left.isEmpty then #[none] else #[]) ++ left.map some := ⟨_, rfl⟩
      have hrun : (Instr.next (.pointer (some ⟨rb.blk, 0, none⟩)) false T).run P w = ((choose (.mapNext cands.size)).bind fun i => match cands[i]? with
          | some (some e) => (setObj rb.blk (.mapIter (some rm.blk) clock (seen.toArray.push e.born) clock)).bind fun _ => .pure (.tuple #[.bool true, e.key, e.val])
          | some none => .pure (.tuple #[.bool false])
          | none => stuck "Next: no such candidate").run P w := by
        simp only [Instr.next, Sem.run_bind, hgo, Result.andThen_ok, hgm]
        rw [hfirst]
        simp only [Bool.false_eq_true, if_false, ← hleftdef, hOld, hNew, Array.append_empty, ← hcands]
        rfl
      cases hls : leftOf seen es with
      | nil =>
        rw [hls] at hL h6
        simp only [ERel] at hL
        have hle : left = #[] := Array.ext' hL
        cases h6
        subst hle
        have hc1 : cands = #[none] := by rw [hcands]; simp
        refine ⟨_, List.mem_cons_self, ρ, w, .tuple #[.bool false], ?_, hr, Goes.refl _ _ _, hover⟩
        rw [hrun, hc1]
        rfl
      | cons x xs =>
        rw [hls] at hL h6
        cases h6
        have hne : left.isEmpty = false := by
          simp only [ERel] at hL
          obtain ⟨e', r, hx, _⟩ := hL
          have : left ≠ #[] := fun e => by rw [e] at hx; cases hx
          simpa using this
        have hc1 : cands = left.map some := by rw [hcands, hne]; simp
        have hsz : cands.size = left.size := by rw [hc1]; simp
        have hpos : left.size ≠ 0 := by
          intro e
          have : left = #[] := Array.eq_empty_of_size_eq_zero e
          rw [this] at hne
          cases hne
        obtain ⟨i, d, hi, hch⟩ := run_mapNext (P := P) (w := w) left.size hpos
        have hget : cands[i]? = some (some left[i]) := by rw [hc1]; simp [hi]
        obtain ⟨e, f1, f2, f3, f4⟩ := ERel.nth' hL (i := i) (x' := left[i]) (by simp [hi])
        have hso := run_setObj (P := P) (w := { w with drawn := d }) q2 (by simp) (.mapIter (some rm.blk) clock (seen.toArray.push left[i].born) clock)
        have ht := (hr.drawn d).turn (s' := s.put ad.block (.mIter (some m) clock (seen ++ [e.born]) clock)) (o' := .mapIter (some rm.blk) clock (seen.toArray.push left[i].born) clock) hg hb (fun c => S.get_put _ _ _ _) rfl ⟨q0, rm, q3, by rw [f2]; simp⟩
        refine ⟨_, picks_mem (i := i) f1, ρ, _, .tuple #[.bool true, left[i].key, left[i].val], ?_, ht.1, (Goes.drawn d).trans ht.2, ?_⟩
        · rw [hrun, hsz, Sem.run_bind', hch]
          simp only [Result.andThen_ok, hget]
          rw [Sem.run_bind', hso]
          rfl
        · simp only [VRel, ARel_iff, LRel]
          exact ⟨_, rfl, _, _, rfl, rfl, _, _, rfl, f3, _, _, rfl, f4, rfl⟩
    · cases h4
  · cases h4

end Go.Ac
end
section
namespace Go.Ac
variable {P : Program} {tab : Tab} {C : Cx} {ρ : Rn} {s : S} {w : World} (tok : TabOk P tab)

/-- a function value that an operation makes is none of a loop's -/
def opFnOk : Op → Bool
  | .makeFunc fn _ _ => fnOk fn
  | _ => true

def operOk (n G : Nat) (o : Oper) : Bool := (opOps o.op).all (opOk n G) && opFnOk o.op && (match o.dst with
  | none => true
  | some d => Nat.ble (d + 1) n)

section ops
variable {a : A} {a' : Act} {o : Oper}

theorem operOk_opd (ho : operOk a'.tmps.size C.G o = true) {x : Operand} (hx : x ∈ opOps o.op) : opOk a'.tmps.size C.G x = true := by
  unfold operOk at ho
  simp only [Bool.and_eq_true] at ho
  exact List.all_eq_true.1 ho.1.1 x hx

theorem opdO_rel (hr : HRel C ρ s w) (ha : AcRel ρ a a') {x : Option Operand} (hx : ∀ y, x = some y → opOk a'.tmps.size C.G y = true) : ORelV ρ ((opdO x).get a) (x.map a'.eval) := by
  cases x with
  | none => rfl
  | some y => exact ⟨_, rfl, opd_rel hr ha (hx y rfl)⟩

theorem opds_rel (hr : HRel C ρ s w) (ha : AcRel ρ a a') : ∀ {l : List (Nat × Operand)}, (∀ x ∈ l, opOk a'.tmps.size C.G x.2 = true) → PRel ρ ((opds l).get a) (l.map fun x => (x.1, a'.eval x.2))
  | [], _ => by show PRel ρ [] []; simp [PRel]
  | (i, x) :: l, hl => by
    show PRel ρ ((i, (opd x).get a) :: (opds l).get a) _
    simp only [List.map_cons, PRel]
    exact ⟨_, _, rfl, opd_rel hr ha (hl (i, x) (by simp)), opds_rel hr ha fun y hy => hl y (by simp [hy])⟩

theorem runv {e : Sem Value} {v : Value} {w' : World} (h : e.run P w = .ok v w') : (do pure (.value (← e)) : Sem Next).run P w = .ok (.value v) w' := by
  rw [Sem.run_bind, h]; rfl
theorem runu {e : Sem Unit} {w' : World} (h : e.run P w = .ok () w') : (do e; pure .skip : Sem Next).run P w = .ok .skip w' := by
  rw [Sem.run_bind, h]; rfl

theorem oOf_some {α β : Type} {x : Option α} {f : α → COp} (h : oOf x f .bad ≠ .bad) : ∃ y, x = some y := by
  cases x with
  | none => exact absurd rfl h
  | some y => exact ⟨y, rfl⟩

/-- what is moved -/
theorem movOp_ok (hr : HRel C ρ s w) (ha : AcRel ρ a a') (ho : operOk a'.tmps.size C.G o = true) {f : A → Value} (hc : compileOp tab o = .mov f) : ∃ v', (execOp a'.eval o).run P w = .ok (.value v') w ∧ VRel ρ (f a) v' := by
  have hx := fun {x} => operOk_opd (C := C) (a' := a') (o := o) ho (x := x)
  cases hop : o.op
  all_goals (rw [hop] at hx; unfold compileOp at hc; rw [hop] at hc; simp only at hc)
  case move x => cases hc; exact ⟨_, by unfold execOp; rw [hop]; rfl, opd_rel hr ha (hx (by simp [opOps]))⟩
  case assign x => cases hc; exact ⟨_, by unfold execOp; rw [hop]; rfl, opd_rel hr ha (hx (by simp [opOps]))⟩
  all_goals (try simp only [convC, sliceC, builtinC, callC, oOf, cond_eq_ite] at hc)
  all_goals (repeat' split at hc)
  all_goals first | (cases hc; done) | contradiction

theorem desc_agg {t : TypeId} {g : Bool} (h : tab.agg t = some g) : ∃ d, tab.desc t = some d := by
  unfold Tab.agg at h
  cases h1 : tab.desc t with
  | none => rw [h1] at h; cases h
  | some d => exact ⟨d, rfl⟩

/-- what needs no memory -/
theorem pureOp_ok (tok : TabOk P tab) (hz : ZerosOk tab) (hr : HRel C ρ s w) (ha : AcRel ρ a a') (ho : operOk a'.tmps.size C.G o = true) {f : A → Option Value} (hc : compileOp tab o = .pure f) {v : Value} (h : f a = some v) :
    ∃ v', (execOp a'.eval o).run P w = .ok (.value v') w ∧ VRel ρ v v' := by
  have hx := fun {x} => operOk_opd (C := C) (a' := a') (o := o) ho (x := x)
  have hfn : opFnOk o.op = true := by
    unfold operOk at ho
    simp only [Bool.and_eq_true] at ho
    exact ho.1.2
  have rel : ∀ x, x ∈ opOps o.op → VRel ρ ((opd x).get a) (a'.eval x) := fun x hm => opd_rel hr ha (hx hm)
  have fin : ∀ {e : Sem Value}, (∃ v', e.run P w = .ok v' w ∧ VRel ρ v v') → execOp a'.eval o = (do pure (.value (← e)) : Sem Next) → ∃ v', (execOp a'.eval o).run P w = .ok (.value v') w ∧ VRel ρ v v' := by
    rintro e ⟨v', h1, h2⟩ he
    exact ⟨v', by rw [he]; exact runv h1, h2⟩
  cases hop : o.op
  all_goals (rw [hop] at hx rel hfn; unfold compileOp at hc; rw [hop] at hc; simp only at hc)
  case pick c x y =>
    cases hc
    obtain ⟨v', h1, h2⟩ := pick_ok (P := P) (w := w) (rel c (by simp [opOps])) (rel x (by simp [opOps])) (rel y (by simp [opOps])) h
    refine ⟨v', ?_, h2⟩
    unfold execOp
    rw [hop]
    simp only [Sem.run_bind]
    rw [Sem.run_bind'] at h1
    cases hb : (asBool (a'.eval c)).run P w with
    | ok b w1 =>
      rw [hb] at h1
      simp only [Result.andThen_ok] at h1 ⊢
      cases h1
      rfl
    | halt x w1 => rw [hb] at h1; cases h1
  case nilCheck x =>
    cases hc
    exact nilCheck_ok (rel x (by simp [opOps])) h o a'.eval x hop rfl
  case binOp op t x y yt =>
    cases hc
    refine fin (bin_ok tok (rel x (by simp [opOps])) (rel y (by simp [opOps])) h x y) ?_
    unfold execOp; rw [hop]; rfl
  case unOp op t x =>
    cases hc
    refine fin (unary_ok (rel x (by simp [opOps])) h) ?_
    unfold execOp; rw [hop]
  case extract x i =>
    cases hc
    refine fin (extract_ok (rel x (by simp [opOps])) h) ?_
    unfold execOp; rw [hop]
  case makeFunc fn first cap =>
    cases hc
    cases h
    refine ⟨.func fn (first.map a'.eval) (cap.map a'.eval), by unfold execOp; rw [hop]; rfl, ?_⟩
    have h1 := opdL_rel hr ha (l := first.toList) fun x hm => hx (by simp [opOps]; exact .inl (by simpa using hm))
    have h2 := opdL_rel hr ha (l := cap.toList) fun x hm => hx (by simp [opOps]; exact .inr (by simpa using hm))
    have e : ∀ (x : Array Operand), (⟨x.toList.map a'.eval⟩ : Array Value) = x.map a'.eval := fun x => by apply Array.ext'; simp
    have := makeFunc_rel hfn h1 h2
    rw [e, e] at this
    exact this
  case build t parts =>
    have hp := opds_rel hr ha (l := parts.toList) fun x hm => hx (by simp only [opOps]; exact List.mem_map.2 ⟨x, hm, rfl⟩)
    have e : (parts.toList.map fun x => (x.1, a'.eval x.2)).toArray = parts.map fun (i, x) => (i, a'.eval x) := by apply Array.ext'; simp
    split at hc
    · rename_i fs z hd h0
      unfold oOf at hc
      split at hc
      · rename_i l hl
        cases hc
        have := build_ok (P := P) (w := w) tok hz hd h0 hl hp h
        rw [e] at this
        refine fin this ?_
        unfold execOp; rw [hop]
      · cases hc
    · rename_i n el z hd h0
      unfold oOf at hc
      split at hc
      · rename_i k hk
        cases hc
        have := buildArr_ok (P := P) (w := w) tok hz hd h0 hk hp h
        rw [e] at this
        refine fin this ?_
        unfold execOp; rw [hop]
      · cases hc
    · cases hc
  case convert src dst x =>
    unfold convC at hc
    split at hc
    · rename_i k0 k hs hd
      cases hc
      refine fin (convInt_ok tok hs hd (rel x (by simp [opOps])) h) ?_
      unfold execOp; rw [hop]
    · rename_i k0 hs hd
      cases hc
      refine fin (convRune_ok tok hs hd (rel x (by simp [opOps])) h) ?_
      unfold execOp; rw [hop]
    · rename_i hs hd
      cases hc
      refine fin (convStr_ok tok hs hd (rel x (by simp [opOps])) h) ?_
      unfold execOp; rw [hop]
    · split at hc
      · unfold oOf at hc
        split at hc
        · rename_i n _
          simp only at hc
          cases hq : Nat.beq n 1 <;> rw [hq] at hc <;> cases hc
        · cases hc
      · cases hc
    · split at hc <;> cases hc
    · cases hc
  case makeInterface t x =>
    split at hc
    · cases hc
    · rename_i d hne hd
      cases hc
      cases h
      have := makeIface_ok (P := P) (w := w) tok hd (fun ms e => hne ms (by first | exact e | exact congrArg some e)) (rel x (by simp [opOps]))
      refine fin ⟨_, this.1, this.2⟩ ?_
      unfold execOp; rw [hop]
    · cases hc
  case sliceToArrayPointer t x =>
    split at hc
    · rename_i n e hd
      cases hc
      refine fin (arrPtr_ok tok hd (rel x (by simp [opOps])) h) ?_
      unfold execOp; rw [hop]
    · cases hc
  case typeAssert x xt t ok =>
    split at hc
    · cases hc
    · rename_i d hne hd
      unfold oOf at hc
      split at hc
      · rename_i z h0
        cases hc
        refine fin (assert_ok (xt := xt) tok hz hd (fun ms e => hne ms (by first | exact e | exact congrArg some e)) h0 (rel x (by simp [opOps])) h) ?_
        unfold execOp; rw [hop]
      · cases hc
    · cases hc
  case slice t x lo hi mx =>
    unfold sliceC at hc
    have hmx : hasMax hi mx = true := by
      cases hq : hasMax hi mx with
      | true => rfl
      | false => rw [hq] at hc; cases hc
    rw [hmx, cond_true] at hc
    have rlo : ORelV ρ ((opdO lo).get a) (lo.map a'.eval) := opdO_rel hr ha fun y hy => hx (by subst hy; simp [opOps, optL])
    have rhi : ORelV ρ ((opdO hi).get a) (hi.map a'.eval) := opdO_rel hr ha fun y hy => hx (by subst hy; simp [opOps, optL])
    have rmx : ORelV ρ ((opdO mx).get a) (mx.map a'.eval) := opdO_rel hr ha fun y hy => hx (by subst hy; simp [opOps, optL])
    have hms : ((opdO mx).get a).isSome → ((opdO hi).get a).isSome := by
      intro hs
      cases mx with
      | none => cases hs
      | some m => cases hi with
        | none => cases hmx
        | some q => rfl
    split at hc
    · rename_i hd
      split at hc
      · cases hc
        refine fin (sliceStr_ok tok hd (rel x (by simp [opOps])) rlo rhi h) ?_
        unfold execOp; rw [hop]; rfl
      · cases hc
    · unfold oOf at hc
      split at hc <;> cases hc
    · rename_i n el hd
      unfold oOf at hc
      split at hc
      · rename_i k hk
        cases hc
        refine fin (sliceArr_ok tok hd hk (rel x (by simp [opOps])) rlo rhi rmx hms h) ?_
        unfold execOp; rw [hop]
      · cases hc
    · cases hc
  case fieldAddr t x fi =>
    split at hc
    · rename_i fs hd
      unfold oOf at hc
      split at hc
      · rename_i fd hf
        simp only at hc
        split at hc
        · rename_i n hn
          cases hq : Nat.beq n 0 with
          | true => rw [hq] at hc; cases hc
          | false =>
            rw [hq] at hc
            cases hc
            have hn0 : n ≠ 0 := fun e => by rw [beqT e] at hq; cases hq
            refine fin (fieldAddr_ok tok hd hf hn hn0 (rel x (by simp [opOps])) h) ?_
            unfold execOp; rw [hop]
        · cases hc
      · cases hc
    · cases hc
  case field t x fi =>
    split at hc
    · rename_i fs hd
      unfold oOf at hc
      split at hc
      · rename_i fd hf
        simp only at hc
        split at hc
        · rename_i g n hg hn
          cases hc
          refine fin (field_ok tok hd hf hg hn (rel x (by simp [opOps])) h) ?_
          unfold execOp; rw [hop]
        · cases hc
      · cases hc
    · cases hc
  case indexAddr t x i =>
    split at hc
    · rename_i n el hd
      unfold oOf at hc
      split at hc
      · rename_i k hk
        cases hc
        refine fin (indexAddrArr_ok tok hd hk (rel x (by simp [opOps])) (rel i (by simp [opOps])) h) ?_
        unfold execOp; rw [hop]
      · cases hc
    · rename_i el hd
      unfold oOf at hc
      split at hc
      · rename_i k hk
        cases hc
        refine fin (indexAddr_ok tok hd hk (rel x (by simp [opOps])) (rel i (by simp [opOps])) h) ?_
        unfold execOp; rw [hop]
      · cases hc
    · cases hc
  case index t x i =>
    split at hc
    · rename_i n el hd
      split at hc
      · rename_i g k hg hk
        cases hc
        refine fin (indexArr_ok tok hd hg hk (rel x (by simp [opOps])) (rel i (by simp [opOps])) h) ?_
        unfold execOp; rw [hop]
      · cases hc
    · rename_i hd
      cases hc
      refine fin (indexStr_ok tok hd (rel x (by simp [opOps])) (rel i (by simp [opOps])) h) ?_
      unfold execOp; rw [hop]
    · cases hc
  case call c =>
    split at hc
    · rename_i b hcal
      have hargs : ∀ x ∈ c.args.toList, VRel ρ ((opd x).get a) (a'.eval x) := fun x hm => rel x (by simp only [opOps, callOps, hcal]; simpa using hm)
      have hexec : ∀ (args : List Operand), c.args.toList = args → execOp a'.eval o = builtin b c.argTypes o.type (c.args.map fun | .const _ => true | _ => false) (args.map a'.eval).toArray := by
        intro args he
        unfold execOp
        rw [hop]
        have e : c.args.map a'.eval = (args.map a'.eval).toArray := by apply Array.ext'; rw [← he]; simp
        show (do let d ← resolve a'.eval c o.type; invoke d.target d.args : Sem Next) = _
        unfold resolve
        rw [hcal]
        show invoke (.builtin b c.argTypes o.type _) (c.args.map a'.eval) = _
        rw [e]
        rfl
      have hats : ∀ (ts : List TypeId), c.argTypes.toList = ts → c.argTypes = ts.toArray := fun ts he => by apply Array.ext'; rw [he]
      unfold builtinC at hc
      split at hc
      · -- append
        split at hc
        · split at hc
          · simp only [oOf, cond_eq_ite] at hc
            repeat' split at hc
            all_goals cases hc
          · simp only [oOf, cond_eq_ite] at hc
            repeat' split at hc
            all_goals cases hc
          · cases hc
        · cases hc
      · rename_i x hal
        have hx' := hargs x (by rw [hal]; simp)
        have he := hexec [x] hal
        split at hc
        · rename_i t rest htl
          have hts := hats _ htl
          split at hc
          · rename_i hd
            cases hc
            refine fin (lenStr_ok (T := o.type) tok rest hd hx' h) ?_
            rw [he, hts]; rfl
          · rename_i el hd
            cases hc
            refine fin (len_ok (T := o.type) tok rest hd hx' h) ?_
            rw [he, hts]; rfl
          · rename_i n el hd
            cases hc
            cases h
            refine fin ⟨_, lenArr_ok (T := o.type) (w := w) tok rest hd (a'.eval x), VRel.mkInt _ _⟩ ?_
            rw [he, hts]; rfl
          · cases hc
          · cases hc
          · cases hc
        · cases hc
      · rename_i x hal
        have hx' := hargs x (by rw [hal]; simp)
        have he := hexec [x] hal
        split at hc
        · rename_i t rest htl
          have hts := hats _ htl
          split at hc
          · rename_i el hd
            cases hc
            refine fin (cap_ok (T := o.type) tok rest hd hx' h) ?_
            rw [he, hts]; rfl
          · cases hc
        · cases hc
      · rename_i x y hal
        cases hc
        refine fin (min_ok (ats := c.argTypes) (T := o.type) (hargs x (by rw [hal]; simp)) (hargs y (by rw [hal]; simp)) h) ?_
        rw [hexec [x, y] hal]; rfl
      · rename_i x y hal
        cases hc
        refine fin (max_ok (ats := c.argTypes) (T := o.type) (hargs x (by rw [hal]; simp)) (hargs y (by rw [hal]; simp)) h) ?_
        rw [hexec [x, y] hal]; rfl
      · simp only [oOf, cond_eq_ite] at hc
        repeat' split at hc
        all_goals cases hc
      · simp only [oOf, cond_eq_ite] at hc
        repeat' split at hc
        all_goals cases hc
      · repeat' split at hc
        all_goals cases hc
      · cases hc
      · rename_i x hal
        cases hc
        refine fin (sliceData_ok (ats := c.argTypes) (T := o.type) (hargs x (by rw [hal]; simp)) h) ?_
        rw [hexec [x] hal]; rfl
      · simp only [oOf, cond_eq_ite] at hc
        repeat' split at hc
        all_goals cases hc
      · cases hc
    · unfold callC at hc
      repeat' split at hc
      all_goals cases hc
  all_goals (try simp only [convC, sliceC, builtinC, callC, oOf, cond_eq_ite] at hc)
  all_goals (repeat' split at hc)
  all_goals first | (cases hc; done) | contradiction

end ops
end Go.Ac
end
section
namespace Go.Ac
variable {P : Program} {tab : Tab} {C : Cx} {ρ : Rn} {s : S} {w : World} {a : A} {a' : Act} {o : Oper}

/-- the call of a built-in, as the machine takes it -/
theorem exec_builtin {c : Call} {b : Builtin} (hop : o.op = .call c) (hcal : c.callee = .builtin b) {args : List Operand} (he : c.args.toList = args) (f : Operand → Value) :
    execOp f o = builtin b c.argTypes o.type (c.args.map fun | .const _ => true | _ => false) (args.map f).toArray := by
  unfold execOp
  rw [hop]
  have e : c.args.map f = (args.map f).toArray := by apply Array.ext'; rw [← he]; simp
  show (do let d ← resolve f c o.type; invoke d.target d.args : Sem Next) = _
  unfold resolve
  rw [hcal]
  show invoke (.builtin b c.argTypes o.type _) (c.args.map f) = _
  rw [e]
  rfl

theorem ats_eq {c : Call} {ts : List TypeId} (he : c.argTypes.toList = ts) : c.argTypes = ts.toArray := by apply Array.ext'; rw [he]

/-- what reads memory -/
theorem readOp_ok (tok : TabOk P tab) (hz : ZerosOk tab) (hC : C.ts = tab.size) (hr : HRel C ρ s w) (ha : AcRel ρ a a') (ho : operOk a'.tmps.size C.G o = true) {f : A → S → Option Value} (hc : compileOp tab o = .read f) {v : Value} (h : f a s = some v) :
    ∃ v', (execOp a'.eval o).run P w = .ok (.value v') w ∧ VRel ρ v v' := by
  have hx := fun {x} => operOk_opd (C := C) (a' := a') (o := o) ho (x := x)
  have rel : ∀ x, x ∈ opOps o.op → VRel ρ ((opd x).get a) (a'.eval x) := fun x hm => opd_rel hr ha (hx hm)
  have fin : ∀ {e : Sem Value}, (∃ v', e.run P w = .ok v' w ∧ VRel ρ v v') → execOp a'.eval o = (do pure (.value (← e)) : Sem Next) → ∃ v', (execOp a'.eval o).run P w = .ok (.value v') w ∧ VRel ρ v v' := by
    rintro e ⟨v', h1, h2⟩ he
    exact ⟨v', by rw [he]; exact runv h1, h2⟩
  cases hop : o.op
  all_goals (rw [hop] at hx rel; unfold compileOp at hc; rw [hop] at hc; simp only at hc)
  case load t x =>
    split at hc
    · rename_i n hg hn
      cases hc
      refine fin (loadN_ok tok hr hg hn (rel x (by simp [opOps])) h) ?_
      unfold execOp; rw [hop]
    · rename_i n hg hn
      cases hc
      refine fin (load1_ok tok hr hg (rel x (by simp [opOps])) h) ?_
      unfold execOp; rw [hop]
    · cases hc
  case convert src dst x =>
    unfold convC at hc
    split at hc
    · cases hc
    · cases hc
    · cases hc
    · simp only [oOf, cond_eq_ite] at hc
      repeat' split at hc
      all_goals cases hc
    · rename_i e hs hd
      split at hc
      · rename_i he
        cases hc
        refine fin (convBytes_ok tok hr hs he hd (rel x (by simp [opOps])) h) ?_
        unfold execOp; rw [hop]
      · cases hc
    · cases hc
  case slice t x lo hi mx =>
    unfold sliceC at hc
    have hmx : hasMax hi mx = true := by
      cases hq : hasMax hi mx with
      | true => rfl
      | false => rw [hq] at hc; cases hc
    rw [hmx, cond_true] at hc
    have rlo : ORelV ρ ((opdO lo).get a) (lo.map a'.eval) := opdO_rel hr ha fun y hy => hx (by subst hy; simp [opOps, optL])
    have rhi : ORelV ρ ((opdO hi).get a) (hi.map a'.eval) := opdO_rel hr ha fun y hy => hx (by subst hy; simp [opOps, optL])
    have rmx : ORelV ρ ((opdO mx).get a) (mx.map a'.eval) := opdO_rel hr ha fun y hy => hx (by subst hy; simp [opOps, optL])
    have hms : ((opdO mx).get a).isSome → ((opdO hi).get a).isSome := by
      intro hs
      cases mx with
      | none => cases hs
      | some m => cases hi with
        | none => cases hmx
        | some q => rfl
    split at hc
    · split at hc <;> cases hc
    · rename_i e hd
      unfold oOf at hc
      split at hc
      · rename_i n hn
        cases hc
        refine fin (slice_ok tok hC hr hd hn (rel x (by simp [opOps])) rlo rhi rmx hms h) ?_
        unfold execOp; rw [hop]
      · cases hc
    · unfold oOf at hc
      split at hc <;> cases hc
    · cases hc
  case lookup t x k ok =>
    split at hc
    · rename_i kt et hd
      unfold oOf at hc
      split at hc
      · rename_i z h0
        cases hc
        refine fin (lookup_ok tok hz hr hd h0 (rel x (by simp [opOps])) (rel k (by simp [opOps])) h) ?_
        unfold execOp; rw [hop]
      · cases hc
    · cases hc
  case entry it =>
    cases hc
    refine fin (entry_ok hr (rel it (by simp [opOps])) h) ?_
    unfold execOp; rw [hop]
  case call c =>
    split at hc
    · rename_i b hcal
      have hargs : ∀ x ∈ c.args.toList, VRel ρ ((opd x).get a) (a'.eval x) := fun x hm => rel x (by simp only [opOps, callOps, hcal]; simpa using hm)
      unfold builtinC at hc
      split at hc
      · simp only [oOf, cond_eq_ite] at hc
        repeat' split at hc
        all_goals cases hc
      · rename_i x hal
        have hx' := hargs x (by rw [hal]; simp)
        split at hc
        · rename_i t rest htl
          split at hc
          · cases hc
          · cases hc
          · cases hc
          · rename_i kt et hd
            cases hc
            refine fin (lenMap_ok (T := o.type) tok hr rest hd hx' h) ?_
            rw [exec_builtin hop hcal hal, ats_eq htl]; rfl
          · rename_i d el hd
            cases hc
            refine fin (lenChan_ok (T := o.type) tok hr rest hd hx' h) ?_
            rw [exec_builtin hop hcal hal, ats_eq htl]; rfl
          · cases hc
        · cases hc
      all_goals (try simp only [oOf, cond_eq_ite] at hc)
      all_goals (repeat' split at hc)
      all_goals cases hc
    · unfold callC at hc
      repeat' split at hc
      all_goals cases hc
  all_goals (try simp only [convC, sliceC, builtinC, callC, oOf, cond_eq_ite] at hc)
  all_goals (repeat' split at hc)
  all_goals first | (cases hc; done) | contradiction

/-- what makes a block -/
theorem newAt_ok (tok : TabOk P tab) (hz : ZerosOk tab) (hC : C.ts = tab.size) (hr : HRel C ρ s w) (ha : AcRel ρ a a') (ho : operOk a'.tmps.size C.G o = true) {f : A → Option (AO × (Nat → Value))} (hc : compileOp tab o = .new f) {q : AO × (Nat → Value)} (h : f a = some q) :
    ∃ w' v' o' rb, (execOp a'.eval o).run P w = .ok (.value v') w' ∧ NewW w w' o' ∧ rb.blk = w.heap.size ∧ ORel ρ C rb q.1 o' ∧ ∀ (ρ' : Rn) (r : Nat), ρ' r = some rb → VRel ρ' (q.2 r) v' := by
  have hx := fun {x} => operOk_opd (C := C) (a' := a') (o := o) ho (x := x)
  have rel : ∀ x, x ∈ opOps o.op → VRel ρ ((opd x).get a) (a'.eval x) := fun x hm => opd_rel hr ha (hx hm)
  have fin : ∀ {e : Sem Value}, NewOk P C ρ w e q.2 q.1 → execOp a'.eval o = (do pure (.value (← e)) : Sem Next) → ∃ w' v' o' rb, (execOp a'.eval o).run P w = .ok (.value v') w' ∧ NewW w w' o' ∧ rb.blk = w.heap.size ∧ ORel ρ C rb q.1 o' ∧ ∀ (ρ' : Rn) (r : Nat), ρ' r = some rb → VRel ρ' (q.2 r) v' := by
    rintro e ⟨w', v', o', rb, h1, h2⟩ he
    exact ⟨w', v', o', rb, by rw [he]; exact runv h1, h2⟩
  obtain ⟨q1, q2⟩ := q
  cases hop : o.op
  all_goals (rw [hop] at hx rel; unfold compileOp at hc; rw [hop] at hc; simp only at hc)
  case alloc e =>
    split at hc
    · rename_i n z hn h0
      unfold oOf at hc
      split at hc
      · rename_i c hcz
        simp only at hc
        cases hb : Nat.beq (lenL c) n with
        | false => rw [hb] at hc; cases hc
        | true =>
          rw [hb] at hc
          cases hc
          cases h
          have hl := of_beq hb
          rw [lenL_eq] at hl
          refine fin (alloc_ok tok hC hz hn h0 hcz hl) ?_
          unfold execOp; rw [hop]
      · cases hc
    · cases hc
  case box e x =>
    unfold oOf at hc
    split at hc
    · rename_i n hn
      cases hc
      refine fin (box_ok tok hC hn (rel x (by simp [opOps])) h) ?_
      unfold execOp; rw [hop]
    · cases hc
  case buildSlice t n parts =>
    have hp := opds_rel hr ha (l := parts.toList) fun x hm => hx (by simp only [opOps]; exact List.mem_map.2 ⟨x, hm, rfl⟩)
    have e : (parts.toList.map fun x => (x.1, a'.eval x.2)).toArray = parts.map fun (i, x) => (i, a'.eval x) := by apply Array.ext'; simp
    split at hc
    · rename_i el hd
      split at hc
      · rename_i k z hk h0
        unfold oOf at hc
        split at hc
        · rename_i c hcz
          simp only at hc
          cases hb : (Nat.beq (lenL c) k && Nat.ble (Nat.mul n k) 16777216) with
          | false => rw [hb] at hc; cases hc
          | true =>
            rw [hb] at hc
            cases hc
            simp only [Bool.and_eq_true] at hb
            have hl := of_beq hb.1
            rw [lenL_eq] at hl
            have := buildSlice_ok (P := P) (w := w) tok hC hz hd hk h0 hcz hl (of_ble hb.2) hp h
            rw [e] at this
            refine fin this ?_
            unfold execOp; rw [hop]
        · cases hc
      · cases hc
    · cases hc
  case convert src dst x =>
    unfold convC at hc
    split at hc
    · cases hc
    · cases hc
    · cases hc
    · rename_i e hs hd
      split at hc
      · rename_i he
        unfold oOf at hc
        split at hc
        · rename_i n hn
          simp only at hc
          cases hb : Nat.beq n 1 with
          | false => rw [hb] at hc; cases hc
          | true =>
            rw [hb] at hc
            cases hc
            have := of_beq hb
            subst this
            refine fin (ofStr_ok tok hC hs hd he hn (rel x (by simp [opOps])) h) ?_
            unfold execOp; rw [hop]
        · cases hc
      · cases hc
    · split at hc <;> cases hc
    · cases hc
  case makeMap t r =>
    cases r with
    | none =>
      simp only at hc
      split at hc
      · rename_i kt et hd
        cases hc
        cases h
        refine fin (makeMap_ok (t := t)) ?_
        unfold execOp; rw [hop]; rfl
      · cases hc
    | some x =>
      simp only at hc
      split at hc
      · rename_i kt et hd
        cases hc
        refine fin (makeMapHint_ok tok hd (rel x (by simp [opOps, optL])) h) ?_
        unfold execOp; rw [hop]; rfl
      · cases hc
  case makeChan t x =>
    split at hc
    · rename_i d e hd
      split at hc
      · rename_i i hi
        cases hc
        refine fin (makeChan_ok tok hd hi (rel x (by simp [opOps])) h) ?_
        unfold execOp; rw [hop]
      · cases hc
    · cases hc
  case makeSlice t l c =>
    split at hc
    · rename_i e hd
      split at hc
      · rename_i i z hi h0
        unfold oOf at hc
        split at hc
        · rename_i cz hcz
          simp only at hc
          cases hb : Nat.beq (lenL cz) i.size with
          | false => rw [hb] at hc; cases hc
          | true =>
            rw [hb] at hc
            cases hc
            have hl := of_beq hb
            rw [lenL_eq] at hl
            refine fin (makeSlice_ok tok hC hz hd hi h0 hcz hl (rel l (by simp [opOps])) (rel c (by simp [opOps])) h) ?_
            unfold execOp; rw [hop]
        · cases hc
      · cases hc
    · cases hc
  all_goals (try simp only [convC, sliceC, builtinC, callC, oOf, cond_eq_ite] at hc)
  all_goals (repeat' split at hc)
  all_goals first | (cases hc; done) | contradiction

theorem HRel.same (h : HRel C ρ s w) {w' : World} (e : w'.heap = w.heap) : HRel C ρ s w' :=
  ⟨by rw [e]; exact h.low, h.glob, by rw [e]; exact h.live, h.inj, by rw [e]; exact h.fresh⟩

/-- a new block, by the next name -/
theorem NewW.make (hr : HRel C ρ s w) {w' : World} {o : AO} {o' : Obj} {rb : RB} (hn : NewW w w' o') (hb : rb.blk = w.heap.size) (ho : ORel ρ C rb o o') : HRel C (ρ.add s.next rb) (s.new o) w' ∧ Goes ρ s w (ρ.add s.next rb) (s.new o) w' := by
  obtain ⟨h1, h2⟩ := hr.make hb ho
  have e : w'.heap = (w.alloc o').heap := hn.heap
  exact ⟨h1.same e, ⟨h2.ext, h2.img, by rw [e]; exact h2.keep, by rw [e]; exact h2.size, hn.tape, hn.os, hn.out, h2.old, h2.nxt⟩⟩

theorem newOp_ok (tok : TabOk P tab) (hz : ZerosOk tab) (hC : C.ts = tab.size) (hr : HRel C ρ s w) (ha : AcRel ρ a a') (ho : operOk a'.tmps.size C.G o = true) {f : A → Option (AO × (Nat → Value))} (hc : compileOp tab o = .new f) {q : AO × (Nat → Value)} (h : f a = some q) :
    ∃ ρ' w' v', (execOp a'.eval o).run P w = .ok (.value v') w' ∧ HRel C ρ' (s.new q.1) w' ∧ Goes ρ s w ρ' (s.new q.1) w' ∧ VRel ρ' (q.2 s.next) v' := by
  obtain ⟨w', v', o', rb, h1, h2, h3, h4, h5⟩ := newAt_ok tok hz hC hr ha ho hc h
  obtain ⟨k1, k2⟩ := h2.make hr h3 h4
  exact ⟨_, w', v', h1, k1, k2, h5 _ _ (Rn.add_at _ _ _)⟩

end Go.Ac
end
section
namespace Go.Ac
variable {P : Program} {tab : Tab} {C : Cx} {ρ : Rn} {s : S} {w : World} {a : A} {a' : Act} {o : Oper}

def isSelect : Op → Bool
  | .select _ _ => true
  | _ => false

/-- how an operation that turns the memory ends: with a value, or with none -/
def Ends (P : Program) (C : Cx) (ρ : Rn) (s : S) (w : World) (e : Sem Next) (v : Value) (s' : S) : Prop :=
  ∃ ρ' w', HRel C ρ' s' w' ∧ Goes ρ s w ρ' s' w' ∧ ((∃ v', e.run P w = .ok (.value v') w' ∧ VRel ρ' v v') ∨ (e.run P w = .ok .skip w' ∧ v = undef))

theorem Ends.val {e : Sem Value} {n : Sem Next} {v : Value} {s' : S} (h : ActOk P C ρ s w e v s') (he : n = (do pure (.value (← e)) : Sem Next)) : Ends P C ρ s w n v s' := by
  obtain ⟨ρ', w', v', h1, h2, h3, h4⟩ := h
  exact ⟨ρ', w', h2, h3, .inl ⟨v', by rw [he]; exact runv h1, h4⟩⟩
theorem Ends.unit {e : Sem Unit} {n : Sem Next} {v : Value} {s' : S} (h : UAct P C ρ s w e s') (he : n = (do e; pure .skip : Sem Next)) (hv : v = undef) : Ends P C ρ s w n v s' := by
  obtain ⟨ρ', w', h1, h2, h3⟩ := h
  exact ⟨ρ', w', h2, h3, .inr ⟨by rw [he]; exact runu h1, hv⟩⟩

theorem store_undef {n : Nat} {s s' : S} {x v u : Value} (h : vStore n s x v = some (u, s')) : u = undef := by
  obtain ⟨ad, h1, h2⟩ := onOpt_some h
  obtain ⟨c, h3, h4⟩ := onOpt_some h2
  obtain ⟨h5, h6⟩ := cond_some h4
  unfold withS at h6
  split at h6 <;> cases h6
  rfl
theorem mapUpdate_undef {e : KT} {s s' : S} {m k v u : Value} (h : vMapUpdate e s m k v = some (u, s')) : u = undef := by
  unfold vMapUpdate at h
  split at h
  · split at h
    · cases h
    · split at h
      · split at h
        · obtain ⟨_, h⟩ := cond_some h; cases h; rfl
        · cases h
      · cases h; rfl
      · cases h
  · cases h
theorem entryStore_undef {s s' : S} {m b v u : Value} (h : vEntryStore s m b v = some (u, s')) : u = undef := by
  unfold vEntryStore at h
  split at h
  · split at h
    · split at h <;> cases h
      rfl
    · cases h
  · cases h

theorem snd_of {rest : List TypeId} {t2 : TypeId} {d2 : TypeDesc} {r : List TypeId} (h : rest = t2 :: r) (hd : tab.desc t2 = some d2) (hn : ∀ k, d2 ≠ .int k) : SndOk tab rest := .inr ⟨t2, r, d2, h, hd, hn⟩

/-- what turns memory -/
theorem actOp_ok (tok : TabOk P tab) (hz : ZerosOk tab) (hC : C.ts = tab.size) (hr : HRel C ρ s w) (ha : AcRel ρ a a') (ho : operOk a'.tmps.size C.G o = true) (hsel : isSelect o.op = false) {f : A → S → Option (Value × S)} (hc : compileOp tab o = .act f) {v : Value} {s' : S} (h : f a s = some (v, s')) :
    Ends P C ρ s w (execOp a'.eval o) v s' := by
  have hx := fun {x} => operOk_opd (C := C) (a' := a') (o := o) ho (x := x)
  have rel : ∀ x, x ∈ opOps o.op → VRel ρ ((opd x).get a) (a'.eval x) := fun x hm => opd_rel hr ha (hx hm)
  cases hop : o.op
  all_goals (rw [hop] at hx rel hsel; unfold compileOp at hc; rw [hop] at hc; simp only at hc)
  case store t x y =>
    unfold oOf at hc
    split at hc
    · rename_i n hn
      cases hc
      exact Ends.unit (store_ok tok hr hn (rel x (by simp [opOps])) (rel y (by simp [opOps])) h) (by unfold execOp; rw [hop]) (store_undef h)
    · cases hc
  case mapUpdate t m k y =>
    split at hc
    · rename_i kt et hd
      cases hc
      exact Ends.unit (mapUpdate_ok tok hr hd (rel m (by simp [opOps])) (rel k (by simp [opOps])) (rel y (by simp [opOps])) h) (by unfold execOp; rw [hop]) (mapUpdate_undef h)
    · cases hc
  case insert t m k y =>
    split at hc
    · rename_i kt et hd
      cases hc
      exact Ends.unit (mapUpdate_ok tok hr hd (rel m (by simp [opOps])) (rel k (by simp [opOps])) (rel y (by simp [opOps])) h) (by unfold execOp; rw [hop]) (mapUpdate_undef h)
    · cases hc
  case mapEntry t m k =>
    split at hc
    · rename_i kt et hd
      unfold oOf at hc
      split at hc
      · rename_i z h0
        cases hc
        exact Ends.val (mapEntry_ok tok hz hr hd h0 (rel m (by simp [opOps])) (rel k (by simp [opOps])) h) (by unfold execOp; rw [hop])
      · cases hc
    · cases hc
  case entryStore t m b y =>
    cases hc
    exact Ends.unit (entryStore_ok hr (rel m (by simp [opOps])) (rel b (by simp [opOps])) (rel y (by simp [opOps])) h) (by unfold execOp; rw [hop]) (entryStore_undef h)
  case range t x =>
    split at hc
    · rename_i hd
      cases hc
      exact Ends.val (rangeStr_ok tok hr hd (rel x (by simp [opOps])) h) (by unfold execOp; rw [hop])
    · rename_i kt et hd
      cases hc
      exact Ends.val (rangeMap_ok tok hr hd (rel x (by simp [opOps])) h) (by unfold execOp; rw [hop])
    · cases hc
  case next it isS =>
    cases isS with
    | false => cases hc
    | true =>
      cases hc
      exact Ends.val (nextStr_ok (T := o.type) hr (rel it (by simp [opOps])) h) (by unfold execOp; rw [hop])
  case select cs b => cases hsel
  case call c =>
    split at hc
    · rename_i b hcal
      have hargs : ∀ x ∈ c.args.toList, VRel ρ ((opd x).get a) (a'.eval x) := fun x hm => rel x (by simp only [opOps, callOps, hcal]; simpa using hm)
      unfold builtinC at hc
      split at hc
      · rename_i x y hal
        have hx' := hargs x (by rw [hal]; simp)
        have hy' := hargs y (by rw [hal]; simp)
        split at hc
        · rename_i st rest htl
          split at hc
          · rename_i e hd
            cases hg : mayGrow tab e with
            | false => rw [hg] at hc; cases hc
            | true =>
              rw [hg, cond_true] at hc
              unfold oOf at hc
              split at hc
              · rename_i n hn
                cases hc
                exact Ends.val (append_ok (T := o.type) tok hC hz hr (.inl rfl) hd hn hg hx' hy' h) (by rw [exec_builtin hop hcal hal, ats_eq htl]; rfl)
              · cases hc
          · rename_i e t2 r2 hd
            split at hc
            · cases hc
            · rename_i d2 hne hd2
              cases hg : mayGrow tab e with
              | false => rw [hg] at hc; cases hc
              | true =>
                rw [hg, cond_true] at hc
                unfold oOf at hc
                split at hc
                · rename_i n hn
                  cases hc
                  exact Ends.val (append_ok (T := o.type) tok hC hz hr (snd_of rfl hd2 fun k e => hne k (by first | exact e | exact congrArg some e)) hd hn hg hx' hy' h) (by rw [exec_builtin hop hcal hal, ats_eq htl]; rfl)
                · cases hc
            · cases hc
          · cases hc
        · cases hc
      · repeat' split at hc
        all_goals cases hc
      · repeat' split at hc
        all_goals cases hc
      · cases hc
      · cases hc
      · rename_i x y hal
        have hx' := hargs x (by rw [hal]; simp)
        have hy' := hargs y (by rw [hal]; simp)
        split at hc
        · rename_i st rest htl
          split at hc
          · rename_i e hd
            unfold oOf at hc
            split at hc
            · rename_i n hn
              cases hc
              exact Ends.val (copy_ok (T := o.type) tok hr hd hn hx' hy' h) (by rw [exec_builtin hop hcal hal, ats_eq htl]; rfl)
            · cases hc
          · cases hc
        · cases hc
      · rename_i x hal
        have hx' := hargs x (by rw [hal]; simp)
        split at hc
        · rename_i st rest htl
          split at hc
          · rename_i e hd
            split at hc
            · rename_i n z hn h0
              unfold oOf at hc
              split at hc
              · rename_i cz hcz
                simp only at hc
                cases hb : Nat.beq (lenL cz) n with
                | false => rw [hb] at hc; cases hc
                | true =>
                  rw [hb] at hc
                  cases hc
                  have hl := of_beq hb
                  rw [lenL_eq] at hl
                  exact Ends.val (clear_ok (T := o.type) tok hz hr hd hn h0 hcz hl hx' h) (by rw [exec_builtin hop hcal hal, ats_eq htl]; rfl)
              · cases hc
            · cases hc
          · cases hc
        · cases hc
      · rename_i m k hal
        have hm' := hargs m (by rw [hal]; simp)
        have hk' := hargs k (by rw [hal]; simp)
        split at hc
        · rename_i mt rest htl
          split at hc
          · rename_i kt et hd
            cases hc
            exact Ends.val (delete_ok (T := o.type) tok hr hd hm' hk' h) (by rw [exec_builtin hop hcal hal, ats_eq htl]; rfl)
          · cases hc
        · cases hc
      · cases hc
      · cases hc
      · rename_i p n hal
        have hp' := hargs p (by rw [hal]; simp)
        have hn' := hargs n (by rw [hal]; simp)
        split at hc
        · rename_i pt rest htl
          split at hc
          · rename_i u hd
            unfold oOf at hc
            split at hc
            · rename_i k hk
              simp only at hc
              cases hb : Nat.beq k 1 with
              | false => rw [hb] at hc; cases hc
              | true =>
                rw [hb] at hc
                cases hc
                have := of_beq hb
                subst this
                exact Ends.val (unsafeString_ok (T := o.type) tok hr hd hk hp' hn' h) (by rw [exec_builtin hop hcal hal, ats_eq htl]; rfl)
            · cases hc
          · cases hc
        · cases hc
      · cases hc
    · unfold callC at hc
      repeat' split at hc
      all_goals cases hc
  all_goals (try simp only [convC, sliceC, builtinC, callC, oOf, cond_eq_ite] at hc)
  all_goals (repeat' split at hc)
  all_goals first | (cases hc; done) | contradiction

/-- the next of a map -/
theorem manyOp_ok (hr : HRel C ρ s w) (ha : AcRel ρ a a') (ho : operOk a'.tmps.size C.G o = true) {f : A → S → Option (List (Value × S))} (hc : compileOp tab o = .many f) {l : List (Value × S)} (h : f a s = some l) :
    ∃ q ∈ l, ∃ ρ' w' v', (execOp a'.eval o).run P w = .ok (.value v') w' ∧ HRel C ρ' q.2 w' ∧ Goes ρ s w ρ' q.2 w' ∧ VRel ρ' q.1 v' := by
  have hx := fun {x} => operOk_opd (C := C) (a' := a') (o := o) ho (x := x)
  cases hop : o.op
  all_goals (rw [hop] at hx; unfold compileOp at hc; rw [hop] at hc; simp only at hc)
  case next it isS =>
    cases isS with
    | true => cases hc
    | false =>
      cases hc
      obtain ⟨q, hq, ρ', w', v', h1, h2⟩ := nextMap_ok (P := P) (T := o.type) hr (opd_rel hr ha (hx (x := it) (by simp [opOps]))) h
      refine ⟨q, hq, ρ', w', v', ?_, h2⟩
      have : execOp a'.eval o = (do pure (.value (← Instr.next (a'.eval it) false o.type)) : Sem Next) := by unfold execOp; rw [hop]
      rw [this]
      exact runv h1
  all_goals (try simp only [convC, sliceC, builtinC, callC, oOf, cond_eq_ite] at hc)
  all_goals (repeat' split at hc)
  all_goals first | (cases hc; done) | contradiction

end Go.Ac
end
section
namespace Go.Ac
variable {P : Program} {tab : Tab} {C : Cx} {ρ : Rn} {s : S} {w : World} {a : A} {a' : Act} {o : Oper}

theorem exec_call {c : Call} {x : Operand} (hop : o.op = .call c) (hcal : c.callee = .value x) (f : Operand → Value) :
    execOp f o = (do let d ← Deferred.ofValue (f x) (c.args.map f); invoke d.target d.args : Sem Next) := by
  unfold execOp
  rw [hop]
  show (do let d ← resolve f c o.type; invoke d.target d.args : Sem Next) = _
  unfold resolve
  rw [hcal]

/-- what a call's function value enters -/
theorem enter_func (tok : TabOk P tab) {g : FuncId} {fn : Func} (hg : tab.funcs.get g = some fn) (first cap args : Array Value) :
    (do let d ← Deferred.ofValue (.func (.func g) first cap) args; invoke d.target d.args : Sem Next).run P w = .ok (.enter g (first ++ args ++ cap)) w := by
  show (callFunc g ((first ++ args) ++ cap)).run P w = _
  exact (tok.calls _ _ hg).2 _ _

theorem enterOp_ok (tok : TabOk P tab) (hr : HRel C ρ s w) (ha : AcRel ρ a a') (ho : operOk a'.tmps.size C.G o = true) {f : A → Option CallT} (hc : compileOp tab o = .call f) {g : FuncId} {args : List Value} (h : f a = some (.enter g args)) {fn : Func} (hg : tab.funcs.get g = some fn) :
    ∃ args' : Array Value, (execOp a'.eval o).run P w = .ok (.enter g args') w ∧ LRel ρ args args'.toList := by
  have hx := fun {x} => operOk_opd (C := C) (a' := a') (o := o) ho (x := x)
  cases hop : o.op
  all_goals (rw [hop] at hx; unfold compileOp at hc; rw [hop] at hc; simp only at hc)
  case call c =>
    have hargs : LRel ρ ((opdL c.args.toList).get a) (c.args.map a'.eval).toList := by
      have := opdL_rel hr ha (l := c.args.toList) fun x hm => hx (by simp only [opOps, callOps]; exact List.mem_append_right _ hm)
      simpa using this
    split at hc
    · unfold builtinC at hc
      simp only [oOf, cond_eq_ite] at hc
      repeat' split at hc
      all_goals cases hc
    · unfold callC at hc
      split at hc
      · rename_i g' hcal
        cases hc
        cases h
        refine ⟨#[] ++ c.args.map a'.eval ++ #[], ?_, by simpa using hargs⟩
        rw [exec_call hop hcal]
        exact enter_func tok hg #[] #[] _
      · rename_i x hne hcal
        cases hc
        have hxr : VRel ρ ((opd x).get a) (a'.eval x) := opd_rel hr ha (hx (by simp [opOps, callOps, hcal]))
        have h : vCall tab ((opd x).get a) ((opdL c.args.toList).get a) = some (.enter g args) := h
        unfold vCall at h
        split at h
        · rename_i g' first cap he
          cases h
          rw [he] at hxr
          simp only [VRel] at hxr
          obtain ⟨f', first', cap', hv, hf, h1, h2⟩ := hxr
          have hf : f' = .func g := hf
          subst hf
          rw [ARel_iff] at h1 h2
          refine ⟨first' ++ c.args.map a'.eval ++ cap', ?_, ?_⟩
          · rw [exec_call hop hcal, hv]
            exact enter_func tok hg first' cap' _
          · rw [appL_eq, appL_eq]
            simp only [Array.toList_append, List.append_assoc]
            exact h1.append (hargs.append h2)
        · cases h
        · rename_i t p g' first cap he
          obtain ⟨hp, h⟩ := cond_some h
          split at h
          · rename_i el hd
            split at h
            · cases h
            · rename_i u l hl
              cases h
              rw [he] at hxr
              simp only [VRel] at hxr
              obtain ⟨f', first', cap', hv, hf, h1, h2⟩ := hxr
              have hf : f' = .via t p g true := hf
              subst hf
              rw [ARel_iff] at h1
              have hp0 : p = #[] := Array.eq_empty_of_size_eq_zero (of_beq hp)
              subst hp0
              rw [appL_eq] at hl
              have hall := h1.append hargs
              rw [hl] at hall
              have hall2 : LRel ρ (u :: l) (first' ++ c.args.map a'.eval).toList := by rw [Array.toList_append]; exact hall
              obtain ⟨all, hdef⟩ : ∃ all, all = first' ++ c.args.map a'.eval := ⟨_, rfl⟩
              rw [← hdef] at hall2
              obtain ⟨u', hu, _⟩ := hall2.get 0 rfl
              rw [Array.getElem?_toList] at hu
              refine ⟨all, ?_, hall2⟩
              rw [exec_call hop hcal, hv]
              show (invoke (.fn (.via t #[] g true) cap') (first' ++ c.args.map a'.eval)).run P w = _
              rw [← hdef]
              have hrecv : (receiverVia t u' #[] true).run P w = .ok u' w := by
                simp [receiverVia, follow, receiverAt, tok.run_underlying hd, Place.get]
              have hback : #[u'] ++ all.extract 1 all.size = all := by
                obtain ⟨hlt, hval⟩ := Array.getElem?_eq_some_iff.1 hu
                apply Array.ext'
                rw [Array.toList_append, Array.toList_extract]
                cases hq : all.toList with
                | nil => have : all.toList.length = all.size := rfl; rw [hq] at this; simp at this; omega
                | cons y ys =>
                  have : y = u' := by
                    rw [← hval]
                    have : all.toList[0]? = some y := by rw [hq]; rfl
                    rw [Array.getElem?_toList] at this
                    exact (Option.some.inj ((Array.getElem?_eq_some_iff.2 ⟨hlt, rfl⟩).symm.trans this)).symm
                  subst this
                  have hsz : all.size = ys.length + 1 := by
                    have : all.toList.length = all.size := rfl
                    rw [hq] at this; simpa using this.symm
                  simp [hsz]
              simp only [invoke, hu, Sem.run_bind, hrecv, Result.andThen_ok]
              rw [hback]
              exact (tok.calls _ _ hg).2 _ _
          · cases h
        · cases h
      · cases hc
  all_goals (try simp only [convC, sliceC, builtinC, callC, oOf, cond_eq_ite] at hc)
  all_goals (repeat' split at hc)
  all_goals first | (cases hc; done) | contradiction

/-- a panic that the program raises -/
theorem panicOp_ok (hr : HRel C ρ s w) (ha : AcRel ρ a a') (ho : operOk a'.tmps.size C.G o = true) {f : A → Option Value} (hc : compileOp tab o = .panic f) {v : Value} (h : f a = some v) :
    ∃ v', (execOp a'.eval o).run P w = .halt (.panic v') w ∧ VRel ρ v v' := by
  have hx := fun {x} => operOk_opd (C := C) (a' := a') (o := o) ho (x := x)
  cases hop : o.op
  all_goals (rw [hop] at hx; unfold compileOp at hc; rw [hop] at hc; simp only at hc)
  case panic x =>
    cases hc
    have hxr : VRel ρ ((opd x).get a) (a'.eval x) := opd_rel hr ha (hx (by simp [opOps]))
    have h : vPanic ((opd x).get a) = some v := h
    unfold vPanic at h
    split at h
    · rename_i t y he
      cases h
      rw [he] at hxr
      refine ⟨a'.eval x, ?_, hxr⟩
      simp only [VRel] at hxr
      obtain ⟨z, hz, _⟩ := hxr
      have : execOp a'.eval o = (do pure (.value (← Instr.panic (a'.eval x))) : Sem Next) := by unfold execOp; rw [hop]
      rw [this, hz]
      rfl
    · cases h
  all_goals (try simp only [convC, sliceC, builtinC, callC, oOf, cond_eq_ite] at hc)
  all_goals (repeat' split at hc)
  all_goals first | (cases hc; done) | contradiction

/-- a call that is put off -/
theorem deferOp_ok (hr : HRel C ρ s w) (ha : AcRel ρ a a') (ho : operOk a'.tmps.size C.G o = true) {f : A → Option Deferred} (hc : compileOp tab o = .defer f) {d : Deferred} (h : f a = some d) :
    ∃ d', (execOp a'.eval o).run P w = .ok (.defer d') w ∧ DRel ρ d d' := by
  have hx := fun {x} => operOk_opd (C := C) (a' := a') (o := o) ho (x := x)
  cases hop : o.op
  all_goals (rw [hop] at hx; unfold compileOp at hc; rw [hop] at hc; simp only at hc)
  case defer c =>
    have hargs : LRel ρ ((opdL c.args.toList).get a) (c.args.map a'.eval).toList := by
      have := opdL_rel hr ha (l := c.args.toList) fun x hm => hx (by simp only [opOps, callOps]; exact List.mem_append_right _ hm)
      simpa using this
    split at hc
    · rename_i x hcal
      cases hc
      have hxr : VRel ρ ((opd x).get a) (a'.eval x) := opd_rel hr ha (hx (by simp [opOps, callOps, hcal]))
      have h : vDefer ((opd x).get a) ((opdL c.args.toList).get a) = some d := h
      unfold vDefer at h
      split at h
      · rename_i g first cap he
        cases h
        rw [he] at hxr
        simp only [VRel] at hxr
        obtain ⟨f', first', cap', hv, hf, h1, h2⟩ := hxr
        have hf : f' = .func g := hf
        subst hf
        refine ⟨{ target := .fn (.func g) cap', args := first' ++ c.args.map a'.eval }, ?_, .inr ⟨g, cap, cap', _, _, rfl, rfl, h2, ?_⟩⟩
        · unfold execOp
          rw [hop]
          show (do pure (.defer (← resolve a'.eval c o.type)) : Sem Next).run P w = _
          unfold resolve
          rw [hcal]
          show (do pure (.defer (← Deferred.ofValue (a'.eval x) (c.args.map a'.eval))) : Sem Next).run P w = _
          rw [hv]
          rfl
        · rw [ARel_iff, Array.toList_append]
          show LRel ρ (appL first.toList _) _
          rw [appL_eq]
          rw [ARel_iff] at h1
          exact h1.append hargs
      · cases h
    · cases hc
  all_goals (try simp only [convC, sliceC, builtinC, callC, oOf, cond_eq_ite] at hc)
  all_goals (repeat' split at hc)
  all_goals first | (cases hc; done) | contradiction

end Go.Ac
end
section
namespace Go.Ac
variable {P : Program} {b : Frame} {a : Act} {k : List Item} {cs : List Frame} {w w' : World} {ops : Array Oper} {i : Nat} {rest : List Nat} {o : Oper}

theorem fin_atR (ho : ops[i]? = some o) (v : Value) : (b.atR a (.inRegion ops (i :: rest) :: k)).finish v = b.atR (a.put o.dst v) (.inRegion ops rest :: k) := by
  rw [Frame.finish_atR, ho]; rfl

/-- an operation with a value -/
theorem step_value (ho : ops[i]? = some o) (hw : Region.wanted o (yielded ops a.tmps) = true) {v : Value} (h : (o.semAt b.roundOf a.eval).run P w = .ok (.value v) w') :
    step P (lone (b.atR a (.inRegion ops (i :: rest) :: k)) cs w) = .next (lone (b.atR (a.put o.dst v) (.inRegion ops rest :: k)) cs w') := by
  refine step_lone_go ?_
  rw [stepGR_op ho hw, ← fin_atR ho]
  simp [stepG.apply, h]

/-- one without -/
theorem step_none (ho : ops[i]? = some o) (hw : Region.wanted o (yielded ops a.tmps) = true) (h : (o.semAt b.roundOf a.eval).run P w = .ok .skip w') :
    step P (lone (b.atR a (.inRegion ops (i :: rest) :: k)) cs w) = .next (lone (b.atR (a.put o.dst undef) (.inRegion ops rest :: k)) cs w') := by
  refine step_lone_go ?_
  rw [stepGR_op ho hw, ← fin_atR ho]
  simp [stepG.apply, h]

/-- one that enters a function -/
theorem step_enter (ho : ops[i]? = some o) (hw : Region.wanted o (yielded ops a.tmps) = true) {f : FuncId} {args : Array Value} (h : (o.semAt b.roundOf a.eval).run P w = .ok (.enter f args) w') :
    step P (lone (b.atR a (.inRegion ops (i :: rest) :: k)) cs w) = .next (lone (Frame.enter P f args .normal) (b.atR a (.inRegion ops (i :: rest) :: k) :: cs) w') := by
  refine step_lone_go ?_
  rw [stepGR_op ho hw]
  simp [stepG.apply, h]
  rfl

/-- one that puts a call off -/
theorem step_defer (ho : ops[i]? = some o) (hw : Region.wanted o (yielded ops a.tmps) = true) {d : Deferred} (h : (o.semAt b.roundOf a.eval).run P w = .ok (.defer d) w') :
    step P (lone (b.atR a (.inRegion ops (i :: rest) :: k)) cs w) = .next (lone (b.atR ((⟨a.tmps, d :: a.defers⟩ : Act).put o.dst undef) (.inRegion ops rest :: k)) cs w') := by
  refine step_lone_go ?_
  rw [stepGR_op ho hw]
  have := fin_atR (b := b) (a := ⟨a.tmps, d :: a.defers⟩) (k := k) (rest := rest) ho undef
  rw [← this]
  simp [stepG.apply, h]
  rfl

/-- one that panics -/
theorem step_panic (ho : ops[i]? = some o) (hw : Region.wanted o (yielded ops a.tmps) = true) {v : Value} (h : (o.semAt b.roundOf a.eval).run P w = .halt (.panic v) w') :
    step P (lone (b.atR a (.inRegion ops (i :: rest) :: k)) cs w) = .next (lone { b.atR a (.inRegion ops (i :: rest) :: k) with mode := .panicking [{ v, recovered := false }] } cs w') := by
  refine step_lone_go ?_
  rw [stepGR_op ho hw, ← Frame.raise_atR]
  simp [stepG.apply, h]

end Go.Ac
end
section
namespace Go.Ac

/-! ### values that are the same -/
theorem eqK_ok {a b : IntKind} (h : eqK a b = true) : a = b := by
  cases a <;> cases b <;> first | rfl | (cases h; done)
theorem eqI_ok {a b : Int} (h : eqI a b = true) : a = b := by
  rw [eqI_eq] at h; simpa using h
theorem eqS_ok {a b : ByteArray} (h : eqS a b = true) : a = b := by
  unfold eqS at h
  rw [eqB_eq] at h
  have : a.data.toList = b.data.toList := by simpa using h
  cases a; cases b
  simp only [ByteArray.mk.injEq]
  exact Array.ext' this
theorem eqAd_ok {a b : Option Addr} (h : eqAd a b = true) : a = b := by
  cases a with
  | none => cases b with
    | none => rfl
    | some y => cases h
  | some x => cases b with
    | none => cases h
    | some y =>
      obtain ⟨b1, o1, s1⟩ := x
      obtain ⟨b2, o2, s2⟩ := y
      cases s1 with
      | some _ => cases h
      | none => cases s2 with
        | some _ => cases h
        | none =>
          have h : (Nat.beq b1 b2 && Nat.beq o1 o2) = true := h
          simp only [Bool.and_eq_true] at h
          rw [of_beq h.1, of_beq h.2]
theorem eqON_ok {a b : Option Nat} (h : eqON a b = true) : a = b := by
  cases a with
  | none => cases b with
    | none => rfl
    | some y => cases h
  | some x => cases b with
    | none => cases h
    | some y => exact congrArg some (of_beq h)
theorem eqFn_ok {a b : Fn} (h : eqFn a b = true) : a = b := by
  cases a with
  | func f => cases b with
    | func g => exact congrArg Fn.func (of_beq h)
    | _ => cases h
  | yield f => cases b with
    | yield g => exact congrArg Fn.yield (of_beq h)
    | _ => cases h
  | _ => cases h

mutual
theorem eqVal_ok : ∀ (x y : Value), eqVal x y = true → x = y
  | .bool a, y, h => by
    cases y with
    | bool b => simp only [eqVal] at h; cases a <;> cases b <;> simp_all
    | _ => simp [eqVal] at h
  | .int k n, y, h => by
    cases y with
    | int j m => simp only [eqVal, Bool.and_eq_true] at h; rw [eqK_ok h.1, eqI_ok h.2]
    | _ => simp [eqVal] at h
  | .float _ _, y, h => by simp [eqVal] at h
  | .complex _ _ _, y, h => by simp [eqVal] at h
  | .string a, y, h => by
    cases y with
    | string b => simp only [eqVal] at h; rw [eqS_ok h]
    | _ => simp [eqVal] at h
  | .pointer a, y, h => by
    cases y with
    | pointer b => simp only [eqVal] at h; rw [eqAd_ok h]
    | _ => simp [eqVal] at h
  | .slice a n c, y, h => by
    cases y with
    | slice b m d => simp only [eqVal, Bool.and_eq_true] at h; rw [eqAd_ok h.1, of_beq h.2.1, of_beq h.2.2]
    | _ => simp [eqVal] at h
  | .map a, y, h => by
    cases y with
    | map b => simp only [eqVal] at h; rw [eqON_ok h]
    | _ => simp [eqVal] at h
  | .chan a, y, h => by
    cases y with
    | chan b => simp only [eqVal] at h; rw [eqON_ok h]
    | _ => simp [eqVal] at h
  | .func f a c, y, h => by
    cases y with
    | func g b d => simp only [eqVal, Bool.and_eq_true] at h; rw [eqFn_ok h.1, eqValA_ok a b h.2.1, eqValA_ok c d h.2.2]
    | _ => simp [eqVal] at h
  | .nilFunc, y, h => by
    cases y with
    | nilFunc => rfl
    | _ => simp [eqVal] at h
  | .iface t v, y, h => by
    cases y with
    | iface u w => simp only [eqVal, Bool.and_eq_true] at h; rw [of_beq h.1, eqVal_ok v w h.2]
    | _ => simp [eqVal] at h
  | .nilIface, y, h => by
    cases y with
    | nilIface => rfl
    | _ => simp [eqVal] at h
  | .agg a, y, h => by
    cases y with
    | agg b => simp only [eqVal] at h; rw [eqValA_ok a b h]
    | _ => simp [eqVal] at h
  | .tuple a, y, h => by
    cases y with
    | tuple b => simp only [eqVal] at h; rw [eqValA_ok a b h]
    | _ => simp [eqVal] at h
theorem eqValA_ok : ∀ (a b : Array Value), eqValA a b = true → a = b
  | ⟨l⟩, b, h => by
    simp only [eqValA] at h
    apply Array.ext'
    exact eqValL_ok l b.toList h
theorem eqValL_ok : ∀ (a b : List Value), eqValL a b = true → a = b
  | [], b, h => by
    cases b with
    | nil => rfl
    | cons => simp [eqValL] at h
  | v :: l, b, h => by
    cases b with
    | nil => simp [eqValL] at h
    | cons w m =>
      simp only [eqValL, Bool.and_eq_true] at h
      rw [eqVal_ok v w h.1, eqValL_ok l m h.2]
end

theorem eqRope_ok : ∀ (x y : Rope), eqRope x y = true → x = y
  | .leaf a, y, h => by
    cases y with
    | leaf b => simp only [eqRope] at h; rw [eqValL_ok _ _ h]
    | app r l => simp [eqRope] at h
  | .app r a, y, h => by
    cases y with
    | leaf b => simp [eqRope] at h
    | app q b => simp only [eqRope, Bool.and_eq_true] at h; rw [eqRope_ok r q h.1, eqValL_ok _ _ h.2]
theorem eqEs_ok : ∀ (x y : List AEntry), eqEs x y = true → x = y
  | [], y, h => by
    cases y with
    | nil => rfl
    | cons => simp [eqEs] at h
  | x :: l, y, h => by
    cases y with
    | nil => simp [eqEs] at h
    | cons z m =>
      simp only [eqEs, Bool.and_eq_true] at h
      obtain ⟨h1, h2, h3, h4⟩ := h
      obtain ⟨k, v, b⟩ := x
      obtain ⟨k', v', b'⟩ := z
      have e1 := of_beq h1
      have e2 := eqVal_ok _ _ h2
      have e3 := eqVal_ok _ _ h3
      simp only at e1 e2 e3
      rw [e1, e2, e3, eqEs_ok l m h4]
theorem eqNs_ok : ∀ (x y : List Nat), eqNs x y = true → x = y
  | [], y, h => by
    cases y with
    | nil => rfl
    | cons => simp [eqNs] at h
  | x :: l, y, h => by
    cases y with
    | nil => simp [eqNs] at h
    | cons z m =>
      simp only [eqNs, Bool.and_eq_true] at h
      rw [of_beq h.1, eqNs_ok l m h.2]
theorem eqAO_ok {x y : AO} (h : eqAO x y = true) : x = y := by
  cases x <;> cases y <;> simp only [eqAO, Bool.and_eq_true] at h <;> try (cases h; done)
  · rw [of_beq h.1, of_beq h.2.1, eqRope_ok _ _ h.2.2]
  · rw [of_beq h.1, eqEs_ok _ _ h.2]
  · rw [of_beq h.1, eqS_ok h.2]
  · rw [eqON_ok h.1, of_beq h.2.1, of_beq h.2.2.1, eqNs_ok _ _ h.2.2.2]

/-! ### what a piece of code has touched -/
def notLoop : AO → Bool
  | .loop _ => false
  | _ => true
structure LogOk (s s' : S) : Prop where
  log : ∃ l, s'.log = l ++ s.log ∧ s'.cnt = l.length + s.cnt ∧ ∀ b, b ∉ l → s'.get b = s.get b
  nxt : s.next ≤ s'.next
  loops : ∀ b, b < s.next → ∀ r', s'.get b = some (.loop r') → ∃ r, s.get b = some (.loop r) ∧ r' = r.set r'.state r'.pending

theorem LogOk.refl (s : S) : LogOk s s := ⟨⟨[], rfl, (Nat.zero_add _).symm, fun _ _ => rfl⟩, Nat.le_refl _, fun b hb r h => ⟨r, h, rfl⟩⟩
theorem LogOk.trans {a b c : S} (h : LogOk a b) (k : LogOk b c) : LogOk a c := by
  obtain ⟨l, h1, h3, h2⟩ := h.log
  obtain ⟨m, k1, k3, k2⟩ := k.log
  refine ⟨⟨m ++ l, by rw [k1, h1, List.append_assoc], by rw [k3, h3, List.length_append, Nat.add_assoc], fun x hx => ?_⟩, Nat.le_trans h.nxt k.nxt, fun x hx r'' hr => ?_⟩
  · simp only [List.mem_append, not_or] at hx
    exact (k2 x hx.1).trans (h2 x hx.2)
  · obtain ⟨r', e1, e2⟩ := k.loops x (Nat.lt_of_lt_of_le hx h.nxt) r'' hr
    obtain ⟨r, e3, e4⟩ := h.loops x hx r' e1
    refine ⟨r, e3, ?_⟩
    rw [e2, e4]
    rfl
theorem LogOk.put (s : S) (b : Nat) (o : AO) (ho : notLoop o = true := by rfl) : LogOk s (s.put b o) := by
  refine ⟨⟨[b], rfl, by simp; omega, fun x hx => ?_⟩, Nat.le_refl _, fun x hx r hr => ?_⟩
  · rw [S.get_put, if_neg (by simpa using hx)]
  · rw [S.get_put] at hr
    by_cases h : x = b
    · rw [if_pos h] at hr
      cases hr
      cases ho
    · rw [if_neg h] at hr
      exact ⟨r, hr, rfl⟩
theorem LogOk.putLoop (s : S) (b : Nat) {r : ALoop} (h : s.get b = some (.loop r)) (st : LoopState) (pd : Option Code) : LogOk s (s.put b (.loop (r.set st pd))) := by
  refine ⟨⟨[b], rfl, by simp; omega, fun x hx => ?_⟩, Nat.le_refl _, fun x hx r' hr => ?_⟩
  · rw [S.get_put, if_neg (by simpa using hx)]
  · rw [S.get_put] at hr
    by_cases hx : x = b
    · rw [if_pos hx] at hr
      cases hr
      rw [hx]
      exact ⟨r, h, rfl⟩
    · rw [if_neg hx] at hr
      exact ⟨r', hr, rfl⟩
theorem LogOk.kill (s : S) (b : Nat) : LogOk s (s.kill b) := by
  refine ⟨⟨[b], rfl, by simp; omega, fun x hx => ?_⟩, Nat.le_refl _, fun x hx r hr => ?_⟩
  · rw [S.get_kill, if_neg (by simpa using hx)]
  · rw [S.get_kill] at hr
    split at hr
    · cases hr
    · exact ⟨r, hr, rfl⟩
theorem LogOk.new (s : S) (o : AO) : LogOk s (s.new o) := by
  refine ⟨⟨[s.next], rfl, by simp; omega, fun x hx => ?_⟩, Nat.le_succ _, fun x hx r hr => ?_⟩
  · rw [S.get_new, if_neg (by simpa using hx)]
  · rw [S.get_new, if_neg (by omega)] at hr
    exact ⟨r, hr, rfl⟩
theorem LogOk.write {s s' : S} {b off n : Nat} {vs : List Value} (h : s.write b off n vs = some s') : LogOk s s' := by
  unfold S.write at h
  split at h
  · rename_i c size e hg
    cases hc : (Nat.beq off 0 && Nat.beq n size) with
    | true => rw [hc] at h; cases h; exact LogOk.put _ _ _
    | false =>
      rw [hc] at h
      simp only [cond_false] at h
      split at h
      · cases h; exact LogOk.put _ _ _
      · cases h
  · cases h

/-! ### many outcomes, one -/
theorem takeNs_eq : ∀ (n : Nat) (l : List Nat), takeNs n l = l.take n
  | 0, l => by simp [takeNs]
  | n + 1, [] => by simp [takeNs]
  | n + 1, x :: l => by simp [takeNs, takeNs_eq n l]

theorem allHave_ok {b : Nat} {o : AO} : ∀ {l : List CO}, allHave b o l = true → ∀ q ∈ l, q.2.get b = some o
  | [], h, q, hq => by cases hq
  | x :: l, h, q, hq => by
    simp only [allHave] at h
    split at h
    · rename_i o' ho
      cases he : eqAO o o' with
      | false => rw [he] at h; cases h
      | true =>
        rw [he] at h
        rcases List.mem_cons.1 hq with rfl | hq
        · rw [ho, eqAO_ok he]
        · exact allHave_ok h q hq
    · cases h

theorem eqSt_ok {a b : LoopState} (h : eqSt a b = true) : a = b := by
  cases a <;> cases b <;> first | rfl | (cases h; done)
theorem eqJump_ok {a b : Option Code} (h : eqJump a b = true) : a = b := by
  unfold eqJump at h
  split at h
  · split at h
    · rfl
    · cases h
  · split at h
    · rfl
    · cases h
  · split at h
    · rw [of_beq h]
    · cases h
  · cases h
theorem allLoop_ok {b : Nat} {st : LoopState} {pd : Option Code} : ∀ {l : List CO}, allLoop b st pd l = true → ∀ q ∈ l, ∃ r, q.2.get b = some (.loop r) ∧ r.state = st ∧ r.pending = pd
  | [], h, q, hq => by cases hq
  | x :: l, h, q, hq => by
    simp only [allLoop] at h
    split at h
    · rename_i r ho
      cases he : (eqSt st r.state && eqJump pd r.pending) with
      | false => rw [he] at h; cases h
      | true =>
        rw [he] at h
        simp only [Bool.and_eq_true] at he
        rcases List.mem_cons.1 hq with rfl | hq
        · exact ⟨r, ho, (eqSt_ok he.1).symm, (eqJump_ok he.2).symm⟩
        · exact allLoop_ok h q hq
    · cases h

theorem keepB_ok {s : S} {b : Nat} {x : CO} {l : List CO} {o : AO} (h : keepB s b x.2 l = some o) {q : CO} (hq : q ∈ x :: l) (hl : LogOk s q.2) : q.2.get b = some o := by
  unfold keepB at h
  split at h
  · rename_i o' ho
    split at h
    · rename_i r
      unfold keepLoop at h
      split at h
      · rename_i r₀ h0
        obtain ⟨hc, h⟩ := cond_some h
        cases h
        simp only [Bool.and_eq_true] at hc
        have hlt : b < s.next := of_ble hc.1
        have key : ∀ r', q.2.get b = some (.loop r') → r'.state = r.state → r'.pending = r.pending → q.2.get b = some (.loop (r₀.set r.state r.pending)) := by
          intro r' h1 h2 h3
          obtain ⟨r₁, e1, e2⟩ := hl.loops b hlt r' h1
          rw [h0] at e1
          cases e1
          rw [h1, e2, h2, h3]
        rcases List.mem_cons.1 hq with rfl | hq
        · exact key r ho rfl rfl
        · obtain ⟨r', h1, h2, h3⟩ := allLoop_ok hc.2 q hq
          exact key r' h1 h2 h3
      · cases h
    · cases hc : allHave b o' l with
      | false => rw [hc] at h; cases h
      | true =>
        rw [hc] at h
        cases h
        rcases List.mem_cons.1 hq with rfl | hq
        · exact ho
        · exact allHave_ok hc q hq
  · cases h

theorem mergeB_log (s x : S) (l : List CO) : ∀ (bs : List Nat) (m : S), ∃ r, (mergeB s x l bs m).log = r ++ m.log ∧ (mergeB s x l bs m).cnt = r.length + m.cnt ∧ (∀ b, b ∈ r ↔ b ∈ bs)
  | [], m => ⟨[], rfl, (Nat.zero_add _).symm, fun _ => Iff.rfl⟩
  | b :: bs, m => by
    unfold mergeB
    split
    · rename_i o ho
      obtain ⟨r, h1, h3, h2⟩ := mergeB_log s x l bs (m.put b o)
      refine ⟨r ++ [b], by rw [h1]; simp, by rw [h3]; simp; omega, fun y => ?_⟩
      simp [h2 y, or_comm]
    · obtain ⟨r, h1, h3, h2⟩ := mergeB_log s x l bs (m.kill b)
      refine ⟨r ++ [b], by rw [h1]; simp, by rw [h3]; simp; omega, fun y => ?_⟩
      simp [h2 y, or_comm]

theorem mergeB_next (s x : S) (l : List CO) : ∀ (bs : List Nat) (m : S), (mergeB s x l bs m).next = m.next
  | [], m => rfl
  | b :: bs, m => by
    unfold mergeB
    split
    · rw [mergeB_next s x l bs]; rfl
    · rw [mergeB_next s x l bs]; rfl

theorem mergeB_get (s x : S) (l : List CO) : ∀ (bs : List Nat) (m : S) (b : Nat), (mergeB s x l bs m).get b = if b ∈ bs then keepB s b x l else m.get b
  | [], m, b => by simp [mergeB]
  | c :: bs, m, b => by
    unfold mergeB
    split
    · rename_i o ho
      rw [mergeB_get s x l bs]
      by_cases h : b ∈ bs
      · simp [h]
      · rw [if_neg h, S.get_put]
        by_cases e : b = c
        · subst e; simp [ho]
        · simp [h, e]
    · rename_i ho
      rw [mergeB_get s x l bs]
      by_cases h : b ∈ bs
      · simp [h]
      · rw [if_neg h, S.get_kill]
        by_cases e : b = c
        · subst e; simp [ho]
        · simp [h, e]

theorem maxNext_le : ∀ (l : List CO) (n : Nat), n ≤ maxNext l n ∧ ∀ q ∈ l, q.2.next ≤ maxNext l n
  | [], n => ⟨Nat.le_refl _, fun q hq => by cases hq⟩
  | x :: l, n => by
    simp only [maxNext]
    obtain ⟨h1, h2⟩ := maxNext_le l (cond (Nat.ble n x.2.next) x.2.next n)
    have h3 : n ≤ cond (Nat.ble n x.2.next) x.2.next n ∧ x.2.next ≤ cond (Nat.ble n x.2.next) x.2.next n := by
      cases hb : Nat.ble n x.2.next with
      | true => exact ⟨of_ble hb, Nat.le_refl _⟩
      | false =>
        refine ⟨Nat.le_refl _, ?_⟩
        rcases Nat.le_total n x.2.next with h | h
        · rw [Nat.ble_eq_true_of_le h] at hb; cases hb
        · exact h
    refine ⟨Nat.le_trans h3.1 h1, fun q hq => ?_⟩
    rcases List.mem_cons.1 hq with rfl | hq
    · exact Nat.le_trans h3.2 h1
    · exact h2 q hq

theorem deltas_mem {s : S} : ∀ {l : List CO} {q : CO}, q ∈ l → ∀ {d : List Nat}, q.2.log = d ++ s.log → q.2.cnt = d.length + s.cnt → ∀ b ∈ d, b ∈ deltas s.cnt l
  | x :: l, q, hq, d, hd, hn, b, hb => by
    simp only [deltas, List.mem_append]
    rcases List.mem_cons.1 hq with rfl | hq
    · refine .inl ?_
      rw [takeNs_eq, hn, hd]
      show b ∈ List.take (d.length + s.cnt - s.cnt) (d ++ s.log)
      rw [Nat.add_sub_cancel, List.take_left']
      · exact hb
      · rfl
    · exact .inr (deltas_mem hq hd hn b hb)

theorem sameV_ok {v : Value} : ∀ {l : List CO}, sameV v l = true → ∀ q ∈ l, q.1 = v
  | [], h, q, hq => by cases hq
  | x :: l, h, q, hq => by
    simp only [sameV] at h
    cases he : eqVal v x.1 with
    | false => rw [he] at h; cases h
    | true =>
      rw [he] at h
      rcases List.mem_cons.1 hq with rfl | hq
      · exact (eqVal_ok _ _ he).symm
      · exact sameV_ok h q hq

/-- of what was, something is left -/
theorem merge_ok {s : S} {l : List CO} {q : CO} (hq : q ∈ l) (hl : LogOk s q.2) : ∃ r ∈ merge s l, r.1 = q.1 ∧ Sub r.2 q.2 ∧ LogOk s r.2 := by
  have self : ∀ s' : S, Sub s' s' := fun s' => ⟨fun _ _ h => h, Nat.le_refl _⟩
  cases l with
  | nil => cases hq
  | cons x l =>
    cases l with
    | nil => exact ⟨q, hq, rfl, self _, hl⟩
    | cons y m =>
      simp only [merge]
      cases hs : sameV x.1 (y :: m) with
      | false => exact ⟨q, hq, rfl, self _, hl⟩
      | true =>
        refine ⟨_, List.mem_singleton.2 rfl, ?_, ?_, ?_⟩
        · rcases List.mem_cons.1 hq with rfl | hq
          · rfl
          · exact (sameV_ok hs q hq).symm
        · obtain ⟨d, hd, hdn, hkeep⟩ := hl.log
          have hin := deltas_mem (s := s) hq hd hdn
          refine ⟨fun b o hb => ?_, ?_⟩
          · simp only [merge2] at hb
            rw [mergeB_get] at hb
            by_cases hbd : b ∈ deltas s.cnt (x :: y :: m)
            · rw [if_pos hbd] at hb
              exact keepB_ok hb hq hl
            · rw [if_neg hbd] at hb
              rw [hkeep b fun h => hbd (hin b h)]
              exact hb
          · simp only [merge2]
            rw [mergeB_next]
            exact (maxNext_le _ 0).2 q hq
        · simp only [merge2]
          obtain ⟨r, h1, h3, h2⟩ := mergeB_log s x.2 (y :: m) (deltas s.cnt (x :: y :: m)) ⟨s.heap, maxNext (x :: y :: m) 0, s.log, s.cnt⟩
          refine ⟨⟨r, h1, h3, fun b hb => ?_⟩, ?_, fun b hb r' hr => ?_⟩
          · rw [mergeB_get, if_neg (fun h => hb ((h2 b).2 h))]
            rfl
          · rw [mergeB_next]
            exact Nat.le_trans hl.nxt ((maxNext_le _ 0).2 q hq)
          · rw [mergeB_get] at hr
            by_cases hbd : b ∈ deltas s.cnt (x :: y :: m)
            · rw [if_pos hbd] at hr
              exact hl.loops b hb r' (keepB_ok hr hq hl)
            · rw [if_neg hbd] at hr
              exact ⟨r', hr, rfl⟩

end Go.Ac
end
section
namespace Go.Ac
variable {tab : Tab} {s s' : S} {v : Value}

/-! ### what operations touch -/
theorem withS_log {u : Value} {o : Option S} (h : withS u o = some (v, s')) : o = some s' := by
  unfold withS at h
  split at h
  · cases h; rfl
  · cases h
theorem store_log {n : Nat} {x y : Value} (h : vStore n s x y = some (v, s')) : LogOk s s' := by
  obtain ⟨ad, _, h2⟩ := onOpt_some h
  obtain ⟨c, _, h4⟩ := onOpt_some h2
  obtain ⟨_, h6⟩ := cond_some h4
  exact LogOk.write (withS_log h6)
theorem mapUpdate_log {e : KT} {m k x : Value} (h : vMapUpdate e s m k x = some (v, s')) : LogOk s s' := by
  unfold vMapUpdate at h
  split at h
  · split at h
    · cases h
    · split at h
      · split at h
        · obtain ⟨_, h⟩ := cond_some h
          cases h; exact LogOk.put _ _ _
        · cases h
      · cases h; exact LogOk.put _ _ _
      · cases h
  · cases h
theorem mapEntry_log {e : KT} {z m k : Value} (h : vMapEntry e z s m k = some (v, s')) : LogOk s s' := by
  unfold vMapEntry at h
  split at h
  · split at h
    · cases h
    · split at h
      · split at h
        · obtain ⟨_, h⟩ := cond_some h
          cases h; exact LogOk.put _ _ _
        · cases h
      · cases h; exact LogOk.put _ _ _
      · cases h
  · cases h
theorem entryStore_log {m st x : Value} (h : vEntryStore s m st x = some (v, s')) : LogOk s s' := by
  unfold vEntryStore at h
  split at h
  · split at h
    · split at h
      · cases h; exact LogOk.put _ _ _
      · cases h
    · cases h
  · cases h
theorem rangeStr_log {x : Value} (h : vRangeStr s x = some (v, s')) : LogOk s s' := by
  unfold vRangeStr at h
  split at h
  · cases h; exact LogOk.new _ _
  · cases h
theorem rangeMap_log {x : Value} (h : vRangeMap s x = some (v, s')) : LogOk s s' := by
  unfold vRangeMap at h
  split at h
  · cases h; exact LogOk.new _ _
  · split at h
    · cases h; exact LogOk.new _ _
    · cases h
  · cases h
theorem nextStr_log {x : Value} (h : vNextStr s x = some (v, s')) : LogOk s s' := by
  obtain ⟨ad, _, h2⟩ := onOpt_some h
  obtain ⟨_, h3⟩ := cond_some h2
  unfold vNextStrAt at h3
  split at h3
  · split at h3
    · obtain ⟨_, h4⟩ := cond_some h3
      cases h4; exact LogOk.put _ _ _
    · obtain ⟨_, h4⟩ := cond_some h3
      cases h4; exact LogOk.refl _
  · cases h3
theorem picks_log {b m since : Nat} {seen : List Nat} {clock : Nat} : ∀ {l : List AEntry} {q : Value × S}, q ∈ picks s b m since seen clock l → LogOk s q.2
  | [], q, h => by cases h
  | e :: es, q, h => by
    simp only [picks] at h
    rcases List.mem_cons.1 h with rfl | h
    · exact LogOk.put _ _ _
    · exact picks_log h
theorem nextMap_log {x : Value} {l : List (Value × S)} (h : vNextMap s x = some l) : ∀ q ∈ l, LogOk s q.2 := by
  intro q hq
  obtain ⟨ad, _, h2⟩ := onOpt_some h
  obtain ⟨_, h3⟩ := cond_some h2
  unfold vNextMapAt at h3
  split at h3
  · cases h3
    rw [List.mem_singleton] at hq; subst hq; exact LogOk.refl _
  · split at h3
    · obtain ⟨_, h4⟩ := cond_some h3
      split at h4
      · cases h4
        rw [List.mem_singleton] at hq; subst hq; exact LogOk.refl _
      · cases h4
        exact picks_log hq
    · cases h3
  · cases h3
theorem copy_log {n : Nat} {x y : Value} (h : vCopy n s x y = some (v, s')) : LogOk s s' := by
  unfold vCopy at h
  split at h
  · split at h
    · cases h
    · split at h
      · cases h; exact LogOk.refl _
      · rename_i hb
        cases hc : Nat.beq _ 0 with
        | true => rw [hc] at h; cases h; exact LogOk.refl _
        | false =>
          rw [hc] at h
          simp only [cond_false] at h
          split at h
          · exact LogOk.write (withS_log h)
          · cases h
  · cases h
theorem clear_log {n : Nat} {z : List Value} {x : Value} (h : vClear n z s x = some (v, s')) : LogOk s s' := by
  unfold vClear at h
  split at h
  · cases h; exact LogOk.refl _
  · rename_i ad k _
    cases hc : Nat.beq k 0 with
    | true => rw [hc] at h; cases h; exact LogOk.refl _
    | false => rw [hc] at h; exact LogOk.write (withS_log h)
  · cases h
theorem delete_log {e : KT} {m k : Value} (h : vDelete e s m k = some (v, s')) : LogOk s s' := by
  unfold vDelete at h
  split at h
  · obtain ⟨_, h⟩ := cond_some h
    cases h; exact LogOk.refl _
  · split at h
    · cases h
    · split at h
      · cases h; exact LogOk.put _ _ _
      · cases h; exact LogOk.refl _
      · cases h
  · cases h
theorem unsafeString_log {u : TypeId} {p n : Value} (h : vUnsafeString u s p n = some (v, s')) : LogOk s s' := by
  obtain ⟨ad, _, h2⟩ := onOpt_some h
  obtain ⟨k, _, h3⟩ := onOpt_some h2
  split at h3
  · obtain ⟨_, h4⟩ := cond_some h3
    split at h4
    · cases h4; exact LogOk.kill _ _
    · cases h4
  · cases h3
theorem appendOut_log {e n : Nat} {b : Option Addr} {l c m : Nat} {new : List Value} (h : appendOut e n s b l c m new = some (v, s')) : LogOk s s' := by
  unfold appendOut at h
  split at h
  · cases h; exact LogOk.new _ _
  · split at h
    · split at h
      · cases h
      · rename_i old _
        cases hc : Nat.beq (Nat.mod c 2) 1 with
        | true =>
          rw [hc] at h
          simp only [cond_true] at h
          obtain ⟨_, h⟩ := cond_some h
          cases h; exact (LogOk.kill _ _).trans (LogOk.new _ _)
        | false =>
          rw [hc] at h
          cases h; exact LogOk.new _ _
    · cases h
theorem appendIn_log {n : Nat} {b : Option Addr} {l c m : Nat} {new : List Value} (h : appendIn n s b l c m new = some (v, s')) : LogOk s s' := by
  unfold appendIn at h
  split at h
  · cases h; exact LogOk.refl _
  · cases hc : Nat.beq m 0 with
    | true => rw [hc] at h; cases h; exact LogOk.refl _
    | false =>
      rw [hc] at h
      simp only [cond_false] at h
      split at h
      · rename_i hw
        cases h; exact LogOk.write hw
      · cases h
theorem append_log {e n : Nat} {x y : Value} (h : appendA e n s x y = some (v, s')) : LogOk s s' := by
  unfold appendA at h
  split at h
  · split at h
    · cases h
    · rename_i m new _
      cases hc : Nat.ble _ _ with
      | true => rw [hc] at h; exact appendIn_log h
      | false =>
        rw [hc] at h
        obtain ⟨_, h⟩ := cond_some h
        exact appendOut_log h
  · cases h
theorem send_log {x y : Value} (h : vSend s x y = some (v, s')) : LogOk s s' := by
  unfold vSend at h
  split at h
  · split at h
    · cases hc : Nat.ble _ _ with
      | true => rw [hc] at h; cases h; exact LogOk.put _ _ _
      | false => rw [hc] at h; cases h; exact LogOk.refl _
    · cases h
  · cases h
theorem recv_log {z x : Value} (h : vRecv z s x = some (v, s')) : LogOk s s' := by
  unfold vRecv at h
  split at h
  · split at h
    · split at h
      · cases h; exact LogOk.put _ _ _
      · cases h; exact LogOk.refl _
    · cases h
  · cases h

theorem act_log {o : Oper} {f : A → S → Option (Value × S)} (hc : compileOp tab o = .act f) {a : A} (h : f a s = some (v, s')) : LogOk s s' := by
  cases hop : o.op
  all_goals (unfold compileOp at hc; rw [hop] at hc; simp only at hc)
  all_goals (try simp only [convC, sliceC, builtinC, callC, oOf, cond_eq_ite] at hc)
  all_goals (repeat' split at hc)
  all_goals first
    | (cases hc; done)
    | contradiction
    | (cases hc; first
        | exact store_log h
        | exact mapUpdate_log h
        | exact mapEntry_log h
        | exact entryStore_log h
        | exact rangeStr_log h
        | exact rangeMap_log h
        | exact nextStr_log h
        | exact copy_log h
        | exact clear_log h
        | exact delete_log h
        | exact unsafeString_log h
        | exact append_log h
        | exact send_log h
        | exact recv_log h)

theorem many_log {o : Oper} {f : A → S → Option (List (Value × S))} (hc : compileOp tab o = .many f) {a : A} {l : List (Value × S)} (h : f a s = some l) : ∀ q ∈ l, LogOk s q.2 := by
  cases hop : o.op
  all_goals (unfold compileOp at hc; rw [hop] at hc; simp only at hc)
  all_goals (try simp only [convC, sliceC, builtinC, callC, oOf, cond_eq_ite] at hc)
  all_goals (repeat' split at hc)
  all_goals first
    | (cases hc; done)
    | contradiction
    | (cases hc; exact nextMap_log h)

end Go.Ac
end
section
namespace Go.Ac
variable {P : Program} {tab : Tab} {C : Cx} {ρ : Rn} {s : S} {w : World} {a : A} {a' : Act} {o : Oper} {E : Env} {n : Nat}

/-- the frame that runs -/
structure FrOk (ρ : Rn) (E : Env) (b : Frame) (cs : List Frame) : Prop where
  fn : b.fn = E.fn
  round : (E.round = none ∧ b.roundOf = none) ∨ ∃ l rb, E.round = some l ∧ ρ l = some rb ∧ b.roundOf = some rb.blk
  calm : ∀ fr : Frame, fr.kind = b.kind → tryRecover fr cs = none

theorem FrOk.mono {ρ ρ' : Rn} (h : Rn.le ρ ρ') {b : Frame} {cs : List Frame} (k : FrOk ρ E b cs) : FrOk ρ' E b cs :=
  ⟨k.fn, k.round.imp id fun ⟨l, rb, h1, h2, h3⟩ => ⟨l, rb, h1, h _ _ h2, h3⟩, k.calm⟩

/-- a frame's slots and a memory, and their images -/
structure St (C : Cx) (ρ : Rn) (n : Nat) (a : A) (s : S) (a' : Act) (w : World) : Prop where
  hr : HRel C ρ s w
  ac : AcRel ρ a a'
  sz : a'.tmps.size = n

structure Went (ρ : Rn) (s : S) (w : World) (ρ' : Rn) (s' : S) (w' : World) : Prop where
  goes : Goes ρ s w ρ' s' w'
  log : LogOk s s'

theorem Went.refl (ρ : Rn) (s : S) (w : World) : Went ρ s w ρ s w := ⟨Goes.refl _ _ _, LogOk.refl _⟩
theorem Went.trans {ρ ρ₁ ρ₂ : Rn} {s s₁ s₂ : S} {w w₁ w₂ : World} (h : Went ρ s w ρ₁ s₁ w₁) (k : Went ρ₁ s₁ w₁ ρ₂ s₂ w₂) : Went ρ s w ρ₂ s₂ w₂ := ⟨h.goes.trans k.goes, h.log.trans k.log⟩

structure EnvOk (P : Program) (tab : Tab) (C : Cx) (E : Env) : Prop where
  call : ∀ g args s outs, E.call g args s = some outs → (∃ fn, tab.funcs.get g = some fn) ∧ ∀ ρ w (args' : Array Value), HRel C ρ s w → LRel ρ args args'.toList →
    Calls P g args' w fun e w₁ => ∃ q ∈ outs, ∃ ρ₁ v', e = .returned v' ∧ VRel ρ₁ q.1 v' ∧ HRel C ρ₁ q.2 w₁ ∧ Went ρ s w ρ₁ q.2 w₁
  yield : ∀ l args s outs, E.yield l args s = some outs → ∀ ρ w (args' : Array Value) rb, HRel C ρ s w → LRel ρ args args'.toList → ρ l = some rb →
    ∃ f ts assign body, (Instr.yield rb.blk args').run P w = .ok (.round rb.blk f ts assign body) w ∧
      ∀ c cs, ∃ q ∈ outs, ∃ ρ₁ w₁ v', Steps P (lone (Frame.round rb.blk f ts assign body .normal) (c :: cs) w) (lone (c.finish v') cs w₁) ∧ VRel ρ₁ q.1 v' ∧ HRel C ρ₁ q.2 w₁ ∧ Went ρ s w ρ₁ q.2 w₁

/-! ### lists of outcomes -/
theorem addO_some {α : Type} {x y : Option (List α)} {l : List α} (h : addO x y = some l) : ∃ a b, x = some a ∧ y = some b ∧ l = a ++ b := by
  unfold addO at h
  split at h
  · cases h; exact ⟨_, _, rfl, rfl, rfl⟩
  · cases h
theorem bindL_mem {α β : Type} {f : α → Option (List β)} : ∀ {l : List α} {r : List β}, bindL f l = some r → ∀ x ∈ l, ∃ r', f x = some r' ∧ ∀ y ∈ r', y ∈ r
  | [], r, h, x, hx => by cases hx
  | z :: l, r, h, x, hx => by
    cases l with
    | nil =>
      have h : f z = some r := h
      rw [List.mem_singleton] at hx
      subst hx
      exact ⟨r, h, fun _ h => h⟩
    | cons z' l =>
      have h : addO (f z) (bindL f (z' :: l)) = some r := h
      obtain ⟨a, b, h1, h2, rfl⟩ := addO_some h
      rcases List.mem_cons.1 hx with rfl | hx
      · exact ⟨a, h1, fun y hy => List.mem_append_left _ hy⟩
      · obtain ⟨r', h3, h4⟩ := bindL_mem h2 x hx
        exact ⟨r', h3, fun y hy => List.mem_append_right _ (h4 y hy)⟩
theorem bindO_some {α β : Type} {f : α → Option (List β)} {o : Option (List α)} {r : List β} (h : bindO o f = some r) : ∃ l, o = some l ∧ ∀ x ∈ l, ∃ r', f x = some r' ∧ ∀ y ∈ r', y ∈ r := by
  unfold bindO at h
  split at h
  · exact ⟨_, rfl, bindL_mem h⟩
  · cases h

/-! ### one operation -/
/-- all slots but one are kept -/
def Keeps (dst : Option Tmp) (a a₁ : A) : Prop := ∀ t, t < 512 → dst ≠ some t → a₁.tmps.at_ t = a.tmps.at_ t

theorem Keeps.put {dst : Option Tmp} (h : ∀ d, dst = some d → d < 512) (a : A) (ds : List Deferred) (v : Value) : Keeps dst a ((putD dst).put ⟨a.tmps, ds⟩ v) := by
  intro t ht hd
  cases dst with
  | none => rfl
  | some d =>
    show Fr.at_ ((fspot d).set v a.tmps) t = _
    rw [Fr.at_set _ _ _ ht (h d rfl), if_neg fun e => hd (by rw [e])]

/-- what an operation has done: on it goes, with k -/
def OpGoes (P : Program) (C : Cx) (ρ : Rn) (a : A) (s : S) (w : World) (n : Nat) (dst : Option Tmp) (k : K) (outs : List Out) (m : Machine) (to : Act → World → Machine) : Prop :=
  ∃ a₁ s₁ ρ₁ w₁ a₁' outs₁, k a₁ s₁ = some outs₁ ∧ (∀ x ∈ outs₁, x ∈ outs) ∧ St C ρ₁ n a₁ s₁ a₁' w₁ ∧ Went ρ s w ρ₁ s₁ w₁ ∧ Keeps dst a a₁ ∧ Steps P m (to a₁' w₁)

theorem operOk_dst {n G : Nat} (ho : operOk n G o = true) : ∀ d, o.dst = some d → d < n := by
  intro d hd
  unfold operOk at ho
  simp only [Bool.and_eq_true, hd] at ho
  exact of_ble ho.2

theorem St.put (st : St C ρ n a s a' w) (ho : operOk n C.G o = true) {v v' : Value} {ρ₁ : Rn} {s₁ : S} {w₁ : World} (hr : HRel C ρ₁ s₁ w₁) (hle : Rn.le ρ ρ₁) (hv : VRel ρ₁ v v') :
    St C ρ₁ n ((putD o.dst).put a v) s₁ (a'.put o.dst v') w₁ := by
  refine ⟨hr, put_rel (st.ac.mono hle) (fun d hd => by rw [st.sz]; exact operOk_dst ho d hd) hv, ?_⟩
  rw [← st.sz]
  cases o.dst with
  | none => rfl
  | some d => simp [Act.put]

section op
variable {b : Frame} {cs : List Frame} {kk : List Item} {ops : Array Oper} {i : Nat} {rest : List Nat} {k : K} {outs : List Out}

theorem not_defer (h1 : ∀ f, compileOp tab o ≠ .defer f) (h2 : compileOp tab o ≠ .bad) : ∀ c, o.op ≠ .defer c := by
  intro c hc
  unfold compileOp at h1 h2
  rw [hc] at h1 h2
  simp only at h1 h2
  cases hcal : c.callee with
  | value f => rw [hcal] at h1; exact h1 _ rfl
  | invoke r m => rw [hcal] at h2; exact h2 rfl
  | builtin b => rw [hcal] at h2; exact h2 rfl

def isBm (want : Bool) : Value → Bool
  | .bool b => b == want
  | _ => false
theorem isB_ok {v v' : Value} {want : Bool} (hv : VRel ρ v v') : isB want v = isBm want v' := by
  cases v with
  | bool b => simp only [VRel] at hv; subst hv; cases b <;> cases want <;> rfl
  | pointer p => cases p <;> simp only [VRel] at hv <;> first | (subst hv; rfl) | (obtain ⟨_, _, rfl⟩ := hv; rfl)
  | slice p _ _ => cases p <;> simp only [VRel] at hv <;> first | (obtain ⟨_, _, rfl⟩ := hv; rfl) | (obtain ⟨_, _, _, _, _, rfl⟩ := hv; rfl)
  | map p => cases p <;> simp only [VRel] at hv <;> first | (subst hv; rfl) | (obtain ⟨_, _, rfl⟩ := hv; rfl)
  | chan p => cases p <;> simp only [VRel] at hv <;> first | (subst hv; rfl) | (obtain ⟨_, _, rfl⟩ := hv; rfl)
  | func f x y => simp only [VRel] at hv; obtain ⟨_, _, _, rfl, _⟩ := hv; rfl
  | iface t x => simp only [VRel] at hv; obtain ⟨_, rfl, _⟩ := hv; rfl
  | agg x => simp only [VRel] at hv; obtain ⟨_, rfl, _⟩ := hv; rfl
  | tuple x => simp only [VRel] at hv; obtain ⟨_, rfl, _⟩ := hv; rfl
  | _ => simp only [VRel] at hv; subst hv; rfl

/-- of a select: the step that the machine takes -/
theorem step_comm (ho : ops[i]? = some o) (hw : Region.wanted o (yielded ops a'.tmps) = true) {cases : Array CommCase} {w₁ : World} (h : (o.semAt b.roundOf a'.eval).run P w = .ok (.comm cases false .select) w₁) :
    ∃ es, stepG P true (Conc.G (b.atR a' (.inRegion ops (i :: rest) :: kk)) cs) w = .comm (Conc.G (b.atR a' (.inRegion ops (i :: rest) :: kk)) cs) cases false .select w₁ es := by
  have := stepGR_op (P := P) (b := b) (a := a') (k := kk) (cs := cs) (w := w) (rest := rest) ho hw
  unfold Conc.G
  rw [this]
  simp only [stepG.apply, if_true, Sem.runT_eq, h, GStep.after]
  exact ⟨_, rfl⟩

end op
end Go.Ac
end
section
namespace Go.Ac
variable {P : Program} {tab : Tab} {C : Cx} {ρ : Rn} {s : S} {w : World} {a : A} {a' : Act} {o : Oper} {E : Env} {n : Nat}
variable {b : Frame} {cs : List Frame} {kk : List Item} {ops : Array Oper} {i : Nat} {rest : List Nat} {k : K} {outs : List Out}

/-! ### a select of one case, with a default -/
theorem exec_select (tok : TabOk P tab) {c : SelectCase} {cases : Array SelectCase} (hcs : cases.toList = [c]) (hop : o.op = .select cases false) {z : Value} (hz : tab.zero c.elem = some z) (f : Operand → Value) :
    (execOp f o).run P w = .ok (.comm #[{ chan := f c.chan, send := c.send.map f, zero := z }] false .select) w := by
  have hcs' : cases = #[c] := by apply Array.ext'; rw [hcs]
  subst hcs'
  unfold execOp
  rw [hop]
  simp only [Sem.run_bind]
  have : (Array.mapM (fun s => do pure { chan := f s.chan, send := s.send.map f, zero := ← zeroValue s.elem : CommCase } : SelectCase → Sem CommCase) #[c]).run P w =
      .ok #[{ chan := f c.chan, send := c.send.map f, zero := z }] w := by
    simp [Sem.run_bind, tok.run_zero hz, Result.andThen]
  rw [this]
  rfl

theorem chan_there (hr : HRel C ρ s w) {r cap : Nat} {buf : List Value} {sent rcvd : Nat} (h : s.get r = some (.chan cap buf sent rcvd)) {v' : Value} (hv : VRel ρ (.chan (some r)) v') :
    ∃ rb buf', ρ r = some rb ∧ v' = .chan (some rb.blk) ∧ w.heap[rb.blk]? = some (.chan cap buf' false sent rcvd false) ∧ LRel ρ buf buf'.toList := by
  simp only [VRel] at hv
  obtain ⟨rb, h1, rfl⟩ := hv
  obtain ⟨rb', h1', hN, o', h2, buf', h3, h4⟩ := hr.live _ _ h
  rw [h1] at h1'; cases h1'
  subst h3
  exact ⟨rb, buf', h1, rfl, h2, h4⟩

theorem two_rel (x y : Value) (hx : VRel ρ x x) (hy : VRel ρ y y) : VRel ρ (.tuple #[x, y]) (.tuple #[x, y]) := by
  simp only [VRel]
  exact ⟨_, rfl, by simp only [ARel_iff, LRel]; exact ⟨_, _, rfl, hx, _, _, rfl, hy, rfl⟩⟩
theorem three_rel {x y z z' : Value} (hx : VRel ρ x x) (hy : VRel ρ y y) (hz : VRel ρ z z') : VRel ρ (.tuple #[x, y, z]) (.tuple #[x, y, z']) := by
  simp only [VRel]
  exact ⟨_, rfl, by simp only [ARel_iff, LRel]; exact ⟨_, _, rfl, hx, _, _, rfl, hy, _, _, rfl, hz, rfl⟩⟩

/-- the step of a select -/
theorem selOp_ok (tok : TabOk P tab) (hz : ZerosOk tab) (hr : HRel C ρ s w) (ha : AcRel ρ a a') (ho : operOk a'.tmps.size C.G o = true) (hsel : isSelect o.op = true) {f : A → S → Option (Value × S)} (hc : compileOp tab o = .act f) {v : Value} {s' : S} (h : f a s = some (v, s'))
    (hi : ops[i]? = some o) (hw : Region.wanted o (yielded ops a'.tmps) = true) :
    ∃ w' v', HRel C ρ s' w' ∧ Goes ρ s w ρ s' w' ∧ VRel ρ v v' ∧ step P (lone (b.atR a' (.inRegion ops (i :: rest) :: kk)) cs w) = .next (lone (b.atR (a'.put o.dst v') (.inRegion ops rest :: kk)) cs w') := by
  have hx := fun {x} => operOk_opd (C := C) (a' := a') (o := o) ho (x := x)
  cases hop : o.op
  all_goals (rw [hop] at hx hsel; unfold compileOp at hc; rw [hop] at hc; simp only at hc)
  case select cases blocking =>
    have hnd : ∀ c, o.op ≠ .defer c := by intro c hc; rw [hop] at hc; cases hc
    split at hc
    · rename_i c hcs
      unfold oOf at hc
      split at hc
      · rename_i z hzz
        have hzr : VRel ρ z z := vOk_rel ρ z (hz _ _ hzz).1
        have hex := exec_select (P := P) (w := w) tok hcs hop hzz a'.eval
        rw [← Oper.semAt_eq b.roundOf a'.eval o hnd] at hex
        obtain ⟨es, hst⟩ := step_comm (P := P) (b := b) (cs := cs) (kk := kk) (rest := rest) hi hw hex
        have hch : VRel ρ ((opd c.chan).get a) (a'.eval c.chan) := opd_rel hr ha (hx (by simp [opOps, hcs]))
        split at hc
        · rename_i x hsend
          cases hc
          have hxr : VRel ρ ((opd x).get a) (a'.eval x) := opd_rel hr ha (hx (by simp [opOps, hcs, hsend, optL]))
          have h : vSend s ((opd c.chan).get a) ((opd x).get a) = some (v, s') := h
          unfold vSend at h
          split at h
          · rename_i r hrr
            split at h
            · rename_i cap buf sent rcvd hg
              rw [hrr] at hch
              obtain ⟨rb, buf', h1, h2, h3, h4⟩ := chan_there hr hg hch
              rw [h2, hsend] at hst
              have hlen := h4.length
              have hlen : buf.length = buf'.size := by simpa using hlen
              cases hb : Nat.ble (Nat.succ (lenL buf)) cap with
              | true =>
                rw [hb] at h
                cases h
                have hroom : buf'.size < cap := by
                  have := of_ble hb
                  rw [lenL_eq] at this
                  omega
                obtain ⟨t1, t2⟩ := hr.turn (s' := s.put r (.chan cap (appL buf [(opd x).get a]) (Nat.succ sent) rcvd)) hg h1 (fun c => S.get_put _ _ _ _) rfl (o' := .chan cap (buf'.push (a'.eval x)) false (sent + 1) rcvd false)
                  ⟨_, rfl, by rw [appL_eq, Array.toList_push]; exact h4.append (by simp only [LRel]; exact ⟨_, _, rfl, hxr, rfl⟩)⟩
                refine ⟨_, .tuple #[.int .i64 0, .bool false], t1, t2, two_rel _ _ (by simp [VRel]) (by simp [VRel]), ?_⟩
                rw [Conc.lone_eq_solo]
                have := Conc.step_lone_select_send_room (P := P) hst h3 hroom
                rw [this, fin_atR hi]
                rfl
              | false =>
                rw [hb] at h
                cases h
                have hfull : cap ≤ buf'.size := by
                  rw [← hlen, ← lenL_eq]
                  rcases Nat.lt_or_ge (lenL buf) cap with hlt | hge
                  · have := Nat.ble_eq_true_of_le (show Nat.succ (lenL buf) ≤ cap from hlt)
                    rw [this] at hb; cases hb
                  · exact hge
                refine ⟨w, .tuple #[.int .i64 (-1), .bool false], hr, Goes.refl _ _ _, two_rel _ _ (by simp [VRel]) (by simp [VRel]), ?_⟩
                rw [Conc.lone_eq_solo]
                have := Conc.step_lone_select_send_full (P := P) hst h3 hfull
                rw [this, fin_atR hi]
                rfl
            · cases h
          · cases h
        · rename_i hsend
          cases hc
          have h : vRecv z s ((opd c.chan).get a) = some (v, s') := h
          unfold vRecv at h
          split at h
          · rename_i r hrr
            split at h
            · rename_i cap buf sent rcvd hg
              rw [hrr] at hch
              obtain ⟨rb, buf', h1, h2, h3, h4⟩ := chan_there hr hg hch
              rw [h2, hsend] at hst
              split at h
              · rename_i y ys
                cases h
                obtain ⟨l'⟩ := buf'
                simp only [LRel] at h4
                obtain ⟨y', r', hl', hy, hys⟩ := h4
                have hl' : l' = y' :: r' := hl'
                subst hl'
                have hex : (⟨y' :: r'⟩ : Array Value).extract 1 (⟨y' :: r'⟩ : Array Value).size = ⟨r'⟩ := by
                  apply Array.ext'; rw [Array.toList_extract]; simp
                obtain ⟨t1, t2⟩ := hr.turn (s' := s.put r (.chan cap ys sent (Nat.succ rcvd))) hg h1 (fun c => S.get_put _ _ _ _) rfl (o' := .chan cap ⟨r'⟩ false sent (rcvd + 1) false) ⟨_, rfl, hys⟩
                refine ⟨_, .tuple #[.int .i64 0, .bool true, y'], t1, t2, three_rel (by simp [VRel]) (by simp [VRel]) hy, ?_⟩
                rw [Conc.lone_eq_solo]
                have := Conc.step_lone_select_recv_buf (P := P) hst h3 (by simp)
                rw [this, fin_atR hi, hex]
                rfl
              · cases h
                have hb0 : buf' = #[] := by
                  simp only [LRel] at h4
                  apply Array.ext'; exact h4
                subst hb0
                refine ⟨w, .tuple #[.int .i64 (-1), .bool false, z], hr, Goes.refl _ _ _, three_rel (by simp [VRel]) (by simp [VRel]) hzr, ?_⟩
                rw [Conc.lone_eq_solo]
                have := Conc.step_lone_select_default (P := P) hst h3
                rw [this, fin_atR hi]
                rfl
            · cases h
          · cases h
      · cases hc
    · cases hc
  all_goals (cases hsel; done)

/-! ### recover, where no panic is -/
theorem exec_recover (hc : compileOp tab o = .recover) (f : Operand → Value) : (execOp f o).run P w = .ok .recover w := by
  cases hop : o.op
  all_goals (unfold compileOp at hc; rw [hop] at hc; simp only at hc)
  case call c =>
    split at hc
    · rename_i b hcal
      have hb : b = .recover := by
        unfold builtinC at hc
        simp only [oOf, cond_eq_ite] at hc
        repeat' split at hc
        all_goals first | rfl | (cases hc; done)
      subst hb
      rw [exec_builtin hop hcal rfl]
      rfl
    · unfold callC at hc
      repeat' split at hc
      all_goals cases hc
  all_goals (try simp only [convC, sliceC, builtinC, callC, oOf, cond_eq_ite] at hc)
  all_goals (repeat' split at hc)
  all_goals first | (cases hc; done) | contradiction

theorem step_recover (hi : ops[i]? = some o) (hw : Region.wanted o (yielded ops a'.tmps) = true) (hro : b.roundOf = none) (hcalm : ∀ fr : Frame, fr.kind = b.kind → tryRecover fr cs = none)
    (h : (execOp a'.eval o).run P w = .ok .recover w) :
    step P (lone (b.atR a' (.inRegion ops (i :: rest) :: kk)) cs w) = .next (lone (b.atR (a'.put o.dst .nilIface) (.inRegion ops rest :: kk)) cs w) := by
  refine step_lone_go ?_
  rw [stepGR_op hi hw, ← fin_atR hi, hro, Oper.semAt_none]
  have h1 : (b.atR a' (.inRegion ops (i :: rest) :: kk)).roundOf = none := hro
  have h2 := hcalm (b.atR a' (.inRegion ops (i :: rest) :: kk)) rfl
  simp only [stepG.apply, if_true, Sem.runT_eq, h, h1, h2, GStep.bare_after, GStep.bare_go]

end Go.Ac
end
section
namespace Go.Ac
variable {P : Program} {tab : Tab} {C : Cx} {ρ : Rn} {s : S} {w : World} {a : A} {a' : Act} {o : Oper} {E : Env} {n : Nat}
variable {b : Frame} {cs : List Frame} {kk : List Item} {ops : Array Oper} {i : Nat} {rest : List Nat} {k : K} {outs : List Out}

/-- a round of a range over a function -/
theorem step_round (ho : ops[i]? = some o) (hw : Region.wanted o (yielded ops a'.tmps) = true) {l : Nat} {f : FuncId} {ts : Array Value} {x y : Code} {w' : World} (h : (o.semAt b.roundOf a'.eval).run P w = .ok (.round l f ts x y) w') :
    step P (lone (b.atR a' (.inRegion ops (i :: rest) :: kk)) cs w) = .next (lone (Frame.round l f ts x y .normal) (b.atR a' (.inRegion ops (i :: rest) :: kk) :: cs) w') := by
  refine step_lone_go ?_
  rw [stepGR_op ho hw]
  simp [stepG.apply, h]

theorem yieldOp_ok (hr : HRel C ρ s w) (ha : AcRel ρ a a') (ho : operOk a'.tmps.size C.G o = true) {f : A → Option CallT} (hc : compileOp tab o = .call f) {l : Nat} {args : List Value} (h : f a = some (.yield l args)) :
    ∃ rb, ∃ args' : Array Value, ρ l = some rb ∧ execOp a'.eval o = Instr.yield rb.blk args' ∧ LRel ρ args args'.toList := by
  have hx := fun {x} => operOk_opd (C := C) (a' := a') (o := o) ho (x := x)
  cases hop : o.op
  all_goals (rw [hop] at hx; unfold compileOp at hc; rw [hop] at hc; simp only at hc)
  case call c =>
    have hargs : LRel ρ ((opdL c.args.toList).get a) (c.args.map a'.eval).toList := by
      have := opdL_rel hr ha (l := c.args.toList) fun x hm => hx (by simp only [opOps, callOps]; exact List.mem_append_right _ hm)
      simpa using this
    split at hc
    · unfold builtinC at hc
      simp only [oOf, cond_eq_ite] at hc
      repeat' split at hc
      all_goals cases hc
    · unfold callC at hc
      split at hc
      · cases hc
        cases h
      · rename_i x hne hcal
        cases hc
        have hxr : VRel ρ ((opd x).get a) (a'.eval x) := opd_rel hr ha (hx (by simp [opOps, callOps, hcal]))
        have h : vCall tab ((opd x).get a) ((opdL c.args.toList).get a) = some (.yield l args) := h
        unfold vCall at h
        split at h
        · cases h
        · rename_i k first cap he
          cases h
          rw [he] at hxr
          simp only [VRel] at hxr
          obtain ⟨f', first', cap', hv, hf, h1, h2⟩ := hxr
          obtain ⟨rb, hrb, rfl⟩ := hf
          rw [ARel_iff] at h1
          refine ⟨rb, first' ++ c.args.map a'.eval, hrb, ?_, ?_⟩
          · rw [exec_call hop hcal, hv]
            rfl
          · rw [appL_eq, Array.toList_append]
            exact h1.append hargs
        · obtain ⟨_, h⟩ := cond_some h
          split at h
          · split at h <;> cases h
          · cases h
        · cases h
      · cases hc
  all_goals (try simp only [convC, sliceC, builtinC, callC, oOf, cond_eq_ite] at hc)
  all_goals (repeat' split at hc)
  all_goals first | (cases hc; done) | contradiction

theorem step_ret_of {f : FuncId} {args' : Array Value} {R : Ending → World → Prop} {c : Frame} (h : Calls P f args' w R) (hret : ∀ e w₁, R e w₁ → ∃ v, e = .returned v) :
    ∃ v w₁, R (.returned v) w₁ ∧ Steps P (lone (Frame.enter P f args' .normal) (c :: cs) w) (lone (c.finish v) cs w₁) := by
  obtain ⟨e, w₁, fr, hR, hc, hfn, hl⟩ := h (c :: cs)
  obtain ⟨v, rfl⟩ := hret e w₁ hR
  exact ⟨v, w₁, hR, Steps.trans hc (.one (step_leave_returned hl))⟩

/-- an operation that is carried out -/
theorem doOp_ok (tok : TabOk P tab) (hz : ZerosOk tab) (hC : C.ts = tab.size) (EO : EnvOk P tab C E) (hfr : FrOk ρ E b cs) (st : St C ρ n a s a' w) (ho : operOk n C.G o = true) (hi : ops[i]? = some o) (hw : Region.wanted o (yielded ops a'.tmps) = true)
    (h : (doOp (putD o.dst) (compileOp tab o)).run E a s k = some outs) :
    OpGoes P C ρ a s w n o.dst k outs (lone (b.atR a' (.inRegion ops (i :: rest) :: kk)) cs w) (fun a₁' w₁ => lone (b.atR a₁' (.inRegion ops rest :: kk)) cs w₁) := by
  have ho' : operOk a'.tmps.size C.G o = true := by rw [st.sz]; exact ho
  have kp : ∀ ds v, Keeps o.dst a ((putD o.dst).put ⟨a.tmps, ds⟩ v) := Keeps.put (fun d hd => by
    have h1 := operOk_dst ho d hd
    have h2 := st.ac.1.1
    rw [st.sz] at h2
    exact Nat.lt_of_lt_of_le h1 h2) a
  -- a value, and the step with it
  have val : ∀ {v : Value} {s₁ : S} {ρ₁ : Rn} {w₁ : World} {v' : Value} {outs₁ : List Out}, (∀ c, o.op ≠ .defer c) → k ((putD o.dst).put a v) s₁ = some outs₁ → (∀ x ∈ outs₁, x ∈ outs) → HRel C ρ₁ s₁ w₁ → Goes ρ s w ρ₁ s₁ w₁ → LogOk s s₁ → VRel ρ₁ v v' →
      (execOp a'.eval o).run P w = .ok (.value v') w₁ → OpGoes P C ρ a s w n o.dst k outs (lone (b.atR a' (.inRegion ops (i :: rest) :: kk)) cs w) (fun a₁' w₁ => lone (b.atR a₁' (.inRegion ops rest :: kk)) cs w₁) := by
    intro v s₁ ρ₁ w₁ v' outs₁ hnd hk hsub hr hg hl hv he
    refine ⟨_, s₁, ρ₁, w₁, _, outs₁, hk, hsub, st.put ho hr hg.ext hv, ⟨hg, hl⟩, kp _ _, .one ?_⟩
    exact step_value hi hw (by rw [Oper.semAt_eq _ _ _ hnd]; exact he)
  cases hcl : compileOp tab o with
  | mov f =>
    rw [hcl] at h
    obtain ⟨v', he, hv⟩ := movOp_ok (P := P) (w := w) st.hr st.ac ho' hcl
    exact val (not_defer (by rw [hcl]; intro f h; cases h) (by rw [hcl]; intro h; cases h)) h (fun _ h => h) st.hr (Goes.refl _ _ _) (LogOk.refl _) hv he
  | pure f =>
    rw [hcl] at h
    obtain ⟨v, hf, hk⟩ := onOpt_some h
    obtain ⟨v', he, hv⟩ := pureOp_ok tok hz st.hr st.ac ho' hcl hf
    exact val (not_defer (by rw [hcl]; intro f h; cases h) (by rw [hcl]; intro h; cases h)) hk (fun _ h => h) st.hr (Goes.refl _ _ _) (LogOk.refl _) hv he
  | read f =>
    rw [hcl] at h
    obtain ⟨v, hf, hk⟩ := onOpt_some h
    obtain ⟨v', he, hv⟩ := readOp_ok tok hz hC st.hr st.ac ho' hcl hf
    exact val (not_defer (by rw [hcl]; intro f h; cases h) (by rw [hcl]; intro h; cases h)) hk (fun _ h => h) st.hr (Goes.refl _ _ _) (LogOk.refl _) hv he
  | new f =>
    rw [hcl] at h
    obtain ⟨q, hf, hk⟩ := onOpt_some h
    obtain ⟨ρ₁, w₁, v', he, hr, hg, hv⟩ := newOp_ok tok hz hC st.hr st.ac ho' hcl hf
    exact val (not_defer (by rw [hcl]; intro f h; cases h) (by rw [hcl]; intro h; cases h)) hk (fun _ h => h) hr hg (LogOk.new _ _) hv he
  | act f =>
    rw [hcl] at h
    obtain ⟨⟨v, s₁⟩, hf, hk⟩ := onOpt_some h
    have hnd := not_defer (tab := tab) (o := o) (by rw [hcl]; intro f h; cases h) (by rw [hcl]; intro h; cases h)
    cases hsel : isSelect o.op with
    | false =>
      obtain ⟨ρ₁, w₁, hr, hg, hend⟩ := actOp_ok tok hz hC st.hr st.ac ho' hsel hcl hf
      rcases hend with ⟨v', he, hv⟩ | ⟨he, hv⟩
      · exact val hnd hk (fun _ h => h) hr hg (act_log hcl hf) hv he
      · subst hv
        exact ⟨_, s₁, ρ₁, w₁, _, outs, hk, fun _ h => h, st.put ho hr hg.ext (undef_rel _), ⟨hg, act_log hcl hf⟩, kp _ _, .one (step_none hi hw (by rw [Oper.semAt_eq _ _ _ hnd]; exact he))⟩
    | true =>
      obtain ⟨w₁, v', hr, hg, hv, hs⟩ := selOp_ok (b := b) (cs := cs) (kk := kk) (rest := rest) tok hz st.hr st.ac ho' hsel hcl hf hi hw
      exact ⟨_, s₁, ρ, w₁, _, outs, hk, fun _ h => h, st.put ho hr hg.ext hv, ⟨hg, act_log hcl hf⟩, kp _ _, .one hs⟩
  | many f =>
    rw [hcl] at h
    have h : kM (putD o.dst) a k (f a s) = some outs := h
    cases hf : f a s with
    | none => rw [hf] at h; cases h
    | some l =>
      rw [hf] at h
      obtain ⟨q, hq, ρ₁, w₁, v', he, hr, hg, hv⟩ := manyOp_ok (P := P) st.hr st.ac ho' hcl hf
      obtain ⟨r', hk, hsub⟩ := bindL_mem h q hq
      exact val (not_defer (by rw [hcl]; intro f h; cases h) (by rw [hcl]; intro h; cases h)) hk hsub hr hg (many_log hcl hf q hq) hv he
  | call f =>
    rw [hcl] at h
    have h : kC (putD o.dst) E a s k (f a) = some outs := h
    have hnd := not_defer (tab := tab) (o := o) (by rw [hcl]; intro f h; cases h) (by rw [hcl]; intro h; cases h)
    cases hf : f a with
    | none => rw [hf] at h; cases h
    | some t =>
      rw [hf] at h
      cases t with
      | enter g args =>
        obtain ⟨l, hcall, hall⟩ := bindO_some h
        obtain ⟨⟨fn, hfn⟩, hcalls⟩ := EO.call _ _ _ _ hcall
        obtain ⟨args', he, hargs⟩ := enterOp_ok tok st.hr st.ac ho' hcl hf hfn
        obtain ⟨v, w₁, ⟨q, hq, ρ₁, v', hv0, hv, hr, hgo⟩, hst⟩ := step_ret_of (cs := cs) (c := b.atR a' (.inRegion ops (i :: rest) :: kk)) (hcalls ρ w args' st.hr hargs) (fun e w₁ ⟨q, _, ρ₁, v', h, _⟩ => ⟨v', h⟩)
        cases hv0
        obtain ⟨r', hk, hsub⟩ := hall q hq
        refine ⟨_, q.2, ρ₁, w₁, _, r', hk, hsub, st.put ho hr hgo.goes.ext hv, hgo, kp _ _, .head (step_enter hi hw (by rw [Oper.semAt_eq _ _ _ hnd]; exact he)) ?_⟩
        rw [fin_atR hi] at hst
        exact hst
      | yield l args =>
        obtain ⟨ls, hcall, hall⟩ := bindO_some h
        obtain ⟨rb, args', hrb, he, hargs⟩ := yieldOp_ok st.hr st.ac ho' hcl hf
        obtain ⟨g, ts, x, y, hy, hcs⟩ := EO.yield _ _ _ _ hcall ρ w args' rb st.hr hargs hrb
        obtain ⟨q, hq, ρ₁, w₁, v', hst, hv, hr, hgo⟩ := hcs (b.atR a' (.inRegion ops (i :: rest) :: kk)) cs
        obtain ⟨r', hk, hsub⟩ := hall q hq
        refine ⟨_, q.2, ρ₁, w₁, _, r', hk, hsub, st.put ho hr hgo.goes.ext hv, hgo, kp _ _, .head (step_round hi hw (by rw [Oper.semAt_eq _ _ _ hnd, he]; exact hy)) ?_⟩
        rw [fin_atR hi] at hst
        exact hst
  | defer f =>
    rw [hcl] at h
    have h : kD (putD o.dst) E a s k (f a) = some outs := h
    cases hf : f a with
    | none => rw [hf] at h; cases h
    | some d =>
      rw [hf] at h
      rcases hfr.round with ⟨h1, h2⟩ | ⟨l, rb, h1, h2, h3⟩
      · simp only [kD, h1] at h
        obtain ⟨d', he, hd⟩ := deferOp_ok (P := P) (w := w) st.hr st.ac ho' hcl hf
        have st1 : St C ρ n ⟨a.tmps, d :: a.defers⟩ s ⟨a'.tmps, d' :: a'.defers⟩ w := ⟨st.hr, ⟨st.ac.1, by simp only [DsRel]; exact ⟨_, _, rfl, hd, st.ac.2⟩⟩, st.sz⟩
        refine ⟨_, s, ρ, w, _, outs, h, fun _ h => h, st1.put ho st.hr (Rn.le_refl _) (undef_rel _), Went.refl _ _ _, kp _ _, .one ?_⟩
        exact step_defer hi hw (by rw [h2, Oper.semAt_none]; exact he)
      · simp only [kD, h1] at h
        cases h
  | recover =>
    rw [hcl] at h
    have h : kR (putD o.dst) E a s k = some outs := h
    rcases hfr.round with ⟨h1, h2⟩ | ⟨l, rb, h1, h2, h3⟩
    · simp only [kR, h1] at h
      exact ⟨_, s, ρ, w, _, outs, h, fun _ h => h, st.put ho st.hr (Rn.le_refl _) (by simp [VRel]), Went.refl _ _ _, kp _ _, .one (step_recover hi hw h2 hfr.calm (exec_recover hcl _))⟩
    · simp only [kR, h1] at h
      cases h
  | panic f => rw [hcl] at h; cases h
  | bad => rw [hcl] at h; cases h

theorem getElem_list {ops : Array Oper} (j : Nat) : ops.toList[j]? = ops[j]? := by simp

/-- an operation, wanted or not -/
theorem oneOp_ok (tok : TabOk P tab) (hz : ZerosOk tab) (hC : C.ts = tab.size) (EO : EnvOk P tab C E) (hfr : FrOk ρ E b cs) (st : St C ρ n a s a' w) (hall : ∀ x ∈ ops.toList, operOk n C.G x = true) (hi : ops[i]? = some o)
    (h : (oneOp tab ops.toList o).run E a s k = some outs) :
    OpGoes P C ρ a s w n o.dst k outs (lone (b.atR a' (.inRegion ops (i :: rest) :: kk)) cs w) (fun a₁' w₁ => lone (b.atR a₁' (.inRegion ops rest :: kk)) cs w₁) := by
  have hmem : ∀ {j : Nat} {x : Oper}, ops[j]? = some x → operOk n C.G x = true := fun {j x} hx => hall x (by
    rw [← getElem_list] at hx
    exact List.mem_of_getElem? hx)
  have ho := hmem hi
  have kp : ∀ ds v, Keeps o.dst a ((putD o.dst).put ⟨a.tmps, ds⟩ v) := Keeps.put (fun d hd => by
    have h1 := operOk_dst ho d hd
    have h2 := st.ac.1.1
    rw [st.sz] at h2
    exact Nat.lt_of_lt_of_le h1 h2) a
  have skip : (skipOp (putD o.dst)).run E a s k = some outs → Region.wanted o (yielded ops a'.tmps) = false → OpGoes P C ρ a s w n o.dst k outs (lone (b.atR a' (.inRegion ops (i :: rest) :: kk)) cs w) (fun a₁' w₁ => lone (b.atR a₁' (.inRegion ops rest :: kk)) cs w₁) := by
    intro h hw
    refine ⟨_, s, ρ, w, _, outs, h, fun _ h => h, st.put ho st.hr (Rn.le_refl _) (undef_rel _), Went.refl _ _ _, kp _ _, .one ?_⟩
    have := stepR_op_skip (P := P) (b := b) (a := a') (k := kk) (cs := cs) (w := w) (ops := ops) (i := i) (rest := rest) (by simp [hi, hw])
    rw [hi] at this
    exact this
  unfold oneOp at h
  cases hg : o.guard with
  | none =>
    rw [hg] at h
    exact doOp_ok tok hz hC EO hfr st ho hi (by unfold Region.wanted; rw [hg]) h
  | some g =>
    obtain ⟨j, want⟩ := g
    rw [hg] at h
    simp only at h
    cases hd : dstOf ops.toList j with
    | none =>
      rw [hd] at h
      refine skip h ?_
      unfold Region.wanted
      rw [hg]
      have : yielded ops a'.tmps j = none := by
        unfold yielded
        unfold dstOf at hd
        rw [getElem_list] at hd
        cases hj : ops[j]? with
        | none => simp
        | some oj => rw [hj] at hd; simp only at hd; simp [hd]
      simp [this]
    | some t =>
      rw [hd] at h
      have hlt : t < n := by
        unfold dstOf at hd
        rw [getElem_list] at hd
        cases hj : ops[j]? with
        | none => rw [hj] at hd; cases hd
        | some oj => rw [hj] at hd; exact operOk_dst (hmem hj) t hd
      have hsl : VRel ρ ((slot t).get a) (a'.tmps.getD t undef) := st.ac.1.2 t (by rw [st.sz]; exact hlt)
      have hyl : (yielded ops a'.tmps j == some want) = isB want ((slot t).get a) := by
        rw [isB_ok hsl]
        unfold yielded
        have hdst : (ops[j]?).bind (·.dst) = some t := by
          unfold dstOf at hd
          rw [getElem_list] at hd
          cases hj : ops[j]? with
          | none => rw [hj] at hd; cases hd
          | some oj => rw [hj] at hd; simpa using hd
        have hlt' : t < a'.tmps.size := by rw [st.sz]; exact hlt
        rw [hdst]
        have h2 : a'.tmps[t]? = some (a'.tmps.getD t undef) := by
          rw [Array.getD_eq_getD_getElem?, Array.getElem?_eq_getElem hlt']; rfl
        rw [Option.bind_some, h2]
        generalize a'.tmps.getD t undef = y
        cases y with
        | bool b => cases b <;> cases want <;> rfl
        | _ => rfl
      have h : cond (isB want ((slot t).get a)) ((doOp (putD o.dst) (compileOp tab o)).run E a s k) ((skipOp (putD o.dst)).run E a s k) = some outs := h
      cases hb : isB want ((slot t).get a) with
      | true =>
        rw [hb] at h
        exact doOp_ok tok hz hC EO hfr st ho hi (by unfold Region.wanted; rw [hg]; simp only; rw [hyl, hb]) h
      | false =>
        rw [hb] at h
        exact skip h (by unfold Region.wanted; rw [hg]; simp only; rw [hyl, hb])

end Go.Ac
end
section
namespace Go.Ac
variable {P : Program} {tab : Tab} {C : Cx} {ρ : Rn} {s : S} {w w' : World} {a : A} {a' : Act} {o : Oper} {E : Env} {n : Nat}
variable {b : Frame} {cs : List Frame} {k : List Item} {ops : Array Oper}

/-! ### what is asked of code -/
noncomputable def codeOk (tab : Tab) (n G : Nat) : Code → Bool
  | .region _ ops draw => ops.toList.all (operOk n G) && cond draw (drawOkB tab ops) true
  | .seq x y => codeOk tab n G x && codeOk tab n G y
  | .cond c x y => opOk n G c && (codeOk tab n G x && codeOk tab n G y)
  | .block _ x => codeOk tab n G x
  | .loop x => codeOk tab n G x
  | .rangeFunc f params assign body => opOk n G f && (params.toList.all (fun t => Nat.ble (t + 1) n) && (codeOk tab n G assign && codeOk tab n G body))
  | .scope x => codeOk tab n G x
  | _ => true

def lokOf (tab : Tab) (G : Nat) (n : Nat) (l : ALoop) : Prop :=
  l.params.all (fun t => Nat.ble (t + 1) n) = true ∧ codeOk tab n G l.assign = true ∧ codeOk tab n G l.body = true

/-! ### loops in memory -/
structure LoopRel (C : Cx) (ρ : Rn) (r : ALoop) (l : Loop) : Prop where
  state : l.state = r.state
  pending : l.pending = r.pending
  fn : l.fn = r.fn
  tmps : TRel ρ r.tmps l.tmps
  params : l.params.toList = r.params
  assign : l.assign = r.assign
  body : l.body = r.body
  defers : ∃ rd, ρ r.defers = some rd ∧ l.defers = rd.blk
  lok : C.lok l.tmps.size r

theorem LoopRel.obj {r : ALoop} {l : Loop} {rb : RB} (h : LoopRel C ρ r l) : ORel ρ C rb (.loop r) (.loop l) :=
  let ⟨rd, h1, h2⟩ := h.defers
  ⟨l, rd, rfl, h.state, h.pending, h.fn, h.tmps, h.params, h.assign, h.body, h1, h2, h.lok⟩

theorem loop_get {l : Nat} {r : ALoop} (h : s.loop l = some r) : s.get l = some (.loop r) := by
  unfold S.loop at h
  split at h
  · cases h; assumption
  · cases h

theorem loop_there (hr : HRel C ρ s w) {l : Nat} {r : ALoop} (h : s.loop l = some r) : ∃ rb l', ρ l = some rb ∧ w.heap[rb.blk]? = some (.loop l') ∧ LoopRel C ρ r l' := by
  obtain ⟨rb, h1, hN, o', h2, l', rd, h3, h4, h5, h6, h7, h8, h9, h10, h11, h12, h13⟩ := hr.live _ _ (loop_get h)
  subst h3
  exact ⟨rb, l', h1, h2, h4, h5, h6, h7, h8, h9, h10, ⟨rd, h11, h12⟩, h13⟩

theorem run_getLoop {l : Nat} {l' : Loop} (h : w.heap[l]? = some (.loop l')) : (Instr.getLoop l).run P w = .ok l' w := by
  unfold Instr.getLoop
  rw [Sem.run_bind, run_getObj h (by intro c e f hc; cases hc)]
  rfl

theorem run_setLoop {l : Nat} {l' : Loop} (h : w.heap[l]? = some (.loop l')) (o : Obj) : (setObj l o).run P w = .ok () (World.setObj w l o) :=
  run_setObj h (by intro c e f hc; cases hc) o

/-- a loop, turned -/
theorem HRel.loop_turn (hr : HRel C ρ s w) {l : Nat} {r : ALoop} {st : LoopState} {pd : Option Code} {l₁ : Loop} {rb : RB} (h : s.loop l = some r) (hrb : ρ l = some rb) (ho : LoopRel C ρ (r.set st pd) l₁) :
    HRel C ρ (s.put l (.loop (r.set st pd))) (World.setObj w rb.blk (.loop l₁)) ∧ Went ρ s w ρ (s.put l (.loop (r.set st pd))) (World.setObj w rb.blk (.loop l₁)) := by
  obtain ⟨t1, t2⟩ := hr.turn (s' := s.put l (.loop (r.set st pd))) (loop_get h) hrb (fun c => S.get_put _ _ _ _) rfl ho.obj
  exact ⟨t1, t2, LogOk.putLoop _ _ (loop_get h) _ _⟩

/-- the end of a round -/
theorem run_endRound {l : Nat} {l' : Loop} (h : w.heap[l]? = some (.loop l')) (jump : Option Code) :
    (Instr.endRound l jump).run P w = .ok (.bool jump.isNone) (World.setObj w l (.loop { l' with state := if jump.isNone then .ready else .done, pending := jump })) := by
  unfold Instr.endRound
  rw [Sem.run_bind, run_getLoop h]
  simp only [Result.andThen_ok]
  rw [Sem.run_bind, run_setLoop h]
  rfl

theorem run_beginRound {l : Nat} {l' : Loop} (h : w.heap[l]? = some (.loop l')) (hs : l'.state = .ready) :
    (Instr.beginRound l).run P w = .ok () (World.setObj w l (.loop { l' with state := .busy })) := by
  unfold Instr.beginRound
  rw [Sem.run_bind, run_getLoop h]
  simp only [Result.andThen_ok]
  rw [Sem.run_bind, run_setLoop h]
  simp only [Result.andThen_ok, hs]
  rfl

theorem run_endLoop {l : Nat} {l' : Loop} (h : w.heap[l]? = some (.loop l')) (hs : l'.state ≠ .busy) :
    (Instr.endLoop l).run P w = .ok l'.pending (World.setObj w l (.loop { l' with state := .exhausted })) := by
  unfold Instr.endLoop
  rw [Sem.run_bind, run_getLoop h]
  have : (l'.state == LoopState.busy) = false := by
    cases hst : l'.state <;> first | rfl | (exact absurd hst hs)
  simp only [Result.andThen_ok, this, Bool.false_eq_true, if_false]
  rw [Sem.run_bind]
  show ((setObj l _).run P w).andThen _ = _
  rw [run_setLoop h]
  rfl

theorem run_newObj (o : Obj) : (newObj o).run P w = .ok w.heap.size (w.alloc o) := rfl

/-! ### steps -/
theorem stepR_scope {x : Code} : step P (lone (b.atR a' (.code (.scope x) :: k)) cs w) = .next (lone (b.atR a' (.code x :: .inScope x :: k)) cs w) :=
  step_lone_go (by simp [stepG, stepG.exec, Frame.atR])
theorem stepR_inScope {x : Code} : step P (lone (b.atR a' (.inScope x :: k)) cs w) = .next (lone (b.atR a' k) cs w) :=
  step_lone_go (by simp [stepG, stepG.exec, Frame.atR])

theorem step_endRange {l : Nat} {jump : Option Code} (h : (Instr.endLoop l).run P w = .ok jump w') :
    step P (lone (b.atR a' (.endRangeFunc l :: k)) cs w) = .next (lone (b.atR a' ((jump.map Item.code).toList ++ k)) cs w') :=
  step_lone_go (by simp [stepG, stepG.exec, Frame.atR, Sem.runT_eq, h])

def rangeCall (f : Operand) (l : Nat) : Call := { callee := .value f, args := #[.const (.func (.yield l) #[] #[])], argTypes := #[] }

theorem step_range {f : Operand} {params : Array Tmp} {assign body : Code} {l : Nat} {mark : List Deferred} {g : FuncId} {args : Array Value}
    (he : (Instr.enterLoop b.fn a'.tmps params assign body b.roundOf).run P w = .ok (l, mark) w')
    (hc : (do let d ← resolve a'.eval (rangeCall f l) 0; invoke d.target d.args : Sem Next).run P w' = .ok (.enter g args) w') :
    step P (lone (b.atR a' (.code (.rangeFunc f params assign body) :: k)) cs w) = .next (lone (Frame.enter P g args .normal) (b.atR ⟨a'.tmps, mark ++ a'.defers⟩ (.inRangeFunc l :: k) :: cs) w') := by
  refine step_lone_go ?_
  have hev : ∀ x, Frame.eval { fn := b.fn, tmps := a'.tmps, todo := .inRangeFunc l :: k, defers := mark ++ a'.defers, mode := .run, kind := b.kind, roundOf := b.roundOf } x = a'.eval x := fun x => by cases x <;> rfl
  have hev' : Frame.eval { fn := b.fn, tmps := a'.tmps, todo := .inRangeFunc l :: k, defers := mark ++ a'.defers, mode := .run, kind := b.kind, roundOf := b.roundOf } = a'.eval := funext hev
  unfold rangeCall at hc
  simp only [stepG, stepG.exec, Frame.atR, Sem.runT_eq, he, GStep.bare_after, hev', stepG.apply, if_true, hc, GStep.bare_go]

end Go.Ac
end
section
namespace Go.Ac
def Out.a : Out → A
  | .nrm a _ => a
  | .ext _ a _ => a
  | .ret a _ => a
def Out.s : Out → S
  | .nrm _ s => s
  | .ext _ _ s => s
  | .ret _ s => s
variable {P : Program} {tab : Tab} {C : Cx} {ρ : Rn} {s : S} {w w' : World} {a : A} {a' : Act} {o : Oper} {E : Env} {n : Nat}
variable {b : Frame} {cs : List Frame} {k : List Item} {ops : Array Oper} {outs : List Out}


/-- where the machine has come to -/
def Arr (P : Program) (m : Machine) (b : Frame) (k : List Item) (cs : List Frame) (a' : Act) (w' : World) : Out → Prop
  | .nrm _ _ => Steps P m (lone (b.atR a' k) cs w')
  | .ext id _ _ => ∃ k₂, exitTo id k₂ = exitTo id k ∧ Steps P m (lone (b.atR a' (.code (.exit id) :: k₂)) cs w')
  | .ret _ _ => ∃ k₂, Steps P m (lone (b.atR a' (.code .ret :: k₂)) cs w')

theorem Arr.head {m m' : Machine} (h : Steps P m m') : ∀ {o : Out}, Arr P m' b k cs a' w' o → Arr P m b k cs a' w' o
  | .nrm _ _, k => h.trans k
  | .ext _ _ _, ⟨k₂, h1, h2⟩ => ⟨k₂, h1, h.trans h2⟩
  | .ret _ _, ⟨k₂, h2⟩ => ⟨k₂, h.trans h2⟩

def Fin (P : Program) (C : Cx) (ρ : Rn) (s : S) (w : World) (n : Nat) (outs : List Out) (m : Machine) (b : Frame) (k : List Item) (cs : List Frame) : Prop :=
  ∃ o ∈ outs, ∃ ρ₁ w₁ a₁', St C ρ₁ n o.a o.s a₁' w₁ ∧ Went ρ s w ρ₁ o.s w₁ ∧ Arr P m b k cs a₁' w₁ o

theorem Fin.head {m m' : Machine} (h : Steps P m m') (f : Fin P C ρ s w n outs m' b k cs) : Fin P C ρ s w n outs m b k cs :=
  let ⟨o, ho, ρ₁, w₁, a₁', h1, h2, h3⟩ := f
  ⟨o, ho, ρ₁, w₁, a₁', h1, h2, h3.head h⟩
theorem Fin.sub {m : Machine} {outs' : List Out} (h : ∀ x ∈ outs', x ∈ outs) (f : Fin P C ρ s w n outs' m b k cs) : Fin P C ρ s w n outs m b k cs :=
  let ⟨o, ho, r⟩ := f
  ⟨o, h o ho, r⟩
theorem Fin.went {m : Machine} {ρ₁ : Rn} {s₁ : S} {w₁ : World} (h : Went ρ s w ρ₁ s₁ w₁) (f : Fin P C ρ₁ s₁ w₁ n outs m b k cs) : Fin P C ρ s w n outs m b k cs :=
  let ⟨o, ho, ρ₂, w₂, a₁', h1, h2, h3⟩ := f
  ⟨o, ho, ρ₂, w₂, a₁', h1, h.trans h2, h3⟩

/-- a piece of code that is followed rightly -/
def RunOk (P : Program) (C : Cx) (E : Env) (n : Nat) (run : A → S → Outs) (c : Code) : Prop :=
  ∀ a s outs, run a s = some outs → ∀ ρ w a' b k cs, FrOk ρ E b cs → St C ρ n a s a' w → Fin P C ρ s w n outs (lone (b.atR a' (.code c :: k)) cs w) b k cs

end Go.Ac
end
section
namespace Go.Ac
variable {P : Program} {tab : Tab} {C : Cx} {ρ : Rn} {s : S} {w w' : World} {a : A} {a' : Act} {o : Oper} {E : Env} {n : Nat}

/-! ### what an operation looks at -/
def COp.same (a b : A) : COp → Prop
  | .mov f => f a = f b
  | .pure f => f a = f b
  | .read f => f a = f b
  | .new f => f a = f b
  | .act f => f a = f b
  | .many f => f a = f b
  | .call f => f a = f b
  | .defer f => f a = f b
  | .recover => True
  | .panic f => f a = f b
  | .bad => True

def Agree (a b : A) (l : List Operand) : Prop := ∀ x ∈ l, (opd x).get a = (opd x).get b

theorem Agree.L {b : A} : ∀ {l : List Operand}, Agree a b l → (opdL l).get a = (opdL l).get b
  | [], _ => rfl
  | x :: l, h => by
    show (opd x).get a :: (opdL l).get a = (opd x).get b :: (opdL l).get b
    rw [h x (by simp), Agree.L fun y hy => h y (by simp [hy])]
theorem agreeS {b : A} : ∀ {l : List (Nat × Operand)}, Agree a b (l.map (·.2)) → (opds l).get a = (opds l).get b
  | [], _ => rfl
  | (i, x) :: l, h => by
    show (i, (opd x).get a) :: (opds l).get a = (i, (opd x).get b) :: (opds l).get b
    rw [h x (by simp), agreeS fun y hy => h y (by
      simp only [List.map_cons, List.mem_cons]; exact .inr hy)]
theorem Agree.O {b : A} {x : Option Operand} (h : Agree a b (optL x)) : (opdO x).get a = (opdO x).get b := by
  cases x with
  | none => rfl
  | some x => show some _ = some _; rw [h x (by simp [optL])]

theorem cop_same {b : A} (h : Agree a b (opOps o.op)) : COp.same a b (compileOp tab o) := by
  have L : ∀ {l : List Operand}, (∀ x ∈ l, x ∈ opOps o.op) → (opdL l).get a = (opdL l).get b := fun hl => Agree.L fun x hx => h x (hl x hx)
  have S : ∀ {l : List (Nat × Operand)}, (∀ x ∈ l.map (·.2), x ∈ opOps o.op) → (opds l).get a = (opds l).get b := fun hl => agreeS fun x hx => h x (hl x hx)
  have O : ∀ {x : Option Operand}, (∀ y ∈ optL x, y ∈ opOps o.op) → (opdO x).get a = (opdO x).get b := fun hl => Agree.O fun x hx => h x (hl x hx)
  cases hop : o.op
  all_goals (rw [hop] at h L S O; unfold compileOp; rw [hop]; try simp only)
  case build t parts =>
    have hp := S (l := parts.toList) (by intro x hx; simpa [opOps] using hx)
    simp only [oOf]
    repeat' split
    all_goals first | trivial | (simp only [COp.same, hp])
  case buildSlice t n parts =>
    have hp := S (l := parts.toList) (by intro x hx; simpa [opOps] using hx)
    simp only [oOf, cond_eq_ite]
    repeat' split
    all_goals first | trivial | (simp only [COp.same, hp])
  case makeFunc fn first cap =>
    have h1 := L (l := first.toList) (by intro x hx; simp only [opOps]; exact List.mem_append_left _ hx)
    have h2 := L (l := cap.toList) (by intro x hx; simp only [opOps]; exact List.mem_append_right _ hx)
    repeat' split
    all_goals first | trivial | (simp only [COp.same, h1, h2])
  case makeMap t r =>
    cases r with
    | none =>
      simp only
      repeat' split
      all_goals first | trivial | (simp only [COp.same])
    | some x =>
      have h1 := h x (by simp [opOps, optL])
      simp only
      repeat' split
      all_goals first | trivial | (simp only [COp.same, h1])
  case slice t x lo hi mx =>
    have h1 := h x (by simp [opOps])
    have h2 := O (x := lo) (by intro y hy; simp only [opOps]; exact List.mem_cons_of_mem _ (List.mem_append_left _ (List.mem_append_left _ hy)))
    have h3 := O (x := hi) (by intro y hy; simp only [opOps]; exact List.mem_cons_of_mem _ (List.mem_append_left _ (List.mem_append_right _ hy)))
    have h4 := O (x := mx) (by intro y hy; simp only [opOps]; exact List.mem_cons_of_mem _ (List.mem_append_right _ hy))
    simp only [sliceC, oOf, cond_eq_ite]
    repeat' split
    all_goals first | trivial | (simp only [COp.same, h1, h2, h3, h4])
  case call c =>
    have hargs := L (l := c.args.toList) (by intro x hx; simp only [opOps, callOps]; exact List.mem_append_right _ hx)
    have hv : ∀ x, x ∈ c.args.toList → (opd x).get a = (opd x).get b := fun x hx => h x (by simp only [opOps, callOps]; exact List.mem_append_right _ hx)
    cases hcal : c.callee with
    | builtin bi =>
      simp only
      unfold builtinC
      generalize hal : c.args.toList = al at hv
      repeat' split
      all_goals first
        | trivial
        | ((try simp only [oOf, cond_eq_ite]); repeat' split
           all_goals first
             | trivial
             | (simp only [List.mem_cons, List.not_mem_nil, or_false, forall_eq_or_imp, forall_eq] at hv; simp only [COp.same, hv]))
    | value f =>
      have hf := h f (by simp [opOps, callOps, hcal])
      try simp only
      unfold callC
      rw [hcal]
      try simp only
      repeat' split
      all_goals first | trivial | (simp only [COp.same, hargs, hf]; done) | (rename_i heq; cases heq; simp only [COp.same, hargs, hf])
    | invoke r m =>
      try simp only
      unfold callC
      rw [hcal]
      trivial
  case defer c =>
    have hargs := L (l := c.args.toList) (by intro x hx; simp only [opOps, callOps]; exact List.mem_append_right _ hx)
    cases hcal : c.callee with
    | value f =>
      have hf := h f (by simp [opOps, callOps, hcal])
      simp only [COp.same, hargs, hf]
    | invoke r m => trivial
    | builtin bi => trivial
  case select cases blocking =>
    split
    · rename_i c hcs
      simp only [oOf]
      have h1 := h c.chan (by simp [opOps, hcs])
      repeat' split
      all_goals first
        | trivial
        | (rename_i x hsend
           have h2 := h x (by simp [opOps, hcs, hsend, optL])
           simp only [COp.same, h1, h2]; done)
        | (simp only [COp.same, h1]; done)
    · trivial
  all_goals (simp only [opOps, Agree, List.mem_cons, List.not_mem_nil, or_false, forall_eq_or_imp, forall_eq] at h)
  all_goals (try simp only [convC, oOf, cond_eq_ite])
  all_goals (repeat' split)
  all_goals first
    | trivial
    | (simp only [COp.same, h]; done)

/-- what is read hangs on the blocks alone -/
theorem read_get {f : A → S → Option Value} (hc : compileOp tab o = .read f) (a : A) {s s' : S} (h : ∀ b, s'.get b = s.get b) : f a s' = f a s := by
  have hg : S.get s' = S.get s := funext h
  have hread : S.read s' = S.read s := by funext b off n; unfold S.read; rw [hg]
  have hread1 : S.read1 s' = S.read1 s := by funext b off; unfold S.read1; rw [hg]
  have hmap : S.map s' = S.map s := by funext b; unfold S.map; rw [hg]
  have hmapOf : mapOf s' = mapOf s := by funext x; unfold mapOf; rw [hmap]
  have hconv : vConvBytes s' = vConvBytes s := by funext x; unfold vConvBytes; rw [hread]
  have hload1 : vLoad1 s' = vLoad1 s := by funext x; unfold vLoad1; rw [hread1]
  have hloadN : ∀ n, vLoadN n s' = vLoadN n s := by intro n; funext x; unfold vLoadN; rw [hread]
  have hlook : ∀ e z ok, vLookup e z ok s' = vLookup e z ok s := by intro e z ok; funext x k; unfold vLookup; rw [hmapOf]
  have hlen : vLenMap s' = vLenMap s := by funext x; unfold vLenMap; rw [hmapOf]
  have hlenc : vLenChan s' = vLenChan s := by funext x; unfold vLenChan; rw [hg]
  have hent : vEntry s' = vEntry s := by funext x; unfold vEntry; have : vEntryAt s' = vEntryAt s := by { funext ad; unfold vEntryAt; rw [hg, hmap] }; rw [this]
  have hsl : ∀ e n, vSlice e n s' = vSlice e n s := by intro e n; funext x lo hi mx; unfold vSlice; have : mayCut e s' = mayCut e s := by { funext b c lo mx; unfold mayCut; rw [hg] }; rw [this]
  cases hop : o.op
  all_goals (unfold compileOp at hc; rw [hop] at hc; simp only at hc)
  all_goals (try simp only [convC, sliceC, builtinC, callC, oOf, cond_eq_ite] at hc)
  all_goals (repeat' split at hc)
  all_goals first
    | (cases hc; done)
    | contradiction
    | (cases hc; simp only [hconv, hload1, hloadN, hlook, hlen, hlenc, hent, hsl]; done)

end Go.Ac
end
section
namespace Go.Ac
variable {P : Program} {tab : Tab} {C : Cx} {ρ : Rn} {s : S} {w w' : World} {a b : A} {a' : Act} {o : Oper} {E : Env} {n : Nat} {ops : List Oper} {bm : List Nat} {em : Nat}

/-! ### masks -/
theorem sub_ok {x y : Nat} (h : sub x y = true) {l : Nat} (hl : x.testBit l = true) : y.testBit l = true := by
  have h1 : x &&& y = x := of_beq h
  rw [← h1, Nat.testBit_and] at hl
  simp only [Bool.and_eq_true] at hl
  exact hl.2
theorem bit_add (p i l : Nat) : (Nat.lor p (Nat.shiftLeft 1 i)).testBit l = (p.testBit l || decide (l = i)) := by
  show (p ||| 1 <<< i).testBit l = _
  rw [Nat.testBit_or]
  congr 1
  rw [Nat.one_shiftLeft, Nat.testBit_two_pow]
  by_cases h : i = l
  · subst h; simp
  · simp [h, Ne.symm h]
theorem bit_one (i l : Nat) : (Nat.shiftLeft 1 i).testBit l = decide (l = i) := by
  show (1 <<< i).testBit l = _
  rw [Nat.one_shiftLeft, Nat.testBit_two_pow]
  by_cases h : i = l
  · subst h; simp
  · simp [h, Ne.symm h]

theorem nthO_eq : ∀ (i : Nat) (l : List Oper), nthO i l = l[i]?
  | _, [] => by simp [nthO]
  | 0, x :: l => rfl
  | i + 1, x :: l => by simp [nthO, nthO_eq i l]

theorem edgeMask_ok : ∀ {es : List Edge} {l : Nat}, (edgeMask bm es).testBit l = true → ∃ e ∈ es, Region.binds .any e = true ∧ (e.on = l ∨ (nthM e.on bm).testBit l = true)
  | [], l, h => by simp [edgeMask] at h
  | e :: es, l, h => by
    unfold edgeMask at h
    cases hb : Region.binds .any e with
    | false =>
      rw [hb] at h
      obtain ⟨e', h1, h2⟩ := edgeMask_ok (es := es) h
      exact ⟨e', List.mem_cons_of_mem _ h1, h2⟩
    | true =>
      rw [hb] at h
      have h : ((Nat.shiftLeft 1 e.on ||| nthM e.on bm) ||| edgeMask bm es).testBit l = true := h
      rw [Nat.testBit_or, Nat.testBit_or, Bool.or_eq_true, Bool.or_eq_true] at h
      rcases h with (h | h) | h
      · rw [bit_one] at h
        exact ⟨e, by simp, hb, .inl (of_decide_eq_true h).symm⟩
      · exact ⟨e, by simp, hb, .inr h⟩
      · obtain ⟨e', h1, h2⟩ := edgeMask_ok (es := es) h
        exact ⟨e', List.mem_cons_of_mem _ h1, h2⟩

/-! ### what has been checked -/
structure Facts (tab : Tab) (ops : List Oper) (bm : List Nat) (em : Nat) : Prop where
  eff : ∀ i o, nthO i ops = some o → em.testBit i = isEff tab o
  cl : ∀ i o, nthO i ops = some o → ∀ l, (nthM i bm).testBit l = true → ∃ e ∈ o.after.toList, Region.binds .any e = true ∧ (e.on = l ∨ (nthM e.on bm).testBit l = true)
  dep : ∀ i o l ol t, nthO i ops = some o → nthO l ops = some ol → ol.dst = some t → depB ops t o = true → (nthM i bm).testBit l = true ∨ (isEff tab ol = true ∧ (nthM l bm).testBit i = true)
  dst : ∀ i o l ol t, nthO i ops = some o → nthO l ops = some ol → l ≠ i → ol.dst = some t → o.dst ≠ some t

theorem chkPairs_ok {i : Nat} {o : Oper} : ∀ {rest : List Oper} {k : Nat}, chkPairs tab ops bm i o k rest = true → ∀ l ol, nthO l rest = some ol → chkPair tab ops bm i o (k + l) ol = true
  | [], k, h, l, ol, hl => by cases l <;> cases hl
  | x :: rest, k, h, l, ol, hl => by
    unfold chkPairs at h
    simp only [Bool.and_eq_true] at h
    cases l with
    | zero => cases hl; exact h.1
    | succ l =>
      have := chkPairs_ok h.2 l ol hl
      have e : k + (l + 1) = k.succ + l := by omega
      rw [e]; exact this
theorem chkOps_ok : ∀ {rest : List Oper} {k : Nat}, chkOps tab ops bm em k rest = true → ∀ l ol, nthO l rest = some ol → chkOp tab ops bm em (k + l) ol = true
  | [], k, h, l, ol, hl => by cases l <;> cases hl
  | x :: rest, k, h, l, ol, hl => by
    unfold chkOps at h
    simp only [Bool.and_eq_true] at h
    cases l with
    | zero => cases hl; exact h.1
    | succ l =>
      have := chkOps_ok h.2 l ol hl
      have e : k + (l + 1) = k.succ + l := by omega
      rw [e]; exact this

theorem facts_of (h : chkOps tab ops bm em 0 ops = true) : Facts tab ops bm em := by
  have key : ∀ i o, nthO i ops = some o → chkOp tab ops bm em i o = true := fun i o hi => by have := chkOps_ok h i o hi; rwa [Nat.zero_add] at this
  have pair : ∀ i o l ol, nthO i ops = some o → nthO l ops = some ol → chkPair tab ops bm i o l ol = true := fun i o l ol hi hl => by
    have := key i o hi
    unfold chkOp at this
    simp only [Bool.and_eq_true] at this
    have := chkPairs_ok this.2.2 l ol hl
    rwa [Nat.zero_add] at this
  refine ⟨fun i o hi => ?_, fun i o hi l hl => ?_, fun i o l ol t hi hl ht hd => ?_, fun i o l ol t hi hl hne ht => ?_⟩
  · have := key i o hi
    unfold chkOp at this
    simp only [Bool.and_eq_true] at this
    cases he : isEff tab o with
    | true => rw [he] at this; exact this.1
    | false => rw [he] at this; simpa using this.1
  · have := key i o hi
    unfold chkOp at this
    simp only [Bool.and_eq_true] at this
    exact edgeMask_ok (sub_ok this.2.1 hl)
  · have := pair i o l ol hi hl
    unfold chkPair at this
    rw [ht] at this
    simp only [Bool.and_eq_true, hd, cond_true, Bool.or_eq_true] at this
    exact this.1
  · have := pair i o l ol hi hl
    unfold chkPair at this
    rw [ht] at this
    simp only [Bool.and_eq_true] at this
    have h2 := this.2
    rw [beqF hne] at h2
    intro heq
    rw [heq] at h2
    simp only [cond_false, sameDst, Bool.not_eq_true'] at h2
    rw [beqT rfl] at h2
    cases h2

/-! ### how a plan goes on -/
theorem chkPos_cons {p i : Nat} {κ : List Nat} (h : chkPos ops bm em p (i :: κ) = true) : ∃ o, nthO i ops = some o ∧ p.testBit i = false ∧ (∀ l, em.testBit l = true → p.testBit l = true → (nthM i bm).testBit l = true) ∧
    (∀ l, (nthM i bm).testBit l = true → p.testBit l = true) ∧ (∀ e ∈ o.after.toList, Region.binds .any e = true → p.testBit e.on = true) ∧ chkPos ops bm em (Nat.lor p (Nat.shiftLeft 1 i)) κ = true := by
  unfold chkPos at h
  split at h
  · cases h
  · rename_i o ho
    simp only [Bool.and_eq_true] at h
    obtain ⟨⟨h1, h2⟩, ⟨h3, h4⟩, h5⟩ := h
    refine ⟨o, ho, by simpa using h1, fun l hl hp => ?_, fun l hl => sub_ok h3 hl, ?_, h5⟩
    · refine sub_ok h2 ?_
      show (em &&& p).testBit l = true
      rw [Nat.testBit_and, hl, hp]; rfl
    · clear h5
      generalize o.after.toList = es at h4
      induction es with
      | nil => intro e he; cases he
      | cons x es ih =>
        unfold edgesIn at h4
        simp only [Bool.and_eq_true] at h4
        intro e he hb
        rcases List.mem_cons.1 he with rfl | he
        · rw [hb] at h4; exact h4.1
        · exact ih h4.2 e he hb

/-- what has not been taken is to come -/
theorem chkPos_all : ∀ {κ : List Nat} {p : Nat}, chkPos ops bm em p κ = true → ∀ i, i < ops.length → p.testBit i = true ∨ i ∈ κ
  | [], p, h, i, hi => by
    unfold chkPos at h
    have := of_beq h
    left
    rw [this]
    show (2 ^ ops.length - 1).testBit i = true
    rw [Nat.testBit_two_pow_sub_one]
    exact decide_eq_true hi
  | x :: κ, p, h, i, hi => by
    obtain ⟨o, h1, h2, h3, h4, h5, h6⟩ := chkPos_cons h
    rcases chkPos_all h6 i hi with h | h
    · rw [bit_add] at h
      simp only [Bool.or_eq_true, decide_eq_true_eq] at h
      rcases h with h | h
      · exact .inl h
      · exact .inr (by simp [h])
    · exact .inr (List.mem_cons_of_mem _ h)

/-- an effect that was taken stands before all that come later -/
theorem chkPos_after : ∀ {κ : List Nat} {p : Nat}, chkPos ops bm em p κ = true → ∀ e, em.testBit e = true → p.testBit e = true → ∀ i ∈ κ, (nthM i bm).testBit e = true
  | [], p, h, e, he, hp, i, hi => by cases hi
  | x :: κ, p, h, e, he, hp, i, hi => by
    obtain ⟨o, h1, h2, h3, h4, h5, h6⟩ := chkPos_cons h
    rcases List.mem_cons.1 hi with rfl | hi
    · exact h3 e he hp
    · exact chkPos_after h6 e he (by rw [bit_add, hp]; rfl) i hi

/-! ### guards -/
theorem oneOp_run {k : K} : (oneOp tab ops o).run E a s k = cond (wantA ops o a) ((doOp (putD o.dst) (compileOp tab o)).run E a s k) ((skipOp (putD o.dst)).run E a s k) := by
  unfold oneOp wantA
  cases o.guard with
  | none => rfl
  | some g =>
    obtain ⟨j, want⟩ := g
    simp only
    cases dstOf ops j with
    | none => rfl
    | some t => rfl

theorem wanted_ok {ops : Array Oper} (st : St C ρ n a s a' w) (hall : ∀ x ∈ ops.toList, operOk n C.G x = true) : Region.wanted o (yielded ops a'.tmps) = wantA ops.toList o a := by
  have hmem : ∀ {j : Nat} {x : Oper}, ops[j]? = some x → operOk n C.G x = true := fun {j x} hx => hall x (by
    rw [← getElem_list] at hx
    exact List.mem_of_getElem? hx)
  unfold Region.wanted wantA
  cases hg : o.guard with
  | none => rfl
  | some g =>
    obtain ⟨j, want⟩ := g
    simp only
    cases hd : dstOf ops.toList j with
    | none =>
      have : yielded ops a'.tmps j = none := by
        unfold yielded
        unfold dstOf at hd
        rw [getElem_list] at hd
        cases hj : ops[j]? with
        | none => simp
        | some oj => rw [hj] at hd; simp only at hd; simp [hd]
      simp [this]
    | some t =>
      have hlt : t < n := by
        unfold dstOf at hd
        rw [getElem_list] at hd
        cases hj : ops[j]? with
        | none => rw [hj] at hd; cases hd
        | some oj => rw [hj] at hd; exact operOk_dst (hmem hj) t hd
      have hsl : VRel ρ ((slot t).get a) (a'.tmps.getD t undef) := st.ac.1.2 t (by rw [st.sz]; exact hlt)
      show (yielded ops a'.tmps j == some want) = isB want ((slot t).get a)
      rw [isB_ok hsl]
      unfold yielded
      have hdst : (ops[j]?).bind (·.dst) = some t := by
        unfold dstOf at hd
        rw [getElem_list] at hd
        cases hj : ops[j]? with
        | none => rw [hj] at hd; cases hd
        | some oj => rw [hj] at hd; simpa using hd
      have hlt' : t < a'.tmps.size := by rw [st.sz]; exact hlt
      have h2 : a'.tmps[t]? = some (a'.tmps.getD t undef) := by
        rw [Array.getD_eq_getD_getElem?, Array.getElem?_eq_getElem hlt']; rfl
      rw [hdst, Option.bind_some, h2]
      generalize a'.tmps.getD t undef = y
      cases y with
      | bool b => cases b <;> cases want <;> rfl
      | _ => rfl

/-! ### what hangs on what -/
def AgD (ops : List Oper) (o : Oper) (a b : A) : Prop := ∀ t, depB ops t o = true → a.tmps.at_ t = b.tmps.at_ t

theorem anyTmp_mem {t : Nat} : ∀ {l : List Operand}, Operand.tmp t ∈ l → anyTmp t l = true
  | x :: l, h => by
    unfold anyTmp
    rcases List.mem_cons.1 h with rfl | h
    · simp only [isTmpB, beqT rfl]; rfl
    · rw [anyTmp_mem h]
      cases isTmpB t x <;> rfl
theorem AgD.agree (h : AgD ops o a b) : Agree a b (opOps o.op) := by
  intro x hx
  cases x with
  | tmp t => exact h t (by unfold depB; rw [anyTmp_mem hx]; rfl)
  | _ => rfl
theorem AgD.want (h : AgD ops o a b) : wantA ops o a = wantA ops o b := by
  unfold wantA
  cases hg : o.guard with
  | none => rfl
  | some g =>
    obtain ⟨j, want⟩ := g
    simp only
    cases hd : dstOf ops j with
    | none => rfl
    | some t =>
      have : (slot t).get a = (slot t).get b := h t (by
        unfold depB guardDep
        rw [hg]
        simp only [hd, beqT rfl, Bool.or_true])
      simp only [this]

theorem neC_congr (h : Agree a b (opOps o.op)) : neC (compileOp tab o) a s = neC (compileOp tab o) b s := by
  have := cop_same (tab := tab) h
  cases hc : compileOp tab o <;> rw [hc] at this <;> simp only [COp.same] at this <;> simp only [neC, this]
theorem stepNE_congr (h : AgD ops o a b) : stepNE tab ops o a s = stepNE tab ops o b s := by
  unfold stepNE
  rw [h.want, neC_congr h.agree]
theorem stepNE_get {s' : S} (h : ∀ b, s'.get b = s.get b) : stepNE tab ops o a s' = stepNE tab ops o a s := by
  unfold stepNE
  congr 1
  cases hc : compileOp tab o with
  | read f => simp only [neC, read_get hc a h]
  | _ => rfl
theorem stepNE_mem {s' : S} (h : isReadC (compileOp tab o) = false) : stepNE tab ops o a s' = stepNE tab ops o a s := by
  unfold stepNE
  congr 1
  cases hc : compileOp tab o with
  | read f => rw [hc] at h; cases h
  | _ => rfl

theorem oneOp_val {k : K} {v : Value} (h : stepNE tab ops o a s = some (.val v)) : (oneOp tab ops o).run E a s k = k ((putD o.dst).put a v) s := by
  rw [oneOp_run]
  unfold stepNE at h
  cases hw : wantA ops o a with
  | false =>
    rw [hw] at h
    cases h
    rfl
  | true =>
    rw [hw] at h
    have h : neC (compileOp tab o) a s = some (.val v) := h
    cases hc : compileOp tab o with
    | mov f => rw [hc] at h; cases h; rfl
    | pure f =>
      rw [hc] at h
      simp only [neC] at h
      split at h
      · rename_i x hx
        cases h
        show kV _ a s k (f a) = _
        rw [hx]; rfl
      · cases h
    | read f =>
      rw [hc] at h
      simp only [neC] at h
      split at h
      · rename_i x hx
        cases h
        show kV _ a s k (f a s) = _
        rw [hx]; rfl
      · cases h
    | new f =>
      rw [hc] at h
      simp only [neC] at h
      split at h <;> cases h
    | _ => rw [hc] at h; cases h

theorem stepNE_blk {x : AO} {g : Nat → Value} (h : stepNE tab ops o a s = some (.blk x g)) : wantA ops o a = true ∧ ∃ f, compileOp tab o = .new f ∧ f a = some (x, g) := by
  unfold stepNE at h
  cases hw : wantA ops o a with
  | false => rw [hw] at h; cases h
  | true =>
    rw [hw] at h
    have h : neC (compileOp tab o) a s = some (.blk x g) := h
    refine ⟨rfl, ?_⟩
    cases hc : compileOp tab o with
    | mov f => rw [hc] at h; cases h
    | pure f => rw [hc] at h; simp only [neC] at h; split at h <;> cases h
    | read f => rw [hc] at h; simp only [neC] at h; split at h <;> cases h
    | new f =>
      rw [hc] at h
      simp only [neC] at h
      split at h
      · rename_i q hq
        cases h
        exact ⟨f, rfl, hq⟩
      · cases h
    | _ => rw [hc] at h; cases h

/-! ### an effect, seen from a frame that lags behind -/
noncomputable def readD (dst : Option Tmp) (c : A) : Value := match dst with
  | none => undef
  | some d => c.tmps.at_ d
noncomputable def over2 (a : A) (dst : Option Tmp) (c : A) : A := ⟨((putD dst).put a (readD dst c)).tmps, c.defers⟩

theorem over2_put {dst : Option Tmp} (hd : ∀ d, dst = some d → d < 512) (a b : A) (ds : List Deferred) (v : Value) : over2 a dst ((putD dst).put ⟨b.tmps, ds⟩ v) = (putD dst).put ⟨a.tmps, ds⟩ v := by
  cases dst with
  | none => rfl
  | some d =>
    have hlt := hd d rfl
    unfold over2 readD
    show (⟨(fspot d).set (Fr.at_ ((fspot d).set v b.tmps) d) a.tmps, ds⟩ : A) = ⟨(fspot d).set v a.tmps, ds⟩
    rw [Fr.at_set _ _ _ hlt hlt, if_pos rfl]

theorem oneOp_over {k : K} {outs : List Out} (hd : ∀ d, o.dst = some d → d < 512) (hag : AgD ops o a b) (hds : a.defers = b.defers) (h : (oneOp tab ops o).run E a s k = some outs) :
    (oneOp tab ops o).run E b s (fun c s => k (over2 a o.dst c) s) = some outs := by
  rw [oneOp_run] at h ⊢
  rw [← hag.want]
  have p1 : ∀ v s, k (over2 a o.dst ((putD o.dst).put b v)) s = k ((putD o.dst).put a v) s := fun v s => by
    have := over2_put hd a b b.defers v
    have e : (⟨a.tmps, b.defers⟩ : A) = a := by rw [← hds]
    rw [e] at this
    exact congrArg (fun x => k x s) this
  have p2 : ∀ d : Deferred, ∀ s, k (over2 a o.dst ((putD o.dst).put ⟨b.tmps, d :: b.defers⟩ undef)) s = k ((putD o.dst).put ⟨a.tmps, d :: a.defers⟩ undef) s := fun d s => by
    rw [over2_put hd a b, hds]
  generalize hk' : (fun c s => k (over2 a o.dst c) s) = k'
  have p1 : ∀ v s, k' ((putD o.dst).put b v) s = k ((putD o.dst).put a v) s := fun v s => by rw [← hk']; exact p1 v s
  have p2 : ∀ d : Deferred, ∀ s, k' ((putD o.dst).put ⟨b.tmps, d :: b.defers⟩ undef) s = k ((putD o.dst).put ⟨a.tmps, d :: a.defers⟩ undef) s := fun d s => by rw [← hk']; exact p2 d s
  cases hw : wantA ops o a with
  | false =>
    rw [hw] at h
    have h : k ((putD o.dst).put a undef) s = some outs := h
    show k' ((putD o.dst).put b undef) s = some outs
    rw [p1]; exact h
  | true =>
    rw [hw] at h
    simp only [cond_true] at h ⊢
    have hsame := cop_same (tab := tab) hag.agree
    cases hc : compileOp tab o with
    | mov f =>
      rw [hc] at h hsame
      have hsame : f a = f b := hsame
      show k' ((putD o.dst).put b (f b)) s = some outs
      rw [p1, ← hsame]; exact h
    | pure f =>
      rw [hc] at h hsame
      have hsame : f a = f b := hsame
      obtain ⟨v, h1, h2⟩ := onOpt_some h
      show kV (putD o.dst) b s k' (f b) = some outs
      rw [← hsame, h1]
      show k' ((putD o.dst).put b v) s = some outs
      rw [p1]; exact h2
    | read f =>
      rw [hc] at h hsame
      have hsame : f a = f b := hsame
      obtain ⟨v, h1, h2⟩ := onOpt_some h
      show kV (putD o.dst) b s k' (f b s) = some outs
      rw [← hsame, h1]
      show k' ((putD o.dst).put b v) s = some outs
      rw [p1]; exact h2
    | new f =>
      rw [hc] at h hsame
      have hsame : f a = f b := hsame
      obtain ⟨q, h1, h2⟩ := onOpt_some h
      show kN (putD o.dst) b s k' (f b) = some outs
      rw [← hsame, h1]
      show k' ((putD o.dst).put b (q.2 s.next)) (s.new q.1) = some outs
      rw [p1]; exact h2
    | act f =>
      rw [hc] at h hsame
      have hsame : f a = f b := hsame
      obtain ⟨q, h1, h2⟩ := onOpt_some h
      show kA (putD o.dst) b k' (f b s) = some outs
      rw [← hsame, h1]
      show k' ((putD o.dst).put b q.1) q.2 = some outs
      rw [p1]; exact h2
    | many f =>
      rw [hc] at h hsame
      have hsame : f a = f b := hsame
      show kM (putD o.dst) b k' (f b s) = some outs
      rw [← hsame]
      have h : kM (putD o.dst) a k (f a s) = some outs := h
      rw [← h]
      cases f a s with
      | none => rfl
      | some l =>
        show bindL (fun q => k' ((putD o.dst).put b q.1) q.2) l = bindL (fun q => k ((putD o.dst).put a q.1) q.2) l
        congr 1
        funext q
        exact p1 _ _
    | call f =>
      rw [hc] at h hsame
      have hsame : f a = f b := hsame
      show kC (putD o.dst) E b s k' (f b) = some outs
      rw [← hsame]
      have h : kC (putD o.dst) E a s k (f a) = some outs := h
      rw [← h]
      have hf : (fun (q : CO) => k' ((putD o.dst).put b q.1) q.2) = fun q => k ((putD o.dst).put a q.1) q.2 := funext fun q => p1 _ _
      cases f a with
      | none => rfl
      | some t =>
        cases t with
        | enter g args =>
          show bindO (E.call g args s) (fun q => k' ((putD o.dst).put b q.1) q.2) = bindO (E.call g args s) (fun q => k ((putD o.dst).put a q.1) q.2)
          rw [hf]
        | yield l args =>
          show bindO (E.yield l args s) (fun q => k' ((putD o.dst).put b q.1) q.2) = bindO (E.yield l args s) (fun q => k ((putD o.dst).put a q.1) q.2)
          rw [hf]
    | defer f =>
      rw [hc] at h hsame
      have hsame : f a = f b := hsame
      show kD (putD o.dst) E b s k' (f b) = some outs
      rw [← hsame]
      have h : kD (putD o.dst) E a s k (f a) = some outs := h
      rw [← h]
      cases f a with
      | none => rfl
      | some d =>
        simp only [kD]
        cases E.round with
        | some _ => rfl
        | none =>
          simp only
          exact p2 d s
    | recover =>
      rw [hc] at h
      have h : kR (putD o.dst) E a s k = some outs := h
      show kR (putD o.dst) E b s k' = some outs
      rw [← h]
      unfold kR
      cases E.round with
      | some _ => rfl
      | none => exact p1 _ _
    | panic f => rw [hc] at h; cases h
    | bad => rw [hc] at h; cases h

end Go.Ac
end
