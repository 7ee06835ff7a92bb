/-
  Part EvB of the proof: a deterministic evaluator of the machine, its soundness, and what it gives for this seat.
-/
import Derived.Test.YtcncbfgplikphaaGreatEvA
import Derived.ChangeKeysEq
import Derived.Laws.Pointers
section
namespace Go.Ac

/-! ### strings -/
theorem eqB_nil_nil : eqB [] [] = true := rfl
theorem eqB_nil_cons (y : UInt8) (ys : List UInt8) : eqB [] (y :: ys) = false := rfl
theorem eqB_cons_nil (x : UInt8) (xs : List UInt8) : eqB (x :: xs) [] = false := rfl
theorem eqB_cons_cons (x y : UInt8) (xs ys : List UInt8) : eqB (x :: xs) (y :: ys) = cond (Nat.beq x.toNat y.toNat) (eqB xs ys) false := rfl
theorem eqB_eq : ∀ a b : List UInt8, eqB a b = (a == b)
  | [], [] => rfl
  | [], _ :: _ => rfl
  | _ :: _, [] => rfl
  | x :: xs, y :: ys => by
    rw [eqB_cons_cons, eqB_eq xs ys]
    have : Nat.beq x.toNat y.toNat = (x == y) := by
      rw [Bool.eq_iff_iff, Nat.beq_eq, beq_iff_eq]
      exact UInt8.toNat_inj
    rw [this, List.cons_beq_cons]
    cases x == y <;> rfl
theorem eqS_eq (a b : ByteArray) : eqS a b = (a == b) := by
  unfold eqS
  rw [eqB_eq, beq_toListBytes, ByteArray.toList_eq, ByteArray.toList_eq]
theorem appB_eq (l m : List UInt8) : appB l m = l ++ m := by
  induction l with
  | nil => rfl
  | cons x l ih => show x :: appB l m = _; rw [ih]; rfl
theorem lenB_eq (l : List UInt8) : lenB l = l.length := by
  induction l with
  | nil => rfl
  | cons x l ih => show Nat.succ (lenB l) = _; rw [ih]; rfl
theorem catS_eq (a b : ByteArray) : catS a b = a ++ b := by
  unfold catS
  rw [appB_eq]
  apply ByteArray.ext
  rw [ByteArray.data_append]
  apply Array.ext'
  simp

theorem bytes_of_beq {a b : ByteArray} (h : (a == b) = true) : a = b := by
  rw [beq_toListBytes, ByteArray.toList_eq, ByteArray.toList_eq, beq_iff_eq] at h
  apply ByteArray.ext
  exact Array.ext' h

/-! ### cells that are compared -/
/-- one of the three -/
def VB.flat (c : VB) : Prop := c = cI ∨ c = cS ∨ c = cB

/-- a value that is the same in both worlds -/
def Plain (v : Value) : Prop := (∃ k n, v = .int k n) ∨ (∃ s, v = .string s) ∨ ∃ b, v = .bool b

theorem Plain.rel {ρ : Rn} {v w : Value} (h : Plain v) (k : VRel ρ v w) : w = v := by
  rcases h with ⟨j, n, rfl⟩ | ⟨s, rfl⟩ | ⟨b, rfl⟩
  · exact k.int
  · exact k.str
  · exact k.bool

theorem cI_some {x y : Value} {r : Bool} (h : cI.run x y = some r) : ∃ k a b, x = .int k a ∧ y = .int k b ∧ r = (a == b) := by
  have h : cond (Nat.ble (vK x) 7) (cond (Nat.beq (vK x) (vK y)) (some (eqI (vN x) (vN y))) none) none = some r := h
  obtain ⟨h1, h2⟩ := cond_some h
  obtain ⟨h3, h4⟩ := cond_some h2
  obtain ⟨k, hk, hk'⟩ := vK_le (of_ble h1)
  have := vK_kind (x := y) (k := k) (by rw [← of_beq h3, hk'])
  exact ⟨k, _, _, hk, this, by rw [← eqI_eq]; exact (Option.some.inj h4).symm⟩
theorem cS_some {x y : Value} {r : Bool} (h : cS.run x y = some r) : ∃ a b, x = .string a ∧ y = .string b ∧ r = (a == b) := by
  obtain ⟨a, h1, h2⟩ := onOpt_some (show onOpt none (fun a => onOpt none (fun b => some (eqS a b)) (vS y)) (vS x) = some r from h)
  obtain ⟨b, h3, h4⟩ := onOpt_some h2
  exact ⟨a, b, vS_some h1, vS_some h3, by rw [← eqS_eq]; exact (Option.some.inj h4).symm⟩
theorem cB_some {x y : Value} {r : Bool} (h : cB.run x y = some r) : ∃ a b, x = .bool a ∧ y = .bool b ∧ r = (a == b) := by
  obtain ⟨a, h1, h2⟩ := onOpt_some (show onOpt none (fun a => onOpt none (fun b => some (cond a b (cond b false true))) (vB y)) (vB x) = some r from h)
  obtain ⟨b, h3, h4⟩ := onOpt_some h2
  refine ⟨a, b, vB_some h1, vB_some h3, ?_⟩
  rw [← Option.some.inj h4]
  cases a <;> cases b <;> rfl

theorem eqCells_nil (x y : List Value) : eqCells [] x y = some true := rfl
theorem eqCells_cons {c : VB} {L : List VB} {x y : List Value} {r : Bool} (h : eqCells (c :: L) x y = some r) :
    ∃ a xs b ys t, x = a :: xs ∧ y = b :: ys ∧ c.run a b = some t ∧ cond t (eqCells L xs ys) (some false) = some r := by
  cases x with
  | nil => cases h
  | cons a xs => cases y with
    | nil => cases h
    | cons b ys =>
      have h : Option.rec (motive := fun _ => Option Bool) none (fun t => cond t (eqCells L xs ys) (some false)) (c.run a b) = some r := h
      cases hc : c.run a b with
      | none => rw [hc] at h; cases h
      | some t => rw [hc] at h; exact ⟨a, xs, b, ys, t, rfl, rfl, hc, h⟩

theorem eqCells_app {L M : List VB} : ∀ {x y : List Value} {r : Bool}, eqCells (L ++ M) x y = some r →
    (eqCells L x y = some false ∧ r = false) ∨ (eqCells L x y = some true ∧ eqCells M (x.drop L.length) (y.drop L.length) = some r) := by
  induction L with
  | nil => intro x y r h; exact .inr ⟨rfl, by simpa using h⟩
  | cons c L ih =>
    intro x y r h
    obtain ⟨a, xs, b, ys, t, rfl, rfl, hc, hr⟩ := eqCells_cons (show eqCells (c :: (L ++ M)) x y = some r from h)
    have e : eqCells (c :: L) (a :: xs) (b :: ys) = cond t (eqCells L xs ys) (some false) := by
      show Option.rec (motive := fun _ => Option Bool) none (fun t => cond t (eqCells L xs ys) (some false)) (c.run a b) = _
      rw [hc]
    rw [e]
    cases t with
    | false => exact .inl ⟨rfl, (Option.some.inj hr).symm⟩
    | true =>
      rcases ih hr with ⟨h1, h2⟩ | ⟨h1, h2⟩
      · exact .inl ⟨h1, h2⟩
      · exact .inr ⟨h1, by simpa using h2⟩

/-- what is behind the row of comparisons does not matter -/
theorem eqCells_take {L : List VB} : ∀ {x y : List Value} {r : Bool}, eqCells L x y = some r → eqCells L (x.take L.length) (y.take L.length) = some r := by
  induction L with
  | nil => intro x y r h; exact h
  | cons c L ih =>
    intro x y r h
    obtain ⟨a, xs, b, ys, t, rfl, rfl, hc, hr⟩ := eqCells_cons h
    show Option.rec (motive := fun _ => Option Bool) none (fun t => cond t (eqCells L (xs.take L.length) (ys.take L.length)) (some false)) (c.run a b) = some r
    rw [hc]
    cases t with
    | false => exact hr
    | true => exact ih hr

/-- all equal: the same -/
theorem eqCells_same {L : List VB} (hL : ∀ c ∈ L, c.flat) : ∀ {x y : List Value}, x.length = L.length → y.length = L.length → eqCells L x y = some true → x = y ∧ ∀ v ∈ x, Plain v := by
  induction L with
  | nil => intro x y hx hy h; rw [List.length_eq_zero_iff.1 hx, List.length_eq_zero_iff.1 hy]; exact ⟨rfl, by simp⟩
  | cons c L ih =>
    intro x y hx hy h
    obtain ⟨a, xs, b, ys, t, rfl, rfl, hc, hr⟩ := eqCells_cons h
    cases t with
    | false => cases hr
    | true =>
      obtain ⟨h1, h2⟩ := ih (fun d hd => hL d (by simp [hd])) (by simpa using hx) (by simpa using hy) hr
      have : a = b ∧ Plain a := by
        rcases hL c (by simp) with rfl | rfl | rfl
        · obtain ⟨k, m, n, rfl, rfl, e⟩ := cI_some hc
          rw [beq_iff_eq.1 e.symm]; exact ⟨rfl, .inl ⟨_, _, rfl⟩⟩
        · obtain ⟨m, n, rfl, rfl, e⟩ := cS_some hc
          rw [bytes_of_beq e.symm]; exact ⟨rfl, .inr (.inl ⟨_, rfl⟩)⟩
        · obtain ⟨m, n, rfl, rfl, e⟩ := cB_some hc
          rw [beq_iff_eq.1 e.symm]; exact ⟨rfl, .inr (.inr ⟨_, rfl⟩)⟩
      obtain ⟨rfl, hp⟩ := this
      subst h1
      refine ⟨rfl, fun v hv => ?_⟩
      rcases List.mem_cons.1 hv with rfl | hv
      · exact hp
      · exact h2 v hv

/-! ### dense types -/
theorem denseF_flat {P : Tab} {dn : TypeId → Option (List VB)} (hd : ∀ t L, dn t = some L → ∀ c ∈ L, c.flat) : ∀ {fs : List Field} {off : Nat} {L : List VB}, denseF P dn fs off = some L → ∀ c ∈ L, c.flat
  | [], off, L, h => by cases h; simp
  | f :: fs, off, L, h => by
    unfold denseF at h
    cases h1 : (f.name == "_") with
    | true => rw [h1] at h; cases h
    | false =>
      rw [h1, cond_false] at h
      obtain ⟨h2, h3⟩ := cond_some h
      cases h4 : dn f.type with
      | none => simp [h4] at h3
      | some k =>
        simp only [h4] at h3
        cases h5 : P.size f.type with
        | none => simp [h5] at h3
        | some n =>
          simp only [h5] at h3
          obtain ⟨h6, h7⟩ := cond_some h3
          cases h8 : denseF P dn fs (off + n) with
          | none => simp [h8] at h7
          | some r =>
            simp only [h8] at h7
            cases h7
            intro c hc
            rcases List.mem_append.1 hc with hc | hc
            · exact hd _ _ h4 c hc
            · exact denseF_flat hd h8 c hc

theorem repV_flat {k : List VB} (h : ∀ c ∈ k, c.flat) : ∀ n, ∀ c ∈ repV k n, c.flat
  | 0 => by simp [repV]
  | n + 1 => by
    intro c hc
    rcases List.mem_append.1 hc with hc | hc
    · exact h c hc
    · exact repV_flat h n c hc

theorem dense_flat {P : Tab} : ∀ {d : Nat} {t : TypeId} {L : List VB}, dense P d t = some L → ∀ c ∈ L, c.flat
  | 0, t, L, h => by cases h
  | d + 1, t, L, h => by
    unfold dense at h
    cases hu : P.desc t with
    | none => simp [hu] at h
    | some ds =>
      cases ds with
      | bool => simp only [hu] at h; cases h; intro c hc; simp at hc; exact .inr (.inr hc)
      | int k => simp only [hu] at h; cases h; intro c hc; simp at hc; exact .inl hc
      | string => simp only [hu] at h; cases h; intro c hc; simp at hc; exact .inr (.inl hc)
      | array n e =>
        simp only [hu] at h
        cases h1 : dense P d e with
        | none => simp [h1] at h
        | some k =>
          simp only [h1] at h
          cases h2 : P.size e with
          | none => simp [h2] at h
          | some c =>
            simp only [h2] at h
            obtain ⟨_, h4⟩ := cond_some h
            cases h4
            exact repV_flat (dense_flat h1) n
      | struct fs =>
        simp only [hu] at h
        cases h1 : P.eqs.get t with
        | none => simp [h1] at h
        | some u =>
          simp only [h1] at h
          exact denseF_flat (fun t L => dense_flat) h
      | _ => simp [hu] at h

/-! ### the machine's comparison -/
variable {P : Program} {tab : Tab} {ρ : Rn} {w : World}

/-- a cell of one of the three kinds, as the machine compares it -/
theorem eqCell_ok (tok : TabOk P tab) {t : TypeId} {c : VB} (ht : (c = cI ∧ ∃ k, tab.desc t = some (.int k)) ∨ (c = cS ∧ tab.desc t = some .string) ∨ (c = cB ∧ tab.desc t = some .bool))
    {x y x' y' : Value} (hx : VRel ρ x x') (hy : VRel ρ y y') {r : Bool} (h : c.run x y = some r) (d : Nat) : (Op.equalIn (d + 1) t x' y').run P w = .ok r w := by
  rcases ht with ⟨rfl, k, hd⟩ | ⟨rfl, hd⟩ | ⟨rfl, hd⟩
  · obtain ⟨k, a, b, rfl, rfl, rfl⟩ := cI_some h
    obtain rfl := hx.int
    obtain rfl := hy.int
    exact run_equalIn_int w d t _ _ a b (tok.underlying hd)
  · obtain ⟨a, b, rfl, rfl, rfl⟩ := cS_some h
    obtain rfl := hx.str
    obtain rfl := hy.str
    rw [run_equalIn_string w d t a b (tok.underlying hd), beq_toListBytes]
  · obtain ⟨a, b, rfl, rfl, rfl⟩ := cB_some h
    obtain rfl := hx.bool
    obtain rfl := hy.bool
    exact run_equalIn_bool' w d t a b (tok.underlying hd)

/-- what a dense type's comparison says of the machine's: of values in their cells -/
def EqOk (P : Program) (tab : Tab) (t : TypeId) (L : List VB) (D : Nat) : Prop :=
  ∀ (ρ : Rn) (w : World) (d : Nat) (xs ys : Array Value) (x y : List Value) (r : Bool), LRel ρ x xs.toList → LRel ρ y ys.toList → (∀ v ∈ x, v.oneCell = true) → (∀ v ∈ y, v.oneCell = true) → ∀ off, eqCells L (x.drop off) (y.drop off) = some r →
    tab.size t = some L.length → ∃ a b, (part t xs off).run P w = .ok a w ∧ (part t ys off).run P w = .ok b w ∧ (Op.equalIn (d + D) t a b).run P w = .ok r w

/-- the parts of a struct -/
theorem eqFields_ok (tok : TabOk P tab) {D : Nat} (ih : ∀ t L, dense tab D t = some L → EqOk P tab t L D) (ρ : Rn) (w : World) (d : Nat) (xs ys : Array Value) {x y : List Value} (hx : LRel ρ x xs.toList) (hy : LRel ρ y ys.toList)
    (ox : ∀ v ∈ x, v.oneCell = true) (oy : ∀ v ∈ y, v.oneCell = true) : ∀ (fs : List Field) (off : Nat) (L : List VB) (r : Bool), denseF tab (dense tab D) fs off = some L → eqCells L (x.drop off) (y.drop off) = some r →
      (Op.eqFields (d + D) xs ys fs).run P w = .ok r w
  | [], off, L, r, h, he => by
    cases h
    cases he
    rfl
  | f :: fs, off, L, r, h, he => by
    unfold denseF at h
    cases h1 : (f.name == "_") with
    | true => rw [h1] at h; cases h
    | false =>
      rw [h1, cond_false] at h
      obtain ⟨h2, h3⟩ := cond_some h
      cases h4 : dense tab D f.type with
      | none => simp [h4] at h3
      | some k =>
        simp only [h4] at h3
        cases h5 : tab.size f.type with
        | none => simp [h5] at h3
        | some n =>
          simp only [h5] at h3
          obtain ⟨h6, h7⟩ := cond_some h3
          cases h8 : denseF tab (dense tab D) fs (off + n) with
          | none => simp [h8] at h7
          | some rest =>
            simp only [h8] at h7
            cases h7
            have hn := of_beq h6
            have hoff := of_beq h2
            have hname : f.name ≠ "_" := by simpa using h1
            have hk : tab.size f.type = some k.length := by rw [h5, hn]
            rcases eqCells_app he with ⟨e1, rfl⟩ | ⟨e1, e2⟩
            · obtain ⟨a, b, p1, p2, p3⟩ := ih _ _ h4 ρ w d xs ys x y false hx hy ox oy off e1 hk
              simp only [Op.eqFields]
              rw [if_pos hname, hoff]
              simp [p1, p2, p3]
            · obtain ⟨a, b, p1, p2, p3⟩ := ih _ _ h4 ρ w d xs ys x y true hx hy ox oy off e1 hk
              rw [List.drop_drop, List.drop_drop, ← hn] at e2
              have := eqFields_ok tok ih ρ w d xs ys hx hy ox oy fs (off + n) rest r h8 e2
              simp only [Op.eqFields]
              rw [if_pos hname, hoff]
              simp [p1, p2, p3, this]

/-- the elements of an array -/
theorem eqItems_ok (tok : TabOk P tab) {D : Nat} {e : TypeId} {k : List VB} (ih : EqOk P tab e k D) (hk : tab.size e = some k.length) (ρ : Rn) (w : World) (d : Nat) (xs ys : Array Value) {x y : List Value} (hx : LRel ρ x xs.toList) (hy : LRel ρ y ys.toList)
    (ox : ∀ v ∈ x, v.oneCell = true) (oy : ∀ v ∈ y, v.oneCell = true) : ∀ (n i : Nat) (r : Bool), eqCells (repV k n) (x.drop (i * k.length)) (y.drop (i * k.length)) = some r →
      (Op.eqItems (d + D) e k.length xs ys (List.range' i n)).run P w = .ok r w
  | 0, i, r, he => by
    cases he
    rfl
  | n + 1, i, r, he => by
    rw [List.range'_succ]
    rcases eqCells_app (show eqCells (k ++ repV k n) _ _ = some r from he) with ⟨e1, rfl⟩ | ⟨e1, e2⟩
    · obtain ⟨a, b, p1, p2, p3⟩ := ih ρ w d xs ys x y false hx hy ox oy _ e1 hk
      simp [Op.eqItems, p1, p2, p3]
    · obtain ⟨a, b, p1, p2, p3⟩ := ih ρ w d xs ys x y true hx hy ox oy _ e1 hk
      rw [List.drop_drop, List.drop_drop, ← Nat.succ_mul] at e2
      have := eqItems_ok tok ih hk ρ w d xs ys hx hy ox oy n (i + 1) r e2
      simp [Op.eqItems, p1, p2, p3, this]

theorem run_fieldsOf {t : TypeId} {fs : Array Field} (h : P.underlying t = some (.struct fs)) : P.fieldsOf t = fs := by
  unfold Program.fieldsOf
  rw [h]

theorem run_cellsOf (tok : TabOk P tab) {e : TypeId} {c : Nat} (h : tab.size e = some c) : P.cellsOf e = c ∧ ∃ i, P.info? e = some i := by
  unfold Tab.size at h
  cases h1 : tab.types.get e with
  | none => simp [h1] at h
  | some i =>
    simp only [h1] at h
    cases h
    have := tok.types _ _ h1
    exact ⟨by unfold Program.cellsOf; rw [this]; rfl, i, this⟩

/-- a row of comparisons reads no more than there are -/
theorem eqCells_long {L : List VB} : ∀ {x y : List Value}, eqCells L x y = some true → L.length ≤ x.length ∧ L.length ≤ y.length := by
  induction L with
  | nil => intro x y h; simp
  | cons c L ih =>
    intro x y h
    obtain ⟨a, xs, b, ys, t, rfl, rfl, hc, hr⟩ := eqCells_cons h
    cases t with
    | false => cases hr
    | true => have := ih hr; simp; omega

theorem tab_agg {t : TypeId} {ds : TypeDesc} (h : tab.desc t = some ds) : tab.agg t = some (isAgg ds) := by
  unfold Tab.agg
  rw [h]

/-- the whole of a struct's or an array's cells -/
theorem eqWhole_ok (tok : TabOk P tab) {D : Nat} (ih : ∀ t L, dense tab D t = some L → EqOk P tab t L D) {t : TypeId} {L : List VB} (h : dense tab (D + 1) t = some L)
    (ha : tab.agg t = some true) (ρ : Rn) (w : World) (d : Nat) (xs ys : Array Value) (x y : List Value) (r : Bool) (hx : LRel ρ x xs.toList) (hy : LRel ρ y ys.toList) (ox : ∀ v ∈ x, v.oneCell = true) (oy : ∀ v ∈ y, v.oneCell = true)
    (he : eqCells L x y = some r) : (Op.equalIn (d + (D + 1)) t (.agg xs) (.agg ys)).run P w = .ok r w := by
  unfold dense at h
  cases hu : tab.desc t with
  | none => simp [hu] at h
  | some ds =>
    rw [tab_agg hu] at ha
    cases ds with
    | array n e =>
      simp only [hu] at h
      cases h1 : dense tab D e with
      | none => simp [h1] at h
      | some k =>
        simp only [h1] at h
        cases h2 : tab.size e with
        | none => simp [h2] at h
        | some c =>
          simp only [h2] at h
          obtain ⟨h3, h4⟩ := cond_some h
          cases h4
          have hc := of_beq h3
          subst hc
          obtain ⟨hc, i, hi⟩ := run_cellsOf tok h2
          have := eqItems_ok tok (ih _ _ h1) h2 ρ w d xs ys hx hy ox oy n 0 r (by simpa using he)
          rw [show d + (D + 1) = (d + D) + 1 from rfl, run_equalIn_array w (d + D) xs ys (tok.underlying hu) hi, hc, List.range_eq_range']
          exact this
    | struct fs =>
      simp only [hu] at h
      cases h1 : tab.eqs.get t with
      | none => simp [h1] at h
      | some u =>
        simp only [h1] at h
        have hs := tok.underlying hu
        have hf := run_fieldsOf hs
        rw [show d + (D + 1) = (d + D) + 1 from rfl, run_equalIn_struct w (d + D) t xs ys (by rw [hf]; exact hs) (tok.eqs _ _ h1).1, hf]
        exact eqFields_ok tok ih ρ w d xs ys hx hy ox oy fs.toList 0 L r h (by simpa using he)
    | _ => simp [isAgg] at ha

theorem dense_ok (tok : TabOk P tab) : ∀ (D : Nat) (t : TypeId) (L : List VB), dense tab D t = some L → EqOk P tab t L D
  | 0, t, L, h => by cases h
  | D + 1, t, L, h => by
    have ih := dense_ok tok D
    intro ρ w d xs ys x y r hx hy ox oy off he hsz
    by_cases hag : tab.agg t = some true
    · obtain ⟨cx, hcx⟩ : ∃ cx, cx = (x.drop off).take L.length := ⟨_, rfl⟩
      have e2 := eqCells_take he
      refine ⟨.agg (xs.extract off (off + L.length)), .agg (ys.extract off (off + L.length)), ?_, ?_, ?_⟩
      · simp only [part, Sem.run_bind, tok.run_agg hag, Result.andThen_ok, if_true, tok.run_size hsz, Sem.run_pure, Sem.run_ite]
      · simp only [part, Sem.run_bind, tok.run_agg hag, Result.andThen_ok, if_true, tok.run_size hsz, Sem.run_pure, Sem.run_ite]
      · refine eqWhole_ok tok ih h hag ρ w d _ _ _ _ r ?_ ?_ (fun v hv => ox v (List.mem_of_mem_drop (List.mem_of_mem_take hv))) (fun v hv => oy v (List.mem_of_mem_drop (List.mem_of_mem_take hv))) e2
        · have : (xs.extract off (off + L.length)).toList = (xs.toList.drop off).take L.length := by simp [Array.toList_extract]
          rw [this]
          exact (hx.drop off).take _
        · have : (ys.extract off (off + L.length)).toList = (ys.toList.drop off).take L.length := by simp [Array.toList_extract]
          rw [this]
          exact (hy.drop off).take _
    · have one : ∃ c ds, L = [c] ∧ tab.desc t = some ds ∧ isAgg ds = false ∧ ((c = cI ∧ ∃ k, tab.desc t = some (.int k)) ∨ (c = cS ∧ tab.desc t = some .string) ∨ (c = cB ∧ tab.desc t = some .bool)) := by
        unfold dense at h
        cases hu : tab.desc t with
        | none => simp [hu] at h
        | some ds =>
          rw [tab_agg hu] at hag
          cases ds with
          | bool => simp only [hu] at h; cases h; exact ⟨_, _, rfl, rfl, rfl, .inr (.inr ⟨rfl, rfl⟩)⟩
          | int k => simp only [hu] at h; cases h; exact ⟨_, _, rfl, rfl, rfl, .inl ⟨rfl, _, rfl⟩⟩
          | string => simp only [hu] at h; cases h; exact ⟨_, _, rfl, rfl, rfl, .inr (.inl ⟨rfl, rfl⟩)⟩
          | array n e => exact absurd rfl hag
          | struct fs => exact absurd rfl hag
          | _ => simp [hu] at h
      obtain ⟨c, ds, rfl, hds, hna, hcd⟩ := one
      obtain ⟨a, xs', b, ys', t', h1, h2, hc, hr⟩ := eqCells_cons he
      have hr : t' = r := by cases t' <;> exact Option.some.inj hr
      subst hr
      have gx : x[off]? = some a := by rw [← List.head?_drop, h1]; rfl
      have gy : y[off]? = some b := by rw [← List.head?_drop, h2]; rfl
      obtain ⟨a', ha', ra⟩ := hx.get _ gx
      obtain ⟨b', hb', rb⟩ := hy.get _ gy
      have hg : tab.agg t = some false := by rw [tab_agg hds, hna]
      rw [Array.getElem?_toList] at ha' hb'
      refine ⟨a', b', ?_, ?_, eqCell_ok tok hcd ra rb hc _⟩
      · simp [part, tok.run_agg hg, ha']
      · simp [part, tok.run_agg hg, hb']

end Go.Ac
end
section
namespace Go.Ac
variable {P : Program} {tab : Tab} {ρ : Rn} {w : World} (tok : TabOk P tab)

def eqOp (neg : Bool) : BinOp := if neg then .neq else .eql

/-- a comparison that the machine makes at a type -/
def CmpOk (P : Program) (w : World) (t : TypeId) (x' y' : Value) (r : Bool) : Prop :=
  ∀ (neg : Bool) (xo yo : Operand), ((eqGuard (eqOp neg) t xo yo x' y').bind fun _ => binOp (eqOp neg) t x' y').run P w = .ok (.bool (xor neg r)) w

theorem cmp_of {t : TypeId} {x' y' : Value} {r : Bool} (hg : ∀ neg xo yo, (eqGuard (eqOp neg) t xo yo x' y').run P w = .ok () w) (hb : ∀ neg, (binOp (eqOp neg) t x' y').run P w = .ok (.bool (xor neg r)) w) : CmpOk P w t x' y' r := by
  intro neg xo yo
  rw [show ((eqGuard (eqOp neg) t xo yo x' y').bind fun _ => binOp (eqOp neg) t x' y') = (eqGuard (eqOp neg) t xo yo x' y') >>= fun _ => binOp (eqOp neg) t x' y' from rfl]
  rw [Sem.run_bind, hg, Result.andThen_ok, hb]

/-- what the machine does where the values are neither numbers nor strings -/
theorem cmp_other {t : TypeId} {x' y' : Value} {r : Bool} (hq : ∀ d, (Op.equalIn (d + 1) t x' y').run P w = .ok r w)
    (e1 : binOp .eql t x' y' = (Op.equal t x' y').bind fun b => .pure (.bool b)) (e2 : binOp .neq t x' y' = (Op.equal t x' y').bind fun b => .pure (.bool (!b))) :
    ∀ neg, (binOp (eqOp neg) t x' y').run P w = .ok (.bool (xor neg r)) w := by
  intro neg
  have hq : (Op.equal t x' y').run P w = .ok r w := hq 9999
  cases neg
  · rw [show eqOp false = .eql from rfl, e1, Sem.run_bind', hq, Result.andThen_ok]; simp
  · rw [show eqOp true = .neq from rfl, e2, Sem.run_bind', hq, Result.andThen_ok]; simp

include tok in
theorem eqV_ok {t : TypeId} {x y x' y' : Value} (hx : VRel ρ x x') (hy : VRel ρ y y') {r : Bool} (h : (eqV tab t).run x y = some r) : CmpOk P w t x' y' r := by
  unfold eqV at h
  cases hu : tab.desc t with
  | none => simp [hu] at h
  | some ds =>
    have hw := tok.underlying hu
    cases ds with
    | bool =>
      simp only [hu] at h
      obtain ⟨a, b, rfl, rfl, rfl⟩ := cB_some h
      obtain rfl := hx.bool
      obtain rfl := hy.bool
      refine cmp_of (fun neg xo yo => by cases neg <;> simp [eqOp, eqGuard]) fun neg => ?_
      have := fun d => run_equalIn_bool' w d t a b hw
      exact cmp_other this rfl rfl neg
    | int k =>
      simp only [hu] at h
      obtain ⟨k', a, b, rfl, rfl, rfl⟩ := cI_some h
      obtain rfl := hx.int
      obtain rfl := hy.int
      refine cmp_of (fun neg xo yo => by cases neg <;> simp [eqOp, eqGuard]) fun neg => ?_
      cases neg <;> simp [eqOp, binOp, Op.intCmp, bne]
    | string =>
      simp only [hu] at h
      obtain ⟨a, b, rfl, rfl, rfl⟩ := cS_some h
      obtain rfl := hx.str
      obtain rfl := hy.str
      refine cmp_of (fun neg xo yo => by cases neg <;> simp [eqOp, eqGuard]) fun neg => ?_
      cases neg <;> simp [eqOp, binOp, Op.stringOp, beq_toListBytes]
    | struct fs =>
      simp only [hu] at h
      cases hd : dense tab 20 t with
      | none => simp [hd] at h
      | some L =>
        simp only [hd] at h
        obtain ⟨a, h1, h2⟩ := onOpt_some (show onOpt none (fun a => onOpt none (fun b => eqCells L (Array.toList a) (Array.toList b)) (vA y)) (vA x) = some r from h)
        obtain ⟨b, h3, h4⟩ := onOpt_some h2
        obtain rfl := vA_some h1
        obtain rfl := vA_some h3
        obtain ⟨xs, rfl, lx, ox⟩ := hx.agg
        obtain ⟨ys, rfl, ly, oy⟩ := hy.agg
        have he : tab.eqs.get t ≠ none := by
          intro e
          have hd' := hd
          unfold dense at hd'
          simp [hu, e] at hd'
        obtain ⟨u, he⟩ := Option.ne_none_iff_exists'.1 he
        have hq := eqWhole_ok tok (dense_ok tok 19) hd (by rw [tab_agg hu]; rfl) ρ w 9980 xs ys _ _ r lx ly ox oy h4
        refine cmp_of (fun neg xo yo => run_eqGuard_agg w _ t xo yo xs ys (tok.eqs _ _ he).2) fun neg => ?_
        cases neg
        · rw [show eqOp false = .eql from rfl, run_eql_struct]; simp [hq]
        · rw [show eqOp true = .neq from rfl, run_neq_struct]; simp [hq]
    | array n e =>
      simp only [hu] at h
      cases he : tab.eqs.get t with
      | none => simp [he] at h
      | some u =>
        simp only [he] at h
        cases hd : dense tab 20 t with
        | none => simp [hd] at h
        | some L =>
          simp only [hd] at h
          obtain ⟨a, h1, h2⟩ := onOpt_some (show onOpt none (fun a => onOpt none (fun b => eqCells L (Array.toList a) (Array.toList b)) (vA y)) (vA x) = some r from h)
          obtain ⟨b, h3, h4⟩ := onOpt_some h2
          obtain rfl := vA_some h1
          obtain rfl := vA_some h3
          obtain ⟨xs, rfl, lx, ox⟩ := hx.agg
          obtain ⟨ys, rfl, ly, oy⟩ := hy.agg
          have hq := eqWhole_ok tok (dense_ok tok 19) hd (by rw [tab_agg hu]; rfl) ρ w 9980 xs ys _ _ r lx ly ox oy h4
          refine cmp_of (fun neg xo yo => run_eqGuard_agg w _ t xo yo xs ys (tok.eqs _ _ he).2) fun neg => ?_
          cases neg
          · rw [show eqOp false = .eql from rfl, run_eql_struct]; simp [hq]
          · rw [show eqOp true = .neq from rfl, run_neq_struct]; simp [hq]
    | pointer e =>
      simp only [hu] at h
      have h : eqPtr x y = some r := h
      unfold eqPtr at h
      split at h <;> cases h
      · simp only [VRel] at hx hy
        subst hx; subst hy
        refine cmp_of (fun neg xo yo => by cases neg <;> simp [eqOp, eqGuard]) fun neg => ?_
        exact cmp_other (fun d => by simp [Op.equalIn, run_underlying hw]) rfl rfl neg
      · obtain ⟨rb, _, rfl⟩ := hy.ptr
        simp only [VRel] at hx
        subst hx
        refine cmp_of (fun neg xo yo => by cases neg <;> simp [eqOp, eqGuard]) fun neg => ?_
        exact cmp_other (fun d => by simp [Op.equalIn, run_underlying hw]) rfl rfl neg
      · obtain ⟨rb, _, rfl⟩ := hx.ptr
        simp only [VRel] at hy
        subst hy
        refine cmp_of (fun neg xo yo => by cases neg <;> simp [eqOp, eqGuard]) fun neg => ?_
        exact cmp_other (fun d => by simp [Op.equalIn, run_underlying hw]) rfl rfl neg
    | interface ms =>
      simp only [hu] at h
      have h : eqIface x y = some r := h
      unfold eqIface at h
      split at h <;> cases h
      · simp only [VRel] at hx hy
        obtain ⟨z, rfl, _⟩ := hy
        subst hx
        refine cmp_of (fun neg xo yo => by cases neg <;> simp [eqOp, eqGuard]) fun neg => ?_
        exact cmp_other (fun d => by simp [Op.equalIn, run_underlying hw]) rfl rfl neg
      · simp only [VRel] at hx hy
        obtain ⟨z, rfl, _⟩ := hx
        subst hy
        refine cmp_of (fun neg xo yo => by cases neg <;> simp [eqOp, eqGuard]) fun neg => ?_
        exact cmp_other (fun d => by simp [Op.equalIn, run_underlying hw]) rfl rfl neg
    | slice e =>
      simp only [hu] at h
      have h : eqSlice x y = some r := h
      unfold eqSlice at h
      split at h <;> cases h
      · simp only [VRel] at hx hy
        obtain ⟨_, _, rfl⟩ := hx
        obtain ⟨_, _, rfl⟩ := hy
        refine cmp_of (fun neg xo yo => by cases neg <;> simp [eqOp, eqGuard]) fun neg => ?_
        exact cmp_other (fun d => by simp [Op.equalIn, run_underlying hw]) rfl rfl neg
      · simp only [VRel] at hx hy
        obtain ⟨_, _, rfl⟩ := hx
        obtain ⟨_, _, _, _, _, rfl⟩ := hy
        refine cmp_of (fun neg xo yo => by cases neg <;> simp [eqOp, eqGuard]) fun neg => ?_
        exact cmp_other (fun d => by simp [Op.equalIn, run_underlying hw]) rfl rfl neg
      · simp only [VRel] at hx hy
        obtain ⟨_, _, rfl⟩ := hy
        obtain ⟨_, _, _, _, _, rfl⟩ := hx
        refine cmp_of (fun neg xo yo => by cases neg <;> simp [eqOp, eqGuard]) fun neg => ?_
        exact cmp_other (fun d => by simp [Op.equalIn, run_underlying hw]) rfl rfl neg
    | func a b c =>
      simp only [hu] at h
      have h : eqFunc x y = some r := h
      unfold eqFunc at h
      split at h <;> cases h
      · simp only [VRel] at hx hy
        subst hx; subst hy
        refine cmp_of (fun neg xo yo => by cases neg <;> simp [eqOp, eqGuard]) fun neg => ?_
        exact cmp_other (fun d => by simp [Op.equalIn, run_underlying hw]) rfl rfl neg
      · simp only [VRel] at hx hy
        obtain ⟨_, _, _, rfl, _⟩ := hy
        subst hx
        refine cmp_of (fun neg xo yo => by cases neg <;> simp [eqOp, eqGuard]) fun neg => ?_
        exact cmp_other (fun d => by simp [Op.equalIn, run_underlying hw]) rfl rfl neg
      · simp only [VRel] at hx hy
        obtain ⟨_, _, _, rfl, _⟩ := hx
        subst hy
        refine cmp_of (fun neg xo yo => by cases neg <;> simp [eqOp, eqGuard]) fun neg => ?_
        exact cmp_other (fun d => by simp [Op.equalIn, run_underlying hw]) rfl rfl neg
    | _ => simp [hu] at h

/-! ### all binary operations -/
theorem shift_ok {k : IntKind} {left : Bool} {x y : Value} {v : Value} (h : binShift k k.bits left x y = some v) (t : TypeId) :
    ∃ kx ky a b c, x = .int kx a ∧ y = .int ky b ∧ v = .int k c ∧ (binOp (if left then .shl else .shr) t x y).run P w = .ok v w := by
  obtain ⟨h1, h2⟩ := cond_some h
  obtain ⟨n, h3, h4⟩ := onOpt_some h2
  obtain rfl := Option.some.inj h4
  have hx := vK_kind (of_beq h1)
  obtain ⟨ky, rfl⟩ := natOf_some h3
  have hcap : capN k.bits n = min n k.bits := by
    unfold capN
    cases hb : Nat.ble n k.bits with
    | true => have := of_ble hb; simp; omega
    | false =>
      have : ¬ n ≤ k.bits := fun e => by rw [Nat.ble_eq_true_of_le e] at hb; cases hb
      simp; omega
  have key : ∀ (a : Int) (m : Nat), ∃ c, shiftI k left a m = .int k c ∧ c = if left then k.wrap (a * 2 ^ m) else a.fdiv (2 ^ m) := by
    intro a m
    cases a with
    | ofNat z =>
      refine ⟨_, rfl, ?_⟩
      cases left
      · show Int.ofNat (z >>> m) = _
        rw [Nat.shiftRight_eq_div_pow]
        simp only [Bool.false_eq_true, if_false, Int.ofNat_eq_natCast]
        rw [Int.fdiv_eq_ediv_of_nonneg _ (Int.pow_nonneg (by omega))]
        norm_cast
      · show (wrapI k).run (Int.ofNat (z <<< m)) = _
        rw [wrapI_eq, Nat.shiftLeft_eq]
        simp
    | negSucc z =>
      refine ⟨_, rfl, ?_⟩
      cases left <;> rfl
  obtain ⟨c, hc, hc'⟩ := key (vN x) (capN k.bits n)
  refine ⟨k, ky, vN x, _, c, hx, rfl, hc, ?_⟩
  rw [hc, hx, hc', hcap]
  cases left <;> simp [binOp, Op.shift] <;> (intro hlt; omega)

include tok in
theorem bin_ok {op : BinOp} {t : TypeId} {x y x' y' : Value} (hx : VRel ρ x x') (hy : VRel ρ y y') {v : Value} (h : (binA tab op t).run x y = some v) (xo yo : Operand) :
    ∃ v', ((eqGuard op t xo yo x' y').bind fun _ => binOp op t x' y').run P w = .ok v' w ∧ VRel ρ v v' := by
  have hbind : ∀ {v' : Value}, (eqGuard op t xo yo x' y').run P w = .ok () w → (binOp op t x' y').run P w = .ok v' w → ((eqGuard op t xo yo x' y').bind fun _ => binOp op t x' y').run P w = .ok v' w := by
    intro v' h1 h2
    rw [show ((eqGuard op t xo yo x' y').bind fun _ => binOp op t x' y') = (eqGuard op t xo yo x' y') >>= fun _ => binOp op t x' y' from rfl]
    rw [Sem.run_bind, h1, Result.andThen_ok, h2]
  have hguard : ∀ {a b : Value}, (∃ k n, a = .int k n) ∨ (∃ s, a = .string s) → (eqGuard op t xo yo a b).run P w = .ok () w := by
    intro a b hab
    rcases hab with ⟨k, n, rfl⟩ | ⟨s, rfl⟩ <;> cases op <;> simp [eqGuard]
  by_cases hs : op = .shl ∨ op = .shr
  · have : ∃ left k, op = (if left = true then BinOp.shl else .shr) ∧ binShift k k.bits left x y = some v := by
      rcases hs with rfl | rfl <;> simp only [binA] at h <;> cases hu : tab.desc t with
      | none => simp [hu] at h
      | some ds => cases ds with
        | int k => simp only [hu] at h; first | exact ⟨true, k, rfl, h⟩ | exact ⟨false, k, rfl, h⟩
        | _ => simp [hu] at h
    obtain ⟨left, k, ho, hb⟩ := this
    obtain ⟨kx, ky, a, b, c, rfl, rfl, rfl, hr⟩ := shift_ok (P := P) (w := w) hb t
    obtain rfl := hx.int
    obtain rfl := hy.int
    refine ⟨_, hbind (hguard (.inl ⟨_, _, rfl⟩)) ?_, VRel.mkInt _ _⟩
    rw [ho]; exact hr
  · have hs1 : op ≠ .shl := fun e => hs (.inl e)
    have hs2 : op ≠ .shr := fun e => hs (.inr e)
    cases hu : tab.desc t with
    | none => exfalso; cases op <;> simp_all [binA, eqV, optB]
    | some ds =>
      by_cases hi : ∃ k, ds = .int k
      · obtain ⟨k, rfl⟩ := hi
        have h : binInt (kindNo k) (intOp k op) x y = some v := by
          cases op <;> simp_all [binA]
        obtain ⟨h1, h2⟩ := cond_some h
        obtain ⟨h3, h4⟩ := cond_some h2
        have ex := vK_kind (of_beq h1)
        have ey := vK_kind (of_beq h3)
        obtain ⟨hr, j, n, hv⟩ := intOp_ok hs1 hs2 h4 P t w
        rw [ex] at hx; rw [ey] at hy
        obtain rfl := hx.int
        obtain rfl := hy.int
        refine ⟨v, hbind (hguard (.inl ⟨_, _, rfl⟩)) hr, ?_⟩
        rcases hv with rfl | ⟨c, rfl⟩
        · exact VRel.mkInt _ _
        · exact VRel.mkBool _
      · by_cases hst : ds = .string
        · subst hst
          have h : binStr (strOp op) x y = some v := by
            cases op <;> simp_all [binA]
          obtain ⟨a, h1, h2⟩ := onOpt_some h
          obtain ⟨b, h3, h4⟩ := onOpt_some h2
          obtain rfl := vS_some h1
          obtain rfl := vS_some h3
          obtain rfl := hx.str
          obtain rfl := hy.str
          cases op with
          | add =>
            obtain ⟨h5, h6⟩ := cond_some (show cond (Nat.ble (Nat.add (lenB a.data.toList) (lenB b.data.toList)) 4611686018427387903) (some (.string (catS a b))) none = some v from h4)
            obtain rfl := Option.some.inj h6
            have h7 := of_ble h5
            rw [lenB_eq, lenB_eq] at h7
            have h8 : ¬ (((a.size + b.size : Nat) : Int) > IntKind.i64.max) := by
              have e1 : a.data.toList.length = a.size := rfl
              have e2 : b.data.toList.length = b.size := rfl
              rw [e1, e2] at h7
              have h7 : a.size + b.size ≤ 4611686018427387903 := h7
              have : IntKind.i64.max = 9223372036854775807 := by decide
              omega
            refine ⟨.string (a ++ b), hbind (hguard (.inr ⟨_, rfl⟩)) ?_, by rw [catS_eq]; exact VRel.mkStr _⟩
            simp only [binOp, Op.stringOp]
            rw [if_neg h8]
            rfl
          | eql =>
            obtain rfl := Option.some.inj (show some (.bool (eqS a b)) = some v from h4)
            exact ⟨_, hbind (hguard (.inr ⟨_, rfl⟩)) (by simp [binOp, Op.stringOp, eqS_eq, beq_toListBytes]), VRel.mkBool _⟩
          | neq =>
            obtain rfl := Option.some.inj (show some (.bool (!eqS a b)) = some v from h4)
            exact ⟨_, hbind (hguard (.inr ⟨_, rfl⟩)) (by simp [binOp, Op.stringOp, eqS_eq, beq_toListBytes]), VRel.mkBool _⟩
          | _ => cases h4
        · cases op with
          | eql =>
            have h : optB false ((eqV tab t).run x y) = some v := by
              cases ds <;> simp_all [binA]
            cases hq : (eqV tab t).run x y with
            | none => rw [hq] at h; cases h
            | some r =>
              rw [hq] at h
              cases h
              exact ⟨_, eqV_ok tok hx hy hq false xo yo, VRel.mkBool _⟩
          | neq =>
            have h : optB true ((eqV tab t).run x y) = some v := by
              cases ds <;> simp_all [binA]
            cases hq : (eqV tab t).run x y with
            | none => rw [hq] at h; cases h
            | some r =>
              rw [hq] at h
              cases h
              exact ⟨_, eqV_ok tok hx hy hq true xo yo, VRel.mkBool _⟩
          | _ => exfalso; cases ds <;> simp_all [binA]

end Go.Ac
end
section
namespace Go.Ac
variable {P : Program} {tab : Tab} {ρ : Rn} {w : World} (tok : TabOk P tab)

/-! ### a map's key -/
def CkOk (P : Program) (tab : Tab) (t : TypeId) (L : List VB) (D : Nat) : Prop :=
  ∀ (em : Bool) (w : World) (d : Nat) (xs : Array Value) (off : Nat), off + L.length ≤ xs.size → tab.size t = some L.length →
    ∃ a, (part t xs off).run P w = .ok a w ∧ (Instr.checkKey em (d + D) t a).run P w = .ok () w

theorem repV_length (k : List VB) : ∀ n, (repV k n).length = n * k.length
  | 0 => by simp [repV]
  | n + 1 => by simp [repV, repV_length k n, Nat.succ_mul, Nat.add_comm]

theorem ckItems_ok (tok : TabOk P tab) {D : Nat} {e : TypeId} {k : List VB} (ih : CkOk P tab e k D) (hk : tab.size e = some k.length) (em : Bool) (w : World) (d : Nat) (xs : Array Value) :
    ∀ (is : List Nat), (∀ j ∈ is, j * k.length + k.length ≤ xs.size) →
    (forIn is PUnit.unit (fun (i : Nat) (_ : PUnit) => do
      let n ← sizeOf e
      let v ← part e xs (i * n)
      Instr.checkKey em (d + D) e v
      pure (ForInStep.yield PUnit.unit))).run P w = .ok PUnit.unit w
  | [], _ => by simp
  | i :: is, h => by
    obtain ⟨a, p1, p2⟩ := ih em w d xs (i * k.length) (h i (by simp)) hk
    have := ckItems_ok tok ih hk em w d xs is fun j hj => h j (by simp [hj])
    simp only [List.forIn_cons, Sem.run_bind, tok.run_size hk, Result.andThen_ok, p1, p2, Sem.run_pure]
    exact this

theorem ckFields_ok (tok : TabOk P tab) {D : Nat} (ih : ∀ t L, dense tab D t = some L → CkOk P tab t L D) (em : Bool) (w : World) (d : Nat) (xs : Array Value) :
    ∀ (fs : List Field) (off : Nat) (L : List VB), denseF tab (dense tab D) fs off = some L → off + L.length ≤ xs.size →
      (forIn fs PUnit.unit (fun (f : Field) (_ : PUnit) => do
        if f.name ≠ "_" then
          let v ← part f.type xs f.offset
          Instr.checkKey em (d + D) f.type v
          pure (ForInStep.yield PUnit.unit)
        else pure (ForInStep.yield PUnit.unit))).run P w = .ok PUnit.unit w
  | [], off, L, h, he => by simp
  | f :: fs, off, L, h, he => by
    unfold denseF at h
    cases h1 : (f.name == "_") with
    | true => rw [h1] at h; cases h
    | false =>
      rw [h1, cond_false] at h
      obtain ⟨h2, h3⟩ := cond_some h
      cases h4 : dense tab D f.type with
      | none => simp [h4] at h3
      | some k =>
        simp only [h4] at h3
        cases h5 : tab.size f.type with
        | none => simp [h5] at h3
        | some n =>
          simp only [h5] at h3
          obtain ⟨h6, h7⟩ := cond_some h3
          cases h8 : denseF tab (dense tab D) fs (off + n) with
          | none => simp [h8] at h7
          | some rest =>
            simp only [h8] at h7
            cases h7
            have hn := of_beq h6
            have hoff := of_beq h2
            have hname : f.name ≠ "_" := by simpa using h1
            have hk : tab.size f.type = some k.length := by rw [h5, hn]
            simp only [List.length_append] at he
            obtain ⟨a, p1, p2⟩ := ih _ _ h4 em w d xs off (by omega) hk
            have := ckFields_ok tok ih em w d xs fs (off + n) rest h8 (by omega)
            simp only [List.forIn_cons, Sem.run_bind, Sem.run_ite]
            rw [if_pos hname, hoff]
            simp only [Sem.run_bind, p1, p2, Result.andThen_ok, Sem.run_pure]
            exact this

theorem ckWhole_ok (tok : TabOk P tab) {D : Nat} (ih : ∀ t L, dense tab D t = some L → CkOk P tab t L D) {t : TypeId} {L : List VB} (h : dense tab (D + 1) t = some L)
    (ha : tab.agg t = some true) (em : Bool) (w : World) (d : Nat) (xs : Array Value) (hl : L.length ≤ xs.size) : (Instr.checkKey em (d + (D + 1)) t (.agg xs)).run P w = .ok () w := by
  unfold dense at h
  cases hu : tab.desc t with
  | none => simp [hu] at h
  | some ds =>
    rw [tab_agg hu] at ha
    have hw := tok.underlying hu
    cases ds with
    | array n e =>
      simp only [hu] at h
      cases h1 : dense tab D e with
      | none => simp [h1] at h
      | some k =>
        simp only [h1] at h
        cases h2 : tab.size e with
        | none => simp [h2] at h
        | some c =>
          simp only [h2] at h
          obtain ⟨h3, h4⟩ := cond_some h
          cases h4
          have hc := of_beq h3
          subst hc
          rw [repV_length] at hl
          rw [show d + (D + 1) = (d + D) + 1 from rfl, Instr.checkKey]
          simp only [Sem.run_bind, run_underlying hw, Result.andThen_ok]
          simp only [Std.Legacy.Range.forIn_eq_forIn_range', Std.Legacy.Range.size, Nat.sub_zero, Nat.add_one_sub_one, Nat.div_one]
          have := ckItems_ok tok (ih _ _ h1) h2 em w d xs (List.range' 0 n) fun j hj => by
            have : j < n := by have := List.mem_range'_1.1 hj; omega
            have : (j + 1) * k.length ≤ n * k.length := Nat.mul_le_mul_right _ (by omega)
            rw [Nat.succ_mul] at this
            omega
          exact (congrArg (fun m => m.andThen fun a w' => Sem.run P (pure ()) w') this).trans rfl
    | struct fs =>
      simp only [hu] at h
      cases h1 : tab.eqs.get t with
      | none => simp [h1] at h
      | some u =>
        simp only [h1] at h
        rw [show d + (D + 1) = (d + D) + 1 from rfl, Instr.checkKey]
        simp only [Sem.run_bind, run_underlying hw, Result.andThen_ok]
        rw [← Array.forIn_toList]
        have := ckFields_ok tok ih em w d xs fs.toList 0 L h (by omega)
        exact (congrArg (fun m => m.andThen fun a w' => Sem.run P (pure ()) w') this).trans rfl
    | _ => simp [isAgg] at ha

theorem dense_ck (tok : TabOk P tab) : ∀ (D : Nat) (t : TypeId) (L : List VB), dense tab D t = some L → CkOk P tab t L D
  | 0, t, L, h => by cases h
  | D + 1, t, L, h => by
    have ih := dense_ck tok D
    intro em w d xs off hl hsz
    by_cases hag : tab.agg t = some true
    · refine ⟨.agg (xs.extract off (off + L.length)), ?_, ?_⟩
      · simp only [part, Sem.run_bind, tok.run_agg hag, Result.andThen_ok, if_true, tok.run_size hsz, Sem.run_pure, Sem.run_ite]
      · exact ckWhole_ok tok ih h hag em w d _ (by simp; omega)
    · have one : ∃ c ds, L = [c] ∧ tab.desc t = some ds ∧ isAgg ds = false ∧ ((∃ k, ds = .int k) ∨ ds = .string ∨ ds = .bool) := by
        unfold dense at h
        cases hu : tab.desc t with
        | none => simp [hu] at h
        | some ds =>
          rw [tab_agg hu] at hag
          cases ds with
          | bool => simp only [hu] at h; cases h; exact ⟨_, _, rfl, rfl, rfl, .inr (.inr rfl)⟩
          | int k => simp only [hu] at h; cases h; exact ⟨_, _, rfl, rfl, rfl, .inl ⟨_, rfl⟩⟩
          | string => simp only [hu] at h; cases h; exact ⟨_, _, rfl, rfl, rfl, .inr (.inl rfl)⟩
          | array n e => exact absurd rfl hag
          | struct fs => exact absurd rfl hag
          | _ => simp [hu] at h
      obtain ⟨c, ds, rfl, hds, hna, hcd⟩ := one
      have hg : tab.agg t = some false := by rw [tab_agg hds, hna]
      have hw := tok.underlying hds
      simp at hl
      refine ⟨xs[off]'(by omega), ?_, ?_⟩
      · simp [part, tok.run_agg hg, show off < xs.size by omega]
      · rcases hcd with ⟨k, rfl⟩ | rfl | rfl <;> simp [← Nat.add_assoc, Instr.checkKey, run_underlying hw]

/-! ### a map's entries -/
/-- the kinds whose comparison is made at once -/
def nowKind : TypeDesc → Bool
  | .int _ => true
  | .string => true
  | .bool => true
  | _ => false

theorem ck_now {t : TypeId} {ds : TypeDesc} (hw : P.underlying t = some ds) (hn : nowKind ds = true) (em : Bool) (d : Nat) (x : Value) : (Instr.checkKey em (d + 1) t x).run P w = .ok () w := by
  cases ds <;> first | (exact absurd (show false = true from hn) (by decide)) | (simp [Instr.checkKey, run_underlying hw])

include tok in
/-- what is known of the comparison of a map's keys -/
theorem keyT_ok {t : TypeId} {x : Value} (hok : (keyT tab t).ok x = true) {x' : Value} (hx : VRel ρ x x') :
    ∃ ds, tab.desc t = some ds ∧ (∀ em, (Instr.checkKey em 10000 t x').run P w = .ok () w) ∧
      ∀ y y' r, VRel ρ y y' → (keyT tab t).eq.run x y = some r → (Op.equal t x' y').run P w = .ok r w ∧ Instr.sameNow ds x' y' = (if nowKind ds then some r else none) := by
  unfold keyT at hok ⊢
  cases hu : tab.desc t with
  | none => simp [hu] at hok
  | some ds =>
    have hw := tok.underlying hu
    refine ⟨ds, rfl, ?_⟩
    have agg : ∀ L, dense tab 20 t = some L → tab.agg t = some true → nowKind ds = false → (match ds with | .struct _ => true | .array _ _ => true | _ => false) = true → onOpt false (fun a => Nat.beq L.length (lenL (Array.toList a))) (vA x) = true →
        (∀ em, (Instr.checkKey em 10000 t x').run P w = .ok () w) ∧
        ∀ y y' r, VRel ρ y y' → eqAgg L x y = some r → (Op.equal t x' y').run P w = .ok r w ∧ Instr.sameNow ds x' y' = (if nowKind ds then some r else none) := by
      intro L hd hag hnk hds hl
      cases ha : vA x with
      | none => rw [ha] at hl; cases hl
      | some cs =>
        rw [ha] at hl
        have hl : Nat.beq L.length (lenL cs.toList) = true := hl
        have hl := of_beq hl
        rw [lenL_eq] at hl
        obtain rfl := vA_some ha
        obtain ⟨xs, rfl, lx, ox⟩ := hx.agg
        have hlen := lx.length
        refine ⟨fun em => ckWhole_ok tok (dense_ck tok 19) hd hag em w 9980 xs (by have : xs.toList.length = xs.size := rfl; omega), ?_⟩
        intro y y' r hy he
        obtain ⟨a, h1, h2⟩ := onOpt_some (show onOpt none (fun a => onOpt none (fun b => eqCells L (Array.toList a) (Array.toList b)) (vA y)) (vA (.agg cs)) = some r from he)
        obtain ⟨b, h3, h4⟩ := onOpt_some h2
        cases h1
        obtain rfl := vA_some h3
        obtain ⟨ys, rfl, ly, oy⟩ := hy.agg
        refine ⟨eqWhole_ok tok (dense_ok tok 19) hd hag ρ w 9980 xs ys _ _ r lx ly ox oy h4, ?_⟩
        rw [hnk]
        cases ds <;> first | rfl | cases hds
    cases ds with
    | bool =>
      simp only
      refine ⟨fun em => ck_now hw rfl em 9999 x', fun y y' r hy he => ?_⟩
      obtain ⟨a, b, rfl, rfl, rfl⟩ := cB_some he
      obtain rfl := hx.bool
      obtain rfl := hy.bool
      exact ⟨run_equalIn_bool' w 9999 t a b hw, by simp [Instr.sameNow, nowKind]⟩
    | int k =>
      simp only
      refine ⟨fun em => ck_now hw rfl em 9999 x', fun y y' r hy he => ?_⟩
      obtain ⟨k', a, b, rfl, rfl, rfl⟩ := cI_some he
      obtain rfl := hx.int
      obtain rfl := hy.int
      exact ⟨run_equalIn_int w 9999 t _ _ a b hw, by simp [Instr.sameNow, nowKind]⟩
    | string =>
      simp only
      refine ⟨fun em => ck_now hw rfl em 9999 x', fun y y' r hy he => ?_⟩
      obtain ⟨a, b, rfl, rfl, rfl⟩ := cS_some he
      obtain rfl := hx.str
      obtain rfl := hy.str
      refine ⟨?_, by simp [Instr.sameNow, nowKind]⟩
      show (Op.equalIn (9999 + 1) t _ _).run P w = _
      rw [run_equalIn_string w 9999 t a b hw, beq_toListBytes]
    | struct fs =>
      simp only [hu] at hok ⊢
      cases hd : dense tab 20 t with
      | none => simp [hd] at hok
      | some L =>
        simp only [hd] at hok ⊢
        exact agg L hd (by rw [tab_agg hu]; rfl) rfl rfl hok
    | array n e =>
      simp only [hu] at hok ⊢
      cases hd : dense tab 20 t with
      | none => simp [hd] at hok
      | some L =>
        simp only [hd] at hok ⊢
        exact agg L hd (by rw [tab_agg hu]; rfl) rfl rfl hok
    | _ => simp [hu] at hok

/-- the entry that is found, in both worlds -/
def FRel (ρ : Rn) (es : List AEntry) (es' : List MapEntry) : Option (Nat × Value) → Option (Nat × Value) → Prop
  | none, r => r = none
  | some (i, v), r => ∃ v', r = some (i, v') ∧ VRel ρ v v'

theorem findNow_some {ds : TypeDesc} (hn : nowKind ds = true) {e : VB} {k k' : Value} (hk : ∀ y y' r, VRel ρ y y' → e.run k y = some r → Instr.sameNow ds k' y' = some r) :
    ∀ {es : List AEntry} {es' : List MapEntry} {i : Nat} {r : Option (Nat × Value)}, ERel ρ es es' → findKey' e k es i = some r → ∃ r', Instr.findNow ds k' es' i = some r' ∧ FRel ρ es es' r r'
  | [], es', i, r, hr, h => by
    simp only [ERel] at hr
    subst hr
    cases h
    exact ⟨none, rfl, rfl⟩
  | x :: xs, es', i, r, hr, h => by
    simp only [ERel] at hr
    obtain ⟨e', rest, rfl, hb, hkey, hval, hrest⟩ := hr
    unfold findKey' at h
    cases hc : e.run k x.key with
    | none => simp [hc] at h
    | some b =>
      have := hk _ _ _ hkey hc
      cases b with
      | true =>
        simp only [hc] at h
        cases h
        exact ⟨some (i, e'.val), by simp [Instr.findNow, this], e'.val, rfl, hval⟩
      | false =>
        simp only [hc] at h
        obtain ⟨r', h1, h2⟩ := findNow_some hn hk hrest h
        refine ⟨r', by simpa [Instr.findNow, this] using h1, ?_⟩
        cases r with
        | none => exact h2
        | some p => obtain ⟨i, v⟩ := p; exact h2

theorem findAsk_some {t : TypeId} {e : VB} {k k' : Value} (hk : ∀ y y' r, VRel ρ y y' → e.run k y = some r → (Op.equal t k' y').run P w = .ok r w) :
    ∀ {es : List AEntry} {es' : List MapEntry} {i : Nat} {r : Option (Nat × Value)}, ERel ρ es es' → findKey' e k es i = some r → ∃ r', (Instr.findAsking t k' es' i).run P w = .ok r' w ∧ FRel ρ es es' r r'
  | [], es', i, r, hr, h => by
    simp only [ERel] at hr
    subst hr
    cases h
    exact ⟨none, rfl, rfl⟩
  | x :: xs, es', i, r, hr, h => by
    simp only [ERel] at hr
    obtain ⟨e', rest, rfl, hb, hkey, hval, hrest⟩ := hr
    unfold findKey' at h
    cases hc : e.run k x.key with
    | none => simp [hc] at h
    | some b =>
      have := hk _ _ _ hkey hc
      cases b with
      | true =>
        simp only [hc] at h
        cases h
        exact ⟨some (i, e'.val), by simp [Instr.findAsking, this], e'.val, rfl, hval⟩
      | false =>
        simp only [hc] at h
        obtain ⟨r', h1, h2⟩ := findAsk_some hk hrest h
        refine ⟨r', by simpa [Instr.findAsking, this] using h1, ?_⟩
        cases r with
        | none => exact h2
        | some p => obtain ⟨i, v⟩ := p; exact h2

include tok in
/-- a key that is looked for -/
theorem findKey_ok {t : TypeId} {k k' : Value} (hk : VRel ρ k k') {es : List AEntry} {es' : List MapEntry} (he : ERel ρ es es') {r : Option (Nat × Value)} (h : findKey (keyT tab t) k es 0 = some r) :
    (∀ em, (Instr.checkKey em 10000 t k').run P w = .ok () w) ∧ ∃ r', (Instr.findKey t k' es').run P w = .ok r' w ∧ FRel ρ es es' r r' := by
  obtain ⟨h1, h2⟩ := cond_some h
  obtain ⟨ds, hu, hc, hq⟩ := keyT_ok (w := w) tok h1 hk
  refine ⟨hc, ?_⟩
  have hw := tok.underlying hu
  cases hn : nowKind ds with
  | true =>
    obtain ⟨r', h3, h4⟩ := findNow_some hn (fun y y' r hy e => by have := (hq y y' r hy e).2; rw [hn] at this; exact this) he h2
    exact ⟨r', by simp [Instr.findKey, run_underlying hw, h3], h4⟩
  | false =>
    cases es with
    | nil =>
      simp only [ERel] at he
      subst he
      cases h2
      exact ⟨none, by simp [Instr.findKey, run_underlying hw, Instr.findNow], rfl⟩
    | cons x xs =>
      have hfn : Instr.findNow ds k' es' 0 = none := by
        simp only [ERel] at he
        obtain ⟨e', rest, rfl, hb, hkey, hval, hrest⟩ := he
        unfold findKey' at h2
        cases hcx : (keyT tab t).eq.run k x.key with
        | none => simp [hcx] at h2
        | some b =>
          have := (hq _ _ _ hkey hcx).2
          rw [hn] at this
          simp only [Bool.false_eq_true, if_false] at this
          simp [Instr.findNow, this]
      obtain ⟨r', h3, h4⟩ := findAsk_some (fun y y' r hy e => (hq y y' r hy e).1) he h2
      exact ⟨r', by simp [Instr.findKey, run_underlying hw, hfn, h3], h4⟩

end Go.Ac
end
section
namespace Go.Ac
variable {P : Program} {tab : Tab} {ρ : Rn} {w : World} (tok : TabOk P tab)

/-! ### bounds -/
def ORelV (ρ : Rn) : Option Value → Option Value → Prop
  | none, y => y = none
  | some v, y => ∃ v', y = some v' ∧ VRel ρ v v'

theorem sliceBound_ok {v v' : Value} (h : VRel ρ v v') {y d i : Nat} (hb : boundA y (some v) d = some i) (code : BoundsCode) {z : Nat} (hz : y ≤ z) :
    (Instr.sliceBound v' z code).run P w = .ok i w ∧ i ≤ y := by
  unfold boundA at hb
  simp only at hb
  cases hn : natOf v with
  | none => simp [hn] at hb
  | some j =>
    simp only [hn] at hb
    obtain ⟨h1, h2⟩ := cond_some hb
    cases h2
    have := of_ble h1
    obtain ⟨k, rfl⟩ := natOf_some hn
    obtain rfl := h.int
    refine ⟨?_, this⟩
    simp [Instr.sliceBound, asIntOf]
    intro h3
    omega

theorem boundA_none {y d i : Nat} (h : boundA y none d = some i) : i = d := by cases h; rfl

/-- the three bounds of a slice -/
theorem sliceBounds_ok {n c c' : Nat} {lo hi mx lo' hi' mx' : Option Value} (hl : ORelV ρ lo lo') (hh : ORelV ρ hi hi') (hm : ORelV ρ mx mx') (hmx : mx.isSome → hi.isSome) (hc : CapOk c c') (hn : n ≤ c / 2) {m h l : Nat}
    (e1 : capA c mx = some m) (e2 : boundA (m / 2) hi n = some h) (e3 : boundA h lo 0 = some l) (isS : Bool) :
    ∃ m', (Instr.sliceBounds isS n c' lo' hi' mx').run P w = .ok (l, h, m') w ∧ l ≤ h ∧ h ≤ m / 2 ∧ CapOk m m' ∧ (m % 2 = 1 → mx = none ∧ m = c ∧ m' = c') ∧ m' ≤ c' ∧ m / 2 ≤ c / 2 := by
  have hc2 : c / 2 ≤ c' := by rcases hc with ⟨_, rfl⟩ | ⟨_, h⟩ <;> omega
  have key : ∃ m', (∀ (hh : Unit), (match mx' with | some v => Instr.sliceBound v c' (if isS then .slice3Acap else .slice3Alen) | none => (pure c' : Sem Nat)).run P w = .ok m' w) ∧ CapOk m m' ∧ (m % 2 = 1 → mx = none ∧ m = c ∧ m' = c') ∧ m' ≤ c' ∧ m / 2 ≤ c / 2 := by
    cases mx with
    | none =>
      cases hm
      cases e1
      exact ⟨c', fun _ => rfl, hc, fun _ => ⟨rfl, rfl, rfl⟩, Nat.le_refl _, Nat.le_refl _⟩
    | some v =>
      obtain ⟨v', rfl, hv⟩ := hm
      unfold capA at e1
      simp only at e1
      cases hn : natOf v with
      | none => simp [hn] at e1
      | some j =>
        simp only [hn] at e1
        obtain ⟨h1, h2⟩ := cond_some e1
        cases h2
        have := of_ble h1
        obtain ⟨k, rfl⟩ := natOf_some hn
        obtain rfl := hv.int
        have hj : j ≤ c / 2 := this
        refine ⟨j, fun _ => ?_, .inl ⟨Nat.mul_mod_right 2 j, (Nat.mul_div_cancel_left j (by omega)).symm⟩, fun h => ?_, by omega, ?_⟩
        · cases isS <;> simp [Instr.sliceBound, asIntOf] <;> (intro h3; omega)
        · have := Nat.mul_mod_right 2 j
          have h : Nat.mul 2 j % 2 = 1 := h
          have : (2 * j) % 2 = 0 := Nat.mul_mod_right 2 j
          exact absurd (h.symm.trans this) (by decide)
        · show 2 * j / 2 ≤ c / 2
          omega
  obtain ⟨m', k1, k2, k3, k4, k5⟩ := key
  have hm2 : m / 2 ≤ m' := by rcases k2 with ⟨_, rfl⟩ | ⟨_, h⟩ <;> omega
  have hhi : h ≤ m / 2 := by
    cases hi with
    | none =>
      have := boundA_none e2
      cases mx with
      | none => cases e1; omega
      | some v => exact absurd (hmx rfl) (by simp)
    | some v =>
      have e2' := e2
      unfold boundA at e2
      simp only at e2
      cases hn : natOf v with
      | none => simp [hn] at e2
      | some j => simp only [hn] at e2; obtain ⟨h1, h2⟩ := cond_some e2; cases h2; exact of_ble h1
  have hlo : l ≤ h := by
    cases lo with
    | none => have := boundA_none e3; omega
    | some v =>
      unfold boundA at e3
      simp only at e3
      cases hn : natOf v with
      | none => simp [hn] at e3
      | some j => simp only [hn] at e3; obtain ⟨h1, h2⟩ := cond_some e3; cases h2; exact of_ble h1
  refine ⟨m', ?_, hlo, hhi, k2, k3, k4, k5⟩
  have k1 := k1 ()
  have hlow : ∀ code, (match lo' with | some v => Instr.sliceBound v h code | none => (pure 0 : Sem Nat)).run P w = .ok l w := by
    intro code
    cases lo with
    | none => cases hl; have := boundA_none e3; subst this; rfl
    | some v => obtain ⟨v', rfl, hv⟩ := hl; exact (sliceBound_ok hv e3 code (Nat.le_refl _)).1
  cases mx with
  | none =>
    cases hm
    cases hi with
    | none =>
      cases hh
      have := boundA_none e2
      subst this
      simp only [Instr.sliceBounds, Sem.run_bind, k1, Result.andThen_ok, Sem.run_pure]
      have := hlow .sliceB
      cases hl' : lo' <;> simp_all
    | some v =>
      obtain ⟨v', rfl, hv⟩ := hh
      have h1 := fun code => (sliceBound_ok (P := P) (w := w) hv e2 code hm2).1
      have := hlow .sliceB
      cases hl' : lo' <;> simp_all [Instr.sliceBounds]
  | some v =>
    obtain ⟨v', rfl, hv⟩ := hm
    cases hi with
    | none => exact absurd (hmx rfl) (by simp)
    | some u =>
      obtain ⟨u', rfl, hu⟩ := hh
      have h1 := fun code => (sliceBound_ok (P := P) (w := w) hu e2 code hm2).1
      have := hlow .slice3C
      simp only at k1
      cases hl' : lo' <;> simp_all [Instr.sliceBounds]

/-- what a slice of a slice is -/
theorem sliceA_some {size : Nat} {b : Option Addr} {n c : Nat} {lo hi mx : Option Value} {v : Value} (h : sliceA size b n c lo hi mx = some v) :
    ∃ m h l, capA c mx = some m ∧ boundA (m / 2) hi n = some h ∧ boundA h lo 0 = some l ∧ v = .slice (b.map fun ad => ⟨ad.block, ad.off + l * size, none⟩) (h - l) (m - 2 * l) := by
  unfold sliceA at h
  cases h1 : capA c mx with
  | none => simp [h1] at h
  | some m =>
    simp only [h1] at h
    cases h2 : boundA (Nat.div m 2) hi n with
    | none => simp [h2] at h
    | some hh =>
      simp only [h2] at h
      cases h3 : boundA hh lo 0 with
      | none => simp [h3] at h
      | some l =>
        simp only [h3] at h
        cases h
        exact ⟨m, hh, l, rfl, h2, h3, by cases b <;> rfl⟩

theorem capOk_sub {m m' l : Nat} (h : CapOk m m') (hl : l ≤ m / 2) : CapOk (m - 2 * l) (m' - l) := by
  rcases h with ⟨h1, rfl⟩ | ⟨h1, h2⟩
  · exact .inl ⟨by omega, by omega⟩
  · exact .inr ⟨by omega, by omega⟩

include tok in
theorem slice_ok {C : Cx} {s : S} (hC : C.ts = tab.size) (hr : HRel C ρ s w) {t e size : Nat} (hd : tab.desc t = some (.slice e)) (hs : tab.size e = some size) {x x' v : Value} (hx : VRel ρ x x') {lo hi mx lo' hi' mx' : Option Value} (hl : ORelV ρ lo lo') (hh : ORelV ρ hi hi') (hm : ORelV ρ mx mx')
    (hmx : mx.isSome → hi.isSome) (h : vSlice e size s x lo hi mx = some v) : ∃ v', (Instr.sliceAt t x' lo' hi' mx').run P w = .ok v' w ∧ VRel ρ v v' := by
  unfold vSlice at h
  split at h
  · rename_i b n c
    obtain ⟨hcut, h⟩ := cond_some h
    obtain ⟨m, hh', l, e1, e2, e3, rfl⟩ := sliceA_some h
    have hat : ∀ y, Instr.sliceAt t y lo' hi' mx' = ((underlying t).bind fun d => match d with
      | .array n elem => (do
        let a ← Instr.sureAddr y
        let (l, h, m) ← Instr.sliceBounds false n n lo' hi' mx'
        let size ← sizeOf elem
        pure (.slice (some (if m = l then a else a.add (l * size))) (h - l) (m - l)))
      | _ => Instr.slice t y lo' hi' mx') := fun y => rfl
    cases b with
    | none =>
      simp only [VRel] at hx
      obtain ⟨rfl, rfl, rfl⟩ := hx
      obtain ⟨m', k1, k2, k3, k4, k5, k6, k7⟩ := sliceBounds_ok (P := P) (w := w) hl hh hm hmx (.inl ⟨rfl, rfl⟩ : CapOk 0 0) (by omega) e1 e2 e3 true
      have k8 : m / 2 = 0 := by omega
      have k9 : m' = 0 := by omega
      have k10 : m = 0 := by
        rcases k4 with ⟨_, _⟩ | ⟨h1, _⟩
        · omega
        · have := (k5 h1).2.1; omega
      subst k9; subst k10
      have : hh' = 0 := by omega
      subst this
      have : l = 0 := by omega
      subst this
      refine ⟨.slice none 0 0, ?_, by simp [VRel]⟩
      rw [hat, Sem.run_bind', tok.run_underlying hd]
      simp only [Result.andThen_ok]
      simp [Instr.slice, tok.run_underlying hd, k1, tok.run_size hs]
    | some ad =>
      simp only [VRel] at hx
      obtain ⟨rb, a', c', hrb, ⟨hc, hn, ha, hroom⟩, rfl⟩ := hx
      obtain ⟨m', k1, k2, k3, k4, k5, k6, k7⟩ := sliceBounds_ok (P := P) (w := w) hl hh hm hmx hc hn e1 e2 e3 true
      refine ⟨.slice (some (if m' = l then a' else a'.add (l * size))) (hh' - l) (m' - l), ?_, ?_⟩
      · rw [hat, Sem.run_bind', tok.run_underlying hd]
        simp only [Result.andThen_ok]
        simp only [Instr.slice, Sem.run_bind, tok.run_underlying hd, Result.andThen_ok, k1, tok.run_size hs, Sem.run_pure]
        split <;> rfl
      · show VRel ρ (.slice (some ⟨ad.block, ad.off + l * size, none⟩) (hh' - l) (m - 2 * l)) _
        simp only [VRel]
        refine ⟨rb, _, _, hrb, ⟨capOk_sub k4 (by omega), by omega, ?_, ?_⟩, rfl⟩
        · by_cases h1 : m' = l
          · left; omega
          · right
            rw [if_neg h1]
            have hm' : l ≤ m' := by rcases k4 with ⟨_, rfl⟩ | ⟨_, h⟩ <;> omega
            have : c' ≠ 0 := by omega
            rw [ha.resolve_left this]
            simp [Addr.add, Nat.add_assoc]
        · intro hodd
          have hmo : m % 2 = 1 := by omega
          obtain ⟨hm1, hm2, hm3⟩ := k5 hmo
          subst hm2; subst hm3
          have hroom := hroom hmo
          cases lo with
          | none =>
            have := boundA_none e3
            subst this
            simpa using hroom
          | some lv =>
            have : rb.esz = size := by
              subst hm1
              unfold mayCut at hcut
              have : Nat.beq (Nat.mod m 2) 0 = false := beqF (by show m % 2 ≠ 0; omega)
              rw [this] at hcut
              simp only [cond_false] at hcut
              cases hg : s.get ad.block with
              | none => simp [hg] at hcut
              | some o =>
                cases o with
                | cells c sz e' =>
                  simp only [hg] at hcut
                  obtain ⟨rb', cs, e'', fr, q1, q2, q3, q4, q5, q6, q7, q8, q9⟩ := hr.cells hg
                  rw [hrb] at q1; cases q1
                  rw [of_beq hcut, hC, hs] at q6
                  exact (Option.some.inj q6).symm
                | _ => simp [hg] at hcut
            rw [this] at hroom ⊢
            have : l ≤ m' := by rcases hc with ⟨_, rfl⟩ | ⟨_, h⟩ <;> omega
            have e : (m' - l) * size + l * size = m' * size := by rw [← Nat.add_mul]; congr 1; omega
            omega
  · cases h

end Go.Ac
end
section
namespace Go.Ac
variable {P : Program} {tab : Tab} {ρ : Rn} {w : World} (tok : TabOk P tab)

/-! ### more slices -/
include tok in
theorem sliceArr_ok {t e n size : Nat} (hd : tab.desc t = some (.array n e)) (hs : tab.size e = some size) {x x' v : Value} (hx : VRel ρ x x') {lo hi mx lo' hi' mx' : Option Value} (hl : ORelV ρ lo lo') (hh : ORelV ρ hi hi') (hm : ORelV ρ mx mx')
    (hmx : mx.isSome → hi.isSome) (h : vSliceArr n size x lo hi mx = some v) : ∃ v', (Instr.sliceAt t x' lo' hi' mx').run P w = .ok v' w ∧ VRel ρ v v' := by
  unfold vSliceArr at h
  split at h
  · rename_i ad
    obtain ⟨m, hh', l, e1, e2, e3, rfl⟩ := sliceA_some h
    obtain ⟨rb, hrb, rfl⟩ := hx.ptr
    have h2n : Nat.mul 2 n / 2 = n := by show 2 * n / 2 = n; omega
    have h2m : Nat.mul 2 n % 2 = 0 := by show 2 * n % 2 = 0; omega
    obtain ⟨m', k1, k2, k3, k4, k5, k6, k7⟩ := sliceBounds_ok (P := P) (w := w) hl hh hm hmx (.inl ⟨h2m, h2n.symm⟩ : CapOk (Nat.mul 2 n) n) (by omega) e1 e2 e3 false
    refine ⟨.slice (some (if m' = l then ⟨rb.blk, rb.base + ad.off, none⟩ else (⟨rb.blk, rb.base + ad.off, none⟩ : Addr).add (l * size))) (hh' - l) (m' - l), ?_, ?_⟩
    · simp [Instr.sliceAt, tok.run_underlying hd, Instr.sureAddr, k1, tok.run_size hs]
    · show VRel ρ (.slice (some ⟨ad.block, ad.off + l * size, none⟩) (hh' - l) (m - 2 * l)) _
      simp only [VRel]
      refine ⟨rb, _, _, hrb, ⟨capOk_sub k4 (by omega), by omega, ?_, ?_⟩, rfl⟩
      · by_cases h1 : m' = l
        · left; omega
        · right
          rw [if_neg h1]
          simp [Addr.add, Nat.add_assoc]
      · intro hodd
        have hmo : m % 2 = 1 := by omega
        have := (k5 hmo).2.1
        omega
  · cases h

theorem takeB_eq : ∀ (n : Nat) (l : List UInt8), takeB n l = l.take n
  | 0, l => by simp; rfl
  | n + 1, [] => rfl
  | n + 1, x :: l => by
    show x :: takeB n l = _
    rw [takeB_eq n l]; rfl
theorem dropB_eq : ∀ (n : Nat) (l : List UInt8), dropB n l = l.drop n
  | 0, l => rfl
  | n + 1, [] => rfl
  | n + 1, x :: l => by
    show dropB n l = _
    rw [dropB_eq n l]; rfl

include tok in
theorem sliceStr_ok {t : Nat} (hd : tab.desc t = some .string) {x x' v : Value} (hx : VRel ρ x x') {lo hi lo' hi' : Option Value} (hl : ORelV ρ lo lo') (hh : ORelV ρ hi hi')
    (h : vSliceStr x lo hi = some v) : ∃ v', (Instr.sliceAt t x' lo' hi' none).run P w = .ok v' w ∧ VRel ρ v v' := by
  unfold vSliceStr at h
  split at h
  · rename_i b
    obtain rfl := hx.str
    unfold sliceS at h
    rw [lenB_eq] at h
    have hbl : b.data.toList.length = b.size := rfl
    rw [hbl] at h
    cases h2 : boundA b.size hi b.size with
    | none => simp [h2] at h
    | some hb =>
      simp only [h2] at h
      cases h3 : boundA hb lo 0 with
      | none => simp [h3] at h
      | some l =>
        simp only [h3] at h
        cases h
        obtain ⟨m', k1, k2, k3, k4, k5, k6, k7⟩ := sliceBounds_ok (P := P) (w := w) (n := b.size) (mx := none) (mx' := none) hl hh rfl (by simp) (.inl ⟨by omega, by omega⟩ : CapOk (2 * b.size) b.size) (by omega) (rfl : capA (2 * b.size) none = some (2 * b.size)) (by rw [show 2 * b.size / 2 = b.size by omega]; exact h2) h3 false
        refine ⟨.string (b.extract l hb), ?_, ?_⟩
        · simp [Instr.sliceAt, tok.run_underlying hd, Instr.slice, k1]
        · have : (⟨⟨takeB (Nat.sub hb l) (dropB l b.data.toList)⟩⟩ : ByteArray) = b.extract l hb := by
            rw [takeB_eq, dropB_eq]
            apply ByteArray.ext
            rw [ByteArray.data_extract]
            apply Array.ext'
            simp [Array.toList_extract]
          rw [this]
          exact VRel.mkStr _
  · cases h

include tok in
theorem arrPtr_ok {t n e : Nat} (hd : tab.desc t = some (.array n e)) {x x' v : Value} (hx : VRel ρ x x') (h : vArrPtr n x = some v) : ∃ v', (Instr.arrayAt t x').run P w = .ok v' w ∧ VRel ρ v v' := by
  unfold vArrPtr at h
  split at h
  · rename_i ad len c
    obtain ⟨h1, h2⟩ := cond_some h
    cases h2
    simp only [Bool.and_eq_true] at h1
    have h3 := of_ble h1.1
    have h4 := of_ble h1.2
    simp only [VRel] at hx
    obtain ⟨rb, a', c', hrb, ⟨hc, hn, ha, hroom⟩, rfl⟩ := hx
    have : c' ≠ 0 := by rcases hc with ⟨_, rfl⟩ | ⟨_, h⟩ <;> omega
    obtain rfl := ha.resolve_left this
    refine ⟨.pointer (some ⟨rb.blk, rb.base + ad.off, none⟩), ?_, VRel.mkPtr hrb⟩
    simp [Instr.arrayAt, tok.run_underlying hd]
    intro hlt
    omega
  · cases h

/-! ### building -/
def PRel (ρ : Rn) : List (Nat × Value) → List (Nat × Value) → Prop
  | [], m => m = []
  | (i, v) :: l, m => ∃ v' r, m = (i, v') :: r ∧ VRel ρ v v' ∧ PRel ρ l r

theorem fold_put (vs : List Value) : ∀ (cs : Array Value) (off k : Nat), (vs.zipIdx k).foldl (fun cs (x : Value × Nat) => cs.setIfInBounds (off + x.2) x.1) cs = putL cs (off + k) vs := by
  induction vs with
  | nil => intro cs off k; rfl
  | cons v vs ih =>
    intro cs off k
    rw [List.zipIdx_cons, List.foldl_cons, ih]
    simp [putL, Nat.add_assoc]

theorem fill_ok {place : Place} {pl : Nat → Option (Nat × Nat)} (hp : ∀ i p, place.at_ i = some p → pl i = some p) : ∀ {l m : List (Nat × Value)}, PRel ρ l m → ∀ {cells : List Value} {cells' : Array Value} {r : List Value}, LRel ρ cells cells'.toList → (∀ x ∈ cells, x.oneCell = true) →
    fillL place l cells = some r → ∃ r', Instr.fill pl cells' m = some r' ∧ LRel ρ r r'.toList ∧ (∀ x ∈ r, x.oneCell = true) ∧ r'.size = cells'.size
  | [], m, hlm, cells, cells', r, hc, ho, h => by
    simp only [PRel] at hlm
    subst hlm
    cases h
    exact ⟨cells', rfl, hc, ho, rfl⟩
  | (i, v) :: l, m, hlm, cells, cells', r, hc, ho, h => by
    simp only [PRel] at hlm
    obtain ⟨v', m', rfl, hv, hl⟩ := hlm
    unfold fillL at h
    obtain ⟨p, h1, h2⟩ := onOpt_some h
    obtain ⟨c, h3, h4⟩ := onOpt_some h2
    obtain ⟨h5, h6⟩ := cond_some h4
    obtain ⟨cells₁, h7, h8⟩ := onOpt_some h6
    have hsz := of_beq h5
    rw [lenL_eq] at hsz
    obtain ⟨hcv, hco⟩ := hv.cells h3
    obtain ⟨rfl, hle⟩ := writeL_some h7
    have hlen := hcv.length
    have hcl := hc.length
    have hvs : v'.cells.toList.length = v'.cells.size := rfl
    have hcs : cells'.toList.length = cells'.size := rfl
    have hput : (v'.cells.zipIdx.foldl (fun cs (x : Value × Nat) => cs.setIfInBounds (p.1 + x.2) x.1) cells') = putL cells' p.1 v'.cells.toList := by
      rw [← Array.foldl_toList, Array.toList_zipIdx]
      exact fold_put v'.cells.toList cells' p.1 0
    have hrel : LRel ρ (cells.take p.1 ++ c ++ cells.drop (p.1 + c.length)) (putL cells' p.1 v'.cells.toList).toList := by
      refine LRel.of_get ?_ ?_
      · have : (putL cells' p.1 v'.cells.toList).toList.length = cells'.size := putL_size _ _ _
        rw [this]; simp; omega
      · intro j u hj
        rw [Array.getElem?_toList, putL_get _ _ _ _ (by omega)]
        by_cases hin : p.1 ≤ j ∧ j < p.1 + v'.cells.toList.length
        · rw [if_pos hin]
          rw [List.append_assoc, List.getElem?_append_right (by simp; omega), List.getElem?_append_left (by simp; omega)] at hj
          obtain ⟨u', q1, q2⟩ := hcv.get _ hj
          refine ⟨u', ?_, q2⟩
          rw [← q1]
          congr 1
          simp; omega
        · rw [if_neg hin]
          have : cells[j]? = some u := by
            by_cases hlo : j < p.1
            · rw [List.append_assoc, List.getElem?_append_left (by simp; omega), List.getElem?_take, if_pos hlo] at hj
              exact hj
            · rw [List.getElem?_append_right (by simp; omega), List.getElem?_drop] at hj
              rw [← hj]
              congr 1
              simp; omega
          obtain ⟨u', q1, q2⟩ := hc.get _ this
          rw [Array.getElem?_toList] at q1
          exact ⟨u', q1, q2⟩
    have hone : ∀ x ∈ cells.take p.1 ++ c ++ cells.drop (p.1 + c.length), x.oneCell = true := by
      intro x hx
      rcases List.mem_append.1 hx with hx | hx
      · rcases List.mem_append.1 hx with hx | hx
        · exact ho x (List.mem_of_mem_take hx)
        · exact hco x hx
      · exact ho x (List.mem_of_mem_drop hx)
    obtain ⟨r', k1, k2, k3, k4⟩ := fill_ok hp hl hrel hone h8
    refine ⟨r', ?_, k2, k3, by rw [k4, putL_size]⟩
    obtain ⟨off, size⟩ := p
    unfold Instr.fill
    rw [hp _ _ h1]
    simp only
    rw [if_neg (by simp; simp at hsz hle; omega)]
    rw [← k1, ← hput]

theorem placesS_some {P₀ : Program} (tok : TabOk P₀ tab) (w : World) : ∀ {fs : List Field} {l : List (Nat × Nat)}, placesS tab fs = some l → (fs.mapM fun f => (do pure (f.offset, ← sizeOf f.type) : Sem (Nat × Nat))).run P₀ w = .ok l w
  | [], l, h => by cases h; rfl
  | f :: fs, l, h => by
    unfold placesS at h
    cases h1 : tab.size f.type with
    | none => simp [h1] at h
    | some n =>
      simp only [h1] at h
      cases h2 : placesS tab fs with
      | none => simp [h2] at h
      | some r =>
        simp only [h2] at h
        cases h
        have := placesS_some tok w h2
        simp only [List.mapM_cons, Sem.run_bind, tok.run_size h1, Result.andThen_ok, Sem.run_pure] at this ⊢
        simp only [this, Result.andThen_ok]

theorem nthP_eq : ∀ (l : List (Nat × Nat)) (i : Nat), nthP l i = l[i]?
  | [], i => by simp [nthP]
  | p :: l, 0 => rfl
  | p :: l, i + 1 => by simp [nthP, nthP_eq l i]

theorem vBuild_some {o : Option (List Value)} {v : Value} (h : vBuild o = some v) : ∃ l, o = some l ∧ v = mkAgg l := by
  unfold vBuild at h
  cases o with
  | none => cases h
  | some l => exact ⟨l, rfl, (Option.some.inj h).symm⟩

/-- every zero value is one that both worlds have -/
def ZerosOk (tab : Tab) : Prop := ∀ t z, tab.zero t = some z → vOk z = true ∧ ∀ n, tab.size t = some n → z.cells.size = n

theorem vOk_agg {z : Array Value} (h : vOk (.agg z) = true) (ρ : Rn) : LRel ρ z.toList z.toList ∧ ∀ x ∈ z.toList, x.oneCell = true := by
  obtain ⟨ds, h1, h2, h3⟩ := (vOk_rel ρ _ h).agg
  cases h1
  exact ⟨h2, h3⟩

include tok in
theorem build_ok (hz : ZerosOk tab) {t : Nat} {fs : Array Field} {z : Array Value} {pl : List (Nat × Nat)} (hd : tab.desc t = some (.struct fs)) (h0 : tab.zero t = some (.agg z)) (hpl : placesS tab fs.toList = some pl)
    {l m : List (Nat × Value)} (hlm : PRel ρ l m) {v : Value} (h : vBuild (fillL ⟨nthP pl⟩ l z.toList) = some v) : ∃ v', (Instr.build t m.toArray).run P w = .ok v' w ∧ VRel ρ v v' := by
  obtain ⟨r, h1, rfl⟩ := vBuild_some h
  obtain ⟨hz1, hz2⟩ := vOk_agg (hz _ _ h0).1 ρ
  obtain ⟨r', k1, k2, k3, k4⟩ := fill_ok (pl := fun i => pl.toArray[i]?) (fun i p hp => by have hp : nthP pl i = some p := hp; rw [nthP_eq] at hp; simpa using hp) hlm hz1 hz2 h1
  refine ⟨.agg r', ?_, VRel.mkAgg k2 k3⟩
  have hm : (fs.mapM fun f => (do pure (f.offset, ← sizeOf f.type) : Sem (Nat × Nat))).run P w = .ok pl.toArray w := by
    rw [Array.mapM_eq_mapM_toList, Sem.run_map, placesS_some tok w hpl]
    rfl
  simp only [Instr.build, Sem.run_bind, tok.run_zero h0, Result.andThen_ok, tok.run_underlying hd, hm]
  have : Instr.fill (fun x => pl.toArray[x]?) (Value.agg z).cells m.toArray.toList = some r' := k1
  simp only [this]
  rfl

include tok in
theorem buildArr_ok (hz : ZerosOk tab) {t n e size : Nat} {z : Array Value} (hd : tab.desc t = some (.array n e)) (h0 : tab.zero t = some (.agg z)) (hs : tab.size e = some size)
    {l m : List (Nat × Value)} (hlm : PRel ρ l m) {v : Value} (h : vBuild (fillL (rowPlace size) l z.toList) = some v) : ∃ v', (Instr.build t m.toArray).run P w = .ok v' w ∧ VRel ρ v v' := by
  obtain ⟨r, h1, rfl⟩ := vBuild_some h
  obtain ⟨hz1, hz2⟩ := vOk_agg (hz _ _ h0).1 ρ
  obtain ⟨r', k1, k2, k3, k4⟩ := fill_ok (pl := fun i => some (i * size, size)) (fun i p hp => hp) hlm hz1 hz2 h1
  refine ⟨.agg r', ?_, VRel.mkAgg k2 k3⟩
  simp only [Instr.build, Sem.run_bind, tok.run_zero h0, Result.andThen_ok, tok.run_underlying hd, tok.run_size hs]
  have : Instr.fill (fun i => some (i * size, size)) (Value.agg z).cells m.toArray.toList = some r' := k1
  simp only [this]
  rfl

end Go.Ac
end
section
namespace Go.Ac
variable {P : Program} {tab : Tab} {ρ : Rn} {w : World} (tok : TabOk P tab)

/-! ### the rest of what needs no memory -/
theorem pick_ok {c x y c' x' y' v : Value} (hc : VRel ρ c c') (hx : VRel ρ x x') (hy : VRel ρ y y') (h : vPick c x y = some v) : ∃ v', ((asBool c').bind fun b => .pure (if b then x' else y')).run P w = .ok v' w ∧ VRel ρ v v' := by
  obtain ⟨b, h1, h2⟩ := onOpt_some h
  obtain rfl := vB_some h1
  obtain rfl := hc.bool
  cases h2
  cases b
  · exact ⟨y', rfl, hy⟩
  · exact ⟨x', rfl, hx⟩

include tok in
theorem convInt_ok {src dst : Nat} {k k₀ : IntKind} (hs : tab.desc src = some (.int k₀)) (hd : tab.desc dst = some (.int k)) {x x' v : Value} (hx : VRel ρ x x') (h : vConvInt k x = some v) : ∃ v', (convert src dst x').run P w = .ok v' w ∧ VRel ρ v v' := by
  obtain ⟨h1, h2⟩ := cond_some h
  obtain ⟨j, hj, _⟩ := vK_le (of_ble h1)
  rw [hj] at hx
  obtain rfl := hx.int
  cases h2
  refine ⟨_, ?_, VRel.mkInt _ _⟩
  simp [convert, tok.run_underlying hs, tok.run_underlying hd, Conv.intToInt, wrapI_eq]

include tok in
theorem convRune_ok {src dst : Nat} {k₀ : IntKind} (hs : tab.desc src = some (.int k₀)) (hd : tab.desc dst = some .string) {x x' v : Value} (hx : VRel ρ x x') (h : vConvRune x = some v) : ∃ v', (convert src dst x').run P w = .ok v' w ∧ VRel ρ v v' := by
  unfold vConvRune at h
  split at h
  · cases h
    obtain rfl := hx.int
    refine ⟨_, ?_, VRel.mkStr _⟩
    simp [convert, tok.run_underlying hs, tok.run_underlying hd, Conv.intToString]
  · cases h

include tok in
theorem convStr_ok {src dst : Nat} (hs : tab.desc src = some .string) (hd : tab.desc dst = some .string) {x x' v : Value} (hx : VRel ρ x x') (h : vConvStr x = some v) : ∃ v', (convert src dst x').run P w = .ok v' w ∧ VRel ρ v v' := by
  unfold vConvStr at h
  split at h
  · cases h
    obtain rfl := hx.str
    refine ⟨_, ?_, VRel.mkStr _⟩
    simp [convert, tok.run_underlying hs, tok.run_underlying hd]
  · cases h

theorem ofPure_rel {e : Sem Value} {v : Value} (h : ofPure e = some v) : e.run P w = .ok v w := by
  rw [ofPure_some h]; rfl

theorem unary_ok {op : UnOp} {x x' v : Value} (hx : VRel ρ x x') (h : ofPure (Op.unary op x) = some v) : ∃ v', (Op.unary op x').run P w = .ok v' w ∧ VRel ρ v v' := by
  have he := ofPure_some h
  cases x with
  | int k n =>
    obtain rfl := hx.int
    refine ⟨v, ofPure_rel h, ?_⟩
    cases op
    all_goals simp only [Op.unary, Op.intArith, Op.intBits] at he
    all_goals first | (cases he; simp [VRel]) | (cases he)
  | bool b =>
    obtain rfl := hx.bool
    refine ⟨v, ofPure_rel h, ?_⟩
    cases op
    all_goals simp only [Op.unary] at he
    all_goals first | (cases he; simp [VRel]) | (cases he)
  | float k n =>
    simp only [VRel] at hx
    subst hx
    refine ⟨v, ofPure_rel h, ?_⟩
    cases op
    all_goals simp only [Op.unary] at he
    all_goals first | (cases he; simp [VRel]) | (cases he)
  | complex k m n =>
    simp only [VRel] at hx
    subst hx
    refine ⟨v, ofPure_rel h, ?_⟩
    cases op
    all_goals simp only [Op.unary] at he
    all_goals first | (cases he; simp [VRel]) | (cases he)
  | pointer p => cases p <;> cases op <;> cases he
  | _ => cases op <;> cases he

/-- the check that a value is not nil -/
theorem nilCheck_ok {x x' v : Value} (hx : VRel ρ x x') (h : vNilCheck x = some v) (o : Oper) (f : Operand → Value) (y : Operand) (ho : o.op = .nilCheck y) (hf : f y = x') : ∃ v', (execOp f o).run P w = .ok (.value v') w ∧ VRel ρ v v' := by
  refine ⟨x', ?_, ?_⟩
  · unfold execOp
    rw [ho]
    simp only [hf]
    unfold vNilCheck at h
    split at h
    · obtain ⟨rb, _, rfl⟩ := hx.ptr; rfl
    · simp only [VRel] at hx; obtain ⟨z, rfl, _⟩ := hx; rfl
    · simp only [VRel] at hx
      obtain ⟨f', a', b', rfl, hfn, _⟩ := hx
      have : f' = .func _ := hfn
      subst this; rfl
    · simp only [VRel] at hx
      obtain ⟨f', a', b', rfl, ⟨rb, _, rfl⟩, _⟩ := hx
      rfl
    · simp only [VRel] at hx
      obtain ⟨f', a', b', rfl, hfn, _⟩ := hx
      have : f' = .via _ _ _ _ := hfn
      subst this; rfl
    · rename_i a n c
      cases a with
      | none => simp only [VRel] at hx; obtain ⟨_, _, rfl⟩ := hx; rfl
      | some a => simp only [VRel] at hx; obtain ⟨_, _, _, _, _, rfl⟩ := hx; rfl
    · rename_i r
      cases r with
      | none => simp only [VRel] at hx; subst hx; rfl
      | some r => simp only [VRel] at hx; obtain ⟨_, _, rfl⟩ := hx; rfl
    · cases h
  · unfold vNilCheck at h
    split at h <;> cases h <;> exact hx

include tok in
theorem makeIface_ok {t : Nat} {d : TypeDesc} (hd : tab.desc t = some d) (hi : ∀ ms, d ≠ .interface ms) {x x' : Value} (hx : VRel ρ x x') : (Instr.makeInterface t x').run P w = .ok (.iface t x') w ∧ VRel ρ (.iface t x) (.iface t x') := by
  constructor
  · simp only [Instr.makeInterface, Sem.run_bind, tok.run_underlying hd, Result.andThen_ok]
    cases d <;> first | rfl | exact absurd rfl (hi _)
  · simp only [VRel]; exact ⟨x', rfl, hx⟩

theorem LRel.toA {l m : List Value} (h : LRel ρ l m) : ARel ρ ⟨l⟩ ⟨m⟩ := by rw [ARel_iff]; exact h

/-- a function value that an operand's list makes; the function is no round of a loop -/
def fnOk : Fn → Bool
  | .yield _ => false
  | _ => true

theorem makeFunc_rel {fn : Fn} (hf : fnOk fn = true) {a b a' b' : List Value} (ha : LRel ρ a a') (hb : LRel ρ b b') : VRel ρ (.func fn ⟨a⟩ ⟨b⟩) (.func fn ⟨a'⟩ ⟨b'⟩) := by
  simp only [VRel]
  refine ⟨fn, _, _, rfl, ?_, ha.toA, hb.toA⟩
  cases fn <;> first | rfl | cases hf

theorem extract_ok {i : Nat} {x x' v : Value} (hx : VRel ρ x x') (h : vExtract i x = some v) : ∃ v', (Instr.extract x' i).run P w = .ok v' w ∧ VRel ρ v v' := by
  obtain ⟨vs, h1, h2⟩ := onOpt_some h
  obtain rfl := vT_some h1
  obtain ⟨ds, rfl, hl⟩ := hx.tup
  rw [nthL_eq] at h2
  obtain ⟨v', h3, h4⟩ := hl.get _ h2
  rw [Array.getElem?_toList] at h3
  exact ⟨v', by simp [Instr.extract, h3], h4⟩

theorem VRel.mkPair {v v' : Value} (h : VRel ρ v v') (b : Bool) : VRel ρ (.tuple #[v, .bool b]) (.tuple #[v', .bool b]) := by
  simp only [VRel, ARel_iff, LRel]
  exact ⟨_, rfl, v', _, rfl, h, .bool b, [], rfl, rfl, rfl⟩

include tok in
theorem assert_ok (hz : ZerosOk tab) {t xt : Nat} {d : TypeDesc} {z : Value} (hd : tab.desc t = some d) (hi : ∀ ms, d ≠ .interface ms) (h0 : tab.zero t = some z) {ok : Bool} {x x' v : Value} (hx : VRel ρ x x') (h : vAssert t z ok x = some v) :
    ∃ v', (Instr.typeAssert x' xt t ok).run P w = .ok v' w ∧ VRel ρ v v' := by
  have hzr := vOk_rel ρ z (hz _ _ h0).1
  unfold vAssert at h
  split at h
  · rename_i u y
    simp only [VRel] at hx
    obtain ⟨y', rfl, hy⟩ := hx
    cases hb : Nat.beq u t with
    | true =>
      rw [hb] at h
      have hut := of_beq hb
      subst hut
      have h := Option.some.inj h
      subst h
      refine ⟨if ok then .tuple #[y', .bool true] else y', ?_, ?_⟩
      · simp only [Instr.typeAssert, Sem.run_bind, tok.run_underlying hd, Result.andThen_ok]
        cases d <;> first | exact absurd rfl (hi _) | simp
      · cases ok
        · exact hy
        · exact hy.mkPair true
    | false =>
      rw [hb] at h
      cases ok with
      | false => cases h
      | true =>
        cases h
        have hne : u ≠ t := fun e => by rw [beqT e] at hb; cases hb
        refine ⟨.tuple #[z, .bool false], ?_, hzr.mkPair false⟩
        simp only [Instr.typeAssert, Sem.run_bind, tok.run_underlying hd, Result.andThen_ok]
        cases d <;> first | exact absurd rfl (hi _) | simp [hne, tok.run_zero h0]
  · cases ok with
    | false => cases h
    | true =>
      cases h
      simp only [VRel] at hx
      subst hx
      refine ⟨.tuple #[z, .bool false], ?_, hzr.mkPair false⟩
      simp only [Instr.typeAssert, Sem.run_bind, tok.run_underlying hd, Result.andThen_ok]
      cases d <;> first | exact absurd rfl (hi _) | simp [tok.run_zero h0]
  · cases h

/-! ### built-ins without memory -/
include tok in
theorem lenStr_ok {t T : Nat} (rest : List TypeId) (hd : tab.desc t = some .string) {x x' v : Value} (hx : VRel ρ x x') (h : vLenStr x = some v) :
    ∃ v', (Builtin.len_ (t :: rest).toArray T #[x']).run P w = .ok v' w ∧ VRel ρ v v' := by
  obtain ⟨b, h1, h2⟩ := onOpt_some h
  obtain rfl := vS_some h1
  cases h2
  obtain rfl := hx.str
  refine ⟨goInt b.size, ?_, by rw [lenB_eq]; exact VRel.mkInt _ _⟩
  simp [Builtin.len_, tok.run_underlying hd]

include tok in
theorem len_ok {t T e : Nat} (rest : List TypeId) (hd : tab.desc t = some (.slice e)) {x x' v : Value} (hx : VRel ρ x x') (h : vLen x = some v) :
    ∃ v', (Builtin.len_ (t :: rest).toArray T #[x']).run P w = .ok v' w ∧ VRel ρ v v' := by
  obtain ⟨⟨a, n, c⟩, h1, h2⟩ := onOpt_some h
  obtain rfl := vSl_some h1
  cases h2
  have : ∃ a' c', x' = .slice a' n c' := by
    cases a with
    | none => simp only [VRel] at hx; obtain ⟨rfl, _, rfl⟩ := hx; exact ⟨_, _, rfl⟩
    | some a => simp only [VRel] at hx; obtain ⟨_, _, _, _, _, rfl⟩ := hx; exact ⟨_, _, rfl⟩
  obtain ⟨a', c', rfl⟩ := this
  refine ⟨goInt n, ?_, VRel.mkInt _ _⟩
  simp [Builtin.len_, tok.run_underlying hd]

include tok in
theorem lenArr_ok {t T n e : Nat} (rest : List TypeId) (hd : tab.desc t = some (.array n e)) (x' : Value) : (Builtin.len_ (t :: rest).toArray T #[x']).run P w = .ok (goInt n) w := by
  simp [Builtin.len_, tok.run_underlying hd]

include tok in
theorem cap_ok {t T e : Nat} (rest : List TypeId) (hd : tab.desc t = some (.slice e)) {x x' v : Value} (hx : VRel ρ x x') (h : vCap x = some v) :
    ∃ v', (Builtin.cap_ (t :: rest).toArray T #[x']).run P w = .ok v' w ∧ VRel ρ v v' := by
  unfold vCap at h
  split at h
  · rename_i a n c
    obtain ⟨h1, h2⟩ := cond_some h
    cases h2
    have he := of_beq h1
    have : ∃ a', x' = .slice a' n (c / 2) := by
      cases a with
      | none => simp only [VRel] at hx; obtain ⟨rfl, rfl, rfl⟩ := hx; exact ⟨_, rfl⟩
      | some a =>
        simp only [VRel] at hx
        obtain ⟨_, _, c', _, ⟨hc, _⟩, rfl⟩ := hx
        rcases hc with ⟨_, rfl⟩ | ⟨h3, _⟩
        · exact ⟨_, rfl⟩
        · have he : c % 2 = 0 := he
          omega
    obtain ⟨a', rfl⟩ := this
    refine ⟨goInt ((c / 2 : Nat)), ?_, VRel.mkInt _ _⟩
    simp [Builtin.cap_, tok.run_underlying hd]
  · cases h

theorem min_ok {ats : Array TypeId} {T : Nat} {x x' y y' v : Value} (hx : VRel ρ x x') (hy : VRel ρ y y') (h : vMin x y = some v) : ∃ v', (Builtin.min_ ats T #[x', y']).run P w = .ok v' w ∧ VRel ρ v v' := by
  unfold vMin at h
  split at h
  · rename_i m n
    cases h
    obtain rfl := hx.int
    obtain rfl := hy.int
    refine ⟨.int .i64 (if n < m then n else m), by simp [Builtin.min_, Builtin.min2], ?_⟩
    rw [ltI_eq]
    by_cases hlt : n < m <;> simp [hlt, VRel]
  · cases h
theorem max_ok {ats : Array TypeId} {T : Nat} {x x' y y' v : Value} (hx : VRel ρ x x') (hy : VRel ρ y y') (h : vMax x y = some v) : ∃ v', (Builtin.max_ ats T #[x', y']).run P w = .ok v' w ∧ VRel ρ v v' := by
  unfold vMax at h
  split at h
  · rename_i m n
    cases h
    obtain rfl := hx.int
    obtain rfl := hy.int
    refine ⟨.int .i64 (if m < n then n else m), by simp [Builtin.max_, Builtin.max2], ?_⟩
    rw [ltI_eq]
    by_cases hlt : m < n <;> simp [hlt, VRel]
  · cases h

theorem sliceData_ok {ats : Array TypeId} {T : Nat} {x x' v : Value} (hx : VRel ρ x x') (h : vSliceData x = some v) : ∃ v', (Builtin.unsafeSliceData_ ats T #[x']).run P w = .ok v' w ∧ VRel ρ v v' := by
  unfold vSliceData at h
  split at h
  · rename_i ad n c
    obtain ⟨h1, h2⟩ := cond_some h
    cases h2
    have := of_ble h1
    simp only [VRel] at hx
    obtain ⟨rb, a', c', hrb, ⟨hc, hn, ha, hroom⟩, rfl⟩ := hx
    have : c' ≠ 0 := by rcases hc with ⟨_, rfl⟩ | ⟨_, h⟩ <;> omega
    obtain rfl := ha.resolve_left this
    refine ⟨_, ?_, VRel.mkPtr hrb⟩
    show (if c' ≠ 0 then (pure (.pointer (some ⟨rb.blk, rb.base + ad.off, none⟩)) : Sem Value) else _).run P w = _
    rw [if_pos this]
    rfl
  · cases h

end Go.Ac
end
section
namespace Go.Ac
variable {P : Program} {tab : Tab} {C : Cx} {ρ : Rn} {s : S} {w : World} (tok : TabOk P tab)

/-! ### what reads memory -/
theorem run_getObj {r : Nat} {o : Obj} (h : w.heap[r]? = some o) (hc : ∀ c e f, o ≠ .cells c e f) : (getObj r).run P w = .ok o w := by
  show (Sem.getObj r .pure).run P w = _
  unfold Sem.run
  rw [h]
  cases o <;> first | rfl | exact absurd rfl (hc _ _ _)

theorem run_setObj {r : Nat} {o : Obj} (h : w.heap[r]? = some o) (hc : ∀ c e f, o ≠ .cells c e f) (o' : Obj) : (setObj r o').run P w = .ok () (World.setObj w r o') := by
  show (Sem.setObj r o' (.pure ())).run P w = _
  unfold Sem.run
  rw [h]
  cases o <;> first | rfl | exact absurd rfl (hc _ _ _)

/-- a map that is there -/
theorem map_there (hr : HRel C ρ s w) {r : Nat} {es : List AEntry} {c : Nat} (h : s.map r = some (es, c)) :
    ∃ rb es', ρ r = some rb ∧ s.get r = some (.map es c) ∧ w.heap[rb.blk]? = some (.map es' c) ∧ ERel ρ es es'.toList := by
  unfold S.map at h
  split at h
  · rename_i es₀ c₀ hg
    cases h
    obtain ⟨rb, h1, hN, o', h2, es', h3, h4⟩ := hr.live _ _ hg
    subst h3
    exact ⟨rb, es', h1, hg, h2, h4⟩
  · cases h

include tok in
theorem load1_ok (hr : HRel C ρ s w) {t : Nat} (ha : tab.agg t = some false) {x x' v : Value} (hx : VRel ρ x x') (h : vLoad1 s x = some v) : ∃ v', (Instr.loadAt t x').run P w = .ok v' w ∧ VRel ρ v v' := by
  obtain ⟨ad, h1, h2⟩ := onOpt_some h
  obtain rfl := vP_some h1
  obtain ⟨rb, hb, rfl⟩ := hx.ptr
  obtain ⟨rb', y, h3, h4, h5, h6⟩ := hr.read1 h2
  rw [hb] at h3; cases h3
  refine ⟨y, ?_, h4⟩
  have hl : (load ⟨rb.blk, rb.base + ad.off, none⟩).run P w = .ok y w := by
    show (Sem.load .plain _ .pure).run P w = _
    unfold Sem.run
    rw [h6]
    rfl
  simp only [Instr.loadAt, Instr.sureAddr, loadVar, Sem.run_bind, Sem.run_pure, Result.andThen_ok, tok.run_agg ha, Bool.false_eq_true, if_false, Sem.run_ite, hl]

include tok in
theorem loadN_ok (hr : HRel C ρ s w) {t n : Nat} (ha : tab.agg t = some true) (hn : tab.size t = some n) {x x' v : Value} (hx : VRel ρ x x') (h : vLoadN n s x = some v) : ∃ v', (Instr.loadAt t x').run P w = .ok v' w ∧ VRel ρ v v' := by
  obtain ⟨ad, h1, h2⟩ := onOpt_some h
  obtain rfl := vP_some h1
  obtain ⟨rb, hb, rfl⟩ := hx.ptr
  obtain ⟨l, h3, rfl⟩ := vBuild_some h2
  obtain ⟨rb', l', h4, h5, h6, h7, h8⟩ := hr.read h3
  rw [hb] at h4; cases h4
  refine ⟨.agg l'.toArray, ?_, VRel.mkAgg h5 h7⟩
  have hl : (loadCells ⟨rb.blk, rb.base + ad.off, none⟩ n).run P w = .ok l'.toArray w := by
    rw [← h6]
    exact run_loadCells_list w _ l' fun j y hj => by
      have := h8 j y hj
      rw [addr_add]; exact this
  simp only [Instr.loadAt, Instr.sureAddr, loadVar, Sem.run_bind, Sem.run_pure, Result.andThen_ok, tok.run_agg ha, if_true, Sem.run_ite, hl, tok.run_size hn]

theorem mapOf_ok (hr : HRel C ρ s w) {x x' : Value} (hx : VRel ρ x x') {es : List AEntry} (h : mapOf s x = some es) :
    ∃ es', ERel ρ es es'.toList ∧ (∃ r', x' = .map r' ∧ ((r' = none ∧ es' = #[]) ∨ ∃ r c, r' = some r ∧ w.heap[r]? = some (.map es' c))) := by
  unfold mapOf at h
  split at h
  · cases h
    simp only [VRel] at hx
    subst hx
    exact ⟨#[], by simp [ERel], none, rfl, .inl ⟨rfl, rfl⟩⟩
  · rename_i r
    split at h
    · rename_i es₀ c hm
      cases h
      obtain ⟨rb, es', h1, h2, h3, h4⟩ := map_there hr hm
      simp only [VRel] at hx
      obtain ⟨rb', h5, rfl⟩ := hx
      rw [h1] at h5; cases h5
      exact ⟨es', h4, _, rfl, .inr ⟨_, c, rfl, h3⟩⟩
    · cases h
  · cases h

include tok in
theorem lookup_ok (hz : ZerosOk tab) (hr : HRel C ρ s w) {t kt et : Nat} (hd : tab.desc t = some (.map kt et)) {z : Value} (h0 : tab.zero et = some z) {ok : Bool} {x x' k k' v : Value} (hx : VRel ρ x x') (hk : VRel ρ k k') (h : vLookup (keyT tab kt) z ok s x k = some v) :
    ∃ v', (Instr.lookup t x' k' ok).run P w = .ok v' w ∧ VRel ρ v v' := by
  unfold vLookup at h
  cases hm : mapOf s x with
  | none => simp [hm] at h
  | some es =>
    simp only [hm] at h
    obtain ⟨es', he, r', rfl, hes⟩ := mapOf_ok hr hx hm
    cases hf : findKey (keyT tab kt) k es 0 with
    | none => rw [hf] at h; cases h
    | some r =>
      rw [hf] at h
      obtain ⟨hck, q, h3, h4⟩ := findKey_ok (w := w) tok hk he hf
      have hz' := vOk_rel ρ z (hz _ _ h0).1
      cases r with
      | none =>
        obtain rfl := Option.some.inj (show some (cond ok (.tuple #[z, .bool false]) z) = some v from h)
        have h4 : q = none := h4
        subst h4
        refine ⟨if ok then .tuple #[z, .bool false] else z, ?_, ?_⟩
        · rcases hes with ⟨rfl, rfl⟩ | ⟨r, c, rfl, hh⟩
          · simp [Instr.lookup, tok.run_underlying hd, hck, h3, tok.run_zero h0]
          · simp [Instr.lookup, tok.run_underlying hd, run_getObj (P := P) hh (by simp), hck, h3, tok.run_zero h0]
        · cases ok
          · exact hz'
          · exact hz'.mkPair false
      | some p =>
        obtain ⟨i, u⟩ := p
        obtain rfl := Option.some.inj (show some (cond ok (.tuple #[u, .bool true]) u) = some v from h)
        obtain ⟨u', rfl, hu⟩ := h4
        refine ⟨if ok then .tuple #[u', .bool true] else u', ?_, ?_⟩
        · rcases hes with ⟨rfl, rfl⟩ | ⟨r, c, rfl, hh⟩
          · simp [Instr.lookup, tok.run_underlying hd, hck, h3]
          · simp [Instr.lookup, tok.run_underlying hd, run_getObj (P := P) hh (by simp), hck, h3]
        · cases ok
          · exact hu
          · exact hu.mkPair true

theorem ERel.length : ∀ {l : List AEntry} {m : List MapEntry}, ERel ρ l m → l.length = m.length
  | [], m, h => by simp only [ERel] at h; subst h; rfl
  | e :: l, m, h => by
    simp only [ERel] at h
    obtain ⟨e', r, rfl, _, _, _, hl⟩ := h
    simp [hl.length]

include tok in
theorem lenMap_ok (hr : HRel C ρ s w) {t T kt et : Nat} (rest : List TypeId) (hd : tab.desc t = some (.map kt et)) {x x' v : Value} (hx : VRel ρ x x') (h : vLenMap s x = some v) :
    ∃ v', (Builtin.len_ (t :: rest).toArray T #[x']).run P w = .ok v' w ∧ VRel ρ v v' := by
  unfold vLenMap at h
  cases hm : mapOf s x with
  | none => simp [hm] at h
  | some es =>
    simp only [hm] at h
    cases h
    obtain ⟨es', he, r', rfl, hes⟩ := mapOf_ok hr hx hm
    have hlen := he.length
    refine ⟨goInt es'.size, ?_, ?_⟩
    · rcases hes with ⟨rfl, rfl⟩ | ⟨r, c, rfl, hh⟩
      · simp [Builtin.len_, tok.run_underlying hd]
      · simp [Builtin.len_, tok.run_underlying hd, run_getObj (P := P) hh (by simp)]
    · have : es.length = es'.size := hlen
      rw [this]; exact VRel.mkInt _ _

include tok in
theorem lenChan_ok (hr : HRel C ρ s w) {t T e : Nat} {d : ChanDir} (rest : List TypeId) (hd : tab.desc t = some (.chan d e)) {x x' v : Value} (hx : VRel ρ x x') (h : vLenChan s x = some v) :
    ∃ v', (Builtin.len_ (t :: rest).toArray T #[x']).run P w = .ok v' w ∧ VRel ρ v v' := by
  unfold vLenChan at h
  split at h
  · cases h
    simp only [VRel] at hx
    subst hx
    exact ⟨goInt 0, by simp [Builtin.len_, tok.run_underlying hd], VRel.mkInt _ _⟩
  · split at h
    · rename_i cap buf sent rcvd hg
      cases h
      obtain ⟨rb, h1, hN, o', h2, b', h3, h4⟩ := hr.live _ _ hg
      subst h3
      simp only [VRel] at hx
      obtain ⟨rb', h5, rfl⟩ := hx
      rw [h1] at h5; cases h5
      have hlen := h4.length
      refine ⟨goInt b'.size, ?_, ?_⟩
      · simp [Builtin.len_, tok.run_underlying hd, run_getObj (P := P) h2 (by simp)]
      · rw [lenL_eq]
        have : buf.length = b'.size := hlen
        rw [this]; exact VRel.mkInt _ _
    · cases h
  · cases h

end Go.Ac
end
section
namespace Go.Ac
variable {P : Program} {tab : Tab} {C : Cx} {ρ : Rn} {s : S} {w : World} (tok : TabOk P tab)

theorem lastN_eq : ∀ (l : List Nat), lastN l = l.getLast?
  | [] => rfl
  | [x] => rfl
  | x :: y :: l => by
    show lastN (y :: l) = _
    rw [lastN_eq (y :: l), List.getLast?_cons_cons]

theorem findBorn_ok {b : Nat} : ∀ {es : List AEntry} {m : List MapEntry}, ERel ρ es m → ∀ {e : AEntry}, findBorn b es = some e → ∃ e', m.find? (fun x => x.born == b) = some e' ∧ VRel ρ e.key e'.key ∧ VRel ρ e.val e'.val
  | [], m, h, e, hf => by cases hf
  | x :: xs, m, h, e, hf => by
    simp only [ERel] at h
    obtain ⟨e', r, rfl, hb, hk, hv, hl⟩ := h
    unfold findBorn at hf
    cases hq : Nat.beq x.born b with
    | true =>
      rw [hq] at hf
      cases hf
      have := of_beq hq
      exact ⟨e', by simp [hb, this], hk, hv⟩
    | false =>
      rw [hq] at hf
      obtain ⟨e'', h1, h2, h3⟩ := findBorn_ok hl hf
      have : ¬ x.born = b := fun e => by rw [beqT e] at hq; cases hq
      exact ⟨e'', by simp [hb, this, h1], h2, h3⟩

theorem VRel.mkTwo {a a' b b' : Value} (h : VRel ρ a a') (k : VRel ρ b b') : VRel ρ (.tuple #[a, b]) (.tuple #[a', b']) := by
  simp only [VRel, ARel_iff, LRel]
  exact ⟨_, rfl, a', _, rfl, h, b', [], rfl, k, rfl⟩

theorem entry_ok (hr : HRel C ρ s w) {x x' v : Value} (hx : VRel ρ x x') (h : vEntry s x = some v) : ∃ v', (Instr.entry x').run P w = .ok v' w ∧ VRel ρ v v' := by
  obtain ⟨ad, h1, h2⟩ := onOpt_some h
  obtain ⟨h3, h4⟩ := cond_some h2
  obtain rfl := vP_some h1
  have h3 := of_beq h3
  obtain ⟨rb, hb, rfl⟩ := hx.ptr
  unfold vEntryAt at h4
  split at h4
  · rename_i m since seen stepped hg
    obtain ⟨rb', q1, hN, o', q2, q0, rm, q3, rfl⟩ := hr.live _ _ hg
    rw [hb] at q1; cases q1
    split at h4
    · rename_i b es clock hl hm
      obtain ⟨h5, h6⟩ := cond_some h4
      have h5 := of_beq h5
      subst h5
      obtain ⟨rb', es', k1, k2, k3, k4⟩ := map_there hr hm
      rw [q3] at k1; cases k1
      split at h6
      · rename_i e hf
        cases h6
        obtain ⟨e', f1, f2, f3⟩ := findBorn_ok k4 hf
        rw [lastN_eq] at hl
        have hbk : seen.toArray.back? = some b := by simpa using hl
        have hff : es'.find? (fun x => x.born == b) = some e' := by rw [← f1]; simp
        refine ⟨.tuple #[e'.key, e'.val], ?_, f2.mkTwo f3⟩
        have h0 : rb.base + ad.off = 0 := by omega
        rw [h0]
        simp [Instr.entry, run_getObj (P := P) q2 (by simp), hbk, run_getObj (P := P) k3 (by simp), hff]
      · cases h6
    · cases h4
  · cases h4

theorem byteOf_some {v : Value} {c : UInt8} (h : byteOf v = some c) : ∃ n : Nat, v = .int .u8 n ∧ c = UInt8.ofNat n := by
  obtain ⟨h1, h2⟩ := cond_some h
  obtain ⟨n, h3, h4⟩ := onOpt_some h2
  have hk := vK_kind (x := v) (k := .u8) (of_beq h1)
  rw [iNat_some h3] at hk
  exact ⟨n, hk, (Option.some.inj h4).symm⟩

theorem bytesOf_cons {v : Value} {l : List Value} {r : List UInt8} (h : bytesOf (v :: l) = some r) : ∃ c r', byteOf v = some c ∧ bytesOf l = some r' ∧ r = c :: r' := by
  have h : Option.rec (motive := fun _ => Option (List UInt8)) none (fun c => Option.rec (motive := fun _ => Option (List UInt8)) none (fun r => some (c :: r)) (bytesOf l)) (byteOf v) = some r := h
  cases h1 : byteOf v with
  | none => rw [h1] at h; cases h
  | some c =>
    rw [h1] at h
    cases h2 : bytesOf l with
    | none => rw [h2] at h; cases h
    | some r' => rw [h2] at h; cases h; exact ⟨c, r', rfl, rfl, rfl⟩

/-- the bytes that are read are bytes in the machine, too -/
theorem bytes_rel : ∀ {l m : List Value} {r : List UInt8}, LRel ρ l m → bytesOf l = some r → ∃ ns : List Nat, m = ns.map (fun n : Nat => Value.int .u8 n) ∧ r = ns.map UInt8.ofNat
  | [], m, r, h, hb => by
    simp only [LRel] at h
    subst h
    cases hb
    exact ⟨[], rfl, rfl⟩
  | v :: l, m, r, h, hb => by
    simp only [LRel] at h
    obtain ⟨w', m', rfl, hv, hl⟩ := h
    obtain ⟨c, r', h1, h2, rfl⟩ := bytesOf_cons hb
    obtain ⟨ns, h3, rfl⟩ := bytes_rel hl h2
    obtain ⟨n, rfl, rfl⟩ := byteOf_some h1
    obtain rfl := hv.int
    exact ⟨n :: ns, by simp [h3], by simp⟩

theorem strOf_some {o : Option (List Value)} {v : Value} (h : strOf o = some v) : ∃ l r, o = some l ∧ bytesOf l = some r ∧ v = .string ⟨⟨r⟩⟩ := by
  unfold strOf at h
  split at h
  · split at h
    · rename_i l _ b hb
      cases h
      exact ⟨_, _, rfl, hb, rfl⟩
    · cases h
  · cases h

theorem pushAll (ns : List Nat) (acc : ByteArray) : (forIn (ns.map (fun n : Nat => Value.int .u8 n)) acc (fun c (s : ByteArray) => (do
      let .int .u8 n := c | stuck "bytesToString: byte expected"
      pure (ForInStep.yield (s.push (UInt8.ofNat n.toNat))) : Sem (ForInStep ByteArray)))).run P w = .ok ⟨⟨acc.data.toList ++ ns.map UInt8.ofNat⟩⟩ w := by
  induction ns generalizing acc with
  | nil => simp
  | cons n ns ih =>
    simp only [List.map_cons, List.forIn_cons, Sem.run_bind, Sem.run_pure, Result.andThen_ok, Int.toNat_natCast]
    rw [ih]
    simp [ByteArray.push]

include tok in
theorem convBytes_ok (hr : HRel C ρ s w) {src dst e : Nat} (hs : tab.desc src = some (.slice e)) (he : tab.desc e = some (.int .u8)) (hd : tab.desc dst = some .string) {x x' v : Value} (hx : VRel ρ x x') (h : vConvBytes s x = some v) : ∃ v', (convert src dst x').run P w = .ok v' w ∧ VRel ρ v v' := by
  have hconv : ∀ a n c, (convert src dst (.slice a n c)).run P w = (Conv.bytesToString (.slice a n c)).run P w := by
    intro a n c
    cases a <;> simp [convert, tok.run_underlying hs, tok.run_underlying hd, tok.run_underlying he]
  have main : ∀ (a : Addr) (n : Nat) (c : Nat) (ns : List Nat), ns.length = n → (∀ j y, (ns.map (fun n : Nat => Value.int .u8 n))[j]? = some y → w.cell? (a.add j) = some y) → (Conv.bytesToString (.slice (some a) n c)).run P w = .ok (.string ⟨⟨ns.map UInt8.ofNat⟩⟩) w := by
    intro a n c ns hn hcell
    have hl := run_loadCells_list (P := P) w a (ns.map (fun n : Nat => Value.int .u8 n)) hcell
    rw [List.length_map, hn] at hl
    simp only [Conv.bytesToString, Sem.run_bind, hl, Result.andThen_ok]
    rw [← Array.forIn_toList]
    have := pushAll (P := P) (w := w) ns .empty
    have e0 : (ByteArray.empty.data.toList : List UInt8) = [] := rfl
    rw [e0, List.nil_append] at this
    exact (congrArg (fun m : Result ByteArray => m.andThen fun s w' => Sem.run P (pure (Value.string s)) w') this).trans rfl
  unfold vConvBytes at h
  split at h
  · cases h
    simp only [VRel] at hx
    obtain ⟨rfl, rfl, rfl⟩ := hx
    exact ⟨.string .empty, by rw [hconv]; rfl, VRel.mkStr _⟩
  · rename_i ad n c
    simp only [VRel] at hx
    obtain ⟨rb, a', c', hrb, ⟨hc, hn, ha, hroom⟩, rfl⟩ := hx
    rw [hconv]
    by_cases h0 : n = 0
    · subst h0
      have h : some (Value.string ⟨⟨[]⟩⟩) = some v := h
      cases h
      exact ⟨_, main a' 0 c' [] rfl (by simp), VRel.mkStr _⟩
    · rw [beqF h0] at h
      obtain ⟨l, r, h1, h2, rfl⟩ := strOf_some h
      obtain ⟨rb', l', q1, q2, q3, q4, q5⟩ := hr.read h1
      rw [hrb] at q1; cases q1
      have hc' : c' ≠ 0 := by rcases hc with ⟨_, rfl⟩ | ⟨_, h⟩ <;> omega
      obtain rfl := ha.resolve_left hc'
      obtain ⟨ns, rfl, rfl⟩ := bytes_rel q2 h2
      refine ⟨_, main _ n c' ns (by simpa using q3) (fun j y hj => by rw [addr_add]; exact q5 j y hj), VRel.mkStr _⟩
  · cases h

end Go.Ac
end
section
namespace Go.Ac
variable {P : Program} {tab : Tab} {C : Cx} {ρ : Rn} {s : S} {w : World} (tok : TabOk P tab)

/-! ### what makes blocks -/
/-- an operation that turns the memory -/
def ActOk (P : Program) (C : Cx) (ρ : Rn) (s : S) (w : World) (e : Sem Value) (v : Value) (s' : S) : Prop :=
  ∃ ρ' w' v', e.run P w = .ok v' w' ∧ HRel C ρ' s' w' ∧ Goes ρ s w ρ' s' w' ∧ VRel ρ' v v'

theorem HRel.drawn (h : HRel C ρ s w) (d : Nat) : HRel C ρ s { w with drawn := d } := ⟨h.low, h.glob, h.live, h.inj, h.fresh⟩
theorem Goes.drawn (d : Nat) : Goes ρ s w ρ s { w with drawn := d } := ⟨Rn.le_refl ρ, fun _ h => .inl h, fun _ _ _ => rfl, Nat.le_refl _, rfl, rfl, rfl, fun _ _ => rfl, Nat.le_refl _⟩

/-- a new row: its first cells are the abstract ones -/
theorem HRel.row (h : HRel C ρ s w) {c : Rope} {size : Nat} {l' : List Value} {cs : Array Value} {e : TypeId} {esz : Nat} {fr : Nat × Nat} (hl : LRel ρ (c.flat []) l') (ho : ∀ x ∈ c.flat [], x.oneCell = true) (hsz : (c.flat []).length = size) (he : C.ts e = some esz)
    (hcs : ∀ (i : Nat) (v : Value), l'[i]? = some v → cs[i]? = some v) (hfr : ∀ i, i < cs.size → ¬ (fr.1 ≤ i ∧ i < fr.2)) :
    HRel C (ρ.add s.next ⟨w.heap.size, 0, cs.size, esz⟩) (s.new (.cells c size e)) (w.alloc (.cells cs e fr)) ∧
    Goes ρ s w (ρ.add s.next ⟨w.heap.size, 0, cs.size, esz⟩) (s.new (.cells c size e)) (w.alloc (.cells cs e fr)) := by
  refine h.make (rb := ⟨w.heap.size, 0, cs.size, esz⟩) rfl ⟨cs, e, fr, rfl, hsz, rfl, he, fun i v hi => ?_, hfr, rfl⟩
  refine ⟨ho v (List.mem_of_getElem? hi), ?_⟩
  obtain ⟨x, h1, h2⟩ := hl.get _ hi
  exact ⟨x, by rw [Nat.zero_add]; exact hcs _ _ h1, h2⟩

theorem Rn.add_at (ρ : Rn) (b : Nat) (rb : RB) : (ρ.add b rb) b = some rb := by simp [Rn.add]

/-- a new block and what points to it, by whatever name -/
structure NewW (w w' : World) (o' : Obj) : Prop where
  heap : w'.heap = w.heap.push o'
  tape : w'.tape = w.tape
  os : w'.os = w.os
  out : w'.output = w.output
theorem NewW.alloc (w : World) (o' : Obj) : NewW w (w.alloc o') o' := ⟨rfl, rfl, rfl, rfl⟩
def NewOk (P : Program) (C : Cx) (ρ : Rn) (w : World) (e : Sem Value) (g : Nat → Value) (o : AO) : Prop :=
  ∃ w' v' o' rb, e.run P w = .ok v' w' ∧ NewW w w' o' ∧ rb.blk = w.heap.size ∧ ORel ρ C rb o o' ∧ ∀ (ρ' : Rn) (r : Nat), ρ' r = some rb → VRel ρ' (g r) v'

theorem ORel.row {c : Rope} {size : Nat} {l' : List Value} {cs : Array Value} {e : TypeId} {esz : Nat} {fr : Nat × Nat} {blk : Nat} (hl : LRel ρ (c.flat []) l') (ho : ∀ x ∈ c.flat [], x.oneCell = true) (hsz : (c.flat []).length = size) (he : C.ts e = some esz)
    (hcs : ∀ (i : Nat) (v : Value), l'[i]? = some v → cs[i]? = some v) (hfr : ∀ i, i < cs.size → ¬ (fr.1 ≤ i ∧ i < fr.2)) :
    ORel ρ C ⟨blk, 0, cs.size, esz⟩ (.cells c size e) (.cells cs e fr) := by
  refine ⟨cs, e, fr, rfl, hsz, rfl, he, fun i v hi => ?_, hfr, rfl⟩
  refine ⟨ho v (List.mem_of_getElem? hi), ?_⟩
  obtain ⟨x, h1, h2⟩ := hl.get _ hi
  exact ⟨x, by rw [Nat.zero_add]; exact hcs _ _ h1, h2⟩

theorem run_newRow (e : TypeId) (cs : Array Value) : (Go.newRow e cs).run P w = .ok ⟨w.heap.size, 0, none⟩ (w.alloc (.cells cs e)) := rfl

/-- a variable that is made -/
theorem newVar_ok (hC : C.ts = tab.size) {e n : Nat} (hn : tab.size e = some n) {v v' : Value} {c : List Value} (hv : VRel ρ v v') (hc : cellsO v = some c) (hl : c.length = n) :
    ∃ w', (newVar e v').run P w = .ok ⟨w.heap.size, 0, none⟩ w' ∧ NewW w w' (.cells v'.cells e) ∧ ORel ρ C ⟨w.heap.size, 0, v'.cells.size, n⟩ (.cells (.leaf c) n e) (.cells v'.cells e) := by
  obtain ⟨h1, h2⟩ := hv.cells hc
  have := ORel.row (C := C) (c := .leaf c) (size := n) (e := e) (esz := n) (fr := (0, 0)) (cs := v'.cells) (l' := v'.cells.toList) (blk := w.heap.size) h1 h2 hl (by rw [hC]; exact hn) (fun i x hx => by rw [← Array.getElem?_toList]; exact hx) (by intro i _ h; omega)
  exact ⟨_, rfl, NewW.alloc _ _, this⟩

include tok in
theorem box_ok (hC : C.ts = tab.size) {e n : Nat} (hn : tab.size e = some n) {x x' : Value} (hx : VRel ρ x x') {o : AO} {f : Nat → Value} (h : vBox e n x = some (o, f)) : NewOk P C ρ w (Instr.box e x') f o := by
  have _ := tok
  obtain ⟨c, h1, h2⟩ := onOpt_some h
  obtain ⟨h3, h4⟩ := cond_some h2
  cases h4
  have h3 := of_beq h3
  rw [lenL_eq] at h3
  obtain ⟨w', k1, k2, k3⟩ := newVar_ok (P := P) (w := w) hC hn hx h1 h3
  refine ⟨w', _, _, _, ?_, k2, rfl, k3, fun ρ' r h => VRel.mkPtr h⟩
  simp only [Instr.box, Sem.run_bind, k1, Result.andThen_ok, Sem.run_pure]

include tok in
theorem alloc_ok (hC : C.ts = tab.size) (hz : ZerosOk tab) {e n : Nat} (hn : tab.size e = some n) {z : Value} (h0 : tab.zero e = some z) {c : List Value} (hc : cellsO z = some c) (hl : c.length = n) :
    NewOk P C ρ w (Instr.alloc e true (.tuple #[])) (fun r => .pointer (some ⟨r, 0, none⟩)) (.cells (.leaf c) n e) := by
  obtain ⟨w', k1, k2, k3⟩ := newVar_ok (P := P) (w := w) hC hn (vOk_rel ρ z (hz _ _ h0).1) hc hl
  refine ⟨w', _, _, _, ?_, k2, rfl, k3, fun ρ' r h => VRel.mkPtr h⟩
  simp only [Instr.alloc, Sem.run_bind, tok.run_zero h0, k1, Result.andThen_ok, Sem.run_pure]

theorem zeros_zero (z : List Value) : zeros z 0 = [] := rfl
theorem zeros_succ (z : List Value) (n : Nat) : zeros z (n + 1) = z ++ zeros z n := by
  show appL z (zeros z n) = _
  rw [appL_eq]
theorem zeros_length (z : List Value) (n : Nat) : (zeros z n).length = n * z.length := by
  induction n with
  | zero => simp [zeros_zero]
  | succ n ih => rw [zeros_succ, List.length_append, ih, Nat.succ_mul, Nat.add_comm]
theorem zeros_get (z : List Value) : ∀ (n i : Nat), i < n * z.length → (zeros z n)[i]? = z[i % z.length]?
  | 0, i, h => by simp at h
  | n + 1, i, h => by
    rw [zeros_succ]
    by_cases hi : i < z.length
    · rw [List.getElem?_append_left hi, Nat.mod_eq_of_lt hi]
    · rw [List.getElem?_append_right (by omega), zeros_get z n _ (by rw [Nat.succ_mul] at h; omega)]
      rw [Nat.mod_eq_sub_mod (a := i) (by omega)]
theorem zeros_mem {z : List Value} {n : Nat} {x : Value} (h : x ∈ zeros z n) : x ∈ z := by
  induction n with
  | zero => simp [zeros_zero] at h
  | succ n ih =>
    rw [zeros_succ] at h
    rcases List.mem_append.1 h with h | h
    · exact h
    · exact ih h
theorem LRel.zeros {z z' : List Value} (h : LRel ρ z z') (n : Nat) : LRel ρ (Ac.zeros z n) (Ac.zeros z' n) := by
  induction n with
  | zero => simp [zeros_zero, LRel]
  | succ n ih => rw [zeros_succ, zeros_succ]; exact h.append ih

/-- the machine's row of zero values -/
theorem zero_row (z : Array Value) (n : Nat) (N : Nat) (hN : N = n * z.size) : ((Array.range N).map (z[· % z.size]!)) = (zeros z.toList n).toArray := by
  apply Array.ext_getElem?
  intro i
  have hl := zeros_length z.toList n
  have hzl : z.toList.length = z.size := rfl
  rw [hzl] at hl
  by_cases hi : i < N
  · have h1 : ((Array.range N).map (z[· % z.size]!))[i]? = some (z[i % z.size]!) := by simp [hi]
    rw [h1, List.getElem?_toArray, zeros_get _ _ _ (by rw [hzl]; omega), hzl, Array.getElem?_toList]
    have : 0 < z.size := by
      rcases Nat.eq_zero_or_pos z.size with h | h
      · rw [h] at hN; simp at hN; omega
      · exact h
    have hm := Nat.mod_lt i this
    simp [getElem!_pos, hm]
  · rw [Array.getElem?_eq_none (by simp; omega), Array.getElem?_eq_none (by simp [hl]; omega)]

theorem fill_zero {place : Nat → Option (Nat × Nat)} {l m : List (Nat × Value)} : True := trivial

theorem slice_new {ρ : Rn} {b n c : Nat} {rb : RB} (h : ρ b = some rb) (h0 : rb.base = 0) {cap : Nat} (hc : CapOk c cap) (hn : n ≤ c / 2) (hroom : c % 2 = 1 → cap * rb.esz ≤ rb.size) : VRel ρ (.slice (some ⟨b, 0, none⟩) n c) (.slice (some ⟨rb.blk, 0, none⟩) n cap) := by
  simp only [VRel]
  exact ⟨rb, _, _, h, ⟨hc, hn, .inr (by rw [h0]), fun ho => by rw [h0]; simpa using hroom ho⟩, rfl⟩

theorem cells_zero {z : Value} (hz : vOk z = true) {c : List Value} (hc : cellsO z = some c) (ρ : Rn) : z.cells.toList = c ∧ LRel ρ c c ∧ ∀ x ∈ c, x.oneCell = true := by
  have h := (vOk_rel ρ z hz).cells hc
  have : z.cells.toList = c := by
    cases z <;> first | (cases hc; rfl) | (cases hc)
  rw [this] at h
  exact ⟨this, h.1, h.2⟩

include tok in
theorem buildSlice_ok (hC : C.ts = tab.size) (hz : ZerosOk tab) {t e n k : Nat} (hd : tab.desc t = some (.slice e)) (hk : tab.size e = some k) {z : Value} (h0 : tab.zero e = some z) {c : List Value} (hc : cellsO z = some c) (hl : c.length = k) (hle : n * k ≤ 16777216)
    {l m : List (Nat × Value)} (hlm : PRel ρ l m) {o : AO} {f : Nat → Value} (h : vBuildSlice e n k (fillL (rowPlace k) l (zeros c n)) = some (o, f)) : NewOk P C ρ w (Instr.buildSlice t n m.toArray) f o := by
  unfold vBuildSlice at h
  split at h
  · rename_i r hf
    cases h
    obtain ⟨z1, z2, z3⟩ := cells_zero (hz _ _ h0).1 hc ρ
    have hzsz : z.cells.size = k := by rw [← Array.length_toList, z1, hl]
    obtain ⟨r', k1, k2, k3, k4⟩ := fill_ok (place := rowPlace k) (pl := fun i => some (i * k, k)) (fun i p hp => hp) hlm (cells' := (zeros c n).toArray) (by simpa using z2.zeros n) (fun x hx => z3 x (zeros_mem hx)) hf
    have hsz : r'.size = n * k := by rw [k4]; simp [zeros_length, hl]
    have hlen : r.length = n * k := by rw [k2.length]; exact hsz
    have := ORel.row (C := C) (blk := w.heap.size) (c := .leaf r) (size := n * k) (e := e) (esz := k) (fr := (0, 0)) (cs := r') (l' := r'.toList) k2 k3 hlen (by rw [hC]; exact hk) (fun i x hx => by rw [← Array.getElem?_toList]; exact hx) (by intro i _ h; omega)
    refine ⟨_, .slice (some ⟨w.heap.size, 0, none⟩) n n, _, _, ?_, NewW.alloc _ _, rfl, this, fun ρ' r h => ?_⟩
    · have hfill : Instr.fill (fun i => some (i * k, k)) (zeros c n).toArray m.toArray.toList = some r' := k1
      simp only [Instr.buildSlice, Sem.run_bind, tok.run_underlying hd, Result.andThen_ok, tok.run_size hk, Sem.run_ite]
      rw [if_neg (by omega)]
      simp only [Sem.run_bind, Sem.run_pure, Result.andThen_ok]
      by_cases h : n * k = 0
      · have hz0 : zeros c n = [] := List.length_eq_zero_iff.1 (by rw [zeros_length, hl]; exact h)
        have hz1 : ((Array.range (n * k)).map fun i => (#[] : Array Value)[i % (#[] : Array Value).size]!) = (zeros c n).toArray := by rw [hz0, h]; simp
        rw [if_pos h, hz1, hfill]
        simp only [Sem.run_bind, run_newRow, Result.andThen_ok, Sem.run_pure]
      · rw [if_neg h, tok.run_zero h0]
        have hz1 : ((Array.range (n * k)).map fun i => z.cells[i % z.cells.size]!) = (zeros c n).toArray := by rw [zero_row z.cells n (n * k) (by rw [hzsz]), z1]
        simp only [Result.andThen_ok]
        rw [hz1, hfill]
        simp only [Sem.run_bind, run_newRow, Result.andThen_ok, Sem.run_pure]
    · refine slice_new h rfl (.inl ⟨Nat.mul_mod_right 2 n, (Nat.mul_div_cancel_left n (by omega)).symm⟩) (by show n ≤ 2 * n / 2; omega) fun ho => ?_
      have : (2 * n) % 2 = 1 := ho
      omega
  · cases h

end Go.Ac
end
section
namespace Go.Ac
variable {P : Program} {tab : Tab} {C : Cx} {ρ : Rn} {s : S} {w : World} (tok : TabOk P tab)

/-! ### makers -/
theorem mapMake_ok : NewOk P C ρ w ((newObj (.map #[] 0)).bind fun r => .pure (.map (some r))) (fun r => .map (some r)) (.map [] 0) := by
  refine ⟨_, .map (some w.heap.size), .map #[] 0, ⟨w.heap.size, 0, 0, 0⟩, rfl, NewW.alloc _ _, rfl, ⟨#[], rfl, by simp [ERel]⟩, fun ρ' r h => ?_⟩
  simp only [VRel]
  exact ⟨_, h, rfl⟩

theorem makeMap_ok {t : Nat} : NewOk P C ρ w (Instr.makeMap t none) (fun r => .map (some r)) (.map [] 0) := mapMake_ok

include tok in
theorem makeMapHint_ok {t kt et : Nat} (hd : tab.desc t = some (.map kt et)) {x x' : Value} (hx : VRel ρ x x') {o : AO} {f : Nat → Value} (h : vMapHint x = some (o, f)) : NewOk P C ρ w (Instr.makeMap t (some x')) f o := by
  unfold vMapHint at h
  split at h
  · rename_i k n
    cases h
    obtain rfl := hx.int
    obtain ⟨w', v', o', rb, h1, h2⟩ := mapMake_ok (P := P) (C := C) (ρ := ρ) (w := w)
    refine ⟨w', v', o', rb, ?_, h2⟩
    rw [← h1]
    simp [Instr.makeMap, tok.run_underlying hd, asInt, asIntOf]
    rfl
  · cases h

include tok in
theorem makeChan_ok {t e : Nat} {d : ChanDir} {i : TypeInfo} (hd : tab.desc t = some (.chan d e)) (hi : tab.types.get e = some i) {x x' : Value} (hx : VRel ρ x x') {o : AO} {f : Nat → Value} (h : vChan i.bytes x = some (o, f)) :
    NewOk P C ρ w (Instr.makeChan t x') f o := by
  unfold vChan at h
  split at h
  · rename_i n hn
    obtain ⟨h1, h2⟩ := cond_some h
    cases h2
    have h1 : n * (i.bytes + 1) ≤ 1000000000 := of_ble h1
    obtain ⟨k, rfl⟩ := natOf_some hn
    obtain rfl := hx.int
    refine ⟨_, .chan (some w.heap.size), .chan n #[] false 0 0 false, ⟨w.heap.size, 0, 0, 0⟩, ?_, NewW.alloc _ _, rfl, ⟨#[], rfl, by simp [LRel]⟩, fun ρ' r h => ?_⟩
    · have hb : i.bytes * n ≤ 1000000000 := by
        have : i.bytes * n ≤ n * (i.bytes + 1) := by rw [Nat.mul_comm]; exact Nat.mul_le_mul_left _ (by omega)
        omega
      have hn' : n ≤ 1000000000 := by
        have : n * 1 ≤ n * (i.bytes + 1) := Nat.mul_le_mul_left _ (by omega)
        omega
      have hmax : IntKind.i64.max = 9223372036854775807 := by decide
      have hbz : (i.bytes : Int) * (n : Int) ≤ 1000000000 := by rw [← Int.natCast_mul]; omega
      simp only [Instr.makeChan, asInt, asIntOf, Sem.run_bind, Sem.run_pure, Result.andThen_ok, tok.run_underlying hd, tok.run_info hi, Sem.run_ite]
      rw [if_neg (by
        rw [hmax]
        simp only [Int.ofNat_eq_natCast]
        omega)]
      rfl
    · simp only [VRel]
      exact ⟨_, h, rfl⟩
  · cases h

include tok in
theorem makeSlice_ok (hC : C.ts = tab.size) (hz : ZerosOk tab) {t e : Nat} {i : TypeInfo} (hd : tab.desc t = some (.slice e)) (hi : tab.types.get e = some i) {z : Value} (h0 : tab.zero e = some z) {cz : List Value} (hc : cellsO z = some cz) (hl : cz.length = i.size)
    {x x' y y' : Value} (hx : VRel ρ x x') (hy : VRel ρ y y') {o : AO} {f : Nat → Value} (h : vSliceNew e i.size i.bytes cz x y = some (o, f)) :
    NewOk P C ρ w (Instr.makeSlice t x' y') f o := by
  unfold vSliceNew at h
  split at h
  · rename_i l hln
    split at h
    · rename_i c hcn
      obtain ⟨h1, h2⟩ := cond_some h
      cases h2
      simp only [Bool.and_eq_true] at h1
      have hlc := of_ble h1.1
      have hcb : c * (i.bytes + 1) ≤ 1000000000 := of_ble h1.2
      obtain ⟨k1, rfl⟩ := natOf_some hln
      obtain ⟨k2, rfl⟩ := natOf_some hcn
      obtain rfl := hx.int
      obtain rfl := hy.int
      obtain ⟨z1, z2, z3⟩ := cells_zero (hz _ _ h0).1 hc ρ
      have hk : tab.size e = some i.size := by unfold Tab.size; rw [hi]
      have hzsz : z.cells.size = i.size := by rw [← Array.length_toList, z1, hl]
      have hsz : (zeros cz c).length = c * i.size := by rw [zeros_length, hl]
      have := ORel.row (C := C) (ρ := ρ) (blk := w.heap.size) (c := .leaf (zeros cz c)) (size := c * i.size) (e := e) (esz := i.size) (fr := (0, 0)) (cs := (zeros cz c).toArray) (l' := zeros cz c) (z2.zeros c) (fun x hx => z3 x (zeros_mem hx)) hsz (by rw [hC]; exact hk) (fun j x hx => by simpa using hx) (by intro i _ h; omega)
      refine ⟨_, .slice (some ⟨w.heap.size, 0, none⟩) l c, _, _, ?_, NewW.alloc _ _, rfl, this, fun ρ' r h => ?_⟩
      · have hb : i.bytes * c ≤ 1000000000 := by
          have : i.bytes * c ≤ c * (i.bytes + 1) := by rw [Nat.mul_comm]; exact Nat.mul_le_mul_left _ (by omega)
          omega
        have hbz : (i.bytes : Int) * (c : Int) ≤ 1000000000 := by rw [← Int.natCast_mul]; omega
        have hcn' : c ≤ 1000000000 := by
          have : c * 1 ≤ c * (i.bytes + 1) := Nat.mul_le_mul_left _ (by omega)
          omega
        have w1 : IntKind.i64.wrap (Int.ofNat l) = l := IntWalk.i64_in _ (by simp only [Int.ofNat_eq_natCast]; omega)
        have w2 : IntKind.i64.wrap (Int.ofNat c) = c := IntWalk.i64_in _ (by simp only [Int.ofNat_eq_natCast]; omega)
        simp only [Instr.makeSlice, asInt, asIntOf, Sem.run_bind, Sem.run_pure, Result.andThen_ok, tok.run_underlying hd, tok.run_info hi, w1, w2]
        have hcond : ((decide ((c : Int) < 0) || decide ((i.bytes : Int) * (c : Int) > 2 ^ 48)) || decide ((l : Int) < 0) || decide ((l : Int) > (c : Int))) = false := by
          simp; omega
        rw [hcond]
        simp only [Bool.false_eq_true, if_false, Sem.run_bind, Sem.run_pure, Result.andThen_ok, Sem.run_ite, run_askRoom, tok.run_size hk, Int.toNat_natCast]
        by_cases h : c * i.size = 0
        · have hz0 : zeros cz c = [] := List.length_eq_zero_iff.1 (by rw [hsz]; exact h)
          have hz1 : ((Array.range (c * i.size)).map fun i => (#[] : Array Value)[i % (#[] : Array Value).size]!) = (zeros cz c).toArray := by rw [hz0, h]; simp
          rw [if_pos h, hz1]
          simp only [Sem.run_bind, run_newRow, Result.andThen_ok, Sem.run_pure]
        · rw [if_neg h, tok.run_zero h0]
          have hz1 : ((Array.range (c * i.size)).map fun i => z.cells[i % z.cells.size]!) = (zeros cz c).toArray := by rw [zero_row z.cells c (c * i.size) (by rw [hzsz]), z1]
          simp only [Result.andThen_ok]
          rw [hz1]
          simp only [Sem.run_bind, run_newRow, Result.andThen_ok, Sem.run_pure]
      · refine slice_new h rfl (.inl ⟨Nat.mul_mod_right 2 c, (Nat.mul_div_cancel_left c (by omega)).symm⟩) (by show l ≤ 2 * c / 2; omega) fun ho => ?_
        have : (2 * c) % 2 = 1 := ho
        omega
    · cases h
  · cases h

/-! ### bytes of a string -/
theorem bytesV_eq (l : List UInt8) : bytesV l = l.map (fun c => Value.int .u8 (.ofNat c.toNat)) := by
  induction l with
  | nil => rfl
  | cons c l ih => show _ :: bytesV l = _; rw [ih]; rfl

theorem bytesV_rel (ρ : Rn) (l : List UInt8) : LRel ρ (bytesV l) (bytesV l) ∧ ∀ x ∈ bytesV l, x.oneCell = true := by
  rw [bytesV_eq]
  constructor
  · induction l with
    | nil => simp [LRel]
    | cons c l ih =>
      simp only [List.map_cons, LRel]
      exact ⟨_, _, rfl, VRel.mkInt _ _, ih⟩
  · intro x hx
    obtain ⟨c, _, rfl⟩ := List.mem_map.1 hx
    rfl

theorem freeze_alloc (w : World) (cs : Array Value) (e : TypeId) (n : Nat) : (w.alloc (.cells cs e)).freeze ⟨w.heap.size, n, none⟩ 1 = w.alloc (.cells cs e (n, n + 1)) := by
  unfold World.freeze
  rw [if_neg (by decide)]
  show ({ w with heap := (w.heap.push _).modify w.heap.size _ } : World) = { w with heap := w.heap.push _ }
  congr 1
  apply Array.ext_getElem?
  intro j
  rw [Array.getElem?_modify, Array.getElem?_push, Array.getElem?_push]
  by_cases hj : j = w.heap.size
  · subst hj
    simp
  · rw [if_neg (Ne.symm hj), if_neg hj, if_neg hj]

include tok in
theorem ofStr_ok (hC : C.ts = tab.size) {src dst e : Nat} (hs : tab.desc src = some .string) (hd : tab.desc dst = some (.slice e)) (he : tab.desc e = some (.int .u8)) (h1e : tab.size e = some 1) {x x' : Value} (hx : VRel ρ x x') {o : AO} {f : Nat → Value} (h : vOfStr e x = some (o, f)) :
    NewOk P C ρ w (convert src dst x') f o := by
  unfold vOfStr at h
  split at h
  · rename_i b
    cases h
    obtain rfl := hx.str
    rw [lenB_eq]
    have hbl : b.data.toList.length = b.size := rfl
    rw [hbl]
    obtain ⟨q1, q2⟩ := bytesV_rel ρ b.data.toList
    -- the machine's run
    let cap := (Question.appendCap b.size 0 e).cut (w.tape w.drawn (.appendCap b.size 0 e))
    have hcap : b.size ≤ cap := by
      show b.size ≤ b.size + _
      omega
    let cs : Array Value := (b.data.map fun b => Value.int .u8 b.toNat) ++ Array.replicate (cap - b.size) (.int .u8 0)
    have hcs : cs.size = cap := by
      simp [cs]
      have : b.data.size = b.size := rfl
      omega
    have := ORel.row (C := C) (blk := w.heap.size) (c := .leaf (bytesV b.data.toList)) (size := b.size) (e := e) (esz := 1) (fr := (cap, cap + 1)) (cs := cs) (l' := bytesV b.data.toList) q1 q2 (by rw [flat_leaf, bytesV_eq]; simp) (by rw [hC]; exact h1e)
      (fun j v hj => by
        rw [bytesV_eq] at hj
        have hlt : j < b.data.size := by
          have := (List.getElem?_eq_some_iff.1 hj).1
          simpa using this
        rw [Array.getElem?_append_left (by simpa using hlt)]
        simpa using hj)
      (by intro i hi h; omega)
    refine ⟨World.alloc { w with drawn := w.drawn + 1 } (.cells cs e (cap, cap + 1)), .slice (some ⟨w.heap.size, 0, none⟩) b.size cap, _, _, ?_, ⟨rfl, rfl, rfl, rfl⟩, rfl, this, fun ρ' r h => ?_⟩
    · have hconv : (convert src dst (.string b)).run P w = (Conv.stringToBytes e b).run P w := by
        simp [convert, tok.run_underlying hs, tok.run_underlying hd, tok.run_underlying he]
      rw [hconv]
      have hch : (choose (.appendCap b.size 0 e)).run P w = .ok cap { w with drawn := w.drawn + 1 } := rfl
      simp only [Conv.stringToBytes, Sem.run_bind, hch, Result.andThen_ok, run_newRow, markStringish, run_shape]
      have hsh : (World.alloc { w with drawn := w.drawn + 1 } (.cells cs e)).shape? w.heap.size = some (e, cs.size) := by
        unfold World.shape?
        rw [alloc_get]
        simp
      have : (World.alloc { w with drawn := w.drawn + 1 } (Obj.cells (Array.map (fun b => Value.int IntKind.u8 ↑b.toNat) b.data ++ Array.replicate (cap - b.size) (Value.int IntKind.u8 0)) e)) = (World.alloc { w with drawn := w.drawn + 1 } (.cells cs e)) := rfl
      rw [this]
      have hsz : ({ w with drawn := w.drawn + 1 } : World).heap.size = w.heap.size := rfl
      rw [hsz, hsh]
      simp only [run_freeze, Result.andThen_ok, Sem.run_pure]
      have := freeze_alloc { w with drawn := w.drawn + 1 } cs e cs.size
      rw [hsz] at this
      rw [this, hcs]
    · refine slice_new (rb := ⟨w.heap.size, 0, cs.size, 1⟩) h rfl (.inr ⟨?_, ?_⟩) ?_ fun ho => ?_
      · show (2 * b.size + 1) % 2 = 1
        omega
      · show (2 * b.size + 1) / 2 ≤ cap
        omega
      · show b.size ≤ (2 * b.size + 1) / 2
        omega
      · show cap * 1 ≤ cs.size
        omega
  · cases h

end Go.Ac
end
section
namespace Go.Ac
variable {P : Program} {tab : Tab} {C : Cx} {ρ : Rn} {s : S} {w : World} (tok : TabOk P tab)

/-- an operation without a value that turns the memory -/
def UAct (P : Program) (C : Cx) (ρ : Rn) (s : S) (w : World) (e : Sem Unit) (s' : S) : Prop :=
  ∃ ρ' w', e.run P w = .ok () w' ∧ HRel C ρ' s' w' ∧ Goes ρ s w ρ' s' w'

include tok in
theorem store_ok (hr : HRel C ρ s w) {t n : Nat} (hn : tab.size t = some n) {x x' v v' u : Value} {s' : S} (hx : VRel ρ x x') (hv : VRel ρ v v') (h : vStore n s x v = some (u, s')) : UAct P C ρ s w (Instr.storeAt t x' v') s' := by
  obtain ⟨ad, h1, h2⟩ := onOpt_some h
  obtain rfl := vP_some h1
  obtain ⟨c, h3, h4⟩ := onOpt_some h2
  obtain ⟨h5, h6⟩ := cond_some h4
  have h5 := of_beq h5
  rw [lenL_eq] at h5
  unfold withS at h6
  split at h6
  · rename_i s₁ hw
    cases h6
    obtain ⟨q1, q2⟩ := hv.cells h3
    obtain ⟨rb, hb, rfl⟩ := hx.ptr
    obtain ⟨rb', w', k1, k2, k3, k4⟩ := hr.write (P := P) hw h5 q1 q2 (q1.oneCell q2)
    rw [hb] at k1; cases k1
    refine ⟨ρ, w', ?_, k3, k4⟩
    have hsz : v'.cells.size = n := by rw [← Array.length_toList, ← q1.length]; exact h5
    simp only [Instr.storeAt, Instr.sureAddr, storeVar, Sem.run_bind, Sem.run_pure, Result.andThen_ok, tok.run_size hn, Sem.run_ite]
    rw [if_neg (by simp [hsz])]
    exact k2
  · cases h6

/-! ### 'append' -/
/-- what is appended or copied from -/
theorem src_ok {size : Nat} {y y' : Value} (hy : VRel ρ y y') (hr : HRel C ρ s w) {m : Nat} {l : List Value} (h : srcCells s size y = some (m, l)) :
    (Builtin.lenOf y').run P w = .ok m w ∧ ∃ l', LRel ρ l l' ∧ (∀ x ∈ l, x.oneCell = true) ∧ l'.length = m * size ∧ ∀ k, k ≤ m → ∀ d, (Builtin.firstCells size k y').run P { w with drawn := d } = .ok (l'.take (k * size)).toArray { w with drawn := d } := by
  unfold srcCells at h
  split at h
  · cases h
    simp only [VRel] at hy
    obtain ⟨rfl, rfl, rfl⟩ := hy
    exact ⟨rfl, [], by simp [LRel], by simp, by simp, fun k hk d => by simp [Builtin.firstCells]⟩
  · rename_i a n c
    simp only [VRel] at hy
    obtain ⟨rb, a', c', hrb, ⟨hc, hn, ha, hroom⟩, rfl⟩ := hy
    by_cases h0 : n = 0
    · subst h0
      have h : some (0, ([] : List Value)) = some (m, l) := h
      cases h
      refine ⟨rfl, [], by simp [LRel], by simp, by simp, fun k hk d => ?_⟩
      have : k = 0 := by omega
      subst this
      simp [Builtin.firstCells, loadCells, loadCellsFrom]
    · rw [beqF h0] at h
      simp only [cond_false] at h
      split at h
      · rename_i l₀ hl
        cases h
        obtain ⟨rb', l', q1, q2, q3, q4, q5⟩ := hr.read hl
        rw [hrb] at q1; cases q1
        have hc' : c' ≠ 0 := by rcases hc with ⟨_, rfl⟩ | ⟨_, h⟩ <;> omega
        obtain rfl := ha.resolve_left hc'
        refine ⟨rfl, l', q2, q4, q3, fun k hk d => ?_⟩
        have hlen : (l'.take (k * size)).length = k * size := by
          have : k * size ≤ m * size := Nat.mul_le_mul_right _ hk
          have q3 : l'.length = m * size := q3
          simp; omega
        have := run_loadCells_list (P := P) { w with drawn := d } ⟨rb.blk, rb.base + a.off, none⟩ (l'.take (k * size)) fun j v hj => by
          rw [addr_add]
          rw [List.getElem?_take] at hj
          split at hj
          · exact q5 j v hj
          · cases hj
        rw [hlen] at this
        exact this
      · cases h
  · rename_i b
    obtain ⟨h1, h2⟩ := cond_some h
    have h1 := of_beq h1
    subst h1
    cases h2
    obtain rfl := hy.str
    obtain ⟨q1, q2⟩ := bytesV_rel ρ b.data.toList
    have hbl : b.data.toList.length = b.size := rfl
    refine ⟨by rw [lenB_eq, hbl]; rfl, _, q1, q2, by rw [bytesV_eq, lenB_eq]; simp, fun k hk d => ?_⟩
    rw [lenB_eq, hbl] at hk
    show Result.ok _ _ = _
    congr 1
    rw [bytesV_eq]
    apply Array.ext'
    rw [ByteArray.data_extract]
    simp [Array.toList_extract]
  · cases h

theorem growBy_le (n : Nat) : ∀ (r c : Nat), Builtin.growBy n r c ≤ max c (2 * n + 192)
  | 0, c => by simp [Builtin.growBy]; omega
  | r + 1, c => by
    unfold Builtin.growBy
    split
    · omega
    · have := growBy_le n r (c + (c + 768) / 4)
      omega

theorem nextcap_le {need old : Nat} (h : old < need) : Builtin.nextslicecap need old ≤ 2 * need + 512 := by
  unfold Builtin.nextslicecap
  split
  · omega
  · split
    · omega
    · have := growBy_le need 4 old
      omega

theorem mayGrow_some {e : TypeId} (h : mayGrow tab e = true) : ∃ i z, tab.types.get e = some i ∧ tab.zero e = some z ∧ i.bytes ≤ 1000000 := by
  unfold mayGrow at h
  split at h
  · rename_i i hi
    split at h
    · rename_i z hz
      exact ⟨i, z, hi, by unfold Tab.zero; rw [hi]; exact hz, of_ble h⟩
    · cases h
  · cases h

/-- the two ends of the machine's append -/
def appendIn' (size : Nat) (base : Option Addr) (sLen sCap m : Nat) (y' : Value) : Sem Value := do
  let new ← Builtin.firstCells size m y'
  if let some a := base then storeCells (a.add (sLen * size)) new.toList
  pure (.slice base (sLen + m) sCap)

/-- the second argument's type: none of the numbers -/
def SndOk (tab : Tab) (rest : List TypeId) : Prop := rest = [] ∨ ∃ t2 r d2, rest = t2 :: r ∧ tab.desc t2 = some d2 ∧ ∀ k, d2 ≠ .int k

include tok in
theorem run_append_in {st e size : Nat} {rest : List TypeId} {T : Nat} (h1 : SndOk tab rest) (hd : tab.desc st = some (.slice e)) (hs : tab.size e = some size)
    {base : Option Addr} {sLen sCap m : Nat} {y' : Value} (hlen : (Builtin.lenOf y').run P w = .ok m w) (hle : sLen + m ≤ sCap) :
    (Builtin.append_ (st :: rest).toArray T #[.slice base sLen sCap, y']).run P w = (appendIn' size base sLen sCap m y').run P w := by
  rcases h1 with rfl | ⟨t2, r, d2, rfl, h2, h3⟩
  · cases base <;> simp [Builtin.append_, tok.run_underlying hd, tok.run_size hs, hlen, hle, appendIn']
  · have hm : ∀ {β : Type} (x y : β), (match d2 with | .int _ => x | _ => y) = y := by
      intro β x y
      cases d2 <;> first | rfl | exact absurd rfl (h3 _)
    cases base <;> simp [Builtin.append_, tok.run_underlying hd, tok.run_underlying h2, tok.run_size hs, hlen, hle, appendIn', hm]

include tok in
theorem run_append_out {st e size : Nat} {rest : List TypeId} {T : Nat} (h1 : SndOk tab rest) (hd : tab.desc st = some (.slice e)) (hs : tab.size e = some size) (hg : mayGrow tab e = true)
    {base : Option Addr} {sLen sCap m : Nat} {y' : Value} (hlen : (Builtin.lenOf y').run P w = .ok m w) (hle : ¬ sLen + m ≤ sCap) (hbig : sLen + m ≤ 1000000) :
    ∃ cap z, sLen + m ≤ cap ∧ tab.zero e = some z ∧ ∀ old new : Array Value, (Builtin.firstCells size sLen (.slice base sLen sCap)).run P w.drew = .ok old w.drew → (Builtin.firstCells size m y').run P w.drew = .ok new w.drew →
      (Builtin.append_ (st :: rest).toArray T #[.slice base sLen sCap, y']).run P w = .ok (.slice (some ⟨w.heap.size, 0, none⟩) (sLen + m) cap) (World.alloc w.drew (.cells (old ++ (new ++ Builtin.zeroCells z.cells (cap - (sLen + m)))) e)) := by
  obtain ⟨i, z, hi, hz, hb⟩ := mayGrow_some hg
  refine ⟨(Question.appendCap (sLen + m) sCap e).cut (w.tape w.drawn (.appendCap (sLen + m) sCap e)), z, by show sLen + m ≤ (sLen + m) + _; omega, hz, fun old new ho hn => ?_⟩
  have h63 : ¬ (9223372036854775807 < ((sLen : Int) + (m : Int))) := by omega
  have hnc := nextcap_le (need := sLen + m) (old := sCap) (by omega)
  have h48 : ¬ (281474976710656 < Builtin.nextslicecap (sLen + m) sCap * i.bytes) := by
    have : Builtin.nextslicecap (sLen + m) sCap * i.bytes ≤ (2 * (sLen + m) + 512) * 1000000 := Nat.mul_le_mul hnc hb
    omega
  have hf : (Question.appendCap (sLen + m) sCap e).forced = false := rfl
  rcases h1 with rfl | ⟨t2, r, d2, rfl, h2, h3⟩
  · simp [Builtin.append_, tok.run_underlying hd, tok.run_size hs, hlen, hle, tok.run_info hi, h63, h48, hf, ho, hn, tok.run_zero hz, run_newRow]
  · have hm : ∀ {β : Type} (x y : β), (match d2 with | .int _ => x | _ => y) = y := by
      intro β x y
      cases d2 <;> first | rfl | exact absurd rfl (h3 _)
    simp [Builtin.append_, tok.run_underlying hd, tok.run_underlying h2, tok.run_size hs, hlen, hle, tok.run_info hi, h63, h48, hf, ho, hn, tok.run_zero hz, run_newRow, hm]

end Go.Ac
end
section
namespace Go.Ac
variable {P : Program} {tab : Tab} {C : Cx} {ρ : Rn} {s : S} {w : World} (tok : TabOk P tab)

/-- a block that is let go, its machine's block being the image of a new one -/
theorem HRel.reroot (h : HRel C ρ s w) {b : Nat} {o₀ o₁ : AO} {rb rb' : RB} {o' : Obj} (hb : s.get b = some o₀) (hr : ρ b = some rb) (hblk : rb'.blk = rb.blk) (ho : ORel ρ C rb' o₁ o') :
    HRel C (ρ.add s.next rb') ((s.kill b).new o₁) (World.setObj w rb.blk o') ∧ Goes ρ s w (ρ.add s.next rb') ((s.kill b).new o₁) (World.setObj w rb.blk o') := by
  have hlt := (h.fresh b rb hr).2
  have hbn := (h.fresh b rb hr).1
  have hnone := h.fresh_none (Nat.le_refl s.next)
  have hle : Rn.le ρ (ρ.add s.next rb') := Rn.le_add hnone
  have hsame : ∀ c, c ≠ s.next → (ρ.add s.next rb') c = ρ c := fun c hc => by simp [Rn.add, hc]
  have hat := Rn.add_at ρ s.next rb'
  have hget : ∀ c, ((s.kill b).new o₁).get c = if c = s.next then some o₁ else if c = b then none else s.get c := by
    intro c
    rw [S.get_new, S.next_kill, S.get_kill]
  obtain ⟨rb₀, hr₀, hN, _⟩ := h.live _ _ hb
  rw [hr] at hr₀; cases hr₀
  have other : ∀ c x, c ≠ s.next → ((s.kill b).new o₁).get c = some x → s.get c = some x ∧ c ≠ b := by
    intro c x hc hx
    rw [hget, if_neg hc] at hx
    split at hx
    · cases hx
    · rename_i h1; exact ⟨hx, h1⟩
  constructor
  · constructor
    · simpa using h.low
    · exact fun g hg => hle _ _ (h.glob g hg)
    · intro c x hc
      by_cases hcb : c = s.next
      · subst hcb
        rw [hget, if_pos rfl] at hc
        cases hc
        exact ⟨rb', hat, by rw [hblk]; exact hN, o', by rw [World.setObj_get _ hlt, if_pos hblk], ho.mono hle⟩
      · obtain ⟨hg, hne⟩ := other c x hcb hc
        obtain ⟨rc, h1, hN', oc, h2, h3⟩ := h.live _ _ hg
        refine ⟨rc, hle _ _ h1, hN', oc, ?_, h3.mono hle⟩
        rw [World.setObj_get _ hlt, if_neg fun e => hne (h.inj _ _ _ _ _ _ hg hb h1 hr e)]
        exact h2
    · intro b₁ b₂ o₁' o₂' r₁ r₂ e₁ e₂ k₁ k₂ he
      by_cases h1 : b₁ = s.next
      · by_cases h2 : b₂ = s.next
        · omega
        · obtain ⟨g2, n2⟩ := other _ _ h2 e₂
          rw [hsame _ h2] at k₂
          subst h1
          rw [hat] at k₁; cases k₁
          exact absurd (h.inj _ _ _ _ _ _ g2 hb k₂ hr (by rw [← he, hblk])) n2
      · obtain ⟨g1, n1⟩ := other _ _ h1 e₁
        rw [hsame _ h1] at k₁
        by_cases h2 : b₂ = s.next
        · subst h2
          rw [hat] at k₂; cases k₂
          exact absurd (h.inj _ _ _ _ _ _ g1 hb k₁ hr (by rw [he, hblk])) n1
        · obtain ⟨g2, n2⟩ := other _ _ h2 e₂
          rw [hsame _ h2] at k₂
          exact h.inj _ _ _ _ _ _ g1 g2 k₁ k₂ he
    · intro c rc hc
      rw [S.next_new, S.next_kill, World.setObj_size]
      by_cases h1 : c = s.next
      · subst h1
        rw [hat] at hc; cases hc
        exact ⟨by omega, by rw [hblk]; exact hlt⟩
      · rw [hsame _ h1] at hc
        have := h.fresh _ _ hc
        omega
  · constructor
    · exact hle
    · rintro i ⟨c, x, rc, e, hc, hi⟩
      left
      by_cases h1 : c = s.next
      · subst h1
        rw [hat] at hc; cases hc
        exact ⟨b, o₀, rb, hb, hr, by rw [← hi, hblk]⟩
      · obtain ⟨g1, n1⟩ := other _ _ h1 e
        rw [hsame _ h1] at hc
        exact ⟨c, x, rc, g1, hc, hi⟩
    · intro i hi hno
      rw [World.setObj_get _ hlt, if_neg fun e => hno ⟨b, o₀, rb, hb, hr, e.symm⟩]
    · simp
    · rfl
    · rfl
    · rfl
    · intro c hc
      exact hsame c (by omega)
    · rw [S.next_new, S.next_kill]; omega

theorem Goes.kill (b : Nat) : Goes ρ s w ρ (s.kill b) w := Goes.sub (Sub.kill s b)
theorem HRel.kill (h : HRel C ρ s w) (b : Nat) : HRel C ρ (s.kill b) w := h.sub (Sub.kill s b)

theorem wholeOf_read {c r : Rope} {size off n : Nat} (h : wholeOf c size off n = some r) : cellsAt c size off n = some (r.flat []) := by
  unfold wholeOf at h
  unfold cellsAt
  cases hb : Nat.beq off 0 && Nat.beq n size with
  | true =>
    rw [hb] at h
    cases h
    rfl
  | false =>
    rw [hb] at h
    simp only [cond_false] at h ⊢
    split at h
    · rename_i l hl
      cases h
      rw [flat_leaf]
      exact hl
    · cases h

theorem wholeOf_some {c r : Rope} {size off n : Nat} (hs : (c.flat []).length = size) (h : wholeOf c size off n = some r) : r.flat [] = ((c.flat []).drop off).take n ∧ (n = 0 ∨ off + n ≤ size) := by
  unfold wholeOf at h
  cases hb : Nat.beq off 0 && Nat.beq n size with
  | true =>
    rw [hb] at h
    simp only [Bool.and_eq_true] at hb
    have h1 := of_beq hb.1
    have h2 := of_beq hb.2
    subst h1; subst h2
    cases h
    exact ⟨by rw [List.drop_zero, ← hs, List.take_length], by omega⟩
  | false =>
    rw [hb] at h
    simp only [cond_false] at h
    split at h
    · rename_i l hl
      cases h
      have := readL_some hl
      rw [hs] at this
      rw [flat_leaf]
      exact this
    · cases h

/-- the result of an append that made a row -/
theorem grown_rel {ρ : Rn} {b need cap : Nat} {rb : RB} (h : ρ b = some rb) {a' : Addr} (ha : cap = 0 ∨ a' = ⟨rb.blk, rb.base, none⟩) (hn : need ≤ cap) (hroom : rb.base + cap * rb.esz ≤ rb.size) :
    VRel ρ (.slice (some ⟨b, 0, none⟩) need (Nat.succ (Nat.mul 2 need))) (.slice (some a') need cap) := by
  simp only [VRel]
  have h2 : Nat.succ (Nat.mul 2 need) = 2 * need + 1 := rfl
  rw [h2]
  refine ⟨rb, _, _, h, ⟨.inr ⟨by omega, by omega⟩, by omega, ?_, fun _ => by simpa using hroom⟩, rfl⟩
  simpa using ha

include tok in
theorem append_ok (hC : C.ts = tab.size) (hz : ZerosOk tab) (hr : HRel C ρ s w) {st e size : Nat} {rest : List TypeId} {T : Nat} (h1 : SndOk tab rest) (hd : tab.desc st = some (.slice e)) (hs : tab.size e = some size) (hg : mayGrow tab e = true)
    {x x' y y' v : Value} {s' : S} (hx : VRel ρ x x') (hy : VRel ρ y y') (h : appendA e size s x y = some (v, s')) : ActOk P C ρ s w (Builtin.append_ (st :: rest).toArray T #[x', y']) v s' := by
  unfold appendA at h
  split at h
  · rename_i base n cap
    cases hsrc : srcCells s size y with
    | none => simp [hsrc] at h
    | some q =>
      obtain ⟨m, new⟩ := q
      simp only [hsrc] at h
      obtain ⟨hlen, new', n1, n2, n3, n4⟩ := src_ok hy hr hsrc
      have hnew : (Builtin.firstCells size m y').run P w = .ok new'.toArray w := by
        have := n4 m (Nat.le_refl _) w.drawn
        rw [← n3, List.take_length] at this
        exact this
      have hnewd : (Builtin.firstCells size m y').run P w.drew = .ok new'.toArray w.drew := by
        have := n4 m (Nat.le_refl _) (w.drawn + 1)
        rw [← n3, List.take_length] at this
        exact this
      have nlen : new.length = m * size := by rw [n1.length, n3]
      -- what the slice is in the machine
      have hbase : ∃ base' cap', x' = .slice base' n cap' ∧ cap / 2 ≤ cap' := by
        cases base with
        | none => simp only [VRel] at hx; obtain ⟨rfl, rfl, rfl⟩ := hx; exact ⟨_, _, rfl, by omega⟩
        | some a =>
          simp only [VRel] at hx
          obtain ⟨rb, a', c', hrb, ⟨hc, _⟩, rfl⟩ := hx
          exact ⟨_, c', rfl, by rcases hc with ⟨_, rfl⟩ | ⟨_, h⟩ <;> omega⟩
      cases hble : Nat.ble (Nat.add n m) (Nat.div cap 2) with
      | true =>
        rw [hble] at h
        have hle : n + m ≤ cap / 2 := of_ble hble
        have h : appendIn size s base n cap m new = some (v, s') := h
        unfold appendIn at h
        cases base with
        | none =>
          simp only at h
          cases h
          simp only [VRel] at hx
          obtain ⟨rfl, rfl, rfl⟩ := hx
          have hm0 : m = 0 := by omega
          subst hm0
          refine ⟨ρ, w, .slice none 0 0, ?_, hr, Goes.refl _ _ _, by simp [VRel]⟩
          rw [run_append_in tok h1 hd hs hlen (by omega)]
          simp [appendIn', hnew]
        | some a =>
          simp only [VRel] at hx
          obtain ⟨rb, a', c', hrb, ⟨hc, hn, ha, hroom⟩, rfl⟩ := hx
          have hle' : n + m ≤ c' := by rcases hc with ⟨_, rfl⟩ | ⟨_, h⟩ <;> omega
          have hval : VRel ρ (.slice (some a) (n + m) cap) (.slice (some a') (n + m) c') := by
            simp only [VRel]
            exact ⟨rb, _, _, hrb, ⟨hc, hle, ha, hroom⟩, rfl⟩
          by_cases hm0 : m = 0
          · subst hm0
            have h : some (Value.slice (some a) (n + 0) cap, s) = some (v, s') := h
            cases h
            refine ⟨ρ, w, _, ?_, hr, Goes.refl _ _ _, hval⟩
            rw [run_append_in tok h1 hd hs hlen hle']
            have : new' = [] := List.length_eq_zero_iff.1 (by rw [n3]; simp)
            subst this
            simp [appendIn', hnew, storeCells]
          · simp only [beqF hm0, cond_false] at h
            split at h
            · rename_i s₁ hw
              cases h
              have hc0 : c' ≠ 0 := by omega
              obtain rfl := ha.resolve_left hc0
              obtain ⟨rb', w', k1, k2, k3, k4⟩ := hr.write (P := P) hw nlen n1 n2 (n1.oneCell n2)
              rw [hrb] at k1; cases k1
              refine ⟨ρ, w', _, ?_, k3, k4, hval⟩
              rw [run_append_in tok h1 hd hs hlen hle']
              have : (⟨rb.blk, rb.base + a.off, none⟩ : Addr).add (n * size) = ⟨rb.blk, rb.base + (a.off + n * size), none⟩ := by rw [addr_add, Nat.add_assoc]
              have k2' : (storeCells ⟨rb.blk, rb.base + (a.off + n * size), none⟩ new').run P w = .ok () w' := k2
              simp [appendIn', hnew, this, k2']
            · cases h
      | false =>
        rw [hble] at h
        have hgt : ¬ n + m ≤ cap / 2 := fun e => by rw [show Nat.ble (Nat.add n m) (Nat.div cap 2) = true from Nat.ble_eq_true_of_le e] at hble; cases hble
        obtain ⟨hbig, h⟩ := cond_some (show cond (Nat.ble (Nat.add n m) 1000000) (appendOut e size s base n cap m new) none = some (v, s') from h)
        have hbig : n + m ≤ 1000000 := of_ble hbig
        -- a new row, in the machine
        have fresh : ∀ (s₀ : S) (base' : Option Addr) (cap' : Nat) (c : Rope) (old' : List Value), HRel C ρ s₀ w → Goes ρ s w ρ s₀ w → x' = .slice base' n cap' → ¬ n + m ≤ cap' → LRel ρ (c.flat []) (old' ++ new') → (∀ z ∈ c.flat [], z.oneCell = true) → old'.length = n * size →
            (Builtin.firstCells size n (.slice base' n cap')).run P w.drew = .ok old'.toArray w.drew →
            ActOk P C ρ s w (Builtin.append_ (st :: rest).toArray T #[x', y']) (.slice (some ⟨s₀.next, 0, none⟩) (n + m) (Nat.succ (Nat.mul 2 (n + m)))) (s₀.new (.cells c ((n + m) * size) e)) := by
          intro s₀ base' cap' c old' hr₀ hg₀ ex hno hc ho hol hold
          obtain ⟨ncap, z, hcap, h0, hrun⟩ := run_append_out (P := P) (w := w) (T := T) tok h1 hd hs hg (base := base') hlen hno hbig
          have hzs := (hz _ _ h0).2 _ hs
          have hrow := (hr₀.drawn (w.drawn + 1)).row (c := c) (size := (n + m) * size) (e := e) (esz := size) (fr := (0, 0)) (cs := old'.toArray ++ (new'.toArray ++ Builtin.zeroCells z.cells (ncap - (n + m)))) (l' := old' ++ new') hc ho
            (by rw [hc.length, List.length_append, hol, n3, Nat.add_mul]) (by rw [hC]; exact hs)
            (fun i u hi => by
              have hlt := (List.getElem?_eq_some_iff.1 hi).1
              simp only [List.length_append] at hlt
              rw [← Array.append_assoc, Array.getElem?_append_left (by simp; omega)]
              simpa using hi)
            (by intro i _ h; omega)
          refine ⟨_, _, .slice (some ⟨w.heap.size, 0, none⟩) (n + m) ncap, ?_, hrow.1, (hg₀.trans (Goes.drawn _)).trans hrow.2, ?_⟩
          · rw [ex]
            exact hrun _ _ hold hnewd
          · refine grown_rel (Rn.add_at _ _ _) (.inr rfl) hcap ?_
            show 0 + ncap * size ≤ _
            simp only [Array.size_append, List.size_toArray, hol, n3]
            have : (Builtin.zeroCells z.cells (ncap - (n + m))).size = (ncap - (n + m)) * size := by simp [Builtin.zeroCells, hzs]
            have e1 : n + (m + (ncap - (n + m))) = ncap := by omega
            rw [this, ← Nat.add_mul, ← Nat.add_mul, e1]
            omega
        unfold appendOut at h
        cases base with
        | none =>
          simp only at h
          cases h
          simp only [VRel] at hx
          obtain ⟨rfl, rfl, rfl⟩ := hx
          have := fresh s none 0 (.leaf new) [] hr (Goes.refl _ _ _) rfl (by omega) (by rw [flat_leaf]; exact n1) n2 (by simp) (by simp [Builtin.firstCells])
          simpa using this
        | some a =>
          simp only [VRel] at hx
          obtain ⟨rb, a', c', hrb, ⟨hc, hn, ha, hroom⟩, rfl⟩ := hx
          simp only at h
          split at h
          · rename_i c sz e' hget
            obtain ⟨rb', cs, e'', fr, q1, qN, q2, q3, q4, q5, q6, q7, q8⟩ := hr.cells hget
            rw [hrb] at q1; cases q1
            split at h
            · cases h
            · rename_i old hold
              -- the cells of old
              obtain ⟨old', p1, p2, p3, p4⟩ : ∃ old' : List Value, LRel ρ (old.flat []) old' ∧ (∀ z ∈ old.flat [], z.oneCell = true) ∧ old'.length = n * size ∧
                  (∀ j u, old'[j]? = some u → n ≠ 0 ∧ w.cell? ⟨rb.blk, rb.base + a.off + j, none⟩ = some u) := by
                cases hb0 : Nat.beq n 0 with
                | true =>
                  rw [hb0] at hold
                  have := of_beq hb0
                  subst this
                  cases hold
                  exact ⟨[], by simp [flat_leaf, LRel], by simp [flat_leaf], by simp, by simp⟩
                | false =>
                  rw [hb0] at hold
                  have hn0 : n ≠ 0 := fun e => by rw [beqT e] at hb0; cases hb0
                  have hread : s.read a.block a.off (n * size) = some (old.flat []) := by
                    unfold S.read
                    rw [hget]
                    exact wholeOf_read hold
                  obtain ⟨rb', l', r1, r2, r3, r4, r5⟩ := hr.read hread
                  rw [hrb] at r1; cases r1
                  exact ⟨l', r2, r4, r3, fun j u hj => ⟨hn0, r5 j u hj⟩⟩
              have haddr : n = 0 ∨ a' = ⟨rb.blk, rb.base + a.off, none⟩ := by
                by_cases hn0 : n = 0
                · exact .inl hn0
                · exact .inr (ha.resolve_left (by rcases hc with ⟨_, rfl⟩ | ⟨_, h⟩ <;> omega))
              have hfirst : (Builtin.firstCells size n (.slice (some a') n c')).run P w.drew = .ok old'.toArray w.drew := by
                have := run_loadCells_list (P := P) w.drew a' old' fun j u hj => by
                  obtain ⟨hn0, hcell⟩ := p4 j u hj
                  rw [haddr.resolve_left hn0, addr_add]
                  exact hcell
                rw [p3] at this
                exact this
              have hflat : (Rope.app old new).flat [] = old.flat [] ++ new := flat_app _ _
              have hrelF : LRel ρ ((Rope.app old new).flat []) (old' ++ new') := by rw [hflat]; exact p1.append n1
              have honeF : ∀ z ∈ (Rope.app old new).flat [], z.oneCell = true := by
                rw [hflat]
                intro z hz
                rcases List.mem_append.1 hz with hz | hz
                · exact p2 z hz
                · exact n2 z hz
              cases hodd : Nat.beq (Nat.mod cap 2) 1 with
              | false =>
                rw [hodd] at h
                have hno : ¬ n + m ≤ c' := by
                  rcases hc with ⟨_, rfl⟩ | ⟨h2, _⟩
                  · exact hgt
                  · rw [beqT (show Nat.mod cap 2 = 1 from h2)] at hodd; cases hodd
                have h : newRow s (.app old new) (Nat.mul (Nat.add n m) size) (Nat.add n m) e = (v, s') := Option.some.inj h
                unfold newRow at h
                cases h
                exact fresh s (some a') c' (.app old new) old' hr (Goes.refl _ _ _) rfl hno hrelF honeF p3 hfirst
              | true =>
                rw [hodd] at h
                obtain ⟨he, h⟩ := cond_some (show cond (Nat.beq e' e) (some (newRow (s.kill a.block) (.app old new) (Nat.mul (Nat.add n m) size) (Nat.add n m) e)) none = some (v, s') from h)
                have he := of_beq he
                subst he
                have h : newRow (s.kill a.block) (.app old new) (Nat.mul (Nat.add n m) size) (Nat.add n m) e' = (v, s') := Option.some.inj h
                unfold newRow at h
                cases h
                by_cases hin : n + m ≤ c'
                · -- there was room
                  have hodd' : cap % 2 = 1 := of_beq hodd
                  have hc0 : c' ≠ 0 := by omega
                  obtain rfl := ha.resolve_left hc0
                  have hesz : rb.esz = size := by
                    rw [hC, hs] at q5
                    exact (Option.some.inj q5).symm
                  have hroom := hroom hodd'
                  rw [hesz] at hroom
                  have hmul : (n + m) * size ≤ c' * size := Nat.mul_le_mul_right _ hin
                  rw [Nat.add_mul] at hmul
                  have hst := run_storeCells (P := P) (o := rb.base + a.off + n * size) new' 0 cs w q2 (by omega) (fun j hj => by
                    exact q7 _ (by omega)) (n1.oneCell n2)
                  simp only [Nat.add_zero] at hst
                  have hre := hr.reroot (o₁ := .cells (.app old new) (Nat.mul (Nat.add n m) size) e') (rb' := ⟨rb.blk, rb.base + a.off, rb.size, rb.esz⟩) (o' := .cells (putL cs (rb.base + a.off + n * size) new') e'' fr) hget hrb rfl
                    ⟨_, e'', fr, rfl, by rw [hrelF.length, List.length_append, p3, n3, ← Nat.add_mul]; rfl, by rw [putL_size]; exact q4, q5, fun i u hi => by
                      refine ⟨honeF u (List.mem_of_getElem? hi), ?_⟩
                      obtain ⟨u', g1, g2⟩ := hrelF.get _ hi
                      refine ⟨u', ?_, g2⟩
                      show (putL cs (rb.base + a.off + n * size) new')[rb.base + a.off + i]? = some u'
                      rw [putL_get _ _ _ _ (by omega)]
                      by_cases hlo : i < n * size
                      · rw [if_neg (by omega)]
                        rw [List.getElem?_append_left (by omega)] at g1
                        have := (p4 _ _ g1).2
                        simp only [World.cell?, q2] at this
                        simpa using this
                      · rw [List.getElem?_append_right (by omega), p3] at g1
                        have hlt := (List.getElem?_eq_some_iff.1 g1).1
                        rw [if_pos (by omega), ← g1]
                        congr 1
                        omega, q7, q8⟩
                  refine ⟨_, _, .slice (some ⟨rb.blk, rb.base + a.off, none⟩) (n + m) c', ?_, hre.1, hre.2, ?_⟩
                  · rw [run_append_in tok h1 hd hs hlen hin]
                    have : (⟨rb.blk, rb.base + a.off, none⟩ : Addr).add (n * size) = ⟨rb.blk, rb.base + a.off + n * size, none⟩ := by rw [addr_add]
                    simp [appendIn', hnew, this, hst]
                  · exact grown_rel (Rn.add_at _ _ _) (.inr rfl) hin (by show rb.base + a.off + c' * rb.esz ≤ rb.size; rw [hesz]; exact hroom)
                · exact fresh (s.kill a.block) (some a') c' (.app old new) old' (hr.kill _) (Goes.kill _) rfl hin hrelF honeF p3 hfirst
          · cases h
  · cases h

end Go.Ac
end
section
namespace Go.Ac
variable {P : Program} {tab : Tab} {C : Cx} {ρ : Rn} {s : S} {w : World} (tok : TabOk P tab)

/-! ### 'copy' and 'clear' -/
theorem min_cond (m n : Nat) : (cond (Nat.ble m n) m n) = Nat.min m n := by
  cases h : Nat.ble m n with
  | true => have := of_ble h; show m = min m n; omega
  | false =>
    have : ¬ m ≤ n := fun e => by rw [Nat.ble_eq_true_of_le e] at h; cases h
    show n = min m n; omega

include tok in
theorem copy_ok (hr : HRel C ρ s w) {st e size : Nat} {rest : List TypeId} {T : Nat} (hd : tab.desc st = some (.slice e)) (hs : tab.size e = some size)
    {x x' y y' v : Value} {s' : S} (hx : VRel ρ x x') (hy : VRel ρ y y') (h : vCopy size s x y = some (v, s')) : ActOk P C ρ s w (Builtin.copy_ (st :: rest).toArray T #[x', y']) v s' := by
  unfold vCopy at h
  split at h
  · rename_i base n cap
    cases hsrc : srcCells s size y with
    | none => simp [hsrc] at h
    | some q =>
      obtain ⟨m, new⟩ := q
      simp only [hsrc, min_cond] at h
      obtain ⟨hlen, new', n1, n2, n3, n4⟩ := src_ok hy hr hsrc
      have hk : Nat.min m n ≤ m := Nat.min_le_left _ _
      have hfirst := n4 _ hk w.drawn
      have hfirst : (Builtin.firstCells size (Nat.min m n) y').run P w = .ok (new'.take (Nat.min m n * size)).toArray w := hfirst
      cases base with
      | none =>
        simp only at h
        cases h
        simp only [VRel] at hx
        obtain ⟨rfl, rfl, rfl⟩ := hx
        refine ⟨ρ, w, goInt (Nat.min m 0 : Nat), ?_, hr, Goes.refl _ _ _, VRel.mkInt _ _⟩
        have e0 : Nat.min m 0 = 0 := Nat.min_zero m
        rw [e0] at hfirst
        simp [Builtin.copy_, tok.run_underlying hd, tok.run_size hs, hlen, hfirst]
      | some ad =>
        simp only at h
        simp only [VRel] at hx
        obtain ⟨rb, a', c', hrb, ⟨hc, hn, ha, hroom⟩, rfl⟩ := hx
        by_cases h0 : Nat.min m n = 0
        · rw [h0] at h hfirst
          have h : some (Value.int .i64 0, s) = some (v, s') := h
          cases h
          refine ⟨ρ, w, goInt ((0 : Nat)), ?_, hr, Goes.refl _ _ _, VRel.mkInt _ _⟩
          simp [Builtin.copy_, tok.run_underlying hd, tok.run_size hs, hlen, h0, hfirst, storeCells]
        · rw [beqF h0] at h
          simp only [cond_false] at h
          split at h
          · rename_i l hl
            obtain ⟨rfl, hll⟩ := takeN_some hl
            unfold withS at h
            split at h
            · rename_i s₁ hw
              cases h
              have hc0 : c' ≠ 0 := by
                have : Nat.min m n ≤ n := Nat.min_le_right _ _
                rcases hc with ⟨_, rfl⟩ | ⟨_, h⟩ <;> omega
              obtain rfl := ha.resolve_left hc0
              have hr1 := n1.take (Nat.min m n * size)
              have ho1 : ∀ z ∈ new.take (Nat.min m n * size), z.oneCell = true := fun z hz => n2 z (List.mem_of_mem_take hz)
              have hll : Nat.min m n * size ≤ new.length := hll
              obtain ⟨rb', w', k1, k2, k3, k4⟩ := hr.write (P := P) hw (by show (new.take (Nat.min m n * size)).length = Nat.min m n * size; simp only [List.length_take]; omega) hr1 ho1 (hr1.oneCell ho1)
              rw [hrb] at k1; cases k1
              refine ⟨ρ, w', goInt (Nat.min m n : Nat), ?_, k3, k4, VRel.mkInt _ _⟩
              simp [Builtin.copy_, tok.run_underlying hd, tok.run_size hs, hlen, hfirst, k2]
            · cases h
          · cases h
  · cases h

theorem zeroCells_eq (z : Array Value) (n : Nat) : (Builtin.zeroCells z n).toList = zeros z.toList n := by
  have := zero_row z n (n * z.size) rfl
  have h2 : Builtin.zeroCells z n = ((Array.range (n * z.size)).map (z[· % z.size]!)) := rfl
  rw [h2, this]

include tok in
theorem clear_ok (hz : ZerosOk tab) (hr : HRel C ρ s w) {st e size : Nat} {rest : List TypeId} {T : Nat} (hd : tab.desc st = some (.slice e)) (hs : tab.size e = some size) {z : Value} (h0 : tab.zero e = some z) {c : List Value} (hc : cellsO z = some c) (hl : c.length = size)
    {x x' v : Value} {s' : S} (hx : VRel ρ x x') (h : vClear size c s x = some (v, s')) : ActOk P C ρ s w (Builtin.clear_ (st :: rest).toArray T #[x']) v s' := by
  obtain ⟨z1, z2, z3⟩ := cells_zero (hz _ _ h0).1 hc ρ
  have htup : VRel ρ (.tuple #[]) (.tuple #[]) := undef_rel ρ
  unfold vClear at h
  split at h
  · cases h
    simp only [VRel] at hx
    obtain ⟨rfl, rfl, rfl⟩ := hx
    exact ⟨ρ, w, _, by simp [Builtin.clear_, tok.run_underlying hd], hr, Goes.refl _ _ _, htup⟩
  · rename_i ad n cap
    simp only [VRel] at hx
    obtain ⟨rb, a', c', hrb, ⟨hcc, hn, ha, hroom⟩, rfl⟩ := hx
    by_cases hn0 : n = 0
    · subst hn0
      have h : some (Value.tuple #[], s) = some (v, s') := h
      cases h
      exact ⟨ρ, w, _, by simp [Builtin.clear_, tok.run_underlying hd], hr, Goes.refl _ _ _, htup⟩
    · simp only [beqF hn0, cond_false] at h
      unfold withS at h
      split at h
      · rename_i s₁ hw
        cases h
        have hc0 : c' ≠ 0 := by rcases hcc with ⟨_, rfl⟩ | ⟨_, h⟩ <;> omega
        obtain rfl := ha.resolve_left hc0
        have ho1 : ∀ x ∈ zeros c n, x.oneCell = true := fun x hx => z3 x (zeros_mem hx)
        obtain ⟨rb', w', k1, k2, k3, k4⟩ := hr.write (P := P) hw (by rw [zeros_length, hl]; rfl) (z2.zeros n) ho1 ho1
        rw [hrb] at k1; cases k1
        refine ⟨ρ, w', .tuple #[], ?_, k3, k4, htup⟩
        have hzc : (Builtin.zeroCells z.cells n).toList = zeros c n := by rw [zeroCells_eq, z1]
        obtain ⟨n, rfl⟩ : ∃ k, n = k + 1 := ⟨n - 1, by omega⟩
        simp [Builtin.clear_, tok.run_underlying hd, tok.run_zero h0, hzc, k2]
      · cases h
  · cases h

/-! ### maps that are turned -/
/-- a map's entries, turned -/
theorem map_turn (hr : HRel C ρ s w) {r : Nat} {rb : RB} {es : List AEntry} {c : Nat} {es' : Array MapEntry} (hg : s.get r = some (.map es c)) (hb : ρ r = some rb) (hw : w.heap[rb.blk]? = some (.map es' c)) {es₁ : List AEntry} {es₁' : Array MapEntry} {c₁ : Nat} (he : ERel ρ es₁ es₁'.toList) :
    (setObj rb.blk (.map es₁' c₁)).run P w = .ok () (World.setObj w rb.blk (.map es₁' c₁)) ∧ HRel C ρ (s.put r (.map es₁ c₁)) (World.setObj w rb.blk (.map es₁' c₁)) ∧ Goes ρ s w ρ (s.put r (.map es₁ c₁)) (World.setObj w rb.blk (.map es₁' c₁)) := by
  refine ⟨run_setObj hw (by simp) _, ?_⟩
  exact hr.turn hg hb (fun c => S.get_put _ _ _ _) rfl ⟨es₁', rfl, he⟩

theorem ERel.push {l : List AEntry} {m : List MapEntry} (h : ERel ρ l m) {k k' v v' : Value} (hk : VRel ρ k k') (hv : VRel ρ v v') (b : Nat) : ERel ρ (l ++ [⟨k, v, b⟩]) (m ++ [⟨k', v', b⟩]) := by
  induction l generalizing m with
  | nil =>
    simp only [ERel] at h
    subst h
    simp only [List.nil_append, ERel]
    exact ⟨_, [], rfl, rfl, hk, hv, rfl⟩
  | cons e l ih =>
    simp only [ERel] at h
    obtain ⟨e', r, rfl, h1, h2, h3, h4⟩ := h
    simp only [List.cons_append, ERel]
    exact ⟨e', _, rfl, h1, h2, h3, ih h4⟩

theorem ERel.setVal {k k' v v' : Value} (hk : VRel ρ k k') (hv : VRel ρ v v') : ∀ {i : Nat} {l : List AEntry} {m : List MapEntry}, ERel ρ l m → ERel ρ (Ac.setVal k v i l) (m.modify i fun e => { e with key := k', val := v' })
  | i, [], m, h => by
    simp only [ERel] at h
    subst h
    cases i <;> simp [Ac.setVal, ERel]
  | 0, x :: xs, m, h => by
    simp only [ERel] at h
    obtain ⟨e', r, rfl, h1, h2, h3, h4⟩ := h
    simp only [Ac.setVal, List.modify_zero_cons, ERel]
    exact ⟨_, r, rfl, h1, hk, hv, h4⟩
  | i + 1, x :: xs, m, h => by
    simp only [ERel] at h
    obtain ⟨e', r, rfl, h1, h2, h3, h4⟩ := h
    simp only [Ac.setVal, List.modify_succ_cons, ERel]
    exact ⟨e', _, rfl, h1, h2, h3, ERel.setVal hk hv h4⟩

theorem ERel.erase : ∀ {i : Nat} {l : List AEntry} {m : List MapEntry}, ERel ρ l m → ERel ρ (eraseL i l) (m.eraseIdx i)
  | i, [], m, h => by
    simp only [ERel] at h
    subst h
    cases i <;> simp [eraseL, ERel]
  | 0, x :: xs, m, h => by
    simp only [ERel] at h
    obtain ⟨e', r, rfl, h1, h2, h3, h4⟩ := h
    simpa [eraseL] using h4
  | i + 1, x :: xs, m, h => by
    simp only [ERel] at h
    obtain ⟨e', r, rfl, h1, h2, h3, h4⟩ := h
    simp only [eraseL, List.eraseIdx_cons_succ, ERel]
    exact ⟨e', _, rfl, h1, h2, h3, ERel.erase h4⟩

include tok in
theorem delete_ok (hr : HRel C ρ s w) {mt kt et : Nat} {rest : List TypeId} {T : Nat} (hd : tab.desc mt = some (.map kt et)) {m m' k k' v : Value} {s' : S} (hm : VRel ρ m m') (hk : VRel ρ k k') (h : vDelete (keyT tab kt) s m k = some (v, s')) : ActOk P C ρ s w (Builtin.delete_ (mt :: rest).toArray T #[m', k']) v s' := by
  have htup : VRel ρ (.tuple #[]) (.tuple #[]) := undef_rel ρ
  unfold vDelete at h
  split at h
  · obtain ⟨hnil, h⟩ := cond_some h
    cases h
    simp only [VRel] at hm
    subst hm
    obtain ⟨ds, _, hck, _⟩ := keyT_ok (P := P) (w := w) tok hnil hk
    exact ⟨ρ, w, _, by simp [Builtin.delete_, tok.run_underlying hd, hck], hr, Goes.refl _ _ _, htup⟩
  · rename_i r
    split at h
    · cases h
    · rename_i es c hsm
      obtain ⟨rb, es', h1, h2, h3, h4⟩ := map_there hr hsm
      simp only [VRel] at hm
      obtain ⟨rb', h5, rfl⟩ := hm
      rw [h1] at h5; cases h5
      have hgo := run_getObj (P := P) h3 (by simp)
      split at h
      · rename_i i u hf
        cases h
        obtain ⟨hck, q, k1, k2⟩ := findKey_ok (P := P) (w := w) tok hk h4 hf
        obtain ⟨u', rfl, hu⟩ := k2
        have he : ERel ρ (eraseL i es) (es'.eraseIdxIfInBounds i).toList := by
          have := ERel.erase (i := i) h4
          have e2 : (es'.eraseIdxIfInBounds i).toList = es'.toList.eraseIdx i := by
            unfold Array.eraseIdxIfInBounds
            split
            · simp
            · rename_i hlt
              rw [List.eraseIdx_of_length_le (by simpa using hlt)]
          rw [e2]; exact this
        obtain ⟨m1, m2, m3⟩ := map_turn (P := P) hr h2 h1 h3 (c₁ := c) he
        exact ⟨ρ, _, _, by simp [Builtin.delete_, tok.run_underlying hd, hgo, hck, k1, m1], m2, m3, htup⟩
      · rename_i hf
        cases h
        obtain ⟨hck, q, k1, k2⟩ := findKey_ok (P := P) (w := w) tok hk h4 hf
        have k2 : q = none := k2
        subst k2
        obtain ⟨m1, m2, m3⟩ := map_turn (P := P) hr h2 h1 h3 (c₁ := c) h4
        have hput : HRel C ρ s (World.setObj w rb.blk (.map es' c)) ∧ Goes ρ s w ρ s (World.setObj w rb.blk (.map es' c)) := by
          exact hr.turn h2 h1 (fun d => by split; · rename_i e; subst e; exact h2
                                           · rfl) rfl (o₁ := .map es c) ⟨es', rfl, h4⟩
        exact ⟨ρ, _, _, by simp [Builtin.delete_, tok.run_underlying hd, hgo, hck, k1, m1], hput.1, hput.2, htup⟩
      · cases h
  · cases h

end Go.Ac
end
section
namespace Go.Ac
variable {P : Program} {tab : Tab} {C : Cx} {ρ : Rn} {s : S} {w : World} (tok : TabOk P tab)

theorem findKey_hit {e : VB} {k : Value} : ∀ {es : List AEntry} {j i : Nat} {v : Value}, findKey' e k es j = some (some (i, v)) → j ≤ i ∧ ∃ x, nthE (i - j) es = some x ∧ e.run k x.key = some true ∧ x.val = v
  | [], j, i, v, h => by cases h
  | x :: xs, j, i, v, h => by
    unfold findKey' at h
    cases hc : e.run k x.key with
    | none => simp [hc] at h
    | some b =>
      cases b with
      | true =>
        simp only [hc] at h
        cases h
        exact ⟨Nat.le_refl _, x, by rw [Nat.sub_self]; rfl, hc, rfl⟩
      | false =>
        simp only [hc] at h
        obtain ⟨h1, y, h2, h3, h4⟩ := findKey_hit h
        have h1 : j + 1 ≤ i := h1
        refine ⟨by omega, y, ?_, h3, h4⟩
        rw [show i - j = (i - (j + 1)) + 1 by omega]
        exact h2

theorem ERel.nth : ∀ {i : Nat} {l : List AEntry} {m : List MapEntry}, ERel ρ l m → ∀ {x : AEntry}, nthE i l = some x → ∃ x', m[i]? = some x' ∧ x'.born = x.born ∧ VRel ρ x.key x'.key ∧ VRel ρ x.val x'.val
  | i, [], m, h, x, hx => by cases i <;> cases hx
  | 0, y :: l, m, h, x, hx => by
    simp only [ERel] at h
    obtain ⟨e', r, rfl, h1, h2, h3, h4⟩ := h
    cases hx
    exact ⟨e', rfl, h1, h2, h3⟩
  | i + 1, y :: l, m, h, x, hx => by
    simp only [ERel] at h
    obtain ⟨e', r, rfl, h1, h2, h3, h4⟩ := h
    obtain ⟨x', k1, k2⟩ := ERel.nth h4 hx
    exact ⟨x', by simpa using k1, k2⟩

theorem sameBits_plain {v : Value} (h : Plain v) (n : Nat) : Instr.sameBits n v v = true := by
  rcases h with ⟨k, m, rfl⟩ | ⟨b, rfl⟩ | ⟨b, rfl⟩
  · simp [Instr.sameBits]
  · simp only [Instr.sameBits]
    rw [beq_toListBytes]; exact beq_self_eq_true _
  · simp [Instr.sameBits]

theorem plain_list {ρ : Rn} : ∀ {x m : List Value}, (∀ v ∈ x, Plain v) → LRel ρ x m → m = x
  | [], m, _, h => by simpa only [LRel] using h
  | v :: x, m, hp, h => by
    simp only [LRel] at h
    obtain ⟨w, r, rfl, hv, hl⟩ := h
    rw [(hp v (by simp)).rel hv, plain_list (fun u hu => hp u (by simp [hu])) hl]

theorem sameBits_list {x : List Value} (hp : ∀ v ∈ x, Plain v) (n : Nat) : ((x.zip x).all fun (a, b) => Instr.sameBits n a b) = true := by
  rw [List.all_eq_true]
  intro p hp'
  rw [List.zip_eq_zipWith, List.zipWith_self] at hp'
  obtain ⟨v, hv, rfl⟩ := List.mem_map.1 hp'
  exact sameBits_plain (hp v hv) n

/-- a key that is found stays as it is -/
theorem key_stays {t : TypeId} {k k' y y' : Value} (hk : VRel ρ k k') (hy : VRel ρ y y') (h1 : (keyT tab t).ok k = true) (h2 : (keyT tab t).ok y = true) (h3 : (keyT tab t).eq.run k y = some true) :
    (Instr.keyThatStays y' k').run P w = .ok k' w := by
  have key : Instr.sameBits 10000 y' k' = true := by
    have flatKind : ∀ c : VB, c.flat → c.run k y = some true → Instr.sameBits 10000 y' k' = true := by
      intro c hc hr
      have : k = y ∧ Plain k := by
        rcases hc with rfl | rfl | rfl
        · obtain ⟨j, m, n, rfl, rfl, e⟩ := cI_some hr
          rw [beq_iff_eq.1 e.symm]; exact ⟨rfl, .inl ⟨_, _, rfl⟩⟩
        · obtain ⟨m, n, rfl, rfl, e⟩ := cS_some hr
          rw [bytes_of_beq e.symm]; exact ⟨rfl, .inr (.inl ⟨_, rfl⟩)⟩
        · obtain ⟨m, n, rfl, rfl, e⟩ := cB_some hr
          rw [beq_iff_eq.1 e.symm]; exact ⟨rfl, .inr (.inr ⟨_, rfl⟩)⟩
      obtain ⟨rfl, hp⟩ := this
      rw [hp.rel hk, hp.rel hy]
      exact sameBits_plain hp _
    have agg : ∀ L, (∀ c ∈ L, c.flat) → onOpt false (fun a => Nat.beq L.length (lenL (Array.toList a))) (vA k) = true → onOpt false (fun a => Nat.beq L.length (lenL (Array.toList a))) (vA y) = true → eqAgg L k y = some true → Instr.sameBits 10000 y' k' = true := by
      intro L hL l1 l2 he
      obtain ⟨a, g1, g2⟩ := onOpt_some (show onOpt none (fun a => onOpt none (fun b => eqCells L (Array.toList a) (Array.toList b)) (vA y)) (vA k) = some true from he)
      obtain ⟨b, g3, h4⟩ := onOpt_some g2
      rw [g1] at l1
      rw [g3] at l2
      have l1 := of_beq (show Nat.beq L.length (lenL a.toList) = true from l1)
      have l2 := of_beq (show Nat.beq L.length (lenL b.toList) = true from l2)
      rw [lenL_eq] at l1 l2
      obtain rfl := vA_some g1
      obtain rfl := vA_some g3
      obtain ⟨e1, e2⟩ := eqCells_same hL l1.symm l2.symm h4
      obtain ⟨ds, rfl, ld, _⟩ := hk.agg
      obtain ⟨es, rfl, le, _⟩ := hy.agg
      have p1 := plain_list e2 ld
      rw [← e1] at le
      have p2 := plain_list e2 le
      have : es = ds := Array.ext' (p2.trans p1.symm)
      subst this
      rw [show (10000 : Nat) = 9999 + 1 from rfl]
      simp only [Instr.sameBits, beq_self_eq_true, Bool.true_and]
      rw [p1]
      exact sameBits_list e2 9999
    unfold keyT at h1 h2 h3
    cases hu : tab.desc t with
    | none => simp [hu] at h1
    | some ds =>
      simp only [hu] at h1 h2 h3
      cases ds with
      | bool => exact flatKind cB (.inr (.inr rfl)) h3
      | int q => exact flatKind cI (.inl rfl) h3
      | string => exact flatKind cS (.inr (.inl rfl)) h3
      | struct fs =>
        simp only at h1 h2 h3
        cases hd : dense tab 20 t with
        | none => simp [hd] at h1
        | some L =>
          simp only [hd] at h1 h2 h3
          exact agg L (dense_flat hd) h1 h2 h3
      | array n e =>
        simp only at h1 h2 h3
        cases hd : dense tab 20 t with
        | none => simp [hd] at h1
        | some L =>
          simp only [hd] at h1 h2 h3
          exact agg L (dense_flat hd) h1 h2 h3
      | _ => simp at h1
  unfold Instr.keyThatStays
  rw [if_pos key]
  rfl

/-! ### entries that are put -/
include tok in
theorem mapUpdate_ok (hr : HRel C ρ s w) {mt kt et : Nat} (hd : tab.desc mt = some (.map kt et)) {m m' k k' v v' u : Value} {s' : S} (hm : VRel ρ m m') (hk : VRel ρ k k') (hv : VRel ρ v v') (h : vMapUpdate (keyT tab kt) s m k v = some (u, s')) :
    UAct P C ρ s w (Instr.mapUpdate mt m' k' v') s' := by
  unfold vMapUpdate at h
  split at h
  · rename_i r
    split at h
    · cases h
    · rename_i es c hsm
      obtain ⟨rb, es', h1, h2, h3, h4⟩ := map_there hr hsm
      simp only [VRel] at hm
      obtain ⟨rb', h5, rfl⟩ := hm
      rw [h1] at h5; cases h5
      have hgo := run_getObj (P := P) h3 (by simp)
      split at h
      · rename_i i u hf
        split at h
        · rename_i x hx
          obtain ⟨hok, h⟩ := cond_some h
          cases h
          obtain ⟨hck, q, k1, k2⟩ := findKey_ok (P := P) (w := w) tok hk h4 hf
          obtain ⟨u', rfl, hu⟩ := k2
          obtain ⟨hk1, hk2⟩ := cond_some hf
          obtain ⟨_, x₀, g1, g2, g3⟩ := findKey_hit hk2
          rw [Nat.sub_zero, hx] at g1
          cases g1
          obtain ⟨x', f1, f2, f3, f4⟩ := h4.nth hx
          have hst := key_stays (P := P) (w := w) hk f3 hk1 hok g2
          have f1' : es'[i]? = some x' := by rw [← Array.getElem?_toList]; exact f1
          have he : ERel ρ (setVal k v i es) (es'.modify i fun e => { e with key := k', val := v' }).toList := by
            have := ERel.setVal (i := i) hk hv h4
            rw [Array.toList_modify]
            exact this
          obtain ⟨m1, m2, m3⟩ := map_turn (P := P) hr h2 h1 h3 (c₁ := c) he
          refine ⟨ρ, _, ?_, m2, m3⟩
          simp [Instr.mapUpdate, tok.run_underlying hd, hgo, hck, k1, f1', hst, m1]
        · cases h
      · rename_i hf
        cases h
        obtain ⟨hck, q, k1, k2⟩ := findKey_ok (P := P) (w := w) tok hk h4 hf
        have k2 : q = none := k2
        subst k2
        have he : ERel ρ (es ++ [⟨k, v, c⟩]) (es'.push { key := k', val := v', born := c }).toList := by
          rw [Array.toList_push]
          exact h4.push hk hv c
        obtain ⟨m1, m2, m3⟩ := map_turn (P := P) hr h2 h1 h3 (c₁ := c + 1) he
        refine ⟨ρ, _, ?_, m2, m3⟩
        simp [Instr.mapUpdate, tok.run_underlying hd, hgo, hck, k1, m1]
      · cases h
  · cases h

end Go.Ac
end
