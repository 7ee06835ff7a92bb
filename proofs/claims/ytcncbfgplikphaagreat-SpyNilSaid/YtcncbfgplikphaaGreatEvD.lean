/-
  Part EvD of the proof: a deterministic evaluator of the machine, its soundness, and what it gives for this seat.
-/
import Derived.Test.YtcncbfgplikphaaGreatEvC
import Derived.RowKit3
section
namespace Go.Ac
variable {P : Program} {tab : Tab} {C : Cx} {ρ ρ₀ ρ₁ : Rn} {s s₀ s₁ : S} {w w₀ w₁ w' : World} {a b : A} {a' : Act} {o : Oper} {E : Env} {n : Nat} {ops : List Oper} {bm : List Nat} {em : Nat}

/-! ### blocks that have a name, but stand in the memory later -/
structure PendOk (C : Cx) (D : Nat → Bool) (N₀ H₀ : Nat) (ρ : Rn) (s : S) (w : World) (pend : Pend) : Prop where
  each : ∀ x ∈ pend, N₀ ≤ x.2.1 ∧ x.2.1 < s.next ∧ (D x.1 = false → ρ x.2.1 = none) ∧
    (D x.1 = true → ∃ rb o', ρ x.2.1 = some rb ∧ C.N ≤ rb.blk ∧ H₀ ≤ rb.blk ∧ rb.blk < w.heap.size ∧ w.heap[rb.blk]? = some o' ∧ ORel ρ C rb x.2.2 o' ∧ ¬ Img ρ s rb.blk)
  names : pend.Pairwise fun x y => x.2.1 ≠ y.2.1
  blocks : pend.Pairwise fun x y => ∀ rb rb', ρ x.2.1 = some rb → ρ y.2.1 = some rb' → rb.blk ≠ rb'.blk

variable {D : Nat → Bool} {N₀ H₀ : Nat} {pend : Pend}

theorem PendOk.went (h : PendOk C D N₀ H₀ ρ s w pend) (g : Goes ρ s w ρ₁ s₁ w₁) : PendOk C D N₀ H₀ ρ₁ s₁ w₁ pend := by
  have hold : ∀ x ∈ pend, ρ₁ x.2.1 = ρ x.2.1 := fun x hx => g.old _ (h.each x hx).2.1
  refine ⟨fun x hx => ?_, h.names, h.blocks.imp_of_mem fun hx hy hxy rb rb' e1 e2 => ?_⟩
  · obtain ⟨h1, h2, h3, h4⟩ := h.each x hx
    refine ⟨h1, Nat.lt_of_lt_of_le h2 g.nxt, fun hD => by rw [hold x hx]; exact h3 hD, fun hD => ?_⟩
    obtain ⟨rb, o', k1, k2, k3, k4, k5, k6, k7⟩ := h4 hD
    refine ⟨rb, o', by rw [hold x hx]; exact k1, k2, k3, Nat.lt_of_lt_of_le k4 g.size, by rw [g.keep _ k4 k7]; exact k5, k6.mono g.ext, fun hi => ?_⟩
    rcases g.img _ hi with hi | hi
    · exact k7 hi
    · omega
  · rw [hold _ hx] at e1
    rw [hold _ hy] at e2
    exact hxy rb rb' e1 e2

theorem Img.put {r : Nat} {x : AO} {rb : RB} (hρ : ρ r = some rb) {i : Nat} (h : Img ρ (s.put r x) i) : i = rb.blk ∨ Img ρ s i := by
  obtain ⟨c, y, rc, h1, h2, h3⟩ := h
  rw [S.get_put] at h1
  by_cases hc : c = r
  · subst hc
    rw [hρ] at h2; cases h2
    exact .inl h3.symm
  · rw [if_neg hc] at h1
    exact .inr ⟨c, y, rc, h1, h2, h3⟩

theorem HRel.putPend (hr : HRel C ρ s w) {r : Nat} {x : AO} {rb : RB} {o' : Obj} (hρ : ρ r = some rb) (hN : C.N ≤ rb.blk) (hw : w.heap[rb.blk]? = some o') (ho : ORel ρ C rb x o') (hni : ¬ Img ρ s rb.blk) : HRel C ρ (s.put r x) w := by
  refine ⟨hr.low, hr.glob, fun b y hb => ?_, fun b₁ b₂ o₁ o₂ r₁ r₂ e₁ e₂ k₁ k₂ he => ?_, hr.fresh⟩
  · rw [S.get_put] at hb
    by_cases hc : b = r
    · subst hc
      simp at hb; subst hb
      exact ⟨rb, hρ, hN, o', hw, ho⟩
    · rw [if_neg hc] at hb
      exact hr.live _ _ hb
  · rw [S.get_put] at e₁ e₂
    by_cases h1 : b₁ = r
    · by_cases h2 : b₂ = r
      · rw [h1, h2]
      · rw [if_neg h2] at e₂
        subst h1
        rw [hρ] at k₁; cases k₁
        exact absurd ⟨b₂, _, r₂, e₂, k₂, he.symm⟩ hni
    · rw [if_neg h1] at e₁
      by_cases h2 : b₂ = r
      · subst h2
        rw [hρ] at k₂; cases k₂
        exact absurd ⟨b₁, _, r₁, e₁, k₁, he⟩ hni
      · rw [if_neg h2] at e₂
        exact hr.inj _ _ _ _ _ _ e₁ e₂ k₁ k₂ he

theorem Went.putPend (h : Went ρ₀ s₀ w₀ ρ s w) {r : Nat} {x : AO} {rb : RB} (hr : s₀.next ≤ r) (hρ : ρ r = some rb) (hH : w₀.heap.size ≤ rb.blk) : Went ρ₀ s₀ w₀ ρ (s.put r x) w :=
  ⟨⟨h.goes.ext, fun i hi => by
      rcases hi.put hρ with rfl | hi
      · exact .inr hH
      · exact h.goes.img i hi, h.goes.keep, h.goes.size, h.goes.tape, h.goes.os, h.goes.out, h.goes.old, h.goes.nxt⟩, by
    obtain ⟨l, e1, e3, e2⟩ := h.log.log
    refine ⟨⟨r :: l, by rw [S.log_put, e1]; rfl, by rw [S.cnt_put, e3, List.length_cons]; omega, fun b hb => ?_⟩, h.log.nxt, fun b hb r' hr' => ?_⟩
    · simp only [List.mem_cons, not_or] at hb
      rw [S.get_put, if_neg hb.1]
      exact e2 b hb.2
    · rw [S.get_put, if_neg (by omega)] at hr'
      exact h.log.loops b hb r' hr'⟩

theorem PendOk.put {i r : Nat} {x : AO} (h : PendOk C D N₀ H₀ ρ s w ((i, r, x) :: pend)) {rb : RB} (hρ : ρ r = some rb) : PendOk C D N₀ H₀ ρ (s.put r x) w pend := by
  have hn := List.pairwise_cons.1 h.names
  have hb := List.pairwise_cons.1 h.blocks
  refine ⟨fun y hy => ?_, hn.2, hb.2⟩
  obtain ⟨h1, h2, h3, h4⟩ := h.each y (List.mem_cons_of_mem _ hy)
  refine ⟨h1, h2, h3, fun hD => ?_⟩
  obtain ⟨rb', o', k1, k2, k3, k4, k5, k6, k7⟩ := h4 hD
  refine ⟨rb', o', k1, k2, k3, k4, k5, k6, fun hi => ?_⟩
  rcases hi.put hρ with e | hi
  · exact hb.1 y hy rb rb' hρ k1 e.symm
  · exact k7 hi

theorem restB_mem {m : Nat} : ∀ {pend : Pend} {x}, x ∈ restB m pend → x ∈ pend ∧ m.testBit x.1 = false
  | (i, r, y) :: l, x, h => by
    unfold restB at h
    cases hm : m.testBit i with
    | true => rw [hm] at h; obtain ⟨h1, h2⟩ := restB_mem (pend := l) h; exact ⟨List.mem_cons_of_mem _ h1, h2⟩
    | false =>
      rw [hm] at h
      rcases List.mem_cons.1 h with rfl | h
      · exact ⟨by simp, hm⟩
      · obtain ⟨h1, h2⟩ := restB_mem (pend := l) h; exact ⟨List.mem_cons_of_mem _ h1, h2⟩
theorem restB_of {m : Nat} : ∀ {pend : Pend} {x}, x ∈ pend → m.testBit x.1 = false → x ∈ restB m pend
  | (i, r, y) :: l, x, h, hx => by
    unfold restB
    cases hm : m.testBit i with
    | true =>
      rcases List.mem_cons.1 h with rfl | h
      · rw [hm] at hx; cases hx
      · exact restB_of h hx
    | false =>
      rcases List.mem_cons.1 h with rfl | h
      · exact List.mem_cons_self
      · exact List.mem_cons_of_mem _ (restB_of h hx)

theorem PendOk.tail {x : Nat × Nat × AO} (h : PendOk C D N₀ H₀ ρ s w (x :: pend)) : PendOk C D N₀ H₀ ρ s w pend :=
  ⟨fun y hy => h.each y (List.mem_cons_of_mem _ hy), (List.pairwise_cons.1 h.names).2, (List.pairwise_cons.1 h.blocks).2⟩

/-- the blocks that an effect needs -/
theorem insertB_ok {m : Nat} : ∀ {pend : Pend} {s : S}, HRel C ρ s w → Went ρ₀ s₀ w₀ ρ s w → PendOk C D s₀.next w₀.heap.size ρ s w pend → (∀ x ∈ pend, m.testBit x.1 = true → D x.1 = true) →
    HRel C ρ (insertB m pend s) w ∧ Went ρ₀ s₀ w₀ ρ (insertB m pend s) w ∧ PendOk C D s₀.next w₀.heap.size ρ (insertB m pend s) w (restB m pend)
  | [], s, hr, hw, hp, _ => ⟨hr, hw, hp⟩
  | (i, r, x) :: l, s, hr, hw, hp, hm => by
    cases hb : m.testBit i with
    | true =>
      obtain ⟨h1, h2, h3, h4⟩ := hp.each (i, r, x) (by simp)
      obtain ⟨rb, o', k1, k2, k3, k4, k5, k6, k7⟩ := h4 (hm (i, r, x) (by simp) hb)
      have := insertB_ok (m := m) (pend := l) (s := s.put r x) (hr.putPend k1 k2 k5 k6 k7) (hw.putPend h1 k1 k3) (hp.put k1) fun y hy => hm y (List.mem_cons_of_mem _ hy)
      unfold insertB restB
      rw [hb]
      exact this
    | false =>
      have := insertB_ok (m := m) (pend := l) (s := s) hr hw hp.tail fun y hy => hm y (List.mem_cons_of_mem _ hy)
      unfold insertB restB
      simp only [hb, cond_false]
      refine ⟨this.1, this.2.1, ?_⟩
      -- the head stays behind
      have hins : ∀ {l : Pend} {s : S}, (insertB m l s).next = s.next ∧ ∀ j, Img ρ (insertB m l s) j → Img ρ s j ∨ ∃ y ∈ l, ∃ rb, ρ y.2.1 = some rb ∧ rb.blk = j := by
        intro l
        induction l with
        | nil => intro s; exact ⟨rfl, fun j hj => .inl hj⟩
        | cons y l ih =>
          intro s
          obtain ⟨i', r', x'⟩ := y
          unfold insertB
          cases m.testBit i' with
          | true =>
            simp only [cond_true]
            refine ⟨ih.1, fun j hj => ?_⟩
            rcases ih.2 j hj with hj | ⟨y, hy, rb, h1, h2⟩
            · obtain ⟨c, z, rc, e1, e2, e3⟩ := hj
              rw [S.get_put] at e1
              by_cases hc : c = r'
              · subst hc
                exact .inr ⟨_, List.mem_cons_self, rc, e2, e3⟩
              · rw [if_neg hc] at e1
                exact .inl ⟨c, z, rc, e1, e2, e3⟩
            · exact .inr ⟨y, List.mem_cons_of_mem _ hy, rb, h1, h2⟩
          | false =>
            simp only [cond_false]
            refine ⟨ih.1, fun j hj => ?_⟩
            rcases ih.2 j hj with hj | ⟨y, hy, rb, h1, h2⟩
            · exact .inl hj
            · exact .inr ⟨y, List.mem_cons_of_mem _ hy, rb, h1, h2⟩
      have hn := List.pairwise_cons.1 hp.names
      have hbk := List.pairwise_cons.1 hp.blocks
      refine ⟨fun y hy => ?_, List.pairwise_cons.2 ⟨fun y hy => hn.1 y (restB_mem hy).1, this.2.2.names⟩, List.pairwise_cons.2 ⟨fun y hy => hbk.1 y (restB_mem hy).1, this.2.2.blocks⟩⟩
      rcases List.mem_cons.1 hy with rfl | hy
      · obtain ⟨h1, h2, h3, h4⟩ := hp.each (i, r, x) (by simp)
        refine ⟨h1, by rw [hins.1]; exact h2, h3, fun hD => ?_⟩
        obtain ⟨rb, o', k1, k2, k3, k4, k5, k6, k7⟩ := h4 hD
        refine ⟨rb, o', k1, k2, k3, k4, k5, k6, fun hi => ?_⟩
        rcases hins.2 _ hi with hi | ⟨y, hy, rb', e1, e2⟩
        · exact k7 hi
        · exact hbk.1 y hy rb rb' k1 e1 e2.symm
      · exact this.2.2.each y hy

theorem insertAll_ok : ∀ {pend : Pend} {s : S}, HRel C ρ s w → Went ρ₀ s₀ w₀ ρ s w → PendOk C D s₀.next w₀.heap.size ρ s w pend → (∀ x ∈ pend, D x.1 = true) →
    HRel C ρ (insertAll pend s) w ∧ Went ρ₀ s₀ w₀ ρ (insertAll pend s) w
  | [], s, hr, hw, hp, _ => ⟨hr, hw⟩
  | (i, r, x) :: l, s, hr, hw, hp, hm => by
    obtain ⟨h1, h2, h3, h4⟩ := hp.each (i, r, x) (by simp)
    obtain ⟨rb, o', k1, k2, k3, k4, k5, k6, k7⟩ := h4 (hm (i, r, x) (by simp))
    exact insertAll_ok (pend := l) (s := s.put r x) (hr.putPend k1 k2 k5 k6 k7) (hw.putPend h1 k1 k3) (hp.put k1) fun y hy => hm y (List.mem_cons_of_mem _ hy)

/-! ### the frame runs ahead, the machine comes after -/
structure Inv (tab : Tab) (C : Cx) (ops : List Oper) (bm : List Nat) (n : Nat) (ρ₀ : Rn) (s₀ : S) (w₀ : World) (p : Nat) (pend : Pend) (rd : List Nat) (a : A) (s : S) (D : Nat → Bool) (â : A) (a' : Act) (w : World) (ρ : Rn) : Prop where
  st : St C ρ n â s a' w
  went : Went ρ₀ s₀ w₀ ρ s w
  dfs : a.defers = â.defers
  agree : ∀ t, t < 512 → (∀ i o, nthO i ops = some o → p.testBit i = true → D i = false → o.dst ≠ some t) → â.tmps.at_ t = a.tmps.at_ t
  sub : ∀ i, D i = true → p.testBit i = true
  effs : ∀ i o, nthO i ops = some o → isEff tab o = true → p.testBit i = true → D i = true
  down : ∀ i, D i = true → ∀ l, (nthM i bm).testBit l = true → D l = true
  pdown : ∀ i, p.testBit i = true → ∀ l, (nthM i bm).testBit l = true → p.testBit l = true
  lag : ∀ i o, nthO i ops = some o → isEff tab o = false → p.testBit i = true → D i = false →
    (∃ v, stepNE tab ops o a s = some (.val v) ∧ (∀ d, o.dst = some d → a.tmps.at_ d = v) ∧ (isReadC (compileOp tab o) = true → i ∈ rd)) ∨
    (∃ x g r, stepNE tab ops o a s = some (.blk x g) ∧ (∀ d, o.dst = some d → a.tmps.at_ d = g r) ∧ (i, r, x) ∈ pend)
  pnd : PendOk C D s₀.next w₀.heap.size ρ s w pend
  pin : ∀ x ∈ pend, p.testBit x.1 = true
  idxs : pend.Pairwise fun x y => x.1 ≠ y.1
  pblk : ∀ x ∈ pend, D x.1 = false → ∃ o g, nthO x.1 ops = some o ∧ stepNE tab ops o a s = some (.blk x.2.2 g) ∧ ∀ d, o.dst = some d → a.tmps.at_ d = g x.2.1

/-- what an operation looks at is a slot of the frame -/
theorem dep_lt (hall : ∀ x ∈ ops, operOk n C.G x = true) (ho : operOk n C.G o = true) {t : Nat} (h : depB ops t o = true) : t < n := by
  unfold depB at h
  rw [Bool.or_eq_true] at h
  rcases h with h | h
  · have : ∀ {l : List Operand}, anyTmp t l = true → Operand.tmp t ∈ l := by
      intro l
      induction l with
      | nil => intro h; cases h
      | cons x l ih =>
        intro h
        unfold anyTmp at h
        cases hx : isTmpB t x with
        | true =>
          cases x with
          | tmp u => have := of_beq hx; subst this; simp
          | _ => cases hx
        | false => rw [hx] at h; exact List.mem_cons_of_mem _ (ih h)
    unfold operOk at ho
    simp only [Bool.and_eq_true] at ho
    exact of_ble (List.all_eq_true.1 ho.1.1 _ (this h))
  · unfold guardDep at h
    split at h
    · cases h
    · rename_i j want hg
      cases hd : dstOf ops j with
      | none => rw [hd] at h; cases h
      | some u =>
        rw [hd] at h
        have := of_beq h
        subst this
        unfold dstOf at hd
        cases hj : ops[j]? with
        | none => rw [hj] at hd; cases hd
        | some oj => rw [hj] at hd; exact operOk_dst (hall oj (List.mem_of_getElem? hj)) _ hd

variable {p : Nat} {rd : List Nat} {â : A}

/-- what the frame has taken changes nothing that others look at -/
theorem ahead_ag (F : Facts tab ops bm em) (hall : ∀ x ∈ ops, operOk n C.G x = true) (hn : n ≤ 512) {i l : Nat} {ol : Oper} (ho : nthO i ops = some o) (hl : nthO l ops = some ol) {a₁ : A} (hk : Keeps o.dst a a₁)
    (h : ∀ t, o.dst = some t → depB ops t ol = true → False) : AgD ops ol a₁ a := by
  intro t ht
  refine hk t ?_ fun e => h t e ht
  have hm : ol ∈ ops := by rw [nthO_eq] at hl; exact List.mem_of_getElem? hl
  exact Nat.lt_of_lt_of_le (dep_lt hall (hall ol hm) ht) hn

theorem putD_at {dst : Option Tmp} (h : ∀ d, dst = some d → d < 512) (a : A) (v : Value) : ∀ d, dst = some d → ((putD dst).put a v).tmps.at_ d = v := by
  intro d hd
  subst hd
  show Fr.at_ ((fspot d).set v a.tmps) d = v
  rw [Fr.at_set _ _ _ (h d rfl) (h d rfl), if_pos rfl]
theorem keepsPut {dst : Option Tmp} (h : ∀ d, dst = some d → d < 512) (a : A) (v : Value) : Keeps dst a ((putD dst).put a v) := Keeps.put h a a.defers v

theorem St.le (st : St C ρ n a s a' w) : n ≤ 512 := by
  have := st.ac.1.1
  rw [st.sz] at this
  exact this

theorem dst512 (hall : ∀ x ∈ ops, operOk n C.G x = true) (hn : n ≤ 512) {i : Nat} (ho : nthO i ops = some o) : ∀ d, o.dst = some d → d < 512 := fun d hd => by
  have hm : o ∈ ops := by rw [nthO_eq] at ho; exact List.mem_of_getElem? ho
  exact Nat.lt_of_lt_of_le (operOk_dst (hall o hm) d hd) hn

/-- the frame takes a value ahead -/
theorem Inv.val (F : Facts tab ops bm em) (hall : ∀ x ∈ ops, operOk n C.G x = true) (inv : Inv tab C ops bm n ρ₀ s₀ w₀ p pend rd a s D â a' w ρ) {i : Nat} (ho : nthO i ops = some o) (he : isEff tab o = false) (hi : p.testBit i = false)
    (hb : ∀ l, (nthM i bm).testBit l = true → p.testBit l = true) {v : Value} (hs : stepNE tab ops o a s = some (.val v)) :
    Inv tab C ops bm n ρ₀ s₀ w₀ (Nat.lor p (Nat.shiftLeft 1 i)) pend (cond (isReadC (compileOp tab o)) (i :: rd) rd) ((putD o.dst).put a v) s D â a' w ρ := by
  have hn := inv.st.le
  have h512 := dst512 hall hn ho
  have hk := keepsPut h512 a v
  have hat := putD_at h512 a v
  have hDi : D i = false := by
    cases h : D i with
    | false => rfl
    | true => rw [inv.sub i h] at hi; cases hi
  have hp : ∀ {j}, p.testBit j = true → (Nat.lor p (Nat.shiftLeft 1 i)).testBit j = true := fun h => by rw [bit_add, h]; rfl
  have hp' : ∀ {j}, (Nat.lor p (Nat.shiftLeft 1 i)).testBit j = true → p.testBit j = true ∨ j = i := fun h => by
    rw [bit_add] at h
    simpa using h
  have ag : ∀ {l ol}, nthO l ops = some ol → (p.testBit l = true ∨ l = i) → AgD ops ol ((putD o.dst).put a v) a := fun {l ol} hl hpl => ahead_ag F hall hn ho hl hk fun t ht hdep => by
    rcases F.dep l ol i o t hl ho ht hdep with h | ⟨h, _⟩
    · rcases hpl with hpl | rfl
      · rw [inv.pdown l hpl i h] at hi; cases hi
      · rw [hb _ h] at hi; cases hi
    · rw [he] at h; cases h
  have hne : ∀ {j oj d}, nthO j ops = some oj → j ≠ i → oj.dst = some d → ((putD o.dst).put a v).tmps.at_ d = a.tmps.at_ d := fun {j oj d} hj hji hd =>
    hk d (dst512 hall hn hj d hd) (fun e => F.dst i o j oj d ho hj hji hd e)
  refine ⟨inv.st, inv.went, ?_, fun t ht h => ?_, fun j hj => hp (inv.sub j hj), fun j oj hj hej hpj => ?_, inv.down, fun j hpj l hl => ?_, fun j oj hj hej hpj hDj => ?_, inv.pnd, fun x hx => hp (inv.pin x hx), inv.idxs, fun x hx hDx => ?_⟩
  · rw [← inv.dfs]
    cases o.dst <;> rfl
  · have h1 := h i o ho (by rw [bit_add]; simp) hDi
    rw [hk t ht h1]
    exact inv.agree t ht fun j oj hj hpj hDj => h j oj hj (hp hpj) hDj
  · rcases hp' hpj with hpj | rfl
    · exact inv.effs j oj hj hej hpj
    · rw [hj] at ho; cases ho
      rw [he] at hej; cases hej
  · rcases hp' hpj with hpj | rfl
    · exact hp (inv.pdown j hpj l hl)
    · exact hp (hb l hl)
  · by_cases hji : j = i
    · subst hji
      rw [hj] at ho; cases ho
      refine .inl ⟨v, by rw [stepNE_congr (ag hj (.inr rfl))]; exact hs, hat, fun hr => by rw [hr]; exact List.mem_cons_self⟩
    · have hpj : p.testBit j = true := (hp' hpj).resolve_right hji
      rcases inv.lag j oj hj hej hpj hDj with ⟨u, h1, h2, h3⟩ | ⟨x, g, r, h1, h2, h3⟩
      · refine .inl ⟨u, by rw [stepNE_congr (ag hj (.inl hpj))]; exact h1, fun d hd => by rw [hne hj hji hd]; exact h2 d hd, fun hr => ?_⟩
        have := h3 hr
        cases isReadC (compileOp tab o) with
        | true => exact List.mem_cons_of_mem _ this
        | false => exact this
      · exact .inr ⟨x, g, r, by rw [stepNE_congr (ag hj (.inl hpj))]; exact h1, fun d hd => by rw [hne hj hji hd]; exact h2 d hd, h3⟩
  · obtain ⟨oj, g, h1, h2, h3⟩ := inv.pblk x hx hDx
    have hpx := inv.pin x hx
    have hji : x.1 ≠ i := fun e => by rw [e, hi] at hpx; cases hpx
    exact ⟨oj, g, h1, by rw [stepNE_congr (ag h1 (.inl hpx))]; exact h2, fun d hd => by rw [hne h1 hji hd]; exact h3 d hd⟩

/-- the frame names a block ahead -/
theorem Inv.blk (F : Facts tab ops bm em) (hall : ∀ x ∈ ops, operOk n C.G x = true) (inv : Inv tab C ops bm n ρ₀ s₀ w₀ p pend rd a s D â a' w ρ) {i : Nat} (ho : nthO i ops = some o) (he : isEff tab o = false) (hi : p.testBit i = false)
    (hb : ∀ l, (nthM i bm).testBit l = true → p.testBit l = true) {x : AO} {g : Nat → Value} (hs : stepNE tab ops o a s = some (.blk x g)) :
    Inv tab C ops bm n ρ₀ s₀ w₀ (Nat.lor p (Nat.shiftLeft 1 i)) ((i, s.next, x) :: pend) rd ((putD o.dst).put a (g s.next)) ⟨s.heap, Nat.succ s.next, s.log, s.cnt⟩ D â a' w ρ := by
  have hn := inv.st.le
  have h512 := dst512 hall hn ho
  have hk := keepsPut h512 a (g s.next)
  have hat := putD_at h512 a (g s.next)
  have hDi : D i = false := by
    cases h : D i with
    | false => rfl
    | true => rw [inv.sub i h] at hi; cases hi
  have hp : ∀ {j}, p.testBit j = true → (Nat.lor p (Nat.shiftLeft 1 i)).testBit j = true := fun h => by rw [bit_add, h]; rfl
  have hp' : ∀ {j}, (Nat.lor p (Nat.shiftLeft 1 i)).testBit j = true → p.testBit j = true ∨ j = i := fun h => by
    rw [bit_add] at h
    simpa using h
  have ag : ∀ {l ol}, nthO l ops = some ol → (p.testBit l = true ∨ l = i) → AgD ops ol ((putD o.dst).put a (g s.next)) a := fun {l ol} hl hpl => ahead_ag F hall hn ho hl hk fun t ht hdep => by
    rcases F.dep l ol i o t hl ho ht hdep with h | ⟨h, _⟩
    · rcases hpl with hpl | rfl
      · rw [inv.pdown l hpl i h] at hi; cases hi
      · rw [hb _ h] at hi; cases hi
    · rw [he] at h; cases h
  have hne : ∀ {j oj d}, nthO j ops = some oj → j ≠ i → oj.dst = some d → ((putD o.dst).put a (g s.next)).tmps.at_ d = a.tmps.at_ d := fun {j oj d} hj hji hd =>
    hk d (dst512 hall hn hj d hd) (fun e => F.dst i o j oj d ho hj hji hd e)
  have hsub : Sub (⟨s.heap, Nat.succ s.next, s.log, s.cnt⟩ : S) s := ⟨fun b o h => h, Nat.le_succ _⟩
  have hmem : ∀ oj (c : A), stepNE tab ops oj c ⟨s.heap, Nat.succ s.next, s.log, s.cnt⟩ = stepNE tab ops oj c s := fun oj c => stepNE_get fun _ => rfl
  have himg : ∀ {j}, Img ρ (⟨s.heap, Nat.succ s.next, s.log, s.cnt⟩ : S) j → Img ρ s j := fun h => h
  have hidx : ∀ y ∈ pend, i ≠ y.1 := fun y hy e => by
    have h := inv.pin y hy
    rw [← e, hi] at h
    cases h
  refine ⟨⟨inv.st.hr.sub hsub, inv.st.ac, inv.st.sz⟩, inv.went.trans ⟨Goes.sub hsub, ⟨⟨[], rfl, (Nat.zero_add _).symm, fun _ _ => rfl⟩, Nat.le_succ _, fun b hb r h => ⟨r, h, rfl⟩⟩⟩, ?_, fun t ht h => ?_, fun j hj => hp (inv.sub j hj), fun j oj hj hej hpj => ?_, inv.down, fun j hpj l hl => ?_, fun j oj hj hej hpj hDj => ?_, ?_, fun y hy => ?_, List.pairwise_cons.2 ⟨hidx, inv.idxs⟩, fun y hy hDy => ?_⟩
  · rw [← inv.dfs]
    cases o.dst <;> rfl
  · have h1 := h i o ho (by rw [bit_add]; simp) hDi
    rw [hk t ht h1]
    exact inv.agree t ht fun j oj hj hpj hDj => h j oj hj (hp hpj) hDj
  · rcases hp' hpj with hpj | rfl
    · exact inv.effs j oj hj hej hpj
    · rw [hj] at ho; cases ho
      rw [he] at hej; cases hej
  · rcases hp' hpj with hpj | rfl
    · exact hp (inv.pdown j hpj l hl)
    · exact hp (hb l hl)
  · by_cases hji : j = i
    · subst hji
      rw [hj] at ho; cases ho
      refine .inr ⟨x, g, s.next, by rw [hmem, stepNE_congr (ag hj (.inr rfl))]; exact hs, hat, List.mem_cons_self⟩
    · have hpj : p.testBit j = true := (hp' hpj).resolve_right hji
      rcases inv.lag j oj hj hej hpj hDj with ⟨u, h1, h2, h3⟩ | ⟨x, g, r, h1, h2, h3⟩
      · exact .inl ⟨u, by rw [hmem, stepNE_congr (ag hj (.inl hpj))]; exact h1, fun d hd => by rw [hne hj hji hd]; exact h2 d hd, h3⟩
      · exact .inr ⟨x, g, r, by rw [hmem, stepNE_congr (ag hj (.inl hpj))]; exact h1, fun d hd => by rw [hne hj hji hd]; exact h2 d hd, List.mem_cons_of_mem _ h3⟩
  · have hnone : ρ s.next = none := inv.st.hr.fresh_none (Nat.le_refl _)
    refine ⟨fun y hy => ?_, List.pairwise_cons.2 ⟨fun y hy => ?_, inv.pnd.names⟩, List.pairwise_cons.2 ⟨fun y hy rb rb' e1 e2 => ?_, inv.pnd.blocks⟩⟩
    · rcases List.mem_cons.1 hy with rfl | hy
      · refine ⟨inv.went.goes.nxt, Nat.lt_succ_self _, fun _ => hnone, fun h => ?_⟩
        simp only at h
        rw [hDi] at h; cases h
      · obtain ⟨h1, h2, h3, h4⟩ := inv.pnd.each y hy
        exact ⟨h1, Nat.lt_succ_of_lt h2, h3, h4⟩
    · have := (inv.pnd.each y hy).2.1
      exact fun e => by
        simp only at e
        omega
    · simp only at e1
      rw [hnone] at e1; cases e1
  · rcases List.mem_cons.1 hy with rfl | hy
    · rw [bit_add]; simp
    · exact hp (inv.pin y hy)
  · rcases List.mem_cons.1 hy with rfl | hy
    · exact ⟨o, g, ho, by rw [hmem, stepNE_congr (ag ho (.inr rfl))]; exact hs, hat⟩
    · obtain ⟨oj, g', h1, h2, h3⟩ := inv.pblk y hy hDy
      have hpx := inv.pin y hy
      have hji : y.1 ≠ i := fun e => by rw [e, hi] at hpx; cases hpx
      exact ⟨oj, g', h1, by rw [hmem, stepNE_congr (ag h1 (.inl hpx))]; exact h2, fun d hd => by rw [hne h1 hji hd]; exact h3 d hd⟩

/-- the frame runs ahead up to the next effect -/
theorem adv (F : Facts tab ops bm em) (hall : ∀ x ∈ ops, operOk n C.G x = true) {outs : List Out} : ∀ {κ : List Nat} {p : Nat} {pend : Pend} {rd : List Nat} {a : A} {s : S}, chkPos ops bm em p κ = true → drawGo tab ops bm E κ pend rd a s = some outs →
    Inv tab C ops bm n ρ₀ s₀ w₀ p pend rd a s D â a' w ρ → ∃ κ₁ p₁ pend₁ rd₁ a₁ s₁, chkPos ops bm em p₁ κ₁ = true ∧ drawGo tab ops bm E κ₁ pend₁ rd₁ a₁ s₁ = some outs ∧ Inv tab C ops bm n ρ₀ s₀ w₀ p₁ pend₁ rd₁ a₁ s₁ D â a' w ρ ∧
      (κ₁ = [] ∨ ∃ e κ₂ o, κ₁ = e :: κ₂ ∧ nthO e ops = some o ∧ isEff tab o = true)
  | [], p, pend, rd, a, s, hc, hg, inv => ⟨_, _, _, _, _, _, hc, hg, inv, .inl rfl⟩
  | i :: κ, p, pend, rd, a, s, hc, hg, inv => by
    obtain ⟨o, h1, h2, h3, h4, h5, h6⟩ := chkPos_cons hc
    cases he : isEff tab o with
    | true => exact ⟨_, _, _, _, _, _, hc, hg, inv, .inr ⟨i, κ, o, rfl, h1, he⟩⟩
    | false =>
      unfold drawGo at hg
      simp only [h1, he, cond_false] at hg
      cases hs : stepNE tab ops o a s with
      | none => rw [hs] at hg; cases hg
      | some r =>
        rw [hs] at hg
        cases r with
        | val v => exact adv F hall h6 hg (inv.val F hall h1 he h2 h4 hs)
        | blk x g => exact adv F hall h6 hg (inv.blk F hall h1 he h2 h4 hs)

end Go.Ac
end
section
namespace Go.Ac
variable {P : Program} {tab : Tab} {C : Cx} {ρ ρ₀ ρ₁ : Rn} {s s₀ s₁ : S} {w w₀ w₁ w' : World} {a : A} {a' : Act} {o : Oper} {E : Env} {n : Nat} {opsA : Array Oper} {bm : List Nat} {em : Nat}
variable {D : Nat → Bool} {pend : Pend} {p : Nat} {rd : List Nat} {â : A} {b : Frame} {cs : List Frame} {kk : List Item} {rest : List Nat} {outs : List Out}

/-- what was touched since -/
def LogE (s s' : S) : Prop := ∃ l, s'.log = l ++ s.log ∧ s'.cnt = l.length + s.cnt ∧ ∀ b, b ∉ l → s'.get b = s.get b
theorem LogE.trans {a b c : S} (h : LogE a b) (k : LogE b c) : LogE a c := by
  obtain ⟨l, h1, h3, h2⟩ := h
  obtain ⟨m, k1, k3, k2⟩ := k
  refine ⟨m ++ l, by rw [k1, h1, List.append_assoc], by rw [k3, h3, List.length_append, Nat.add_assoc], fun x hx => ?_⟩
  simp only [List.mem_append, not_or] at hx
  exact (k2 x hx.1).trans (h2 x hx.2)
theorem LogE.insertB (m : Nat) : ∀ (l : Pend) (s : S), LogE s (insertB m l s)
  | [], s => ⟨[], rfl, (Nat.zero_add _).symm, fun _ _ => rfl⟩
  | (i, r, x) :: l, s => by
    unfold Ac.insertB
    cases m.testBit i with
    | true =>
      simp only [cond_true]
      refine LogE.trans ⟨[r], rfl, by show Nat.succ s.cnt = 1 + s.cnt; omega, fun b hb => ?_⟩ (LogE.insertB m l _)
      rw [S.get_put, if_neg (by simpa using hb)]
    | false => exact LogE.insertB m l s

theorem condT {c x : Bool} (h : cond c x false = true) : c = true ∧ x = true := by cases c with
  | true => exact ⟨rfl, h⟩
  | false => cases h
theorem quietLd_step {ops : List Oper} {s s' : S} (h : quietLd o a s s' = true) (hl : LogE s s') : stepNE tab ops o a s' = stepNE tab ops o a s := by
  unfold quietLd at h
  obtain ⟨_, h⟩ := condT h
  unfold ldBlock at h
  obtain ⟨l, h1, h3, h2⟩ := hl
  split at h
  · rename_i t x hop
    cases hv : vP ((opd x).get a) with
    | none => rw [hv] at h; cases h
    | some ad =>
      rw [hv] at h
      have h : (!memN ad.block (takeNs (s'.cnt - s.cnt) s'.log)) = true := h
      rw [memN_eq, takeNs_eq, h3, h1, Nat.add_sub_cancel, List.take_left'] at h
      · have hb : ad.block ∉ l := by simpa using h
        have hg := h2 _ hb
        have key : neC (compileOp tab o) a s' = neC (compileOp tab o) a s := by
          unfold compileOp
          rw [hop]
          simp only
          split
          · show (match vLoadN _ s' ((opd x).get a) with | some v => some (NE.val v) | none => none) = (match vLoadN _ s ((opd x).get a) with | some v => some (NE.val v) | none => none)
            unfold vLoadN
            rw [hv]
            show (match vBuild (s'.read ad.block ad.off _) with | some v => some (NE.val v) | none => none) = (match vBuild (s.read ad.block ad.off _) with | some v => some (NE.val v) | none => none)
            unfold S.read
            rw [hg]
          · show (match vLoad1 s' ((opd x).get a) with | some v => some (NE.val v) | none => none) = (match vLoad1 s ((opd x).get a) with | some v => some (NE.val v) | none => none)
            unfold vLoad1
            rw [hv]
            show (match s'.read1 ad.block ad.off with | some v => some (NE.val v) | none => none) = (match s.read1 ad.block ad.off with | some v => some (NE.val v) | none => none)
            unfold S.read1
            rw [hg]
          · rfl
        unfold stepNE
        rw [key]
      · rfl
  · cases h

theorem recheck_ok {m : Nat} {ops : List Oper} {s₀ : S} : ∀ {rd : List Nat}, recheck tab ops m a s₀ s rd = true → ∀ l ∈ rd, m.testBit l = false → ∃ o, nthO l ops = some o ∧ (quietLd o a s₀ s = true ∨ ∃ v, stepNE tab ops o a s = some (.val v) ∧ ∀ d, o.dst = some d → a.tmps.at_ d = v)
  | [], h, l, hl, hm => by cases hl
  | x :: rd, h, l, hl, hm => by
    unfold recheck at h
    cases hx : m.testBit x with
    | true =>
      rw [hx] at h
      rcases List.mem_cons.1 hl with rfl | hl
      · rw [hm] at hx; cases hx
      · exact recheck_ok h l hl hm
    | false =>
      rw [hx] at h
      simp only [cond_false] at h
      split at h
      · cases h
      · rename_i o ho
        cases hq : quietLd o a s₀ s with
        | true =>
          rw [hq] at h
          rcases List.mem_cons.1 hl with rfl | hl
          · exact ⟨o, ho, .inl hq⟩
          · exact recheck_ok h l hl hm
        | false =>
          rw [hq] at h
          simp only [cond_false] at h
          cases hs : sameSlot a o.dst (stepNE tab ops o a s) with
          | false => rw [hs] at h; cases h
          | true =>
            rw [hs] at h
            rcases List.mem_cons.1 hl with rfl | hl
            · refine ⟨o, ho, .inr ?_⟩
              unfold sameSlot at hs
              split at hs
              · rename_i v hv
                refine ⟨v, hv, fun d hd => ?_⟩
                rw [hd] at hs
                exact (eqVal_ok _ _ hs).symm
              · cases hs
            · exact recheck_ok h l hl hm

theorem restB_pair {m : Nat} {R : Nat × Nat × AO → Nat × Nat × AO → Prop} : ∀ {pend : Pend}, pend.Pairwise R → (restB m pend).Pairwise R
  | [], h => by unfold restB; exact List.Pairwise.nil
  | (i, r, x) :: l, h => by
    have h := List.pairwise_cons.1 h
    unfold restB
    cases m.testBit i with
    | true => exact restB_pair h.2
    | false => exact List.pairwise_cons.2 ⟨fun y hy => h.1 y (restB_mem hy).1, restB_pair h.2⟩

theorem PendOk.congrD {D' : Nat → Bool} {N₀ H₀ : Nat} (h : PendOk C D N₀ H₀ ρ s w pend) (e : ∀ x ∈ pend, D' x.1 = D x.1) : PendOk C D' N₀ H₀ ρ s w pend :=
  ⟨fun x hx => by rw [e x hx]; exact h.each x hx, h.names, h.blocks⟩

theorem pw {α : Type} {R : α → α → Prop} (hs : ∀ x y, R x y → R y x) : ∀ {l : List α}, l.Pairwise R → ∀ x ∈ l, ∀ y ∈ l, x ≠ y → R x y
  | [], h, x, hx, _, _, _ => by cases hx
  | z :: l, h, x, hx, y, hy, hne => by
    have h := List.pairwise_cons.1 h
    rcases List.mem_cons.1 hx with e1 | hx'
    · rcases List.mem_cons.1 hy with e2 | hy'
      · exact absurd (e1.trans e2.symm) hne
      · rw [e1]; exact h.1 y hy'
    · rcases List.mem_cons.1 hy with e2 | hy'
      · rw [e2]; exact hs _ _ (h.1 x hx')
      · exact pw hs h.2 x hx' y hy' hne

def plus (D : Nat → Bool) (i : Nat) : Nat → Bool := fun j => D j || decide (j = i)
theorem plus_self (D : Nat → Bool) (i : Nat) : plus D i i = true := by unfold plus; simp
theorem plus_of {D : Nat → Bool} {i j : Nat} (h : D j = true) : plus D i j = true := by unfold plus; simp [h]
theorem plus_ne {D : Nat → Bool} {i j : Nat} (h : j ≠ i) : plus D i j = D j := by unfold plus; simp [h]
theorem plus_false {D : Nat → Bool} {i j : Nat} (h : plus D i j = false) : D j = false ∧ j ≠ i := by
  unfold plus at h
  simpa using h

/-- an effect: the machine and the frame do it together -/
theorem Inv.effect (tok : TabOk P tab) (hz : ZerosOk tab) (hC : C.ts = tab.size) (EO : EnvOk P tab C E) (F : Facts tab opsA.toList bm em) (hall : ∀ x ∈ opsA.toList, operOk n C.G x = true)
    (inv : Inv tab C opsA.toList bm n ρ₀ s₀ w₀ p pend rd a s D â a' w ρ) (hfr : FrOk ρ E b cs) {i : Nat} (ho : nthO i opsA.toList = some o) (he : isEff tab o = true) (hi : p.testBit i = false)
    (hbD : ∀ l, (nthM i bm).testBit l = true → D l = true) {kc : A → S → Outs}
    (hrun : (oneOp tab opsA.toList o).run E a (insertB (nthM i bm) pend s) (fun a s' => cond (cond (Nat.beq s'.cnt s.cnt) true (recheck tab opsA.toList (nthM i bm) a s s' rd)) (kc a s') none) = some outs) :
    ∃ a₂ s₂ â₁ a₁' w₁ ρ₁ outs₁, kc a₂ s₂ = some outs₁ ∧ (∀ x ∈ outs₁, x ∈ outs) ∧ Rn.le ρ ρ₁ ∧ Inv tab C opsA.toList bm n ρ₀ s₀ w₀ (Nat.lor p (Nat.shiftLeft 1 i)) (restB (nthM i bm) pend) rd a₂ s₂ (plus D i) â₁ a₁' w₁ ρ₁ ∧
      Steps P (lone (b.atR a' (.inRegion opsA (i :: rest) :: kk)) cs w) (lone (b.atR a₁' (.inRegion opsA rest :: kk)) cs w₁) := by
  have hn := inv.st.le
  have h512 := dst512 hall hn ho
  have hiA : opsA[i]? = some o := by rw [← getElem_list, ← nthO_eq]; exact ho
  obtain ⟨r1, r2, r3⟩ := insertB_ok (m := nthM i bm) inv.st.hr inv.went inv.pnd fun x hx hm => hbD x.1 hm
  have hag : AgD opsA.toList o a â := by
    intro t ht
    have hm : o ∈ opsA.toList := by rw [nthO_eq] at ho; exact List.mem_of_getElem? ho
    refine (inv.agree t (Nat.lt_of_lt_of_le (dep_lt hall (hall o hm) ht) hn) fun l ol hl hpl hDl hd => ?_).symm
    rcases F.dep i o l ol t ho hl hd ht with h | ⟨h, _⟩
    · rw [hbD l h] at hDl; cases hDl
    · rw [inv.effs l ol hl h hpl] at hDl; cases hDl
  have hrun2 := oneOp_over h512 hag inv.dfs hrun
  obtain ⟨â₁, s₂, ρ₁, w₁, a₁', outs₁, hk, hsub, st₁, hwent, hkeep, hsteps⟩ := oneOp_ok (b := b) (cs := cs) (kk := kk) (rest := rest) tok hz hC EO hfr ⟨r1, inv.st.ac, inv.st.sz⟩ hall hiA hrun2
  obtain ⟨hre, hk⟩ := cond_some hk
  obtain ⟨a₂, ha₂⟩ : ∃ a₂, a₂ = over2 a o.dst â₁ := ⟨_, rfl⟩
  rw [← ha₂] at hre hk
  have hlogE : LogE s s₂ := (LogE.insertB _ _ _).trans hwent.log.log
  have hre : (∀ b, s₂.get b = s.get b) ∨ recheck tab opsA.toList (nthM i bm) a₂ s s₂ rd = true := by
    cases hc : Nat.beq s₂.cnt s.cnt with
    | false => rw [hc] at hre; exact .inr hre
    | true =>
      refine .inl ?_
      have he := of_beq hc
      have hins : ∀ {l : Pend} {s : S}, s.cnt ≤ (insertB (nthM i bm) l s).cnt ∧ ((insertB (nthM i bm) l s).cnt = s.cnt → insertB (nthM i bm) l s = s) := by
        intro l
        induction l with
        | nil => intro s; exact ⟨Nat.le_refl _, fun _ => rfl⟩
        | cons y l ih =>
          intro s
          obtain ⟨i', r', x'⟩ := y
          unfold insertB
          cases (nthM i bm).testBit i' with
          | true =>
            simp only [cond_true]
            have := (ih (s := s.put r' x')).1
            rw [S.cnt_put] at this
            exact ⟨by omega, fun h => by omega⟩
          | false => exact ih
      obtain ⟨l, _, e2, e3⟩ := hwent.log.log
      have h1 := (hins (l := pend) (s := s)).1
      have h2 := (hins (l := pend) (s := s)).2 (by omega)
      have h3 : l = [] := List.length_eq_zero_iff.1 (by rw [h2] at e2; omega)
      subst h3
      intro b
      rw [e3 b (by simp), h2]
  have hk2 : Keeps o.dst a a₂ := by rw [ha₂]; exact keepsPut h512 a (readD o.dst â₁)
  have hat2 : ∀ d, o.dst = some d → a₂.tmps.at_ d = â₁.tmps.at_ d := fun d hd => by
    rw [ha₂]
    have := putD_at h512 a (readD o.dst â₁) d hd
    refine this.trans ?_
    rw [hd]; rfl
  have hp : ∀ {j}, p.testBit j = true → (Nat.lor p (Nat.shiftLeft 1 i)).testBit j = true := fun h => by rw [bit_add, h]; rfl
  have hp' : ∀ {j}, (Nat.lor p (Nat.shiftLeft 1 i)).testBit j = true → p.testBit j = true ∨ j = i := fun h => by
    rw [bit_add] at h
    simpa using h
  have hne : ∀ {j oj d}, nthO j opsA.toList = some oj → j ≠ i → oj.dst = some d → a₂.tmps.at_ d = a.tmps.at_ d := fun {j oj d} hj hji hd =>
    hk2 d (dst512 hall hn hj d hd) (fun e => F.dst i o j oj d ho hj hji hd e)
  have ag : ∀ {l ol}, nthO l opsA.toList = some ol → p.testBit l = true → D l = false → AgD opsA.toList ol a₂ a := fun {l ol} hl hpl hDl => ahead_ag F hall hn ho hl hk2 fun t ht hdep => by
    rcases F.dep l ol i o t hl ho ht hdep with h | ⟨_, h⟩
    · rw [inv.pdown l hpl i h] at hi; cases hi
    · rw [hbD l h] at hDl; cases hDl
  have still : ∀ {l ol}, nthO l opsA.toList = some ol → p.testBit l = true → D l = false → isReadC (compileOp tab ol) = false → stepNE tab opsA.toList ol a₂ s₂ = stepNE tab opsA.toList ol a s := fun {l ol} hl hpl hDl hr => by
    rw [stepNE_mem (s := s) hr, stepNE_congr (ag hl hpl hDl)]
  have notRead : ∀ {ol : Oper} {x g}, stepNE tab opsA.toList ol a s = some (.blk x g) → isReadC (compileOp tab ol) = false := fun {ol x g} h => by
    obtain ⟨_, f, hc, _⟩ := stepNE_blk h
    rw [hc]; rfl
  have notB : ∀ {l}, D l = false → (nthM i bm).testBit l = false := fun {l} hDl => by
    cases h : (nthM i bm).testBit l with
    | false => rfl
    | true => rw [hbD l h] at hDl; cases hDl
  refine ⟨a₂, s₂, â₁, a₁', w₁, ρ₁, outs₁, hk, hsub, hwent.goes.ext, ⟨st₁, r2.trans hwent, by rw [ha₂]; rfl, fun t ht h => ?_, fun j hj => ?_, fun j oj hj hej hpj => ?_, fun j hj l hl => ?_, fun j hpj l hl => ?_, fun j oj hj hej hpj hDj => ?_, ?_, fun x hx => hp (inv.pin x (restB_mem hx).1), restB_pair inv.idxs, fun x hx hDx => ?_⟩, hsteps⟩
  · by_cases hd : o.dst = some t
    · exact (hat2 t hd).symm
    · rw [hkeep t ht hd, hk2 t ht hd]
      refine inv.agree t ht fun j oj hj hpj hDj => h j oj hj (hp hpj) ?_
      have : j ≠ i := fun e => by rw [e, hi] at hpj; cases hpj
      rw [plus_ne this]; exact hDj
  · unfold plus at hj
    rw [Bool.or_eq_true] at hj
    rcases hj with hj | hj
    · exact hp (inv.sub j hj)
    · have := of_decide_eq_true hj
      subst this
      rw [bit_add]; simp
  · rcases hp' hpj with hpj | rfl
    · exact plus_of (inv.effs j oj hj hej hpj)
    · exact plus_self _ _
  · unfold plus at hj
    rw [Bool.or_eq_true] at hj
    rcases hj with hj | hj
    · exact plus_of (inv.down j hj l hl)
    · have := of_decide_eq_true hj
      subst this
      exact plus_of (hbD l hl)
  · rcases hp' hpj with hpj | rfl
    · exact hp (inv.pdown j hpj l hl)
    · exact hp (inv.sub l (hbD l hl))
  · obtain ⟨hDj, hji⟩ := plus_false hDj
    have hpj : p.testBit j = true := (hp' hpj).resolve_right hji
    rcases inv.lag j oj hj hej hpj hDj with ⟨u, h1, h2, h3⟩ | ⟨x, g, r, h1, h2, h3⟩
    · cases hr : isReadC (compileOp tab oj) with
      | true =>
        rcases hre with hre | hre
        · exact .inl ⟨u, by rw [stepNE_get (s := s) hre, stepNE_congr (ag hj hpj hDj)]; exact h1, fun d hd => by rw [hne hj hji hd]; exact h2 d hd, fun _ => h3 hr⟩
        · obtain ⟨o', e1, hq | ⟨v, e2, e3⟩⟩ := recheck_ok hre j (h3 hr) (notB hDj)
          · rw [hj] at e1; cases e1
            exact .inl ⟨u, by rw [quietLd_step hq hlogE, stepNE_congr (ag hj hpj hDj)]; exact h1, fun d hd => by rw [hne hj hji hd]; exact h2 d hd, fun _ => h3 hr⟩
          · rw [hj] at e1; cases e1
            exact .inl ⟨v, e2, e3, fun _ => h3 hr⟩
      | false => exact .inl ⟨u, by rw [still hj hpj hDj hr]; exact h1, fun d hd => by rw [hne hj hji hd]; exact h2 d hd, fun h => by cases h⟩
    · exact .inr ⟨x, g, r, by rw [still hj hpj hDj (notRead h1)]; exact h1, fun d hd => by rw [hne hj hji hd]; exact h2 d hd, restB_of h3 (notB hDj)⟩
  · refine (r3.went hwent.goes).congrD fun x hx => plus_ne fun e => ?_
    have := inv.pin x (restB_mem hx).1
    rw [e, hi] at this; cases this
  · obtain ⟨hDx, hxi⟩ := plus_false hDx
    obtain ⟨oj, g, h1, h2, h3⟩ := inv.pblk x (restB_mem hx).1 hDx
    exact ⟨oj, g, h1, by rw [still h1 (inv.pin x (restB_mem hx).1) hDx (notRead h2)]; exact h2, fun d hd => by rw [hne h1 hxi hd]; exact h3 d hd⟩

/-- a new block's name -/
theorem HRel.name (hr : HRel C ρ s w) {r : Nat} {rb : RB} {o' : Obj} (hnone : ρ r = none) (hlt : r < s.next) (hN : NewW w w₁ o') (hblk : rb.blk = w.heap.size) : HRel C (ρ.add r rb) s w₁ := by
  have hle : Rn.le ρ (ρ.add r rb) := Rn.le_add hnone
  have hsz : w₁.heap.size = w.heap.size + 1 := by rw [hN.heap]; simp
  have hget : ∀ j, j < w.heap.size → w₁.heap[j]? = w.heap[j]? := fun j hj => by
    rw [hN.heap, Array.getElem?_push, if_neg (by omega)]
  have hlive : ∀ {b x}, s.get b = some x → b ≠ r ∧ (ρ.add r rb) b = ρ b := fun {b x} hb => by
    obtain ⟨rc, h1, _⟩ := hr.live _ _ hb
    have : b ≠ r := fun e => by rw [e, hnone] at h1; cases h1
    exact ⟨this, by simp [Rn.add, this]⟩
  refine ⟨by rw [hsz]; have := hr.low; omega, fun g hg => hle _ _ (hr.glob g hg), fun b x hb => ?_, fun b₁ b₂ o₁ o₂ r₁ r₂ e₁ e₂ k₁ k₂ he => ?_, fun b rc hb => ?_⟩
  · obtain ⟨rc, h1, hN', oc, h2, h3⟩ := hr.live _ _ hb
    have := (hr.fresh _ _ h1).2
    exact ⟨rc, hle _ _ h1, hN', oc, by rw [hget _ this]; exact h2, h3.mono hle⟩
  · rw [(hlive e₁).2] at k₁
    rw [(hlive e₂).2] at k₂
    exact hr.inj _ _ _ _ _ _ e₁ e₂ k₁ k₂ he
  · rw [hsz]
    by_cases h : b = r
    · subst h
      rw [Rn.add_at] at hb; cases hb
      omega
    · have : (ρ.add r rb) b = ρ b := by simp [Rn.add, h]
      rw [this] at hb
      have := hr.fresh _ _ hb
      omega

/-- an operation without effect: the frame has done it before -/
theorem Inv.behind (tok : TabOk P tab) (hz : ZerosOk tab) (hC : C.ts = tab.size) (EO : EnvOk P tab C E) (F : Facts tab opsA.toList bm em) (hall : ∀ x ∈ opsA.toList, operOk n C.G x = true)
    (inv : Inv tab C opsA.toList bm n ρ₀ s₀ w₀ p pend rd a s D â a' w ρ) (hfr : FrOk ρ E b cs) {i : Nat} (ho : nthO i opsA.toList = some o) (he : isEff tab o = false) (hi : p.testBit i = true) (hDi : D i = false)
    (hbD : ∀ l, (nthM i bm).testBit l = true → D l = true) :
    ∃ â₁ a₁' w₁ ρ₁, Rn.le ρ ρ₁ ∧ Inv tab C opsA.toList bm n ρ₀ s₀ w₀ p pend rd a s (plus D i) â₁ a₁' w₁ ρ₁ ∧
      Steps P (lone (b.atR a' (.inRegion opsA (i :: rest) :: kk)) cs w) (lone (b.atR a₁' (.inRegion opsA rest :: kk)) cs w₁) := by
  have hn := inv.st.le
  have h512 := dst512 hall hn ho
  have hiA : opsA[i]? = some o := by rw [← getElem_list, ← nthO_eq]; exact ho
  have hm : o ∈ opsA.toList := by rw [nthO_eq] at ho; exact List.mem_of_getElem? ho
  have hag : AgD opsA.toList o â a := by
    intro t ht
    refine inv.agree t (Nat.lt_of_lt_of_le (dep_lt hall (hall o hm) ht) hn) fun l ol hl hpl hDl hd => ?_
    rcases F.dep i o l ol t ho hl hd ht with h | ⟨h, _⟩
    · rw [hbD l h] at hDl; cases hDl
    · rw [inv.effs l ol hl h hpl] at hDl; cases hDl
  -- what is left to say of the invariant
  have sub' : ∀ j, plus D i j = true → p.testBit j = true := fun j hj => by
    unfold plus at hj
    rw [Bool.or_eq_true] at hj
    rcases hj with hj | hj
    · exact inv.sub j hj
    · have := of_decide_eq_true hj
      subst this; exact hi
  have down' : ∀ j, plus D i j = true → ∀ l, (nthM j bm).testBit l = true → plus D i l = true := fun j hj l hl => by
    unfold plus at hj
    rw [Bool.or_eq_true] at hj
    rcases hj with hj | hj
    · exact plus_of (inv.down j hj l hl)
    · have := of_decide_eq_true hj
      subst this; exact plus_of (hbD l hl)
  rcases inv.lag i o ho he hi hDi with ⟨v, h1, h2, h3⟩ | ⟨x, g, r, h1, h2, h3⟩
  · have hs : stepNE tab opsA.toList o â s = some (.val v) := by rw [stepNE_congr hag]; exact h1
    have hrun : (oneOp tab opsA.toList o).run E â s finish = some [.nrm ((putD o.dst).put â v) s] := oneOp_val hs
    obtain ⟨â₁, s₁, ρ₁, w₁, a₁', outs₁, hk, hsub, st₁, hwent, hkeep, hsteps⟩ := oneOp_ok (b := b) (cs := cs) (kk := kk) (rest := rest) tok hz hC EO hfr inv.st hall hiA hrun
    cases hk
    have := List.mem_singleton.1 (hsub _ (List.mem_singleton.2 rfl))
    cases this
    refine ⟨_, a₁', w₁, ρ₁, hwent.goes.ext, ⟨st₁, inv.went.trans hwent, ?_, fun t ht h => ?_, sub', fun j oj hj hej hpj => plus_of (inv.effs j oj hj hej hpj), down', inv.pdown, fun j oj hj hej hpj hDj => ?_, ?_, inv.pin, inv.idxs, fun x hx hDx => ?_⟩, hsteps⟩
    · rw [inv.dfs]; cases o.dst <;> rfl
    · by_cases hd : o.dst = some t
      · rw [putD_at h512 â v t hd, h2 t hd]
      · rw [keepsPut h512 â v t ht hd]
        refine inv.agree t ht fun j oj hj hpj hDj => ?_
        by_cases hji : j = i
        · subst hji
          rw [hj] at ho; cases ho
          exact hd
        · exact h j oj hj hpj (by rw [plus_ne hji]; exact hDj)
    · exact inv.lag j oj hj hej hpj (plus_false hDj).1
    · refine (inv.pnd.went hwent.goes).congrD fun x hx => plus_ne fun e => ?_
      obtain ⟨oj, g, e1, e2, _⟩ := inv.pblk x hx (by rw [e]; exact hDi)
      rw [e, ho] at e1; cases e1
      rw [h1] at e2; cases e2
    · exact inv.pblk x hx (plus_false hDx).1
  · have hs : stepNE tab opsA.toList o â s = some (.blk x g) := by rw [stepNE_congr hag]; exact h1
    obtain ⟨hwa, f, hc, hf⟩ := stepNE_blk hs
    have ho' : operOk a'.tmps.size C.G o = true := by rw [inv.st.sz]; exact hall o hm
    obtain ⟨w₁, v', o', rb, hex, hN, hblk, hor, hval⟩ := newAt_ok tok hz hC inv.st.hr inv.st.ac ho' hc hf
    have hw : Region.wanted o (yielded opsA a'.tmps) = true := by rw [wanted_ok inv.st hall]; exact hwa
    have hnd := not_defer (tab := tab) (o := o) (by rw [hc]; intro f h; cases h) (by rw [hc]; intro h; cases h)
    have hstep := step_value (b := b) (cs := cs) (k := kk) (rest := rest) hiA hw (by rw [Oper.semAt_eq _ _ _ hnd]; exact hex)
    obtain ⟨g1, g2, g3, g4⟩ := inv.pnd.each _ h3
    have hnone : ρ r = none := g3 hDi
    have hlt : r < s.next := g2
    have hN₀ : s₀.next ≤ r := g1
    have hle : Rn.le ρ (ρ.add r rb) := Rn.le_add hnone
    have hsz : w₁.heap.size = w.heap.size + 1 := by rw [hN.heap]; simp
    have hget : ∀ j, j < w.heap.size → w₁.heap[j]? = w.heap[j]? := fun j hj => by
      rw [hN.heap, Array.getElem?_push, if_neg (by omega)]
    have hother : ∀ {q}, q ≠ r → (ρ.add r rb) q = ρ q := fun {q} hq => by simp [Rn.add, hq]
    have himg : ∀ {j}, Img (ρ.add r rb) s j → Img ρ s j := fun {j} ⟨c, y, rc, e1, e2, e3⟩ => by
      obtain ⟨rc', k1, _⟩ := inv.st.hr.live _ _ e1
      have : c ≠ r := fun e => by rw [e, hnone] at k1; cases k1
      rw [hother this] at e2
      exact ⟨c, y, rc, e1, e2, e3⟩
    have hNle := inv.st.hr.low
    have hH := inv.went.goes.size
    -- the other names
    have hnames : ∀ y ∈ pend, y.1 ≠ i → y.2.1 ≠ r := fun y hy hyi => by
      have := pw (R := fun x y : Nat × Nat × AO => x.2.1 ≠ y.2.1) (fun x y h => Ne.symm h) inv.pnd.names y hy _ h3 (fun e => hyi (by rw [e]))
      exact this
    have hself : ∀ y ∈ pend, y.1 = i → y = (i, r, x) := fun y hy hyi => by
      by_cases e : y = (i, r, x)
      · exact e
      · exact absurd hyi (pw (R := fun x y : Nat × Nat × AO => x.1 ≠ y.1) (fun x y h => Ne.symm h) inv.idxs y hy _ h3 e)
    have hbelow : ∀ y ∈ pend, ∀ rc, ρ y.2.1 = some rc → rc.blk < w.heap.size := fun y hy rc hrc => (inv.st.hr.fresh _ _ hrc).2
    refine ⟨(putD o.dst).put â (g r), a'.put o.dst v', w₁, ρ.add r rb, hle, ⟨inv.st.put (hall o hm) (inv.st.hr.name hnone hlt hN hblk) hle (hval _ _ (Rn.add_at _ _ _)), ?_, ?_, fun t ht h => ?_, sub', fun j oj hj hej hpj => plus_of (inv.effs j oj hj hej hpj), down', inv.pdown, fun j oj hj hej hpj hDj => ?_, ?_, inv.pin, inv.idxs, fun y hy hDy => ?_⟩, .one hstep⟩
    · refine ⟨⟨Rn.le_trans inv.went.goes.ext hle, fun j hj => inv.went.goes.img j (himg hj), fun j hj hno => by rw [hget j (by omega)]; exact inv.went.goes.keep j hj hno, by rw [hsz]; omega, hN.tape.trans inv.went.goes.tape, hN.os.trans inv.went.goes.os, hN.out.trans inv.went.goes.out, fun c hc' => ?_, inv.went.goes.nxt⟩, inv.went.log⟩
      rw [hother (by omega)]
      exact inv.went.goes.old c hc'
    · rw [inv.dfs]; cases o.dst <;> rfl
    · by_cases hd : o.dst = some t
      · rw [putD_at h512 â (g r) t hd, h2 t hd]
      · rw [keepsPut h512 â (g r) t ht hd]
        refine inv.agree t ht fun j oj hj hpj hDj => ?_
        by_cases hji : j = i
        · subst hji
          rw [hj] at ho; cases ho
          exact hd
        · exact h j oj hj hpj (by rw [plus_ne hji]; exact hDj)
    · exact inv.lag j oj hj hej hpj (plus_false hDj).1
    · refine ⟨fun y hy => ?_, inv.pnd.names, (inv.pnd.names.and inv.pnd.blocks).imp_of_mem fun {y z} hy hz ⟨hyz, hbk⟩ rb₁ rb₂ e1 e2 => ?_⟩
      · by_cases hyi : y.1 = i
        · have := hself y hy hyi
          subst this
          refine ⟨hN₀, hlt, fun h => ?_, fun _ => ⟨rb, o', Rn.add_at _ _ _, by omega, by omega, by omega, ?_, hor.mono hle, fun hj => ?_⟩⟩
          · simp only at h
            rw [plus_self] at h; cases h
          · rw [hblk, hN.heap, Array.getElem?_push, if_pos rfl]
          · obtain ⟨c, y, rc, e1, e2, e3⟩ := himg hj
            have := (inv.st.hr.fresh _ _ e2).2
            omega
        · obtain ⟨k1, k2, k3, k4⟩ := inv.pnd.each y hy
          have hq := hnames y hy hyi
          rw [plus_ne hyi, hother hq]
          refine ⟨k1, k2, k3, fun hD => ?_⟩
          obtain ⟨rc, oc, m1, m2, m3, m4, m5, m6, m7⟩ := k4 hD
          exact ⟨rc, oc, m1, m2, m3, by omega, by rw [hget _ m4]; exact m5, m6.mono hle, fun hj => m7 (himg hj)⟩
      · by_cases h1 : y.2.1 = r
        · have h2 : z.2.1 ≠ r := fun e => hyz (by rw [h1, e])
          rw [hother h2] at e2
          rw [h1, Rn.add_at] at e1; cases e1
          have := hbelow z hz rb₂ e2
          omega
        · rw [hother h1] at e1
          by_cases h2 : z.2.1 = r
          · rw [h2, Rn.add_at] at e2; cases e2
            have := hbelow y hy rb₁ e1
            omega
          · rw [hother h2] at e2
            exact hbk rb₁ rb₂ e1 e2
    · exact inv.pblk y hy (plus_false hDy).1

end Go.Ac
end
section
namespace Go.Ac
variable {P : Program} {tab : Tab} {C : Cx} {ρ ρ₀ ρ₁ : Rn} {s s₀ s₁ : S} {w w₀ w₁ w' : World} {a : A} {a' : Act} {o : Oper} {E : Env} {n : Nat} {opsA : Array Oper} {bm : List Nat} {em : Nat}
variable {D : Nat → Bool} {pend : Pend} {p : Nat} {rd : List Nat} {â : A} {b : Frame} {cs : List Frame} {kk : List Item} {rest : List Nat} {outs : List Out}

theorem cnt_le {f g : Nat → Bool} : ∀ {l : List Nat}, (∀ j, g j = true → f j = true) → (l.filter g).length ≤ (l.filter f).length
  | [], h => Nat.le_refl _
  | x :: l, h => by
    have ih := cnt_le (l := l) h
    cases hg : g x with
    | true =>
      rw [List.filter_cons_of_pos hg, List.filter_cons_of_pos (h x hg)]
      simpa using ih
    | false =>
      rw [List.filter_cons_of_neg (by simp [hg])]
      cases hf : f x with
      | true => rw [List.filter_cons_of_pos hf]; simp; omega
      | false => rw [List.filter_cons_of_neg (by simp [hf])]; exact ih
theorem cnt_lt {f g : Nat → Bool} {i : Nat} (hf : f i = true) (hg : g i = false) : ∀ {l : List Nat}, (∀ j, g j = true → f j = true) → i ∈ l → (l.filter g).length < (l.filter f).length
  | x :: l, h, hi => by
    by_cases hx : x = i
    · subst hx
      rw [List.filter_cons_of_neg (by simp [hg]), List.filter_cons_of_pos hf]
      have := cnt_le (l := l) h
      simp; omega
    · have hi' : i ∈ l := (List.mem_cons.1 hi).resolve_left (Ne.symm hx)
      have ih := cnt_lt (l := l) hf hg h hi'
      cases hgx : g x with
      | true =>
        rw [List.filter_cons_of_pos hgx, List.filter_cons_of_pos (h x hgx)]
        simpa using ih
      | false =>
        rw [List.filter_cons_of_neg (by simp [hgx])]
        cases hfx : f x with
        | true => rw [List.filter_cons_of_pos hfx]; simp; omega
        | false => rw [List.filter_cons_of_neg (by simp [hfx])]; exact ih

def inL (L : Array Bool) (i : Nat) : Bool := L.getD i false
def unl (m : Nat) (L : Array Bool) : Nat := ((List.range m).filter fun i => !inL L i).length

theorem inL_set {L : Array Bool} {i : Nat} (hi : i < L.size) : inL (L.setIfInBounds i true) = plus (inL L) i := by
  funext j
  show (L.setIfInBounds i true).getD j false = (L.getD j false || decide (j = i))
  rw [Array.getD_eq_getD_getElem?, Array.getD_eq_getD_getElem?]
  by_cases h : j = i
  · subst h
    simp [hi]
  · rw [Array.getElem?_setIfInBounds_ne (Ne.symm h)]
    simp [h]
theorem inL_true {L : Array Bool} {i : Nat} (hi : i < L.size) : L.getD i true = inL L i := by
  unfold inL
  rw [Array.getD_eq_getD_getElem?, Array.getD_eq_getD_getElem?, Array.getElem?_eq_getElem hi]
  rfl

/-- when nothing is left to list -/
theorem all_listed {ops : List Oper} : ∀ {κ : List Nat} {p : Nat}, chkPos ops bm em p κ = true → (∀ i, p.testBit i = true → D i = true) → (∀ i o, nthO i ops = some o → (∀ e ∈ o.after.toList, Region.binds .any e = true → D e.on = true) → D i = true) → ∀ i, i < ops.length → D i = true
  | [], p, h, hp, hs, i, hi => by
    rcases chkPos_all h i hi with h | h
    · exact hp i h
    · cases h
  | x :: κ, p, h, hp, hs, i, hi => by
    obtain ⟨o, h1, h2, h3, h4, h5, h6⟩ := chkPos_cons h
    refine all_listed h6 (fun j hj => ?_) hs i hi
    rw [bit_add] at hj
    simp only [Bool.or_eq_true, decide_eq_true_eq] at hj
    rcases hj with hj | rfl
    · exact hp j hj
    · exact hs _ o h1 fun e he hb => hp _ (h5 e he hb)

/-- all is done: the frame and the machine are at one -/
theorem Inv.done (inv : Inv tab C opsA.toList bm n ρ₀ s₀ w₀ p pend rd a s D â a' w ρ) (hall : ∀ i, i < opsA.toList.length → D i = true) :
    St C ρ n a (insertAll pend s) a' w ∧ Went ρ₀ s₀ w₀ ρ (insertAll pend s) w := by
  have hlen : ∀ {i : Nat} {o : Oper}, nthO i opsA.toList = some o → i < opsA.toList.length := fun {i o} h => by
    rw [nthO_eq] at h
    exact (List.getElem?_eq_some_iff.1 h).1
  obtain ⟨h1, h2⟩ := insertAll_ok inv.st.hr inv.went inv.pnd fun x hx => by
    cases hD : D x.1 with
    | true => rfl
    | false =>
      obtain ⟨o, g, e1, _⟩ := inv.pblk x hx hD
      rw [hall _ (hlen e1)] at hD; cases hD
  refine ⟨⟨h1, ⟨⟨inv.st.ac.1.1, fun t ht => ?_⟩, by rw [inv.dfs]; exact inv.st.ac.2⟩, inv.st.sz⟩, h2⟩
  have hle := inv.st.ac.1.1
  have := inv.st.ac.1.2 t ht
  rw [inv.agree t (Nat.lt_of_lt_of_le ht hle) fun i o hi _ hDi => by rw [hall i (hlen hi)] at hDi; cases hDi] at this
  exact this

theorem draw_main (tok : TabOk P tab) (hz : ZerosOk tab) (hC : C.ts = tab.size) (EO : EnvOk P tab C E) (F : Facts tab opsA.toList bm em) (hall : ∀ x ∈ opsA.toList, operOk n C.G x = true) {κ₀ : List Nat} (hpos : chkPos opsA.toList bm em 0 κ₀ = true) :
    ∀ (fuel t : Nat) (L : Array Bool) {κ : List Nat} {p : Nat} {pend : Pend} {rd : List Nat} {a : A} {s : S} {â : A} {a' : Act} {w : World} {ρ : Rn} {outs : List Out}, L.size = opsA.size → unl opsA.size L ≤ fuel → chkPos opsA.toList bm em p κ = true → drawGo tab opsA.toList bm E κ pend rd a s = some outs →
      Inv tab C opsA.toList bm n ρ₀ s₀ w₀ p pend rd a s (inL L) â a' w ρ → FrOk ρ E b cs →
      Fin P C ρ₀ s₀ w₀ n outs (lone (b.atR a' (.inRegion opsA (Region.linearise.go .any opsA fuel t L []) :: kk)) cs w) b kk cs := by
  -- at the end
  have fin : ∀ {L : Array Bool} {κ : List Nat} {p : Nat} {pend : Pend} {rd : List Nat} {a : A} {s : S} {â : A} {a' : Act} {w : World} {ρ : Rn} {outs : List Out}, (∀ i, i < opsA.toList.length → inL L i = true) → chkPos opsA.toList bm em p κ = true → drawGo tab opsA.toList bm E κ pend rd a s = some outs →
      Inv tab C opsA.toList bm n ρ₀ s₀ w₀ p pend rd a s (inL L) â a' w ρ → Fin P C ρ₀ s₀ w₀ n outs (lone (b.atR a' (.inRegion opsA [] :: kk)) cs w) b kk cs := by
    intro L κ p pend rd a s â a' w ρ outs hL hc hg inv
    obtain ⟨κ₁, p₁, pend₁, rd₁, a₁, s₁, hc₁, hg₁, inv₁, hend⟩ := adv F hall hc hg inv
    rcases hend with rfl | ⟨e, κ₂, o, rfl, ho, he⟩
    · cases hg₁
      obtain ⟨h1, h2⟩ := inv₁.done hL
      exact ⟨.nrm a₁ _, List.mem_singleton.2 rfl, ρ, w, a', h1, h2, .one stepR_region_end⟩
    · obtain ⟨o', h1, h2, _⟩ := chkPos_cons hc₁
      have hlt : e < opsA.toList.length := by rw [nthO_eq] at ho; exact (List.getElem?_eq_some_iff.1 ho).1
      rw [inv₁.sub e (hL e hlt)] at h2
      cases h2
  intro fuel
  induction fuel with
  | zero =>
    intro t L κ p pend rd a s â a' w ρ outs hsz hun hc hg inv hfr
    refine fin (fun i hi => ?_) hc hg inv
    have h0 : ((List.range opsA.size).filter fun i => !inL L i) = [] := List.length_eq_zero_iff.1 (Nat.le_zero.1 hun)
    cases h : inL L i with
    | true => rfl
    | false =>
      have : i ∈ ((List.range opsA.size).filter fun i => !inL L i) := List.mem_filter.2 ⟨List.mem_range.2 (by simpa using hi), by simp [h]⟩
      rw [h0] at this; cases this
  | succ fuel ih =>
    intro t L κ p pend rd a s â a' w ρ outs hsz hun hc hg inv hfr
    simp only [Region.linearise.go]
    change Fin P C ρ₀ s₀ w₀ n outs (lone (b.atR a' (.inRegion opsA (match (Region.ready .any opsA L)[t % (Region.ready .any opsA L).length]? with
      | some i => Region.linearise.go .any opsA fuel (t / (Region.ready .any opsA L).length) (L.setIfInBounds i true) [i]
      | none => [].reverse) :: kk)) cs w) b kk cs
    cases hi : (Region.ready .any opsA L)[t % (Region.ready .any opsA L).length]? with
    | none =>
      have hnil : Region.ready .any opsA L = [] := by
        cases hr : Region.ready .any opsA L with
        | nil => rfl
        | cons x xs =>
          rw [hr] at hi
          have hlt : t % (x :: xs).length < (x :: xs).length := Nat.mod_lt _ (by simp)
          simp at hi
          simp at hlt
          omega
      refine fin (all_listed hpos (fun i h => by simp at h) fun i o ho hed => ?_) hc hg inv
      cases h : inL L i with
      | true => rfl
      | false =>
        have hlt : i < opsA.size := by
          rw [nthO_eq] at ho
          have := (List.getElem?_eq_some_iff.1 ho).1
          simpa using this
        have : i ∈ Region.ready .any opsA L := mem_ready.2 ⟨by rw [inL_true (by omega)]; exact h, o, by rw [← getElem_list, ← nthO_eq]; exact ho, fun e he hb => hed e (by simpa using he) hb⟩
        rw [hnil] at this; cases this
    | some i =>
      simp only []
      rw [linearise_go_acc, List.reverse_singleton, List.singleton_append]
      have hmem := mem_ready.1 (List.mem_of_getElem? hi)
      obtain ⟨hun0, o, hoA, hed⟩ := hmem
      have hlt : i < opsA.size := (Array.getElem?_eq_some_iff.1 hoA).1
      have ho : nthO i opsA.toList = some o := by rw [nthO_eq, getElem_list]; exact hoA
      have hDi : inL L i = false := by rw [← inL_true (by omega)]; exact hun0
      have hltL : i < L.size := by omega
      -- the frame ahead
      obtain ⟨κ₁, p₁, pend₁, rd₁, a₁, s₁, hc₁, hg₁, inv₁, hend⟩ := adv F hall hc hg inv
      have hbD : ∀ l, (nthM i bm).testBit l = true → inL L l = true := fun l hl => by
        obtain ⟨e, he, hb, h⟩ := F.cl i o ho l hl
        have hDe : inL L e.on = true := hed e (by simpa using he) hb
        rcases h with h | h
        · rw [← h]; exact hDe
        · exact inv₁.down _ hDe l h
      have hunlt : unl opsA.size (L.setIfInBounds i true) ≤ fuel := by
        have : unl opsA.size (L.setIfInBounds i true) < unl opsA.size L := by
          unfold unl
          rw [inL_set hltL]
          refine cnt_lt (i := i) (by simp [hDi]) (by simp [plus_self]) (fun j hj => ?_) (List.mem_range.2 hlt)
          have : plus (inL L) i j = false := by simpa using hj
          simp [(plus_false this).1]
        omega
      have hsz' : (L.setIfInBounds i true).size = opsA.size := by simpa using hsz
      -- is an effect ahead of it?
      have ahead : ∀ {e κ₂ oe}, κ₁ = e :: κ₂ → nthO e opsA.toList = some oe → isEff tab oe = true → i ∈ κ₂ → False := by
        intro e κ₂ oe hκ hoe hee hin
        rw [hκ] at hc₁
        obtain ⟨_, h1, h2, h3, h4, h5, h6⟩ := chkPos_cons hc₁
        have := chkPos_after h6 e (by rw [F.eff e oe hoe]; exact hee) (by rw [bit_add]; simp) i hin
        rw [inv₁.sub e (hbD e this)] at h2
        cases h2
      have hloc := chkPos_all hc₁ i (by simpa using hlt)
      cases he : isEff tab o with
      | true =>
        have hpi : p₁.testBit i = false := by
          cases h : p₁.testBit i with
          | false => rfl
          | true => rw [inv₁.effs i o ho he h] at hDi; cases hDi
        have hin : i ∈ κ₁ := hloc.resolve_left (by rw [hpi]; intro h; cases h)
        rcases hend with rfl | ⟨e, κ₂, oe, rfl, hoe, hee⟩
        · cases hin
        · rcases List.mem_cons.1 hin with rfl | hin
          · unfold drawGo at hg₁
            simp only [ho, he, cond_true] at hg₁
            obtain ⟨a₂, s₂, â₁, a₁', w₁, ρ₁, outs₁, hk, hsub, hle, inv₂, hst⟩ := inv₁.effect (b := b) (cs := cs) (kk := kk) (rest := Region.linearise.go .any opsA fuel (t / (Region.ready .any opsA L).length) (L.setIfInBounds i true) []) (kc := fun a s => drawGo tab opsA.toList bm E κ₂ (restB (nthM i bm) pend₁) rd₁ a s) tok hz hC EO F hall hfr ho he hpi hbD hg₁
            obtain ⟨_, _, _, _, _, _, h6⟩ := chkPos_cons hc₁
            rw [← inL_set hltL] at inv₂
            exact ((ih _ _ hsz' hunlt h6 hk inv₂ (hfr.mono hle)).sub hsub).head hst
          · exact (ahead rfl hoe hee hin).elim
      | false =>
        have hpi : p₁.testBit i = true := by
          rcases hloc with h | hin
          · exact h
          · rcases hend with rfl | ⟨e, κ₂, oe, rfl, hoe, hee⟩
            · cases hin
            · rcases List.mem_cons.1 hin with rfl | hin
              · rw [ho] at hoe; cases hoe
                rw [he] at hee; cases hee
              · exact (ahead rfl hoe hee hin).elim
        obtain ⟨â₁, a₁', w₁, ρ₁, hle, inv₂, hst⟩ := inv₁.behind (b := b) (cs := cs) (kk := kk) (rest := Region.linearise.go .any opsA fuel (t / (Region.ready .any opsA L).length) (L.setIfInBounds i true) []) tok hz hC EO F hall hfr ho he hpi hDi hbD
        rw [← inL_set hltL] at inv₂
        exact (ih _ _ hsz' hunlt hc₁ hg₁ inv₂ (hfr.mono hle)).head hst

theorem draw_ok (tok : TabOk P tab) (hz : ZerosOk tab) (hC : C.ts = tab.size) (EO : EnvOk P tab C E) (hall : ∀ x ∈ opsA.toList, operOk n C.G x = true) (hd : drawOkB tab opsA = true) (id : Nat) :
    RunOk P C E n ((drawDen tab opsA).run E) (.region id opsA true) := by
  intro a s outs h ρ w a' b k cs hfr st
  unfold drawDen drawWith at h
  unfold drawOkB drawOkW drawOkP at hd
  generalize masks opsA.toList [] = bm at h hd
  generalize maskOf (effList tab opsA.toList 0) = em at h hd
  generalize planGo bm em (effList tab opsA.toList 0) 0 = κ at h hd
  have hc := hd
  have h : drawGo tab opsA.toList bm E κ [] [] a s = some outs := h
  simp only [Bool.and_eq_true] at hc
  have hz0 : ∀ i, Nat.testBit 0 i = false := Nat.zero_testBit
  have hL : ∀ i, inL (Array.replicate opsA.size false) i = false := fun i => by
    unfold inL
    rw [Array.getD_eq_getD_getElem?, Array.getElem?_replicate]
    split <;> rfl
  refine Fin.head (.one stepR_region_draw) ?_
  rw [tok.mixed]
  simp only [Region.schedule, Bool.true_or, if_true]
  have inv : Inv tab C opsA.toList bm n ρ s w 0 [] [] a s (inL (Array.replicate opsA.size false)) a a' { w with drawn := w.drawn + 1 } ρ :=
    { st := ⟨st.hr.drawn _, st.ac, st.sz⟩
      went := ⟨Goes.drawn _, LogOk.refl _⟩
      dfs := rfl
      agree := fun _ _ _ => rfl
      sub := fun i hi => by rw [hL] at hi; cases hi
      effs := fun i o _ _ hp => by rw [hz0] at hp; cases hp
      down := fun i hi => by rw [hL] at hi; cases hi
      pdown := fun i hp => by rw [hz0] at hp; cases hp
      lag := fun i o _ _ hp => by rw [hz0] at hp; cases hp
      pnd := ⟨fun x hx => (by cases hx), List.Pairwise.nil, List.Pairwise.nil⟩
      pin := fun x hx => (by cases hx)
      idxs := List.Pairwise.nil
      pblk := fun x hx => (by cases hx) }
  refine draw_main tok hz hC EO (facts_of hc.1) hall hc.2 opsA.size _ _ (by simp) ?_ hc.2 h inv hfr
  unfold unl
  exact Nat.le_trans (List.length_filter_le _ _) (by simp)

end Go.Ac
end
section
namespace Go.Ac
variable {P : Program} {tab : Tab} {C : Cx} {ρ : Rn} {s : S} {w w' : World} {a : A} {a' : Act} {o : Oper} {E : Env} {n : Nat}
variable {b : Frame} {cs : List Frame} {k : List Item} {ops : Array Oper} {outs : List Out}

/-! ### a region in its order -/
theorem seqOps_ok (tok : TabOk P tab) (hz : ZerosOk tab) (hC : C.ts = tab.size) (EO : EnvOk P tab C E) (hall : ∀ x ∈ ops.toList, operOk n C.G x = true) :
    ∀ (l : List Oper) (i : Nat), ops.toList.drop i = l → ∀ {a s ρ w a' outs}, (seqOps tab ops.toList l).run E a s finish = some outs → FrOk ρ E b cs → St C ρ n a s a' w →
      Fin P C ρ s w n outs (lone (b.atR a' (.inRegion ops (List.range' i l.length) :: k)) cs w) b k cs := by
  intro l
  induction l with
  | nil =>
    intro i hd a s ρ w a' outs h hfr st
    cases h
    exact ⟨.nrm a s, List.mem_singleton.2 rfl, ρ, w, a', st, Went.refl _ _ _, .one stepR_region_end⟩
  | cons o l ih =>
    intro i hd a s ρ w a' outs h hfr st
    have hi : ops[i]? = some o := by
      rw [← getElem_list]
      have : (ops.toList.drop i)[0]? = some o := by rw [hd]; rfl
      simpa using this
    have hd' : ops.toList.drop (i + 1) = l := by
      rw [← List.drop_drop, hd]; rfl
    have h : (oneOp tab ops.toList o).run E a s (fun a s => (seqOps tab ops.toList l).run E a s finish) = some outs := h
    obtain ⟨a₁, s₁, ρ₁, w₁, a₁', outs₁, hk, hsub, st₁, hw, _, hst⟩ := oneOp_ok (b := b) (cs := cs) (kk := k) (rest := List.range' (i + 1) l.length) tok hz hC EO hfr st hall hi h
    have := ih (i + 1) hd' hk (hfr.mono hw.goes.ext) st₁
    exact ((this.sub hsub).went hw).head hst

theorem region_ok (tok : TabOk P tab) (hz : ZerosOk tab) (hC : C.ts = tab.size) (EO : EnvOk P tab C E) (hall : ∀ x ∈ ops.toList, operOk n C.G x = true) (id : Nat) :
    RunOk P C E n ((regDen tab ops false).run E) (.region id ops false) := by
  intro a s outs h ρ w a' b k cs hfr st
  refine Fin.head (.one stepR_region) ?_
  have := seqOps_ok (b := b) (cs := cs) (k := k) tok hz hC EO hall ops.toList 0 rfl h hfr st
  rw [List.range_eq_range']
  simpa using this

/-! ### code -/
theorem kOut {f : Out → Outs} {l : List Out} {r : List Out} {o : Option (List Out)} (h : bindO o f = some r) (ho : o = some l) : ∀ x ∈ l, ∃ r', f x = some r' ∧ ∀ y ∈ r', y ∈ r := by
  obtain ⟨l', h1, h2⟩ := bindO_some h
  rw [h1] at ho; cases ho
  exact h2

/-- code behind code: x has been left by o; what comes of it -/
theorem Fin.bind {m : Machine} {k₁ : List Item} {l : List Out} (f : Fin P C ρ s w n l m b k₁ cs)
    (h : ∀ o ∈ l, ∀ ρ₁ w₁ a₁', Rn.le ρ ρ₁ → St C ρ₁ n o.a o.s a₁' w₁ → Arr P m b k₁ cs a₁' w₁ o → Fin P C ρ₁ o.s w₁ n outs m b k cs) : Fin P C ρ s w n outs m b k cs := by
  obtain ⟨o, ho, ρ₁, w₁, a₁', h1, h2, h3⟩ := f
  exact (h o ho ρ₁ w₁ a₁' h2.goes.ext h1 h3).went h2

theorem Fin.one {m : Machine} {o : Out} {a₁' : Act} (st : St C ρ n o.a o.s a₁' w) (h : Arr P m b k cs a₁' w o) : Fin P C ρ o.s w n [o] m b k cs :=
  ⟨o, List.mem_singleton.2 rfl, ρ, w, a₁', st, Went.refl _ _ _, h⟩

theorem seq_ok {x y : Code} {rx : A → S → Outs} {gy : DF} (hx : RunOk P C E n rx x) (hy : RunOk P C E n (gy.run E) y) :
    RunOk P C E n (fun a s => bindO (rx a s) (kSeq gy E)) (.seq x y) := by
  intro a s outs h ρ w a' b k cs hfr st
  obtain ⟨l, h1, h2⟩ := bindO_some h
  refine Fin.head (.one stepR_seq) (Fin.bind (hx a s l h1 ρ w a' b (.code y :: k) cs hfr st) fun o ho ρ₁ w₁ a₁' hle st₁ har => ?_)
  obtain ⟨r', h3, h4⟩ := h2 o ho
  cases o with
  | nrm a₁ s₁ => exact ((hy a₁ s₁ r' h3 ρ₁ w₁ a₁' b k cs (hfr.mono hle) st₁).head har).sub h4
  | ext id a₁ s₁ =>
    cases h3
    obtain ⟨k₂, e1, e2⟩ := har
    exact Fin.sub h4 (Fin.one (o := .ext id a₁ s₁) st₁ ⟨k₂, e1, e2⟩)
  | ret a₁ s₁ =>
    cases h3
    exact Fin.sub h4 (Fin.one (o := .ret a₁ s₁) st₁ har)

theorem block_ok {x : Code} {rx : A → S → Outs} {id : Nat} (hx : RunOk P C E n rx x) : RunOk P C E n (fun a s => bindO (rx a s) (kBlock id)) (.block id x) := by
  intro a s outs h ρ w a' b k cs hfr st
  obtain ⟨l, h1, h2⟩ := bindO_some h
  refine Fin.head (.one stepR_block) (Fin.bind (hx a s l h1 ρ w a' b (.inBlock id :: k) cs hfr st) fun o ho ρ₁ w₁ a₁' hle st₁ har => ?_)
  obtain ⟨r', h3, h4⟩ := h2 o ho
  cases o with
  | nrm a₁ s₁ =>
    cases h3
    exact Fin.sub h4 (Fin.one (o := .nrm a₁ s₁) st₁ (Steps.trans har (.one stepR_inBlock)))
  | ret a₁ s₁ =>
    cases h3
    exact Fin.sub h4 (Fin.one (o := .ret a₁ s₁) st₁ har)
  | ext id' a₁ s₁ =>
    obtain ⟨k₂, e1, e2⟩ := har
    have h3 : cond (Nat.beq id' id) (some [Out.nrm a₁ s₁]) (some [Out.ext id' a₁ s₁]) = some r' := h3
    cases hb : Nat.beq id' id with
    | true =>
      rw [hb] at h3
      cases h3
      have := of_beq hb
      subst this
      refine Fin.sub h4 (Fin.one (o := .nrm a₁ s₁) st₁ (Steps.trans e2 (.one (stepR_exit ?_))))
      rw [e1]
      simp [exitTo]
    | false =>
      rw [hb] at h3
      cases h3
      refine Fin.sub h4 (Fin.one (o := .ext id' a₁ s₁) st₁ ⟨k₂, ?_, e2⟩)
      rw [e1]
      have hne : id ≠ id' := fun e => by subst e; rw [beqT rfl] at hb; cases hb
      simp [exitTo, hne]

theorem loop_ok {x : Code} {rx : A → S → Outs} (hx : RunOk P C E n rx x) (m : Nat) : RunOk P C E n (iter rx m) (.loop x) := by
  have key : ∀ (m : Nat) a s outs, iter rx m a s = some outs → ∀ ρ w a' b k cs, FrOk ρ E b cs → St C ρ n a s a' w → Fin P C ρ s w n outs (lone (b.atR a' (.code x :: .inLoop x :: k)) cs w) b k cs := by
    intro m
    induction m with
    | zero => intro a s outs h; cases h
    | succ m ih =>
      intro a s outs h ρ w a' b k cs hfr st
      have h : bindO (rx a s) (kIter (iter rx m)) = some outs := h
      obtain ⟨l, h1, h2⟩ := bindO_some h
      refine Fin.bind (hx a s l h1 ρ w a' b (.inLoop x :: k) cs hfr st) fun o ho ρ₁ w₁ a₁' hle st₁ har => ?_
      obtain ⟨r', h3, h4⟩ := h2 o ho
      cases o with
      | nrm a₁ s₁ => exact (((ih a₁ s₁ r' h3 ρ₁ w₁ a₁' b k cs (hfr.mono hle) st₁).head (.one stepR_inLoop)).head har).sub h4
      | ext id a₁ s₁ =>
        cases h3
        obtain ⟨k₂, e1, e2⟩ := har
        exact Fin.sub h4 (Fin.one (o := .ext id a₁ s₁) st₁ ⟨k₂, e1, e2⟩)
      | ret a₁ s₁ =>
        cases h3
        exact Fin.sub h4 (Fin.one (o := .ret a₁ s₁) st₁ har)
  intro a s outs h ρ w a' b k cs hfr st
  exact (key m a s outs h ρ w a' b k cs hfr st).head (.one stepR_loop)

theorem cond_ok {x y : Code} {c : Operand} {gx gy : DF} (hc : opOk n C.G c = true) (hx : RunOk P C E n (gx.run E) x) (hy : RunOk P C E n (gy.run E) y) :
    RunOk P C E n (fun a s => condGo gx gy E a s ((opd c).get a)) (.cond c x y) := by
  intro a s outs h ρ w a' b k cs hfr st
  have hrel := opd_rel st.hr st.ac (x := c) (by rw [st.sz]; exact hc)
  obtain ⟨t, ht, h2⟩ := onOpt_some h
  have := vB_some ht
  rw [this] at hrel
  simp only [VRel] at hrel
  cases t with
  | true => exact (hx a s outs h2 ρ w a' b k cs hfr st).head (.one (by have := stepR_cond (P := P) (b := b) (a := a') (k := k) (cs := cs) (w := w) (x := x) (y := y) hrel; simpa using this))
  | false => exact (hy a s outs h2 ρ w a' b k cs hfr st).head (.one (by have := stepR_cond (P := P) (b := b) (a := a') (k := k) (cs := cs) (w := w) (x := x) (y := y) hrel; simpa using this))

/-! ### a range over a function -/
theorem DsRel.append {l m l' m' : List Deferred} (h : DsRel ρ l m) (h' : DsRel ρ l' m') : DsRel ρ (l ++ l') (m ++ m') := by
  induction l generalizing m with
  | nil => simp only [DsRel] at h; subst h; exact h'
  | cons d l ih =>
    simp only [DsRel] at h
    obtain ⟨d', r, rfl, h1, h2⟩ := h
    simp only [List.cons_append, DsRel]
    exact ⟨_, _, rfl, h1, ih h2⟩

theorem loopDefers_ok (hfr : FrOk ρ E b cs) (hr : HRel C ρ s w) {q : Nat × List Deferred × S} (h : loopDefers E.round s = some q) {ts : Array Value} {params : Array Tmp} {assign body : Code} :
    ∃ ρ₁ w₁ rd mark', HRel C ρ₁ q.2.2 w₁ ∧ Went ρ s w ρ₁ q.2.2 w₁ ∧ ρ₁ q.1 = some rd ∧ DsRel ρ₁ q.2.1 mark' ∧
      (Instr.enterLoop b.fn ts params assign body b.roundOf).run P w = .ok (w₁.heap.size, mark') (w₁.alloc (.loop { state := .ready, pending := none, fn := b.fn, tmps := ts, params, assign, body, defers := rd.blk })) := by
  rcases hfr.round with ⟨h1, h2⟩ | ⟨l, rb, h1, h2, h3⟩
  · rw [h1] at h
    cases h
    obtain ⟨t1, t2⟩ := hr.make (o := .deferred (some [])) (o' := .deferred (some [])) (rb := ⟨w.heap.size, 0, 0, 0⟩) rfl ⟨[], rfl, by simp [DsRel]⟩
    refine ⟨_, _, ⟨w.heap.size, 0, 0, 0⟩, [{ target := .collected w.heap.size, args := #[] }], t1, ⟨t2, LogOk.new _ _⟩, Rn.add_at _ _ _, ?_, ?_⟩
    · simp only [DsRel]
      exact ⟨_, _, rfl, .inl ⟨s.next, _, rfl, Rn.add_at _ _ _, rfl⟩, rfl⟩
    · rw [h2]
      rfl
  · rw [h1] at h
    simp only [loopDefers] at h
    split at h
    · rename_i r hl
      cases h
      obtain ⟨rb', l', e1, e2, e3⟩ := loop_there hr hl
      rw [h2] at e1; cases e1
      obtain ⟨rd, e4, e5⟩ := e3.defers
      refine ⟨ρ, w, rd, [], hr, Went.refl _ _ _, e4, by simp [DsRel], ?_⟩
      rw [h3]
      unfold Instr.enterLoop
      simp only [Sem.run_bind, run_getLoop e2, Result.andThen_ok]
      rw [e5]
      rfl
    · cases h

theorem range_ok (tok : TabOk P tab) (hz : ZerosOk tab) (hC : C.ts = tab.size) (hL : C.lok = lokOf tab C.G) (EO : EnvOk P tab C E) {f : Operand} {params : Array Tmp} {assign body : Code}
    (hok : codeOk tab n C.G (.rangeFunc f params assign body) = true) : RunOk P C E n ((rangeDen f params.toList assign body).run E) (.rangeFunc f params assign body) := by
  intro a s outs h ρ w a' b k cs hfr st
  simp only [codeOk, Bool.and_eq_true] at hok
  have h : (match loopDefers E.round s with
    | none => none
    | some q => rangeGo f params.toList assign body E a q) = some outs := h
  cases hd : loopDefers E.round s with
  | none => rw [hd] at h; cases h
  | some q =>
    rw [hd] at h
    simp only at h
    obtain ⟨ρ₁, w₁, rd, mark', hr₁, hw₁, hrd, hmark, hent⟩ := loopDefers_ok (P := P) hfr st.hr hd (ts := a'.tmps) (params := params) (assign := assign) (body := body)
    unfold rangeGo at h
    have hfv := opd_rel st.hr st.ac (x := f) (by rw [st.sz]; exact hok.1)
    split at h
    · rename_i g first cap hf
      rw [hf] at hfv
      have hfv := hfv.mono hw₁.goes.ext
      simp only [VRel] at hfv
      obtain ⟨f', first', cap', hev, hff, hfi, hca⟩ := hfv
      have hff : f' = .func g := hff
      subst hff
      rw [ARel_iff] at hfi hca
      obtain ⟨l, hcall, hall⟩ := bindO_some h
      obtain ⟨⟨fn, hfn⟩, hcalls⟩ := EO.call _ _ _ _ hcall
      -- the loop
      have hlr : LoopRel C ρ₁ ⟨.ready, none, E.fn, a.tmps, params.toList, assign, body, q.1⟩ { state := .ready, pending := none, fn := b.fn, tmps := a'.tmps, params, assign, body, defers := rd.blk } :=
        ⟨rfl, rfl, hfr.fn, st.ac.1.mono hw₁.goes.ext, rfl, rfl, rfl, ⟨rd, hrd, rfl⟩, by
          rw [hL, st.sz]; exact ⟨hok.2.1, hok.2.2.1, hok.2.2.2⟩⟩
      obtain ⟨t1, t2⟩ := hr₁.make (rb := ⟨w₁.heap.size, 0, 0, 0⟩) rfl hlr.obj
      have hw₂ : Went ρ₁ q.2.2 w₁ _ _ _ := ⟨t2, LogOk.new _ _⟩
      have hle := hw₂.goes.ext
      have hargs : LRel (ρ₁.add q.2.2.next ⟨w₁.heap.size, 0, 0, 0⟩) (appL first.toList (Value.func (.yield q.2.2.next) #[] #[] :: cap.toList)) (first' ++ #[Value.func (.yield w₁.heap.size) #[] #[]] ++ cap').toList := by
        rw [appL_eq]
        simp only [Array.toList_append, List.append_assoc]
        refine (LRel.mono hle _ _ hfi).append ?_
        simp only [List.cons_append, List.nil_append, LRel]
        refine ⟨_, _, rfl, ?_, LRel.mono hle _ _ hca⟩
        simp only [VRel]
        exact ⟨_, _, _, rfl, ⟨_, Rn.add_at _ _ _, rfl⟩, by simp [ARel_iff, LRel], by simp [ARel_iff, LRel]⟩
      obtain ⟨v, w₃, ⟨p, hp, ρ₃, v', hv0, hv, hr₃, hw₃⟩, hst⟩ := step_ret_of (cs := cs) (c := b.atR ⟨a'.tmps, mark' ++ a'.defers⟩ (.inRangeFunc w₁.heap.size :: k)) (hcalls _ _ _ t1 hargs) (fun e w₁ ⟨q, _, ρ₁, v', h, _⟩ => ⟨v', h⟩)
      obtain ⟨r', hk, hsub⟩ := hall p hp
      have hres : (do let d ← resolve a'.eval (rangeCall f w₁.heap.size) 0; invoke d.target d.args : Sem Next).run P (w₁.alloc (.loop { state := .ready, pending := none, fn := b.fn, tmps := a'.tmps, params, assign, body, defers := rd.blk })) =
          .ok (.enter g (first' ++ #[Value.func (.yield w₁.heap.size) #[] #[]] ++ cap')) (w₁.alloc (.loop { state := .ready, pending := none, fn := b.fn, tmps := a'.tmps, params, assign, body, defers := rd.blk })) := by
        unfold resolve rangeCall
        show (do let d ← Deferred.ofValue (a'.eval f) (#[Operand.const (.func (.yield w₁.heap.size) #[] #[])].map a'.eval); invoke d.target d.args : Sem Next).run P _ = _
        rw [hev]
        have hm : Array.map a'.eval #[Operand.const (Value.func (Fn.yield w₁.heap.size) #[] #[])] = #[Value.func (Fn.yield w₁.heap.size) #[] #[]] := by simp [Act.eval]
        rw [hm]
        exact enter_func tok hfn first' cap' _
      have hstep := step_range (b := b) (cs := cs) (k := k) (f := f) hent hres
      refine Fin.sub hsub (Fin.head (.head hstep hst) ?_)
      have hwall := (hw₁.trans hw₂).trans hw₃
      have hds : DsRel ρ₃ (q.2.1 ++ a.defers) (mark' ++ a'.defers) := by
        have hm := (hmark.mono hle).mono hw₃.goes.ext
        exact hm.append (st.ac.2.mono hwall.goes.ext)
      unfold afterLoop at hk
      split at hk
      · rename_i r hl
        obtain ⟨rb, l', e1, e2, e3⟩ := loop_there hr₃ hl
        have hrb : rb = ⟨w₁.heap.size, 0, 0, 0⟩ := by
          have := hw₃.goes.ext _ _ (Rn.add_at ρ₁ q.2.2.next ⟨w₁.heap.size, 0, 0, 0⟩)
          rw [e1] at this
          exact Option.some.inj this
        subst hrb
        split at hk
        · cases hk
        · rename_i hbusy
          have hend := run_endLoop (P := P) e2 (by rw [e3.state]; exact fun h => hbusy h)
          have hlr' : LoopRel C ρ₃ (r.set .exhausted r.pending) { l' with state := .exhausted } :=
            ⟨rfl, e3.pending, e3.fn, e3.tmps, e3.params, e3.assign, e3.body, e3.defers, by have := e3.lok; rw [hL] at this ⊢; exact this⟩
          obtain ⟨u1, u2⟩ := hr₃.loop_turn hl e1 hlr'
          have st₄ : St C ρ₃ n ⟨a.tmps, q.2.1 ++ a.defers⟩ (p.2.put q.2.2.next (.loop (r.set .exhausted r.pending))) ⟨a'.tmps, mark' ++ a'.defers⟩ _ := ⟨u1, ⟨st.ac.1.mono hwall.goes.ext, hds⟩, st.sz⟩
          have hstE := step_endRange (b := b) (a' := ⟨a'.tmps, mark' ++ a'.defers⟩) (k := k) (cs := cs) hend
          have hfin : (b.atR ⟨a'.tmps, mark' ++ a'.defers⟩ (.inRangeFunc w₁.heap.size :: k)).finish v = b.atR ⟨a'.tmps, mark' ++ a'.defers⟩ (.endRangeFunc w₁.heap.size :: k) := rfl
          rw [hfin]
          refine Fin.head (.one hstE) (Fin.went (hwall.trans u2) ?_)
          have hjump : (l'.pending.map Item.code).toList = (r.pending.map Item.code).toList := by rw [e3.pending]
          rw [hjump]
          split at hk
          · rename_i hp0
            cases hk
            rw [hp0]
            exact Fin.one (o := .nrm _ _) (by rw [hp0] at st₄; exact st₄) (Steps.refl P _)
          · rename_i hp0
            cases hk
            rw [hp0]
            exact Fin.one (o := .ret _ _) (by rw [hp0] at st₄; exact st₄) ⟨k, Steps.refl P _⟩
          · rename_i id hp0
            cases hk
            rw [hp0]
            exact Fin.one (o := .ext id _ _) (by rw [hp0] at st₄; exact st₄) ⟨k, rfl, Steps.refl P _⟩
          · cases hk
      · cases hk
    · cases h

/-- every code is followed rightly -/
theorem den_ok (tok : TabOk P tab) (hz : ZerosOk tab) (hC : C.ts = tab.size) (hL : C.lok = lokOf tab C.G) (EO : EnvOk P tab C E) : ∀ c : Code, codeOk tab n C.G c = true → RunOk P C E n ((den tab c).run E) c
  | .skip, _ => by
    intro a s outs h ρ w a' b k cs hfr st
    cases h
    exact Fin.one (o := .nrm a s) st (.one stepR_skip)
  | .label l, _ => by
    intro a s outs h ρ w a' b k cs hfr st
    cases h
    exact Fin.one (o := .nrm a s) st (.one stepR_label)
  | .region id ops false, hok => by
    simp only [codeOk, Bool.and_eq_true] at hok
    exact region_ok tok hz hC EO (List.all_eq_true.1 hok.1) id
  | .region id ops true, hok => by
    simp only [codeOk, Bool.and_eq_true] at hok
    exact draw_ok tok hz hC EO (List.all_eq_true.1 hok.1) hok.2 id
  | .seq x y, hok => by
    simp only [codeOk, Bool.and_eq_true] at hok
    exact seq_ok (den_ok tok hz hC hL EO x hok.1) (den_ok tok hz hC hL EO y hok.2)
  | .cond c x y, hok => by
    simp only [codeOk, Bool.and_eq_true] at hok
    exact cond_ok hok.1 (den_ok tok hz hC hL EO x hok.2.1) (den_ok tok hz hC hL EO y hok.2.2)
  | .block id x, hok => block_ok (den_ok tok hz hC hL EO x hok)
  | .loop x, hok => by
    have h := loop_ok (den_ok tok hz hC hL EO x hok) 1000000
    rw [den]
    exact h
  | .rangeFunc f params assign body, hok => range_ok tok hz hC hL EO hok
  | .scope x, hok => by
    intro a s outs h ρ w a' b k cs hfr st
    refine Fin.head (.one stepR_scope) (Fin.bind (den_ok tok hz hC hL EO x hok a s outs h ρ w a' b (.inScope x :: k) cs hfr st) fun o ho ρ₁ w₁ a₁' hle st₁ har => ?_)
    refine Fin.sub (fun y hy => by rw [List.mem_singleton.1 hy]; exact ho) (Fin.one (o := o) st₁ ?_)
    cases o with
    | nrm a₁ s₁ => exact Steps.trans har (.one stepR_inScope)
    | ext id a₁ s₁ => obtain ⟨k₂, e1, e2⟩ := har; exact ⟨k₂, e1, e2⟩
    | ret a₁ s₁ => exact har
  | .exit id, _ => by
    intro a s outs h ρ w a' b k cs hfr st
    cases h
    exact Fin.one (o := .ext id a s) st ⟨k, rfl, Steps.refl P _⟩
  | .ret, _ => by
    intro a s outs h ρ w a' b k cs hfr st
    cases h
    exact Fin.one (o := .ret a s) st ⟨k, Steps.refl P _⟩
  | .goto l, _ => by intro a s outs h; cases h
  | .refuse m, _ => by intro a s outs h; cases h

end Go.Ac
end
section
namespace Go.Ac
variable {P : Program} {tab : Tab} {C : Cx} {ρ : Rn} {s : S} {w w' : World} {a : A} {a' : Act} {o : Oper} {E : Env} {n : Nat}
variable {b : Frame} {cs : List Frame} {k : List Item} {ops : Array Oper}

/-! ### the results -/
def resOk (n : Nat) (rs : List ResultVar) : Bool := rs.all fun
  | .tmp t => Nat.ble (t + 1) n
  | .cell a _ => Nat.ble (a + 1) n

def resOne (tmps : Array Value) : ResultVar → Sem Value
  | .tmp t => pure (tmps.getD t undef)
  | .cell a t => do loadVar t (← asAddr (tmps.getD a undef))

theorem loadVar_of {t : Nat} {x' v' : Value} {b : Addr} (hx : VRel ρ (.pointer (some b)) x') (h : (Instr.loadAt t x').run P w = .ok v' w) : (do loadVar t (← asAddr x') : Sem Value).run P w = .ok v' w := by
  simp only [VRel] at hx
  obtain ⟨rb, _, rfl⟩ := hx
  exact h

theorem resL_ok (tok : TabOk P tab) (hr : HRel C ρ s w) (ht : TRel ρ a.tmps a'.tmps) : ∀ {rs : List ResultVar} {vs : List Value}, resOk a'.tmps.size rs = true → (resL tab rs).run a s = some vs →
    ∃ vs', (rs.mapM (resOne a'.tmps)).run P w = .ok vs' w ∧ LRel ρ vs vs'
  | [], vs, _, h => by cases h; exact ⟨[], rfl, by simp [LRel]⟩
  | .tmp t :: rs, vs, hok, h => by
    simp only [resOk, List.all_cons, Bool.and_eq_true] at hok
    have h : consO (some ((slot t).get a)) ((resL tab rs).run a s) = some vs := h
    cases hrs : (resL tab rs).run a s with
    | none => rw [hrs] at h; cases h
    | some l =>
      rw [hrs] at h
      cases h
      obtain ⟨vs', h1, h2⟩ := resL_ok tok hr ht (rs := rs) hok.2 hrs
      refine ⟨a'.tmps.getD t undef :: vs', ?_, ?_⟩
      · rw [List.mapM_cons, Sem.run_bind]
        show ((rs.mapM (resOne a'.tmps) >>= fun vs => pure (a'.tmps.getD t undef :: vs)) : Sem (List Value)).run P w = _
        rw [Sem.run_bind, h1]
        rfl
      · simp only [LRel]
        exact ⟨_, _, rfl, ht.2 t (of_ble hok.1), h2⟩
  | .cell ad t :: rs, vs, hok, h => by
    simp only [resOk, List.all_cons, Bool.and_eq_true] at hok
    have hx : VRel ρ ((slot ad).get a) (a'.tmps.getD ad undef) := ht.2 ad (of_ble hok.1)
    have fin : ∀ {v : Value} {l : List Value} {v' : Value}, (resL tab rs).run a s = some l → VRel ρ v v' → (resOne a'.tmps (.cell ad t)).run P w = .ok v' w → ∃ vs', ((ResultVar.cell ad t :: rs).mapM (resOne a'.tmps)).run P w = .ok vs' w ∧ LRel ρ (v :: l) vs' := by
      intro v l v' hrs hv he
      obtain ⟨vs', h1, h2⟩ := resL_ok tok hr ht (rs := rs) hok.2 hrs
      refine ⟨v' :: vs', ?_, ?_⟩
      · rw [List.mapM_cons, Sem.run_bind, he]
        show ((rs.mapM (resOne a'.tmps) >>= fun vs => pure (v' :: vs)) : Sem (List Value)).run P w = _
        rw [Sem.run_bind, h1]
        rfl
      · simp only [LRel]
        exact ⟨_, _, rfl, hv, h2⟩
    unfold resL at h
    split at h
    · rename_i m hag hsz
      have h : consO (vLoadN m s ((slot ad).get a)) ((resL tab rs).run a s) = some vs := h
      cases hl : vLoadN m s ((slot ad).get a) with
      | none => rw [hl] at h; cases h
      | some v =>
        rw [hl] at h
        cases hrs : (resL tab rs).run a s with
        | none => rw [hrs] at h; cases h
        | some l =>
          rw [hrs] at h
          cases h
          obtain ⟨v', e1, e2⟩ := loadN_ok tok hr hag hsz hx hl
          obtain ⟨b, hb, _⟩ := onOpt_some hl
          rw [vP_some hb] at hx
          exact fin hrs e2 (loadVar_of hx e1)
    · rename_i m hag hsz
      have h : consO (vLoad1 s ((slot ad).get a)) ((resL tab rs).run a s) = some vs := h
      cases hl : vLoad1 s ((slot ad).get a) with
      | none => rw [hl] at h; cases h
      | some v =>
        rw [hl] at h
        cases hrs : (resL tab rs).run a s with
        | none => rw [hrs] at h; cases h
        | some l =>
          rw [hrs] at h
          cases h
          obtain ⟨v', e1, e2⟩ := load1_ok tok hr hag hx hl
          obtain ⟨b, hb, _⟩ := onOpt_some hl
          rw [vP_some hb] at hx
          exact fin hrs e2 (loadVar_of hx e1)
    · cases h

theorem results_eq (fn : Func) (tmps : Array Value) : results fn tmps = (do
    let vs ← fn.results.mapM (resOne tmps)
    pure (if h : vs.size = 1 then vs[0] else .tuple vs) : Sem Value) := by
  unfold results
  congr 1

theorem results_ok (tok : TabOk P tab) (hr : HRel C ρ s w) (ht : TRel ρ a.tmps a'.tmps) {fn : Func} (hok : resOk a'.tmps.size fn.results.toList = true) {v : Value} (h : resV ((resL tab fn.results.toList).run a s) = some v) :
    ∃ v', (results fn a'.tmps).run P w = .ok v' w ∧ VRel ρ v v' := by
  cases hl : (resL tab fn.results.toList).run a s with
  | none => rw [hl] at h; cases h
  | some l =>
    rw [hl] at h
    obtain ⟨vs', h1, h2⟩ := resL_ok tok hr ht hok hl
    have hm : (fn.results.mapM (resOne a'.tmps)).run P w = .ok vs'.toArray w := by
      rw [Array.mapM_eq_mapM_toList, Sem.run_map, h1]; rfl
    rw [results_eq]
    have hlen := h2.length
    unfold resV at h
    split at h
    · rename_i x hx
      cases hx
      cases h
      simp only [LRel] at h2
      obtain ⟨y, r, rfl, hy, rfl⟩ := h2
      refine ⟨y, ?_, hy⟩
      rw [Sem.run_bind, hm]
      rfl
    · rename_i l' hne hx
      cases hx
      cases h
      refine ⟨.tuple vs'.toArray, ?_, ?_⟩
      · rw [Sem.run_bind, hm]
        have : ¬ vs'.toArray.size = 1 := by
          intro h1
          have : l.length = 1 := by rw [hlen]; simpa using h1
          obtain ⟨y, hy⟩ := List.length_eq_one_iff.1 this
          exact hne y (by rw [hy])
        simp only [Result.andThen_ok, dif_neg this]
        rfl
      · simp only [VRel]
        exact ⟨_, rfl, by rw [ARel_iff]; exact h2⟩
    · cases h

/-! ### the slots at the beginning -/
theorem initTmps_cons (v : Value) (vs : List Value) (i : Nat) (t : Fr) : initTmps (v :: vs) i t = initTmps vs (i + 1) ((fspot i).set v t) := rfl
theorem initTmps_at : ∀ (vs : List Value) (i : Nat) (t : Fr) (j : Nat), i + vs.length ≤ 512 → j < 512 → (initTmps vs i t).at_ j = if i ≤ j ∧ j < i + vs.length then vs.getD (j - i) undef else t.at_ j
  | [], i, t, j, h, hj => by
    show t.at_ j = _
    rw [if_neg (by simp)]
  | v :: vs, i, t, j, h, hj => by
    simp only [List.length_cons] at h
    rw [initTmps_cons, initTmps_at vs (i + 1) _ j (by omega) hj, Fr.at_set _ _ _ hj (by omega)]
    simp only [List.length_cons]
    by_cases h1 : i + 1 ≤ j ∧ j < i + 1 + vs.length
    · rw [if_pos h1, if_pos (by omega)]
      have : j - i = (j - (i + 1)) + 1 := by omega
      rw [this]
      simp
    · rw [if_neg h1]
      by_cases h2 : j = i
      · subst h2
        rw [if_pos rfl, if_pos (by omega)]
        simp
      · rw [if_neg h2, if_neg (by omega)]

theorem init_rel {args : List Value} {args' : Array Value} (h : LRel ρ args args'.toList) {m : Nat} (hm : m ≤ 512) (hle : args.length ≤ m) :
    TRel ρ (initTmps args 0 fr0) (args' ++ Array.replicate (m - args'.size) undef) ∧ (args' ++ Array.replicate (m - args'.size) undef).size = m := by
  have hlen : args.length = args'.size := by simpa using h.length
  have hsz : (args' ++ Array.replicate (m - args'.size) undef).size = m := by simp; omega
  refine ⟨⟨by omega, fun t ht => ?_⟩, hsz⟩
  rw [hsz] at ht
  rw [initTmps_at _ _ _ _ (by omega) (by omega), fr0_at]
  by_cases h1 : t < args.length
  · rw [if_pos (by omega)]
    have hi : args[t]? = some (args.getD (t - 0) undef) := by
      rw [Nat.sub_zero, List.getD_eq_getElem?_getD, List.getElem?_eq_getElem h1]; rfl
    obtain ⟨w, h2, h3⟩ := h.get t hi
    have : (args' ++ Array.replicate (m - args'.size) undef).getD t undef = w := by
      rw [Array.getD_eq_getD_getElem?, Array.getElem?_append_left (by omega)]
      rw [← Array.getElem?_toList, h2]; rfl
    rw [this]
    exact h3
  · rw [if_neg (by omega)]
    have : (args' ++ Array.replicate (m - args'.size) undef).getD t undef = undef := by
      rw [Array.getD_eq_getD_getElem?, Array.getElem?_append_right (by omega)]
      rw [Array.getElem?_replicate]
      split <;> rfl
    rw [this]
    exact undef_rel ρ

/-! ### calls -/
def CallOk (P : Program) (tab : Tab) (C : Cx) (call : FuncId → List Value → S → Couts) : Prop :=
  ∀ g args s outs, call g args s = some outs → (∃ fn, tab.funcs.get g = some fn) ∧ ∀ ρ w (args' : Array Value), HRel C ρ s w → LRel ρ args args'.toList →
    Calls P g args' w fun e w₁ => ∃ q ∈ outs, ∃ ρ₁ v', e = .returned v' ∧ VRel ρ₁ q.1 v' ∧ HRel C ρ₁ q.2 w₁ ∧ Went ρ s w ρ₁ q.2 w₁
def YieldOk (P : Program) (C : Cx) (yield : Nat → List Value → S → Couts) : Prop :=
  ∀ l args s outs, yield l args s = some outs → ∀ ρ w (args' : Array Value) rb, HRel C ρ s w → LRel ρ args args'.toList → ρ l = some rb →
    ∃ f ts assign body, (Instr.yield rb.blk args').run P w = .ok (.round rb.blk f ts assign body) w ∧
      ∀ c cs, ∃ q ∈ outs, ∃ ρ₁ w₁ v', Steps P (lone (Frame.round rb.blk f ts assign body .normal) (c :: cs) w) (lone (c.finish v') cs w₁) ∧ VRel ρ₁ q.1 v' ∧ HRel C ρ₁ q.2 w₁ ∧ Went ρ s w ρ₁ q.2 w₁
/-- a body that runs, in whatever kind of frame -/
def BodyOk (P : Program) (tab : Tab) (C : Cx) (call : FuncId → List Value → S → Couts) : Prop :=
  ∀ f args s outs, call f args s = some outs → (∃ fn, tab.funcs.get f = some fn) ∧ ∀ ρ w (args' : Array Value) κ cs, (∀ fr : Frame, fr.kind = κ → tryRecover fr cs = none) → HRel C ρ s w → LRel ρ args args'.toList →
    ∃ q ∈ outs, ∃ ρ₁ w₁ v' fr, Steps P (lone (Frame.enter P f args' κ) cs w) (lone fr cs w₁) ∧ fr.fn = f ∧ fr.kind = κ ∧ fr.mode = .returning ∧ fr.defers = [] ∧
      (∃ fn, P.funcs[f]? = some fn ∧ (results fn fr.tmps).run P w₁ = .ok v' w₁) ∧ VRel ρ₁ q.1 v' ∧ HRel C ρ₁ q.2 w₁ ∧ Went ρ s w ρ₁ q.2 w₁

theorem calm_normal (cs : List Frame) (fr : Frame) (h : fr.kind = .normal) : tryRecover fr cs = none := by
  unfold tryRecover
  rw [h]
theorem calm_deferred {c : Frame} (hc : c.mode = .returning) (cs : List Frame) (fr : Frame) (h : fr.kind = .deferred) : tryRecover fr (c :: cs) = none := by
  rw [tryRecover_deferred h]
  unfold recoverD
  simp [hc]

/-- a deferred call -/
theorem BodyOk.deferred {call : FuncId → List Value → S → Couts} (h : BodyOk P tab C call) {f : FuncId} {args : List Value} {outs : Couts} {l : List CO} (hc : call f args s = some l) {c : Frame} (hm : c.mode = .returning) (cs : List Frame)
    (hr : HRel C ρ s w) {args' : Array Value} (ha : LRel ρ args args'.toList) :
    ∃ q ∈ l, ∃ ρ₁ w₁, Steps P (lone (Frame.enter P f args' .deferred) (c :: cs) w) (lone c cs w₁) ∧ HRel C ρ₁ q.2 w₁ ∧ Went ρ s w ρ₁ q.2 w₁ := by
  obtain ⟨q, hq, ρ₁, w₁, v', fr, h1, h2, h3, h4, h5, ⟨fn, h6, h7⟩, h8, h9, h10⟩ := (h _ _ _ _ hc).2 ρ w args' .deferred (c :: cs) (calm_deferred hm cs) hr ha
  refine ⟨q, hq, ρ₁, w₁, Steps.trans h1 (.one ?_), h9, h10⟩
  have := step_going_returned (P := P) (fr := fr) (c := c) (cs := cs) (w := w₁) (v := v') h3 ⟨h4, h5, fn, h2 ▸ h6, h7⟩
  rw [this, hm]
  have : ({ c with mode := settle .returning } : Frame) = c := by
    cases c; simp only [settle] at *; subst hm; rfl
  rw [this]

/-! ### leaving -/
theorem step_taken {fr : Frame} {blk : Nat} {ds calls : List Deferred} (hm : fr.mode ≠ .run) (hd : fr.defers = { target := .collected blk, args := #[] } :: ds) (h : (Instr.takeDeferred blk).run P w = .ok calls w') :
    step P (lone fr cs w) = .next (lone { fr with defers := calls ++ ds } cs w') := by
  refine step_lone_go ?_
  cases hmode : fr.mode with
  | run => exact absurd hmode hm
  | returning => simp [stepG, unwind, hmode, hd, Sem.runT_eq, h]
  | panicking chain => simp [stepG, unwind, hmode, hd, Sem.runT_eq, h]

theorem run_taken {blk : Nat} {ds : List Deferred} (h : w.heap[blk]? = some (.deferred (some ds))) : (Instr.takeDeferred blk).run P w = .ok ds (World.setObj w blk (.deferred none)) := by
  unfold Instr.takeDeferred
  rw [Sem.run_bind, run_getObj h (by intro c e f hc; cases hc)]
  simp only [Result.andThen_ok]
  rw [Sem.run_bind, run_setObj h (by intro c e f hc; cases hc)]
  rfl

theorem leave_ok (tok : TabOk P tab) {callD : FuncId → List Value → S → Couts} (hD : BodyOk P tab C callD) {fn : Func} {nt : Nat} (hok : resOk nt fn.results.toList = true) :
    ∀ (m : Nat) (ds : List Deferred) (s : S) (outs : List CO), leave callD (resL tab fn.results.toList) a m ds s = some outs → ∀ ρ w (fr : Frame) cs, fr.mode = .returning → DsRel ρ ds fr.defers → HRel C ρ s w → TRel ρ a.tmps fr.tmps → fr.tmps.size = nt →
      ∃ q ∈ outs, ∃ ρ₁ w₁ v', Steps P (lone fr cs w) (lone { fr with defers := [] } cs w₁) ∧ (results fn fr.tmps).run P w₁ = .ok v' w₁ ∧ VRel ρ₁ q.1 v' ∧ HRel C ρ₁ q.2 w₁ ∧ Went ρ s w ρ₁ q.2 w₁ := by
  intro m
  induction m with
  | zero => intro ds s outs h; cases h
  | succ m ih =>
    intro ds s outs h ρ w fr cs hm hds hr ht hsz
    unfold leave at h
    split at h
    · simp only [DsRel] at hds
      have h : endRes s (resV ((resL tab fn.results.toList).run a s)) = some outs := h
      cases hv : resV ((resL tab fn.results.toList).run a s) with
      | none => rw [hv] at h; cases h
      | some v =>
        rw [hv] at h
        cases h
        obtain ⟨v', h1, h2⟩ := results_ok (a' := ⟨fr.tmps, []⟩) tok hr ht (by rw [show (Act.mk fr.tmps []).tmps.size = nt from hsz]; exact hok) hv
        refine ⟨_, List.mem_singleton.2 rfl, ρ, w, v', ?_, h1, h2, hr, Went.refl _ _ _⟩
        have : ({ fr with defers := [] } : Frame) = fr := by cases fr; simp only at hds; subst hds; rfl
        rw [this]
        exact Steps.refl P _
    · rename_i d ds
      simp only [DsRel] at hds
      obtain ⟨d', ds', hfd, hd, hrest⟩ := hds
      rcases hd with ⟨b, rb, rfl, hb, rfl⟩ | ⟨f, cap, cap', dargs, dargs', rfl, rfl, hcap, hargs⟩
      · simp only at h
        split at h
        · rename_i l hg
          obtain ⟨rb', h1, hN, o', h2, lds, h3, h4⟩ := hr.live _ _ hg
          rw [hb] at h1; cases h1
          subst h3
          obtain ⟨t1, t2⟩ := hr.turn (s' := s.put b (.deferred none)) hg hb (fun c => S.get_put _ _ _ _) rfl (o' := .deferred none) rfl
          have hst := step_taken (P := P) (cs := cs) (w := w) (fr := fr) (by rw [hm]; intro h; cases h) hfd (run_taken h2)
          obtain ⟨q, hq, ρ₁, w₁, v', e1, e2, e3, e4, e5⟩ := ih (l ++ ds) _ outs h ρ _ { fr with defers := lds ++ ds' } cs hm (h4.append hrest) t1 ht hsz
          exact ⟨q, hq, ρ₁, w₁, v', .head hst e1, e2, e3, e4, (Went.mk t2 (LogOk.put _ _ _)).trans e5⟩
        · cases h
      · simp only at h
        obtain ⟨l, hcall, hall⟩ := bindO_some h
        obtain ⟨⟨fd, hfd'⟩, _⟩ := hD _ _ _ _ hcall
        have hla : LRel ρ (appL dargs.toList cap.toList) (dargs' ++ cap').toList := by
          rw [appL_eq, Array.toList_append]
          rw [ARel_iff] at hcap hargs
          exact hargs.append hcap
        have hinv : (invoke (.fn (.func f) cap') dargs').run P w = .ok (.enter f (dargs' ++ cap')) w := (tok.calls _ _ hfd').2 _ _
        obtain ⟨q, hq, ρ₁, w₁, e1, e2, e3⟩ := hD.deferred (outs := none) hcall (c := { fr with defers := ds' }) hm cs hr hla
        obtain ⟨r', hk, hsub⟩ := hall q hq
        obtain ⟨q₂, hq₂, ρ₂, w₂, v', f1, f2, f3, f4, f5⟩ := ih ds _ r' hk ρ₁ w₁ { fr with defers := ds' } cs hm (hrest.mono e3.goes.ext) e2 (ht.mono e3.goes.ext) hsz
        refine ⟨q₂, hsub _ hq₂, ρ₂, w₂, v', .head (Go.step_defer (by rw [hm]; intro h; cases h) hfd rfl hinv) (Steps.trans e1 f1), f2, f3, f4, e3.trans f5⟩

/-! ### bodies -/
/-- what is asked of the table's functions -/
noncomputable def fnOkB (tab : Tab) (G : Nat) (fn : Func) : Bool := match fn.body with
  | none => true
  | some c => Nat.ble fn.ntmps 512 && (codeOk tab fn.ntmps G c && resOk fn.ntmps fn.results.toList)
def FnsOk (tab : Tab) (G : Nat) : Prop := ∀ f fn, tab.funcs.get f = some fn → fnOkB tab G fn = true

theorem callB_body (tok : TabOk P tab) (hz : ZerosOk tab) (hC : C.ts = tab.size) (hL : C.lok = lokOf tab C.G) (hF : FnsOk tab C.G) {over : Over} {m : Nat} (hcall : CallOk P tab C (callN tab over m)) (hyield : YieldOk P C (yieldN tab over m)) (hD : BodyOk P tab C (callB tab over m)) :
    BodyOk P tab C (callB tab over (m + 1)) := by
  intro f args s outs h
  unfold callB at h
  split at h
  · cases h
  · rename_i d hd
    obtain ⟨hle, h⟩ := cond_some h
    unfold fden at hd
    split at hd
    · cases hd
    · rename_i fn hfn
      split at hd
      · cases hd
      · rename_i c hc
        cases hd
        refine ⟨⟨fn, hfn⟩, fun ρ w args' κ cs hcalm hr ha => ?_⟩
        have hok := hF f fn hfn
        unfold fnOkB at hok
        rw [hc] at hok
        simp only [Bool.and_eq_true] at hok
        obtain ⟨ho1, ho2, ho3⟩ := hok
        have ho1 := of_ble ho1
        have hle := of_ble hle
        rw [lenL_eq] at hle
        obtain ⟨hPf, hcf⟩ := tok.calls f fn hfn
        obtain ⟨ht, hsz⟩ := init_rel ha ho1 hle
        let b : Frame := { (default : Frame) with fn := f, kind := κ }
        have henter : Frame.enter P f args' κ = b.atR ⟨args' ++ Array.replicate (fn.ntmps - args'.size) undef, []⟩ [.code c] := by
          simp [Frame.enter, Frame.atR, hPf, hc, b]
          rfl
        have EO : EnvOk P tab C ⟨callN tab over m, yieldN tab over m, f, none⟩ := ⟨hcall, hyield⟩
        obtain ⟨l, hb1, hb2⟩ := bindO_some h
        have hfr : FrOk ρ ⟨callN tab over m, yieldN tab over m, f, none⟩ b cs := ⟨rfl, .inl ⟨rfl, rfl⟩, hcalm⟩
        have st : St C ρ fn.ntmps ⟨initTmps args 0 fr0, []⟩ s ⟨args' ++ Array.replicate (fn.ntmps - args'.size) undef, []⟩ w := ⟨hr, ⟨ht, by simp [DsRel]⟩, hsz⟩
        obtain ⟨o, ho, ρ₁, w₁, a₁', st₁, hw₁, har⟩ := den_ok tok hz hC hL EO c ho2 _ _ _ hb1 ρ w _ b [] cs hfr st
        obtain ⟨r', hk, hsub⟩ := hb2 o ho
        -- behind the body
        have fin : ∀ {a₁ : A} {s₁ : S}, St C ρ₁ fn.ntmps a₁ s₁ a₁' w₁ → Went ρ s w ρ₁ s₁ w₁ → leave (callB tab over m) (resL tab fn.results.toList) a₁ 1000 a₁.defers s₁ = some r' → (∃ todo, Steps P (lone (Frame.enter P f args' κ) cs w) (lone { b.atR a₁' todo with mode := .returning } cs w₁)) →
            ∃ q ∈ outs, ∃ ρ₁ w₁ v' fr, Steps P (lone (Frame.enter P f args' κ) cs w) (lone fr cs w₁) ∧ fr.fn = f ∧ fr.kind = κ ∧ fr.mode = .returning ∧ fr.defers = [] ∧
              (∃ fn, P.funcs[f]? = some fn ∧ (results fn fr.tmps).run P w₁ = .ok v' w₁) ∧ VRel ρ₁ q.1 v' ∧ HRel C ρ₁ q.2 w₁ ∧ Went ρ s w ρ₁ q.2 w₁ := by
          intro a₁ s₁ st₁ hw₁ hl ⟨todo, hst⟩
          obtain ⟨q, hq, ρ₂, w₂, v', e1, e2, e3, e4, e5⟩ := leave_ok tok hD ho3 1000 a₁.defers s₁ r' hl ρ₁ w₁ { b.atR a₁' todo with mode := .returning } cs rfl st₁.ac.2 st₁.hr st₁.ac.1 st₁.sz
          exact ⟨q, hsub q hq, ρ₂, w₂, v', _, Steps.trans hst e1, rfl, rfl, rfl, rfl, ⟨fn, hPf, e2⟩, e3, e4, hw₁.trans e5⟩
        cases o with
        | nrm a₁ s₁ => exact fin st₁ hw₁ hk ⟨[], by rw [henter]; exact Steps.trans har (.one (stepR_end rfl))⟩
        | ret a₁ s₁ =>
          obtain ⟨k₂, e2⟩ := har
          exact fin st₁ hw₁ hk ⟨_, by rw [henter]; exact Steps.trans e2 (.one (stepR_ret rfl))⟩
        | ext id a₁ s₁ => cases hk

/-- an ordinary call -/
theorem BodyOk.call {call : FuncId → List Value → S → Couts} (h : BodyOk P tab C call) : CallOk P tab C fun f args s => mergeO s (call f args s) := by
  intro g args s outs hc
  have hc : mergeO s (call g args s) = some outs := hc
  cases hl : call g args s with
  | none => rw [hl] at hc; cases hc
  | some l =>
    rw [hl] at hc
    cases hc
    obtain ⟨hfn, hb⟩ := h _ _ _ _ hl
    refine ⟨hfn, fun ρ w args' hr ha cs => ?_⟩
    obtain ⟨q, hq, ρ₁, w₁, v', fr, h1, h2, h3, h4, h5, ⟨fn, h6, h7⟩, h8, h9, h10⟩ := hb ρ w args' .normal cs (calm_normal cs) hr ha
    obtain ⟨r, hr1, hr2, hr3, hr4⟩ := merge_ok (s := s) hq h10.log
    exact ⟨.returned v', w₁, fr, ⟨r, hr1, ρ₁, v', rfl, by rw [hr2]; exact h8, h9.sub hr3, ⟨h10.goes.trans (Goes.sub hr3), hr4⟩⟩, h1, h2, h4, h5, h3, fn, h2 ▸ h6, h7⟩

end Go.Ac
end
section
namespace Go.Ac
variable {P : Program} {tab : Tab} {C : Cx} {ρ : Rn} {s : S} {w w' : World} {a : A} {a' : Act} {o : Oper} {E : Env} {n : Nat}
variable {b : Frame} {cs : List Frame} {k : List Item} {ops : Array Oper}

/-! ### rounds -/
theorem setParams_ok : ∀ {ps : List Tmp} {vs : List Value} {t t₁ : Fr} {ts : Array Value} {ws : List Value}, setParams ps vs t = some t₁ → TRel ρ t ts → LRel ρ vs ws → ps.all (fun p => Nat.ble (p + 1) ts.size) = true →
    ps.length = ws.length ∧ TRel ρ t₁ ((ps.zip ws).foldl (fun tmps (x : Tmp × Value) => tmps.setIfInBounds x.1 x.2) ts) ∧ ((ps.zip ws).foldl (fun tmps (x : Tmp × Value) => tmps.setIfInBounds x.1 x.2) ts).size = ts.size
  | [], [], t, t₁, ts, ws, h, ht, hv, _ => by
    cases h
    simp only [LRel] at hv
    subst hv
    exact ⟨rfl, ht, rfl⟩
  | [], _ :: _, t, t₁, ts, ws, h, ht, hv, _ => by cases h
  | _ :: _, [], t, t₁, ts, ws, h, ht, hv, _ => by cases h
  | p :: ps, v :: vs, t, t₁, ts, ws, h, ht, hv, hp => by
    simp only [LRel] at hv
    obtain ⟨w, r, rfl, hv1, hv2⟩ := hv
    simp only [List.all_cons, Bool.and_eq_true] at hp
    have hlt : p < ts.size := of_ble hp.1
    obtain ⟨h1, h2, h3⟩ := setParams_ok (ps := ps) (ts := ts.setIfInBounds p w) h (ht.set hlt hv1) hv2 (by simpa using hp.2)
    refine ⟨by simp [h1], ?_, ?_⟩
    · exact h2
    · rw [List.zip_cons_cons, List.foldl_cons, h3]; simp

theorem run_yield {l : Nat} {l' : Loop} (h : w.heap[l]? = some (.loop l')) {args : Array Value} (hs : args.size = l'.params.size) :
    (Instr.yield l args).run P w = .ok (.round l l'.fn ((l'.params.toList.zip args.toList).foldl (fun tmps (x : Tmp × Value) => tmps.setIfInBounds x.1 x.2) l'.tmps) l'.assign l'.body) w := by
  unfold Instr.yield
  rw [Sem.run_bind, run_getLoop h]
  have hn : ¬ (args.size ≠ l'.params.size) := fun h => h hs
  simp only [Result.andThen_ok, if_neg hn]
  show Result.ok (Next.round l l'.fn ((l'.params.zip args).foldl (fun tmps (x : Tmp × Value) => tmps.setIfInBounds x.1 x.2) l'.tmps) l'.assign l'.body) w = _
  rw [← Array.foldl_toList, Array.toList_zip]

theorem yieldN_ok (tok : TabOk P tab) (hz : ZerosOk tab) (hC : C.ts = tab.size) (hL : C.lok = lokOf tab C.G) {over : Over} {m : Nat} (hcall : CallOk P tab C (callN tab over m)) (hyield : YieldOk P C (yieldN tab over m)) :
    YieldOk P C (yieldN tab over (m + 1)) := by
  intro l args s outs h ρ w args' rb hr ha hrb
  unfold yieldN at h
  split at h
  · cases h
  · rename_i r hl
    split at h
    · cases h
    · rename_i t ht
      obtain ⟨rb', l', e1, e2, e3⟩ := loop_there hr hl
      rw [hrb] at e1; cases e1
      have hlok := e3.lok
      rw [hL] at hlok
      obtain ⟨hl1, hl2, hl3⟩ := hlok
      obtain ⟨p1, p2, p3⟩ := setParams_ok ht e3.tmps ha hl1
      rw [← e3.params] at p1 p2 p3
      have hsz : args'.size = l'.params.size := by simpa using p1.symm
      have hy := run_yield (P := P) e2 hsz
      refine ⟨_, _, _, _, hy, fun c cs => ?_⟩
      generalize hts : (l'.params.toList.zip args'.toList).foldl (fun tmps (x : Tmp × Value) => tmps.setIfInBounds x.1 x.2) l'.tmps = ts at p2 p3
      let b : Frame := { (default : Frame) with fn := l'.fn, kind := .normal, roundOf := some rb.blk }
      have hb : Frame.round rb.blk l'.fn ts l'.assign l'.body .normal = b.atR ⟨ts, []⟩ [.code r.assign, .beginRound, .code r.body] := by
        rw [← e3.assign, ← e3.body]; rfl
      rw [hb]
      have EO : EnvOk P tab C ⟨callN tab over m, yieldN tab over m, r.fn, some l⟩ := ⟨hcall, hyield⟩
      have hfr : FrOk ρ ⟨callN tab over m, yieldN tab over m, r.fn, some l⟩ b (c :: cs) := ⟨e3.fn, .inr ⟨l, rb, rfl, hrb, rfl⟩, calm_normal _⟩
      have st : St C ρ l'.tmps.size ⟨t, []⟩ s ⟨ts, []⟩ w := ⟨hr, ⟨p2, by simp [DsRel]⟩, p3⟩
      obtain ⟨ls, hb1, hb2⟩ := bindO_some h
      obtain ⟨o, ho, ρ₁, w₁, a₁', st₁, hw₁, har⟩ := den_ok tok hz hC hL EO r.assign hl2 _ _ _ hb1 ρ w _ b [.beginRound, .code r.body] (c :: cs) hfr st
      obtain ⟨r', hk, hsub⟩ := hb2 o ho
      cases o with
      | ext id a₁ s₁ => cases hk
      | ret a₁ s₁ => cases hk
      | nrm a₁ s₁ =>
        unfold bodyGo at hk
        simp only at hk
        split at hk
        · rename_i r₁ hl₁
          split at hk
          · rename_i hready
            obtain ⟨rb₁, l₁', f1, f2, f3⟩ := loop_there st₁.hr hl₁
            have := hw₁.goes.ext _ _ hrb
            rw [f1] at this; cases this
            have hbr := run_beginRound (P := P) f2 (by rw [f3.state]; exact hready)
            have hlr : LoopRel C ρ₁ (r₁.set .busy r₁.pending) { l₁' with state := .busy } :=
              ⟨rfl, f3.pending, f3.fn, f3.tmps, f3.params, f3.assign, f3.body, f3.defers, by have := f3.lok; rw [hL] at this ⊢; exact this⟩
            obtain ⟨u1, u2⟩ := st₁.hr.loop_turn hl₁ f1 hlr
            have st₂ : St C ρ₁ l'.tmps.size a₁ (s₁.put l (.loop (r₁.set .busy r₁.pending))) a₁' _ := ⟨u1, st₁.ac, st₁.sz⟩
            obtain ⟨ls₂, hc1, hc2⟩ := bindO_some hk
            have hstep := stepR_beginRound (P := P) (b := b) (a := a₁') (k := [.code r.body]) (cs := c :: cs) (l := rb.blk) rfl hbr
            obtain ⟨o₂, ho₂, ρ₂, w₂, a₂', st₃, hw₃, har₂⟩ := den_ok tok hz hC hL EO r.body hl3 _ _ _ hc1 ρ₁ _ _ b [] (c :: cs) (hfr.mono hw₁.goes.ext) st₂
            obtain ⟨r'', hk₂, hsub₂⟩ := hc2 o₂ ho₂
            have hto := Steps.trans har (.one hstep)
            -- the end of the round
            have fin : ∀ {a₂ : A} {s₂ : S} (jump : Option Code), St C ρ₂ l'.tmps.size a₂ s₂ a₂' w₂ → Went ρ₁ (s₁.put l (.loop (r₁.set .busy r₁.pending))) (World.setObj w₁ rb.blk (.loop { l₁' with state := .busy })) ρ₂ s₂ w₂ → roundEnd l s₂ jump = some r'' →
                (∀ {v : Value} {w₃ : World}, (Instr.endRound rb.blk jump).run P w₂ = .ok v w₃ → Steps P (lone (b.atR a₁' [.code r.body]) (c :: cs) (World.setObj w₁ rb.blk (.loop { l₁' with state := .busy }))) (lone (c.finish v) cs w₃)) →
                ∃ q ∈ outs, ∃ ρ₁ w₁ v', Steps P (lone (b.atR ⟨ts, []⟩ [.code r.assign, .beginRound, .code r.body]) (c :: cs) w) (lone (c.finish v') cs w₁) ∧ VRel ρ₁ q.1 v' ∧ HRel C ρ₁ q.2 w₁ ∧ Went ρ s w ρ₁ q.2 w₁ := by
              intro a₂ s₂ jump st₃ hw₃ hre hst
              unfold roundEnd at hre
              split at hre
              · cases hre
              · rename_i r₂ hl₂
                cases hre
                obtain ⟨rb₂, l₂', g1, g2, g3⟩ := loop_there st₃.hr hl₂
                have := hw₃.goes.ext _ _ f1
                rw [g1] at this; cases this
                have hen := run_endRound (P := P) g2 jump
                have hlr₂ : LoopRel C ρ₂ (r₂.set (roundState jump) jump) { l₂' with state := if jump.isNone then .ready else .done, pending := jump } :=
                  ⟨by cases jump <;> rfl, rfl, g3.fn, g3.tmps, g3.params, g3.assign, g3.body, g3.defers, by have := g3.lok; rw [hL] at this ⊢; exact this⟩
                obtain ⟨v1, v2⟩ := st₃.hr.loop_turn hl₂ g1 hlr₂
                refine ⟨_, hsub _ (hsub₂ _ (List.mem_singleton.2 rfl)), ρ₂, _, _, Steps.trans hto (hst hen), ?_, v1, ((hw₁.trans u2).trans hw₃).trans v2⟩
                cases jump <;> simp [VRel, roundGoes]
            cases o₂ with
            | nrm a₂ s₂ => exact fin none st₃ hw₃ hk₂ fun hen => Steps.trans har₂ (.one (stepR_round_end rfl rfl hen))
            | ret a₂ s₂ =>
              obtain ⟨k₂, e2⟩ := har₂
              exact fin (some .ret) st₃ hw₃ hk₂ fun hen => Steps.trans e2 (.one (stepR_round_ret rfl rfl hen))
            | ext id a₂ s₂ =>
              obtain ⟨k₂, e1, e2⟩ := har₂
              exact fin (some (.exit id)) st₃ hw₃ hk₂ fun hen => Steps.trans e2 (.one (stepR_round_exit rfl rfl (by rw [e1]; rfl) hen))
          · cases hk
        · cases hk

/-! ### all of it -/
/-- what is known of the functions that are taken by contract -/
def OverOk (P : Program) (tab : Tab) (C : Cx) (over : Over) : Prop := ∀ f g, over f = some g → CallOk P tab C fun f' args s => if f' = f then g.run args s else none

theorem all_ok (tok : TabOk P tab) (hz : ZerosOk tab) (hC : C.ts = tab.size) (hL : C.lok = lokOf tab C.G) (hF : FnsOk tab C.G) {over : Over} (hO : OverOk P tab C over) :
    ∀ m, CallOk P tab C (callN tab over m) ∧ BodyOk P tab C (callB tab over m) ∧ YieldOk P C (yieldN tab over m)
  | 0 => by
    refine ⟨?_, ?_, ?_⟩
    · intro g args s outs h; cases h
    · intro g args s outs h; cases h
    · intro g args s outs h; cases h
  | m + 1 => by
    obtain ⟨h1, h2, h3⟩ := all_ok tok hz hC hL hF hO m
    refine ⟨?_, callB_body tok hz hC hL hF h1 h3 h2, yieldN_ok tok hz hC hL h1 h3⟩
    intro g args s outs h
    unfold callN at h
    split at h
    · rename_i og hov
      exact hO g og hov g args s outs (by simpa using h)
    · exact h2.call g args s outs h

end Go.Ac
end
section
namespace Go.Ac
variable {P : Program} {tab : Tab} {C : Cx} {ρ : Rn} {s : S} {w w' : World}

/-! ### tables, entry by entry -/
def T.AllI {α : Type} (p : Nat → α → Prop) : Nat → Nat → T α → Prop
  | _, _, .nil => True
  | a, b, .node v l r => (∀ x, v = some x → p b x) ∧ T.AllI p (2 * a) (a + b) l ∧ T.AllI p (2 * a) (2 * a + b) r

theorem T.AllI.get {α : Type} {p : Nat → α → Prop} : ∀ {t : T α} {a b : Nat}, T.AllI p a b t → ∀ {n : Nat} {x : α}, t.get n = some x → p (a * n + b) x
  | .nil, a, b, h, n, x, hx => by cases hx
  | .node v l r, a, b, h, n, x, hx => by
    obtain ⟨h0, h1, h2⟩ := h
    rw [T.get_node] at hx
    by_cases hn : n = 0
    · subst hn
      have : p b x := h0 x hx
      simpa using this
    · have e0 : Nat.beq n 0 = false := beqF hn
      rw [e0, cond_false] at hx
      by_cases h1' : n % 2 = 1
      · have e1 : Nat.beq (Nat.mod n 2) 1 = true := beqT h1'
        rw [e1, cond_true] at hx
        have := T.AllI.get h1 hx
        have e : a * n + b = 2 * a * (n / 2) + (a + b) := by
          have : n = 2 * (n / 2) + 1 := by omega
          calc a * n + b = a * (2 * (n / 2) + 1) + b := by rw [← this]
            _ = 2 * a * (n / 2) + (a + b) := by rw [Nat.mul_add, Nat.mul_one, ← Nat.mul_assoc, Nat.mul_comm a 2]; omega
        rw [e]; exact this
      · have e1 : Nat.beq (Nat.mod n 2) 1 = false := beqF h1'
        rw [e1, cond_false] at hx
        have := T.AllI.get h2 hx
        have hp : Nat.pred (Nat.div n 2) = n / 2 - 1 := rfl
        rw [hp] at this
        have e : a * n + b = 2 * a * (n / 2 - 1) + (2 * a + b) := by
          have : n = 2 * (n / 2 - 1) + 2 := by omega
          calc a * n + b = a * (2 * (n / 2 - 1) + 2) + b := by rw [← this]
            _ = 2 * a * (n / 2 - 1) + (2 * a + b) := by rw [Nat.mul_add, ← Nat.mul_assoc, Nat.mul_comm a 2]; omega
        rw [e]; exact this

theorem T.AllI.all {α : Type} {p : Nat → α → Prop} {t : T α} (h : T.AllI p 1 0 t) {n : Nat} {x : α} (hx : t.get n = some x) : p n x := by
  have := h.get hx
  simpa using this

theorem tabOk_of (ht : T.AllI (fun n i => P.info? n = some i) 1 0 tab.types) (hf : T.AllI (fun n fn => P.funcs[n]? = some fn ∧ ∀ args w, (callFunc n args).run P w = .ok (.enter n args) w) 1 0 tab.funcs)
    (he : T.AllI (fun n (_ : Unit) => P.stoodInHeld n = false ∧ P.eqGuardType P.depth n = false) 1 0 tab.eqs) (hm : P.follows .mixedOrders = true) : TabOk P tab :=
  ⟨fun t i h => ht.all h, fun f fn h => hf.all h, hm, fun t u h => he.all h⟩

def zeroB (i : TypeInfo) : Bool := match i.zero with
  | none => true
  | some z => vOk z && Nat.beq z.cells.size i.size
theorem zerosOk_of (h : T.AllI (fun _ i => zeroB i = true) 1 0 tab.types) : ZerosOk tab := by
  intro t z hz
  unfold Tab.zero at hz
  cases ht : tab.types.get t with
  | none => rw [ht] at hz; cases hz
  | some i =>
    rw [ht] at hz
    have hz : i.zero = some z := hz
    have := h.all ht
    unfold zeroB at this
    rw [hz] at this
    simp only [Bool.and_eq_true] at this
    refine ⟨this.1, fun n hn => ?_⟩
    unfold Tab.size at hn
    rw [ht] at hn
    cases hn
    exact of_beq this.2
theorem fnsOk_of {G : Nat} (h : T.AllI (fun _ fn => fnOkB tab G fn = true) 1 0 tab.funcs) : FnsOk tab G := fun f fn hf => h.all hf

/-! ### the beginning and the end -/
noncomputable def cx0 (tab : Tab) (W : World) : Cx := ⟨W.heap.size, 0, tab.size, lokOf tab 0⟩

theorem begins (tab : Tab) (W : World) (n : Nat) : HRel (cx0 tab W) (fun _ => none) ⟨.nil, n, [], 0⟩ W :=
  ⟨Nat.le_refl _, fun g h => absurd h (Nat.not_lt_zero g), fun b o h => (by cases h), fun b₁ b₂ o₁ o₂ r₁ r₂ h => (by cases h), fun b rb h => (by cases h)⟩

/-- what was there is there as it was -/
structure Kept (W W' : World) : Prop where
  heap : ∀ i, i < W.heap.size → W'.heap[i]? = W.heap[i]?
  size : W.heap.size ≤ W'.heap.size
  tape : W'.tape = W.tape
  os : W'.os = W.os
  out : W'.output = W.output

theorem Kept.refl (W : World) : Kept W W := ⟨fun _ _ => rfl, Nat.le_refl _, rfl, rfl, rfl⟩
theorem Kept.trans {a b c : World} (h : Kept a b) (k : Kept b c) : Kept a c :=
  ⟨fun i hi => (k.heap i (Nat.lt_of_lt_of_le hi h.size)).trans (h.heap i hi), Nat.le_trans h.size k.size, k.tape.trans h.tape, k.os.trans h.os, k.out.trans h.out⟩

theorem Went.kept {n : Nat} {ρ' : Rn} {s' : S} (h : Went (fun _ => none) ⟨.nil, n, [], 0⟩ w ρ' s' w') : Kept w w' :=
  ⟨fun i hi => h.goes.keep i hi fun ⟨b, o, rb, e, _⟩ => (by cases e), h.goes.size, h.goes.tape, h.goes.os, h.goes.out⟩

def isTrueL : Couts → Bool
  | some [(.bool true, _)] => true
  | _ => false

/-- a function without arguments that answers true, from nothing -/
theorem run_true {call : FuncId → List Value → S → Couts} (hc : ∀ W : World, CallOk P tab (cx0 tab W) call) {f : FuncId} {n : Nat} (h : isTrueL (call f [] ⟨.nil, n, [], 0⟩) = true) (W : World) :
    Calls P f #[] W fun e W' => e = .returned (.bool true) ∧ Kept W W' := by
  unfold isTrueL at h
  split at h
  · rename_i sEnd hrun
    obtain ⟨_, hcall⟩ := hc W f [] _ _ hrun
    refine (hcall _ W #[] (begins tab W n) (by simp [LRel])).mono fun e W' ⟨q, hq, ρ₁, v', h1, h2, h3, h4⟩ => ?_
    rw [List.mem_singleton] at hq
    subst hq
    simp only [VRel] at h2
    subst h2
    exact ⟨h1, h4.kept⟩
  · cases h

end Go.Ac
end
section
namespace Go.Ac.Sf
/-! sha-256's block, as the program does it: words are numbers -/
def ad (x y : Nat) : Nat := Nat.mod (Nat.add x y) 4294967296
def xr (x y : Nat) : Nat := Nat.mod (Nat.xor x y) 4294967296
def an (x y : Nat) : Nat := Nat.mod (Nat.land x y) 4294967296
def og (x y : Nat) : Nat := Nat.mod (Nat.lor x y) 4294967296
def sl (x n : Nat) : Nat := Nat.mod (Nat.shiftLeft x n) 4294967296
def sr (x n : Nat) : Nat := Nat.shiftRight x n
def nt (x : Nat) : Nat := Nat.mod (Nat.xor 4294967295 (Nat.mod x 4294967296)) 4294967296
def rot (s r x : Nat) : Nat := og (sl x s) (sr x r)
def c8 (x : Nat) : Nat := Nat.mod x 4294967296
def word (a b c d : Nat) : Nat := og (og (og (sl (c8 a) 24) (sl (c8 b) 16)) (sl (c8 c) 8)) (c8 d)
def words : Nat → List Nat → List Nat → List Nat
  | n + 1, a :: b :: c :: d :: l, acc => words n l (word a b c d :: acc)
  | _, _, acc => acc
def nth : Nat → List Nat → Nat
  | _, [] => 0
  | 0, x :: _ => x
  | n + 1, _ :: l => nth n l
def next (l : List Nat) : Nat :=
  ad (ad (ad (nth 15 l) (nth 6 l)) (xr (xr (rot 25 7 (nth 14 l)) (rot 14 18 (nth 14 l))) (sr (nth 14 l) 3))) (xr (xr (rot 15 17 (nth 1 l)) (rot 13 19 (nth 1 l))) (sr (nth 1 l) 10))
def more : Nat → List Nat → List Nat
  | 0, l => l
  | n + 1, l => more n (next l :: l)
def t1 (e f g h k w : Nat) : Nat := ad (ad (ad (ad h (xr (xr (rot 26 6 e) (rot 21 11 e)) (rot 7 25 e))) (xr (an e f) (an (nt e) g))) k) w
def t2 (a b c : Nat) : Nat := ad (xr (xr (rot 30 2 a) (rot 19 13 a)) (rot 10 22 a)) (xr (xr (an a b) (an a c)) (an b c))
def rev (l acc : List Nat) : List Nat := match l with
  | [] => acc
  | x :: l => rev l (x :: acc)
def rounds : List Nat → List Nat → Nat → Nat → Nat → Nat → Nat → Nat → Nat → Nat → List Nat
  | k :: ks, w :: ws, a, b, c, d, e, f, g, h => rounds ks ws (ad (t1 e f g h k w) (t2 a b c)) a b c (ad d (t1 e f g h k w)) e f g
  | _, _, a, b, c, d, e, f, g, h => [a, b, c, d, e, f, g, h]
def addL : List Nat → List Nat → List Nat
  | x :: l, y :: m => ad x y :: addL l m
  | _, _ => []
def turn (h b k : List Nat) : List Nat := match h with
  | [a, b', c, d, e, f, g, i] => addL h (rounds k (rev (more 48 (words 16 b [])) []) a b' c d e f g i)
  | _ => []
end Go.Ac.Sf
end
section
namespace Go.Ac
variable {P : Program} {tab : Tab} {C : Cx} {ρ : Rn} {s : S} {w w' : World}

/-! ### values without pointers -/
mutual
theorem vOk_eq (ρ : Rn) : ∀ v w : Value, vOk v = true → VRel ρ v w → w = v
  | .bool b, w, _, k => by simpa [VRel] using k
  | .int _ _, w, _, k => by simpa [VRel] using k
  | .float _ _, w, _, k => by simpa [VRel] using k
  | .complex _ _ _, w, _, k => by simpa [VRel] using k
  | .string _, w, _, k => by simpa [VRel] using k
  | .pointer none, w, _, k => by simpa [VRel] using k
  | .pointer (some _), w, h, k => by simp [vOk] at h
  | .slice none n c, w, h, k => by
    simp only [VRel] at k
    obtain ⟨rfl, rfl, rfl⟩ := k
    rfl
  | .slice (some _) _ _, w, h, k => by simp [vOk] at h
  | .map none, w, _, k => by simpa [VRel] using k
  | .map (some _), w, h, k => by simp [vOk] at h
  | .chan none, w, _, k => by simpa [VRel] using k
  | .chan (some _), w, h, k => by simp [vOk] at h
  | .func (.func f) a b, w, h, k => by
    simp only [vOk, Bool.and_eq_true] at h
    simp only [VRel] at k
    obtain ⟨f', a', b', rfl, hf, ha, hb⟩ := k
    have hf : f' = .func f := hf
    rw [hf, vOkA_eq ρ a a' h.1 ha, vOkA_eq ρ b b' h.2 hb]
  | .func (.via t p g q) a b, w, h, k => by
    simp only [vOk, Bool.and_eq_true] at h
    simp only [VRel] at k
    obtain ⟨f', a', b', rfl, hf, ha, hb⟩ := k
    have hf : f' = .via t p g q := hf
    rw [hf, vOkA_eq ρ a a' h.1 ha, vOkA_eq ρ b b' h.2 hb]
  | .func (.method _) a b, w, h, k => by simp [vOk] at h
  | .func (.methodOf _ _) a b, w, h, k => by simp [vOk] at h
  | .func (.yield _) a b, w, h, k => by simp [vOk] at h
  | .nilFunc, w, _, k => by simpa [VRel] using k
  | .iface t x, w, h, k => by
    simp only [vOk] at h
    simp only [VRel] at k
    obtain ⟨y, rfl, hy⟩ := k
    rw [vOk_eq ρ x y h hy]
  | .nilIface, w, _, k => by simpa [VRel] using k
  | .agg cs, w, h, k => by
    simp only [vOk, Bool.and_eq_true] at h
    simp only [VRel] at k
    obtain ⟨ds, rfl, hd, _⟩ := k
    rw [vOkA_eq ρ cs ds h.1 hd]
  | .tuple cs, w, h, k => by
    simp only [vOk] at h
    simp only [VRel] at k
    obtain ⟨ds, rfl, hd⟩ := k
    rw [vOkA_eq ρ cs ds h hd]
theorem vOkA_eq (ρ : Rn) : ∀ a b : Array Value, vOkA a = true → ARel ρ a b → b = a
  | ⟨l⟩, b, h, k => by
    simp only [vOkA] at h
    simp only [ARel] at k
    apply Array.ext'
    exact vOkL_eq ρ l _ h k
theorem vOkL_eq (ρ : Rn) : ∀ l m : List Value, vOkL l = true → LRel ρ l m → m = l
  | [], m, _, k => by simpa [LRel] using k
  | v :: l, m, h, k => by
    simp only [vOkL, Bool.and_eq_true] at h
    simp only [LRel] at k
    obtain ⟨w, r, rfl, hv, hl⟩ := k
    rw [vOk_eq ρ v w h.1 hv, vOkL_eq ρ l r h.2 hl]
end

theorem vOkL_get {l : List Value} (h : vOkL l = true) : ∀ {i : Nat} {v : Value}, l[i]? = some v → vOk v = true := by
  induction l with
  | nil => intro i v hi; simp at hi
  | cons x l ih =>
    simp only [vOkL, Bool.and_eq_true] at h
    intro i v hi
    cases i with
    | zero => simp at hi; subst hi; exact h.1
    | succ i => exact ih h.2 (by simpa using hi)

/-! ### a memory of one block -/
noncomputable def sC (cells : List Value) (n : Nat) (e : TypeId) : S := ⟨T.setP (some (.cells (.leaf cells) n e)) (path 100) .nil, 101, [], 0⟩
theorem sC_get (cells : List Value) (n : Nat) (e : TypeId) (b : Nat) : (sC cells n e).get b = if b = 100 then some (.cells (.leaf cells) n e) else none := by
  show T.get (T.setP _ (path 100) .nil) b = _
  rw [T.get_setP]
  split
  · rfl
  · rfl

def rC (G : Nat) (rb : RB) (off : Nat) : Rn := fun x => if x < G then some ⟨x, 0, 0, 0⟩ else if x = 100 then some ⟨rb.blk, rb.base + off, rb.size, rb.esz⟩ else none
theorem rC_at {G : Nat} (hG : G ≤ 100) (rb : RB) (off : Nat) : rC G rb off 100 = some ⟨rb.blk, rb.base + off, rb.size, rb.esz⟩ := by
  unfold rC
  rw [if_neg (by omega), if_pos rfl]

theorem canon (hr : HRel C ρ s w) (hG : C.G ≤ 100) {b : Nat} {c : Rope} {size : Nat} {e : TypeId} {rb : RB} (hb : s.get b = some (.cells c size e)) (hρ : ρ b = some rb) {off : Nat} {cells : List Value}
    (hwin : ∀ i, i < cells.length → cells[i]? = (c.flat [])[off + i]?) (hok : vOkL cells = true) :
    HRel C (rC C.G rb off) (sC cells cells.length e) w ∧ ∀ i, Img (rC C.G rb off) (sC cells cells.length e) i → i = rb.blk := by
  obtain ⟨rb', h1, hN, o', h2, cs, e', fr, h3, h4, h5, h6, h7, h8, h9⟩ := hr.live _ _ hb
  rw [hρ] at h1; cases h1
  subst h3
  have hat := rC_at hG rb off
  refine ⟨⟨hr.low, fun g hg => by unfold rC; rw [if_pos hg], fun x o hx => ?_, fun b₁ b₂ o₁ o₂ r₁ r₂ e₁ e₂ _ _ _ => ?_, fun x rx hx => ?_⟩, fun i hi => ?_⟩
  · rw [sC_get] at hx
    by_cases hx1 : x = 100
    · rw [if_pos hx1] at hx
      cases hx
      subst hx1
      refine ⟨_, hat, hN, _, h2, cs, e', fr, rfl, by rw [flat_leaf], h5, h6, fun i v hi => ?_, h8, h9⟩
      rw [flat_leaf] at hi
      have hlt := (List.getElem?_eq_some_iff.1 hi).1
      have hv := vOkL_get hok hi
      obtain ⟨ho, x, hx, hvx⟩ := h7 (off + i) v (by rw [← hwin i hlt]; exact hi)
      have := vOk_eq ρ v x hv hvx
      subst this
      exact ⟨ho, x, by rw [← hx]; show cs[rb.base + off + i]? = _; rw [Nat.add_assoc], vOk_rel _ x hv⟩
    · rw [if_neg hx1] at hx; cases hx
  · rw [sC_get] at e₁ e₂
    have h1 : b₁ = 100 := by
      by_cases h : b₁ = 100
      · exact h
      · rw [if_neg h] at e₁; cases e₁
    have h2 : b₂ = 100 := by
      by_cases h : b₂ = 100
      · exact h
      · rw [if_neg h] at e₂; cases e₂
    rw [h1, h2]
  · unfold rC at hx
    by_cases hg : x < C.G
    · rw [if_pos hg] at hx
      cases hx
      have := (hr.fresh _ _ (hr.glob x hg)).2
      exact ⟨by show x < 101; omega, this⟩
    · rw [if_neg hg] at hx
      by_cases hx1 : x = 100
      · rw [if_pos hx1] at hx
        cases hx
        exact ⟨by show x < 101; omega, (hr.fresh _ _ hρ).2⟩
      · rw [if_neg hx1] at hx; cases hx
  · obtain ⟨x, o, rx, e1, e2, e3⟩ := hi
    rw [sC_get] at e1
    by_cases hx1 : x = 100
    · subst hx1
      rw [hat] at e2; cases e2
      exact e3.symm
    · rw [if_neg hx1] at e1; cases e1

/-- behind a run that had one block alone: the others are as they were -/
theorem canon_back (hr : HRel C ρ s w) {b : Nat} {o : AO} {rb : RB} (hb : s.get b = some o) (hρ : ρ b = some rb) {ρc ρ₁ : Rn} {sc s' : S} (himg : ∀ i, Img ρc sc i → i = rb.blk) (hw : Went ρc sc w ρ₁ s' w') :
    HRel C ρ (s.kill b) w' ∧ Went ρ s w ρ (s.kill b) w' := by
  have hkill : ∀ c x, (s.kill b).get c = some x → s.get c = some x ∧ c ≠ b := by
    intro c x hx
    rw [S.get_kill] at hx
    split at hx
    · cases hx
    · rename_i h1; exact ⟨hx, h1⟩
  have hsz := hw.goes.size
  refine ⟨⟨Nat.le_trans hr.low hsz, hr.glob, fun c x hc => ?_, fun b₁ b₂ o₁ o₂ r₁ r₂ e₁ e₂ => hr.inj _ _ _ _ _ _ (hkill _ _ e₁).1 (hkill _ _ e₂).1, fun c rc hc => ⟨(hr.fresh c rc hc).1, Nat.lt_of_lt_of_le (hr.fresh c rc hc).2 hsz⟩⟩, ⟨Rn.le_refl ρ, fun i ⟨c, x, rc, e1, e2, e3⟩ => .inl ⟨c, x, rc, (hkill _ _ e1).1, e2, e3⟩, fun i hi hno => ?_, hsz, hw.goes.tape, hw.goes.os, hw.goes.out, fun _ _ => rfl, Nat.le_refl _⟩, LogOk.kill _ _⟩
  · obtain ⟨hg, hne⟩ := hkill c x hc
    obtain ⟨rc, h1, hN, oc, h2, h3⟩ := hr.live _ _ hg
    refine ⟨rc, h1, hN, oc, ?_, h3⟩
    rw [hw.goes.keep _ (hr.fresh _ _ h1).2 fun hi => hne (hr.inj _ _ _ _ _ _ hg hb h1 hρ (himg _ hi))]
    exact h2
  · exact hw.goes.keep i hi fun h => hno ⟨b, o, rb, hb, hρ, (himg i h).symm⟩

/-- a call with a row of values without pointers: the run on the row alone serves everywhere -/
theorem canon_slice {call : FuncId → List Value → S → Couts} (hc : CallOk P tab C call) (hr : HRel C ρ s w) (hG : C.G ≤ 100) {f : FuncId} {xs : List Value} {ad : Addr} {n cap : Nat} {args' : Array Value} (hargs : LRel ρ (xs ++ [.slice (some ad) n cap]) args'.toList) (hx : vOkL xs = true)
    {c : Rope} {size : Nat} {e : TypeId} (hb : s.get ad.block = some (.cells c size e)) {cells : List Value} (hwin : ∀ i, i < cells.length → cells[i]? = (c.flat [])[ad.off + i]?) (hok : vOkL cells = true)
    {v : Value} {s' : S} (hrun : call f (xs ++ [.slice (some ⟨100, 0, none⟩) n cap]) (sC cells cells.length e) = some [(v, s')]) (hv : vOk v = true) :
    Calls P f args' w fun er w₁ => er = .returned v ∧ HRel C ρ (s.kill ad.block) w₁ ∧ Went ρ s w ρ (s.kill ad.block) w₁ := by
  obtain ⟨rb, hρ, _⟩ := hr.live _ _ hb
  obtain ⟨h1, h2⟩ := canon hr hG hb hρ hwin hok
  have hrel : LRel (rC C.G rb ad.off) (xs ++ [.slice (some ⟨100, 0, none⟩) n cap]) args'.toList := by
    clear hrun
    generalize args'.toList = l at hargs
    induction xs generalizing l with
    | nil =>
      simp only [List.nil_append, LRel] at hargs ⊢
      obtain ⟨y, r, rfl, hy, hr⟩ := hargs
      refine ⟨y, r, rfl, ?_, hr⟩
      simp only [VRel] at hy ⊢
      obtain ⟨rb', a', c', e1, ⟨e2, e3, e4, e5⟩, e6⟩ := hy
      rw [hρ] at e1; cases e1
      exact ⟨_, a', c', rC_at hG _ _, ⟨e2, e3, e4, by simpa using e5⟩, e6⟩
    | cons x xs ih =>
      simp only [vOkL, Bool.and_eq_true] at hx
      simp only [List.cons_append, LRel] at hargs ⊢
      obtain ⟨y, r, rfl, hy, hr⟩ := hargs
      have := vOk_eq ρ x y hx.1 hy
      subst this
      exact ⟨y, r, rfl, vOk_rel _ y hx.1, ih hx.2 r hr⟩
  refine ((hc _ _ _ _ hrun).2 _ w args' h1 hrel).mono fun er w₁ ⟨q, hq, ρ₁, v', h3, h4, h5, h6⟩ => ?_
  rw [List.mem_singleton] at hq
  subst hq
  have := vOk_eq ρ₁ v v' hv h4
  subst this
  exact ⟨h3, canon_back hr hb hρ h2 h6⟩

/-- a call with a pointer to such a row -/
theorem canon_ptr {call : FuncId → List Value → S → Couts} (hc : CallOk P tab C call) (hr : HRel C ρ s w) (hG : C.G ≤ 100) {f : FuncId} {b : Nat} {args' : Array Value} (hargs : LRel ρ [.pointer (some ⟨b, 0, none⟩)] args'.toList)
    {c : Rope} {size : Nat} {e : TypeId} (hb : s.get b = some (.cells c size e)) {cells : List Value} (hcells : c.flat [] = cells) (hok : vOkL cells = true) {v : Value} {s' : S} {c' : Rope} {cells' : List Value}
    (hrun : call f [.pointer (some ⟨100, 0, none⟩)] (sC cells cells.length e) = some [(v, s')]) (hs' : s'.get 100 = some (.cells c' size e)) (hc' : c'.flat [] = cells') (hok' : vOkL cells' = true) (hv : vOk v = true) :
    Calls P f args' w fun er w₁ => er = .returned v ∧ HRel C ρ (s.put b (.cells (.leaf cells') size e)) w₁ ∧ Went ρ s w ρ (s.put b (.cells (.leaf cells') size e)) w₁ := by
  obtain ⟨rb, hρ, hN0, _⟩ := hr.live _ _ hb
  obtain ⟨h1, h2⟩ := canon (off := 0) hr hG hb hρ (cells := cells) (fun i _ => by rw [hcells, Nat.zero_add]) hok
  have hrel : LRel (rC C.G rb 0) [.pointer (some ⟨100, 0, none⟩)] args'.toList := by
    simp only [LRel] at hargs ⊢
    obtain ⟨y, r, hl, hy, hr⟩ := hargs
    refine ⟨y, r, hl, ?_, hr⟩
    simp only [VRel] at hy ⊢
    obtain ⟨rb', e1, e2⟩ := hy
    rw [hρ] at e1; cases e1
    exact ⟨_, rC_at hG _ _, e2⟩
  refine ((hc _ _ _ _ hrun).2 _ w args' h1 hrel).mono fun er w₁ ⟨q, hq, ρ₁, v', h3, h4, h5, h6⟩ => ?_
  rw [List.mem_singleton] at hq
  subst hq
  have := vOk_eq ρ₁ v v' hv h4
  subst this
  obtain ⟨k1, k2⟩ := canon_back hr hb hρ h2 h6
  -- the block itself
  obtain ⟨rb₁, m1, m2, o₁, m3, m4⟩ := h5.live _ _ hs'
  have := h6.goes.ext _ _ (rC_at hG rb 0)
  rw [m1] at this
  cases this
  have hnew : ORel ρ C rb (.cells (.leaf cells') size e) o₁ := by
    obtain ⟨cs, e', fr, n1, n2, n3, n4, n5, n6, n7⟩ := m4
    refine ⟨cs, e', fr, n1, by rw [flat_leaf, ← hc']; exact n2, n3, n4, fun i x hx => ?_, n6, n7⟩
    rw [flat_leaf, ← hc'] at hx
    have hvx := vOkL_get hok' (by rw [← hc']; exact hx)
    obtain ⟨p1, y, p2, p3⟩ := n5 i x hx
    have := vOk_eq ρ₁ x y hvx p3
    subst this
    exact ⟨p1, y, p2, vOk_rel _ y hvx⟩
  have hput : ∀ x o, (s.put b (.cells (.leaf cells') size e)).get x = some o → (x = b ∧ o = .cells (.leaf cells') size e) ∨ (x ≠ b ∧ (s.kill b).get x = some o) := by
    intro x o hx
    rw [S.get_put] at hx
    by_cases hxb : x = b
    · rw [if_pos hxb] at hx; cases hx; exact .inl ⟨hxb, rfl⟩
    · rw [if_neg hxb] at hx
      exact .inr ⟨hxb, by rw [S.get_kill, if_neg hxb]; exact hx⟩
  have hs : ∀ x o, (s.put b (.cells (.leaf cells') size e)).get x = some o → ∃ o', s.get x = some o' := by
    intro x o hx
    rw [S.get_put] at hx
    by_cases hxb : x = b
    · subst hxb; exact ⟨_, hb⟩
    · rw [if_neg hxb] at hx; exact ⟨o, hx⟩
  refine ⟨h3, ⟨k1.low, hr.glob, fun x o hx => ?_, fun b₁ b₂ o₁ o₂ r₁ r₂ e₁ e₂ => ?_, k1.fresh⟩, ⟨Rn.le_refl ρ, fun i ⟨x, o, rx, e1, e2, e3⟩ => .inl ?_, k2.goes.keep, k2.goes.size, k2.goes.tape, k2.goes.os, k2.goes.out, fun _ _ => rfl, Nat.le_refl _⟩, LogOk.put _ _ _⟩
  · rcases hput x o hx with ⟨rfl, rfl⟩ | ⟨hxb, hx⟩
    · exact ⟨rb, hρ, hN0, o₁, m3, hnew⟩
    · exact k1.live _ _ hx
  · obtain ⟨q₁, g1⟩ := hs _ _ e₁
    obtain ⟨q₂, g2⟩ := hs _ _ e₂
    exact hr.inj _ _ _ _ _ _ g1 g2
  · obtain ⟨q, g⟩ := hs _ _ e1
    exact ⟨x, q, rx, g, e2, e3⟩

end Go.Ac
end
section
namespace Go.Ac
variable {P : Program} {tab : Tab} {C : Cx} {ρ : Rn} {s : S} {w w' : World}

/-! ### sha-256's block by contract -/
def i32 (x : Nat) : Value := .int .u32 (.ofNat x)
def i8 (x : Nat) : Value := .int .u8 (.ofNat x)
def upTo : Nat → List Nat → List Nat
  | 0, l => l
  | n + 1, l => upTo n (n :: l)
def mapI (f : Nat → Value) : List Nat → List Value → List Value
  | [], m => m
  | x :: l, m => f x :: mapI f l m
def tRest (b : Nat → Nat) (n : Nat) (k : Nat → Nat) : List Value := (upTo 64 []).map (fun i => i8 (b i)) ++ [.int .i64 (.ofNat n)] ++ (upTo 64 []).map (fun i => i32 (k i))
def tCells (h b : Nat → Nat) (n : Nat) (k : Nat → Nat) : List Value := (upTo 8 []).map (fun i => i32 (h i)) ++ tRest b n k

noncomputable def outS : Couts → Option (Nat × TypeId × List Value)
  | some [(.tuple ⟨[]⟩, s)] => match s.get 100 with
    | some (.cells c n e) => some (n, e, c.flat [])
    | _ => none
  | _ => none
theorem outS_ok {c : Couts} {n : Nat} {e : TypeId} {l : List Value} (h : outS c = some (n, e, l)) : ∃ s r, c = some [(.tuple #[], s)] ∧ s.get 100 = some (.cells r n e) ∧ r.flat [] = l := by
  unfold outS at h
  split at h
  · rename_i s
    split at h
    · rename_i r n' e' hr
      cases h
      exact ⟨s, r, rfl, hr, rfl⟩
    · cases h
  · cases h

def over0 : Over := fun _ => none
/-- what is to be shown of the function, once a seat -/
def TurnRun (tab : Tab) (f : FuncId) : Prop := ∀ (tt : TypeId) (h b : Nat → Nat) (n : Nat) (k : Nat → Nat), outS (callN tab over0 50 f [.pointer (some ⟨100, 0, none⟩)] (sC (tCells h b n k) 137 tt)) =
  some (137, tt, mapI i32 (Sf.turn ((upTo 8 []).map h) ((upTo 64 []).map b) ((upTo 64 []).map k)) (tRest b n k))

def getN (k : IntKind) : Nat → List Value → Option (List Nat × List Value)
  | 0, l => some ([], l)
  | n + 1, l => match l with
    | .int j (.ofNat x) :: l => cond (eqK j k) (match getN k n l with
      | some (xs, r) => some (x :: xs, r)
      | none => none) none
    | _ => none
theorem getN_ok {k : IntKind} : ∀ {n : Nat} {l r : List Value} {xs : List Nat}, getN k n l = some (xs, r) → l = xs.map (fun x => .int k (.ofNat x)) ++ r ∧ xs.length = n
  | 0, l, r, xs, h => by cases h; exact ⟨rfl, rfl⟩
  | n + 1, l, r, xs, h => by
    unfold getN at h
    split at h
    · rename_i j x l
      obtain ⟨hk, h⟩ := cond_some h
      split at h
      · rename_i xs' r' hg
        cases h
        obtain ⟨h1, h2⟩ := getN_ok hg
        rw [eqK_ok hk, h1]
        exact ⟨rfl, by simp [h2]⟩
      · cases h
    · cases h

def parseT (cells : List Value) : Option (List Nat × List Nat × List Nat × List Value) := match getN .u32 8 cells with
  | some (h, r1) => match getN .u8 64 r1 with
    | some (b, r2) => match getN .i64 1 r2 with
      | some (_, r3) => match getN .u32 64 r3 with
        | some (k, []) => some (h, b, k, r1)
        | _ => none
      | none => none
    | none => none
  | none => none

theorem upTo_eq : ∀ (n : Nat) (l : List Nat), upTo n l = List.range n ++ l
  | 0, l => by simp [upTo]
  | n + 1, l => by rw [upTo, upTo_eq n, List.range_succ, List.append_assoc]; rfl
theorem range_get {α : Type} (f : Nat → α) (l : List Nat) : (upTo l.length []).map (fun i => f (l.getD i 0)) = l.map f := by
  rw [upTo_eq, List.append_nil]
  apply List.ext_getElem?
  intro i
  by_cases hi : i < l.length
  · simp [hi]
  · rw [List.getElem?_eq_none (by simp; omega), List.getElem?_eq_none (by simp; omega)]

theorem parseT_ok {cells r1 : List Value} {h b k : List Nat} (e : parseT cells = some (h, b, k, r1)) :
    ∃ n, cells = tCells (fun i => h.getD i 0) (fun i => b.getD i 0) n (fun i => k.getD i 0) ∧ r1 = tRest (fun i => b.getD i 0) n (fun i => k.getD i 0) ∧ h.length = 8 ∧ b.length = 64 ∧ k.length = 64 := by
  unfold parseT at e
  split at e
  · rename_i h' r1' e1
    split at e
    · rename_i b' r2 e2
      split at e
      · rename_i ns r3 e3
        split at e
        · rename_i k' e4
          cases e
          obtain ⟨a1, l1⟩ := getN_ok e1
          obtain ⟨a2, l2⟩ := getN_ok e2
          obtain ⟨a3, l3⟩ := getN_ok e3
          obtain ⟨a4, l4⟩ := getN_ok e4
          obtain ⟨n, hn⟩ := List.length_eq_one_iff.1 l3
          have hr : r1 = tRest (fun i => b.getD i 0) n (fun i => k.getD i 0) := by
            unfold tRest
            have q1 := range_get i8 b
            have q2 := range_get i32 k
            rw [l2] at q1
            rw [l4] at q2
            rw [q1, q2, a2, a3, a4, hn]
            simp only [List.map_cons, List.map_nil, List.append_nil, List.append_assoc]
            rfl
          refine ⟨n, ?_, hr, l1, l2, l4⟩
          unfold tCells
          have q0 := range_get i32 h
          rw [l1] at q0
          rw [q0, ← hr, a1]
          rfl
        · cases e
      · cases e
    · cases e
  · cases e

theorem vOkL_append {l m : List Value} (h : vOkL l = true) (k : vOkL m = true) : vOkL (l ++ m) = true := by
  induction l with
  | nil => exact k
  | cons x l ih =>
    simp only [vOkL, Bool.and_eq_true] at h
    simp only [List.cons_append, vOkL, Bool.and_eq_true]
    exact ⟨h.1, ih h.2⟩
theorem vOkL_map {α : Type} {f : α → Value} (hf : ∀ x, vOk (f x) = true) : ∀ l : List α, vOkL (l.map f) = true
  | [] => rfl
  | x :: l => by simp only [List.map_cons, vOkL, Bool.and_eq_true]; exact ⟨hf x, vOkL_map hf l⟩
theorem vOkL_mapI {f : Nat → Value} (hf : ∀ x, vOk (f x) = true) {m : List Value} (hm : vOkL m = true) : ∀ l : List Nat, vOkL (mapI f l m) = true
  | [] => hm
  | x :: l => by simp only [mapI, vOkL, Bool.and_eq_true]; exact ⟨hf x, vOkL_mapI hf hm l⟩
theorem tRest_ok (b : Nat → Nat) (n : Nat) (k : Nat → Nat) : vOkL (tRest b n k) = true := by
  unfold tRest
  exact vOkL_append (vOkL_append (vOkL_map (fun _ => rfl) _) rfl) (vOkL_map (fun _ => rfl) _)

noncomputable def gTurn : OF := ⟨fun args s => match args with
  | [.pointer (some ⟨b, 0, none⟩)] => match s.get b with
    | some (.cells c size e) => cond (Nat.beq size 137) (match parseT (c.flat []) with
      | some (h, bl, k, r1) => some [(.tuple #[], s.put b (.cells (.leaf (mapI i32 (Sf.turn h bl k) r1)) size e))]
      | none => none) none
    | _ => none
  | _ => none⟩

theorem gTurn_ok {f : FuncId} (hf : ∃ fn, tab.funcs.get f = some fn) (hc : CallOk P tab C (callN tab over0 50)) (hG : C.G ≤ 100) (ht : TurnRun tab f) : CallOk P tab C fun f' args s => if f' = f then gTurn.run args s else none := by
  intro g args s outs h
  by_cases hgf : g = f
  · subst hgf
    simp only [if_true] at h
    refine ⟨hf, fun ρ w args' hr ha => ?_⟩
    unfold gTurn at h
    simp only at h
    split at h
    · rename_i b
      split at h
      · rename_i c size e hb
        obtain ⟨hs, h⟩ := cond_some h
        have hs := of_beq hs
        subst hs
        split at h
        · rename_i hh bl k r1 hp
          cases h
          obtain ⟨n, q1, q2, q3, q4, q5⟩ := parseT_ok hp
          have hrun := ht e (fun i => hh.getD i 0) (fun i => bl.getD i 0) n (fun i => k.getD i 0)
          obtain ⟨s', r, r1', r2, r3⟩ := outS_ok hrun
          have hlen : (tCells (fun i => hh.getD i 0) (fun i => bl.getD i 0) n (fun i => k.getD i 0)).length = 137 := by
            unfold tCells tRest
            simp [upTo_eq]
          have e1 := range_get (fun x => x) hh
          have e2 := range_get (fun x => x) bl
          have e3 := range_get (fun x => x) k
          rw [q3] at e1
          rw [q4] at e2
          rw [q5] at e3
          simp only [List.map_id_fun', id] at e1 e2 e3
          rw [e1, e2, e3, ← q2] at r3
          refine (canon_ptr hc hr hG ha hb q1 ?_ (by rw [hlen]; exact r1') r2 r3 ?_ rfl).mono fun er w₁ ⟨k1, k2, k3⟩ => ⟨_, List.mem_singleton.2 rfl, ρ, _, k1, vOk_rel _ _ rfl, k2, k3⟩
          · unfold tCells
            exact vOkL_append (vOkL_map (fun _ => rfl) _) (tRest_ok _ _ _)
          · rw [q2]
            exact vOkL_mapI (fun _ => rfl) (tRest_ok _ _ _) _
        · cases h
      · cases h
    · cases h
  · simp only [if_neg hgf] at h; cases h

noncomputable def over1 (f : FuncId) : Over := fun g => cond (Nat.beq g f) (some gTurn) none
theorem over1_ok {f : FuncId} (hf : ∃ fn, tab.funcs.get f = some fn) (hc : CallOk P tab C (callN tab over0 50)) (hG : C.G ≤ 100) (ht : TurnRun tab f) : OverOk P tab C (over1 f) := by
  intro g o ho
  unfold over1 at ho
  cases hg : Nat.beq g f with
  | false => rw [hg] at ho; cases ho
  | true =>
    rw [hg] at ho
    cases ho
    have := of_beq hg
    subst this
    exact gTurn_ok hf hc hG ht
theorem over0_ok : OverOk P tab C over0 := by
  intro f g h; cases h

/-! ### calls that were run before: rows of a table -/
structure Row where
  xs : List (Nat × Nat)
  parts : List (Nat × Nat)
  cap : Nat
  out : Nat

def bytesN : Nat → Nat → List UInt8
  | 0, _ => []
  | n + 1, x => UInt8.ofNat (Nat.mod (Nat.shiftRight x (Nat.mul 8 n)) 256) :: bytesN n x
def strN (q : Nat × Nat) : Value := .string ⟨⟨bytesN q.1 q.2⟩⟩
def strsN : List (Nat × Nat) → List Value
  | [] => []
  | q :: l => strN q :: strsN l
def digN : Nat → Nat → List Value
  | 0, _ => []
  | n + 1, x => i8 (Nat.mod (Nat.shiftRight x (Nat.mul 8 n)) 256) :: digN n x
def lenP : List (Nat × Nat) → Nat
  | [] => 0
  | _ :: l => Nat.succ (lenP l)
def appV : List Value → List Value → List Value
  | [], m => m
  | x :: l, m => x :: appV l m

theorem strsN_ok : ∀ l, vOkL (strsN l) = true
  | [] => rfl
  | q :: l => by simp only [strsN, vOkL, Bool.and_eq_true]; exact ⟨rfl, strsN_ok l⟩
theorem strsN_len : ∀ l, (strsN l).length = lenP l
  | [] => rfl
  | q :: l => by show (strsN l).length + 1 = _; rw [strsN_len l]; rfl
theorem digN_ok : ∀ n x, vOkL (digN n x) = true ∧ (digN n x).all Value.oneCell = true
  | 0, _ => ⟨rfl, rfl⟩
  | n + 1, x => by
    obtain ⟨h1, h2⟩ := digN_ok n x
    exact ⟨by simp only [digN, vOkL, Bool.and_eq_true]; exact ⟨rfl, h1⟩, by simp only [digN, List.all_cons, Bool.and_eq_true]; exact ⟨rfl, h2⟩⟩
theorem appV_eq (l m : List Value) : appV l m = l ++ m := by
  induction l with
  | nil => rfl
  | cons x l ih => show x :: appV l m = _; rw [ih]; rfl

/-- the row's run gives its digest -/
noncomputable def rowB (tab : Tab) (over : Over) (f : FuncId) (e : TypeId) (r : Row) : Bool :=
  match callN tab over 60 f (appV (strsN r.xs) [.slice (some ⟨100, 0, none⟩) (lenP r.parts) r.cap]) (sC (strsN r.parts) (lenP r.parts) e) with
  | some [(v, _)] => eqVal v (mkAgg (digN 32 r.out))
  | _ => false
noncomputable def rowsB (tab : Tab) (over : Over) (f : FuncId) (e : TypeId) : List Row → Bool
  | [] => true
  | r :: l => rowB tab over f e r && rowsB tab over f e l
theorem rowsB_mem {over : Over} {f : FuncId} {e : TypeId} : ∀ {l : List Row}, rowsB tab over f e l = true → ∀ r ∈ l, rowB tab over f e r = true
  | r :: l, h, x, hx => by
    simp only [rowsB, Bool.and_eq_true] at h
    rcases List.mem_cons.1 hx with rfl | hx
    · exact h.1
    · exact rowsB_mem h.2 x hx

/-- the last of the arguments, and what is ahead of it -/
def lastV : List Value → Option (List Value × Value)
  | [] => none
  | x :: l => match l with
    | [] => some ([], x)
    | _ => match lastV l with
      | some (xs, y) => some (x :: xs, y)
      | none => none
theorem lastV_ok : ∀ {l xs : List Value} {y : Value}, lastV l = some (xs, y) → l = xs ++ [y]
  | [x], xs, y, h => by cases h; rfl
  | x :: z :: l, xs, y, h => by
    have h : (match lastV (z :: l) with
      | some (xs, y) => some (x :: xs, y)
      | none => none) = some (xs, y) := h
    split at h
    · rename_i xs' y' he
      cases h
      rw [lastV_ok he]
      rfl
    · cases h

noncomputable def findRow (cap : Nat) (xs cells : List Value) : List Row → Option Row
  | [] => none
  | r :: l => cond (Nat.beq cap r.cap && (eqValL cells (strsN r.parts) && eqValL xs (strsN r.xs))) (some r) (findRow cap xs cells l)
theorem findRow_ok {cap : Nat} {xs cells : List Value} : ∀ {l : List Row} {r : Row}, findRow cap xs cells l = some r → r ∈ l ∧ cells = strsN r.parts ∧ xs = strsN r.xs ∧ cap = r.cap
  | x :: l, r, h => by
    unfold findRow at h
    cases hc : (Nat.beq cap x.cap && (eqValL cells (strsN x.parts) && eqValL xs (strsN x.xs))) with
    | true =>
      rw [hc] at h
      cases h
      simp only [Bool.and_eq_true] at hc
      exact ⟨by simp, eqValL_ok _ _ hc.2.1, eqValL_ok _ _ hc.2.2, of_beq hc.1⟩
    | false =>
      rw [hc] at h
      obtain ⟨h1, h2⟩ := findRow_ok h
      exact ⟨List.mem_cons_of_mem _ h1, h2⟩

noncomputable def gRows (e : TypeId) (rows : List Row) : OF := ⟨fun args s => match lastV args with
  | some (xs, .slice (some ad) n cap) => match s.get ad.block with
    | some (.cells c size e') => cond (Nat.beq e' e) (match readL (c.flat []) ad.off n with
      | some cells => match findRow cap xs cells rows with
        | some r => some [(mkAgg (digN 32 r.out), s.kill ad.block)]
        | none => none
      | none => none) none
    | _ => none
  | _ => none⟩

theorem gRows_ok {f : FuncId} {over : Over} {e : TypeId} {rows : List Row} (hf : ∃ fn, tab.funcs.get f = some fn) (hc : CallOk P tab C (callN tab over 60)) (hG : C.G ≤ 100) (hrows : ∀ r ∈ rows, rowB tab over f e r = true) :
    CallOk P tab C fun f' args s => if f' = f then (gRows e rows).run args s else none := by
  intro g args s outs h
  by_cases hgf : g = f
  · subst hgf
    simp only [if_true] at h
    refine ⟨hf, fun ρ w args' hr ha => ?_⟩
    unfold gRows at h
    simp only at h
    split at h
    · rename_i xs ad n cap hl
      split at h
      · rename_i c size e' hb
        obtain ⟨hs, h2⟩ := cond_some h
        clear h
        have h := h2
        clear h2
        have he := of_beq hs
        subst he
        split at h
        · rename_i cells hread
          split at h
          · rename_i r hfr
            cases h
            obtain ⟨h1, h2, h3, hcap⟩ := findRow_ok hfr
            have hrow := hrows r h1
            unfold rowB at hrow
            split at hrow
            · rename_i v s' hrun
              have hv := eqVal_ok _ _ hrow
              rw [appV_eq] at hrun
              obtain ⟨q1, q2⟩ := readL_some hread
              have hlen : cells.length = n := by
                rw [q1, List.length_take, List.length_drop]
                omega
              have hn : lenP r.parts = n := by rw [← strsN_len, ← h2, hlen]
              rw [hn, ← hcap, ← h2, ← h3] at hrun
              have hd := digN_ok 32 r.out
              have hvok : vOk v = true := by
                rw [hv]
                show (vOkL (digN 32 r.out) && (digN 32 r.out).all Value.oneCell) = true
                rw [hd.1, hd.2]; rfl
              rw [lastV_ok hl] at ha
              refine (canon_slice hc hr hG (cells := cells) ha (by rw [h3]; exact strsN_ok _) hb (fun i hi => ?_) (by rw [h2]; exact strsN_ok _) (by rw [hlen]; exact hrun) hvok).mono fun er w₁ ⟨k1, k2, k3⟩ => ⟨_, List.mem_singleton.2 rfl, ρ, v, k1, ?_, k2, k3⟩
              · rw [q1, List.getElem?_take, if_pos (by omega), List.getElem?_drop]
              · rw [hv]
                rw [hv] at hvok
                exact vOk_rel _ _ hvok
            · cases hrow
          · cases h
        · cases h
      · cases h
    · cases h
  · simp only [if_neg hgf] at h; cases h

/-- two tables -/
noncomputable def overTwo (f₁ f₂ : FuncId) (g₁ g₂ : OF) : Over := fun g => cond (Nat.beq g f₁) (some g₁) (cond (Nat.beq g f₂) (some g₂) none)
theorem overTwo_ok {f₁ f₂ : FuncId} {g₁ g₂ : OF} (h₁ : CallOk P tab C fun f' args s => if f' = f₁ then g₁.run args s else none) (h₂ : CallOk P tab C fun f' args s => if f' = f₂ then g₂.run args s else none) : OverOk P tab C (overTwo f₁ f₂ g₁ g₂) := by
  intro g o ho
  unfold overTwo at ho
  cases hg : Nat.beq g f₁ with
  | true =>
    rw [hg] at ho
    cases ho
    have := of_beq hg
    subst this
    exact h₁
  | false =>
    rw [hg] at ho
    cases hg2 : Nat.beq g f₂ with
    | true =>
      rw [hg2] at ho
      cases ho
      have := of_beq hg2
      subst this
      exact h₂
    | false => rw [hg2] at ho; cases ho

end Go.Ac
end
section
namespace Go.Ac
variable {P : Program} {tab : Tab} {C : Cx} {ρ : Rn} {s : S} {w w' : World} {E : Env} {a : A}

/-! ### code in pieces -/
theorem addO_assoc {α : Type} (x y z : Option (List α)) : addO (addO x y) z = addO x (addO y z) := by
  cases x <;> cases y <;> cases z <;> simp [addO]
theorem addO_nil {α : Type} (x : Option (List α)) : addO x (some []) = x := by
  cases x <;> simp [addO]
theorem nil_addO {α : Type} (x : Option (List α)) : addO (some []) x = x := by
  cases x <;> simp [addO]
theorem bindL_cons {α β : Type} (f : α → Option (List β)) (x : α) (l : List α) : bindL f (x :: l) = addO (f x) (bindL f l) := by
  cases l with
  | nil =>
    show f x = addO (f x) (some [])
    rw [addO_nil]
  | cons y l => rfl
theorem bindL_append {α β : Type} (f : α → Option (List β)) (l m : List α) : bindL f (l ++ m) = addO (bindL f l) (bindL f m) := by
  induction l with
  | nil => rw [List.nil_append]; exact (nil_addO _).symm
  | cons x l ih => rw [List.cons_append, bindL_cons, bindL_cons, ih, addO_assoc]

/-- what a list of codes does, one behind the other -/
noncomputable def runL (tab : Tab) : List Code → DF
  | [] => ⟨fun _ a s => some [.nrm a s]⟩
  | c :: cs => ⟨fun E a s => bindO ((den tab c).run E a s) (kSeq (runL tab cs) E)⟩

def flat : Code → List Code
  | .seq x y => flat x ++ flat y
  | .scope x => flat x
  | c => [c]

/-- pieces of the same outcome have the same end: where no outcome of the first is empty -/
theorem kSeq_bind {x : Option (List Out)} {g h : DF} {k : DF} (hk : ∀ a s, k.run E a s = bindO (g.run E a s) (kSeq h E)) :
    (∀ l, x = some l → l.length = 1) → bindO (bindO x (kSeq g E)) (kSeq h E) = bindO x (kSeq k E) := by
  intro hx
  cases x with
  | none => rfl
  | some l =>
    have := hx l rfl
    obtain ⟨o, rfl⟩ := List.length_eq_one_iff.1 this
    show bindO (kSeq g E o) (kSeq h E) = kSeq k E o
    cases o with
    | nrm a s => exact (hk a s).symm
    | ext id a s => rfl
    | ret a s => rfl

/-- the only outcome -/
def isNrm : Outs → Bool
  | some [.nrm _ _] => true
  | _ => false
def nrmA (d : A) : Outs → A
  | some [.nrm a _] => a
  | _ => d
def nrmS (d : S) : Outs → S
  | some [.nrm _ s] => s
  | _ => d
theorem nrm_of {o : Outs} (h : isNrm o = true) (d : A) (e : S) : o = some [.nrm (nrmA d o) (nrmS e o)] := by
  unfold isNrm at h
  split at h
  · rfl
  · cases h

/-- on goes what comes behind -/
theorem seq_run {x y : Code} {a₁ : A} {s₁ : S} (h : (den tab x).run E a s = some [.nrm a₁ s₁]) : (den tab (.seq x y)).run E a s = (den tab y).run E a₁ s₁ := by
  show bindO ((den tab x).run E a s) (kSeq (den tab y) E) = _
  rw [h]
  rfl
theorem cond_run {c : Operand} {x y : Code} {b : Bool} (h : (opd c).get a = .bool b) : (den tab (.cond c x y)).run E a s = cond b ((den tab x).run E a s) ((den tab y).run E a s) := by
  show condGo (den tab x) (den tab y) E a s ((opd c).get a) = _
  rw [h]
  rfl

/-! ### calls whose result is known -/
/-- the environment in which one call is known -/
noncomputable def envAt (E : Env) (g : FuncId) (args : List Value) (s : S) (outs : List CO) : Env :=
  ⟨fun g' args' s' => open Classical in if g' = g ∧ args' = args ∧ s' = s then some outs else E.call g' args' s', E.yield, E.fn, E.round⟩

theorem envAt_hit {g : FuncId} {args : List Value} {outs : List CO} : (envAt E g args s outs).call g args s = some outs := by
  unfold envAt
  simp

def ValidCall (P : Program) (tab : Tab) (C : Cx) (g : FuncId) (args : List Value) (s : S) (outs : List CO) : Prop :=
  (∃ fn, tab.funcs.get g = some fn) ∧ ∀ ρ w (args' : Array Value), HRel C ρ s w → LRel ρ args args'.toList →
    Calls P g args' w fun e w₁ => ∃ q ∈ outs, ∃ ρ₁ v', e = .returned v' ∧ VRel ρ₁ q.1 v' ∧ HRel C ρ₁ q.2 w₁ ∧ Went ρ s w ρ₁ q.2 w₁

theorem envAt_ok (EO : EnvOk P tab C E) {g : FuncId} {args : List Value} {outs : List CO} (hv : ValidCall P tab C g args s outs) : EnvOk P tab C (envAt E g args s outs) := by
  refine ⟨fun g' args' s' outs' h => ?_, EO.yield⟩
  unfold envAt at h
  simp only at h
  split at h
  · rename_i hc
    obtain ⟨rfl, rfl, rfl⟩ := hc
    cases h
    exact hv
  · exact EO.call g' args' s' outs' h

/-- a body that was run by hand -/
theorem body_valid (tok : TabOk P tab) (hz : ZerosOk tab) (hC : C.ts = tab.size) (hL : C.lok = lokOf tab C.G) (hF : FnsOk tab C.G) {callD : FuncId → List Value → S → Couts} (hD : BodyOk P tab C callD) {f : FuncId} {fn : Func} {c : Code} (hfn : tab.funcs.get f = some fn) (hc : fn.body = some c)
    (EO : EnvOk P tab C E) (hEf : E.fn = f) (hEr : E.round = none) {args : List Value} (hle : args.length ≤ fn.ntmps) {s : S} {l : List Out} (hrun : (den tab c).run E ⟨initTmps args 0 fr0, []⟩ s = some l) {outs : List CO}
    (hb : bindL (behind callD (resL tab fn.results.toList)) l = some outs) : ValidCall P tab C f args s outs := by
  refine ⟨⟨fn, hfn⟩, fun ρ w args' hr ha cs => ?_⟩
  have hok := hF f fn hfn
  unfold fnOkB at hok
  rw [hc] at hok
  simp only [Bool.and_eq_true] at hok
  obtain ⟨ho1, ho2, ho3⟩ := hok
  have ho1 := of_ble ho1
  obtain ⟨hPf, hcf⟩ := tok.calls f fn hfn
  obtain ⟨ht, hsz⟩ := init_rel ha ho1 hle
  let b : Frame := { (default : Frame) with fn := f, kind := .normal }
  have henter : Frame.enter P f args' .normal = b.atR ⟨args' ++ Array.replicate (fn.ntmps - args'.size) undef, []⟩ [.code c] := by
    simp [Frame.enter, Frame.atR, hPf, hc, b]
    rfl
  have hfr : FrOk ρ E b cs := ⟨hEf.symm, .inl ⟨hEr, rfl⟩, calm_normal cs⟩
  have st : St C ρ fn.ntmps ⟨initTmps args 0 fr0, []⟩ s ⟨args' ++ Array.replicate (fn.ntmps - args'.size) undef, []⟩ w := ⟨hr, ⟨ht, by simp [DsRel]⟩, hsz⟩
  obtain ⟨o, ho, ρ₁, w₁, a₁', st₁, hw₁, har⟩ := den_ok tok hz hC hL EO c ho2 _ _ _ hrun ρ w _ b [] cs hfr st
  obtain ⟨r', hk, hsub⟩ := bindL_mem hb o ho
  have fin : ∀ {a₁ : A} {s₁ : S}, St C ρ₁ fn.ntmps a₁ s₁ a₁' w₁ → Went ρ s w ρ₁ s₁ w₁ → leave callD (resL tab fn.results.toList) a₁ 1000 a₁.defers s₁ = some r' → (∃ todo, Steps P (lone (Frame.enter P f args' .normal) cs w) (lone { b.atR a₁' todo with mode := .returning } cs w₁)) →
      ∃ e w' fr, (∃ q ∈ outs, ∃ ρ₁ v', e = .returned v' ∧ VRel ρ₁ q.1 v' ∧ HRel C ρ₁ q.2 w' ∧ Went ρ s w ρ₁ q.2 w') ∧ Comes P (lone (Frame.enter P f args' .normal) cs w) (lone fr cs w') e ∧ fr.fn = f ∧ fr.leaving P w' e := by
    intro a₁ s₁ st₁ hw₁ hl ⟨todo, hst⟩
    obtain ⟨q, hq, ρ₂, w₂, v', e1, e2, e3, e4, e5⟩ := leave_ok tok hD ho3 1000 a₁.defers s₁ r' hl ρ₁ w₁ { b.atR a₁' todo with mode := .returning } cs rfl st₁.ac.2 st₁.hr st₁.ac.1 st₁.sz
    exact ⟨.returned v', w₂, _, ⟨q, hsub q hq, ρ₂, v', rfl, e3, e4, hw₁.trans e5⟩, Steps.trans hst e1, rfl, rfl, rfl, rfl, fn, hPf, e2⟩
  cases o with
  | nrm a₁ s₁ => exact fin st₁ hw₁ hk ⟨[], by rw [henter]; exact Steps.trans har (.one (stepR_end rfl))⟩
  | ret a₁ s₁ =>
    obtain ⟨k₂, e2⟩ := har
    exact fin st₁ hw₁ hk ⟨_, by rw [henter]; exact Steps.trans e2 (.one (stepR_ret rfl))⟩
  | ext id a₁ s₁ => cases hk

end Go.Ac
end
section
namespace Go.Ac
variable {tab : Tab} {E : Env} {a : A} {s : S}

/-! ### operations in pieces -/
/-- an operation with one outcome, that calls nothing -/
noncomputable def simpleC : COp → Bool
  | .mov _ => true
  | .pure _ => true
  | .read _ => true
  | .new _ => true
  | .act _ => true
  | _ => false
noncomputable def simpleO (tab : Tab) (o : Oper) : Bool := simpleC (compileOp tab o)

/-- what a simple operation makes of a frame and a memory -/
theorem oneOp_simple {ops : List Oper} {o : Oper} (h : simpleO tab o = true) (E : Env) (a : A) (s : S) :
    (∀ k, (oneOp tab ops o).run E a s k = none) ∨ ∃ a' s', ∀ k, (oneOp tab ops o).run E a s k = k a' s' := by
  have key : (∀ k : K, (doOp (putD o.dst) (compileOp tab o)).run E a s k = none) ∨ ∃ a' s', ∀ k : K, (doOp (putD o.dst) (compileOp tab o)).run E a s k = k a' s' := by
    unfold simpleO at h
    cases hc : compileOp tab o with
    | mov f => exact .inr ⟨_, s, fun k => rfl⟩
    | pure f =>
      cases hf : f a with
      | none => exact .inl fun k => by show kV _ a s k (f a) = none; rw [hf]; rfl
      | some v => exact .inr ⟨(putD o.dst).put a v, s, fun k => by show kV _ a s k (f a) = _; rw [hf]; rfl⟩
    | read f =>
      cases hf : f a s with
      | none => exact .inl fun k => by show kV _ a s k (f a s) = none; rw [hf]; rfl
      | some v => exact .inr ⟨(putD o.dst).put a v, s, fun k => by show kV _ a s k (f a s) = _; rw [hf]; rfl⟩
    | new f =>
      cases hf : f a with
      | none => exact .inl fun k => by show kN _ a s k (f a) = none; rw [hf]; rfl
      | some q => exact .inr ⟨(putD o.dst).put a (q.2 s.next), s.new q.1, fun k => by show kN _ a s k (f a) = _; rw [hf]; rfl⟩
    | act f =>
      cases hf : f a s with
      | none => exact .inl fun k => by show kA _ a k (f a s) = none; rw [hf]; rfl
      | some q => exact .inr ⟨(putD o.dst).put a q.1, q.2, fun k => by show kA _ a k (f a s) = _; rw [hf]; rfl⟩
    | _ => rw [hc] at h; cases h
  simp only [oneOp_run]
  cases wantA ops o a with
  | true => exact key
  | false => exact .inr ⟨_, s, fun k => rfl⟩

/-- operations ahead of others -/
theorem seqOps_pre {ops : List Oper} : ∀ {pre : List Oper} {rest : List Oper} {a a' : A} {s s' : S}, pre.all (simpleO tab) = true → (seqOps tab ops pre).run E a s finish = some [.nrm a' s'] → ∀ k, (seqOps tab ops (pre ++ rest)).run E a s k = (seqOps tab ops rest).run E a' s' k
  | [], rest, a, a', s, s', _, h, k => by
    have h : some [Out.nrm a s] = some [Out.nrm a' s'] := h
    cases h
    rfl
  | o :: pre, rest, a, a', s, s', hs, h, k => by
    simp only [List.all_cons, Bool.and_eq_true] at hs
    have h : (oneOp tab ops o).run E a s (fun a s => (seqOps tab ops pre).run E a s finish) = some [.nrm a' s'] := h
    show (oneOp tab ops o).run E a s (fun a s => (seqOps tab ops (pre ++ rest)).run E a s k) = _
    rcases oneOp_simple (ops := ops) hs.1 E a s with hn | ⟨a₁, s₁, hk⟩
    · rw [hn] at h; cases h
    · rw [hk] at h ⊢
      exact seqOps_pre hs.2 h k

/-- a call -/
theorem seqOps_call {ops : List Oper} {o : Oper} {rest : List Oper} {f : A → Option CallT} (hg : o.guard = none) (hc : compileOp tab o = .call f) {g : FuncId} {args : List Value} (hf : f a = some (.enter g args)) {v : Value} {s₁ : S} (he : E.call g args s = some [(v, s₁)]) (k : K) :
    (seqOps tab ops (o :: rest)).run E a s k = (seqOps tab ops rest).run E ((putD o.dst).put a v) s₁ k := by
  show (oneOp tab ops o).run E a s (fun a s => (seqOps tab ops rest).run E a s k) = _
  unfold oneOp
  rw [hg]
  show (doOp (putD o.dst) (compileOp tab o)).run E a s (fun a s => (seqOps tab ops rest).run E a s k) = (fun a s => (seqOps tab ops rest).run E a s k) ((putD o.dst).put a v) s₁
  generalize (fun a s => (seqOps tab ops rest).run E a s k) = k'
  rw [hc]
  show kC (putD o.dst) E a s k' (f a) = _
  rw [hf]
  show bindO (E.call g args s) _ = _
  rw [he]
  rfl

/-- a value that is known -/
theorem seqOps_read {ops : List Oper} {o : Oper} {rest : List Oper} {f : A → S → Option Value} (hg : o.guard = none) (hc : compileOp tab o = .read f) {v : Value} (hf : f a s = some v) (k : K) :
    (seqOps tab ops (o :: rest)).run E a s k = (seqOps tab ops rest).run E ((putD o.dst).put a v) s k := by
  show (oneOp tab ops o).run E a s (fun a s => (seqOps tab ops rest).run E a s k) = _
  unfold oneOp
  rw [hg]
  show (doOp (putD o.dst) (compileOp tab o)).run E a s (fun a s => (seqOps tab ops rest).run E a s k) = (fun a s => (seqOps tab ops rest).run E a s k) ((putD o.dst).put a v) s
  generalize (fun a s => (seqOps tab ops rest).run E a s k) = k'
  rw [hc]
  show kV (putD o.dst) a s k' (f a s) = _
  rw [hf]
  rfl

/-- a region in its order, run in two parts -/
theorem region_run {id : Nat} {ops : Array Oper} (E : Env) (a : A) (s : S) : (den tab (.region id ops false)).run E a s = (seqOps tab ops.toList ops.toList).run E a s finish := rfl

/-- an ordinary call whose body is known -/
theorem call_of {over : Over} {n : Nat} {f : FuncId} {args : List Value} {d : FDen} {v : Value} {s₁ : S} (ho : over f = none) (hd : fden tab f = some d) (hl : Nat.ble (lenL args) d.nt = true) {o : Out}
    (hrun : d.body.run ⟨callN tab over n, yieldN tab over n, f, none⟩ ⟨initTmps args 0 fr0, []⟩ s = some [o]) (hb : behind (callB tab over n) d.res o = some [(v, s₁)]) : callN tab over (n + 2) f args s = some [(v, s₁)] := by
  rw [callN, ho]
  show mergeO s (callB tab over (n + 1) f args s) = _
  rw [callB, hd]
  simp only [hl, cond_true]
  rw [hrun]
  show mergeO s (behind (callB tab over n) d.res o) = _
  rw [hb]
  rfl

/-! ### a key that is not there -/
theorem findKey'_none {e : VB} {k : Value} : ∀ {es : List AEntry} {i : Nat}, (∀ x ∈ es, e.run k x.key = some false) → findKey' e k es i = some none
  | [], _, _ => rfl
  | x :: es, i, h => by
    have h1 := h x (List.mem_cons_self ..)
    unfold findKey'
    rw [h1]
    exact findKey'_none fun y hy => h y (List.mem_cons_of_mem _ hy)
theorem findKey_none {e : KT} {k : Value} {es : List AEntry} {i : Nat} (ho : e.ok k = true) (h : ∀ x ∈ es, e.eq.run k x.key = some false) : findKey e k es i = some none := by
  unfold findKey
  rw [ho, cond_true]
  exact findKey'_none h

end Go.Ac
end
section
namespace Go.Ac
open Go.RowKit
variable {P : Program} {tab : Tab} {C : Cx} {ρ : Rn} {s : S} {w w' : World} {E : Env} {a : A}

/-! ### contracts of functions that leave all that was there as it was -/
theorem below_rel (hr : HRel C ρ s w) (hb : Below w.heap.size w w') : HRel C ρ s w' ∧ Went ρ s w ρ s w' := by
  refine ⟨⟨Nat.le_trans hr.low hb.size, hr.glob, fun b o h => ?_, hr.inj, fun b rb h => ⟨(hr.fresh b rb h).1, Nat.lt_of_lt_of_le (hr.fresh b rb h).2 hb.size⟩⟩,
    ⟨Rn.le_refl ρ, fun i h => .inl h, fun i hi _ => hb.block i hi, hb.size, hb.tape, hb.os, hb.output, fun _ _ => rfl, Nat.le_refl _⟩, LogOk.refl _⟩
  obtain ⟨rb, h1, h2, o', h3, h4⟩ := hr.live b o h
  exact ⟨rb, h1, h2, o', by rw [hb.block _ (hr.fresh _ _ h1).2]; exact h3, h4⟩

/-- an answer that the arguments alone give -/
noncomputable def gPure (g : List Value → Option Value) : OF := ⟨fun args s => match g args with
  | some v => some [(v, s)]
  | none => none⟩

theorem gPure_ok {f : FuncId} {g : List Value → Option Value} (hf : ∃ fn, tab.funcs.get f = some fn)
    (hg : ∀ args v, g args = some v → vOkL args = true ∧ vOk v = true ∧ ∀ w, Calls P f args.toArray w fun e w' => e = .returned v ∧ Below w.heap.size w w') :
    CallOk P tab C fun f' args s => if f' = f then (gPure g).run args s else none := by
  intro f' args s outs h
  by_cases hff : f' = f
  · subst hff
    simp only [if_true] at h
    unfold gPure at h
    simp only at h
    split at h
    · rename_i v hv
      cases h
      obtain ⟨h1, h2, h3⟩ := hg _ _ hv
      refine ⟨hf, fun ρ w args' hr ha => ?_⟩
      have e : args' = args.toArray := by
        have := vOkL_eq ρ _ _ h1 ha
        rw [← this]
      rw [e]
      refine (h3 w).mono fun er w₁ ⟨k1, k2⟩ => ?_
      obtain ⟨r1, r2⟩ := below_rel hr k2
      exact ⟨_, List.mem_singleton.2 rfl, ρ, v, k1, vOk_rel _ _ h2, r1, r2⟩
    · cases h
  · simp only [if_neg hff] at h; cases h

/-- a row of functions that are taken by contract -/
noncomputable def overRow : List (FuncId × OF) → Over
  | [] => fun _ => none
  | (f, g) :: l => fun x => cond (Nat.beq x f) (some g) (overRow l x)
theorem overRow_ok : ∀ {l : List (FuncId × OF)}, (∀ q ∈ l, CallOk P tab C fun f' args s => if f' = q.1 then q.2.run args s else none) → OverOk P tab C (overRow l)
  | [], _ => fun f g h => by cases h
  | (f, g) :: l, h => by
    intro x o ho
    unfold overRow at ho
    cases hx : Nat.beq x f with
    | true =>
      rw [hx] at ho
      cases ho
      have := of_beq hx
      subst this
      exact h (x, g) (List.mem_cons_self ..)
    | false =>
      rw [hx] at ho
      exact overRow_ok (fun q hq => h q (List.mem_cons_of_mem _ hq)) x o ho

/-- from nothing, with arguments that hold no pointer: a function that answers true -/
theorem run_true_args {call : FuncId → List Value → S → Couts} (hc : ∀ W : World, CallOk P tab (cx0 tab W) call) {f : FuncId} {n : Nat} {args : List Value} (hargs : vOkL args = true) (h : isTrueL (call f args ⟨.nil, n, [], 0⟩) = true) (W : World) :
    Calls P f args.toArray W fun e W' => e = .returned (.bool true) ∧ Kept W W' := by
  unfold isTrueL at h
  split at h
  · rename_i sEnd hrun
    obtain ⟨_, hcall⟩ := hc W f args _ _ hrun
    refine (hcall _ W args.toArray (begins tab W n) (vOkL_rel _ _ hargs)).mono fun e W' ⟨q, hq, ρ₁, v', h1, h2, h3, h4⟩ => ?_
    rw [List.mem_singleton] at hq
    subst hq
    simp only [VRel] at h2
    subst h2
    exact ⟨h1, h4.kept⟩
  · cases h

end Go.Ac
end
section
namespace Go.Ac
variable {P : Program} {tab : Tab} {C : Cx} {ρ : Rn} {s : S} {w w' : World} {E : Env} {a : A}

/-! ### a run in pieces, by the places of the operations -/
noncomputable def regOps : Code → List Oper
  | .region _ ops _ => ops.toList
  | _ => []
noncomputable def isReg0 : Code → Bool
  | .region _ _ false => true
  | _ => false
theorem reg_run {c : Code} (h : isReg0 c = true) : (den tab c).run E a s = (seqOps tab (regOps c) (regOps c)).run E a s finish := by
  unfold isReg0 at h
  split at h
  · rfl
  · cases h

noncomputable def a00 : A := ⟨fr0, []⟩
noncomputable def s00 : S := ⟨.nil, 0, [], 0⟩
noncomputable def outA (o : Outs) : A := nrmA a00 o
noncomputable def outS' (o : Outs) : S := nrmS s00 o
theorem out_of {o : Outs} (h : isNrm o = true) : o = some [.nrm (outA o) (outS' o)] := nrm_of h _ _

/-- the operations from q to p; those from q on -/
noncomputable def midO (tab : Tab) (E : Env) (c : Code) (q p : Nat) (a : A) (s : S) : Outs := (seqOps tab (regOps c) (((regOps c).take p).drop q)).run E a s finish
noncomputable def fromO (tab : Tab) (E : Env) (c : Code) (q : Nat) (a : A) (s : S) : Outs := (seqOps tab (regOps c) ((regOps c).drop q)).run E a s finish
noncomputable def opAt (c : Code) (p : Nat) : Option Oper := (regOps c)[p]?
noncomputable def callOf : COp → A → Option CallT
  | .call f, a => f a
  | _, _ => none
noncomputable def readOf : COp → A → S → Option Value
  | .read f, a, s => f a s
  | _, _, _ => none
noncomputable def callAt (tab : Tab) (c : Code) (p : Nat) (a : A) : Option CallT := match opAt c p with
  | some o => callOf (compileOp tab o) a
  | none => none
noncomputable def readAt (tab : Tab) (c : Code) (p : Nat) (a : A) (s : S) : Option Value := match opAt c p with
  | some o => readOf (compileOp tab o) a s
  | none => none
noncomputable def dstAt (c : Code) (p : Nat) : Option Tmp := match opAt c p with
  | some o => o.dst
  | none => none
noncomputable def free : Option (Nat × Bool) → Bool
  | none => true
  | some _ => false
/-- is the operation at p unguarded, and are those from q to it simple? -/
noncomputable def okAt (tab : Tab) (c : Code) (q p : Nat) : Bool := Nat.ble q p && ((((regOps c).take p).drop q).all (simpleO tab) && match opAt c p with
  | some o => free o.guard
  | none => false)

theorem drop_at {l : List Oper} {p : Nat} {o : Oper} (h : l[p]? = some o) : l.drop p = o :: l.drop (p + 1) := by
  have hlt := (List.getElem?_eq_some_iff.1 h).1
  rw [List.drop_eq_getElem_cons hlt]
  congr 1
  exact (List.getElem?_eq_some_iff.1 h).2
theorem drop_split {l : List Oper} {q p : Nat} (h : q ≤ p) : l.drop q = (l.take p).drop q ++ l.drop p := by
  conv => lhs; rw [← List.take_append_drop p l]
  rw [List.drop_append]
  congr 1
  have : q - (l.take p).length = 0 ∨ l.length < p := by
    rw [List.length_take]
    omega
  rcases this with h | h
  · rw [h]; rfl
  · rw [List.drop_eq_nil_of_le (Nat.le_of_lt h)]; simp

theorem okAt_parts {c : Code} {q p : Nat} (hok : okAt tab c q p = true) : q ≤ p ∧ (((regOps c).take p).drop q).all (simpleO tab) = true ∧ ∃ o, opAt c p = some o ∧ o.guard = none := by
  unfold okAt at hok
  simp only [Bool.and_eq_true] at hok
  obtain ⟨h1, h2, h3⟩ := hok
  refine ⟨of_ble h1, h2, ?_⟩
  cases ho : opAt c p with
  | none => rw [ho] at h3; cases h3
  | some o =>
    rw [ho] at h3
    refine ⟨o, rfl, ?_⟩
    have h3 : free o.guard = true := h3
    unfold free at h3
    split at h3
    · assumption
    · cases h3

theorem from_call {c : Code} {q p : Nat} (hok : okAt tab c q p = true) (hn : isNrm (midO tab E c q p a s) = true) {g : FuncId} {args : List Value} (hf : callAt tab c p (outA (midO tab E c q p a s)) = some (.enter g args))
    {v : Value} {s₁ : S} (he : E.call g args (outS' (midO tab E c q p a s)) = some [(v, s₁)]) : fromO tab E c q a s = fromO tab E c (p + 1) ((putD (dstAt c p)).put (outA (midO tab E c q p a s)) v) s₁ := by
  obtain ⟨h1, h2, o, ho, hg⟩ := okAt_parts hok
  unfold callAt at hf
  rw [ho] at hf
  have hf : callOf (compileOp tab o) (outA (midO tab E c q p a s)) = some (.enter g args) := hf
  unfold callOf at hf
  split at hf
  · rename_i f hc
    have e1 := seqOps_pre (E := E) (ops := regOps c) (rest := (regOps c).drop p) h2 (show (seqOps tab (regOps c) (((regOps c).take p).drop q)).run E a s finish = some [.nrm (outA (midO tab E c q p a s)) (outS' (midO tab E c q p a s))] from out_of hn) finish
    rw [← drop_split h1] at e1
    unfold fromO
    rw [e1, drop_at ho, seqOps_call hg hc hf he]
    unfold dstAt
    rw [ho]
  · cases hf

theorem from_read {c : Code} {q p : Nat} (hok : okAt tab c q p = true) (hn : isNrm (midO tab E c q p a s) = true) {v : Value} (hf : readAt tab c p (outA (midO tab E c q p a s)) (outS' (midO tab E c q p a s)) = some v) :
    fromO tab E c q a s = fromO tab E c (p + 1) ((putD (dstAt c p)).put (outA (midO tab E c q p a s)) v) (outS' (midO tab E c q p a s)) := by
  obtain ⟨h1, h2, o, ho, hg⟩ := okAt_parts hok
  unfold readAt at hf
  rw [ho] at hf
  have hf : readOf (compileOp tab o) (outA (midO tab E c q p a s)) (outS' (midO tab E c q p a s)) = some v := hf
  unfold readOf at hf
  split at hf
  · rename_i f hc
    have e1 := seqOps_pre (E := E) (ops := regOps c) (rest := (regOps c).drop p) h2 (show (seqOps tab (regOps c) (((regOps c).take p).drop q)).run E a s finish = some [.nrm (outA (midO tab E c q p a s)) (outS' (midO tab E c q p a s))] from out_of hn) finish
    rw [← drop_split h1] at e1
    unfold fromO
    rw [e1, drop_at ho, seqOps_read hg hc hf]
    unfold dstAt
    rw [ho]
  · cases hf

theorem reg_from {c : Code} (h : isReg0 c = true) : (den tab c).run E a s = fromO tab E c 0 a s := reg_run h
/-- code behind code -/
theorem seq_out {x y : Code} (h : isNrm ((den tab x).run E a s) = true) : (den tab (.seq x y)).run E a s = (den tab y).run E (outA ((den tab x).run E a s)) (outS' ((den tab x).run E a s)) := seq_run (out_of h)

/-! the only outcome of a call -/
noncomputable def isOne : Couts → Bool
  | some [_] => true
  | _ => false
noncomputable def couV : Couts → Value
  | some [q] => q.1
  | _ => undef
noncomputable def couS : Couts → S
  | some [q] => q.2
  | _ => s00
theorem one_of {c : Couts} (h : isOne c = true) : c = some [(couV c, couS c)] := by
  unfold isOne at h
  split at h
  · rfl
  · cases h

/-- an ordinary call, by its body's run -/
theorem call_body {over : Over} {n : Nat} {f : FuncId} {args : List Value} {fn : Func} {c : Code} (ho : over f = none) (hf : tab.funcs.get f = some fn) (hb : fn.body = some c) (hl : Nat.ble (lenL args) fn.ntmps = true) {v : Value} {s₁ : S}
    (hr : bindO ((den tab c).run ⟨callN tab over n, yieldN tab over n, f, none⟩ ⟨initTmps args 0 fr0, []⟩ s) (behind (callB tab over n) (resL tab fn.results.toList)) = some [(v, s₁)]) : callN tab over (n + 2) f args s = some [(v, s₁)] := by
  have hd : fden tab f = some ⟨den tab c, resL tab fn.results.toList, fn.ntmps⟩ := by
    unfold fden
    rw [hf]
    simp only [hb]
  rw [callN, ho]
  show mergeO s (callB tab over (n + 1) f args s) = _
  rw [callB, hd]
  simp only [hl, cond_true]
  rw [hr]
  rfl
theorem call_over {over : Over} {n : Nat} {f : FuncId} {args : List Value} {o : OF} (ho : over f = some o) : callN tab over (n + 1) f args s = o.run args s := by
  rw [callN, ho]

end Go.Ac
end
