/-
  Part EvA of the proof: a deterministic evaluator of the machine, its soundness, and what it gives for this seat.
-/
import GoSem.Dispatch
import GoSem.Machine.Frame
import GoSem.Machine.Panic
import Derived.Wp
import Derived.Recover
import Derived.Laws.Cells
import Derived.Laws.Sem
import Derived.Laws.Bits
import Derived.IntWalk
section
namespace Go.Ac
noncomputable section

/-! ### lists, by their recursor: the kernel runs these -/
def lenL (l : List Value) : Nat := List.rec (motive := fun _ => Nat) 0 (fun _ _ ih => Nat.succ ih) l
def appL (l m : List Value) : List Value := List.rec (motive := fun _ => List Value) m (fun v _ ih => v :: ih) l
/-- the first n; none, if there are fewer -/
def takeN (n : Nat) : List Value → Option (List Value) :=
  Nat.rec (motive := fun _ => List Value → Option (List Value)) (fun _ => some [])
    (fun _ ih l => List.rec (motive := fun _ => Option (List Value)) none
      (fun v vs _ => Option.rec (motive := fun _ => Option (List Value)) none (fun r => some (v :: r)) (ih vs)) l) n
def dropN (n : Nat) : List Value → List Value :=
  Nat.rec (motive := fun _ => List Value → List Value) (fun l => l)
    (fun _ ih l => List.rec (motive := fun _ => List Value) [] (fun _ vs _ => ih vs) l) n
def nthL (n : Nat) : List Value → Option Value :=
  Nat.rec (motive := fun _ => List Value → Option Value) (fun l => List.rec (motive := fun _ => Option Value) none (fun v _ _ => some v) l)
    (fun _ ih l => List.rec (motive := fun _ => Option Value) none (fun _ vs _ => ih vs) l) n
/-- vs over the head of c: all must fit -/
def overL (vs : List Value) : List Value → Option (List Value) :=
  List.rec (motive := fun _ => List Value → Option (List Value)) (fun c => some c)
    (fun v _ ih c => List.rec (motive := fun _ => Option (List Value)) none
      (fun _ cs _ => Option.rec (motive := fun _ => Option (List Value)) none (fun r => some (v :: r)) (ih cs)) c) vs
def writeL (n : Nat) (vs : List Value) : List Value → Option (List Value) :=
  Nat.rec (motive := fun _ => List Value → Option (List Value)) (fun c => overL vs c)
    (fun _ ih c => List.rec (motive := fun _ => Option (List Value)) none
      (fun x cs _ => Option.rec (motive := fun _ => Option (List Value)) none (fun r => some (x :: r)) (ih cs)) c) n
def readL (c : List Value) (off n : Nat) : Option (List Value) := takeN n (dropN off c)

/-! ### what a value holds: by the recursor, with nothing of the surroundings in it -/
def vK : Value → Nat :=
  @Value.rec (fun _ => Nat) (fun _ => Unit) (fun _ => Unit) (fun _ => 8) (fun k _ => IntKind.casesOn (motive := fun _ => Nat) k 0 1 2 3 4 5 6 7) (fun _ _ => 8) (fun _ _ _ => 8) (fun _ => 8) (fun _ => 8) (fun _ _ _ => 8) (fun _ => 8) (fun _ => 8) (fun _ _ _ _ _ => 8) (8) (fun _ _ _ => 8) (8) (fun _ _ => 8) (fun _ _ => 8) (fun _ _ => ()) () (fun _ _ _ _ => ())
def vN : Value → Int :=
  @Value.rec (fun _ => Int) (fun _ => Unit) (fun _ => Unit) (fun _ => 0) (fun _ n => n) (fun _ _ => 0) (fun _ _ _ => 0) (fun _ => 0) (fun _ => 0) (fun _ _ _ => 0) (fun _ => 0) (fun _ => 0) (fun _ _ _ _ _ => 0) (0) (fun _ _ _ => 0) (0) (fun _ _ => 0) (fun _ _ => 0) (fun _ _ => ()) () (fun _ _ _ _ => ())
def vB : Value → Option Bool :=
  @Value.rec (fun _ => Option Bool) (fun _ => Unit) (fun _ => Unit) (fun b => some b) (fun _ _ => none) (fun _ _ => none) (fun _ _ _ => none) (fun _ => none) (fun _ => none) (fun _ _ _ => none) (fun _ => none) (fun _ => none) (fun _ _ _ _ _ => none) (none) (fun _ _ _ => none) (none) (fun _ _ => none) (fun _ _ => none) (fun _ _ => ()) () (fun _ _ _ _ => ())
def vS : Value → Option ByteArray :=
  @Value.rec (fun _ => Option ByteArray) (fun _ => Unit) (fun _ => Unit) (fun _ => none) (fun _ _ => none) (fun _ _ => none) (fun _ _ _ => none) (fun b => some b) (fun _ => none) (fun _ _ _ => none) (fun _ => none) (fun _ => none) (fun _ _ _ _ _ => none) (none) (fun _ _ _ => none) (none) (fun _ _ => none) (fun _ _ => none) (fun _ _ => ()) () (fun _ _ _ _ => ())
def vP : Value → Option Addr :=
  @Value.rec (fun _ => Option Addr) (fun _ => Unit) (fun _ => Unit) (fun _ => none) (fun _ _ => none) (fun _ _ => none) (fun _ _ _ => none) (fun _ => none) (fun p => p) (fun _ _ _ => none) (fun _ => none) (fun _ => none) (fun _ _ _ _ _ => none) (none) (fun _ _ _ => none) (none) (fun _ _ => none) (fun _ _ => none) (fun _ _ => ()) () (fun _ _ _ _ => ())
def vA : Value → Option (Array Value) :=
  @Value.rec (fun _ => Option (Array Value)) (fun _ => Unit) (fun _ => Unit) (fun _ => none) (fun _ _ => none) (fun _ _ => none) (fun _ _ _ => none) (fun _ => none) (fun _ => none) (fun _ _ _ => none) (fun _ => none) (fun _ => none) (fun _ _ _ _ _ => none) (none) (fun _ _ _ => none) (none) (fun c _ => some c) (fun _ _ => none) (fun _ _ => ()) () (fun _ _ _ _ => ())
def vT : Value → Option (Array Value) :=
  @Value.rec (fun _ => Option (Array Value)) (fun _ => Unit) (fun _ => Unit) (fun _ => none) (fun _ _ => none) (fun _ _ => none) (fun _ _ _ => none) (fun _ => none) (fun _ => none) (fun _ _ _ => none) (fun _ => none) (fun _ => none) (fun _ _ _ _ _ => none) (none) (fun _ _ _ => none) (none) (fun _ _ => none) (fun c _ => some c) (fun _ _ => ()) () (fun _ _ _ _ => ())
def vC : Value → List Value :=
  @Value.rec (fun _ => List Value) (fun _ => Unit) (fun _ => Unit) (fun _ => []) (fun _ _ => []) (fun _ _ => []) (fun _ _ _ => []) (fun _ => []) (fun _ => []) (fun _ _ _ => []) (fun _ => []) (fun _ => []) (fun _ _ _ _ _ => []) ([]) (fun _ _ _ => []) ([]) (fun c _ => c.toList) (fun _ _ => []) (fun _ _ => ()) () (fun _ _ _ _ => ())
def vSl : Value → Option (Option Addr × Nat × Nat) :=
  @Value.rec (fun _ => Option (Option Addr × Nat × Nat)) (fun _ => Unit) (fun _ => Unit) (fun _ => none) (fun _ _ => none) (fun _ _ => none) (fun _ _ _ => none) (fun _ => none) (fun _ => none) (fun a n c => some (a, n, c)) (fun _ => none) (fun _ => none) (fun _ _ _ _ _ => none) (none) (fun _ _ _ => none) (none) (fun _ _ => none) (fun _ _ => none) (fun _ _ => ()) () (fun _ _ _ _ => ())
def vM : Value → Option (Option Nat) :=
  @Value.rec (fun _ => Option (Option Nat)) (fun _ => Unit) (fun _ => Unit) (fun _ => none) (fun _ _ => none) (fun _ _ => none) (fun _ _ _ => none) (fun _ => none) (fun _ => none) (fun _ _ _ => none) (fun r => some r) (fun _ => none) (fun _ _ _ _ _ => none) (none) (fun _ _ _ => none) (none) (fun _ _ => none) (fun _ _ => none) (fun _ _ => ()) () (fun _ _ _ _ => ())
def vCh : Value → Option (Option Nat) :=
  @Value.rec (fun _ => Option (Option Nat)) (fun _ => Unit) (fun _ => Unit) (fun _ => none) (fun _ _ => none) (fun _ _ => none) (fun _ _ _ => none) (fun _ => none) (fun _ => none) (fun _ _ _ => none) (fun _ => none) (fun r => some r) (fun _ _ _ _ _ => none) (none) (fun _ _ _ => none) (none) (fun _ _ => none) (fun _ _ => none) (fun _ _ => ()) () (fun _ _ _ _ => ())
def vF : Value → Option (Fn × Array Value × Array Value) :=
  @Value.rec (fun _ => Option (Fn × Array Value × Array Value)) (fun _ => Unit) (fun _ => Unit) (fun _ => none) (fun _ _ => none) (fun _ _ => none) (fun _ _ _ => none) (fun _ => none) (fun _ => none) (fun _ _ _ => none) (fun _ => none) (fun _ => none) (fun f a b _ _ => some (f, a, b)) (none) (fun _ _ _ => none) (none) (fun _ _ => none) (fun _ _ => none) (fun _ _ => ()) () (fun _ _ _ _ => ())
def iNat : Int → Option Nat := @Int.rec (fun _ => Option Nat) (fun n => some n) (fun _ => none)
def onInt {R : Type} (f g : Nat → R) (n : Int) : R := @Int.rec (fun _ => R) f g n
def onOpt {α R : Type} (d : R) (f : α → R) (x : Option α) : R := @Option.rec α (fun _ => R) d f x

def natOf (x : Value) : Option Nat := cond (Nat.ble (vK x) 7) (iNat (vN x)) none

/-! ### a trie over Nat -/
inductive T (α : Type) where
  | nil
  | node (v : Option α) (l r : T α)

def pathF (k : Nat) : Nat → List Bool :=
  Nat.rec (motive := fun _ => Nat → List Bool) (fun _ => [])
    (fun _ ih n => cond (Nat.beq n 0) [] (cond (Nat.beq (Nat.mod n 2) 1) (true :: ih (Nat.div n 2)) (false :: ih (Nat.pred (Nat.div n 2))))) k
def path (n : Nat) : List Bool := pathF (Nat.log2 (Nat.succ n)) n

def T.get {α : Type} (t : T α) : Nat → Option α :=
  T.rec (motive := fun _ => Nat → Option α) (fun _ => none)
    (fun v _ _ ihl ihr n => cond (Nat.beq n 0) v (cond (Nat.beq (Nat.mod n 2) 1) (ihl (Nat.div n 2)) (ihr (Nat.pred (Nat.div n 2))))) t

def T.setP {α : Type} (x : Option α) (p : List Bool) : T α → T α :=
  List.rec (motive := fun _ => T α → T α)
    (fun t => T.rec (motive := fun _ => T α) (.node x .nil .nil) (fun _ l r _ _ => .node x l r) t)
    (fun b _ ih t => cond b
      (T.rec (motive := fun _ => T α) (.node none (ih .nil) .nil) (fun v l r _ _ => .node v (ih l) r) t)
      (T.rec (motive := fun _ => T α) (.node none .nil (ih .nil)) (fun v l r _ _ => .node v l (ih r)) t)) p
def T.set {α : Type} (t : T α) (n : Nat) (x : Option α) : T α := T.setP x (path n) t

/-! ### frames: 8 x 8 x 8 slots -/
structure Lens (β α : Type) where
  get : β → α
  set : α → β → β
structure N8 (α : Type) where
  a0 : α
  a1 : α
  a2 : α
  a3 : α
  a4 : α
  a5 : α
  a6 : α
  a7 : α
def lens8 (α : Type) : Nat → Lens (N8 α) α
  | 0 => ⟨fun t => t.a0, fun v t => @N8.rec α (fun _ => N8 α) (fun a0 a1 a2 a3 a4 a5 a6 a7 => ⟨v, a1, a2, a3, a4, a5, a6, a7⟩) t⟩
  | 1 => ⟨fun t => t.a1, fun v t => @N8.rec α (fun _ => N8 α) (fun a0 a1 a2 a3 a4 a5 a6 a7 => ⟨a0, v, a2, a3, a4, a5, a6, a7⟩) t⟩
  | 2 => ⟨fun t => t.a2, fun v t => @N8.rec α (fun _ => N8 α) (fun a0 a1 a2 a3 a4 a5 a6 a7 => ⟨a0, a1, v, a3, a4, a5, a6, a7⟩) t⟩
  | 3 => ⟨fun t => t.a3, fun v t => @N8.rec α (fun _ => N8 α) (fun a0 a1 a2 a3 a4 a5 a6 a7 => ⟨a0, a1, a2, v, a4, a5, a6, a7⟩) t⟩
  | 4 => ⟨fun t => t.a4, fun v t => @N8.rec α (fun _ => N8 α) (fun a0 a1 a2 a3 a4 a5 a6 a7 => ⟨a0, a1, a2, a3, v, a5, a6, a7⟩) t⟩
  | 5 => ⟨fun t => t.a5, fun v t => @N8.rec α (fun _ => N8 α) (fun a0 a1 a2 a3 a4 a5 a6 a7 => ⟨a0, a1, a2, a3, a4, v, a6, a7⟩) t⟩
  | 6 => ⟨fun t => t.a6, fun v t => @N8.rec α (fun _ => N8 α) (fun a0 a1 a2 a3 a4 a5 a6 a7 => ⟨a0, a1, a2, a3, a4, a5, v, a7⟩) t⟩
  | _ => ⟨fun t => t.a7, fun v t => @N8.rec α (fun _ => N8 α) (fun a0 a1 a2 a3 a4 a5 a6 a7 => ⟨a0, a1, a2, a3, a4, a5, a6, v⟩) t⟩
def all8 {α : Type} (x : α) : N8 α := ⟨x, x, x, x, x, x, x, x⟩

abbrev Fr := N8 (N8 (N8 Value))
def fr0 : Fr := all8 (all8 (all8 undef))

/-- a slot that is known before -/
structure FSpot where
  get : Fr → Value
  set : Value → Fr → Fr
def spotAt (i j k : Nat) : FSpot :=
  ⟨fun f => (lens8 Value k).get ((lens8 (N8 Value) j).get ((lens8 (N8 (N8 Value)) i).get f)),
   fun v f => (lens8 (N8 (N8 Value)) i).set ((lens8 (N8 Value) j).set ((lens8 Value k).set v ((lens8 (N8 Value) j).get ((lens8 (N8 (N8 Value)) i).get f))) ((lens8 (N8 (N8 Value)) i).get f)) f⟩
def fspot (t : Nat) : FSpot := spotAt (Nat.div t 64) (Nat.mod (Nat.div t 8) 8) (Nat.mod t 8)

/-! ### the abstract memory -/
/-- cells: a row, and what was appended to it -/
inductive Rope where
  | leaf (l : List Value)
  | app (r : Rope) (l : List Value)

def Rope.flat (r : Rope) : List Value → List Value :=
  Rope.rec (motive := fun _ => List Value → List Value) (fun l m => List.rec (motive := fun _ => List Value) l (fun _ _ _ => appL l m) m)
    (fun _ l ih m => ih (List.rec (motive := fun _ => List Value) l (fun _ _ _ => appL l m) m)) r

structure ALoop where
  state : LoopState
  pending : Option Code
  fn : FuncId
  tmps : Fr
  params : List Tmp
  assign : Code
  body : Code
  defers : Nat

structure AEntry where
  key : Value
  val : Value
  born : Nat

inductive AO where
  | cells (c : Rope) (size : Nat) (e : TypeId)
  | map (es : List AEntry) (clock : Nat)
  | chan (cap : Nat) (buf : List Value) (sent rcvd : Nat)
  | sIter (s : ByteArray) (pos : Nat)
  | mIter (m : Option Nat) (since : Nat) (seen : List Nat) (stepped : Nat)
  | loop (l : ALoop)
  | deferred (calls : Option (List Deferred))

structure S where
  heap : T AO
  next : Nat
  log : List Nat
  cnt : Nat

structure A where
  tmps : Fr
  defers : List Deferred

structure Tab where
  types : T TypeInfo
  funcs : T Func
  eqs : T Unit

def Tab.desc (P : Tab) (t : TypeId) : Option TypeDesc :=
  match P.types.get t with
  | some i => match i.desc with
    | .named _ u => match P.types.get u with
      | some j => some j.desc
      | none => none
    | d => some d
  | none => none

def Tab.size (P : Tab) (t : TypeId) : Option Nat :=
  match P.types.get t with
  | some i => some i.size
  | none => none

def Tab.zero (P : Tab) (t : TypeId) : Option Value :=
  match P.types.get t with
  | some i => i.zero
  | none => none

def isAgg (d : TypeDesc) : Bool := match d with
  | .struct _ => true
  | .array _ _ => true
  | _ => false

def Tab.agg (P : Tab) (t : TypeId) : Option Bool :=
  match P.desc t with
  | some d => some (isAgg d)
  | none => none

/-- an operand's reader -/
structure G where
  get : A → Value

def slot (t : Tmp) : G := ⟨fun a => (fspot t).get a.tmps⟩

def opd : Operand → G
  | .tmp t => slot t
  | .const v => ⟨fun _ => v⟩
  | .global g => ⟨fun _ => .pointer (some ⟨g, 0, none⟩)⟩
  | .func f => ⟨fun _ => .func (.func f) #[] #[]⟩

structure Put where
  put : A → Value → A

def putS (t : Tmp) : Put := ⟨fun a v => ⟨(fspot t).set v a.tmps, a.defers⟩⟩

def putD : Option Tmp → Put
  | none => ⟨fun a _ => a⟩
  | some t => putS t

def S.get (s : S) (b : Nat) : Option AO := T.get s.heap b
def S.put (s : S) (b : Nat) (o : AO) : S := ⟨T.setP (some o) (path b) s.heap, s.next, b :: s.log, Nat.succ s.cnt⟩
def S.kill (s : S) (b : Nat) : S := ⟨T.setP none (path b) s.heap, s.next, b :: s.log, Nat.succ s.cnt⟩
def S.new (s : S) (o : AO) : S := ⟨T.setP (some o) (path s.next) s.heap, Nat.succ s.next, s.next :: s.log, Nat.succ s.cnt⟩

/-- the cells at off, n of them -/
def cellsAt (c : Rope) (size off n : Nat) : Option (List Value) :=
  cond (Nat.beq off 0 && Nat.beq n size) (some (c.flat [])) (readL (c.flat []) off n)

def S.read (s : S) (b off n : Nat) : Option (List Value) :=
  match s.get b with
  | some (.cells c size _) => cellsAt c size off n
  | _ => none

def S.read1 (s : S) (b off : Nat) : Option Value :=
  match s.get b with
  | some (.cells c _ _) => nthL off (c.flat [])
  | _ => none

/-- n: how many vs are -/
def S.write (s : S) (b off n : Nat) (vs : List Value) : Option S :=
  match s.get b with
  | some (.cells c size e) => cond (Nat.beq off 0 && Nat.beq n size) (some (s.put b (.cells (.leaf vs) size e)))
    (match writeL off vs (c.flat []) with
    | some c' => some (s.put b (.cells (.leaf c') size e))
    | none => none)
  | _ => none

/-- a value's cells; none, of a tuple -/
def cellsO (v : Value) : Option (List Value) := onOpt (onOpt (some [v]) (fun _ => none) (vT v)) (fun cs => some (Array.toList cs)) (vA v)

def mkAgg (l : List Value) : Value := .agg ⟨l⟩

/-! ### small arithmetic -/
def addI (a b : Int) : Int := onInt (fun m => onInt (fun n => .ofNat (Nat.add m n)) (fun n => Int.subNatNat m (Nat.succ n)) b)
  (fun m => onInt (fun n => Int.subNatNat n (Nat.succ m)) (fun n => .negSucc (Nat.succ (Nat.add m n))) b) a
def subI (a b : Int) : Int := onInt (fun m => onInt (fun n => cond (Nat.ble n m) (.ofNat (Nat.sub m n)) (.negSucc (Nat.pred (Nat.sub n m)))) (fun n => .ofNat (Nat.add m (Nat.succ n))) b)
  (fun m => onInt (fun n => .negSucc (Nat.add m n)) (fun n => Int.subNatNat n m) b) a
def wrap64 (n : Int) : Int := Int.rec (motive := fun _ => Int)
  (fun m => cond (Nat.ble m 9223372036854775807) (.ofNat m) (IntKind.wrap .i64 (.ofNat m)))
  (fun m => cond (Nat.ble m 9223372036854775807) (.negSucc m) (IntKind.wrap .i64 (.negSucc m))) n
def wrapU (k : IntKind) (m : Nat) (n : Int) : Int := Int.rec (motive := fun _ => Int)
  (fun x => .ofNat (Nat.mod x m)) (fun x => IntKind.wrap k (.negSucc x)) n

structure IF where
  run : Int → Int

/-- wrap, with the usual case ahead -/
def wrapI : IntKind → IF
  | .i64 => ⟨wrap64⟩
  | .u8 => ⟨wrapU .u8 256⟩
  | .u32 => ⟨wrapU .u32 4294967296⟩
  | .u64 => ⟨wrapU .u64 18446744073709551616⟩
  | k => ⟨IntKind.wrap k⟩

def ltI (a b : Int) : Bool := Int.rec (motive := fun _ => Bool)
  (fun a => Int.rec (motive := fun _ => Bool) (fun b => Nat.ble (Nat.succ a) b) (fun _ => false) b)
  (fun a => Int.rec (motive := fun _ => Bool) (fun _ => true) (fun b => Nat.ble (Nat.succ b) a) b) a

def eqI (a b : Int) : Bool := Int.rec (motive := fun _ => Bool)
  (fun a => Int.rec (motive := fun _ => Bool) (fun b => Nat.beq a b) (fun _ => false) b)
  (fun a => Int.rec (motive := fun _ => Bool) (fun _ => false) (fun b => Nat.beq a b) b) a

def kindNo : IntKind → Nat
  | .i8 => 0
  | .i16 => 1
  | .i32 => 2
  | .i64 => 3
  | .u8 => 4
  | .u16 => 5
  | .u32 => 6
  | .u64 => 7

def eqK (a b : IntKind) : Bool := Nat.beq (kindNo a) (kindNo b)

def ofPure : Sem Value → Option Value
  | .pure v => some v
  | _ => none

structure IF2 where
  run : Int → Int → Option Value

def quoI (k : IntKind) (a b : Int) : Option Value :=
  onInt (fun x => onInt (fun y => cond (Nat.beq y 0) none (some (.int k ((wrapI k).run (.ofNat (Nat.div x y)))))) (fun _ => ofPure (Op.intDiv .quo k a b)) b)
    (fun _ => cond (eqI b 0) none (ofPure (Op.intDiv .quo k a b))) a
def remI (k : IntKind) (a b : Int) : Option Value :=
  onInt (fun x => onInt (fun y => cond (Nat.beq y 0) none (some (.int k (.ofNat (Nat.mod x y))))) (fun _ => ofPure (Op.intDiv .rem k a b)) b)
    (fun _ => cond (eqI b 0) none (ofPure (Op.intDiv .rem k a b))) a

def bitsI (k : IntKind) (op : BinOp) (f : Nat → Nat → Nat) (a b : Int) : Option Value :=
  onInt (fun m => onInt (fun n => some (.int k ((wrapI k).run (.ofNat (f m n))))) (fun _ => ofPure (Op.intBits op k a b)) b) (fun _ => ofPure (Op.intBits op k a b)) a

def intOp (k : IntKind) : BinOp → IF2
  | .add => ⟨fun a b => some (.int k ((wrapI k).run (addI a b)))⟩
  | .sub => ⟨fun a b => some (.int k ((wrapI k).run (subI a b)))⟩
  | .mul => ⟨fun a b => some (.int k ((wrapI k).run (Int.mul a b)))⟩
  | .eql => ⟨fun a b => some (.bool (eqI a b))⟩
  | .neq => ⟨fun a b => some (.bool (!eqI a b))⟩
  | .lss => ⟨fun a b => some (.bool (ltI a b))⟩
  | .leq => ⟨fun a b => some (.bool (!ltI b a))⟩
  | .gtr => ⟨fun a b => some (.bool (ltI b a))⟩
  | .geq => ⟨fun a b => some (.bool (!ltI a b))⟩
  | .quo => ⟨quoI k⟩
  | .rem => ⟨remI k⟩
  | .and => ⟨bitsI k .and Nat.land⟩
  | .or => ⟨bitsI k .or Nat.lor⟩
  | .xor => ⟨bitsI k .xor Nat.xor⟩
  | op => ⟨fun a b => ofPure (Op.intBits op k a b)⟩

def eqB (a : List UInt8) : List UInt8 → Bool :=
  List.rec (motive := fun _ => List UInt8 → Bool) (fun b => List.rec (motive := fun _ => Bool) true (fun _ _ _ => false) b)
    (fun x _ ih b => List.rec (motive := fun _ => Bool) false (fun y ys _ => cond (Nat.beq x.toNat y.toNat) (ih ys) false) b) a

def eqS (a b : ByteArray) : Bool := eqB a.data.toList b.data.toList

def appB (l m : List UInt8) : List UInt8 := List.rec (motive := fun _ => List UInt8) m (fun v _ ih => v :: ih) l
def lenB (l : List UInt8) : Nat := List.rec (motive := fun _ => Nat) 0 (fun _ _ ih => Nat.succ ih) l
def catS (a b : ByteArray) : ByteArray := ⟨⟨appB a.data.toList b.data.toList⟩⟩

structure SF2 where
  run : ByteArray → ByteArray → Option Value

def strOp : BinOp → SF2
  | .add => ⟨fun a b => cond (Nat.ble (Nat.add (lenB a.data.toList) (lenB b.data.toList)) 4611686018427387903) (some (.string (catS a b))) none⟩
  | .eql => ⟨fun a b => some (.bool (eqS a b))⟩
  | .neq => ⟨fun a b => some (.bool (!eqS a b))⟩
  | _ => ⟨fun _ _ => none⟩

/-! ### parts, equality -/
def partL (agg : Bool) (size off : Nat) (cs : List Value) : Option Value :=
  cond agg (Option.rec (motive := fun _ => Option Value) none (fun l => some (mkAgg l)) (readL cs off size)) (nthL off cs)

structure VB where
  run : Value → Value → Option Bool

/-- cells of the three kinds that are compared -/
def cI : VB := ⟨fun x y => cond (Nat.ble (vK x) 7) (cond (Nat.beq (vK x) (vK y)) (some (eqI (vN x) (vN y))) none) none⟩
def cS : VB := ⟨fun x y => onOpt none (fun a => onOpt none (fun b => some (eqS a b)) (vS y)) (vS x)⟩
def cB : VB := ⟨fun x y => onOpt none (fun a => onOpt none (fun b => some (cond a b (cond b false true))) (vB y)) (vB x)⟩

/-- all cells, in order, up to the first that parts -/
def eqCells (L : List VB) : List Value → List Value → Option Bool :=
  List.rec (motive := fun _ => List Value → List Value → Option Bool) (fun _ _ => some true)
    (fun c _ ih x y => List.rec (motive := fun _ => Option Bool) none
      (fun a xs _ => List.rec (motive := fun _ => Option Bool) none
        (fun b ys _ => Option.rec (motive := fun _ => Option Bool) none (fun t => cond t (ih xs ys) (some false)) (c.run a b)) y) x) L

def repV (k : List VB) : Nat → List VB
  | 0 => []
  | n + 1 => k ++ repV k n

def denseF (P : Tab) (dn : TypeId → Option (List VB)) : List Field → Nat → Option (List VB)
  | [], _ => some []
  | f :: fs, off => cond (f.name == "_") none (cond (Nat.beq f.offset off) (match dn f.type with
    | some k => match P.size f.type with
      | some n => cond (Nat.beq n k.length) (match denseF P dn fs (off + n) with
        | some r => some (k ++ r)
        | none => none) none
      | none => none
    | none => none) none)

/-- is a type one of bools, ints and strings alone, laid densely, no field blank? How its cells are compared, then. -/
def dense (P : Tab) : Nat → TypeId → Option (List VB)
  | 0, _ => none
  | d + 1, t =>
    match P.desc t with
    | some .bool => some [cB]
    | some (.int _) => some [cI]
    | some .string => some [cS]
    | some (.array n e) => match dense P d e with
      | some k => match P.size e with
        | some c => cond (Nat.beq c k.length) (some (repV k n)) none
        | none => none
      | none => none
    | some (.struct fs) => match P.eqs.get t with
      | some _ => denseF P (dense P d) fs.toList 0
      | none => none
    | _ => none

def eqAgg (L : List VB) (x y : Value) : Option Bool := onOpt none (fun a => onOpt none (fun b => eqCells L (Array.toList a) (Array.toList b)) (vA y)) (vA x)
def eqPtr (x y : Value) : Option Bool := match x, y with
  | .pointer none, .pointer none => some true
  | .pointer none, .pointer (some _) => some false
  | .pointer (some _), .pointer none => some false
  | _, _ => none
def eqIface (x y : Value) : Option Bool := match x, y with
  | .nilIface, .iface _ _ => some false
  | .iface _ _, .nilIface => some false
  | _, _ => none
def eqSlice (x y : Value) : Option Bool := match x, y with
  | .slice none _ _, .slice none _ _ => some true
  | .slice none _ _, .slice (some _) _ _ => some false
  | .slice (some _) _ _, .slice none _ _ => some false
  | _, _ => none
def eqFunc (x y : Value) : Option Bool := match x, y with
  | .nilFunc, .nilFunc => some true
  | .nilFunc, .func _ _ _ => some false
  | .func _ _ _, .nilFunc => some false
  | _, _ => none

/-- equality at a type -/
def eqV (P : Tab) (t : TypeId) : VB :=
  match P.desc t with
  | some .bool => cB
  | some (.int _) => cI
  | some .string => cS
  | some (.struct _) => match dense P 20 t with
    | some L => ⟨eqAgg L⟩
    | none => ⟨fun _ _ => none⟩
  | some (.array _ _) => match P.eqs.get t with
    | some _ => match dense P 20 t with
      | some L => ⟨eqAgg L⟩
      | none => ⟨fun _ _ => none⟩
    | none => ⟨fun _ _ => none⟩
  | some (.pointer _) => ⟨eqPtr⟩
  | some (.interface _) => ⟨eqIface⟩
  | some (.slice _) => ⟨eqSlice⟩
  | some (.func _ _ _) => ⟨eqFunc⟩
  | _ => ⟨fun _ _ => none⟩

/-- a map's keys: how they are compared, and is one whole? -/
structure KT where
  eq : VB
  ok : Value → Bool

def keyT (P : Tab) (t : TypeId) : KT :=
  match P.desc t with
  | some .bool => ⟨cB, fun _ => true⟩
  | some (.int _) => ⟨cI, fun _ => true⟩
  | some .string => ⟨cS, fun _ => true⟩
  | some (.struct _) => match dense P 20 t with
    | some L => ⟨⟨eqAgg L⟩, fun x => onOpt false (fun a => Nat.beq L.length (lenL (Array.toList a))) (vA x)⟩
    | none => ⟨⟨fun _ _ => none⟩, fun _ => false⟩
  | some (.array _ _) => match dense P 20 t with
    | some L => ⟨⟨eqAgg L⟩, fun x => onOpt false (fun a => Nat.beq L.length (lenL (Array.toList a))) (vA x)⟩
    | none => ⟨⟨fun _ _ => none⟩, fun _ => false⟩
  | _ => ⟨⟨fun _ _ => none⟩, fun _ => false⟩

structure VF2 where
  run : Value → Value → Option Value

def optB (neg : Bool) : Option Bool → Option Value
  | some b => some (.bool (xor neg b))
  | none => none

/-- both of the kind that is known -/
def binInt (k : Nat) (f : IF2) (x y : Value) : Option Value := cond (Nat.beq (vK x) k) (cond (Nat.beq (vK y) k) (f.run (vN x) (vN y)) none) none
def binStr (f : SF2) (x y : Value) : Option Value := onOpt none (fun a => onOpt none (fun b => f.run a b) (vS y)) (vS x)
/-- a shift of a number of the kind k -/
def shiftI (k : IntKind) (left : Bool) (a : Int) (n : Nat) : Value :=
  onInt (fun m => .int k (cond left ((wrapI k).run (.ofNat (Nat.shiftLeft m n))) (.ofNat (Nat.shiftRight m n))))
    (fun _ => .int k (cond left (k.wrap (a * 2 ^ n)) (a.fdiv (2 ^ n)))) a
def capN (b n : Nat) : Nat := cond (Nat.ble n b) n b
def binShift (k : IntKind) (bits : Nat) (left : Bool) (x y : Value) : Option Value :=
  cond (Nat.beq (vK x) (kindNo k)) (onOpt none (fun n => some (shiftI k left (vN x) (capN bits n))) (natOf y)) none

def binA (P : Tab) (op : BinOp) (t : TypeId) : VF2 :=
  match op with
  | .shl => match P.desc t with
    | some (.int k) => ⟨binShift k k.bits true⟩
    | _ => ⟨fun _ _ => none⟩
  | .shr => match P.desc t with
    | some (.int k) => ⟨binShift k k.bits false⟩
    | _ => ⟨fun _ _ => none⟩
  | _ => match P.desc t with
    | some (.int k) => ⟨binInt (kindNo k) (intOp k op)⟩
    | some .string => ⟨binStr (strOp op)⟩
    | _ => match op with
      | .eql => ⟨fun x y => optB false ((eqV P t).run x y)⟩
      | .neq => ⟨fun x y => optB true ((eqV P t).run x y)⟩
      | _ => ⟨fun _ _ => none⟩


def zeros (z : List Value) (n : Nat) : List Value := Nat.rec (motive := fun _ => List Value) [] (fun _ ih => appL z ih) n

/-! ### building -/
structure Place where
  at_ : Nat → Option (Nat × Nat)

def fillL (place : Place) : List (Nat × Value) → List Value → Option (List Value)
  | [], cells => some cells
  | (i, v) :: rest, cells => onOpt none (fun p => onOpt none (fun c => cond (Nat.beq (lenL c) (Prod.snd p))
      (onOpt none (fun cells => fillL place rest cells) (writeL (Prod.fst p) c cells)) none) (cellsO v)) (place.at_ i)

def nthP : List (Nat × Nat) → Nat → Option (Nat × Nat)
  | [], _ => none
  | p :: _, 0 => some p
  | _ :: ps, n + 1 => nthP ps n

def placesS (P : Tab) : List Field → Option (List (Nat × Nat))
  | [] => some []
  | f :: fs => match P.size f.type with
    | some n => match placesS P fs with
      | some r => some ((f.offset, n) :: r)
      | none => none
    | none => none

structure GP where
  get : A → List (Nat × Value)
def opds : List (Nat × Operand) → GP
  | [] => ⟨fun _ => []⟩
  | (i, x) :: r => ⟨fun a => (i, (opd x).get a) :: (opds r).get a⟩

structure GL where
  get : A → List Value
def opdL : List Operand → GL
  | [] => ⟨fun _ => []⟩
  | x :: r => ⟨fun a => (opd x).get a :: (opdL r).get a⟩

/-! ### maps -/
def findKey' (e : VB) (k : Value) : List AEntry → Nat → Option (Option (Nat × Value))
  | [], _ => some none
  | x :: xs, i => match e.run k x.key with
    | some true => some (some (i, x.val))
    | some false => findKey' e k xs (Nat.succ i)
    | none => none
def findKey (e : KT) (k : Value) (es : List AEntry) (i : Nat) : Option (Option (Nat × Value)) := cond (e.ok k) (findKey' e.eq k es i) none

def setVal (k v : Value) : Nat → List AEntry → List AEntry
  | _, [] => []
  | 0, x :: xs => ⟨k, v, x.born⟩ :: xs
  | n + 1, x :: xs => x :: setVal k v n xs

def eraseL : Nat → List AEntry → List AEntry
  | _, [] => []
  | 0, _ :: xs => xs
  | n + 1, x :: xs => x :: eraseL n xs

def nthE : Nat → List AEntry → Option AEntry
  | _, [] => none
  | 0, x :: _ => some x
  | n + 1, _ :: xs => nthE n xs

def S.map (s : S) (r : Nat) : Option (List AEntry × Nat) :=
  match s.get r with
  | some (.map es c) => some (es, c)
  | _ => none

def findBorn (b : Nat) : List AEntry → Option AEntry
  | [] => none
  | x :: xs => cond (Nat.beq x.born b) (some x) (findBorn b xs)

def setBorn (b : Nat) (v : Value) : List AEntry → Option (List AEntry)
  | [] => none
  | x :: xs => cond (Nat.beq x.born b) (some (⟨x.key, v, x.born⟩ :: xs)) (match setBorn b v xs with
    | some l => some (x :: l)
    | none => none)

/-! ### slices -/
def bytesV (l : List UInt8) : List Value := List.rec (motive := fun _ => List Value) [] (fun c _ ih => .int .u8 (.ofNat c.toNat) :: ih) l

def byteOf (v : Value) : Option UInt8 := cond (Nat.beq (vK v) 4) (onOpt none (fun n => some (UInt8.ofNat n)) (iNat (vN v))) none

def bytesOf (l : List Value) : Option (List UInt8) := List.rec (motive := fun _ => Option (List UInt8)) (some [])
  (fun v _ ih => Option.rec (motive := fun _ => Option (List UInt8)) none (fun c => Option.rec (motive := fun _ => Option (List UInt8)) none (fun r => some (c :: r)) ih) (byteOf v)) l

/-- what is appended or copied from: how many elements, their cells -/
def srcCells (s : S) (size : Nat) : Value → Option (Nat × List Value)
  | .slice none _ _ => some (0, [])
  | .slice (some a) n _ => cond (Nat.beq n 0) (some (0, [])) (match s.read a.block a.off (Nat.mul n size) with
    | some l => some (n, l)
    | none => none)
  | .string b => cond (Nat.beq size 1) (some (lenB b.data.toList, bytesV b.data.toList)) none
  | _ => none

def newRow (s : S) (c : Rope) (size need : Nat) (elem : TypeId) : Value × S :=
  (.slice (some ⟨s.next, 0, none⟩) need (Nat.succ (Nat.mul 2 need)), s.new (.cells c size elem))

/-- the cells that a slice shows, as they were appended, if it is its whole block -/
def wholeOf (c : Rope) (size off n : Nat) : Option Rope :=
  cond (Nat.beq off 0 && Nat.beq n size) (some c) (match readL (c.flat []) off n with
    | some l => some (.leaf l)
    | none => none)

/-- 'append', where there is room: base, and how many elements stand there -/
def appendIn (size : Nat) (s : S) (base : Option Addr) (n cap m : Nat) (new : List Value) : Option (Value × S) := match base with
  | none => some (.slice none (Nat.add n m) cap, s)
  | some a => cond (Nat.beq m 0) (some (.slice (some a) (Nat.add n m) cap, s))
    (match s.write a.block (Nat.add a.off (Nat.mul n size)) (Nat.mul m size) new with
      | some s => some (.slice (some a) (Nat.add n m) cap, s)
      | none => none)

/-- where there may be none. Of a row whose capacity isn't known the block is let go: the new row may be the old one. -/
def appendOut (elem size : Nat) (s : S) (base : Option Addr) (n cap m : Nat) (new : List Value) : Option (Value × S) := match base with
  | none => some (newRow s (.leaf new) (Nat.mul m size) m elem)
  | some a => match s.get a.block with
    | some (.cells c sz e) => match cond (Nat.beq n 0) (some (.leaf [])) (wholeOf c sz a.off (Nat.mul n size)) with
      | none => none
      | some old => cond (Nat.beq (Nat.mod cap 2) 1)
        (cond (Nat.beq e elem) (some (newRow (s.kill a.block) (.app old new) (Nat.mul (Nat.add n m) size) (Nat.add n m) elem)) none)
        (some (newRow s (.app old new) (Nat.mul (Nat.add n m) size) (Nat.add n m) elem))
    | _ => none

/-- 'append': an even cap 2c is exactly c, an odd one 2c+1 at least c -/
def appendA (elem size : Nat) (s : S) (x y : Value) : Option (Value × S) :=
  match x with
  | .slice base n cap =>
    match srcCells s size y with
    | none => none
    | some (m, new) => cond (Nat.ble (Nat.add n m) (Nat.div cap 2)) (appendIn size s base n cap m new)
        (cond (Nat.ble (Nat.add n m) 1000000) (appendOut elem size s base n cap m new) none)
  | _ => none

def boundA (y : Nat) (v : Option Value) (d : Nat) : Option Nat := match v with
  | none => some d
  | some v => match natOf v with
    | some i => cond (Nat.ble i y) (some i) none
    | none => none

def capA (cap : Nat) : Option Value → Option Nat
  | none => some cap
  | some v => match natOf v with
    | some i => cond (Nat.ble i (Nat.div cap 2)) (some (Nat.mul 2 i)) none
    | none => none

def sliceA (size : Nat) (b : Option Addr) (len cap : Nat) (low high max : Option Value) : Option Value :=
  match capA cap max with
  | none => none
  | some m => match boundA (Nat.div m 2) high len with
    | none => none
    | some h => match boundA h low 0 with
      | none => none
      | some l => some (.slice (match b with
          | none => none
          | some ad => some ⟨ad.block, Nat.add ad.off (Nat.mul l size), none⟩) (Nat.sub h l) (Nat.sub m (Nat.mul 2 l)))

def dropB (n : Nat) : List UInt8 → List UInt8 :=
  Nat.rec (motive := fun _ => List UInt8 → List UInt8) (fun l => l)
    (fun _ ih l => List.rec (motive := fun _ => List UInt8) [] (fun _ vs _ => ih vs) l) n
def takeB (n : Nat) : List UInt8 → List UInt8 :=
  Nat.rec (motive := fun _ => List UInt8 → List UInt8) (fun _ => [])
    (fun _ ih l => List.rec (motive := fun _ => List UInt8) [] (fun v vs _ => v :: ih vs) l) n
def nthB (n : Nat) : List UInt8 → Option UInt8 :=
  Nat.rec (motive := fun _ => List UInt8 → Option UInt8) (fun l => List.rec (motive := fun _ => Option UInt8) none (fun v _ _ => some v) l)
    (fun _ ih l => List.rec (motive := fun _ => Option UInt8) none (fun _ vs _ => ih vs) l) n

def sliceS (b : ByteArray) (low high : Option Value) : Option Value :=
  match boundA (lenB b.data.toList) high (lenB b.data.toList) with
  | none => none
  | some h => match boundA h low 0 with
    | none => none
    | some l => some (.string ⟨⟨takeB (Nat.sub h l) (dropB l b.data.toList)⟩⟩)

structure GO where
  get : A → Option Value
def opdO : Option Operand → GO
  | none => ⟨fun _ => none⟩
  | some x => ⟨fun a => some ((opd x).get a)⟩

end
end Go.Ac
end
section
namespace Go.Ac
noncomputable section

inductive CallT where
  | enter (f : FuncId) (args : List Value)
  | yield (l : Nat) (args : List Value)

/-- an operation, by what it does to memory -/
inductive COp where
  | mov (f : A → Value)
  | pure (f : A → Option Value)
  | read (f : A → S → Option Value)
  | new (f : A → Option (AO × (Nat → Value)))
  | act (f : A → S → Option (Value × S))
  | many (f : A → S → Option (List (Value × S)))
  | call (f : A → Option CallT)
  | defer (f : A → Option Deferred)
  | recover
  | panic (f : A → Option Value)
  | bad

abbrev N2 := Option (AO × (Nat → Value))

def vPick (c x y : Value) : Option Value := onOpt none (fun b => some (cond b x y)) (vB c)
def vConvInt (k : IntKind) (x : Value) : Option Value := cond (Nat.ble (vK x) 7) (some (.int k ((wrapI k).run (vN x)))) none
def vConvRune (x : Value) : Option Value := match x with
  | .int _ n => some (.string (Utf8.encode n))
  | _ => none
def vConvStr (x : Value) : Option Value := match x with
  | .string b => some (.string b)
  | _ => none
def strOf (l : Option (List Value)) : Option Value := match l with
  | some l => match bytesOf l with
    | some b => some (.string ⟨⟨b⟩⟩)
    | none => none
  | none => none
def vConvBytes (s : S) (x : Value) : Option Value := match x with
  | .slice none _ _ => some (.string ⟨⟨[]⟩⟩)
  | .slice (some ad) n _ => cond (Nat.beq n 0) (some (.string ⟨⟨[]⟩⟩)) (strOf (s.read ad.block ad.off n))
  | _ => none
def vOfStr (e : TypeId) (x : Value) : N2 := match x with
  | .string b => some (.cells (.leaf (bytesV b.data.toList)) (lenB b.data.toList) e, fun r => .slice (some ⟨r, 0, none⟩) (lenB b.data.toList) (Nat.succ (Nat.mul 2 (lenB b.data.toList))))
  | _ => none
def vBuild (l : Option (List Value)) : Option Value := match l with
  | some l => some (mkAgg l)
  | none => none
def vBuildSlice (e n size : Nat) (l : Option (List Value)) : N2 := match l with
  | some l => some (.cells (.leaf l) (Nat.mul n size) e, fun r => .slice (some ⟨r, 0, none⟩) n (Nat.mul 2 n))
  | none => none
def rowPlace (size : Nat) : Place := ⟨fun i => some (Nat.mul i size, size)⟩
def vBox (e n : Nat) (x : Value) : N2 := onOpt none (fun c => cond (Nat.beq (lenL c) n) (some (.cells (.leaf c) n e, fun r => .pointer (some ⟨r, 0, none⟩))) none) (cellsO x)
def vChan (bytes : Nat) (x : Value) : N2 := match natOf x with
  | some n => cond (Nat.ble (Nat.mul n (Nat.succ bytes)) 1000000000) (some (.chan n [] 0 0, fun r => .chan (some r))) none
  | none => none
def vMapHint (x : Value) : N2 := match x with
  | .int _ _ => some (.map [] 0, fun r => .map (some r))
  | _ => none
def vSliceNew (e size bytes : Nat) (z : List Value) (l c : Value) : N2 := match natOf l with
  | some l => match natOf c with
    | some c => cond (Nat.ble l c && Nat.ble (Nat.mul c (Nat.succ bytes)) 1000000000)
      (some (.cells (.leaf (zeros z c)) (Nat.mul c size) e, fun r => .slice (some ⟨r, 0, none⟩) l (Nat.mul 2 c))) none
    | none => none
  | none => none
def vLoad1 (s : S) (x : Value) : Option Value := onOpt none (fun ad => s.read1 (Addr.block ad) (Addr.off ad)) (vP x)
def vLoadN (n : Nat) (s : S) (x : Value) : Option Value := onOpt none (fun ad => vBuild (s.read (Addr.block ad) (Addr.off ad) n)) (vP x)
def withS (v : Value) (s : Option S) : Option (Value × S) := match s with
  | some s => some (v, s)
  | none => none
def vStore (n : Nat) (s : S) (x v : Value) : Option (Value × S) :=
  onOpt none (fun ad => onOpt none (fun c => cond (Nat.beq (lenL c) n) (withS undef (s.write (Addr.block ad) (Addr.off ad) n c)) none) (cellsO v)) (vP x)
def vNilCheck (x : Value) : Option Value := match x with
  | .pointer (some ad) => some (.pointer (some ad))
  | .iface t v => some (.iface t v)
  | .func (.func g) first cap => some (.func (.func g) first cap)
  | .func (.yield g) first cap => some (.func (.yield g) first cap)
  | .func (.via t p g b) first cap => some (.func (.via t p g b) first cap)
  | .slice a n c => some (.slice a n c)
  | .map r => some (.map r)
  | _ => none
/-- of a row whose capacity isn't known, the head may be cut off only where the row is of that type -/
def mayCut (e : TypeId) (s : S) (b : Option Addr) (c : Nat) (lo mx : Option Value) : Bool := cond (Nat.beq (Nat.mod c 2) 0) true (match lo with
  | none => true
  | some _ => match mx with
    | some _ => true
    | none => match b with
      | none => true
      | some ad => match s.get ad.block with
        | some (.cells _ _ e') => Nat.beq e' e
        | _ => false)
def vSlice (e size : Nat) (s : S) (x : Value) (lo hi mx : Option Value) : Option Value := match x with
  | .slice b n c => cond (mayCut e s b c lo mx) (sliceA size b n c lo hi mx) none
  | _ => none
def vSliceArr (n size : Nat) (x : Value) (lo hi mx : Option Value) : Option Value := match x with
  | .pointer (some ad) => sliceA size (some ad) n (Nat.mul 2 n) lo hi mx
  | _ => none
def vSliceStr (x : Value) (lo hi : Option Value) : Option Value := match x with
  | .string b => sliceS b lo hi
  | _ => none
def vArrPtr (n : Nat) (x : Value) : Option Value := match x with
  | .slice (some ad) len _ => cond (Nat.ble n len && Nat.ble 1 n) (some (.pointer (some ad))) none
  | _ => none
def vFieldAddr (off : Nat) (x : Value) : Option Value := onOpt none (fun ad => some (.pointer (some ⟨Addr.block ad, Nat.add (Addr.off ad) off, none⟩))) (vP x)
def vField (agg : Bool) (size off : Nat) (x : Value) : Option Value := onOpt none (fun cs => partL agg size off (Array.toList cs)) (vA x)
def stepAddr (size n : Nat) (ad : Addr) (i : Option Nat) : Option Value :=
  onOpt none (fun i => cond (Nat.ble (Nat.succ i) n) (some (.pointer (some ⟨ad.block, Nat.add ad.off (Nat.mul i size), none⟩))) none) i
def vIndexAddrArr (n size : Nat) (x i : Value) : Option Value := onOpt none (fun ad => stepAddr size n ad (natOf i)) (vP x)
def vIndexAddr (size : Nat) (x i : Value) : Option Value := onOpt none (fun q => onOpt none (fun ad => stepAddr size (Prod.fst (Prod.snd q)) ad (natOf i)) (Prod.fst q)) (vSl x)
def vIndexArr (n : Nat) (agg : Bool) (size : Nat) (x i : Value) : Option Value :=
  onOpt none (fun cs => onOpt none (fun i => cond (Nat.ble (Nat.succ i) n) (partL agg size (Nat.mul i size) (Array.toList cs)) none) (natOf i)) (vA x)
def vByte (c : Option UInt8) : Option Value := match c with
  | some c => some (.int .u8 (.ofNat c.toNat))
  | none => none
def vIndexStr (x i : Value) : Option Value :=
  onOpt none (fun b => onOpt none (fun i => vByte (nthB i (Array.toList (ByteArray.data b)))) (natOf i)) (vS x)
def mapOf (s : S) : Value → Option (List AEntry)
  | .map none => some []
  | .map (some r) => match s.map r with
    | some (es, _) => some es
    | none => none
  | _ => none
def vFound (z : Value) (ok : Bool) : Option (Option (Nat × Value)) → Option Value
  | some (some (_, v)) => some (cond ok (.tuple #[v, .bool true]) v)
  | some none => some (cond ok (.tuple #[z, .bool false]) z)
  | none => none
def vLookup (e : KT) (z : Value) (ok : Bool) (s : S) (x k : Value) : Option Value := match mapOf s x with
  | some es => vFound z ok (findKey e k es 0)
  | none => none
def vMapUpdate (e : KT) (s : S) (m k v : Value) : Option (Value × S) := match m with
  | .map (some r) => match s.map r with
    | none => none
    | some (es, c) => match findKey e k es 0 with
      | some (some (i, _)) => match nthE i es with
        | some x => cond (e.ok x.key) (some (undef, s.put r (.map (setVal k v i es) c))) none
        | none => none
      | some none => some (undef, s.put r (.map (es ++ [⟨k, v, c⟩]) (Nat.succ c)))
      | none => none
  | _ => none
def vMapEntry (e : KT) (z : Value) (s : S) (m k : Value) : Option (Value × S) := match m with
  | .map (some r) => match s.map r with
    | none => none
    | some (es, c) => match findKey e k es 0 with
      | some (some (i, v)) => match nthE i es with
        | some x => cond (e.ok x.key) (some (.tuple #[v, .int .i64 (.ofNat x.born)], s.put r (.map (setVal k v i es) c))) none
        | none => none
      | some none => some (.tuple #[z, .int .i64 (.ofNat c)], s.put r (.map (es ++ [⟨k, z, c⟩]) (Nat.succ c)))
      | none => none
  | _ => none
def vEntryStore (s : S) (m st v : Value) : Option (Value × S) := match m with
  | .map (some r) => match natOf st, s.map r with
    | some b, some (es, c) => match setBorn b v es with
      | some es => some (undef, s.put r (.map es c))
      | none => none
    | _, _ => none
  | _ => none
def vRangeStr (s : S) (x : Value) : Option (Value × S) := match x with
  | .string b => some (.pointer (some ⟨s.next, 0, none⟩), s.new (.sIter b 0))
  | _ => none
def vRangeMap (s : S) (x : Value) : Option (Value × S) := match x with
  | .map none => some (.pointer (some ⟨s.next, 0, none⟩), s.new (.mIter none 0 [] 0))
  | .map (some m) => match s.map m with
    | some (_, c) => some (.pointer (some ⟨s.next, 0, none⟩), s.new (.mIter (some m) c [] c))
    | none => none
  | _ => none
def vNextStrAt (s : S) (ad : Addr) : Option (Value × S) := match s.get ad.block with
    | some (.sIter b pos) => match nthB pos b.data.toList with
      | some c => cond (Nat.ble (Nat.succ c.toNat) 128)
          (some (.tuple #[.bool true, .int .i64 (.ofNat pos), .int .i32 (.ofNat c.toNat)], s.put ad.block (.sIter b (Nat.succ pos)))) none
      | none => cond (Nat.ble (lenB b.data.toList) pos) (some (.tuple #[.bool false], s)) none
    | _ => none
def vNextStr (s : S) (it : Value) : Option (Value × S) := onOpt none (fun ad => cond (Nat.beq (Addr.off ad) 0) (vNextStrAt s ad) none) (vP it)
def memN (n : Nat) : List Nat → Bool
  | [] => false
  | x :: xs => cond (Nat.beq x n) true (memN n xs)
def leftOf (seen : List Nat) : List AEntry → List AEntry
  | [] => []
  | e :: es => cond (memN e.born seen) (leftOf seen es) (e :: leftOf seen es)
def allOlder (since : Nat) : List AEntry → Bool
  | [] => true
  | e :: es => cond (Nat.ble (Nat.succ e.born) since) (allOlder since es) false
def picks (s : S) (b m since : Nat) (seen : List Nat) (clock : Nat) : List AEntry → List (Value × S)
  | [] => []
  | e :: es => (.tuple #[.bool true, e.key, e.val], s.put b (.mIter (some m) since (seen ++ [e.born]) clock)) :: picks s b m since seen clock es
/-- the next of a map: only entries that were there when the range began; none new -/
def vNextMapAt (s : S) (ad : Addr) : Option (List (Value × S)) := match s.get ad.block with
    | some (.mIter none _ _ _) => some [(.tuple #[.bool false], s)]
    | some (.mIter (some m) since seen last) => match s.map m with
      | some (es, clock) =>
        cond (allOlder since es && Nat.beq since last && Nat.beq clock since)
          (match leftOf seen es with
            | [] => some [(.tuple #[.bool false], s)]
            | l => some (picks s ad.block m since seen clock l)) none
      | none => none
    | _ => none
def vNextMap (s : S) (it : Value) : Option (List (Value × S)) := onOpt none (fun ad => cond (Nat.beq (Addr.off ad) 0) (vNextMapAt s ad) none) (vP it)
def lastN : List Nat → Option Nat
  | [] => none
  | [x] => some x
  | _ :: xs => lastN xs
def vEntryAt (s : S) (ad : Addr) : Option Value := match s.get ad.block with
    | some (.mIter (some m) _ seen stepped) => match lastN seen, s.map m with
      | some b, some (es, clock) => cond (Nat.beq clock stepped) (match findBorn b es with
        | some e => some (.tuple #[e.key, e.val])
        | none => none) none
      | _, _ => none
    | _ => none
def vEntry (s : S) (it : Value) : Option Value := onOpt none (fun ad => cond (Nat.beq (Addr.off ad) 0) (vEntryAt s ad) none) (vP it)
def vExtract (i : Nat) (x : Value) : Option Value := onOpt none (fun vs => nthL i (Array.toList vs)) (vT x)
def vAssert (t : TypeId) (z : Value) (ok : Bool) (x : Value) : Option Value := match x with
  | .iface u v => cond (Nat.beq u t) (some (cond ok (.tuple #[v, .bool true]) v)) (cond ok (some (.tuple #[z, .bool false])) none)
  | .nilIface => cond ok (some (.tuple #[z, .bool false])) none
  | _ => none
def vLenStr (x : Value) : Option Value := onOpt none (fun b => some (.int .i64 (.ofNat (lenB (Array.toList (ByteArray.data b)))))) (vS x)
def vLen (x : Value) : Option Value := onOpt none (fun q => some (.int .i64 (.ofNat (Prod.fst (Prod.snd q))))) (vSl x)
def vLenMap (s : S) (x : Value) : Option Value := match mapOf s x with
  | some es => some (.int .i64 (.ofNat es.length))
  | none => none
def vLenChan (s : S) (x : Value) : Option Value := match x with
  | .chan none => some (.int .i64 0)
  | .chan (some r) => match s.get r with
    | some (.chan _ buf _ _) => some (.int .i64 (.ofNat (lenL buf)))
    | _ => none
  | _ => none
def vCap (x : Value) : Option Value := match x with
  | .slice _ _ c => cond (Nat.beq (Nat.mod c 2) 0) (some (.int .i64 (.ofNat (Nat.div c 2)))) none
  | _ => none
def vMin (x y : Value) : Option Value := match x, y with
  | .int .i64 m, .int .i64 n => some (.int .i64 (cond (ltI n m) n m))
  | _, _ => none
def vMax (x y : Value) : Option Value := match x, y with
  | .int .i64 m, .int .i64 n => some (.int .i64 (cond (ltI m n) n m))
  | _, _ => none
def vCopy (size : Nat) (s : S) (x y : Value) : Option (Value × S) := match x with
  | .slice base n _ => match srcCells s size y with
    | none => none
    | some (m, l) => match base with
      | none => some (.int .i64 (.ofNat (cond (Nat.ble m n) m n)), s)
      | some ad => cond (Nat.beq (cond (Nat.ble m n) m n) 0) (some (.int .i64 0, s)) (match takeN (Nat.mul (cond (Nat.ble m n) m n) size) l with
        | some l => withS (.int .i64 (.ofNat (cond (Nat.ble m n) m n))) (s.write ad.block ad.off (Nat.mul (cond (Nat.ble m n) m n) size) l)
        | none => none)
  | _ => none
def vClear (size : Nat) (z : List Value) (s : S) (x : Value) : Option (Value × S) := match x with
  | .slice none _ _ => some (.tuple #[], s)
  | .slice (some ad) n _ => cond (Nat.beq n 0) (some (.tuple #[], s)) (withS (.tuple #[]) (s.write ad.block ad.off (Nat.mul n size) (zeros z n)))
  | _ => none
def vDelete (e : KT) (s : S) (m k : Value) : Option (Value × S) := match m with
  | .map none => cond (e.ok k) (some (.tuple #[], s)) none
  | .map (some r) => match s.map r with
    | none => none
    | some (es, c) => match findKey e k es 0 with
      | some (some (i, _)) => some (.tuple #[], s.put r (.map (eraseL i es) c))
      | some none => some (.tuple #[], s)
      | none => none
  | _ => none
def vSliceData (x : Value) : Option Value := match x with
  | .slice (some ad) n _ => cond (Nat.ble 1 n) (some (.pointer (some ad))) none
  | _ => none
/-- the bytes are never written any more: the block is let go -/
def vUnsafeString (u : TypeId) (s : S) (p n : Value) : Option (Value × S) := onOpt none (fun ad => onOpt none (fun n => match s.get (Addr.block ad) with
    | some (.cells c size e) => cond (Nat.beq e u && Nat.ble (Nat.add (Addr.off ad) n) size && Nat.ble n 9223372036854775807) (match strOf (cellsAt c size (Addr.off ad) n) with
      | some v => some (v, s.kill (Addr.block ad))
      | none => none) none
    | _ => none) (natOf n)) (vP p)
def vSend (s : S) (ch v : Value) : Option (Value × S) := match ch with
  | .chan (some r) => match s.get r with
    | some (.chan cap buf sent rcvd) => cond (Nat.ble (Nat.succ (lenL buf)) cap)
      (some (.tuple #[.int .i64 0, .bool false], s.put r (.chan cap (appL buf [v]) (Nat.succ sent) rcvd)))
      (some (.tuple #[.int .i64 (-1), .bool false], s))
    | _ => none
  | _ => none
def vRecv (z : Value) (s : S) (ch : Value) : Option (Value × S) := match ch with
  | .chan (some r) => match s.get r with
    | some (.chan cap buf sent rcvd) => match buf with
      | v :: rest => some (.tuple #[.int .i64 0, .bool true, v], s.put r (.chan cap rest sent (Nat.succ rcvd)))
      | [] => some (.tuple #[.int .i64 (-1), .bool false, z], s)
    | _ => none
  | _ => none
def vCall (P : Tab) (f : Value) (args : List Value) : Option CallT := match f with
  | .func (.func g) first cap => some (.enter g (appL (appL first.toList args) cap.toList))
  | .func (.yield k) first _ => some (.yield k (appL first.toList args))
  | .func (.via t p g true) first _ => cond (Nat.beq p.size 0) (match P.desc t with
    | some (.pointer _) => match appL first.toList args with
      | [] => none
      | v :: l => some (.enter g (v :: l))
    | _ => none) none
  | _ => none
def vDefer (f : Value) (args : List Value) : Option Deferred := match f with
  | .func (.func g) first cap => some { target := .fn (.func g) cap, args := ⟨appL first.toList args⟩ }
  | _ => none
def vPanic (x : Value) : Option Value := match x with
  | .iface t v => some (.iface t v)
  | _ => none

def oOf {α β : Type} (x : Option α) (f : α → β) (d : β) : β := match x with
  | some x => f x
  | none => d

/-- may a row of the type grow? -/
def mayGrow (P : Tab) (e : TypeId) : Bool := match P.types.get e with
  | some i => match i.zero with
    | some _ => Nat.ble i.bytes 1000000
    | none => false
  | none => false

def builtinC (P : Tab) (b : Builtin) (ats : List TypeId) (args : List Operand) : COp :=
  match b, args with
  | .append, [x, y] => match ats with
    | st :: rest => match P.desc st, rest with
      | some (.slice e), [] => cond (mayGrow P e) (oOf (P.size e) (fun n => .act (fun a s => appendA e n s ((opd x).get a) ((opd y).get a))) .bad) .bad
      | some (.slice e), t2 :: _ => match P.desc t2 with
        | some (.int _) => .bad
        | some _ => cond (mayGrow P e) (oOf (P.size e) (fun n => .act (fun a s => appendA e n s ((opd x).get a) ((opd y).get a))) .bad) .bad
        | none => .bad
      | _, _ => .bad
    | _ => .bad
  | .len, [x] => match ats with
    | t :: _ => match P.desc t with
      | some .string => .pure (fun a => vLenStr ((opd x).get a))
      | some (.slice _) => .pure (fun a => vLen ((opd x).get a))
      | some (.array n _) => .pure (fun _ => some (.int .i64 (.ofNat n)))
      | some (.map _ _) => .read (fun a s => vLenMap s ((opd x).get a))
      | some (.chan _ _) => .read (fun a s => vLenChan s ((opd x).get a))
      | _ => .bad
    | _ => .bad
  | .cap, [x] => match ats with
    | t :: _ => match P.desc t with
      | some (.slice _) => .pure (fun a => vCap ((opd x).get a))
      | _ => .bad
    | _ => .bad
  | .min, [x, y] => .pure (fun a => vMin ((opd x).get a) ((opd y).get a))
  | .max, [x, y] => .pure (fun a => vMax ((opd x).get a) ((opd y).get a))
  | .copy, [x, y] => match ats with
    | st :: _ => match P.desc st with
      | some (.slice e) => oOf (P.size e) (fun n => .act (fun a s => vCopy n s ((opd x).get a) ((opd y).get a))) .bad
      | _ => .bad
    | _ => .bad
  | .clear, [x] => match ats with
    | st :: _ => match P.desc st with
      | some (.slice e) => match P.size e, P.zero e with
        | some n, some z => oOf (cellsO z) (fun c => cond (Nat.beq (lenL c) n) (.act (fun a s => vClear n c s ((opd x).get a))) .bad) .bad
        | _, _ => .bad
      | _ => .bad
    | _ => .bad
  | .delete, [m, k] => match ats with
    | mt :: _ => match P.desc mt with
      | some (.map kt _) => .act (fun a s => vDelete (keyT P kt) s ((opd m).get a) ((opd k).get a))
      | _ => .bad
    | _ => .bad
  | .recover, _ => .recover
  | .unsafeSliceData, [x] => .pure (fun a => vSliceData ((opd x).get a))
  | .unsafeString, [p, n] => match ats with
    | pt :: _ => match P.desc pt with
      | some (.pointer u) => oOf (P.size u) (fun k => cond (Nat.beq k 1) (.act (fun a s => vUnsafeString u s ((opd p).get a) ((opd n).get a))) .bad) .bad
      | _ => .bad
    | _ => .bad
  | _, _ => .bad

def callC (P : Tab) (c : Call) : COp := match c.callee with
  | .value (.func g) => .call (fun a => some (.enter g ((opdL c.args.toList).get a)))
  | .value f => .call (fun a => vCall P ((opd f).get a) ((opdL c.args.toList).get a))
  | _ => .bad

def convC (P : Tab) (src dst : TypeId) (x : Operand) : COp := match P.desc src, P.desc dst with
  | some (.int _), some (.int k) => .pure (fun a => vConvInt k ((opd x).get a))
  | some (.int _), some .string => .pure (fun a => vConvRune ((opd x).get a))
  | some .string, some .string => .pure (fun a => vConvStr ((opd x).get a))
  | some .string, some (.slice e) => match P.desc e with
    | some (.int .u8) => oOf (P.size e) (fun n => cond (Nat.beq n 1) (.new (fun a => vOfStr e ((opd x).get a))) .bad) .bad
    | _ => .bad
  | some (.slice e), some .string => match P.desc e with
    | some (.int .u8) => .read (fun a s => vConvBytes s ((opd x).get a))
    | _ => .bad
  | _, _ => .bad

def hasMax (hi mx : Option Operand) : Bool := match mx with
  | none => true
  | some _ => match hi with
    | some _ => true
    | none => false
def sliceC (P : Tab) (t : TypeId) (x : Operand) (lo hi mx : Option Operand) : COp := cond (hasMax hi mx) (match P.desc t with
  | some .string => match mx with
    | none => .pure (fun a => vSliceStr ((opd x).get a) ((opdO lo).get a) ((opdO hi).get a))
    | some _ => .bad
  | some (.slice e) => oOf (P.size e) (fun n => .read (fun a s => vSlice e n s ((opd x).get a) ((opdO lo).get a) ((opdO hi).get a) ((opdO mx).get a))) .bad
  | some (.array k e) => oOf (P.size e) (fun n => .pure (fun a => vSliceArr k n ((opd x).get a) ((opdO lo).get a) ((opdO hi).get a) ((opdO mx).get a))) .bad
  | _ => .bad) .bad

def compileOp (P : Tab) (o : Oper) : COp :=
  match o.op with
  | .move x => .mov (fun a => (opd x).get a)
  | .assign x => .mov (fun a => (opd x).get a)
  | .pick c x y => .pure (fun a => vPick ((opd c).get a) ((opd x).get a) ((opd y).get a))
  | .alloc e => match P.size e, P.zero e with
    | some n, some z => oOf (cellsO z) (fun c => cond (Nat.beq (lenL c) n) (.new (fun _ => some (.cells (.leaf c) n e, fun r => .pointer (some ⟨r, 0, none⟩)))) .bad) .bad
    | _, _ => .bad
  | .box e x => oOf (P.size e) (fun n => .new (fun a => vBox e n ((opd x).get a))) .bad
  | .build t parts => match P.desc t, P.zero t with
    | some (.struct fs), some (.agg z) => oOf (placesS P fs.toList) (fun l => .pure (fun a => vBuild (fillL ⟨nthP l⟩ ((opds parts.toList).get a) z.toList))) .bad
    | some (.array _ e), some (.agg z) => oOf (P.size e) (fun n => .pure (fun a => vBuild (fillL (rowPlace n) ((opds parts.toList).get a) z.toList))) .bad
    | _, _ => .bad
  | .buildSlice t n parts => match P.desc t with
    | some (.slice e) => match P.size e, P.zero e with
      | some k, some z => oOf (cellsO z) (fun c => cond (Nat.beq (lenL c) k && Nat.ble (Nat.mul n k) 16777216) (.new (fun a => vBuildSlice e n k (fillL (rowPlace k) ((opds parts.toList).get a) (zeros c n)))) .bad) .bad
      | _, _ => .bad
    | _ => .bad
  | .load t x => match P.agg t, P.size t with
    | some true, some n => .read (fun a s => vLoadN n s ((opd x).get a))
    | some false, some _ => .read (fun a s => vLoad1 s ((opd x).get a))
    | _, _ => .bad
  | .store t x v => oOf (P.size t) (fun n => .act (fun a s => vStore n s ((opd x).get a) ((opd v).get a))) .bad
  | .nilCheck x => .pure (fun a => vNilCheck ((opd x).get a))
  | .binOp op t x y _ => .pure (fun a => (binA P op t).run ((opd x).get a) ((opd y).get a))
  | .unOp op _ x => .pure (fun a => ofPure (Op.unary op ((opd x).get a)))
  | .convert src dst x => convC P src dst x
  | .makeInterface t x => match P.desc t with
    | some (.interface _) => .bad
    | some _ => .pure (fun a => some (.iface t ((opd x).get a)))
    | none => .bad
  | .makeFunc fn first cap => .pure (fun a => some (.func fn ⟨(opdL first.toList).get a⟩ ⟨(opdL cap.toList).get a⟩))
  | .makeMap t none => match P.desc t with
    | some (.map _ _) => .new (fun _ => some (.map [] 0, fun r => .map (some r)))
    | _ => .bad
  | .makeMap t (some x) => match P.desc t with
    | some (.map _ _) => .new (fun a => vMapHint ((opd x).get a))
    | _ => .bad
  | .makeChan t x => match P.desc t with
    | some (.chan _ e) => match P.types.get e with
      | some i => .new (fun a => vChan i.bytes ((opd x).get a))
      | none => .bad
    | _ => .bad
  | .makeSlice t l c => match P.desc t with
    | some (.slice e) => match P.types.get e, P.zero e with
      | some i, some z => oOf (cellsO z) (fun cz => cond (Nat.beq (lenL cz) i.size) (.new (fun a => vSliceNew e i.size i.bytes cz ((opd l).get a) ((opd c).get a))) .bad) .bad
      | _, _ => .bad
    | _ => .bad
  | .slice t x lo hi mx => sliceC P t x lo hi mx
  | .sliceToArrayPointer arr x => match P.desc arr with
    | some (.array n _) => .pure (fun a => vArrPtr n ((opd x).get a))
    | _ => .bad
  | .fieldAddr t x f => match P.desc t with
    | some (.struct fs) => oOf fs.toList[f]? (fun fd => match P.size fd.type with
      | some n => cond (Nat.beq n 0) .bad (.pure (fun a => vFieldAddr fd.offset ((opd x).get a)))
      | none => .bad) .bad
    | _ => .bad
  | .field t x f => match P.desc t with
    | some (.struct fs) => oOf fs.toList[f]? (fun fd => match P.agg fd.type, P.size fd.type with
      | some g, some n => .pure (fun a => vField g n fd.offset ((opd x).get a))
      | _, _ => .bad) .bad
    | _ => .bad
  | .indexAddr t x i => match P.desc t with
    | some (.array n e) => oOf (P.size e) (fun k => .pure (fun a => vIndexAddrArr n k ((opd x).get a) ((opd i).get a))) .bad
    | some (.slice e) => oOf (P.size e) (fun k => .pure (fun a => vIndexAddr k ((opd x).get a) ((opd i).get a))) .bad
    | _ => .bad
  | .index t x i => match P.desc t with
    | some (.array n e) => match P.agg e, P.size e with
      | some g, some k => .pure (fun a => vIndexArr n g k ((opd x).get a) ((opd i).get a))
      | _, _ => .bad
    | some .string => .pure (fun a => vIndexStr ((opd x).get a) ((opd i).get a))
    | _ => .bad
  | .lookup t x k ok => match P.desc t with
    | some (.map kt et) => oOf (P.zero et) (fun z => .read (fun a s => vLookup (keyT P kt) z ok s ((opd x).get a) ((opd k).get a))) .bad
    | _ => .bad
  | .mapUpdate t m k v => match P.desc t with
    | some (.map kt _) => .act (fun a s => vMapUpdate (keyT P kt) s ((opd m).get a) ((opd k).get a) ((opd v).get a))
    | _ => .bad
  | .insert t m k v => match P.desc t with
    | some (.map kt _) => .act (fun a s => vMapUpdate (keyT P kt) s ((opd m).get a) ((opd k).get a) ((opd v).get a))
    | _ => .bad
  | .mapEntry t m k => match P.desc t with
    | some (.map kt et) => oOf (P.zero et) (fun z => .act (fun a s => vMapEntry (keyT P kt) z s ((opd m).get a) ((opd k).get a))) .bad
    | _ => .bad
  | .entryStore _ m st v => .act (fun a s => vEntryStore s ((opd m).get a) ((opd st).get a) ((opd v).get a))
  | .range t x => match P.desc t with
    | some .string => .act (fun a s => vRangeStr s ((opd x).get a))
    | some (.map _ _) => .act (fun a s => vRangeMap s ((opd x).get a))
    | _ => .bad
  | .next it isS => cond isS (.act (fun a s => vNextStr s ((opd it).get a))) (.many (fun a s => vNextMap s ((opd it).get a)))
  | .entry it => .read (fun a s => vEntry s ((opd it).get a))
  | .typeAssert x _ t ok => match P.desc t with
    | some (.interface _) => .bad
    | some _ => oOf (P.zero t) (fun z => .pure (fun a => vAssert t z ok ((opd x).get a))) .bad
    | none => .bad
  | .extract x i => .pure (fun a => vExtract i ((opd x).get a))
  | .call c => match c.callee with
    | .builtin b => builtinC P b c.argTypes.toList c.args.toList
    | _ => callC P c
  | .defer c => match c.callee with
    | .value f => .defer (fun a => vDefer ((opd f).get a) ((opdL c.args.toList).get a))
    | _ => .bad
  | .panic x => .panic (fun a => vPanic ((opd x).get a))
  | .select cases blocking => match cases.toList, blocking with
    | [c], false => oOf (P.zero c.elem) (fun z => match c.send with
      | some v => .act (fun a s => vSend s ((opd c.chan).get a) ((opd v).get a))
      | none => .act (fun a s => vRecv z s ((opd c.chan).get a))) .bad
    | _, _ => .bad
  | _ => .bad

/-! ### running: no panic is followed; a range over a function may not put calls off, nor recover -/
/-- how a piece of code is left -/
inductive Out where
  | nrm (a : A) (s : S)
  | ext (id : Nat) (a : A) (s : S)
  | ret (a : A) (s : S)

/-- how a call is left -/
abbrev CO := Value × S

abbrev Outs := Option (List Out)
abbrev Couts := Option (List CO)

structure Env where
  call : FuncId → List Value → S → Couts
  yield : Nat → List Value → S → Couts
  fn : FuncId
  round : Option Nat

def addO {α : Type} : Option (List α) → Option (List α) → Option (List α)
  | some x, some y => some (x ++ y)
  | _, _ => none

def bindL {α β : Type} (f : α → Option (List β)) : List α → Option (List β)
  | [] => some []
  | x :: xs => match xs with
    | [] => f x
    | _ => addO (f x) (bindL f xs)

def bindO {α β : Type} (o : Option (List α)) (f : α → Option (List β)) : Option (List β) :=
  match o with
  | some l => bindL f l
  | none => none

abbrev K := A → S → Outs

structure RF where
  run : Env → A → S → K → Outs

def kV (p : Put) (a : A) (s : S) (k : K) (x : Option Value) : Outs := onOpt none (fun v => k (p.put a v) s) x
def kN (p : Put) (a : A) (s : S) (k : K) (x : N2) : Outs := onOpt none (fun (q : AO × (Nat → Value)) => k (p.put a (q.2 s.next)) (s.new q.1)) x
def kA (p : Put) (a : A) (k : K) (x : Option (Value × S)) : Outs := onOpt none (fun q => k (p.put a (Prod.fst q)) (Prod.snd q)) x
def kM (p : Put) (a : A) (k : K) : Option (List (Value × S)) → Outs
  | some l => bindL (fun q => k (p.put a q.1) q.2) l
  | none => none
def kC (p : Put) (E : Env) (a : A) (s : S) (k : K) : Option CallT → Outs
  | some (.enter g args) => bindO (E.call g args s) (fun q => k (p.put a q.1) q.2)
  | some (.yield l args) => bindO (E.yield l args s) (fun q => k (p.put a q.1) q.2)
  | none => none
def kD (p : Put) (E : Env) (a : A) (s : S) (k : K) : Option Deferred → Outs
  | some d => match E.round with
    | none => k (p.put ⟨a.tmps, d :: a.defers⟩ undef) s
    | some _ => none
  | none => none
def kR (p : Put) (E : Env) (a : A) (s : S) (k : K) : Outs := match E.round with
  | none => k (p.put a .nilIface) s
  | some _ => none

/-- an operation that is carried out -/
def doOp (p : Put) : COp → RF
  | .mov f => ⟨fun _ a s k => k (p.put a (f a)) s⟩
  | .pure f => ⟨fun _ a s k => kV p a s k (f a)⟩
  | .read f => ⟨fun _ a s k => kV p a s k (f a s)⟩
  | .new f => ⟨fun _ a s k => kN p a s k (f a)⟩
  | .act f => ⟨fun _ a s k => kA p a k (f a s)⟩
  | .many f => ⟨fun _ a s k => kM p a k (f a s)⟩
  | .call f => ⟨fun E a s k => kC p E a s k (f a)⟩
  | .defer f => ⟨fun E a s k => kD p E a s k (f a)⟩
  | .recover => ⟨fun E a s k => kR p E a s k⟩
  | .panic _ => ⟨fun _ _ _ _ => none⟩
  | .bad => ⟨fun _ _ _ _ => none⟩

def skipOp (p : Put) : RF := ⟨fun _ a s k => k (p.put a undef) s⟩

def isB (want : Bool) (x : Value) : Bool := onOpt false (fun b => cond want b (!b)) (vB x)

def wantOp (slotOf : Option Tmp) (want : Bool) (x y : RF) : RF :=
  match slotOf with
  | none => y
  | some t => ⟨fun E a s k => cond (isB want ((slot t).get a)) (x.run E a s k) (y.run E a s k)⟩

def dstOf (ops : List Oper) (j : Nat) : Option Tmp := match ops[j]? with
  | some oj => oj.dst
  | none => none

def oneOp (P : Tab) (ops : List Oper) (o : Oper) : RF :=
  match o.guard with
  | none => doOp (putD o.dst) (compileOp P o)
  | some (j, want) => wantOp (dstOf ops j) want (doOp (putD o.dst) (compileOp P o)) (skipOp (putD o.dst))

def finish : K := fun a s => some [.nrm a s]

def seqOps (P : Tab) (ops : List Oper) : List Oper → RF
  | [] => ⟨fun _ a s k => k a s⟩
  | o :: rest => ⟨fun E a s k => (oneOp P ops o).run E a s (fun a s => (seqOps P ops rest).run E a s k)⟩

end
end Go.Ac
end
section
namespace Go.Ac
noncomputable section

/-! ### values that are the same -/
def eqAd (a b : Option Addr) : Bool := match a with
  | none => match b with
    | none => true
    | some _ => false
  | some x => match b with
    | none => false
    | some y => match x.spot, y.spot with
      | none, none => Nat.beq x.block y.block && Nat.beq x.off y.off
      | _, _ => false
def eqON (a b : Option Nat) : Bool := match a with
  | none => match b with
    | none => true
    | some _ => false
  | some x => match b with
    | none => false
    | some y => Nat.beq x y
def eqFn (a b : Fn) : Bool := match a with
  | .func f => match b with
    | .func g => Nat.beq f g
    | _ => false
  | .yield f => match b with
    | .yield g => Nat.beq f g
    | _ => false
  | _ => false
mutual
def eqVal : Value → Value → Bool
  | .bool a, y => match y with
    | .bool b => cond a b (!b)
    | _ => false
  | .int k n, y => match y with
    | .int j m => eqK k j && eqI n m
    | _ => false
  | .string a, y => match y with
    | .string b => eqS a b
    | _ => false
  | .pointer a, y => match y with
    | .pointer b => eqAd a b
    | _ => false
  | .slice a n c, y => match y with
    | .slice b m d => eqAd a b && (Nat.beq n m && Nat.beq c d)
    | _ => false
  | .map a, y => match y with
    | .map b => eqON a b
    | _ => false
  | .chan a, y => match y with
    | .chan b => eqON a b
    | _ => false
  | .func f a c, y => match y with
    | .func g b d => eqFn f g && (eqValA a b && eqValA c d)
    | _ => false
  | .nilFunc, y => match y with
    | .nilFunc => true
    | _ => false
  | .iface t v, y => match y with
    | .iface u w => Nat.beq t u && eqVal v w
    | _ => false
  | .nilIface, y => match y with
    | .nilIface => true
    | _ => false
  | .agg a, y => match y with
    | .agg b => eqValA a b
    | _ => false
  | .tuple a, y => match y with
    | .tuple b => eqValA a b
    | _ => false
  | _, _ => false
def eqValA : Array Value → Array Value → Bool
  | ⟨l⟩, b => eqValL l b.toList
def eqValL : List Value → List Value → Bool
  | [], b => match b with
    | [] => true
    | _ :: _ => false
  | v :: l, b => match b with
    | [] => false
    | w :: m => eqVal v w && eqValL l m
end

/-- a piece of code, ready to run -/
structure DF where
  run : Env → A → S → Outs

/-! ### regions that draw their order: all orders at once -/
def effC : COp → Bool
  | .mov _ => false
  | .pure _ => false
  | .read _ => false
  | .new _ => false
  | _ => true
def isAssign : Op → Bool
  | .assign _ => true
  | _ => false
/-- an operation whose place among its like is fixed -/
def isEff (P : Tab) (o : Oper) : Bool := isAssign o.op || effC (compileOp P o)
def isReadC : COp → Bool
  | .read _ => true
  | _ => false

def wantA (ops : List Oper) (o : Oper) (a : A) : Bool := match o.guard with
  | none => true
  | some (j, want) => match dstOf ops j with
    | none => false
    | some t => isB want ((slot t).get a)

/-- what comes of an operation without effect: a value, or a block that has yet to be made -/
inductive NE where
  | val (v : Value)
  | blk (o : AO) (g : Nat → Value)

def neC : COp → A → S → Option NE
  | .mov f, a, _ => some (.val (f a))
  | .pure f, a, _ => match f a with
    | some v => some (.val v)
    | none => none
  | .read f, a, s => match f a s with
    | some v => some (.val v)
    | none => none
  | .new f, a, _ => match f a with
    | some q => some (.blk q.1 q.2)
    | none => none
  | _, _, _ => none
def stepNE (P : Tab) (ops : List Oper) (o : Oper) (a : A) (s : S) : Option NE := cond (wantA ops o a) (neC (compileOp P o) a s) (some (.val undef))

def nthO : Nat → List Oper → Option Oper
  | _, [] => none
  | 0, o :: _ => some o
  | n + 1, _ :: l => nthO n l
def nthM : Nat → List Nat → Nat
  | _, [] => 0
  | 0, m :: _ => m
  | n + 1, _ :: l => nthM n l

abbrev Pend := List (Nat × Nat × AO)
def insertB (m : Nat) : Pend → S → S
  | [], s => s
  | (i, r, x) :: l, s => cond (Nat.testBit m i) (insertB m l (s.put r x)) (insertB m l s)
def restB (m : Nat) : Pend → Pend
  | [] => []
  | (i, r, x) :: l => cond (Nat.testBit m i) (restB m l) ((i, r, x) :: restB m l)
def insertAll : Pend → S → S
  | [], s => s
  | (_, r, x) :: l, s => insertAll l (s.put r x)

def sameSlot (a : A) (dst : Option Tmp) : Option NE → Bool
  | some (.val v) => match dst with
    | none => true
    | some d => eqVal v ((slot d).get a)
  | _ => false
def takeNs : Nat → List Nat → List Nat
  | 0, _ => []
  | n + 1, l => match l with
    | [] => []
    | x :: l => x :: takeNs n l
/-- the block that a load reads -/
def ldBlock (o : Oper) (a : A) : Option Nat := match o.op with
  | .load _ x => onOpt none (fun ad => some (Addr.block ad)) (vP ((opd x).get a))
  | _ => none
/-- a load of a block that few effects have left alone -/
def quietLd (o : Oper) (a : A) (s s' : S) : Bool := cond (Nat.ble (Nat.sub s'.cnt s.cnt) 64) (onOpt false (fun b => !memN b (takeNs (Nat.sub s'.cnt s.cnt) s'.log)) (ldBlock o a)) false
def recheck (P : Tab) (ops : List Oper) (m : Nat) (a : A) (s₀ s : S) : List Nat → Bool
  | [] => true
  | l :: rd => cond (Nat.testBit m l) (recheck P ops m a s₀ s rd) (match nthO l ops with
    | none => false
    | some o => cond (cond (quietLd o a s₀ s) true (sameSlot a o.dst (stepNE P ops o a s))) (recheck P ops m a s₀ s rd) false)

def drawNE (P : Tab) (o : Oper) (i : Nat) (pend : Pend) (rd : List Nat) (a : A) (s : S) (k : Pend → List Nat → A → S → Outs) : Option NE → Outs
  | none => none
  | some (.val v) => k pend (cond (isReadC (compileOp P o)) (i :: rd) rd) ((putD o.dst).put a v) s
  | some (.blk x g) => k ((i, s.next, x) :: pend) rd ((putD o.dst).put a (g s.next)) ⟨s.heap, Nat.succ s.next, s.log, s.cnt⟩

def drawGo (P : Tab) (ops : List Oper) (bm : List Nat) (E : Env) : List Nat → Pend → List Nat → A → S → Outs
  | [], pend, _, a, s => some [.nrm a (insertAll pend s)]
  | i :: κ, pend, rd, a, s => match nthO i ops with
    | none => none
    | some o => cond (isEff P o)
      ((oneOp P ops o).run E a (insertB (nthM i bm) pend s) (fun a s' => cond (cond (Nat.beq s'.cnt s.cnt) true (recheck P ops (nthM i bm) a s s' rd)) (drawGo P ops bm E κ (restB (nthM i bm) pend) rd a s') none))
      (drawNE P o i pend rd a s (fun pend rd a s => drawGo P ops bm E κ pend rd a s) (stepNE P ops o a s))

/-! the plan: untrusted -/
def edgeMask (acc : List Nat) : List Edge → Nat
  | [] => 0
  | e :: es => cond (Region.binds .any e) (Nat.lor (Nat.lor (Nat.shiftLeft 1 e.on) (nthM e.on acc)) (edgeMask acc es)) (edgeMask acc es)
def masks : List Oper → List Nat → List Nat
  | [], acc => acc
  | o :: l, acc => masks l (acc ++ [edgeMask acc o.after.toList])
def effList (P : Tab) : List Oper → Nat → List Nat
  | [], _ => []
  | o :: l, i => cond (isEff P o) (i :: effList P l (Nat.succ i)) (effList P l (Nat.succ i))
def maskOf : List Nat → Nat
  | [] => 0
  | i :: l => Nat.lor (Nat.shiftLeft 1 i) (maskOf l)
def stageOf (bm : List Nat) (em d : Nat) : Nat → List Nat → List Nat
  | _, [] => []
  | i, m :: l => cond (!Nat.testBit em i && Nat.beq (Nat.land m em) d) (i :: stageOf bm em d (Nat.succ i) l) (stageOf bm em d (Nat.succ i) l)
def planGo (bm : List Nat) (em : Nat) : List Nat → Nat → List Nat
  | [], d => stageOf bm em d 0 bm
  | e :: es, d => stageOf bm em d 0 bm ++ (e :: planGo bm em es (Nat.lor d (Nat.shiftLeft 1 e)))

/-! what the plan is asked -/
def sub (a b : Nat) : Bool := Nat.beq (Nat.land a b) a
def isTmpB (t : Nat) : Operand → Bool
  | .tmp u => Nat.beq u t
  | _ => false
def anyTmp (t : Nat) : List Operand → Bool
  | [] => false
  | x :: l => cond (isTmpB t x) true (anyTmp t l)
def guardDep (ops : List Oper) (t : Nat) : Option (Nat × Bool) → Bool
  | none => false
  | some (j, _) => match dstOf ops j with
    | none => false
    | some u => Nat.beq u t
def sameDst (t : Nat) : Option Tmp → Bool
  | none => false
  | some u => Nat.beq u t
/-! ### the operands of an operation -/
def optL : Option Operand → List Operand
  | none => []
  | some x => [x]
def callOps (c : Call) : List Operand := (match c.callee with
  | .value f => [f]
  | _ => []) ++ c.args.toList
def opOps : Op → List Operand
  | .move x => [x]
  | .assign x => [x]
  | .pick c a b => [c, a, b]
  | .alloc _ => []
  | .box _ x => [x]
  | .build _ parts => parts.toList.map (·.2)
  | .buildSlice _ _ parts => parts.toList.map (·.2)
  | .insert _ m k v => [m, k, v]
  | .load _ x => [x]
  | .store _ x v => [x, v]
  | .nilCheck x => [x]
  | .binOp _ _ x y _ => [x, y]
  | .unOp _ _ x => [x]
  | .convert _ _ x => [x]
  | .sliceToArrayPointer _ x => [x]
  | .makeInterface _ x => [x]
  | .makeFunc _ first cap => first.toList ++ cap.toList
  | .makeMap _ r => optL r
  | .makeChan _ x => [x]
  | .makeSlice _ l c => [l, c]
  | .slice _ x lo hi mx => x :: (optL lo ++ optL hi ++ optL mx)
  | .fieldAddr _ x _ => [x]
  | .field _ x _ => [x]
  | .indexAddr _ x i => [x, i]
  | .index _ x i => [x, i]
  | .lookup _ x i _ => [x, i]
  | .mapUpdate _ m k v => [m, k, v]
  | .mapEntry _ m k => [m, k]
  | .entryStore _ m st v => [m, st, v]
  | .range _ x => [x]
  | .next it _ => [it]
  | .entry it => [it]
  | .typeAssert x _ _ _ => [x]
  | .extract x _ => [x]
  | .call c => callOps c
  | .defer c => callOps c
  | .panic x => [x]
  | .select cases _ => cases.toList.flatMap fun c => c.chan :: optL c.send
  | _ => []


def depB (ops : List Oper) (t : Nat) (o : Oper) : Bool := anyTmp t (opOps o.op) || guardDep ops t o.guard
def chkPair (P : Tab) (ops : List Oper) (bm : List Nat) (i : Nat) (o : Oper) (l : Nat) (ol : Oper) : Bool := match ol.dst with
  | none => true
  | some t => cond (depB ops t o) (Nat.testBit (nthM i bm) l || (isEff P ol && Nat.testBit (nthM l bm) i)) true && cond (Nat.beq l i) true (!sameDst t o.dst)
def chkPairs (P : Tab) (ops : List Oper) (bm : List Nat) (i : Nat) (o : Oper) : Nat → List Oper → Bool
  | _, [] => true
  | l, ol :: rest => chkPair P ops bm i o l ol && chkPairs P ops bm i o (Nat.succ l) rest
def chkOp (P : Tab) (ops : List Oper) (bm : List Nat) (em i : Nat) (o : Oper) : Bool :=
  cond (isEff P o) (Nat.testBit em i) (!Nat.testBit em i) && (sub (nthM i bm) (edgeMask bm o.after.toList) && chkPairs P ops bm i o 0 ops)
def chkOps (P : Tab) (ops : List Oper) (bm : List Nat) (em : Nat) : Nat → List Oper → Bool
  | _, [] => true
  | i, o :: rest => chkOp P ops bm em i o && chkOps P ops bm em (Nat.succ i) rest
def edgesIn (p : Nat) : List Edge → Bool
  | [] => true
  | e :: es => cond (Region.binds .any e) (Nat.testBit p e.on) true && edgesIn p es
def chkPos (ops : List Oper) (bm : List Nat) (em : Nat) : Nat → List Nat → Bool
  | p, [] => Nat.beq p (Nat.pred (Nat.pow 2 ops.length))
  | p, i :: κ => match nthO i ops with
    | none => false
    | some o => (!Nat.testBit p i && sub (Nat.land em p) (nthM i bm)) && ((sub (nthM i bm) p && edgesIn p o.after.toList) && chkPos ops bm em (Nat.lor p (Nat.shiftLeft 1 i)) κ)

def drawPlan (P : Tab) (ops : List Oper) (bm : List Nat) (κ : List Nat) : DF := ⟨fun E a s => drawGo P ops bm E κ [] [] a s⟩
def drawWith (P : Tab) (ops : List Oper) (bm : List Nat) (em : Nat) : DF := drawPlan P ops bm (planGo bm em (effList P ops 0) 0)
def drawDen (P : Tab) (ops : Array Oper) : DF := drawWith P ops.toList (masks ops.toList []) (maskOf (effList P ops.toList 0))
/-- may all orders of a region be taken at once? -/
def drawOkP (P : Tab) (ops : List Oper) (bm : List Nat) (em : Nat) (κ : List Nat) : Bool := chkOps P ops bm em 0 ops && chkPos ops bm em 0 κ
def drawOkW (P : Tab) (ops : List Oper) (bm : List Nat) (em : Nat) : Bool := drawOkP P ops bm em (planGo bm em (effList P ops 0) 0)
def drawOkB (P : Tab) (ops : Array Oper) : Bool := drawOkW P ops.toList (masks ops.toList []) (maskOf (effList P ops.toList 0))

end
end Go.Ac
end
section
namespace Go.Ac
noncomputable section

def eqRope : Rope → Rope → Bool
  | .leaf a, y => match y with
    | .leaf b => eqValL a b
    | _ => false
  | .app r a, y => match y with
    | .app q b => eqRope r q && eqValL a b
    | _ => false
def eqEs : List AEntry → List AEntry → Bool
  | [], y => match y with
    | [] => true
    | _ :: _ => false
  | x :: l, y => match y with
    | [] => false
    | z :: m => Nat.beq x.born z.born && (eqVal x.key z.key && (eqVal x.val z.val && eqEs l m))
def eqNs : List Nat → List Nat → Bool
  | [], y => match y with
    | [] => true
    | _ :: _ => false
  | x :: l, y => match y with
    | [] => false
    | z :: m => Nat.beq x z && eqNs l m
def eqAO (x y : AO) : Bool := match x with
  | .cells c n e => match y with
    | .cells d m f => Nat.beq n m && (Nat.beq e f && eqRope c d)
    | _ => false
  | .map es c => match y with
    | .map fs d => Nat.beq c d && eqEs es fs
    | _ => false
  | .sIter a p => match y with
    | .sIter b q => Nat.beq p q && eqS a b
    | _ => false
  | .mIter a b c d => match y with
    | .mIter a' b' c' d' => eqON a a' && (Nat.beq b b' && (Nat.beq d d' && eqNs c c'))
    | _ => false
  | _ => false

/-! ### many outcomes, one -/
def allHave (b : Nat) (o : AO) : List CO → Bool
  | [] => true
  | q :: l => match q.2.get b with
    | some o' => cond (eqAO o o') (allHave b o l) false
    | none => false
def eqSt (a b : LoopState) : Bool := match a with
  | .ready => match b with
    | .ready => true
    | _ => false
  | .busy => match b with
    | .busy => true
    | _ => false
  | .done => match b with
    | .done => true
    | _ => false
  | .exhausted => match b with
    | .exhausted => true
    | _ => false
def eqJump (a b : Option Code) : Bool := match a with
  | none => match b with
    | none => true
    | _ => false
  | some .ret => match b with
    | some .ret => true
    | _ => false
  | some (.exit i) => match b with
    | some (.exit j) => Nat.beq i j
    | _ => false
  | _ => false
def allLoop (b : Nat) (st : LoopState) (pd : Option Code) : List CO → Bool
  | [] => true
  | q :: l => match q.2.get b with
    | some (.loop r) => cond (eqSt st r.state && eqJump pd r.pending) (allLoop b st pd l) false
    | _ => false
def ALoop.set (r : ALoop) (st : LoopState) (p : Option Code) : ALoop := ⟨st, p, r.fn, r.tmps, r.params, r.assign, r.body, r.defers⟩
def keepLoop (s : S) (b : Nat) (r : ALoop) (l : List CO) : Option AO := match s.get b with
  | some (.loop r₀) => cond (Nat.ble (Nat.succ b) s.next && allLoop b r.state r.pending l) (some (.loop (r₀.set r.state r.pending))) none
  | _ => none
/-- s: the memory at the beginning -/
def keepB (s : S) (b : Nat) (x : S) (l : List CO) : Option AO := match x.get b with
  | some o => match o with
    | .loop r => keepLoop s b r l
    | _ => cond (allHave b o l) (some o) none
  | none => none
def mergeB (s x : S) (l : List CO) : List Nat → S → S
  | [], m => m
  | b :: bs, m => mergeB s x l bs (match keepB s b x l with
    | some o => m.put b o
    | none => m.kill b)
def maxNext : List CO → Nat → Nat
  | [], n => n
  | q :: l, n => maxNext l (cond (Nat.ble n q.2.next) q.2.next n)
def deltas (n : Nat) : List CO → List Nat
  | [] => []
  | q :: l => takeNs (Nat.sub q.2.cnt n) q.2.log ++ deltas n l
def sameV (v : Value) : List CO → Bool
  | [] => true
  | q :: l => cond (eqVal v q.1) (sameV v l) false
def merge2 (s : S) (x : CO) (l : List CO) : CO :=
  (x.1, mergeB s x.2 l (deltas s.cnt (x :: l)) ⟨s.heap, maxNext (x :: l) 0, s.log, s.cnt⟩)
/-- s: the memory at the beginning -/
def merge (s : S) (l : List CO) : List CO := match l with
  | [] => []
  | x :: l => match l with
    | [] => [x]
    | y :: m => cond (sameV x.1 (y :: m)) [merge2 s x (y :: m)] (x :: y :: m)
def mergeO (s : S) : Couts → Couts
  | some l => some (merge s l)
  | none => none

/-! ### code -/

def regDen (P : Tab) (ops : Array Oper) (draw : Bool) : DF :=
  cond draw (drawDen P ops) ⟨fun E a s => (seqOps P ops.toList ops.toList).run E a s finish⟩

def kIter (next : A → S → Outs) : Out → Outs
  | .nrm a s => next a s
  | .ext id a s => some [.ext id a s]
  | .ret a s => some [.ret a s]
def iter (body : A → S → Outs) (n : Nat) : A → S → Outs :=
  Nat.rec (motive := fun _ => A → S → Outs) (fun _ _ => none) (fun _ ih a s => bindO (body a s) (kIter ih)) n

def S.loop (s : S) (l : Nat) : Option ALoop :=
  match s.get l with
  | some (.loop r) => some r
  | _ => none

/-- the blocks of a range over a function: the deferred calls' block, the mark, the memory -/
def loopDefers (round : Option Nat) (s : S) : Option (Nat × List Deferred × S) :=
  match round with
  | some l => match s.loop l with
    | some r => some (r.defers, [], s)
    | none => none
  | none => some (s.next, [{ target := .collected s.next, args := #[] }], s.new (.deferred (some [])))

def afterLoop (a : A) (l : Nat) (s : S) : Outs := match s.loop l with
  | some r => match r.state with
    | .busy => none
    | _ => match r.pending with
      | none => some [.nrm a (s.put l (.loop (r.set .exhausted r.pending)))]
      | some .ret => some [.ret a (s.put l (.loop (r.set .exhausted r.pending)))]
      | some (.exit id) => some [.ext id a (s.put l (.loop (r.set .exhausted r.pending)))]
      | some _ => none
  | none => none

def rangeGo (f : Operand) (params : List Tmp) (assign body : Code) (E : Env) (a : A) (q : Nat × List Deferred × S) : Outs :=
  match (opd f).get a with
  | .func (.func g) first cap =>
    bindO (E.call g (appL first.toList (.func (.yield q.2.2.next) #[] #[] :: cap.toList)) (q.2.2.new (.loop ⟨.ready, none, E.fn, a.tmps, params, assign, body, q.1⟩)))
      (fun r => afterLoop ⟨a.tmps, q.2.1 ++ a.defers⟩ q.2.2.next r.2)
  | _ => none

def rangeDen (f : Operand) (params : List Tmp) (assign body : Code) : DF :=
  ⟨fun E a s => match loopDefers E.round s with
    | none => none
    | some q => rangeGo f params assign body E a q⟩

def kSeq (g : DF) (E : Env) : Out → Outs
  | .nrm a s => g.run E a s
  | .ext id a s => some [.ext id a s]
  | .ret a s => some [.ret a s]
def kBlock (id : Nat) : Out → Outs
  | .ext id' a s => cond (Nat.beq id' id) (some [.nrm a s]) (some [.ext id' a s])
  | .nrm a s => some [.nrm a s]
  | .ret a s => some [.ret a s]
def condGo (x y : DF) (E : Env) (a : A) (s : S) (v : Value) : Outs := onOpt none (fun b => cond b (x.run E a s) (y.run E a s)) (vB v)

def den (P : Tab) : Code → DF
  | .skip => ⟨fun _ a s => some [.nrm a s]⟩
  | .label _ => ⟨fun _ a s => some [.nrm a s]⟩
  | .region _ ops draw => regDen P ops draw
  | .seq x y => ⟨fun E a s => bindO ((den P x).run E a s) (kSeq (den P y) E)⟩
  | .cond c x y => ⟨fun E a s => condGo (den P x) (den P y) E a s ((opd c).get a)⟩
  | .block id x => ⟨fun E a s => bindO ((den P x).run E a s) (kBlock id)⟩
  | .loop x => ⟨fun E a s => iter ((den P x).run E) 1000000 a s⟩
  | .rangeFunc f params assign body => rangeDen f params.toList assign body
  | .scope x => den P x
  | .exit id => ⟨fun _ a s => some [.ext id a s]⟩
  | .ret => ⟨fun _ a s => some [.ret a s]⟩
  | .goto _ => ⟨fun _ _ _ => none⟩
  | .refuse _ => ⟨fun _ _ _ => none⟩

structure RL where
  run : A → S → Option (List Value)

def consO (v : Option Value) (l : Option (List Value)) : Option (List Value) := match v with
  | some v => match l with
    | some l => some (v :: l)
    | none => none
  | none => none

def resL (P : Tab) : List ResultVar → RL
  | [] => ⟨fun _ _ => some []⟩
  | .tmp t :: rs => ⟨fun a s => consO (some ((slot t).get a)) ((resL P rs).run a s)⟩
  | .cell ad t :: rs => match P.agg t, P.size t with
    | some true, some n => ⟨fun a s => consO (vLoadN n s ((slot ad).get a)) ((resL P rs).run a s)⟩
    | some false, some _ => ⟨fun a s => consO (vLoad1 s ((slot ad).get a)) ((resL P rs).run a s)⟩
    | _, _ => ⟨fun _ _ => none⟩

def resV : Option (List Value) → Option Value
  | some [v] => some v
  | some l => some (.tuple ⟨l⟩)
  | none => none

def endRes (s : S) : Option Value → Couts
  | some v => some [(v, s)]
  | none => none

/-- behind the body: the deferred calls, then the result -/
def leave (callD : FuncId → List Value → S → Couts) (res : RL) (a : A) : Nat → List Deferred → S → Couts
  | 0, _, _ => none
  | n + 1, ds, s => match ds with
    | [] => endRes s (resV (res.run a s))
    | d :: ds => match d.target with
      | .collected b => match s.get b with
        | some (.deferred (some l)) => leave callD res a n (l ++ ds) (s.put b (.deferred none))
        | _ => none
      | .fn (.func f) cap => bindO (callD f (appL d.args.toList cap.toList) s) fun q => leave callD res a n ds q.2
      | _ => none

structure OF where
  run : List Value → S → Couts

abbrev Over := FuncId → Option OF

def initTmps (vs : List Value) : Nat → Fr → Fr :=
  List.rec (motive := fun _ => Nat → Fr → Fr) (fun _ t => t) (fun v _ ih i t => ih (Nat.succ i) ((fspot i).set v t)) vs

def setParams : List Tmp → List Value → Fr → Option Fr
  | [], [], t => some t
  | p :: ps, v :: vs, t => setParams ps vs ((fspot p).set v t)
  | _, _, _ => none

structure FDen where
  body : DF
  res : RL
  nt : Nat

def fden (P : Tab) (f : FuncId) : Option FDen :=
  match P.funcs.get f with
  | none => none
  | some fn => match fn.body with
    | none => none
    | some c => some ⟨den P c, resL P fn.results.toList, fn.ntmps⟩

/-- what comes behind a body -/
def behind (callD : FuncId → List Value → S → Couts) (res : RL) : Out → Couts
  | .nrm a s => leave callD res a 1000 a.defers s
  | .ret a s => leave callD res a 1000 a.defers s
  | .ext _ _ _ => none

def roundGoes : Option Code → Bool
  | none => true
  | some _ => false
def roundState : Option Code → LoopState
  | none => .ready
  | some _ => .done
def roundEnd (l : Nat) (s : S) (jump : Option Code) : Couts :=
  match s.loop l with
  | none => none
  | some r => some [(.bool (roundGoes jump), s.put l (.loop (r.set (roundState jump) jump)))]

def endRound (l : Nat) : Out → Couts
  | .nrm _ s => roundEnd l s none
  | .ret _ s => roundEnd l s (some .ret)
  | .ext id _ s => roundEnd l s (some (.exit id))

def bodyGo (P : Tab) (l : Nat) (body : Code) (E : Env) : Out → Couts
  | .nrm a s => match s.loop l with
    | some r => match r.state with
      | .ready => bindO ((den P body).run E a (s.put l (.loop (r.set .busy r.pending)))) (endRound l)
      | _ => none
    | none => none
  | _ => none

mutual
/-- an ordinary call -/
def callN (P : Tab) (over : Over) : Nat → FuncId → List Value → S → Couts
  | 0, _, _, _ => none
  | n + 1, f, args, s =>
    match over f with
    | some g => g.run args s
    | none => mergeO s (callB P over n f args s)
def callB (P : Tab) (over : Over) : Nat → FuncId → List Value → S → Couts
  | 0, _, _, _ => none
  | n + 1, f, args, s =>
    match fden P f with
    | none => none
    | some d => cond (Nat.ble (lenL args) d.nt) (bindO (d.body.run ⟨callN P over n, yieldN P over n, f, none⟩ ⟨initTmps args 0 fr0, []⟩ s) (behind (callB P over n) d.res)) none
def yieldN (P : Tab) (over : Over) : Nat → Nat → List Value → S → Couts
  | 0, _, _, _ => none
  | n + 1, l, args, s =>
    match s.loop l with
    | none => none
    | some r => match setParams r.params args r.tmps with
      | none => none
      | some t => bindO ((den P r.assign).run ⟨callN P over n, yieldN P over n, r.fn, some l⟩ ⟨t, []⟩ s)
        (bodyGo P l r.body ⟨callN P over n, yieldN P over n, r.fn, some l⟩)
end

end
end Go.Ac
end
section
namespace Go.Ac

/-! ### lists by their recursor: what they are -/
theorem beqT {m n : Nat} (h : m = n) : Nat.beq m n = true := by subst h; exact Nat.beq_refl m
theorem beqF {m n : Nat} (h : m ≠ n) : Nat.beq m n = false := by
  cases hb : Nat.beq m n with
  | false => rfl
  | true => exact absurd (Nat.eq_of_beq_eq_true hb) h
theorem of_beq {m n : Nat} (h : Nat.beq m n = true) : m = n := Nat.eq_of_beq_eq_true h
theorem of_ble {m n : Nat} (h : Nat.ble m n = true) : m ≤ n := Nat.le_of_ble_eq_true h
theorem lenL_eq (l : List Value) : lenL l = l.length := by
  induction l with
  | nil => rfl
  | cons v l ih => show Nat.succ (lenL l) = _; rw [ih]; rfl

theorem appL_eq (l m : List Value) : appL l m = l ++ m := by
  induction l with
  | nil => rfl
  | cons v l ih => show v :: appL l m = _; rw [ih]; rfl

theorem takeN_zero (l : List Value) : takeN 0 l = some [] := rfl
theorem takeN_succ_nil (n : Nat) : takeN (n + 1) [] = none := rfl
theorem takeN_succ_cons (n : Nat) (v : Value) (l : List Value) : takeN (n + 1) (v :: l) = (takeN n l).map (v :: ·) := by
  show Option.rec (motive := fun _ => Option (List Value)) none (fun r => some (v :: r)) (takeN n l) = _
  cases takeN n l <;> rfl

theorem takeN_some {n : Nat} {l r : List Value} (h : takeN n l = some r) : r = l.take n ∧ n ≤ l.length := by
  induction n generalizing l r with
  | zero => rw [takeN_zero] at h; cases h; simp
  | succ n ih =>
    cases l with
    | nil => rw [takeN_succ_nil] at h; cases h
    | cons v l =>
      rw [takeN_succ_cons] at h
      cases h1 : takeN n l with
      | none => rw [h1] at h; cases h
      | some r1 =>
        rw [h1] at h; cases h
        obtain ⟨rfl, hle⟩ := ih h1
        exact ⟨rfl, by simp; omega⟩

theorem dropN_eq (n : Nat) (l : List Value) : dropN n l = l.drop n := by
  induction n generalizing l with
  | zero => rfl
  | succ n ih =>
    cases l with
    | nil => rfl
    | cons v l => exact ih l

theorem readL_some {c r : List Value} {off n : Nat} (h : readL c off n = some r) : r = (c.drop off).take n ∧ (n = 0 ∨ off + n ≤ c.length) := by
  unfold readL at h
  obtain ⟨h1, h2⟩ := takeN_some h
  rw [dropN_eq] at h1 h2
  refine ⟨h1, ?_⟩
  simp at h2
  omega

theorem nthL_eq (n : Nat) (l : List Value) : nthL n l = l[n]? := by
  induction n generalizing l with
  | zero => cases l <;> rfl
  | succ n ih =>
    cases l with
    | nil => rfl
    | cons v l => exact (ih l).trans (by simp)

theorem overL_nil (c : List Value) : overL [] c = some c := rfl
theorem overL_cons_nil (v : Value) (vs : List Value) : overL (v :: vs) [] = none := rfl
theorem overL_cons_cons (v x : Value) (vs c : List Value) : overL (v :: vs) (x :: c) = (overL vs c).map (v :: ·) := by
  show Option.rec (motive := fun _ => Option (List Value)) none (fun r => some (v :: r)) (overL vs c) = _
  cases overL vs c <;> rfl

theorem overL_some {vs c r : List Value} (h : overL vs c = some r) : r = vs ++ c.drop vs.length ∧ vs.length ≤ c.length := by
  induction vs generalizing c r with
  | nil => rw [overL_nil] at h; cases h; simp
  | cons v vs ih =>
    cases c with
    | nil => rw [overL_cons_nil] at h; cases h
    | cons x c =>
      rw [overL_cons_cons] at h
      cases h1 : overL vs c with
      | none => rw [h1] at h; cases h
      | some r1 =>
        rw [h1] at h; cases h
        obtain ⟨rfl, hle⟩ := ih h1
        exact ⟨by simp, by simp; omega⟩

theorem writeL_zero (vs c : List Value) : writeL 0 vs c = overL vs c := rfl
theorem writeL_succ_nil (n : Nat) (vs : List Value) : writeL (n + 1) vs [] = none := rfl
theorem writeL_succ_cons (n : Nat) (vs : List Value) (x : Value) (c : List Value) : writeL (n + 1) vs (x :: c) = (writeL n vs c).map (x :: ·) := by
  show Option.rec (motive := fun _ => Option (List Value)) none (fun r => some (x :: r)) (writeL n vs c) = _
  cases writeL n vs c <;> rfl

theorem writeL_some {n : Nat} {vs c r : List Value} (h : writeL n vs c = some r) :
    r = c.take n ++ vs ++ c.drop (n + vs.length) ∧ n + vs.length ≤ c.length := by
  induction n generalizing c r with
  | zero =>
    rw [writeL_zero] at h
    obtain ⟨rfl, hle⟩ := overL_some h
    exact ⟨by simp, by omega⟩
  | succ n ih =>
    cases c with
    | nil => rw [writeL_succ_nil] at h; cases h
    | cons x c =>
      rw [writeL_succ_cons] at h
      cases h1 : writeL n vs c with
      | none => rw [h1] at h; cases h
      | some r1 =>
        rw [h1] at h; cases h
        obtain ⟨rfl, hle⟩ := ih h1
        refine ⟨?_, by simp; omega⟩
        rw [show n + 1 + vs.length = (n + vs.length) + 1 by omega]
        simp

theorem flat_eq (r : Rope) (m : List Value) : r.flat m = r.flat [] ++ m := by
  induction r generalizing m with
  | leaf l =>
    cases m with
    | nil => simp
    | cons x m => show appL l (x :: m) = l ++ (x :: m); rw [appL_eq]
  | app r l ih =>
    cases m with
    | nil => simp
    | cons x m =>
      show r.flat (appL l (x :: m)) = r.flat l ++ (x :: m)
      rw [ih (appL l (x :: m)), ih l, appL_eq]; simp

theorem flat_leaf (l : List Value) : (Rope.leaf l).flat [] = l := rfl
theorem flat_app (r : Rope) (l : List Value) : (Rope.app r l).flat [] = r.flat [] ++ l := by
  show r.flat l = _; rw [flat_eq]

/-! ### the trie -/
theorem pathF_zero (n : Nat) : pathF 0 n = [] := rfl
theorem pathF_succ (k n : Nat) : pathF (k + 1) n = cond (Nat.beq n 0) [] (cond (Nat.beq (Nat.mod n 2) 1) (true :: pathF k (Nat.div n 2)) (false :: pathF k (Nat.pred (Nat.div n 2)))) := rfl

def unpath : List Bool → Nat
  | [] => 0
  | true :: p => 2 * unpath p + 1
  | false :: p => 2 * unpath p + 2

theorem unpath_pathF (k n : Nat) (h : n + 1 < 2 ^ (k + 1)) : unpath (pathF k n) = n := by
  induction k generalizing n with
  | zero => obtain rfl : n = 0 := by omega
            rfl
  | succ k ih =>
    rw [pathF_succ]
    by_cases h0 : n = 0
    · subst h0; rfl
    · have hb : Nat.beq n 0 = false := beqF h0
      rw [hb]
      have hp : 2 ^ (k + 1 + 1) = 2 * 2 ^ (k + 1) := by rw [Nat.pow_succ]; omega
      by_cases h1 : n % 2 = 1
      · have : Nat.beq (Nat.mod n 2) 1 = true := beqT h1
        rw [this]
        show 2 * unpath (pathF k (n / 2)) + 1 = n
        rw [ih (n / 2) (by omega)]; omega
      · have : Nat.beq (Nat.mod n 2) 1 = false := beqF h1
        rw [this]
        show 2 * unpath (pathF k (Nat.pred (n / 2))) + 2 = n
        rw [ih (Nat.pred (n / 2)) (by rw [Nat.pred_eq_sub_one]; omega), Nat.pred_eq_sub_one]; omega

theorem unpath_path (n : Nat) : unpath (path n) = n := by
  refine unpath_pathF _ n ?_
  have := Nat.lt_log2_self (n := n + 1)
  exact this

theorem path_inj {m n : Nat} (h : path m = path n) : m = n := by
  rw [← unpath_path m, h, unpath_path]

def T.getP {α : Type} : List Bool → T α → Option α
  | _, .nil => none
  | [], .node v _ _ => v
  | true :: p, .node _ l _ => T.getP p l
  | false :: p, .node _ _ r => T.getP p r

theorem T.get_node {α : Type} (v : Option α) (l r : T α) (n : Nat) :
    (T.node v l r).get n = cond (Nat.beq n 0) v (cond (Nat.beq (Nat.mod n 2) 1) (l.get (Nat.div n 2)) (r.get (Nat.pred (Nat.div n 2)))) := rfl

theorem T.get_unpath {α : Type} (t : T α) (p : List Bool) : t.get (unpath p) = T.getP p t := by
  induction t generalizing p with
  | nil => cases p <;> rfl
  | node v l r ihl ihr =>
    rw [T.get_node]
    cases p with
    | nil => rfl
    | cons b p =>
      cases b with
      | true =>
        have h0 : Nat.beq (unpath (true :: p)) 0 = false := by show Nat.beq (2 * unpath p + 1) 0 = false; rfl
        have h1 : Nat.beq (Nat.mod (unpath (true :: p)) 2) 1 = true := by
          show Nat.beq ((2 * unpath p + 1) % 2) 1 = true
          have : (2 * unpath p + 1) % 2 = 1 := by omega
          rw [this]; rfl
        have h2 : Nat.div (unpath (true :: p)) 2 = unpath p := by show (2 * unpath p + 1) / 2 = _; omega
        rw [h0, h1, h2]; exact ihl p
      | false =>
        have h0 : Nat.beq (unpath (false :: p)) 0 = false := by show Nat.beq (2 * unpath p + 2) 0 = false; rfl
        have h1 : Nat.beq (Nat.mod (unpath (false :: p)) 2) 1 = false := by
          show Nat.beq ((2 * unpath p + 2) % 2) 1 = false
          have : (2 * unpath p + 2) % 2 = 0 := by omega
          rw [this]; rfl
        have h2 : Nat.pred (Nat.div (unpath (false :: p)) 2) = unpath p := by
          show Nat.pred ((2 * unpath p + 2) / 2) = _
          rw [Nat.pred_eq_sub_one]; omega
        rw [h0, h1, h2]; exact ihr p

theorem T.get_path {α : Type} (t : T α) (n : Nat) : t.get n = T.getP (path n) t := by
  rw [← T.get_unpath, unpath_path]

theorem T.setP_nil {α : Type} (x : Option α) (t : T α) : T.setP x [] t = match t with | .nil => .node x .nil .nil | .node _ l r => .node x l r := by
  cases t <;> rfl
theorem T.setP_true {α : Type} (x : Option α) (p : List Bool) (t : T α) : T.setP x (true :: p) t = match t with | .nil => .node none (T.setP x p .nil) .nil | .node v l r => .node v (T.setP x p l) r := by
  cases t <;> rfl
theorem T.setP_false {α : Type} (x : Option α) (p : List Bool) (t : T α) : T.setP x (false :: p) t = match t with | .nil => .node none .nil (T.setP x p .nil) | .node v l r => .node v l (T.setP x p r) := by
  cases t <;> rfl

theorem T.getP_nil {α : Type} (p : List Bool) : T.getP p (.nil : T α) = none := by cases p <;> rfl

theorem T.getP_setP {α : Type} (x : Option α) (p q : List Bool) (t : T α) : T.getP q (T.setP x p t) = if q = p then x else T.getP q t := by
  induction p generalizing q t with
  | nil =>
    rw [T.setP_nil]
    cases t with
    | nil => cases q with
      | nil => rfl
      | cons b q => cases b <;> simp [T.getP, T.getP_nil]
    | node v l r => cases q with
      | nil => rfl
      | cons b q => cases b <;> simp [T.getP]
  | cons b p ih =>
    cases b with
    | true =>
      rw [T.setP_true]
      cases t with
      | nil => cases q with
        | nil => rfl
        | cons b q => cases b <;> simp [T.getP, T.getP_nil, ih]
      | node v l r => cases q with
        | nil => rfl
        | cons b q => cases b <;> simp [T.getP, ih]
    | false =>
      rw [T.setP_false]
      cases t with
      | nil => cases q with
        | nil => rfl
        | cons b q => cases b <;> simp [T.getP, T.getP_nil, ih]
      | node v l r => cases q with
        | nil => rfl
        | cons b q => cases b <;> simp [T.getP, ih]

theorem T.get_setP {α : Type} (x : Option α) (m n : Nat) (t : T α) : (T.setP x (path n) t).get m = if m = n then x else t.get m := by
  rw [T.get_path, T.getP_setP, T.get_path]
  by_cases h : m = n
  · subst h; simp
  · rw [if_neg h, if_neg (fun e => h (path_inj e))]

theorem T.get_nil {α : Type} (n : Nat) : (T.nil : T α).get n = none := rfl

/-! ### the memory -/
theorem S.get_put (s : S) (b c : Nat) (o : AO) : (s.put b o).get c = if c = b then some o else s.get c := T.get_setP _ _ _ _
theorem S.get_kill (s : S) (b c : Nat) : (s.kill b).get c = if c = b then none else s.get c := T.get_setP _ _ _ _
theorem S.get_new (s : S) (c : Nat) (o : AO) : (s.new o).get c = if c = s.next then some o else s.get c := T.get_setP _ _ _ _
@[simp] theorem S.next_put (s : S) (b : Nat) (o : AO) : (s.put b o).next = s.next := rfl
@[simp] theorem S.next_kill (s : S) (b : Nat) : (s.kill b).next = s.next := rfl
@[simp] theorem S.next_new (s : S) (o : AO) : (s.new o).next = s.next + 1 := rfl
@[simp] theorem S.log_put (s : S) (b : Nat) (o : AO) : (s.put b o).log = b :: s.log := rfl
@[simp] theorem S.log_kill (s : S) (b : Nat) : (s.kill b).log = b :: s.log := rfl
@[simp] theorem S.cnt_put (s : S) (b : Nat) (o : AO) : (s.put b o).cnt = s.cnt + 1 := rfl
@[simp] theorem S.cnt_kill (s : S) (b : Nat) : (s.kill b).cnt = s.cnt + 1 := rfl
@[simp] theorem S.cnt_new (s : S) (o : AO) : (s.new o).cnt = s.cnt + 1 := rfl
@[simp] theorem S.log_new (s : S) (o : AO) : (s.new o).log = s.next :: s.log := rfl

end Go.Ac
end
section
namespace Go.Ac

/-- where an abstract block lies: the block, the place in it, how many cells the block has; esz: how many cells an element has, of a row whose capacity isn't known -/
structure RB where
  blk : Nat
  base : Nat
  size : Nat
  esz : Nat

abbrev Rn := Nat → Option RB

def Rn.le (ρ ρ' : Rn) : Prop := ∀ b rb, ρ b = some rb → ρ' b = some rb
theorem Rn.le_refl (ρ : Rn) : Rn.le ρ ρ := fun _ _ h => h
theorem Rn.le_trans {a b c : Rn} (h : Rn.le a b) (k : Rn.le b c) : Rn.le a c := fun x rb e => k x rb (h x rb e)

/-- an even capacity is known, an odd one is a bound from below -/
def CapOk (c c' : Nat) : Prop := (c % 2 = 0 ∧ c' = c / 2) ∨ (c % 2 = 1 ∧ c / 2 ≤ c')

def SliceOk (rb : RB) (off n c : Nat) (a' : Addr) (c' : Nat) : Prop :=
  CapOk c c' ∧ n ≤ c / 2 ∧ (c' = 0 ∨ a' = ⟨rb.blk, rb.base + off, none⟩) ∧ (c % 2 = 1 → rb.base + off + c' * rb.esz ≤ rb.size)

def FnRel (ρ : Rn) : Fn → Fn → Prop
  | .yield l, g => ∃ rb, ρ l = some rb ∧ g = .yield rb.blk
  | f, g => g = f

mutual
/-- an abstract value and one of the machine's -/
def VRel (ρ : Rn) : Value → Value → Prop
  | .bool b, v => v = .bool b
  | .int k n, v => v = .int k n
  | .float k n, v => v = .float k n
  | .complex k m n, v => v = .complex k m n
  | .string s, v => v = .string s
  | .pointer none, v => v = .pointer none
  | .pointer (some a), v => ∃ rb, ρ a.block = some rb ∧ v = .pointer (some ⟨rb.blk, rb.base + a.off, none⟩)
  | .slice none n c, v => n = 0 ∧ c = 0 ∧ v = .slice none 0 0
  | .slice (some a) n c, v => ∃ rb a' c', ρ a.block = some rb ∧ SliceOk rb a.off n c a' c' ∧ v = .slice (some a') n c'
  | .map none, v => v = .map none
  | .map (some r), v => ∃ rb, ρ r = some rb ∧ v = .map (some rb.blk)
  | .chan none, v => v = .chan none
  | .chan (some r), v => ∃ rb, ρ r = some rb ∧ v = .chan (some rb.blk)
  | .func f a b, v => ∃ f' a' b', v = .func f' a' b' ∧ FnRel ρ f f' ∧ ARel ρ a a' ∧ ARel ρ b b'
  | .nilFunc, v => v = .nilFunc
  | .iface t x, v => ∃ y, v = .iface t y ∧ VRel ρ x y
  | .nilIface, v => v = .nilIface
  | .agg cs, v => ∃ ds, v = .agg ds ∧ ARel ρ cs ds ∧ ∀ x ∈ cs.toList, x.oneCell = true
  | .tuple cs, v => ∃ ds, v = .tuple ds ∧ ARel ρ cs ds
def ARel (ρ : Rn) : Array Value → Array Value → Prop
  | ⟨l⟩, d => LRel ρ l d.toList
def LRel (ρ : Rn) : List Value → List Value → Prop
  | [], m => m = []
  | v :: l, m => ∃ w r, m = w :: r ∧ VRel ρ v w ∧ LRel ρ l r
end

theorem ARel_iff {ρ : Rn} {a b : Array Value} : ARel ρ a b ↔ LRel ρ a.toList b.toList := by
  obtain ⟨l⟩ := a
  simp only [ARel]

section mono
variable {ρ ρ' : Rn} (h : Rn.le ρ ρ')
theorem FnRel.mono (h : Rn.le ρ ρ') {f g : Fn} (k : FnRel ρ f g) : FnRel ρ' f g := by
  cases f with
  | yield l => obtain ⟨rb, e, rfl⟩ := k; exact ⟨rb, h _ _ e, rfl⟩
  | _ => exact k
mutual
theorem VRel.mono (h : Rn.le ρ ρ') : ∀ (v w : Value), VRel ρ v w → VRel ρ' v w
  | .bool b, w, k => by simpa [VRel] using k
  | .int _ _, w, k => by simpa [VRel] using k
  | .float _ _, w, k => by simpa [VRel] using k
  | .complex _ _ _, w, k => by simpa [VRel] using k
  | .string _, w, k => by simpa [VRel] using k
  | .pointer none, w, k => by simpa [VRel] using k
  | .pointer (some a), w, k => by
    simp only [VRel] at k ⊢
    obtain ⟨rb, e, hw⟩ := k
    exact ⟨rb, h _ _ e, hw⟩
  | .slice none _ _, w, k => by simpa [VRel] using k
  | .slice (some a) n c, w, k => by
    simp only [VRel] at k ⊢
    obtain ⟨rb, a', c', e, hs, hw⟩ := k
    exact ⟨rb, a', c', h _ _ e, hs, hw⟩
  | .map none, w, k => by simpa [VRel] using k
  | .map (some r), w, k => by
    simp only [VRel] at k ⊢
    obtain ⟨rb, e, hw⟩ := k
    exact ⟨rb, h _ _ e, hw⟩
  | .chan none, w, k => by simpa [VRel] using k
  | .chan (some r), w, k => by
    simp only [VRel] at k ⊢
    obtain ⟨rb, e, hw⟩ := k
    exact ⟨rb, h _ _ e, hw⟩
  | .func f a b, w, k => by
    simp only [VRel] at k ⊢
    obtain ⟨f', a', b', hw, hf, ha, hb⟩ := k
    exact ⟨f', a', b', hw, hf.mono h, ARel.mono h a a' ha, ARel.mono h b b' hb⟩
  | .nilFunc, w, k => by simpa [VRel] using k
  | .iface t x, w, k => by
    simp only [VRel] at k ⊢
    obtain ⟨y, hw, hy⟩ := k
    exact ⟨y, hw, VRel.mono h x y hy⟩
  | .nilIface, w, k => by simpa [VRel] using k
  | .agg cs, w, k => by
    simp only [VRel] at k ⊢
    obtain ⟨ds, hw, hd, ho⟩ := k
    exact ⟨ds, hw, ARel.mono h cs ds hd, ho⟩
  | .tuple cs, w, k => by
    simp only [VRel] at k ⊢
    obtain ⟨ds, hw, hd⟩ := k
    exact ⟨ds, hw, ARel.mono h cs ds hd⟩
theorem ARel.mono (h : Rn.le ρ ρ') : ∀ (a b : Array Value), ARel ρ a b → ARel ρ' a b
  | ⟨l⟩, b, k => by simp only [ARel] at k ⊢; exact LRel.mono h l _ k
theorem LRel.mono (h : Rn.le ρ ρ') : ∀ (l m : List Value), LRel ρ l m → LRel ρ' l m
  | [], m, k => by simpa [LRel] using k
  | v :: l, m, k => by
    simp only [LRel] at k ⊢
    obtain ⟨w, r, hm, hv, hl⟩ := k
    exact ⟨w, r, hm, VRel.mono h v w hv, LRel.mono h l r hl⟩
end
end mono

section lists
variable {ρ : Rn}
theorem LRel.length : ∀ {l m : List Value}, LRel ρ l m → l.length = m.length
  | [], m, h => by simp only [LRel] at h; subst h; rfl
  | v :: l, m, h => by
    simp only [LRel] at h
    obtain ⟨w, r, rfl, _, hl⟩ := h
    simp [hl.length]
theorem LRel.get : ∀ {l m : List Value} (i : Nat) {v : Value}, LRel ρ l m → l[i]? = some v → ∃ w, m[i]? = some w ∧ VRel ρ v w
  | [], m, i, v, h, e => by simp at e
  | x :: l, m, 0, v, h, e => by
    simp only [LRel] at h
    obtain ⟨w, r, rfl, hv, hl⟩ := h
    simp at e; subst e
    exact ⟨w, rfl, hv⟩
  | x :: l, m, i + 1, v, h, e => by
    simp only [LRel] at h
    obtain ⟨w, r, rfl, hv, hl⟩ := h
    obtain ⟨w', h1, h2⟩ := hl.get i (by simpa using e)
    exact ⟨w', by simpa using h1, h2⟩
theorem LRel.of_get : ∀ {l m : List Value}, l.length = m.length → (∀ (i : Nat) (v : Value), l[i]? = some v → ∃ w, m[i]? = some w ∧ VRel ρ v w) → LRel ρ l m
  | [], m, hl, h => by simp only [LRel]; exact List.length_eq_zero_iff.1 hl.symm
  | x :: l, [], hl, h => by simp at hl
  | x :: l, y :: m, hl, h => by
    simp only [LRel]
    obtain ⟨w, h1, h2⟩ := h 0 x rfl
    simp at h1; subst h1
    exact ⟨_, _, rfl, h2, LRel.of_get (by simpa using hl) fun i v e => by simpa using h (i + 1) v (by simpa using e)⟩
theorem LRel.append {l m l' m' : List Value} (h : LRel ρ l m) (h' : LRel ρ l' m') : LRel ρ (l ++ l') (m ++ m') := by
  induction l generalizing m with
  | nil => simp only [LRel] at h; subst h; simpa using h'
  | cons x l ih =>
    simp only [LRel] at h
    obtain ⟨w, r, rfl, hv, hl⟩ := h
    simp only [List.cons_append, LRel]
    exact ⟨w, _, rfl, hv, ih hl⟩
theorem LRel.take {l m : List Value} (n : Nat) (h : LRel ρ l m) : LRel ρ (l.take n) (m.take n) := by
  induction n generalizing l m with
  | zero => simp [LRel]
  | succ n ih => cases l with
    | nil => simp only [LRel] at h; subst h; simp [LRel]
    | cons x l =>
      simp only [LRel] at h
      obtain ⟨w, r, rfl, hv, hl⟩ := h
      simp only [List.take_succ_cons, LRel]
      exact ⟨w, _, rfl, hv, ih hl⟩
theorem LRel.drop {l m : List Value} (n : Nat) (h : LRel ρ l m) : LRel ρ (l.drop n) (m.drop n) := by
  induction n generalizing l m with
  | zero => simpa using h
  | succ n ih => cases l with
    | nil => simp only [LRel] at h; subst h; simp [LRel]
    | cons x l =>
      simp only [LRel] at h
      obtain ⟨w, r, rfl, hv, hl⟩ := h
      simpa using ih hl
end lists

/-! ### objects -/
def ERel (ρ : Rn) : List AEntry → List MapEntry → Prop
  | [], m => m = []
  | e :: l, m => ∃ e' r, m = e' :: r ∧ e'.born = e.born ∧ VRel ρ e.key e'.key ∧ VRel ρ e.val e'.val ∧ ERel ρ l r

def DRel (ρ : Rn) (d d' : Deferred) : Prop :=
  (∃ b rb, d = { target := .collected b, args := #[] } ∧ ρ b = some rb ∧ d' = { target := .collected rb.blk, args := #[] }) ∨
  (∃ f cap cap' args args', d = { target := .fn (.func f) cap, args } ∧ d' = { target := .fn (.func f) cap', args := args' } ∧ ARel ρ cap cap' ∧ ARel ρ args args')

def DsRel (ρ : Rn) : List Deferred → List Deferred → Prop
  | [], m => m = []
  | d :: l, m => ∃ d' r, m = d' :: r ∧ DRel ρ d d' ∧ DsRel ρ l r

/-- the slots of a frame -/
noncomputable def Fr.at_ (f : Fr) (t : Nat) : Value := (fspot t).get f

def TRel (ρ : Rn) (f : Fr) (ts : Array Value) : Prop := ts.size ≤ 512 ∧ ∀ t, t < ts.size → VRel ρ (f.at_ t) (ts.getD t undef)

/-- N: the machine's blocks below it are no one's; G: so many package-level variables there are; ts: how many cells a type has; lok: what is known of a loop whose frame has so many slots -/
structure Cx where
  N : Nat
  G : Nat
  ts : TypeId → Option Nat
  lok : Nat → ALoop → Prop

def ORel (ρ : Rn) (C : Cx) (rb : RB) : AO → Obj → Prop
  | .cells c size e, o => ∃ cs e' fr, o = .cells cs e' fr ∧ (c.flat []).length = size ∧ cs.size = rb.size ∧ C.ts e = some rb.esz ∧
      (∀ i v, (c.flat [])[i]? = some v → v.oneCell = true ∧ ∃ w, cs[rb.base + i]? = some w ∧ VRel ρ v w) ∧
      (∀ i, i < rb.size → ¬ (fr.1 ≤ i ∧ i < fr.2)) ∧ e' = e
  | .map es clock, o => ∃ es', o = .map es' clock ∧ ERel ρ es es'.toList
  | .chan cap buf sent rcvd, o => ∃ buf', o = .chan cap buf' false sent rcvd false ∧ LRel ρ buf buf'.toList
  | .sIter s pos, o => rb.base = 0 ∧ o = .stringIter s pos
  | .mIter none since seen stepped, o => rb.base = 0 ∧ o = .mapIter none since seen.toArray stepped
  | .mIter (some m) since seen stepped, o => rb.base = 0 ∧ ∃ rm, ρ m = some rm ∧ o = .mapIter (some rm.blk) since seen.toArray stepped
  | .loop l, o => ∃ l' rd, o = .loop l' ∧ l'.state = l.state ∧ l'.pending = l.pending ∧ l'.fn = l.fn ∧ TRel ρ l.tmps l'.tmps ∧ l'.params.toList = l.params ∧
      l'.assign = l.assign ∧ l'.body = l.body ∧ ρ l.defers = some rd ∧ l'.defers = rd.blk ∧ C.lok l'.tmps.size l
  | .deferred none, o => o = .deferred none
  | .deferred (some ds), o => ∃ ds', o = .deferred (some ds') ∧ DsRel ρ ds ds'

section omono
variable {ρ ρ' : Rn}
theorem ERel.mono (h : Rn.le ρ ρ') : ∀ {l : List AEntry} {m : List MapEntry}, ERel ρ l m → ERel ρ' l m
  | [], m, k => by simpa [ERel] using k
  | e :: l, m, k => by
    simp only [ERel] at k ⊢
    obtain ⟨e', r, hm, hb, hk, hv, hl⟩ := k
    exact ⟨e', r, hm, hb, hk.mono h, hv.mono h, ERel.mono h hl⟩
theorem DRel.mono (h : Rn.le ρ ρ') {d d' : Deferred} (k : DRel ρ d d') : DRel ρ' d d' := by
  rcases k with ⟨b, rb, h1, h2, h3⟩ | ⟨f, cap, cap', args, args', h1, h2, h3, h4⟩
  · exact .inl ⟨b, rb, h1, h _ _ h2, h3⟩
  · exact .inr ⟨f, cap, cap', args, args', h1, h2, h3.mono h, h4.mono h⟩
theorem DsRel.mono (h : Rn.le ρ ρ') : ∀ {l m : List Deferred}, DsRel ρ l m → DsRel ρ' l m
  | [], m, k => by simpa [DsRel] using k
  | d :: l, m, k => by
    simp only [DsRel] at k ⊢
    obtain ⟨d', r, hm, hd, hl⟩ := k
    exact ⟨d', r, hm, hd.mono h, DsRel.mono h hl⟩
theorem TRel.mono (h : Rn.le ρ ρ') {f : Fr} {ts : Array Value} (k : TRel ρ f ts) : TRel ρ' f ts := ⟨k.1, fun t ht => (k.2 t ht).mono h⟩
theorem ORel.mono {C : Cx} {rb : RB} (h : Rn.le ρ ρ') {o : AO} {o' : Obj} (k : ORel ρ C rb o o') : ORel ρ' C rb o o' := by
  cases o with
  | cells c size e =>
    obtain ⟨cs, e', fr, h1, h2, h3, h4, h5, h6, h7⟩ := k
    refine ⟨cs, e', fr, h1, h2, h3, h4, fun i v hi => ?_, h6, h7⟩
    obtain ⟨ho, w, hw, hv⟩ := h5 i v hi
    exact ⟨ho, w, hw, hv.mono h⟩
  | map es clock => obtain ⟨es', h1, h2⟩ := k; exact ⟨es', h1, h2.mono h⟩
  | chan cap buf sent rcvd => obtain ⟨b', h1, h2⟩ := k; exact ⟨b', h1, h2.mono h⟩
  | sIter s pos => exact k
  | mIter m since seen stepped =>
    cases m with
    | none => exact k
    | some m => obtain ⟨h0, rm, h1, h2⟩ := k; exact ⟨h0, rm, h _ _ h1, h2⟩
  | loop l =>
    obtain ⟨l', rd, h1, h2, h3, h4, h5, h6, h7, h8, h9, h10⟩ := k
    exact ⟨l', rd, h1, h2, h3, h4, h5.mono h, h6, h7, h8, h _ _ h9, h10⟩
  | deferred c =>
    cases c with
    | none => exact k
    | some ds => obtain ⟨ds', h1, h2⟩ := k; exact ⟨ds', h1, h2.mono h⟩
end omono

/-! ### memories -/

structure HRel (C : Cx) (ρ : Rn) (s : S) (w : World) : Prop where
  low : C.N ≤ w.heap.size
  glob : ∀ g, g < C.G → ρ g = some ⟨g, 0, 0, 0⟩
  live : ∀ b o, s.get b = some o → ∃ rb, ρ b = some rb ∧ C.N ≤ rb.blk ∧ ∃ o', w.heap[rb.blk]? = some o' ∧ ORel ρ C rb o o'
  inj : ∀ b₁ b₂ o₁ o₂ r₁ r₂, s.get b₁ = some o₁ → s.get b₂ = some o₂ → ρ b₁ = some r₁ → ρ b₂ = some r₂ → r₁.blk = r₂.blk → b₁ = b₂
  fresh : ∀ b rb, ρ b = some rb → b < s.next ∧ rb.blk < w.heap.size

/-- is a block of the machine's the image of one that is there? -/
def Img (ρ : Rn) (s : S) (i : Nat) : Prop := ∃ b o rb, s.get b = some o ∧ ρ b = some rb ∧ rb.blk = i

/-- what has become of a memory and a world -/
structure Goes (ρ : Rn) (s : S) (w : World) (ρ' : Rn) (s' : S) (w' : World) : Prop where
  ext : Rn.le ρ ρ'
  img : ∀ i, Img ρ' s' i → Img ρ s i ∨ w.heap.size ≤ i
  keep : ∀ i, i < w.heap.size → ¬ Img ρ s i → w'.heap[i]? = w.heap[i]?
  size : w.heap.size ≤ w'.heap.size
  tape : w'.tape = w.tape
  os : w'.os = w.os
  out : w'.output = w.output
  old : ∀ b, b < s.next → ρ' b = ρ b
  nxt : s.next ≤ s'.next

theorem Goes.refl (ρ : Rn) (s : S) (w : World) : Goes ρ s w ρ s w :=
  ⟨Rn.le_refl ρ, fun _ h => .inl h, fun _ _ _ => rfl, Nat.le_refl _, rfl, rfl, rfl, fun _ _ => rfl, Nat.le_refl _⟩

theorem Goes.trans {ρ ρ₁ ρ₂ : Rn} {s s₁ s₂ : S} {w w₁ w₂ : World} (h : Goes ρ s w ρ₁ s₁ w₁) (k : Goes ρ₁ s₁ w₁ ρ₂ s₂ w₂) : Goes ρ s w ρ₂ s₂ w₂ where
  ext := Rn.le_trans h.ext k.ext
  img i hi := by
    rcases k.img i hi with h1 | h1
    · exact h.img i h1
    · exact .inr (Nat.le_trans h.size h1)
  keep i hi hn := by
    refine (k.keep i (Nat.lt_of_lt_of_le hi h.size) fun h1 => ?_).trans (h.keep i hi hn)
    rcases h.img i h1 with h2 | h2
    · exact hn h2
    · omega
  size := Nat.le_trans h.size k.size
  tape := k.tape.trans h.tape
  os := k.os.trans h.os
  out := k.out.trans h.out
  old b hb := (k.old b (Nat.lt_of_lt_of_le hb h.nxt)).trans (h.old b hb)
  nxt := Nat.le_trans h.nxt k.nxt

/-- what is there in the one is there in the other -/
def Sub (s' s : S) : Prop := (∀ b o, s'.get b = some o → s.get b = some o) ∧ s.next ≤ s'.next

theorem HRel.sub {C : Cx} {ρ : Rn} {s s' : S} {w : World} (h : HRel C ρ s w) (k : Sub s' s) : HRel C ρ s' w where
  low := h.low
  glob := h.glob
  live b o e := h.live b o (k.1 b o e)
  inj b₁ b₂ o₁ o₂ r₁ r₂ e₁ e₂ := h.inj b₁ b₂ o₁ o₂ r₁ r₂ (k.1 _ _ e₁) (k.1 _ _ e₂)
  fresh b rb e := ⟨Nat.lt_of_lt_of_le (h.fresh b rb e).1 k.2, (h.fresh b rb e).2⟩

theorem Goes.sub {ρ : Rn} {s s' : S} {w : World} (k : Sub s' s) : Goes ρ s w ρ s' w :=
  ⟨Rn.le_refl ρ, fun i ⟨b, o, rb, e, hb, hi⟩ => .inl ⟨b, o, rb, k.1 _ _ e, hb, hi⟩, fun _ _ _ => rfl, Nat.le_refl _, rfl, rfl, rfl, fun _ _ => rfl, k.2⟩

/-- a memory whose log is another -/
theorem HRel.log {C : Cx} {ρ : Rn} {s s' : S} {w : World} (h : HRel C ρ s w) (e : s'.heap = s.heap) (e' : s'.next = s.next) : HRel C ρ s' w :=
  h.sub ⟨fun b o k => by unfold S.get at *; rw [e] at k; exact k, by omega⟩
theorem Goes.log {ρ : Rn} {s s' : S} {w : World} (e : s'.heap = s.heap) (e' : s'.next = s.next) : Goes ρ s w ρ s' w :=
  Goes.sub ⟨fun b o k => by unfold S.get at *; rw [e] at k; exact k, by omega⟩

end Go.Ac
end
section
namespace Go.Ac

/-! ### the machine's own memory -/
def World.setObj (w : World) (g : Nat) (o : Obj) : World := { w with heap := w.heap.setIfInBounds g o }

def putL (cs : Array Value) (o : Nat) : List Value → Array Value
  | [] => cs
  | v :: vs => putL (cs.setIfInBounds o v) (o + 1) vs

theorem putL_size (cs : Array Value) (o : Nat) (vs : List Value) : (putL cs o vs).size = cs.size := by
  induction vs generalizing cs o with
  | nil => rfl
  | cons v vs ih => simp [putL, ih]

theorem putL_get (vs : List Value) : ∀ (cs : Array Value) (o j : Nat), o + vs.length ≤ cs.size →
    (putL cs o vs)[j]? = if o ≤ j ∧ j < o + vs.length then vs[j - o]? else cs[j]? := by
  induction vs with
  | nil => intro cs o j h; simp [putL]; omega
  | cons v vs ih =>
    intro cs o j h
    simp only [List.length_cons] at h
    simp only [putL]
    rw [ih _ _ _ (by simp; omega)]
    by_cases h1 : o + 1 ≤ j ∧ j < o + 1 + vs.length
    · rw [if_pos h1, if_pos ⟨by omega, by simp; omega⟩]
      obtain ⟨k, rfl⟩ : ∃ k, j = o + 1 + k := ⟨j - (o + 1), by omega⟩
      rw [show o + 1 + k - (o + 1) = k by omega, show o + 1 + k - o = k + 1 by omega]
      simp
    · rw [if_neg h1]
      by_cases h2 : j = o
      · subst h2
        rw [if_pos ⟨Nat.le_refl _, by simp⟩]
        have : j < cs.size := by omega
        simp [this]
      · rw [if_neg (by simp; omega)]
        rw [Array.getElem?_setIfInBounds_ne (Ne.symm h2)]

theorem World.setCell_cells {w : World} {g o : Nat} {cs : Array Value} {e : TypeId} {fr : Nat × Nat} (h : w.heap[g]? = some (.cells cs e fr)) (v : Value) :
    w.setCell ⟨g, o, none⟩ v = World.setObj w g (.cells (cs.setIfInBounds o v) e fr) := by
  unfold World.setCell World.setObj
  congr 1
  obtain ⟨hlt, hk⟩ := Array.getElem?_eq_some_iff.1 h
  apply Array.ext_getElem?
  intro j
  rw [Array.getElem?_modify]
  by_cases hj : g = j
  · subst hj
    rw [if_pos rfl, h]
    simp [hlt]
  · rw [if_neg hj, Array.getElem?_setIfInBounds_ne hj]

theorem World.setObj_get {w : World} {g i : Nat} (o : Obj) (h : g < w.heap.size) : (World.setObj w g o).heap[i]? = if i = g then some o else w.heap[i]? := by
  unfold World.setObj
  by_cases hi : i = g
  · subst hi; simp [h]
  · rw [if_neg hi]; simp [Array.getElem?_setIfInBounds_ne (Ne.symm hi)]

@[simp] theorem World.setObj_size (w : World) (g : Nat) (o : Obj) : (World.setObj w g o).heap.size = w.heap.size := by simp [World.setObj]

theorem oneCell_store {v : Value} (h : v.oneCell = true) (P : Program) (m : Mode) (a : Addr) (k : Sem Unit) (w : World) :
    (Sem.store m a v k).run P w = match w.cell? a with
      | some _ => if w.frozen? a then .halt (.unsupported (.unsafePointer "a write to bytes that a string shares")) w else k.run P (w.setCell a v)
      | none => match w.farStore P a v (m == .atomic) with
        | .ok (w, _) => k.run P w
        | .error h => .halt h w := by
  cases v <;> first | rfl | (simp [Value.oneCell] at h)

theorem run_storeCells {P : Program} {g o : Nat} {e : TypeId} {fr : Nat × Nat} : ∀ (vs : List Value) (i : Nat) (cs : Array Value) (w : World),
    w.heap[g]? = some (.cells cs e fr) → o + i + vs.length ≤ cs.size → (∀ j, j < vs.length → ¬ (fr.1 ≤ o + i + j ∧ o + i + j < fr.2)) →
    (∀ v ∈ vs, v.oneCell = true) →
    (storeCells ⟨g, o, none⟩ vs i).run P w = .ok () (World.setObj w g (.cells (putL cs (o + i) vs) e fr)) := by
  intro vs
  induction vs with
  | nil =>
    intro i cs w h hle hf ho
    obtain ⟨hlt, hk⟩ := Array.getElem?_eq_some_iff.1 h
    simp only [storeCells, putL]
    show Result.ok () w = _
    congr 1
    unfold World.setObj
    have : w.heap.setIfInBounds g (.cells cs e fr) = w.heap := by
      apply Array.ext_getElem?
      intro j
      by_cases hj : g = j
      · subst hj; simp [hlt, hk]
      · simp [hj]
    rw [this]
  | cons v vs ih =>
    intro i cs w h hle hf ho
    simp only [List.length_cons] at hle
    have hadd : (⟨g, o, none⟩ : Addr).add i = ⟨g, o + i, none⟩ := by
      unfold Addr.add; split <;> simp_all
    have hc : w.cell? ⟨g, o + i, none⟩ = some (cs[o + i]'(by omega)) := by
      simp [World.cell?, h]
    have hfz : w.frozen? ⟨g, o + i, none⟩ = false := by
      have := hf 0 (by simp)
      simp only [Nat.add_zero] at this
      simp only [World.frozen?, h]
      cases hb : decide (fr.1 ≤ o + i) && decide (o + i < fr.2) with
      | false => rfl
      | true => simp at hb; exact absurd hb this
    have h1 := World.setCell_cells h v (o := o + i)
    have hlt : g < w.heap.size := (Array.getElem?_eq_some_iff.1 h).1
    have hrec := ih (i + 1) (cs.setIfInBounds (o + i) v) (World.setObj w g (.cells (cs.setIfInBounds (o + i) v) e fr))
      (by rw [World.setObj_get _ hlt]; simp) (by simp; omega)
      (fun j hj => by have := hf (j + 1) (by simp; omega); rw [show o + i + (j + 1) = o + (i + 1) + j by omega] at this; exact this)
      (fun x hx => ho x (by simp [hx]))
    simp only [storeCells, hadd, store, bind, Sem.bind]
    show (Sem.store .plain ⟨g, o + i, none⟩ v (Sem.bind (.pure ()) fun _ => storeCells ⟨g, o, none⟩ vs (i + 1))).run P w = _
    rw [oneCell_store (ho v (by simp))]
    simp only [hc, hfz, h1]
    show (storeCells ⟨g, o, none⟩ vs (i + 1)).run P _ = _
    rw [hrec]
    congr 1
    simp only [putL, show o + (i + 1) = o + i + 1 by omega]
    unfold World.setObj
    simp

/-! ### reading -/
variable {P : Program} {C : Cx} {ρ : Rn} {s s' : S} {w : World}

theorem cellsAt_some {c : Rope} {size off n : Nat} {l : List Value} (hs : (c.flat []).length = size) (h : cellsAt c size off n = some l) :
    l = ((c.flat []).drop off).take n ∧ (n = 0 ∨ off + n ≤ size) := by
  unfold cellsAt at h
  cases hb : Nat.beq off 0 && Nat.beq n size with
  | true =>
    rw [hb] at h
    simp only [Bool.and_eq_true] at hb
    have h1 := of_beq hb.1
    have h2 := of_beq hb.2
    subst h1; subst h2
    cases h
    exact ⟨by rw [List.drop_zero, ← hs, List.take_length], by omega⟩
  | false =>
    rw [hb] at h
    have := readL_some h
    rw [hs] at this
    exact this

theorem HRel.cells (h : HRel C ρ s w) {b : Nat} {c : Rope} {size : Nat} {e : TypeId} (hb : s.get b = some (.cells c size e)) :
    ∃ rb cs e' fr, ρ b = some rb ∧ C.N ≤ rb.blk ∧ w.heap[rb.blk]? = some (.cells cs e' fr) ∧ (c.flat []).length = size ∧ cs.size = rb.size ∧ C.ts e = some rb.esz ∧
      (∀ i v, (c.flat [])[i]? = some v → v.oneCell = true ∧ ∃ x, cs[rb.base + i]? = some x ∧ VRel ρ v x) ∧
      (∀ i, i < rb.size → ¬ (fr.1 ≤ i ∧ i < fr.2)) ∧ e' = e := by
  obtain ⟨rb, h1, hN, o', h2, h3⟩ := h.live _ _ hb
  obtain ⟨cs, e', fr, rfl, h4, h5, h6, h7, h8, h9⟩ := h3
  exact ⟨rb, cs, e', fr, h1, hN, h2, h4, h5, h6, h7, h8, h9⟩

/-- the cells that are read -/
theorem HRel.read (h : HRel C ρ s w) {b off n : Nat} {l : List Value} (hr : s.read b off n = some l) :
    ∃ rb l', ρ b = some rb ∧ LRel ρ l l' ∧ l'.length = n ∧ (∀ x ∈ l, x.oneCell = true) ∧
      (∀ j x, l'[j]? = some x → w.cell? ⟨rb.blk, rb.base + off + j, none⟩ = some x) := by
  unfold S.read at hr
  cases hb : s.get b with
  | none => simp [hb] at hr
  | some o =>
    cases o with
    | cells c size e =>
      simp only [hb] at hr
      obtain ⟨rb, cs, e', fr, h1, hN, h2, h4, h5, h6, h7, h8, h9⟩ := h.cells hb
      obtain ⟨rfl, hle⟩ := cellsAt_some h4 hr
      refine ⟨rb, (cs.toList.drop (rb.base + off)).take n, h1, ?_, ?_, ?_, ?_⟩
      · refine LRel.of_get ?_ ?_
        · rcases hle with hn | hle
          · subst hn; simp
          · have hlast : n = 0 ∨ ∃ v, (c.flat [])[off + n - 1]? = some v := by
              by_cases hn : n = 0
              · exact .inl hn
              · exact .inr ⟨(c.flat [])[off + n - 1]'(by omega), List.getElem?_eq_getElem _⟩
            rcases hlast with hn | ⟨v, hv⟩
            · subst hn; simp
            · obtain ⟨_, x, hx, _⟩ := h7 _ _ hv
              by_cases hn : n = 0
              · subst hn; simp
              · have := (Array.getElem?_eq_some_iff.1 hx).1
                simp; omega
        · intro i v hi
          rw [List.getElem?_take] at hi
          split at hi
          · rename_i hin
            rw [List.getElem?_drop] at hi
            obtain ⟨_, x, hx, hv⟩ := h7 _ _ hi
            refine ⟨x, ?_, hv⟩
            rw [List.getElem?_take, if_pos hin, List.getElem?_drop, Array.getElem?_toList, Nat.add_assoc]
            exact hx
          · cases hi
      · rcases hle with hn | hle
        · subst hn; simp
        · by_cases hn : n = 0
          · subst hn; simp
          · obtain ⟨_, x, hx, _⟩ := h7 (off + n - 1) _ (List.getElem?_eq_getElem (by omega))
            have := (Array.getElem?_eq_some_iff.1 hx).1
            simp; omega
      · intro x hx
        obtain ⟨i, hi⟩ := List.getElem?_of_mem (List.mem_of_mem_drop (List.mem_of_mem_take hx))
        exact (h7 _ _ hi).1
      · intro j x hj
        rw [List.getElem?_take] at hj
        split at hj
        · rw [List.getElem?_drop, Array.getElem?_toList] at hj
          simp only [World.cell?, h2]
          simpa using hj
        · cases hj
    | _ => simp [hb] at hr

theorem HRel.read1 (h : HRel C ρ s w) {b off : Nat} {v : Value} (hr : s.read1 b off = some v) :
    ∃ rb x, ρ b = some rb ∧ VRel ρ v x ∧ v.oneCell = true ∧ w.cell? ⟨rb.blk, rb.base + off, none⟩ = some x := by
  unfold S.read1 at hr
  cases hb : s.get b with
  | none => simp [hb] at hr
  | some o =>
    cases o with
    | cells c size e =>
      simp only [hb] at hr
      rw [nthL_eq] at hr
      obtain ⟨rb, cs, e', fr, h1, hN, h2, h4, h5, h6, h7, h8, h9⟩ := h.cells hb
      obtain ⟨ho, x, hx, hv⟩ := h7 _ _ hr
      exact ⟨rb, x, h1, hv, ho, by simp [World.cell?, h2, hx]⟩
    | _ => simp [hb] at hr

/-! ### writing, making -/
/-- a block that is there, turned -/
theorem HRel.turn (h : HRel C ρ s w) {b : Nat} {o o₁ : AO} {rb : RB} {o' : Obj} (hb : s.get b = some o) (hr : ρ b = some rb) (hg : ∀ c, s'.get c = if c = b then some o₁ else s.get c) (hn : s'.next = s.next)
    (ho : ORel ρ C rb o₁ o') : HRel C ρ s' (World.setObj w rb.blk o') ∧ Goes ρ s w ρ s' (World.setObj w rb.blk o') := by
  have hlt := (h.fresh b rb hr).2
  constructor
  · constructor
    · simpa using h.low
    · exact h.glob
    · intro c x hc
      rw [hg] at hc
      by_cases hcb : c = b
      · subst hcb
        simp at hc; subst hc
        obtain ⟨rb', h1, hN, _⟩ := h.live _ _ hb
        rw [hr] at h1; cases h1
        exact ⟨rb, hr, hN, o', by rw [World.setObj_get _ hlt]; simp, ho⟩
      · rw [if_neg hcb] at hc
        obtain ⟨rc, h1, hN, oc, h2, h3⟩ := h.live _ _ hc
        refine ⟨rc, h1, hN, oc, ?_, h3⟩
        rw [World.setObj_get _ hlt, if_neg fun e => hcb (h.inj _ _ _ _ _ _ hc hb h1 hr e)]
        exact h2
    · intro b₁ b₂ o₁' o₂' r₁ r₂ e₁ e₂
      have h1 : ∃ q, s.get b₁ = some q := by
        rw [hg] at e₁; split at e₁
        · rename_i e; subst e; exact ⟨_, hb⟩
        · exact ⟨_, e₁⟩
      have h2 : ∃ q, s.get b₂ = some q := by
        rw [hg] at e₂; split at e₂
        · rename_i e; subst e; exact ⟨_, hb⟩
        · exact ⟨_, e₂⟩
      obtain ⟨q₁, h1⟩ := h1
      obtain ⟨q₂, h2⟩ := h2
      exact h.inj _ _ _ _ _ _ h1 h2
    · intro c rc hc
      rw [hn]
      simpa using h.fresh c rc hc
  · constructor
    · exact Rn.le_refl ρ
    · rintro i ⟨c, x, rc, e, hc, hi⟩
      rw [hg] at e
      left
      split at e
      · rename_i e'; subst e'; exact ⟨c, _, rc, hb, hc, hi⟩
      · exact ⟨c, x, rc, e, hc, hi⟩
    · intro i hi hno
      rw [World.setObj_get _ hlt, if_neg fun e => hno ⟨b, o, rb, hb, hr, e.symm⟩]
    · simp
    · rfl
    · rfl
    · rfl
    · exact fun _ _ => rfl
    · omega

def Rn.add (ρ : Rn) (b : Nat) (rb : RB) : Rn := fun c => if c = b then some rb else ρ c

theorem Rn.le_add {ρ : Rn} {b : Nat} {rb : RB} (h : ρ b = none) : Rn.le ρ (ρ.add b rb) := by
  intro c rc hc
  unfold Rn.add
  split
  · rename_i e; subst e; rw [h] at hc; cases hc
  · exact hc

theorem HRel.fresh_none (h : HRel C ρ s w) {b : Nat} (hb : s.next ≤ b) : ρ b = none := by
  cases hr : ρ b with
  | none => rfl
  | some rb => have := (h.fresh b rb hr).1; omega

theorem HRel.get_none (h : HRel C ρ s w) {b : Nat} (hb : s.next ≤ b) : s.get b = none := by
  cases hr : s.get b with
  | none => rfl
  | some o => obtain ⟨rb, h1, _⟩ := h.live _ _ hr; rw [h.fresh_none hb] at h1; cases h1

theorem alloc_get (w : World) (o : Obj) (i : Nat) : (w.alloc o).heap[i]? = if i = w.heap.size then some o else w.heap[i]? := by
  show (w.heap.push o)[i]? = _
  rw [Array.getElem?_push]
theorem alloc_size (w : World) (o : Obj) : (w.alloc o).heap.size = w.heap.size + 1 := by
  show (w.heap.push o).size = _
  simp

/-- a new block -/
theorem HRel.make (h : HRel C ρ s w) {o : AO} {rb : RB} {o' : Obj} (hblk : rb.blk = w.heap.size) (ho : ORel ρ C rb o o') :
    HRel C (ρ.add s.next rb) (s.new o) (w.alloc o') ∧ Goes ρ s w (ρ.add s.next rb) (s.new o) (w.alloc o') := by
  have hnone := h.fresh_none (Nat.le_refl s.next)
  have hle : Rn.le ρ (ρ.add s.next rb) := Rn.le_add hnone
  have hsame : ∀ c, c ≠ s.next → (ρ.add s.next rb) c = ρ c := fun c hc => by simp [Rn.add, hc]
  have hat : (ρ.add s.next rb) s.next = some rb := by simp [Rn.add]
  constructor
  · constructor
    · rw [alloc_size]; have := h.low; omega
    · exact fun g hg => hle _ _ (h.glob g hg)
    · intro c x hc
      rw [S.get_new] at hc
      by_cases hcb : c = s.next
      · subst hcb
        simp at hc; subst hc
        exact ⟨rb, hat, by rw [hblk]; exact h.low, o', by rw [alloc_get, if_pos hblk], ho.mono hle⟩
      · rw [if_neg hcb] at hc
        obtain ⟨rc, h1, hN, oc, h2, h3⟩ := h.live _ _ hc
        refine ⟨rc, hle _ _ h1, hN, oc, ?_, h3.mono hle⟩
        have := (h.fresh _ _ h1).2
        rw [alloc_get, if_neg (by omega)]
        exact h2
    · intro b₁ b₂ o₁ o₂ r₁ r₂ e₁ e₂ k₁ k₂ he
      rw [S.get_new] at e₁ e₂
      by_cases h1 : b₁ = s.next
      · by_cases h2 : b₂ = s.next
        · omega
        · rw [hsame _ h2] at k₂
          subst h1
          rw [hat] at k₁; cases k₁
          have := (h.fresh _ _ k₂).2
          omega
      · rw [hsame _ h1] at k₁
        by_cases h2 : b₂ = s.next
        · subst h2
          rw [hat] at k₂; cases k₂
          have := (h.fresh _ _ k₁).2
          omega
        · rw [hsame _ h2] at k₂
          rw [if_neg h1] at e₁
          rw [if_neg h2] at e₂
          exact h.inj _ _ _ _ _ _ e₁ e₂ k₁ k₂ he
    · intro c rc hc
      rw [S.next_new, alloc_size]
      by_cases h1 : c = s.next
      · subst h1
        rw [hat] at hc; cases hc
        omega
      · rw [hsame _ h1] at hc
        have := h.fresh _ _ hc
        omega
  · constructor
    · exact hle
    · rintro i ⟨c, x, rc, e, hc, hi⟩
      rw [S.get_new] at e
      by_cases h1 : c = s.next
      · subst h1
        rw [hat] at hc; cases hc
        right; omega
      · rw [if_neg h1] at e
        rw [hsame _ h1] at hc
        exact .inl ⟨c, x, rc, e, hc, hi⟩
    · intro i hi _
      rw [alloc_get, if_neg (by omega)]
    · rw [alloc_size]; omega
    · rfl
    · rfl
    · rfl
    · intro c hc
      exact hsame c (by omega)
    · rw [S.next_new]; omega

theorem Sub.kill (s : S) (b : Nat) : Sub (s.kill b) s := by
  refine ⟨fun c o h => ?_, Nat.le_refl _⟩
  rw [S.get_kill] at h
  split at h
  · cases h
  · exact h

/-- cells written over -/
theorem HRel.write (h : HRel C ρ s w) {b off n : Nat} {vs vs' : List Value} (hw : s.write b off n vs = some s') (hn : vs.length = n) (hv : LRel ρ vs vs') (h1c : ∀ x ∈ vs, x.oneCell = true)
    (h1c' : ∀ x ∈ vs', x.oneCell = true) :
    ∃ rb w', ρ b = some rb ∧ (storeCells ⟨rb.blk, rb.base + off, none⟩ vs').run P w = .ok () w' ∧ HRel C ρ s' w' ∧ Goes ρ s w ρ s' w' := by
  unfold S.write at hw
  cases hb : s.get b with
  | none => simp [hb] at hw
  | some o =>
    cases o with
    | cells c size e =>
      simp only [hb] at hw
      obtain ⟨rb, cs, e', fr, h1, hN, h2, h4, h5, h6, h7, h8, h9⟩ := h.cells hb
      -- in either case: the new row
      have key : ∃ c', s' = s.put b (.cells (.leaf c') size e) ∧ c'.length = size ∧ off + n ≤ size ∧ (n = 0 → off = 0 ∨ True) ∧
          ∀ i, c'[i]? = if off ≤ i ∧ i < off + n then vs[i - off]? else (c.flat [])[i]? := by
        cases hbq : Nat.beq off 0 && Nat.beq n size with
        | true =>
          rw [hbq] at hw
          simp only [Bool.and_eq_true] at hbq
          have e1 := of_beq hbq.1
          have e2 := of_beq hbq.2
          cases hw
          refine ⟨vs, rfl, by omega, by omega, fun _ => .inr trivial, fun i => ?_⟩
          subst e1
          by_cases hi : i < n
          · rw [if_pos ⟨Nat.zero_le _, by omega⟩]; simp
          · rw [if_neg (by omega), List.getElem?_eq_none (by omega), List.getElem?_eq_none (by omega)]
        | false =>
          rw [hbq] at hw
          simp only [cond_false] at hw
          cases hwl : writeL off vs (c.flat []) with
          | none => simp [hwl] at hw
          | some c' =>
            simp only [hwl] at hw
            cases hw
            obtain ⟨rfl, hle⟩ := writeL_some hwl
            refine ⟨_, rfl, by simp; omega, by omega, fun _ => .inr trivial, fun i => ?_⟩
            by_cases hi : off ≤ i ∧ i < off + n
            · rw [if_pos hi, List.append_assoc, List.getElem?_append_right (by simp; omega), List.getElem?_append_left (by simp; omega)]
              congr 1
              simp; omega
            · rw [if_neg hi]
              by_cases hlo : i < off
              · rw [List.append_assoc, List.getElem?_append_left (by simp; omega), List.getElem?_take, if_pos hlo]
              · rw [List.getElem?_append_right (by simp; omega), List.getElem?_drop]
                congr 1
                simp; omega
      obtain ⟨c', rfl, hlen, hle, _, hget⟩ := key
      have hlv := hv.length
      -- the machine's row is long enough
      have hroom : n = 0 ∨ rb.base + off + n ≤ cs.size := by
        by_cases hn0 : n = 0
        · exact .inl hn0
        · obtain ⟨_, x, hx, _⟩ := h7 (off + n - 1) _ (List.getElem?_eq_getElem (by omega))
          have := (Array.getElem?_eq_some_iff.1 hx).1
          right; omega
      have hlt := (h.fresh b rb h1).2
      by_cases hn0 : n = 0
      · -- nothing is written
        have hv0 : vs' = [] := List.length_eq_zero_iff.1 (by omega)
        subst hv0
        refine ⟨rb, w, h1, rfl, ?_⟩
        have hwid : w = World.setObj w rb.blk (.cells cs e' fr) := by
          unfold World.setObj
          have : w.heap.setIfInBounds rb.blk (.cells cs e' fr) = w.heap := by
            obtain ⟨_, hk⟩ := Array.getElem?_eq_some_iff.1 h2
            apply Array.ext_getElem?
            intro j
            by_cases hj : rb.blk = j
            · subst hj; simp [hlt, hk]
            · simp [hj]
          rw [this]
        have := h.turn (s' := s.put b (.cells (.leaf c') size e)) (o' := .cells cs e' fr) hb h1 (fun c => S.get_put _ _ _ _) rfl
          ⟨cs, e', fr, rfl, by rw [flat_leaf]; exact hlen, h5, h6, fun i v hi => by
            rw [flat_leaf, hget, if_neg (by omega)] at hi
            exact h7 i v hi, h8, h9⟩
        rw [← hwid] at this
        exact this
      · have hroom := hroom.resolve_left hn0
        refine ⟨rb, _, h1, run_storeCells vs' 0 cs w h2 (by omega) (fun j hj => by
          exact h8 (rb.base + off + 0 + j) (by omega)) h1c', ?_⟩
        refine h.turn (s' := s.put b (.cells (.leaf c') size e)) hb h1 (fun c => S.get_put _ _ _ _) rfl ?_
        refine ⟨_, e', fr, rfl, by rw [flat_leaf]; exact hlen, by rw [putL_size]; exact h5, h6, fun i v hi => ?_, h8, h9⟩
        rw [flat_leaf, hget] at hi
        split at hi
        · rename_i hin
          refine ⟨h1c v (List.mem_of_getElem? hi), ?_⟩
          obtain ⟨x, hx, hvx⟩ := hv.get _ hi
          refine ⟨x, ?_, hvx⟩
          rw [putL_get _ _ _ _ (by omega), if_pos (by omega)]
          rw [← hx]; congr 1; omega
        · rename_i hout
          obtain ⟨ho, x, hx, hvx⟩ := h7 i v hi
          refine ⟨ho, x, ?_, hvx⟩
          rw [putL_get _ _ _ _ (by omega), if_neg (by omega)]
          exact hx
    | _ => simp [hb] at hw

end Go.Ac
end
section
namespace Go.Ac

/-! ### frames -/
theorem lens8_get_set {α : Type} (i j : Nat) (hi : i < 8) (hj : j < 8) (v : α) (t : N8 α) :
    (lens8 α i).get ((lens8 α j).set v t) = if i = j then v else (lens8 α i).get t := by
  obtain ⟨a0, a1, a2, a3, a4, a5, a6, a7⟩ := t
  have h1 : i = 0 ∨ i = 1 ∨ i = 2 ∨ i = 3 ∨ i = 4 ∨ i = 5 ∨ i = 6 ∨ i = 7 := by omega
  have h2 : j = 0 ∨ j = 1 ∨ j = 2 ∨ j = 3 ∨ j = 4 ∨ j = 5 ∨ j = 6 ∨ j = 7 := by omega
  rcases h1 with rfl | rfl | rfl | rfl | rfl | rfl | rfl | rfl <;>
    rcases h2 with rfl | rfl | rfl | rfl | rfl | rfl | rfl | rfl <;> rfl

theorem Fr.at_set (f : Fr) (t u : Nat) (ht : t < 512) (hu : u < 512) (v : Value) :
    Fr.at_ ((fspot u).set v f) t = if t = u then v else f.at_ t := by
  show (lens8 Value (t % 8)).get ((lens8 (N8 Value) (t / 8 % 8)).get ((lens8 (N8 (N8 Value)) (t / 64)).get
    ((lens8 (N8 (N8 Value)) (u / 64)).set ((lens8 (N8 Value) (u / 8 % 8)).set ((lens8 Value (u % 8)).set v ((lens8 (N8 Value) (u / 8 % 8)).get ((lens8 (N8 (N8 Value)) (u / 64)).get f))) ((lens8 (N8 (N8 Value)) (u / 64)).get f)) f))) =
    if t = u then v else (lens8 Value (t % 8)).get ((lens8 (N8 Value) (t / 8 % 8)).get ((lens8 (N8 (N8 Value)) (t / 64)).get f))
  rw [lens8_get_set _ _ (by omega) (by omega)]
  by_cases h1 : t / 64 = u / 64
  · rw [if_pos h1, lens8_get_set _ _ (by omega) (by omega)]
    by_cases h2 : t / 8 % 8 = u / 8 % 8
    · rw [if_pos h2, lens8_get_set _ _ (by omega) (by omega)]
      by_cases h3 : t % 8 = u % 8
      · rw [if_pos h3, if_pos (by omega)]
      · rw [if_neg h3, if_neg (by intro e; subst e; exact h3 rfl), ← h2, ← h1]
    · rw [if_neg h2, if_neg (by intro e; subst e; exact h2 rfl), ← h1]
  · rw [if_neg h1, if_neg (by intro e; subst e; exact h1 rfl)]

theorem all8_get {α : Type} (x : α) (i : Nat) : (lens8 α i).get (all8 x) = x := by
  unfold lens8
  split <;> rfl

theorem fr0_at (t : Nat) : fr0.at_ t = undef := by
  show (lens8 Value _).get ((lens8 (N8 Value) _).get ((lens8 (N8 (N8 Value)) _).get (all8 (all8 (all8 undef))))) = undef
  rw [all8_get, all8_get, all8_get]

theorem TRel.set {ρ : Rn} {f : Fr} {ts : Array Value} (h : TRel ρ f ts) {u : Nat} (hu : u < ts.size) {v w : Value} (hv : VRel ρ v w) :
    TRel ρ ((fspot u).set v f) (ts.setIfInBounds u w) := by
  refine ⟨by simpa using h.1, fun t ht => ?_⟩
  simp at ht
  have := h.1
  rw [Fr.at_set _ _ _ (by omega) (by omega)]
  by_cases e : t = u
  · subst e
    rw [if_pos rfl]
    simpa [ht] using hv
  · rw [if_neg e]
    have := h.2 t ht
    rw [Array.getD_eq_getD_getElem?] at this ⊢
    rw [Array.getElem?_setIfInBounds_ne (Ne.symm e)]
    exact this

/-- an activation -/
def AcRel (ρ : Rn) (a : A) (a' : Act) : Prop := TRel ρ a.tmps a'.tmps ∧ DsRel ρ a.defers a'.defers

theorem AcRel.mono {ρ ρ' : Rn} (h : Rn.le ρ ρ') {a : A} {a' : Act} (k : AcRel ρ a a') : AcRel ρ' a a' := ⟨k.1.mono h, k.2.mono h⟩

/-! ### constants -/
mutual
def vOk : Value → Bool
  | .bool _ => true
  | .int _ _ => true
  | .float _ _ => true
  | .complex _ _ _ => true
  | .string _ => true
  | .pointer none => true
  | .pointer (some _) => false
  | .slice none n c => Nat.beq n 0 && Nat.beq c 0
  | .slice (some _) _ _ => false
  | .map none => true
  | .map (some _) => false
  | .chan none => true
  | .chan (some _) => false
  | .func (.func _) a b => vOkA a && vOkA b
  | .func (.via _ _ _ _) a b => vOkA a && vOkA b
  | .func _ _ _ => false
  | .nilFunc => true
  | .iface _ x => vOk x
  | .nilIface => true
  | .agg cs => vOkA cs && cs.toList.all Value.oneCell
  | .tuple cs => vOkA cs
def vOkA : Array Value → Bool
  | ⟨l⟩ => vOkL l
def vOkL : List Value → Bool
  | [] => true
  | v :: l => vOk v && vOkL l
end

mutual
theorem vOk_rel (ρ : Rn) : ∀ v : Value, vOk v = true → VRel ρ v v
  | .bool _, _ => by simp [VRel]
  | .int _ _, _ => by simp [VRel]
  | .float _ _, _ => by simp [VRel]
  | .complex _ _ _, _ => by simp [VRel]
  | .string _, _ => by simp [VRel]
  | .pointer none, _ => by simp [VRel]
  | .pointer (some _), h => by simp [vOk] at h
  | .slice none n c, h => by
    simp only [vOk, Bool.and_eq_true] at h
    have h1 := of_beq h.1
    have h2 := of_beq h.2
    subst h1; subst h2
    simp [VRel]
  | .slice (some _) _ _, h => by simp [vOk] at h
  | .map none, _ => by simp [VRel]
  | .map (some _), h => by simp [vOk] at h
  | .chan none, _ => by simp [VRel]
  | .chan (some _), h => by simp [vOk] at h
  | .func (.func f) a b, h => by
    simp only [vOk, Bool.and_eq_true] at h
    simp only [VRel]
    exact ⟨_, a, b, rfl, rfl, vOkA_rel ρ a h.1, vOkA_rel ρ b h.2⟩
  | .func (.via _ _ _ _) a b, h => by
    simp only [vOk, Bool.and_eq_true] at h
    simp only [VRel]
    exact ⟨_, a, b, rfl, rfl, vOkA_rel ρ a h.1, vOkA_rel ρ b h.2⟩
  | .func (.method _) a b, h => by simp [vOk] at h
  | .func (.methodOf _ _) a b, h => by simp [vOk] at h
  | .func (.yield _) a b, h => by simp [vOk] at h
  | .nilFunc, _ => by simp [VRel]
  | .iface t x, h => by
    simp only [vOk] at h
    simp only [VRel]
    exact ⟨x, rfl, vOk_rel ρ x h⟩
  | .nilIface, _ => by simp [VRel]
  | .agg cs, h => by
    simp only [vOk, Bool.and_eq_true, List.all_eq_true] at h
    simp only [VRel]
    exact ⟨cs, rfl, vOkA_rel ρ cs h.1, h.2⟩
  | .tuple cs, h => by
    simp only [vOk] at h
    simp only [VRel]
    exact ⟨cs, rfl, vOkA_rel ρ cs h⟩
theorem vOkA_rel (ρ : Rn) : ∀ a : Array Value, vOkA a = true → ARel ρ a a
  | ⟨l⟩, h => by
    simp only [vOkA] at h
    simp only [ARel]
    exact vOkL_rel ρ l h
theorem vOkL_rel (ρ : Rn) : ∀ l : List Value, vOkL l = true → LRel ρ l l
  | [], _ => by simp [LRel]
  | v :: l, h => by
    simp only [vOkL, Bool.and_eq_true] at h
    simp only [LRel]
    exact ⟨v, l, rfl, vOk_rel ρ v h.1, vOkL_rel ρ l h.2⟩
end

/-! ### operands -/
def opOk (n G : Nat) : Operand → Bool
  | .tmp t => Nat.ble (t + 1) n
  | .const v => vOk v
  | .global g => Nat.ble (g + 1) G
  | .func _ => true

theorem opd_rel {C : Cx} {ρ : Rn} {s : S} {w : World} (h : HRel C ρ s w) {a : A} {a' : Act} (ha : AcRel ρ a a') {x : Operand} (hx : opOk a'.tmps.size C.G x = true) :
    VRel ρ ((opd x).get a) (a'.eval x) := by
  cases x with
  | tmp t =>
    have : t < a'.tmps.size := of_ble hx
    exact ha.1.2 t this
  | const v => exact vOk_rel ρ v hx
  | global g =>
    have : g < C.G := of_ble hx
    show VRel ρ (.pointer (some ⟨g, 0, none⟩)) (.pointer (some ⟨g, 0, none⟩))
    simp only [VRel]
    exact ⟨_, h.glob g this, rfl⟩
  | func f =>
    show VRel ρ (.func (.func f) #[] #[]) (.func (.func f) #[] #[])
    simp only [VRel]
    exact ⟨_, _, _, rfl, rfl, by simp [ARel_iff, LRel], by simp [ARel_iff, LRel]⟩

theorem opdL_rel {C : Cx} {ρ : Rn} {s : S} {w : World} (h : HRel C ρ s w) {a : A} {a' : Act} (ha : AcRel ρ a a') : ∀ {l : List Operand},
    (∀ x ∈ l, opOk a'.tmps.size C.G x = true) → LRel ρ ((opdL l).get a) (l.map a'.eval)
  | [], _ => by show LRel ρ [] []; simp [LRel]
  | x :: l, hl => by
    show LRel ρ ((opd x).get a :: (opdL l).get a) _
    simp only [List.map_cons, LRel]
    exact ⟨_, _, rfl, opd_rel h ha (hl x (by simp)), opdL_rel h ha fun y hy => hl y (by simp [hy])⟩

/-- the value that is put -/
theorem put_rel {ρ : Rn} {a : A} {a' : Act} (ha : AcRel ρ a a') {dst : Option Tmp} (hd : ∀ d, dst = some d → d < a'.tmps.size) {v w : Value} (hv : VRel ρ v w) :
    AcRel ρ ((putD dst).put a v) (a'.put dst w) := by
  cases dst with
  | none => exact ha
  | some d => exact ⟨ha.1.set (hd d rfl) hv, ha.2⟩

theorem undef_rel (ρ : Rn) : VRel ρ undef undef := by
  unfold undef
  simp only [VRel]
  exact ⟨#[], rfl, by simp [ARel_iff, LRel]⟩

/-! ### the tables -/
structure TabOk (P : Program) (tab : Tab) : Prop where
  types : ∀ t i, tab.types.get t = some i → P.info? t = some i
  calls : ∀ f fn, tab.funcs.get f = some fn → P.funcs[f]? = some fn ∧ ∀ args w, (callFunc f args).run P w = .ok (.enter f args) w
  mixed : P.follows .mixedOrders = true
  eqs : ∀ t u, tab.eqs.get t = some u → P.stoodInHeld t = false ∧ P.eqGuardType P.depth t = false

section tab
variable {P : Program} {tab : Tab} (T : TabOk P tab) {w : World}
include T
theorem TabOk.underlying {t : TypeId} {d : TypeDesc} (h : tab.desc t = some d) : P.underlying t = some d := by
  unfold Tab.desc at h
  unfold Program.underlying
  cases h1 : tab.types.get t with
  | none => simp [h1] at h
  | some i =>
    rw [T.types _ _ h1]
    simp only [h1] at h
    obtain ⟨desc, str, size, bytes, hp, al, fa, zero, cmp, ms⟩ := i
    cases desc with
    | named nm u =>
      simp only at h ⊢
      cases h2 : tab.types.get u with
      | none => simp [h2] at h
      | some j =>
        simp only [h2] at h
        rw [T.types _ _ h2]
        simpa using h
    | _ => simpa using h
theorem TabOk.run_underlying {t : TypeId} {d : TypeDesc} (h : tab.desc t = some d) : (Go.underlying t).run P w = .ok d w := by
  have := T.underlying h
  simp only [Go.underlying, Go.program, bind, Sem.bind, Sem.run, this]
  rfl
theorem TabOk.run_size {t : TypeId} {n : Nat} (h : tab.size t = some n) : (sizeOf t).run P w = .ok n w := by
  unfold Tab.size at h
  cases h1 : tab.types.get t with
  | none => simp [h1] at h
  | some i =>
    simp only [h1] at h
    cases h
    have := T.types _ _ h1
    simp only [sizeOf, typeInfo, Go.program, bind, Sem.bind, Sem.run, this]
    rfl
theorem TabOk.run_info {t : TypeId} {i : TypeInfo} (h : tab.types.get t = some i) : (typeInfo t).run P w = .ok i w := by
  have := T.types _ _ h
  simp only [typeInfo, Go.program, bind, Sem.bind, Sem.run, this]
  rfl
theorem TabOk.run_zero {t : TypeId} {z : Value} (h : tab.zero t = some z) : (zeroValue t).run P w = .ok z w := by
  unfold Tab.zero at h
  cases h1 : tab.types.get t with
  | none => simp [h1] at h
  | some i =>
    simp only [h1] at h
    have := T.types _ _ h1
    simp only [zeroValue, typeInfo, Go.program, bind, Sem.bind, Sem.run, this]
    show Sem.run P (match i.zero with
      | some v => Sem.pure v
      | none => unsupported (Unsupported.resourceLimit "a value of more than 2^22 cells")) w = _
    rw [h]
    rfl
theorem TabOk.run_agg {t : TypeId} {b : Bool} (h : tab.agg t = some b) : (Go.isAgg t).run P w = .ok b w := by
  unfold Tab.agg at h
  cases h1 : tab.desc t with
  | none => simp [h1] at h
  | some d =>
    simp only [h1] at h
    cases h
    have := T.underlying h1
    simp only [Go.isAgg, Go.underlying, Go.program, bind, Sem.bind, Sem.run, this]
    cases d <;> rfl
end tab

end Go.Ac
end
section
namespace Go.Ac

/-! ### what the projections say -/
theorem vP_some {x : Value} {a : Addr} (h : vP x = some a) : x = .pointer (some a) := by
  cases x <;> cases h <;> rfl
theorem vB_some {x : Value} {b : Bool} (h : vB x = some b) : x = .bool b := by
  cases x <;> cases h <;> rfl
theorem vS_some {x : Value} {b : ByteArray} (h : vS x = some b) : x = .string b := by
  cases x <;> cases h <;> rfl
theorem vA_some {x : Value} {c : Array Value} (h : vA x = some c) : x = .agg c := by
  cases x <;> cases h <;> rfl
theorem vT_some {x : Value} {c : Array Value} (h : vT x = some c) : x = .tuple c := by
  cases x <;> cases h <;> rfl
theorem vSl_some {x : Value} {a : Option Addr} {n c : Nat} (h : vSl x = some (a, n, c)) : x = .slice a n c := by
  cases x <;> cases h <;> rfl
theorem vK_le {x : Value} (h : vK x ≤ 7) : ∃ k, x = .int k (vN x) ∧ vK x = kindNo k := by
  cases x <;> first | (exact absurd h (by show ¬ 8 ≤ 7; omega)) | skip
  rename_i k n
  exact ⟨k, rfl, by cases k <;> rfl⟩
theorem kindNo_inj {j k : IntKind} (h : kindNo j = kindNo k) : j = k := by
  cases j <;> cases k <;> first | rfl | (exact absurd h (by decide))
theorem kindNo_le (k : IntKind) : kindNo k ≤ 7 := by cases k <;> decide
theorem vK_kind {x : Value} {k : IntKind} (h : vK x = kindNo k) : x = .int k (vN x) := by
  obtain ⟨j, h1, h2⟩ := vK_le (x := x) (by rw [h]; exact kindNo_le k)
  rw [kindNo_inj (h2.symm.trans h)] at h1
  exact h1
theorem iNat_some {n : Int} {m : Nat} (h : iNat n = some m) : n = .ofNat m := by
  cases n with
  | ofNat k => exact congrArg Int.ofNat (Option.some.inj h)
  | negSucc k => cases h
theorem natOf_some {x : Value} {m : Nat} (h : natOf x = some m) : ∃ k, x = .int k (.ofNat m) := by
  unfold natOf at h
  cases hb : Nat.ble (vK x) 7 with
  | false => rw [hb] at h; cases h
  | true =>
    rw [hb] at h
    obtain ⟨k, h1, _⟩ := vK_le (of_ble hb)
    have := iNat_some h
    rw [this] at h1
    exact ⟨k, h1⟩

theorem onOpt_some {α R : Type} {f : α → Option R} {x : Option α} {r : R} (h : onOpt none f x = some r) : ∃ a, x = some a ∧ f a = some r := by
  cases x with
  | none => cases h
  | some a => exact ⟨a, rfl, h⟩

theorem cond_some {b : Bool} {α : Type} {x : Option α} {r : α} (h : cond b x none = some r) : b = true ∧ x = some r := by
  cases b with
  | false => cases h
  | true => exact ⟨rfl, h⟩

/-! ### values, related -/
section vrel
variable {ρ : Rn}
theorem VRel.int {k : IntKind} {n : Int} {w : Value} (h : VRel ρ (.int k n) w) : w = .int k n := by simpa only [VRel] using h
theorem VRel.bool {b : Bool} {w : Value} (h : VRel ρ (.bool b) w) : w = .bool b := by simpa only [VRel] using h
theorem VRel.str {b : ByteArray} {w : Value} (h : VRel ρ (.string b) w) : w = .string b := by simpa only [VRel] using h
theorem VRel.ptr {a : Addr} {w : Value} (h : VRel ρ (.pointer (some a)) w) : ∃ rb, ρ a.block = some rb ∧ w = .pointer (some ⟨rb.blk, rb.base + a.off, none⟩) := by
  simpa only [VRel] using h
theorem VRel.agg {cs : Array Value} {w : Value} (h : VRel ρ (.agg cs) w) : ∃ ds, w = .agg ds ∧ LRel ρ cs.toList ds.toList ∧ ∀ x ∈ cs.toList, x.oneCell = true := by
  simpa only [VRel, ARel_iff] using h
theorem VRel.tup {cs : Array Value} {w : Value} (h : VRel ρ (.tuple cs) w) : ∃ ds, w = .tuple ds ∧ LRel ρ cs.toList ds.toList := by
  simpa only [VRel, ARel_iff] using h
theorem VRel.mkInt (k : IntKind) (n : Int) : VRel ρ (.int k n) (.int k n) := by simp only [VRel]
theorem VRel.mkBool (b : Bool) : VRel ρ (.bool b) (.bool b) := by simp only [VRel]
theorem VRel.mkStr (b : ByteArray) : VRel ρ (.string b) (.string b) := by simp only [VRel]
theorem VRel.mkAgg {l : List Value} {m : List Value} (h : LRel ρ l m) (ho : ∀ x ∈ l, x.oneCell = true) : VRel ρ (Ac.mkAgg l) (.agg m.toArray) := by
  unfold Ac.mkAgg
  simp only [VRel, ARel_iff]
  exact ⟨_, rfl, h, ho⟩
theorem VRel.mkPtr {b o : Nat} {rb : RB} (h : ρ b = some rb) : VRel ρ (.pointer (some ⟨b, o, none⟩)) (.pointer (some ⟨rb.blk, rb.base + o, none⟩)) := by
  simp only [VRel]; exact ⟨rb, h, rfl⟩
/-- a value of one cell is related to one of one cell -/
theorem VRel.oneCell {v w : Value} (h : VRel ρ v w) (hv : v.oneCell = true) : w.oneCell = true := by
  cases v with
  | pointer p => cases p with
    | none => simp only [VRel] at h; subst h; rfl
    | some a => obtain ⟨rb, _, rfl⟩ := h.ptr; rfl
  | slice p n c => cases p with
    | none => simp only [VRel] at h; obtain ⟨_, _, rfl⟩ := h; rfl
    | some a => simp only [VRel] at h; obtain ⟨_, _, _, _, _, rfl⟩ := h; rfl
  | map p => cases p with
    | none => simp only [VRel] at h; subst h; rfl
    | some a => simp only [VRel] at h; obtain ⟨_, _, rfl⟩ := h; rfl
  | chan p => cases p with
    | none => simp only [VRel] at h; subst h; rfl
    | some a => simp only [VRel] at h; obtain ⟨_, _, rfl⟩ := h; rfl
  | func f a b => simp only [VRel] at h; obtain ⟨_, _, _, rfl, _⟩ := h; rfl
  | iface t x => simp only [VRel] at h; obtain ⟨_, rfl, _⟩ := h; rfl
  | agg cs => simp [Value.oneCell] at hv
  | tuple cs => simp [Value.oneCell] at hv
  | _ => simp only [VRel] at h; subst h; rfl
theorem cells_of_one {w : Value} (h : w.oneCell = true) : w.cells = #[w] := by
  cases w <;> first | rfl | (simp [Value.oneCell] at h)
/-- the cells of a value -/
theorem VRel.cells {v w : Value} (h : VRel ρ v w) {l : List Value} (hl : cellsO v = some l) : LRel ρ l w.cells.toList ∧ ∀ x ∈ l, x.oneCell = true := by
  by_cases ho : v.oneCell = true
  · have : cellsO v = some [v] := by cases v <;> first | rfl | (simp [Value.oneCell] at ho)
    rw [this] at hl
    cases hl
    rw [cells_of_one (h.oneCell ho)]
    refine ⟨?_, by simpa using ho⟩
    simp only [LRel]
    exact ⟨w, [], rfl, h, rfl⟩
  · cases v with
    | agg cs =>
      obtain ⟨ds, rfl, hd, h1⟩ := h.agg
      obtain rfl := Option.some.inj (show some cs.toList = some l from hl)
      exact ⟨hd, h1⟩
    | tuple cs => cases hl
    | _ => exact absurd rfl ho
theorem LRel.oneCell {l m : List Value} (h : LRel ρ l m) (ho : ∀ x ∈ l, x.oneCell = true) : ∀ y ∈ m, y.oneCell = true := by
  induction l generalizing m with
  | nil => simp only [LRel] at h; subst h; simp
  | cons x l ih =>
    simp only [LRel] at h
    obtain ⟨w, r, rfl, hv, hl⟩ := h
    intro y hy
    rcases List.mem_cons.1 hy with rfl | hy
    · exact hv.oneCell (ho x (by simp))
    · exact ih hl (fun z hz => ho z (by simp [hz])) y hy
end vrel

end Go.Ac
end
section
namespace Go.Ac

theorem addr_add (b o n : Nat) : (⟨b, o, none⟩ : Addr).add n = ⟨b, o + n, none⟩ := by
  unfold Addr.add; split <;> simp_all

theorem desc_get {tab : Tab} {t : TypeId} {d : TypeDesc} (h : tab.desc t = some d) : ∃ i, tab.types.get t = some i := by
  unfold Tab.desc at h
  cases h1 : tab.types.get t with
  | none => simp [h1] at h
  | some i => exact ⟨i, rfl⟩

theorem stepAddr_ok {size n : Nat} {ad : Addr} {i : Option Nat} {v : Value} (h : stepAddr size n ad i = some v) :
    ∃ j, i = some j ∧ j < n ∧ v = .pointer (some ⟨ad.block, ad.off + j * size, none⟩) := by
  obtain ⟨j, h1, h2⟩ := onOpt_some h
  obtain ⟨h3, h4⟩ := cond_some h2
  exact ⟨j, h1, of_ble h3, (Option.some.inj h4).symm⟩

theorem nthB_eq (n : Nat) (l : List UInt8) : nthB n l = l[n]? := by
  induction n generalizing l with
  | zero => cases l <;> rfl
  | succ n ih =>
    cases l with
    | nil => rfl
    | cons v l => exact (ih l).trans (by simp)

theorem bytes_get (b : ByteArray) (i : Nat) : b[i]? = b.data.toList[i]? := by
  rw [Array.getElem?_toList]
  by_cases h : i < b.size
  · rw [getElem?_pos b i h, getElem?_pos b.data i (by simpa using h)]
    rfl
  · rw [getElem?_neg b i h, getElem?_neg b.data i (by simpa using h)]

variable {P : Program} {tab : Tab} (tok : TabOk P tab) {C : Cx} {ρ : Rn} {s : S} {w : World}
include tok

/-! ### addresses -/
theorem fieldAddr_ok {t f : Nat} {fs : Array Field} {fd : Field} {n : Nat} (hd : tab.desc t = some (.struct fs)) (hf : fs.toList[f]? = some fd) (hn : tab.size fd.type = some n) (h0 : n ≠ 0)
    {x x' v : Value} (hx : VRel ρ x x') (h : vFieldAddr fd.offset x = some v) : ∃ v', (Instr.fieldAt t x' f).run P w = .ok v' w ∧ VRel ρ v v' := by
  obtain ⟨ad, h1, h2⟩ := onOpt_some h
  have := vP_some h1
  subst this
  cases h2
  obtain ⟨rb, hr, rfl⟩ := hx.ptr
  refine ⟨.pointer (some ⟨rb.blk, rb.base + (ad.off + fd.offset), none⟩), ?_, VRel.mkPtr hr⟩
  have hf' : fs[f]? = some fd := by rw [← Array.getElem?_toList]; exact hf
  simp [Instr.fieldAt, tok.run_underlying hd, hf', Instr.sureAddr, fieldPlace, tok.run_size hn, h0, addr_add, Nat.add_assoc]

theorem indexAddrArr_ok {t n e k : Nat} (hd : tab.desc t = some (.array n e)) (hk : tab.size e = some k) {x x' i i' v : Value} (hx : VRel ρ x x') (hi : VRel ρ i i')
    (h : vIndexAddrArr n k x i = some v) : ∃ v', (Instr.indexAt t x' i').run P w = .ok v' w ∧ VRel ρ v v' := by
  obtain ⟨ad, h1, h2⟩ := onOpt_some h
  have := vP_some h1
  subst this
  obtain ⟨j, hj, hlt, rfl⟩ := stepAddr_ok h2
  obtain ⟨kd, rfl⟩ := natOf_some hj
  obtain rfl := hi.int
  obtain ⟨rb, hr, rfl⟩ := hx.ptr
  refine ⟨.pointer (some ⟨rb.blk, rb.base + (ad.off + j * k), none⟩), ?_, VRel.mkPtr hr⟩
  have : (0 : Int) ≤ (j : Int) ∧ (j : Int) < (n : Int) := by omega
  simp [Instr.indexAt, asIntOf, tok.run_underlying hd, Instr.sureAddr, tok.run_size hk, addr_add, this, Nat.add_assoc]
  omega

theorem indexAddr_ok {t e k : Nat} (hd : tab.desc t = some (.slice e)) (hk : tab.size e = some k) {x x' i i' v : Value} (hx : VRel ρ x x') (hi : VRel ρ i i')
    (h : vIndexAddr k x i = some v) : ∃ v', (Instr.indexAt t x' i').run P w = .ok v' w ∧ VRel ρ v v' := by
  obtain ⟨⟨b, n, c⟩, h1, h2⟩ := onOpt_some h
  have := vSl_some h1
  subst this
  obtain ⟨ad, hb, h3⟩ := onOpt_some h2
  simp only at hb h3
  subst hb
  obtain ⟨j, hj, hlt, rfl⟩ := stepAddr_ok h3
  obtain ⟨kd, rfl⟩ := natOf_some hj
  obtain rfl := hi.int
  simp only [VRel] at hx
  obtain ⟨rb, a', c', hr, ⟨hc, hn, ha, _⟩, rfl⟩ := hx
  have hc0 : c' ≠ 0 := by
    rcases hc with ⟨_, rfl⟩ | ⟨_, hle⟩ <;> omega
  obtain rfl := ha.resolve_left hc0
  refine ⟨.pointer (some ⟨rb.blk, rb.base + (ad.off + j * k), none⟩), ?_, VRel.mkPtr hr⟩
  have : (0 : Int) ≤ (j : Int) ∧ (j : Int) < (n : Int) := by omega
  simp [Instr.indexAt, asIntOf, tok.run_underlying hd, tok.run_size hk, addr_add, this, Nat.add_assoc]
  omega

/-! ### parts -/
theorem part_ok {e : TypeId} {g : Bool} {k : Nat} (hg : tab.agg e = some g) (hk : tab.size e = some k) {cs ds : Array Value} {off : Nat} {v : Value}
    (hc : LRel ρ cs.toList ds.toList) (ho : ∀ x ∈ cs.toList, x.oneCell = true) (h : partL g k off cs.toList = some v) :
    ∃ v', (part e ds off).run P w = .ok v' w ∧ VRel ρ v v' := by
  unfold partL at h
  cases g with
  | true =>
    simp only [cond_true] at h
    cases hr : readL cs.toList off k with
    | none => rw [hr] at h; cases h
    | some l =>
      rw [hr] at h
      have : mkAgg l = v := Option.some.inj h
      subst this
      obtain ⟨rfl, _⟩ := readL_some hr
      refine ⟨.agg ((ds.toList.drop off).take k).toArray, ?_, VRel.mkAgg ((hc.drop off).take k) fun x hx => ho x (List.mem_of_mem_drop (List.mem_of_mem_take hx))⟩
      simp only [part, Sem.run_bind, tok.run_agg hg, Result.andThen_ok, if_true, tok.run_size hk, Sem.run_pure, Sem.run_ite]
      congr 2
      apply Array.ext'
      simp [Array.toList_extract]
  | false =>
    simp only [cond_false] at h
    rw [nthL_eq] at h
    obtain ⟨v', h1, h2⟩ := hc.get _ h
    refine ⟨v', ?_, h2⟩
    rw [Array.getElem?_toList] at h1
    simp [part, tok.run_agg hg, h1]

theorem field_ok {t f : Nat} {fs : Array Field} {fd : Field} {g : Bool} {n : Nat} (hd : tab.desc t = some (.struct fs)) (hf : fs.toList[f]? = some fd) (hg : tab.agg fd.type = some g) (hn : tab.size fd.type = some n)
    {x x' v : Value} (hx : VRel ρ x x') (h : vField g n fd.offset x = some v) : ∃ v', (Instr.field t x' f).run P w = .ok v' w ∧ VRel ρ v v' := by
  obtain ⟨cs, h1, h2⟩ := onOpt_some h
  have := vA_some h1
  subst this
  obtain ⟨ds, rfl, hl, ho⟩ := hx.agg
  obtain ⟨v', h3, h4⟩ := part_ok tok (w := w) hg hn hl ho h2
  refine ⟨v', ?_, h4⟩
  have hf' : fs[f]? = some fd := by rw [← Array.getElem?_toList]; exact hf
  simp [Instr.field, tok.run_underlying hd, hf', asAgg, h3]

theorem indexArr_ok {t n e : Nat} {g : Bool} {k : Nat} (hd : tab.desc t = some (.array n e)) (hg : tab.agg e = some g) (hk : tab.size e = some k)
    {x x' i i' v : Value} (hx : VRel ρ x x') (hi : VRel ρ i i') (h : vIndexArr n g k x i = some v) : ∃ v', (Instr.index t x' i').run P w = .ok v' w ∧ VRel ρ v v' := by
  obtain ⟨cs, h1, h2⟩ := onOpt_some h
  obtain ⟨j, hj, h3⟩ := onOpt_some h2
  obtain ⟨h4, h5⟩ := cond_some h3
  have := vA_some h1
  subst this
  obtain ⟨ds, rfl, hl, ho⟩ := hx.agg
  obtain ⟨kd, rfl⟩ := natOf_some hj
  obtain rfl := hi.int
  obtain ⟨v', h6, h7⟩ := part_ok tok (w := w) hg hk hl ho h5
  refine ⟨v', ?_, h7⟩
  have hlt := of_ble h4
  have : (0 : Int) ≤ (j : Int) ∧ (j : Int) < (n : Int) := by omega
  have h6' : (part e ds (j * k)).run P w = .ok v' w := h6
  have hlt' : j < n := by omega
  simp [Instr.index, asIntOf, tok.run_underlying hd, tok.run_size hk, h6', hlt']

theorem indexStr_ok {t : Nat} (hd : tab.desc t = some .string) {x x' i i' v : Value} (hx : VRel ρ x x') (hi : VRel ρ i i') (h : vIndexStr x i = some v) :
    ∃ v', (Instr.index t x' i').run P w = .ok v' w ∧ VRel ρ v v' := by
  obtain ⟨b, h1, h2⟩ := onOpt_some h
  obtain ⟨j, hj, h3⟩ := onOpt_some h2
  have := vS_some h1
  subst this
  obtain rfl := hx.str
  obtain ⟨kd, rfl⟩ := natOf_some hj
  obtain rfl := hi.int
  have h3 : vByte (nthB j b.data.toList) = some v := h3
  rw [nthB_eq] at h3
  cases hb : b.data.toList[j]? with
  | none => rw [hb] at h3; cases h3
  | some c =>
    rw [hb] at h3
    cases h3
    refine ⟨.int .u8 c.toNat, ?_, VRel.mkInt _ _⟩
    have hb' : b.data[j]? = some c := by rw [← Array.getElem?_toList]; exact hb
    simp [Instr.index, asIntOf, tok.run_underlying hd, bytes_get, hb']

end Go.Ac
end
section
namespace Go.Ac

/-! ### numbers -/
theorem wrap64_pos (m : Nat) : wrap64 (.ofNat m) = cond (Nat.ble m 9223372036854775807) (Int.ofNat m) (IntKind.wrap .i64 (.ofNat m)) := rfl
theorem wrap64_neg (m : Nat) : wrap64 (.negSucc m) = cond (Nat.ble m 9223372036854775807) (Int.negSucc m) (IntKind.wrap .i64 (.negSucc m)) := rfl
theorem wrap64_eq (n : Int) : wrap64 n = IntKind.wrap .i64 n := by
  cases n with
  | ofNat m =>
    rw [wrap64_pos]
    cases hb : Nat.ble m 9223372036854775807 with
    | false => rw [cond_false]
    | true =>
      have := of_ble hb
      rw [cond_true]
      exact (IntWalk.i64_in _ (by simp only [Int.ofNat_eq_natCast]; omega)).symm
  | negSucc m =>
    rw [wrap64_neg]
    cases hb : Nat.ble m 9223372036854775807 with
    | false => rw [cond_false]
    | true =>
      have := of_ble hb
      rw [cond_true]
      exact (IntWalk.i64_in _ (by simp only [Int.negSucc_eq]; omega)).symm

theorem wrapU_eq (k : IntKind) (m : Nat) (hk : k.signed = false) (hm : m = 2 ^ k.bits) (n : Int) : wrapU k m n = k.wrap n := by
  cases n with
  | ofNat x =>
    show Int.ofNat (x % m) = _
    subst hm
    simp [IntKind.wrap, hk]
  | negSucc x => rfl

theorem wrapI_eq (k : IntKind) (n : Int) : (wrapI k).run n = k.wrap n := by
  cases k with
  | i64 => exact wrap64_eq n
  | u8 => exact wrapU_eq .u8 256 rfl rfl n
  | u32 => exact wrapU_eq .u32 4294967296 rfl rfl n
  | u64 => exact wrapU_eq .u64 18446744073709551616 rfl rfl n
  | _ => rfl

theorem addI_eq (a b : Int) : addI a b = a + b := by
  cases a <;> cases b <;> rfl
theorem subI_eq (a b : Int) : subI a b = a - b := by
  cases a with
  | ofNat m => cases b with
    | ofNat n =>
      show cond (Nat.ble n m) (Int.ofNat (m - n)) (Int.negSucc (Nat.pred (n - m))) = _
      cases hb : Nat.ble n m with
      | true => have := of_ble hb; simp; omega
      | false =>
        have : ¬ n ≤ m := fun h => by have := Nat.ble_eq_true_of_le h; rw [hb] at this; cases this
        simp only [cond_false, Nat.pred_eq_sub_one, Int.negSucc_eq, Int.ofNat_eq_natCast]
        omega
    | negSucc n => show Int.ofNat (m + (n + 1)) = _; simp only [Int.negSucc_eq, Int.ofNat_eq_natCast]; omega
  | negSucc m => cases b with
    | ofNat n => show Int.negSucc (m + n) = _; simp only [Int.negSucc_eq, Int.ofNat_eq_natCast]; omega
    | negSucc n => show Int.subNatNat n m = _; rw [Int.subNatNat_eq_coe]; simp only [Int.negSucc_eq]; omega

theorem ltI_eq (a b : Int) : ltI a b = decide (a < b) := by
  rw [Bool.eq_iff_iff, decide_eq_true_iff]
  cases a with
  | ofNat m => cases b with
    | ofNat n => show Nat.ble (m + 1) n = true ↔ _; rw [Nat.ble_eq]; simp only [Int.ofNat_eq_natCast]; omega
    | negSucc n => show (false = true) ↔ _; simp only [Int.ofNat_eq_natCast, Int.negSucc_eq]; simp; omega
  | negSucc m => cases b with
    | ofNat n => show (true = true) ↔ _; simp only [Int.ofNat_eq_natCast, Int.negSucc_eq]; simp; omega
    | negSucc n => show Nat.ble (n + 1) m = true ↔ _; rw [Nat.ble_eq]; simp only [Int.negSucc_eq]; omega

theorem eqI_eq (a b : Int) : eqI a b = (a == b) := by
  rw [Bool.eq_iff_iff, beq_iff_eq]
  cases a with
  | ofNat m => cases b with
    | ofNat n => show Nat.beq m n = true ↔ _; rw [Nat.beq_eq]; simp only [Int.ofNat_eq_natCast]; omega
    | negSucc n => show (false = true) ↔ _; simp
  | negSucc m => cases b with
    | ofNat n => show (false = true) ↔ _; simp
    | negSucc n => show Nat.beq m n = true ↔ _; rw [Nat.beq_eq]; simp

theorem ofPure_some {e : Sem Value} {v : Value} (h : ofPure e = some v) : e = .pure v := by
  cases e <;> simp [ofPure] at h
  rw [h]

/-- the operations that need no bits -/
theorem intBits_nat (k : IntKind) (op : BinOp) (m n : Nat) (f : Nat → Nat → Nat)
    (h : (op = .and ∧ f = Nat.land) ∨ (op = .or ∧ f = Nat.lor) ∨ (op = .xor ∧ f = Nat.xor)) :
    Op.intBits op k (.ofNat m) (.ofNat n) = .pure (.int k (k.wrap (.ofNat (f m n)))) := by
  have hw : ∀ x : Nat, k.wrap (((x % 2 ^ k.bits : Nat)) : Int) = k.wrap (x : Int) := by
    intro x
    simp [IntKind.wrap]
  have h1 : ∀ m : Nat, (BitVec.ofInt k.bits (.ofNat m)).toNat = m % 2 ^ k.bits := by
    intro m
    simp
  rcases h with ⟨rfl, rfl⟩ | ⟨rfl, rfl⟩ | ⟨rfl, rfl⟩
  · simp only [Op.intBits, BitVec.toNat_and, h1, ← Nat.and_mod_two_pow, hw]; rfl
  · simp only [Op.intBits, BitVec.toNat_or, h1, ← Nat.or_mod_two_pow, hw]; rfl
  · simp only [Op.intBits, BitVec.toNat_xor, h1, ← Nat.xor_mod_two_pow, hw]; rfl

theorem bitsI_eq {k : IntKind} {op : BinOp} {f : Nat → Nat → Nat} (h : (op = .and ∧ f = Nat.land) ∨ (op = .or ∧ f = Nat.lor) ∨ (op = .xor ∧ f = Nat.xor)) {a b : Int} {v : Value}
    (hv : bitsI k op f a b = some v) : Op.intBits op k a b = .pure v := by
  cases a with
  | ofNat m => cases b with
    | ofNat n =>
      have : v = .int k ((wrapI k).run (.ofNat (f m n))) := (Option.some.inj hv).symm
      rw [this, wrapI_eq]
      exact intBits_nat k op m n f h
    | negSucc n => exact ofPure_some hv
  | negSucc m => exact ofPure_some hv

theorem intOp_ok {k : IntKind} {op : BinOp} (hs : op ≠ .shl) (hs' : op ≠ .shr) {a b : Int} {v : Value} (h : (intOp k op).run a b = some v) (P : Program) (t : TypeId) (w : World) :
    (binOp op t (.int k a) (.int k b)).run P w = .ok v w ∧ ∃ j n, v = .int j n ∨ ∃ c, v = .bool c := by
  cases op with
  | add => cases h; refine ⟨?_, _, _, .inl rfl⟩; simp [binOp, Op.intArith, wrapI_eq, addI_eq]
  | sub => cases h; refine ⟨?_, _, _, .inl rfl⟩; simp [binOp, Op.intArith, wrapI_eq, subI_eq]
  | mul => cases h; refine ⟨?_, _, _, .inl rfl⟩; simp [binOp, Op.intArith, wrapI_eq]
  | quo =>
    have h : quoI k a b = some v := h
    have hr : (Op.intDiv .quo k a b) = .pure v ∧ ∃ n, v = .int k n := by
      cases a with
      | ofNat x => cases b with
        | ofNat y =>
          have h : cond (Nat.beq y 0) none (some (.int k ((wrapI k).run (.ofNat (Nat.div x y))))) = some v := h
          cases hb : Nat.beq y 0 with
          | true => rw [hb] at h; cases h
          | false =>
            rw [hb] at h
            cases h
            have hy : y ≠ 0 := fun e => by rw [e] at hb; cases hb
            refine ⟨?_, _, rfl⟩
            simp only [Op.intDiv]
            rw [if_neg (by simp only [Int.ofNat_eq_natCast]; omega), wrapI_eq]
            rfl
        | negSucc y =>
          have this := ofPure_some (show ofPure (Op.intDiv .quo k (.ofNat x) (.negSucc y)) = some v from h)
          exact ⟨this, by simp only [Op.intDiv] at this; split at this <;> cases this; exact ⟨_, rfl⟩⟩
      | negSucc x =>
        have h : cond (eqI b 0) none (ofPure (Op.intDiv .quo k (.negSucc x) b)) = some v := h
        cases hb : eqI b 0 with
        | true => rw [hb] at h; cases h
        | false =>
          rw [hb] at h
          have := ofPure_some h
          exact ⟨this, by simp only [Op.intDiv] at this; split at this <;> cases this; exact ⟨_, rfl⟩⟩
    obtain ⟨h1, n, h2⟩ := hr
    exact ⟨by simp [binOp, h1], _, _, .inl h2⟩
  | rem =>
    have h : remI k a b = some v := h
    have hr : (Op.intDiv .rem k a b) = .pure v ∧ ∃ n, v = .int k n := by
      cases a with
      | ofNat x => cases b with
        | ofNat y =>
          have h : cond (Nat.beq y 0) none (some (.int k (.ofNat (Nat.mod x y)))) = some v := h
          cases hb : Nat.beq y 0 with
          | true => rw [hb] at h; cases h
          | false =>
            rw [hb] at h
            cases h
            have hy : y ≠ 0 := fun e => by rw [e] at hb; cases hb
            refine ⟨?_, _, rfl⟩
            simp only [Op.intDiv]
            rw [if_neg (by simp only [Int.ofNat_eq_natCast]; omega)]
            rfl
        | negSucc y =>
          have this := ofPure_some (show ofPure (Op.intDiv .rem k (.ofNat x) (.negSucc y)) = some v from h)
          exact ⟨this, by simp only [Op.intDiv] at this; split at this <;> cases this; exact ⟨_, rfl⟩⟩
      | negSucc x =>
        have h : cond (eqI b 0) none (ofPure (Op.intDiv .rem k (.negSucc x) b)) = some v := h
        cases hb : eqI b 0 with
        | true => rw [hb] at h; cases h
        | false =>
          rw [hb] at h
          have := ofPure_some h
          exact ⟨this, by simp only [Op.intDiv] at this; split at this <;> cases this; exact ⟨_, rfl⟩⟩
    obtain ⟨h1, n, h2⟩ := hr
    exact ⟨by simp [binOp, h1], _, _, .inl h2⟩
  | and =>
    have h1 := bitsI_eq (.inl ⟨rfl, rfl⟩) (show bitsI k .and Nat.land a b = some v from h)
    exact ⟨by simp [binOp, h1], by simp only [Op.intBits] at h1; cases h1; exact ⟨_, _, .inl rfl⟩⟩
  | or =>
    have h1 := bitsI_eq (.inr (.inl ⟨rfl, rfl⟩)) (show bitsI k .or Nat.lor a b = some v from h)
    exact ⟨by simp [binOp, h1], by simp only [Op.intBits] at h1; cases h1; exact ⟨_, _, .inl rfl⟩⟩
  | xor =>
    have h1 := bitsI_eq (.inr (.inr ⟨rfl, rfl⟩)) (show bitsI k .xor Nat.xor a b = some v from h)
    exact ⟨by simp [binOp, h1], by simp only [Op.intBits] at h1; cases h1; exact ⟨_, _, .inl rfl⟩⟩
  | andNot =>
    have h1 := ofPure_some (show ofPure (Op.intBits .andNot k a b) = some v from h)
    exact ⟨by simp [binOp, h1], by simp only [Op.intBits] at h1; cases h1; exact ⟨_, _, .inl rfl⟩⟩
  | eql => cases h; refine ⟨?_, .i64, 0, .inr ⟨_, rfl⟩⟩; simp [binOp, Op.intCmp, eqI_eq]
  | neq => cases h; refine ⟨?_, .i64, 0, .inr ⟨_, rfl⟩⟩; simp [binOp, Op.intCmp, eqI_eq, bne]
  | lss => cases h; refine ⟨?_, .i64, 0, .inr ⟨_, rfl⟩⟩; simp [binOp, Op.intCmp, ltI_eq]
  | leq => cases h; refine ⟨?_, .i64, 0, .inr ⟨_, rfl⟩⟩; simp [binOp, Op.intCmp, ltI_eq]; rw [Bool.eq_iff_iff]; simp
  | gtr => cases h; refine ⟨?_, .i64, 0, .inr ⟨_, rfl⟩⟩; simp [binOp, Op.intCmp, ltI_eq]
  | geq => cases h; refine ⟨?_, .i64, 0, .inr ⟨_, rfl⟩⟩; simp [binOp, Op.intCmp, ltI_eq]; rw [Bool.eq_iff_iff]; simp
  | shl => exact absurd rfl hs
  | shr => exact absurd rfl hs'

end Go.Ac
end
