/- Texts put together: E0. -/
import Derived.Orders
import Derived.Laws.Sem
import Derived.KernelRfl
/- The engine, part 0: abstract values and heaps, and an evaluator of the model's code over them. Nothing is proved here. -/
namespace Go.Proofs.YtbobakclbdaepaaGreat.En
open Go
set_option linter.unusedVariables false

/-- What a run may come to; 'br' keeps a Bool that may be symbolic. -/
inductive T (α : Type) where
  | ret (a : α)
  | br (b : Bool) (t e : T α)
  | bad

def T.bind {α β : Type} : T α → (α → T β) → T β
  | .ret a, k => k a
  | .br b t e, k => .br b (t.bind k) (e.bind k)
  | .bad, _ => .bad

def T.res {α : Type} : T α → Option α
  | .ret a => some a
  | .br b t e => match b with | true => t.res | false => e.res
  | .bad => none

/-- only if -/
def T.need {α : Type} (b : Bool) (t : T α) : T α := .br b t .bad

/-- A value whose memory, if it has any, is never written any more. -/
inductive FV where
  | lit (v : Value)
  | z0 (nil : Bool)
  | fs (nil : Bool) (sz n : Nat) (e : Nat → List FV)
  | fp (l : List FV)

/-- A cell's value. An own block's address is (block, m, i, j): i * m + j cells from its begin. -/
inductive CV where
  | f (x : FV)
  | ptr (b m i j : Nat)
  | sl (nil : Bool) (b m i j len cap : Nat) (ex : Bool) (sz : Nat)
  | mp (b : Nat)
  | fn (g : Nat) (cap : List (Nat × Nat × Nat × Nat))

inductive AV where
  | one (x : CV)
  | agg (l : List CV)

inductive SV where
  | v (x : AV)
  | tup (l : List AV)
  | top

/-- An own block. -/
inductive Ob where
  | cells (l : List CV)
  | arr (live : Bool) (sz n : Nat) (e : Nat → List FV)
  | map (es : List (Value × Value))
  | dead

abbrev Heap := List (Nat × Ob)

def Heap.get : Heap → Nat → Ob
  | [], _ => .dead
  | (k, o) :: r, b => match Nat.beq k b with | true => o | false => Heap.get r b

def Heap.put : Heap → Nat → Ob → Heap
  | [], b, o => [(b, o)]
  | (k, p) :: r, b, o => match Nat.beq k b with | true => (k, o) :: r | false => (k, p) :: Heap.put r b o

abbrev Slots := List (Nat × SV)

def Slots.get : Slots → Nat → SV
  | [], _ => .top
  | (k, v) :: r, t => match Nat.beq k t with | true => v | false => Slots.get r t

def CV.int (k : IntKind) (n : Int) : CV := .f (.lit (.int k n))
def CV.bool (b : Bool) : CV := .f (.lit (.bool b))
def CV.str (s : ByteArray) : CV := .f (.lit (.string s))
def SV.one (x : CV) : SV := .v (.one x)
def SV.cv? : SV → Option CV
  | .v (.one x) => some x
  | _ => none

def AV.cells : AV → List CV
  | .one x => [x]
  | .agg l => l

abbrev oneCell : Value → Bool := Value.oneCell'

def constSV (v : Value) : SV :=
  match v with
  | .agg cs => if cs.toList.all oneCell then .v (.agg (cs.toList.map fun c => .f (.lit c))) else .top
  | .tuple _ => .top
  | v => .v (.one (.f (.lit v)))

/-- A type's row, as the evaluator wants it. -/
inductive TK where
  | bool | int (k : IntKind) | str | ptr (e : Nat) | slice (e : Nat) | struct (fs : List (Nat × Nat × Nat × Bool)) | array (n e : Nat)
  | map (k e : Nat) | fn | other

structure TI where
  size : Nat
  bytes : Nat
  zero : List Value
  kind : TK
  agg : Bool
  eqs : List Nat        -- '==' of two such structs is cell by cell, of these kinds, and asks nothing more

/-- a table -/
inductive Tab (α : Type) where
  | leaf
  | node (k : Nat) (v : α) (l r : Tab α)

def Tab.get {α : Type} : Tab α → Nat → Option α
  | .leaf, _ => none
  | .node k v l r, t => match Nat.beq t k with
    | true => some v
    | false => match Nat.ble t k with | true => l.get t | false => r.get t

structure St where
  sl : Slots
  H : Heap
  nx : Nat
  esc : Bool
  base : Nat         -- the blocks below it were there when the call began
  wr : List Nat      -- those of them that were written since

structure CallOut where
  v : SV
  H : Heap
  nx : Nat
  esc : Bool
  wr : List Nat

inductive Ex where
  | normal | exit (id : Nat) | ret

structure Ctx where
  ti : Nat → Option TI
  fi : Nat → Option Func
  sym : Bool
  sum : Nat → Option (List AV → Heap → Nat → T CallOut)          -- calls that are known
  ls : Nat → Nat → Option (Nat → Code → St → T (Ex × St))        -- a function's loops that are known (and statements that begin with such a region)
  pre : Nat → Nat → Option (St → T St)                            -- ahead of a function's region less is said

structure Out where
  v : SV
  H : Heap
  nx : Nat
  esc : Bool
  fp : List Nat      -- the own blocks that are looked at
  wr : List Nat      -- those that are written, or new

/-- the blocks below 'base' that were written, once each -/
def addWr (base : Nat) : List Nat → List Nat → List Nat
  | [], acc => acc
  | b :: r, acc => match Nat.ble base b || acc.any (Nat.beq b) with
    | true => addWr base r acc
    | false => addWr base r (b :: acc)

def St.up (st : St) (u : Out) : St := ⟨st.sl, u.H, u.nx, st.esc || u.esc, st.base, addWr st.base u.wr st.wr⟩

def St.val (st : St) : Operand → SV
  | .tmp t => st.sl.get t
  | .const v => constSV v
  | .func g => .one (.fn g [])
  | .global _ => .top

def St.put (st : St) (d : Option Nat) (v : SV) : St :=
  match d with
  | some d => { st with sl := (d, v) :: st.sl }
  | none => st

def St.setB (st : St) (x : Operand) (c : Bool) : St :=
  match x with
  | .tmp t => { st with sl := (t, .one (.bool c)) :: st.sl }
  | _ => st

/-- a Bool slot decides -/
def split {α : Type} (st : St) (x : Operand) (k : Bool → St → T α) : T α :=
  match st.val x with
  | .v (.one (.f (.lit (.bool b)))) => .br b (k true (st.setB x true)) (k false (st.setB x false))
  | _ => .bad

def pure1 (st : St) (v : SV) : T Out := .ret ⟨v, st.H, st.nx, false, [], []⟩

/-- does a value lead to a block behind b? -/
def CV.beyond (b : Nat) : CV → Bool
  | .f _ => false
  | .ptr c _ _ _ => Nat.ble b c
  | .sl _ c _ _ _ _ _ _ _ => Nat.ble b c
  | .mp c => Nat.ble b c
  | .fn _ l => l.any fun x => Nat.ble b x.1

def CV.fv? : CV → Option FV
  | .f x => some x
  | _ => none

def fvs? : List CV → Option (List FV)
  | [] => some []
  | .f x :: r => match fvs? r with | some l => some (x :: l) | none => none
  | _ :: _ => none

def setRange {α : Type} : List α → Nat → List α → List α
  | [], _, _ => []
  | x :: r, 0, [] => x :: r
  | _ :: r, 0, v :: vs => v :: setRange r 0 vs
  | x :: r, j + 1, vs => x :: setRange r j vs

/-- as 'k (setRange l j vs)', built at once -/
def setRangeK {α β : Type} : List α → Nat → List α → (List α → β) → β
  | [], _, _, k => k []
  | x :: r, 0, [], k => k (x :: r)
  | _ :: r, 0, v :: vs, k => setRangeK r 0 vs fun r' => k (v :: r')
  | x :: r, j + 1, vs, k => setRangeK r j vs fun r' => k (x :: r')

/-- as 'k (H.put b o)' -/
def Heap.putK {β : Type} : Heap → Nat → Ob → (Heap → β) → β
  | [], b, o, k => k [(b, o)]
  | (c, p) :: r, b, o, k => match Nat.beq c b with | true => k ((c, o) :: r) | false => Heap.putK r b o fun r' => k ((c, p) :: r')

/-- as 'match c with | true => x | false => y', pushed inwards where both are numbers, truths, texts -/
def FV.ite0 (c : Bool) (x y : FV) : FV :=
  match x, y with
  | .lit (.int k a), .lit (.int k' b) => match decide (k = k') with
    | true => .lit (.int k (cond c a b))
    | false => match c with | true => x | false => y
  | .lit (.bool a), .lit (.bool b) => .lit (.bool (cond c a b))
  | .lit (.string a), .lit (.string b) => .lit (.string (cond c a b))
  | x, y => match c with | true => x | false => y

def iteL0 (c : Bool) : List FV → List FV → List FV
  | x :: xs, y :: ys => FV.ite0 c x y :: iteL0 c xs ys
  | [], [] => []
  | xs, ys => match c with | true => xs | false => ys

def FV.ite (c : Bool) (x y : FV) : FV :=
  match x, y with
  | .fs nil sz n e, .fs nil' sz' n' e' => match Nat.beq sz sz' with
    | true => .fs (cond c nil nil') sz (cond c n n') fun i => iteL0 c (e i) (e' i)
    | false => match c with | true => x | false => y
  | x, y => FV.ite0 c x y

def iteL (c : Bool) : List FV → List FV → List FV
  | x :: xs, y :: ys => FV.ite c x y :: iteL c xs ys
  | [], [] => []
  | xs, ys => match c with | true => xs | false => ys

def CV.ite (c : Bool) (x y : CV) : CV :=
  match x, y with
  | .f a, .f b => .f (FV.ite c a b)
  | x, y => match c with | true => x | false => y

def iteC (c : Bool) : List CV → List CV → List CV
  | x :: xs, y :: ys => CV.ite c x y :: iteC c xs ys
  | [], [] => []
  | xs, ys => match c with | true => xs | false => ys

def AV.ite (c : Bool) (x y : AV) : AV :=
  match x, y with
  | .one a, .one b => .one (CV.ite c a b)
  | .agg a, .agg b => .agg (iteC c a b)
  | x, y => match c with | true => x | false => y

/-- the i-th, counted from c on; the last one, if there is none -/
def selV (i : Int) : Nat → AV → List AV → AV
  | _, x, [] => x
  | c, x, y :: r => AV.ite (decide (i = (c : Int))) x (selV i (c + 1) y r)

/-- n cells at an address -/
def Ob.rd (o : Ob) (m i j n : Nat) : T (List CV) :=
  match o with
  | .cells l => match Nat.beq m 0 && Nat.beq i 0 with
    | true => let r := (l.drop j).take n; match Nat.beq r.length n with | true => .ret r | false => .bad
    | false => .bad
  | .arr live sz N e => match Nat.beq m sz && Nat.ble (j + n) sz with
    | true => .need live (.need (Nat.ble (i + 1) N) (let r := ((e i).drop j).take n; match Nat.beq r.length n with | true => .ret (r.map .f) | false => .bad))
    | false => .bad
  | _ => .bad

def Ob.wr (o : Ob) (m i j : Nat) (vs : List CV) : T Ob :=
  match o with
  | .cells l => match Nat.beq m 0 && Nat.beq i 0 && Nat.ble (j + vs.length) l.length with
    | true => setRangeK l j vs fun l' => .ret (.cells l')
    | false => .bad
  | .arr live sz N e => match Nat.beq m sz && Nat.ble (j + vs.length) sz && Nat.beq (e i).length sz, fvs? vs with
    | true, some fs => .need live (.need (Nat.ble (i + 1) N) (.ret (.arr live sz N fun i' => iteL (Nat.beq i' i) (setRange (e i') j fs) (e i'))))
    | _, _ => .bad
  | _ => .bad

def ofCells (agg : Bool) (l : List CV) : Option AV :=
  match agg with
  | true => some (.agg l)
  | false => match l with | [x] => some (.one x) | _ => none

def newBlock (st : St) (l : List CV) (v : Nat → SV) : T Out :=
  .ret ⟨v st.nx, (st.nx, .cells l) :: st.H, st.nx + 1, false, [], [st.nx]⟩

def zeros (t : TI) : List CV := t.zero.map fun v => .f (.lit v)

def binInt (op : BinOp) (k : IntKind) (x y : Int) : T Value :=
  match op with
  | .add => .ret (.int k (k.wrap (x + y)))
  | .sub => .ret (.int k (k.wrap (x - y)))
  | .mul => .ret (.int k (k.wrap (x * y)))
  | .quo => .br (decide (y = 0)) .bad (.ret (.int k (k.wrap (x.tdiv y))))
  | .rem => .br (decide (y = 0)) .bad (.ret (.int k (x.tmod y)))
  | .and => .ret (.int k (k.wrap (BitVec.ofInt k.bits x &&& BitVec.ofInt k.bits y).toNat))
  | .or => .ret (.int k (k.wrap (BitVec.ofInt k.bits x ||| BitVec.ofInt k.bits y).toNat))
  | .xor => .ret (.int k (k.wrap (BitVec.ofInt k.bits x ^^^ BitVec.ofInt k.bits y).toNat))
  | .andNot => .ret (.int k (k.wrap (BitVec.ofInt k.bits x &&& ~~~ BitVec.ofInt k.bits y).toNat))
  | .eql => .ret (.bool (x == y))
  | .neq => .ret (.bool (x != y))
  | .lss => .ret (.bool (decide (x < y)))
  | .leq => .ret (.bool (decide (x ≤ y)))
  | .gtr => .ret (.bool (decide (x > y)))
  | .geq => .ret (.bool (decide (x ≥ y)))
  | _ => .bad

def shiftInt (op : BinOp) (k : IntKind) (x y : Int) : T Value :=
  match op with
  | .shl => .br (decide (y < 0)) .bad (.ret (.int k (k.wrap (x * 2 ^ (min y.toNat k.bits)))))
  | .shr => .br (decide (y < 0)) .bad (.ret (.int k (x.fdiv (2 ^ (min y.toNat k.bits)))))
  | _ => .bad

def binStr (op : BinOp) (x y : ByteArray) : T Value :=
  let eq := x.toList == y.toList
  let lt := Op.bytesLess x.toList y.toList
  match op with
  | .add => .br (decide (((x.size + y.size : Nat) : Int) > IntKind.i64.max)) .bad (.ret (.string (x ++ y)))
  | .eql => .ret (.bool eq)
  | .neq => .ret (.bool !eq)
  | .lss => .ret (.bool lt)
  | .leq => .ret (.bool (lt || eq))
  | .gtr => .ret (.bool !(lt || eq))
  | .geq => .ret (.bool !lt)
  | _ => .bad

/-- are two cells' values alike? (0: bools, 1: ints, 2: strings) -/
def eqCell : Nat → CV → CV → Option Bool
  | 0, .f (.lit (.bool a)), .f (.lit (.bool b)) => some (a == b)
  | 1, .f (.lit (.int k a)), .f (.lit (.int k' b)) => match decide (k = k') with | true => some (a == b) | false => none
  | 2, .f (.lit (.string a)), .f (.lit (.string b)) => some (a == b)
  | _, _, _ => none

def eqCells : List Nat → List CV → List CV → Option Bool
  | [], [], [] => some true
  | k :: ks, x :: xs, y :: ys => match eqCell k x y, eqCells ks xs ys with
    | some a, some b => some (a && b)
    | _, _ => none
  | _, _, _ => none

/-- is it nil? 0: a pointer, 1: a slice, 2: a map, 3: a function -/
def nilK : Nat → CV → Option Bool
  | 0, .f (.lit (.pointer none)) => some true
  | 0, .f (.fp _) => some false
  | 0, .ptr _ _ _ _ => some false
  | 1, .f (.lit (.slice none _ _)) => some true
  | 1, .f (.fs nil _ _ _) => some nil
  | 1, .f (.z0 nil) => some nil
  | 1, .sl nil _ _ _ _ _ _ _ _ => some nil
  | 2, .f (.lit (.map none)) => some true
  | 2, .mp _ => some false
  | 3, .f (.lit .nilFunc) => some true
  | 3, .fn _ _ => some false
  | _, _ => none

def litNil : Nat → CV → Bool
  | 0, .f (.lit (.pointer none)) => true
  | 1, .f (.lit (.slice none _ _)) => true
  | 2, .f (.lit (.map none)) => true
  | 3, .f (.lit .nilFunc) => true
  | _, _ => false

def eqNil (k : Nat) (a b : CV) : Option Bool :=
  match litNil k b with
  | true => nilK k a
  | false => match litNil k a with
    | true => nilK k b
    | false => none

def evEq (G : Ctx) (t : Nat) (x y : AV) : Option Bool :=
  match G.ti t with
  | none => none
  | some i =>
  match i.kind, x, y with
  | .bool, .one (.f (.lit (.bool a))), .one (.f (.lit (.bool b))) => some (a == b)
  | .ptr _, .one a, .one b => eqNil 0 a b
  | .slice _, .one a, .one b => eqNil 1 a b
  | .map _ _, .one a, .one b => eqNil 2 a b
  | .fn, .one a, .one b => eqNil 3 a b
  | .struct _, .agg a, .agg b => match i.eqs with
    | [] => none
    | ks => eqCells ks a b
  | _, _, _ => none

def evBin (G : Ctx) (op : BinOp) (t : Nat) (x y : AV) : T AV :=
  match x, y with
  | .one (.f (.lit (.int k a))), .one (.f (.lit (.int k' b))) =>
    match op with
    | .shl | .shr => (shiftInt op k a b).bind fun v => .ret (.one (.f (.lit v)))
    | _ => match decide (k = k') with
      | true => (binInt op k a b).bind fun v => .ret (.one (.f (.lit v)))
      | false => .bad
  | .one (.f (.lit (.string a))), .one (.f (.lit (.string b))) => (binStr op a b).bind fun v => .ret (.one (.f (.lit v)))
  | x, y =>
    match op with
    | .eql => match evEq G t x y with | some b => .ret (.one (.bool b)) | none => .bad
    | .neq => match evEq G t x y with | some b => .ret (.one (.bool !b)) | none => .bad
    | _ => .bad

def evUn (op : UnOp) (x : CV) : T CV :=
  match op, x with
  | .not, .f (.lit (.bool b)) => .ret (.bool !b)
  | .neg, .f (.lit (.int k n)) => .ret (.int k (k.wrap (0 - n)))
  | _, _ => .bad

/-- fields of a value -/
def evField (G : Ctx) (t : Nat) (l : List CV) (fld : Nat) : Option AV :=
  match G.ti t with
  | some { kind := .struct fs, .. } => match fs[fld]? with
    | some (off, size, _, agg) =>
      let r := (l.drop off).take size
      match Nat.beq r.length size with | true => ofCells agg r | false => none
    | none => none
  | _ => none

/-- an index that is in range: the walk over the places where the mode asks for it -/
def atIndex {α : Type} (sym : Bool) (n : Nat) (i : Int) (k : Nat → T α) : T α :=
  match sym with
  | false => k i.toNat
  | true => go n 0
where
  go : Nat → Nat → T α
    | 0, _ => .bad
    | n + 1, c => .br (decide (i = (c : Int))) (k c) (go n (c + 1))

def inRange {α : Type} (i : Int) (n : Nat) (t : T α) : T α := .need (decide (0 ≤ i ∧ i < (n : Int))) t

def evIndexAddr (G : Ctx) (t : Nat) (x : CV) (i : Int) : T CV :=
  match G.ti t with
  | none => .bad
  | some ti =>
  match ti.kind, x with
  | .array len e, .ptr b m a j => match G.ti e with
    | some ei => inRange i len (atIndex G.sym len i fun c => .ret (.ptr b m a (j + c * ei.size)))
    | none => .bad
  | .array len e, .f (.fp l) => match G.ti e with
    | some ei => inRange i len (atIndex G.sym len i fun c => .ret (.f (.fp (l.drop (c * ei.size)))))
    | none => .bad
  | .slice e, .sl nil b m a j len cap ex sz => match G.ti e with
    | some ei => match Nat.beq ei.size sz with
      | true => .need (!nil) (inRange i len (match m with
        | 0 => atIndex G.sym len i fun c => .ret (.ptr b 0 a (j + c * sz))
        | m + 1 => match Nat.beq (m + 1) sz with | true => .ret (.ptr b (m + 1) (a + i.toNat) j) | false => .bad))
      | false => .bad
    | none => .bad
  | .slice e, .f (.fs nil sz n g) => match G.ti e with
    | some ei => match Nat.beq ei.size sz with
      | true => .need (!nil) (inRange i n (.ret (.f (.fp ((g i.toNat).take sz)))))
      | false => .bad
    | none => .bad
  | _, _ => .bad

/-- n elements -/
def elems (agg : Bool) (sz : Nat) : Nat → List CV → Option (List AV)
  | 0, _ => some []
  | n + 1, l => match Nat.beq (l.take sz).length sz, ofCells agg (l.take sz), elems agg sz n (l.drop sz) with
    | true, some v, some r => some (v :: r)
    | _, _, _ => none

def evIndex (G : Ctx) (t : Nat) (x : AV) (i : Int) : T AV :=
  match G.ti t with
  | none => .bad
  | some ti =>
  match ti.kind, x with
  | .array len e, .agg l => match G.ti e with
    | some ei => match G.sym with
      | false => inRange i len (
        let r := (l.drop (i.toNat * ei.size)).take ei.size
        match Nat.beq r.length ei.size, ofCells ei.agg r with
        | true, some v => .ret v
        | _, _ => .bad)
      | true => match elems ei.agg ei.size len l with
        | some (x :: r) => inRange i len (.ret (selV i 0 x r))
        | _ => .bad
    | none => .bad
  | .str, .one (.f (.lit (.string s))) => inRange i s.size (.ret (.one (.int .u8 (s.data.toList.getD i.toNat 0).toNat)))
  | _, _ => .bad

/-- a slice's bounds: what a call gives, and what is there -/
def bnd {α : Type} (x : Option SV) (d y : Nat) (k : Nat → T α) : T α :=
  match x with
  | none => k d
  | some (.v (.one (.f (.lit (.int _ i))))) => .need (decide (0 ≤ i ∧ i ≤ (y : Int))) (k i.toNat)
  | some _ => .bad

def evSlice (G : Ctx) (H : Heap) (t : Nat) (x : CV) (lo hi mx : Option SV) : T (CV × List Nat) :=
  match G.ti t with
  | none => .bad
  | some ti =>
  match mx, hi with
  | some _, none => .bad
  | _, _ =>
  match ti.kind, x with
  | .str, .f (.lit (.string s)) => match mx with
    | none => bnd hi s.size s.size fun h => bnd lo 0 h fun l => .ret (.str (s.extract l h), [])
    | some _ => .bad
  | .array n e, .ptr b 0 a j => match G.ti e, mx with
    | some ei, none => match Nat.beq ei.size 0 with
      | true => .bad
      | false => ((H.get b).rd 0 a j (n * ei.size)).bind fun _ => bnd hi n n fun h => bnd lo 0 h fun l =>
        .br (Nat.beq n l) (.ret (.f (.z0 false), [b])) (.ret (.sl false b 0 a (j + l * ei.size) (h - l) (n - l) true ei.size, [b]))
    | _, _ => .bad
  | .slice e, .f (.lit (.slice none 0 0)) => match G.ti e with
    | some _ => bnd mx 0 0 fun m => bnd hi 0 m fun h => bnd lo 0 h fun l => .ret (.f (.lit (.slice none 0 0)), [])
    | none => .bad
  | .slice e, .f (.z0 nil) => match G.ti e with
    | some _ => bnd mx 0 0 fun m => bnd hi 0 m fun h => bnd lo 0 h fun l => .ret (.f (.z0 nil), [])
    | none => .bad
  | .slice e, .f (.fs nil sz n g) => match G.ti e with
    | some ei => match Nat.beq ei.size sz with
      | true => match mx with   -- (its capacity is not known: at least n)
        | some _ => bnd mx n n fun m => bnd hi n m fun h => bnd lo 0 h fun l => .br (Nat.beq m l) (.ret (.f (.z0 nil), [])) (.need (!nil) (.ret (.f (.fs false sz (h - l) fun i => g (l + i)), [])))
        | none => bnd hi n n fun h => bnd lo 0 h fun l => .br nil (.ret (.f (.z0 true), [])) (.ret (.f (.fs false sz (h - l) fun i => g (l + i)), []))
      | false => .bad
    | none => .bad
  | .slice e, .sl nil b m a j len cap ex sz => match G.ti e with
    | some ei => match Nat.beq ei.size sz with
      | true =>
        let mk (l h c : Nat) (ex : Bool) : T (CV × List Nat) := match m with
          | 0 => .ret (.sl false b 0 a (j + l * sz) (h - l) (c - l) ex sz, [])
          | m + 1 => match Nat.beq (m + 1) sz with | true => .ret (.sl false b (m + 1) (a + l) j (h - l) (c - l) ex sz, []) | false => .bad
        match mx with
        | some _ => bnd mx cap cap fun c => bnd hi len c fun h => bnd lo 0 h fun l =>
            .br (Nat.beq c l) (.ret (.f (.z0 nil), [])) (.need (!nil) (mk l h c true))
        | none => bnd hi len cap fun h => bnd lo 0 h fun l =>
            .br nil (.ret (.f (.z0 true), [])) (.need (Nat.ble len cap) (.br (Nat.beq cap l) (.ret (match ex with | true => .f (.z0 false) | false => .f (.fs false sz 0 fun _ => []), [])) (mk l h cap ex)))
      | false => .bad
    | none => .bad
  | _, _ => .bad

/-- what is appended, or copied: cells in a row, or elements by a function -/
inductive Src where
  | flat (n : Nat) (l : List CV)
  | fn (n : Nat) (e : Nat → List FV)

def Src.n : Src → Nat
  | .flat n _ => n
  | .fn n _ => n

/-- cells n * sz of a slice -/
def srcOf (H : Heap) (sz : Nat) (x : CV) : T (Src × List Nat) :=
  match x with
  | .f (.lit (.slice none 0 0)) => .ret (.flat 0 [], [])
  | .f (.z0 _) => .ret (.flat 0 [], [])
  | .f (.lit (.string s)) => match Nat.beq sz 1 with
    | true => .ret (.flat s.size (s.data.toList.map fun c => .int .u8 c.toNat), [])
    | false => .bad
  | .f (.fs nil s n e) => match Nat.beq s sz with | true => .ret (.fn n e, []) | false => .bad
  | .sl nil b m a j len cap ex s => match Nat.beq s sz with
    | true => match H.get b with
      | .cells l => match Nat.beq m 0 && Nat.beq a 0 with
        | true => .need (!nil) (let r := (l.drop j).take (len * sz); match Nat.beq r.length (len * sz) with | true => .ret (.flat len r, [b]) | false => .bad)
        | false => .bad
      | .arr live z N e => match Nat.beq m sz && Nat.beq z sz && Nat.beq j 0 with
        | true => .need ((nil || live) && Nat.ble (a + len) N) (.ret (.fn len (fun i => e (a + i)), [b]))
        | false => .bad
      | _ => .bad
    | false => .bad
  | _ => .bad

/-- a row of cells as elements -/
def chop {α : Type} (sz : Nat) (l : List α) (i : Nat) : List α := (l.drop (i * sz)).take sz

def chunks {α : Type} (sz : Nat) : Nat → List α → List (List α)
  | 0, _ => []
  | n + 1, l => l.take sz :: chunks sz n (l.drop sz)

/-- the j-th, if it is there -/
def selL : List (List FV) → Nat → List FV
  | [], _ => []
  | [x], _ => x
  | x :: y :: r, j => iteL (Nat.beq j 0) x (selL (y :: r) (j - 1))

def Src.fn? (sz : Nat) : Src → Option (Nat × (Nat → List FV))
  | .fn n e => some (n, e)
  | .flat n l => match fvs? l with | some r => some (n, selL (chunks sz n r)) | none => none

/-- one behind the other -/
def Src.app (sz : Nat) : Src → Src → Option (Src)
  | .flat n l, .flat k r => some (.flat (n + k) (l ++ r))
  | a, b => match a.fn? sz, b.fn? sz with
    | some (n, e), some (k, g) => some (.fn (n + k) fun i => iteL (Nat.ble (i + 1) n) (e i) (g (i - n)))
    | _, _ => none

def Src.esc (b : Nat) : Src → Bool
  | .flat _ l => l.any (CV.beyond b)
  | .fn _ _ => false

/-- a new block with these elements; the slice over it -/
def grown (st : St) (kill : List Nat) (sz : Nat) (s : Src) (fp : List Nat) : T Out :=
  let H := kill.foldl (fun H b => H.put b .dead) st.H
  match s with
  | .flat n l => .ret ⟨.one (.sl false st.nx 0 0 0 n n false sz), (st.nx, .cells l) :: H, st.nx + 1, false, fp, st.nx :: kill⟩
  | .fn n e => .ret ⟨.one (.sl false st.nx sz 0 0 n n false sz), (st.nx, .arr true sz n e) :: H, st.nx + 1, false, fp, st.nx :: kill⟩

/-- a slice whose capacity isn't known may be written in place: its block is no one's any more -/
def killOf : Bool → Nat → List Nat
  | true, _ => []
  | false, b => [b]

/-- so many elements, and as many as may be made of them, have room; told so that an open number is not reckoned -/
def smallB (need bytes : Nat) : Bool := Nat.ble (512 * bytes) 281474976710656 && Nat.ble need ((281474976710656 / bytes - 512) / 2)

def evAppend (G : Ctx) (st : St) (st0 st1 : Nat) (s x : CV) : T Out :=
  match G.ti st0, G.ti st1 with
  | some { kind := .slice e, .. }, some ti1 => match G.ti e with
    | none => .bad
    | some ei =>
      let sz := ei.size
      let small (need : Nat) : Bool := smallB need ei.bytes
      match Nat.beq sz 0 || Nat.beq ei.bytes 0 with
      | true => .bad
      | false =>
      let src : T (Src × List Nat) := match ti1.kind, x with
        | .int _, .f (.lit (.int _ l)) =>
          .need (decide (0 ≤ l ∧ l * ei.bytes ≤ 281474976710656)) (match G.sym with
            | false => .ret (.flat l.toNat (List.replicate l.toNat (zeros ei)).flatten, [])
            | true => .ret (.fn l.toNat (fun _ => ei.zero.map .lit), []))
        | .slice _, x => srcOf st.H sz x
        | .str, x => srcOf st.H sz x
        | _, _ => .bad
      src.bind fun (src, fx) =>
      -- to nothing
      let fresh (dflt : CV) : T Out := .br (Nat.beq src.n 0) (.ret ⟨.one dflt, st.H, st.nx, false, fx, []⟩) (.need (small src.n) (grown st [] sz src fx))
      match s with
      | .f (.lit (.slice none 0 0)) => fresh s
      | .f (.z0 _) => fresh s
      | .sl nil b m a j len cap ex s' => match Nat.beq s' sz with
        | false => .bad
        | true =>
          -- nothing is appended
          .br (Nat.beq src.n 0) (.ret ⟨.one (.sl nil b m a j len cap ex s'), st.H, st.nx, false, fx, []⟩) (
          .br (Nat.ble (len + src.n) cap)
            -- there is room
            (.need (!nil) (match m, src with
              | 0, .flat n l => ((st.H.get b).wr 0 a (j + len * sz) l).bind fun o =>
                  st.H.putK b o fun H => .ret ⟨.one (.sl nil b m a j (len + n) cap ex s'), H, st.nx, false || src.esc (b + 1), b :: fx, [b]⟩
              | _, _ => .bad))
            (.need (small (len + src.n)) ((srcOf st.H sz s).bind fun (old, fo) =>
              match old.app sz src with
              | some all => grown st (killOf ex b) sz all (b :: fx)
              | none => .bad)))
      | _ => .bad
  | _, _ => .bad

/-- n cells from an own slice's begin on are written -/
def evCopy (G : Ctx) (st : St) (st0 : Nat) (d x : CV) : T Out :=
  match G.ti st0 with
  | some { kind := .slice e, .. } => match G.ti e with
    | none => .bad
    | some ei => (srcOf st.H ei.size x).bind fun (src, fx) =>
      match d, src with
      | .f (.lit (.slice none 0 0)), _ => .ret ⟨.one (.int .i64 0), st.H, st.nx, false, fx, []⟩
      | .f (.z0 _), _ => .ret ⟨.one (.int .i64 0), st.H, st.nx, false, fx, []⟩
      | .sl nil b 0 a j len cap ex s, .flat n l => match Nat.beq s ei.size with
        | false => .bad
        | true => let k := Nat.min n len
          .need (!nil) (((st.H.get b).wr 0 a j (l.take (k * ei.size))).bind fun o =>
            st.H.putK b o fun H => .ret ⟨.one (.int .i64 k), H, st.nx, false || src.esc (b + 1), b :: fx, [b]⟩)
      | _, _ => .bad
  | _ => .bad

def evClear (G : Ctx) (st : St) (st0 : Nat) (d : CV) : T Out :=
  match G.ti st0 with
  | some { kind := .slice e, .. } => match G.ti e with
    | none => .bad
    | some ei => match d with
      | .f (.lit (.slice none 0 0)) => .ret ⟨.tup [], st.H, st.nx, false, [], []⟩
      | .f (.z0 _) => .ret ⟨.tup [], st.H, st.nx, false, [], []⟩
      | .f (.fs _ _ 0 _) => .ret ⟨.tup [], st.H, st.nx, false, [], []⟩
      | .sl nil b 0 a j len cap ex s => match Nat.beq s ei.size with
        | false => .bad
        | true => .need (!nil) (((st.H.get b).wr 0 a j (List.replicate len (zeros ei)).flatten).bind fun o =>
            st.H.putK b o fun H => .ret ⟨.tup [], H, st.nx, false, [b], [b]⟩)
      | .sl nil b (m + 1) a 0 len cap ex s => match Nat.beq s ei.size && Nat.beq (m + 1) s, st.H.get b with
        | true, .arr live z N e => match Nat.beq z s with
          | true => .need (!nil && live && Nat.ble (a + len) N) (st.H.putK b (.arr live z N fun i => iteL (Nat.ble a i && Nat.ble (i + 1) (a + len)) (ei.zero.map .lit) (e i)) fun H => .ret ⟨.tup [], H, st.nx, false, [b], [b]⟩)
          | false => .bad
        | _, _ => .bad
      | _ => .bad
  | _ => .bad

def evLen (G : Ctx) (t : Nat) (x : SV) : T CV :=
  match G.ti t with
  | none => .bad
  | some ti =>
  match ti.kind, x with
  | .str, .v (.one (.f (.lit (.string s)))) => .ret (.int .i64 s.size)
  | .array n _, _ => .ret (.int .i64 n)
  | .slice _, .v (.one (.f (.lit (.slice none n _)))) => .ret (.int .i64 n)
  | .slice _, .v (.one (.f (.z0 _))) => .ret (.int .i64 0)
  | .slice _, .v (.one (.f (.fs _ _ n _))) => .ret (.int .i64 n)
  | .slice _, .v (.one (.sl _ _ _ _ _ len _ _ _)) => .ret (.int .i64 len)
  | _, _ => .bad

/-- a capacity that is known -/
def evCap (G : Ctx) (t : Nat) (x : SV) : T CV :=
  match G.ti t with
  | none => .bad
  | some ti =>
  match ti.kind, x with
  | .slice _, .v (.one (.f (.lit (.slice none _ n)))) => .ret (.int .i64 n)
  | .slice _, .v (.one (.f (.z0 _))) => .ret (.int .i64 0)
  | .slice _, .v (.one (.sl _ _ _ _ _ _ cap true _)) => .ret (.int .i64 cap)
  | _, _ => .bad

def evMax (mx : Bool) : List SV → T CV
  | .v (.one (.f (.lit (.int k a)))) :: r => go k a r
  | _ => .bad
where
  go (k : IntKind) (a : Int) : List SV → T CV
    | [] => .ret (.int k a)
    | .v (.one (.f (.lit (.int _ b)))) :: r => go k (match mx with | true => if b > a then b else a | false => if b < a then b else a) r
    | _ => .bad

/-- a map's entry under a key -/
def findM (k : Value) : List (Value × Value) → Nat → T (Option (Nat × Value))
  | [], _ => .ret none
  | e :: r, i => match k, e.1 with
    | .int ka a, .int kb b => .need (decide (ka = kb)) (.br (a == b) (.ret (some (i, e.2))) (findM k r (i + 1)))
    | .string a, .string b => .br (a.toList == b.toList) (.ret (some (i, e.2))) (findM k r (i + 1))
    | .bool a, .bool b => .br (a == b) (.ret (some (i, e.2))) (findM k r (i + 1))
    | _, _ => .bad

def keyKind : TK → Value → Bool
  | .int k, .int k' _ => decide (k' = k)
  | .str, .string _ => true
  | .bool, .bool _ => true
  | _, _ => false

/-! maps whose entries are not told one by one -/
def keyOk (k e : Value) : Bool := match k, e with
  | .int ka _, .int kb _ => decide (ka = kb)
  | .string _, .string _ => true
  | .bool _, .bool _ => true
  | _, _ => false
def keyEq (k e : Value) : Bool := match k, e with
  | .int _ a, .int _ b => a == b
  | .string a, .string b => a.toList == b.toList
  | .bool a, .bool b => a == b
  | _, _ => false
def keysOk (k : Value) (es : List (Value × Value)) : Bool := es.all fun e => keyOk k e.1
def hasM (k : Value) (es : List (Value × Value)) : Bool := es.any fun e => keyEq k e.1
def valM (k : Value) : List (Value × Value) → Option Value
  | [] => none
  | e :: r => match keyEq k e.1 with | true => some e.2 | false => valM k r
def setM (k v : Value) : List (Value × Value) → List (Value × Value)
  | [] => [(k, v)]
  | e :: r => match keyEq k e.1 with | true => (k, v) :: r | false => e :: setM k v r
def intM (k : Value) (es : List (Value × Value)) : Int := match valM k es with | some (.int _ n) => n | _ => 0
def truM (k : Value) (es : List (Value × Value)) : Bool := match valM k es with | some (.bool b) => b | _ => false
def intsOk (kd : IntKind) (es : List (Value × Value)) : Bool := es.all fun e => match e.2 with | .int kd' _ => decide (kd' = kd) | _ => false
def trusOk (es : List (Value × Value)) : Bool := es.all fun e => match e.2 with | .bool _ => true | _ => false

/-- what is looked up in such a map, and whether it is there -/
def lookS (ei : TK) (zv k : Value) (es : List (Value × Value)) (t : Value → Bool → T Out) : T Out :=
  match ei, zv with
  | .int kd, .int kd' n => match decide (kd' = kd) && n == 0 with
    | true => .need (keysOk k es && intsOk kd es) (t (.int kd (intM k es)) (hasM k es))
    | false => .bad
  | .bool, .bool false => .need (keysOk k es && trusOk es) (t (.bool (truM k es)) (hasM k es))
  | _, _ => .bad

def evLookup (G : Ctx) (st : St) (t : Nat) (m : CV) (k : Value) (ok : Bool) : T Out :=
  match G.ti t with
  | some { kind := .map kt et, .. } => match G.ti kt, G.ti et with
    | some ki, some ei => match keyKind ki.kind k, ei.zero with
      | true, [zv] =>
        let tell (r : Option (Nat × Value)) (fp : List Nat) : T Out := match r with
          | some (_, v) => .need (oneCell v) (.ret ⟨match ok with | true => .tup [.one (.f (.lit v)), .one (.f (.lit (.bool true)))] | false => .v (.one (.f (.lit v))), st.H, st.nx, false, fp, []⟩)
          | none => .need (!ei.agg) (.ret ⟨match ok with | true => .tup [.one (.f (.lit zv)), .one (.f (.lit (.bool false)))] | false => .v (.one (.f (.lit zv))), st.H, st.nx, false, fp, []⟩)
        match m with
        | .mp b => match st.H.get b with
          | .map es => match G.sym with
            | false => (findM k es 0).bind fun r => tell r [b]
            | true => lookS ei.kind zv k es fun v b' => .ret ⟨match ok with | true => .tup [.one (.f (.lit v)), .one (.f (.lit (.bool b')))] | false => .v (.one (.f (.lit v))), st.H, st.nx, false, [b], []⟩
          | _ => .bad
        | .f (.lit (.map none)) => tell none []
        | _ => .bad
      | _, _ => .bad
    | _, _ => .bad
  | _ => .bad

def evMapUpdate (G : Ctx) (st : St) (t : Nat) (m : CV) (k v : Value) : T Out :=
  match G.ti t with
  | some { kind := .map kt _, .. } => match G.ti kt with
    | some ki => match keyKind ki.kind k, m with
      | true, .mp b => match st.H.get b with
        | .map es => match G.sym with
          | false => (findM k es 0).bind fun r =>
            let es' := match r with | some (i, _) => es.set i (k, v) | none => es ++ [(k, v)]
            st.H.putK b (.map es') fun H => .ret ⟨.top, H, st.nx, false, [b], [b]⟩
          | true => .need (keysOk k es) (st.H.putK b (.map (setM k v es)) fun H => .ret ⟨.top, H, st.nx, false, [b], [b]⟩)
        | _ => .bad
      | _, _ => .bad
    | none => .bad
  | _ => .bad

/-- a row of bytes -/
def bytesOf? : List CV → Option (List UInt8)
  | [] => some []
  | .f (.lit (.int .u8 n)) :: r => match bytesOf? r with | some l => some (UInt8.ofNat n.toNat :: l) | none => none
  | _ :: _ => none

def strLit : CV → Bool
  | .f (.lit (.string _)) => true
  | _ => false

def evConvert (G : Ctx) (st : St) (src dst : Nat) (x : CV) : T Out :=
  match G.ti src, G.ti dst with
  | some a, some b =>
    match a.kind, b.kind, x with
    | .int _, .int k, .f (.lit (.int _ n)) => pure1 st (.one (.int k (k.wrap n)))
    | .str, .str, .f (.lit (.string s)) => pure1 st (.one (.str s))
    | .str, .slice e, .f (.lit (.string s)) => match G.ti e with
      | some { kind := .int .u8, .. } => newBlock st (s.data.toList.map fun c => .int .u8 c.toNat) fun b => .one (.sl false b 0 0 0 s.size s.size false 1)
      | _ => .bad
    | .slice e, .str, x => match G.ti e with
      | some { kind := .int .u8, .. } => match strLit x with
        | true => .bad
        | false => (srcOf st.H 1 x).bind fun (src, fp) => match src with
          | .flat _ l => match bytesOf? l with
            | some bs => .ret ⟨.one (.str ⟨bs.toArray⟩), st.H, st.nx, false, fp, []⟩
            | none => .bad
          | _ => .bad
      | _ => .bad
    | _, _, _ => .bad
  | _, _ => .bad

def fill (place : Nat → Option (Nat × Nat)) (cells : List CV) : List (Nat × List CV) → Option (List CV)
  | [] => some cells
  | (i, v) :: rest =>
    match place i with
    | none => none
    | some (off, size) =>
      match Nat.beq v.length size && Nat.ble (off + v.length) cells.length with
      | true => fill place (setRange cells off v) rest
      | false => none

def partsOf (st : St) : List (Nat × Operand) → Option (List (Nat × List CV))
  | [] => some []
  | (i, x) :: r => match st.val x, partsOf st r with
    | .v a, some l => some ((i, a.cells) :: l)
    | _, _ => none

def addrs? : List SV → Option (List (Nat × Nat × Nat × Nat))
  | [] => some []
  | .v (.one (.ptr b m i j)) :: r => match addrs? r with | some l => some ((b, m, i, j) :: l) | none => none
  | _ :: _ => none

def avs? : List SV → Option (List AV)
  | [] => some []
  | .v a :: r => match avs? r with | some l => some (a :: l) | none => none
  | _ :: _ => none

abbrev CallF := Nat → List AV → Heap → Nat → T CallOut

/-- blocks that lead on from a value -/
def CV.refs : CV → List Nat
  | .f _ => []
  | .ptr b _ _ _ => [b]
  | .sl _ b _ _ _ _ _ _ _ => [b]
  | .mp b => [b]
  | .fn _ l => l.map (·.1)

def Ob.refs : Ob → List Nat
  | .cells l => l.flatMap CV.refs
  | .arr _ _ _ _ => []
  | .map _ => []
  | .dead => []

def reach (H : Heap) : Nat → List Nat → List Nat → List Nat
  | 0, _, seen => seen
  | _ + 1, [], seen => seen
  | n + 1, b :: r, seen => match seen.any (Nat.beq b) with
    | true => reach H n r seen
    | false => reach H n ((H.get b).refs ++ r) (b :: seen)

/-- a call: of a region that draws it sees what its arguments lead to alone -/
def evCallOp (call : CallF) (draw : Bool) (st : St) (g : Nat) (args : List AV) : T Out :=
  match draw with
  | false => (call g args st.H st.nx).bind fun o =>
      .ret ⟨o.v, o.H, o.nx, false || o.esc, st.H.map (·.1), o.wr ++ (List.range (o.nx - st.nx)).map (st.nx + ·)⟩
  | true =>
    let ids := (reach st.H 4000 (args.flatMap fun a => a.cells.flatMap CV.refs) []).filter fun b => Nat.ble (b + 1) st.nx
    let inn := st.H.filter fun e => ids.any (Nat.beq e.1)
    let out := st.H.filter fun e => !(ids.any (Nat.beq e.1))
    (call g args inn st.nx).bind fun o =>
      let new := (List.range (o.nx - st.nx)).map (st.nx + ·)
      .ret ⟨o.v, (o.H.filter fun e => (ids ++ new).any (Nat.beq e.1)) ++ out, o.nx, false || o.esc, ids, (ids.filter fun b => o.wr.any (Nat.beq b)) ++ new⟩

/-- how many entries a map has -/
def evLenM (G : Ctx) (st : St) (t b : Nat) : T Out :=
  match G.ti t with
  | some ti => match ti.kind, st.H.get b with
    | .map _ _, .map es => .ret ⟨.v (.one (.f (.lit (.int .i64 es.length)))), st.H, st.nx, false, [b], []⟩
    | _, _ => .bad
  | none => .bad

def evBuiltin (G : Ctx) (st : St) (b : Builtin) (ts : List Nat) (args : List SV) : T Out :=
  match b, ts, args with
  | .append, [t0, t1], [.v (.one s), .v (.one x)] => evAppend G st t0 t1 s x
  | .copy, t0 :: _, [.v (.one d), .v (.one x)] => evCopy G st t0 d x
  | .clear, t0 :: _, [.v (.one d)] => evClear G st t0 d
  | .len, t0 :: _, [.v (.one (.mp b))] => evLenM G st t0 b
  | .len, t0 :: _, [x] => (evLen G t0 x).bind fun v => pure1 st (.one v)
  | .cap, t0 :: _, [x] => (evCap G t0 x).bind fun v => pure1 st (.one v)
  | .max, _, l => (evMax true l).bind fun v => pure1 st (.one v)
  | .min, _, l => (evMax false l).bind fun v => pure1 st (.one v)
  | _, _, _ => .bad

def evOp (G : Ctx) (call : CallF) (draw : Bool) (st : St) (o : Oper) : T Out :=
  match o.op with
  | .move x | .assign x => pure1 st (st.val x)
  | .pick c a b => split st c fun t st => pure1 st (st.val (match t with | true => a | false => b))
  | .alloc t => match G.ti t with
    | some i => newBlock st (zeros i) fun b => .one (.ptr b 0 0 0)
    | none => .bad
  | .box t x => match st.val x with
    | .v a => newBlock st a.cells fun b => .one (.ptr b 0 0 0)
    | _ => .bad
  | .build t parts => match G.ti t, partsOf st parts.toList with
    | some i, some ps => match i.kind with
      | .struct fs => match fill (fun k => (fs[k]?).map fun f => (f.1, f.2.1)) (zeros i) ps with
        | some l => pure1 st (.v (.agg l))
        | none => .bad
      | .array _ e => match G.ti e with
        | some ei => match fill (fun k => some (k * ei.size, ei.size)) (zeros i) ps with
          | some l => pure1 st (.v (.agg l))
          | none => .bad
        | none => .bad
      | _ => .bad
    | _, _ => .bad
  | .buildSlice t len parts => match G.ti t, partsOf st parts.toList with
    | some { kind := .slice e, .. }, some ps => match G.ti e with
      | some ei => match Nat.ble (len * ei.size) (2 ^ 24), fill (fun k => some (k * ei.size, ei.size)) (List.replicate len (zeros ei)).flatten ps with
        | true, some l => newBlock st l fun b => .one (.sl false b 0 0 0 len len true ei.size)
        | _, _ => .bad
      | none => .bad
    | _, _ => .bad
  | .load t x => match G.ti t, st.val x with
    | some i, .v (.one (.ptr b m a j)) => ((st.H.get b).rd m a j i.size).bind fun l =>
      match ofCells i.agg l with
      | some v => .ret ⟨.v v, st.H, st.nx, false, [b], []⟩
      | none => .bad
    | some i, .v (.one (.f (.fp l))) =>
      let r := l.take i.size
      match Nat.beq r.length i.size, ofCells i.agg (r.map .f) with
      | true, some v => pure1 st (.v v)
      | _, _ => .bad
    | _, _ => .bad
  | .store t x y => match G.ti t, st.val x, st.val y with
    | some i, .v (.one (.ptr b m a j)), .v v => match Nat.beq v.cells.length i.size with
      | true => ((st.H.get b).wr m a j v.cells).bind fun ob =>
        st.H.putK b ob fun H => .ret ⟨.top, H, st.nx, false || v.cells.any (CV.beyond (b + 1)), [b], [b]⟩
      | false => .bad
    | _, _, _ => .bad
  | .nilCheck x => match st.val x with
    | .v (.one (.ptr b m a j)) => pure1 st (.one (.ptr b m a j))
    | .v (.one (.f (.fp l))) => pure1 st (.one (.f (.fp l)))
    | .v (.one (.fn g c)) => pure1 st (.one (.fn g c))
    | _ => .bad
  | .binOp op t x y _ => match st.val x, st.val y with
    | .v a, .v b => (evBin G op t a b).bind fun v => pure1 st (.v v)
    | _, _ => .bad
  | .unOp op _ x => match st.val x with
    | .v (.one a) => (evUn op a).bind fun v => pure1 st (.one v)
    | _ => .bad
  | .convert a b x => match st.val x with
    | .v (.one v) => evConvert G st a b v
    | _ => .bad
  | .makeFunc fn first captured => match fn, first.toList, addrs? (captured.toList.map st.val) with
    | .func g, [], some l => pure1 st (.one (.fn g l))
    | _, _, _ => .bad
  | .makeSlice t l c => match G.ti t, st.val l, st.val c with
    | some { kind := .slice e, .. }, .v (.one (.f (.lit (.int .i64 l)))), .v (.one (.f (.lit (.int .i64 c)))) => match G.ti e with
      | some ei => .need (decide (0 ≤ l ∧ l ≤ c ∧ c * ei.bytes ≤ 281474976710656 ∧ c ≤ 9223372036854775807)) (match Nat.beq ei.size 0, G.sym with
        | true, _ => .bad
        | false, false => newBlock st (List.replicate c.toNat (zeros ei)).flatten fun b => .one (.sl false b 0 0 0 l.toNat c.toNat true ei.size)
        | false, true => .ret ⟨.one (.sl false st.nx ei.size 0 0 l.toNat c.toNat true ei.size), (st.nx, .arr true ei.size c.toNat fun _ => ei.zero.map .lit) :: st.H, st.nx + 1, false, [], [st.nx]⟩)
      | none => .bad
    | _, _, _ => .bad
  | .makeMap t r => match G.ti t, r with
    | some { kind := .map _ _, .. }, none => .ret ⟨.one (.mp st.nx), (st.nx, .map []) :: st.H, st.nx + 1, false, [], [st.nx]⟩
    | some { kind := .map _ _, .. }, some x => match st.val x with
      | .v (.one (.f (.lit (.int _ _)))) => .ret ⟨.one (.mp st.nx), (st.nx, .map []) :: st.H, st.nx + 1, false, [], [st.nx]⟩
      | _ => .bad
    | _, _ => .bad
  | .lookup t m k ok => match st.val m, st.val k with
    | .v (.one m), .v (.one (.f (.lit k))) => evLookup G st t m k ok
    | _, _ => .bad
  | .mapUpdate t m k v | .insert t m k v => match st.val m, st.val k, st.val v with
    | .v (.one m), .v (.one (.f (.lit k))), .v (.one (.f (.lit v))) => evMapUpdate G st t m k v
    | _, _, _ => .bad
  | .slice t x lo hi mx => match st.val x with
    | .v (.one v) => (evSlice G st.H t v (lo.map st.val) (hi.map st.val) (mx.map st.val)).bind fun (v, fp) => .ret ⟨.one v, st.H, st.nx, false, fp, []⟩
    | _ => .bad
  | .fieldAddr t x fld => match G.ti t, st.val x with
    | some { kind := .struct fs, .. }, .v (.one v) => match fs[fld]? with
      | some (off, size, _, _) => match Nat.beq size 0, v with
        | false, .ptr b m a j => pure1 st (.one (.ptr b m a (j + off)))
        | false, .f (.fp l) => pure1 st (.one (.f (.fp (l.drop off))))
        | _, _ => .bad
      | none => .bad
    | _, _ => .bad
  | .field t x fld => match st.val x with
    | .v (.agg l) => match evField G t l fld with
      | some v => pure1 st (.v v)
      | none => .bad
    | _ => .bad
  | .indexAddr t x i => match st.val x, st.val i with
    | .v (.one v), .v (.one (.f (.lit (.int _ n)))) => (evIndexAddr G t v n).bind fun v => pure1 st (.one v)
    | _, _ => .bad
  | .index t x i => match st.val x, st.val i with
    | .v v, .v (.one (.f (.lit (.int _ n)))) => (evIndex G t v n).bind fun v => pure1 st (.v v)
    | _, _ => .bad
  | .extract x i => match st.val x with
    | .tup l => match l[i]? with
      | some v => pure1 st (.v v)
      | none => .bad
    | _ => .bad
  | .call c => match c.callee with
    | .builtin b => evBuiltin G st b c.argTypes.toList (c.args.toList.map st.val)
    | .value f => match st.val f, avs? (c.args.toList.map st.val) with
      | .v (.one (.fn g cap)), some args => match G.fi g with
        | some _ => evCallOp call draw st g (args ++ cap.map fun x => .one (.ptr x.1 x.2.1 x.2.2.1 x.2.2.2))
        | none => .bad
      | _, _ => .bad
    | _ => .bad
  | _ => .bad

/-- numbers are reckoned at once, where the mode says that all is closed -/
def forceV {β : Type} (sym : Bool) (v : SV) (k : SV → β) : β :=
  match sym, v with
  | false, .v (.one (.f (.lit (.int kd (.ofNat 0))))) => k (.v (.one (.f (.lit (.int kd (.ofNat 0))))))
  | false, .v (.one (.f (.lit (.int kd (.ofNat (n + 1)))))) => k (.v (.one (.f (.lit (.int kd (.ofNat (n + 1)))))))
  | false, .v (.one (.f (.lit (.int kd (.negSucc 0))))) => k (.v (.one (.f (.lit (.int kd (.negSucc 0))))))
  | false, .v (.one (.f (.lit (.int kd (.negSucc (n + 1)))))) => k (.v (.one (.f (.lit (.int kd (.negSucc (n + 1)))))))
  | false, .v (.one (.f (.lit (.bool true)))) => k (.v (.one (.f (.lit (.bool true)))))
  | false, .v (.one (.f (.lit (.bool false)))) => k (.v (.one (.f (.lit (.bool false)))))
  | _, v => k v

def isNone : SV → Bool
  | .tup [] => true
  | _ => false

/-- operations, in the text's order -/
def evOps (G : Ctx) (call : CallF) (N : Nat) (all : List Oper) : List Oper → St → T St
  | [], st => .ret st
  | o :: r, st =>
    match (match o.dst with | some d => Nat.ble (d + 1) N | none => true) with
    | false => .bad
    | true =>
    match o.guard with
    | none => (evOp G call false st o).bind fun u => forceV G.sym u.v fun v => evOps G call N all r ((st.up u).put o.dst v)
    | some (j, want) =>
      match (all[j]?).bind (·.dst) with
      | none => .bad
      | some t => match isNone (st.sl.get t) with
        | true => evOps G call N all r (st.put o.dst (.tup []))
        | false => split st (.tmp t) fun c st => match (match c, want with | true, true => true | false, false => true | _, _ => false) with
        | true => (evOp G call false st o).bind fun u => forceV G.sym u.v fun v => evOps G call N all r ((st.up u).put o.dst v)
        | false => evOps G call N all r (st.put o.dst (.tup []))

/-- what one operation of a region that draws looks at, writes, makes, and leads to -/
structure Eff where
  fp : List Nat
  wr : List Nat
  n0 : Nat
  n1 : Nat
  rf : List Nat

def SV.refs : SV → List Nat
  | .v a => a.cells.flatMap CV.refs
  | .tup l => l.flatMap fun a => a.cells.flatMap CV.refs
  | .top => []

def effOf (n0 : Nat) (u : Out) : Eff := ⟨u.fp, u.wr, n0, u.nx, u.v.refs ++ u.wr.flatMap fun b => (u.H.get b).refs⟩

def okOut (n0 : Nat) (u : Out) : Bool :=
  Nat.ble n0 u.nx && (u.wr.all fun b => Nat.ble (b + 1) u.nx) && (List.range (u.nx - n0)).all fun i => u.wr.any (Nat.beq (n0 + i))

/-- the slots that are kept -/
def pruneK {β : Type} (s : Slots) : List Nat → (Slots → β) → β
  | [], k => k []
  | t :: r, k => match s.get t with
    | .top => pruneK s r k
    | .v x => pruneK s r fun s' => k ((t, .v x) :: s')
    | .tup l => pruneK s r fun s' => k ((t, .tup l) :: s')

/-- operations of a region that draws: each is run with what it looks at alone -/
def evDraw (G : Ctx) (call : CallF) (N : Nat) (ops : Array Oper) : List Oper → St → List Eff → T (St × List Eff)
  | [], st, es => .ret (st, es)
  | o :: r, st, es =>
    match (match o.dst with | some d => Nat.ble (d + 1) N | none => true) with
    | false => .bad
    | true =>
    let run : T (St × List Eff) := pruneK st.sl (o.looksAt ops) fun s => (evOp G call true ⟨s, st.H, st.nx, false, st.base, []⟩ o).bind fun u => match okOut st.nx u with
      | true => forceV G.sym u.v fun v => evDraw G call N ops r ((st.up u).put o.dst v) (effOf st.nx u :: es)
      | false => .bad
    match o.guard with
    | none => run
    | some (j, want) =>
      match (ops.toList[j]?).bind (·.dst) with
      | none => .bad
      | some t => match st.sl.get t with
        | .v (.one (.f (.lit (.bool c)))) => match want with
          | true => .br c run (evDraw G call N ops r (st.put o.dst (.tup [])) (⟨[], [], st.nx, st.nx, []⟩ :: es))
          | false => .br c (evDraw G call N ops r (st.put o.dst (.tup [])) (⟨[], [], st.nx, st.nx, []⟩ :: es)) run
        | .tup [] => evDraw G call N ops r (st.put o.dst (.tup [])) (⟨[], [], st.nx, st.nx, []⟩ :: es)
        | _ => .bad

def meets (a b : List Nat) : Bool := a.any fun x => b.any (Nat.beq x)

/-- may neither come before the other? -/
def clash (a b : Eff) : Bool := meets a.wr b.fp || meets a.wr b.wr || meets a.fp b.wr

/-- the first region of a code: a loop's name -/
def rid : Code → Option Nat
  | .region id _ _ => some id
  | .seq a b => match rid a with | some n => some n | none => rid b
  | .cond _ a b => match rid a with | some n => some n | none => rid b
  | .block _ c | .loop c | .scope c => rid c
  | _ => none

/-- a region's own name -/
def rid0 : Code → Option Nat
  | .region id _ _ => some id
  | _ => none

def edges (o : Oper) : List Nat := (o.after.toList.filter (Region.binds .any)).map (·.on)

/-- for each operation those that come before it, as a number's bits -/
def closure : List Oper → List Nat → List Nat
  | [], acc => acc
  | o :: r, acc => closure r (acc ++ [(edges o).foldl (fun s e => s ||| (1 <<< e) ||| acc.getD e 0) 0])

def okPairs (all : List Oper) (ops : Array Oper) (es : List Eff) (bf : List Nat) (n : Nat) : Bool :=
  (List.range n).all fun j => (List.range j).all fun i =>
    (bf.getD j 0).testBit i ||
    (match all[i]?, all[j]?, es[i]?, es[j]? with
     | some oi, some oj, some ei, some ej => oi.apart ops oj && !(clash ei ej)
     | _, _, _, _ => false)

/-- may the text's order stand for every other one? 'es': the effects, in order -/
def okRefs (n0 : Nat) (es : List Eff) (bf : List Nat) (n : Nat) : Bool :=
  (List.range n).all fun k => match es[k]? with
    | none => false
    | some e => e.rf.all fun b => Nat.ble (b + 1) n0 || (List.range (k + 1)).any fun i => (Nat.beq i k || (bf.getD k 0).testBit i) &&
      (match es[i]? with | some e' => Nat.ble e'.n0 b && Nat.ble (b + 1) e'.n1 | none => false)

def okDraw (n0 : Nat) (ops : Array Oper) (es : List Eff) : Bool :=
  let all := ops.toList
  let bf := closure all []
  Region.noSelect ops && Nat.beq es.length all.length && (all.zipIdx.all fun (o, i) => (edges o).all fun e => Nat.ble (e + 1) i) &&
    okPairs all ops es bf all.length && okRefs n0 es bf all.length

def ownRefs (n : Nat) : SV → Bool
  | .v a => a.cells.any (CV.beyond n)
  | .tup l => l.any fun a => a.cells.any (CV.beyond n)
  | .top => false

/-- what leaves nothing behind is forgotten -/
def popK {β : Type} (n0 : Nat) (u : CallOut) (k : CallOut → β) : β :=
  match u.esc || ownRefs n0 u.v with
  | true => k u
  | false => go u.H k
where
  go : Heap → (CallOut → β) → β
    | [], k => k ⟨u.v, [], n0, false, u.wr⟩
    | (b, o) :: r, k => match Nat.ble n0 b with
      | true => go r k
      | false => go r fun c => k { c with H := (b, o) :: c.H }

def resultsOf (G : Ctx) (st : St) : List ResultVar → T (List AV)
  | [] => .ret []
  | .tmp t :: r => match st.sl.get t with
    | .v a => (resultsOf G st r).bind fun l => .ret (a :: l)
    | _ => .bad
  | .cell x t :: r => match G.ti t, st.sl.get x with
    | some i, .v (.one (.ptr b m a j)) => ((st.H.get b).rd m a j i.size).bind fun l => match ofCells i.agg l with
      | some v => (resultsOf G st r).bind fun l => .ret (v :: l)
      | none => .bad
    | _, _ => .bad

def outV : List AV → SV
  | [x] => .v x
  | l => .tup l

def argSlots : Nat → List AV → Slots
  | _, [] => []
  | n, a :: r => (n, .v a) :: argSlots (n + 1) r

/-- what a function comes to, its code's run being given -/
def evFn (G : Ctx) (run : Nat → Nat → Code → St → T (Ex × St)) (g : Nat) (args : List AV) (H : Heap) (nx : Nat) : T CallOut :=
  match G.fi g with
  | none => .bad
  | some fn => match fn.body, Nat.ble args.length fn.ntmps with
    | some c, true => (run g fn.ntmps c ⟨argSlots 0 args, H, nx, false, nx, []⟩).bind fun (e, st) => match e with
      | .exit _ => .bad
      | _ => (resultsOf G st fn.results.toList).bind fun l =>
        popK nx ⟨outV l, st.H, st.nx, st.esc, st.wr⟩ .ret
    | _, _ => .bad

/-- a call: what is known of it, or its run -/
def evKnown (G : Ctx) (run : Nat → Nat → Code → St → T (Ex × St)) (g : Nat) (args : List AV) (H : Heap) (nx : Nat) : T CallOut :=
  match G.sum g with
  | some s => s args H nx
  | none => evFn G run g args H nx

/-- less is said, where it is asked for -/
def hook (G : Ctx) (F id : Nat) (st : St) : T St := match G.pre F id with
  | some p => p st
  | none => .ret st

def ev (G : Ctx) (live : Nat → Nat → Option (List Nat)) : Nat → Nat → Nat → Code → St → T (Ex × St)
  | 0, _, _, _, _ => .bad
  | n + 1, F, N, code, st =>
    match code with
    | .skip | .label _ => .ret (.normal, st)
    | .seq a b => match (rid0 a).bind (G.ls F) with
     | some L => L N (.seq a b) st
     | none => (ev G live n F N a st).bind fun (e, st) => match e with
      | .normal => ev G live n F N b st
      | e => .ret (e, st)
    | .cond c a b => split st c fun t st => match t with | true => ev G live n F N a st | false => ev G live n F N b st
    | .block id c => (ev G live n F N c st).bind fun (e, st) => match e with
      | .exit k => match Nat.beq k id with | true => .ret (.normal, st) | false => .ret (.exit k, st)
      | e => .ret (e, st)
    | .loop c => match (rid c).bind (G.ls F) with
     | some L => L N (.loop c) st
     | none =>
      let go (s : Slots) : T (Ex × St) := (ev G live n F N c { st with sl := s }).bind fun (e, st) => match e with
        | .normal => ev G live n F N (.loop c) st
        | e => .ret (e, st)
      match (rid c).bind (live F) with
      | some l => pruneK st.sl l go
      | none => go st.sl
    | .region id ops false => (hook G F id st).bind fun st => (evOps G (evKnown G (ev G live n)) N ops.toList ops.toList st).bind fun st => .ret (.normal, st)
    | .region id ops true => (hook G F id st).bind fun st => (evDraw G (evKnown G (ev G live n)) N ops ops.toList st []).bind fun (st', es) =>
      match okDraw st.nx ops es.reverse with | true => .ret (.normal, st') | false => .bad
    | .exit id => .ret (.exit id, st)
    | .ret => .ret (.ret, st)
    | _ => .bad

def evCall (G : Ctx) (live : Nat → Nat → Option (List Nat)) (n : Nat) : Nat → List AV → Heap → Nat → T CallOut := evFn G (ev G live n)

end Go.Proofs.YtbobakclbdaepaaGreat.En
