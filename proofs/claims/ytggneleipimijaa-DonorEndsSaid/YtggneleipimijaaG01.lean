/- Texts put together: E0, E1, E2. -/
import Derived.Orders
import Derived.Laws.Sem
import Derived.KernelRfl
import Derived.Laws.Cells
import Derived.Laws.IdiomCopy
import Derived.Laws.World
import Derived.Laws.Rows
import Derived.Below
/- The engine, part 0: abstract values and heaps, and an evaluator of the model's code over them. Nothing is proved here. -/
namespace Go.Proofs.Ytggneleipimijaa.En
open Go
set_option linter.unusedVariables false

/-- What a run may come to; 'br' keeps a Bool that may be symbolic. -/
inductive T (α : Type) where
  | ret (a : α)
  | br (b : Bool) (t e : T α)
  | bad

def T.bind {α β : Type} : T α → (α → T β) → T β
  | .ret a, k => k a
  | .br b t e, k => .br b (t.bind k) (e.bind k)
  | .bad, _ => .bad

def T.res {α : Type} : T α → Option α
  | .ret a => some a
  | .br b t e => match b with | true => t.res | false => e.res
  | .bad => none

/-- only if -/
def T.need {α : Type} (b : Bool) (t : T α) : T α := .br b t .bad

/-- A value whose memory, if it has any, is never written any more. -/
inductive FV where
  | lit (v : Value)
  | z0 (nil : Bool)
  | fs (nil : Bool) (sz n : Nat) (e : Nat → List FV)
  | fp (l : List FV)

/-- A cell's value. An own block's address is (block, m, i, j): i * m + j cells from its begin. -/
inductive CV where
  | f (x : FV)
  | ptr (b m i j : Nat)
  | sl (nil : Bool) (b m i j len cap : Nat) (ex : Bool) (sz : Nat)
  | mp (b : Nat)
  | fn (g : Nat) (cap : List (Nat × Nat × Nat × Nat))

inductive AV where
  | one (x : CV)
  | agg (l : List CV)

inductive SV where
  | v (x : AV)
  | tup (l : List AV)
  | top

/-- An own block. -/
inductive Ob where
  | cells (l : List CV)
  | arr (live : Bool) (sz n : Nat) (e : Nat → List FV)
  | map (es : List (Value × Value))
  | dead

abbrev Heap := List (Nat × Ob)

def Heap.get : Heap → Nat → Ob
  | [], _ => .dead
  | (k, o) :: r, b => match Nat.beq k b with | true => o | false => Heap.get r b

def Heap.put : Heap → Nat → Ob → Heap
  | [], b, o => [(b, o)]
  | (k, p) :: r, b, o => match Nat.beq k b with | true => (k, o) :: r | false => (k, p) :: Heap.put r b o

abbrev Slots := List (Nat × SV)

def Slots.get : Slots → Nat → SV
  | [], _ => .top
  | (k, v) :: r, t => match Nat.beq k t with | true => v | false => Slots.get r t

def CV.int (k : IntKind) (n : Int) : CV := .f (.lit (.int k n))
def CV.bool (b : Bool) : CV := .f (.lit (.bool b))
def CV.str (s : ByteArray) : CV := .f (.lit (.string s))
def SV.one (x : CV) : SV := .v (.one x)
def SV.cv? : SV → Option CV
  | .v (.one x) => some x
  | _ => none

def AV.cells : AV → List CV
  | .one x => [x]
  | .agg l => l

abbrev oneCell : Value → Bool := Value.oneCell'

def constSV (v : Value) : SV :=
  match v with
  | .agg cs => if cs.toList.all oneCell then .v (.agg (cs.toList.map fun c => .f (.lit c))) else .top
  | .tuple _ => .top
  | v => .v (.one (.f (.lit v)))

/-- A type's row, as the evaluator wants it. -/
inductive TK where
  | bool | int (k : IntKind) | str | ptr (e : Nat) | slice (e : Nat) | struct (fs : List (Nat × Nat × Nat × Bool)) | array (n e : Nat)
  | map (k e : Nat) | fn | other

structure TI where
  size : Nat
  bytes : Nat
  zero : List Value
  kind : TK
  agg : Bool
  eqs : List Nat        -- '==' of two such structs is cell by cell, of these kinds, and asks nothing more

/-- a table -/
inductive Tab (α : Type) where
  | leaf
  | node (k : Nat) (v : α) (l r : Tab α)

def Tab.get {α : Type} : Tab α → Nat → Option α
  | .leaf, _ => none
  | .node k v l r, t => match Nat.beq t k with
    | true => some v
    | false => match Nat.ble t k with | true => l.get t | false => r.get t

structure St where
  sl : Slots
  H : Heap
  nx : Nat
  esc : Bool
  base : Nat         -- the blocks below it were there when the call began
  wr : List Nat      -- those of them that were written since

structure CallOut where
  v : SV
  H : Heap
  nx : Nat
  esc : Bool
  wr : List Nat

inductive Ex where
  | normal | exit (id : Nat) | ret

structure Ctx where
  ti : Nat → Option TI
  fi : Nat → Option Func
  sym : Bool
  sum : Nat → Option (List AV → Heap → Nat → T CallOut)          -- calls that are known
  ls : Nat → Nat → Option (Nat → Code → St → T (Ex × St))        -- a function's loops that are known (and statements that begin with such a region)
  pre : Nat → Nat → Option (St → T St)                            -- ahead of a function's region less is said

structure Out where
  v : SV
  H : Heap
  nx : Nat
  esc : Bool
  fp : List Nat      -- the own blocks that are looked at
  wr : List Nat      -- those that are written, or new

/-- the blocks below 'base' that were written, once each -/
def addWr (base : Nat) : List Nat → List Nat → List Nat
  | [], acc => acc
  | b :: r, acc => match Nat.ble base b || acc.any (Nat.beq b) with
    | true => addWr base r acc
    | false => addWr base r (b :: acc)

def St.up (st : St) (u : Out) : St := ⟨st.sl, u.H, u.nx, st.esc || u.esc, st.base, addWr st.base u.wr st.wr⟩

def St.val (st : St) : Operand → SV
  | .tmp t => st.sl.get t
  | .const v => constSV v
  | .func g => .one (.fn g [])
  | .global _ => .top

def St.put (st : St) (d : Option Nat) (v : SV) : St :=
  match d with
  | some d => { st with sl := (d, v) :: st.sl }
  | none => st

def St.setB (st : St) (x : Operand) (c : Bool) : St :=
  match x with
  | .tmp t => { st with sl := (t, .one (.bool c)) :: st.sl }
  | _ => st

/-- a Bool slot decides -/
def split {α : Type} (st : St) (x : Operand) (k : Bool → St → T α) : T α :=
  match st.val x with
  | .v (.one (.f (.lit (.bool b)))) => .br b (k true (st.setB x true)) (k false (st.setB x false))
  | _ => .bad

def pure1 (st : St) (v : SV) : T Out := .ret ⟨v, st.H, st.nx, false, [], []⟩

/-- does a value lead to a block behind b? -/
def CV.beyond (b : Nat) : CV → Bool
  | .f _ => false
  | .ptr c _ _ _ => Nat.ble b c
  | .sl _ c _ _ _ _ _ _ _ => Nat.ble b c
  | .mp c => Nat.ble b c
  | .fn _ l => l.any fun x => Nat.ble b x.1

def CV.fv? : CV → Option FV
  | .f x => some x
  | _ => none

def fvs? : List CV → Option (List FV)
  | [] => some []
  | .f x :: r => match fvs? r with | some l => some (x :: l) | none => none
  | _ :: _ => none

def setRange {α : Type} : List α → Nat → List α → List α
  | [], _, _ => []
  | x :: r, 0, [] => x :: r
  | _ :: r, 0, v :: vs => v :: setRange r 0 vs
  | x :: r, j + 1, vs => x :: setRange r j vs

/-- as 'k (setRange l j vs)', built at once -/
def setRangeK {α β : Type} : List α → Nat → List α → (List α → β) → β
  | [], _, _, k => k []
  | x :: r, 0, [], k => k (x :: r)
  | _ :: r, 0, v :: vs, k => setRangeK r 0 vs fun r' => k (v :: r')
  | x :: r, j + 1, vs, k => setRangeK r j vs fun r' => k (x :: r')

/-- as 'k (H.put b o)' -/
def Heap.putK {β : Type} : Heap → Nat → Ob → (Heap → β) → β
  | [], b, o, k => k [(b, o)]
  | (c, p) :: r, b, o, k => match Nat.beq c b with | true => k ((c, o) :: r) | false => Heap.putK r b o fun r' => k ((c, p) :: r')

/-- as 'match c with | true => x | false => y', pushed inwards where both are numbers, truths, texts -/
def FV.ite0 (c : Bool) (x y : FV) : FV :=
  match x, y with
  | .lit (.int k a), .lit (.int k' b) => match decide (k = k') with
    | true => .lit (.int k (cond c a b))
    | false => match c with | true => x | false => y
  | .lit (.bool a), .lit (.bool b) => .lit (.bool (cond c a b))
  | .lit (.string a), .lit (.string b) => .lit (.string (cond c a b))
  | x, y => match c with | true => x | false => y

def iteL0 (c : Bool) : List FV → List FV → List FV
  | x :: xs, y :: ys => FV.ite0 c x y :: iteL0 c xs ys
  | [], [] => []
  | xs, ys => match c with | true => xs | false => ys

def FV.ite (c : Bool) (x y : FV) : FV :=
  match x, y with
  | .fs nil sz n e, .fs nil' sz' n' e' => match Nat.beq sz sz' with
    | true => .fs (cond c nil nil') sz (cond c n n') fun i => iteL0 c (e i) (e' i)
    | false => match c with | true => x | false => y
  | x, y => FV.ite0 c x y

def iteL (c : Bool) : List FV → List FV → List FV
  | x :: xs, y :: ys => FV.ite c x y :: iteL c xs ys
  | [], [] => []
  | xs, ys => match c with | true => xs | false => ys

def CV.ite (c : Bool) (x y : CV) : CV :=
  match x, y with
  | .f a, .f b => .f (FV.ite c a b)
  | x, y => match c with | true => x | false => y

def iteC (c : Bool) : List CV → List CV → List CV
  | x :: xs, y :: ys => CV.ite c x y :: iteC c xs ys
  | [], [] => []
  | xs, ys => match c with | true => xs | false => ys

def AV.ite (c : Bool) (x y : AV) : AV :=
  match x, y with
  | .one a, .one b => .one (CV.ite c a b)
  | .agg a, .agg b => .agg (iteC c a b)
  | x, y => match c with | true => x | false => y

/-- the i-th, counted from c on; the last one, if there is none -/
def selV (i : Int) : Nat → AV → List AV → AV
  | _, x, [] => x
  | c, x, y :: r => AV.ite (decide (i = (c : Int))) x (selV i (c + 1) y r)

/-- n cells at an address -/
def Ob.rd (o : Ob) (m i j n : Nat) : T (List CV) :=
  match o with
  | .cells l => match Nat.beq m 0 && Nat.beq i 0 with
    | true => let r := (l.drop j).take n; match Nat.beq r.length n with | true => .ret r | false => .bad
    | false => .bad
  | .arr live sz N e => match Nat.beq m sz && Nat.ble (j + n) sz with
    | true => .need live (.need (Nat.ble (i + 1) N) (let r := ((e i).drop j).take n; match Nat.beq r.length n with | true => .ret (r.map .f) | false => .bad))
    | false => .bad
  | _ => .bad

def Ob.wr (o : Ob) (m i j : Nat) (vs : List CV) : T Ob :=
  match o with
  | .cells l => match Nat.beq m 0 && Nat.beq i 0 && Nat.ble (j + vs.length) l.length with
    | true => setRangeK l j vs fun l' => .ret (.cells l')
    | false => .bad
  | .arr live sz N e => match Nat.beq m sz && Nat.ble (j + vs.length) sz && Nat.beq (e i).length sz, fvs? vs with
    | true, some fs => .need live (.need (Nat.ble (i + 1) N) (.ret (.arr live sz N fun i' => iteL (Nat.beq i' i) (setRange (e i') j fs) (e i'))))
    | _, _ => .bad
  | _ => .bad

def ofCells (agg : Bool) (l : List CV) : Option AV :=
  match agg with
  | true => some (.agg l)
  | false => match l with | [x] => some (.one x) | _ => none

def newBlock (st : St) (l : List CV) (v : Nat → SV) : T Out :=
  .ret ⟨v st.nx, (st.nx, .cells l) :: st.H, st.nx + 1, false, [], [st.nx]⟩

def zeros (t : TI) : List CV := t.zero.map fun v => .f (.lit v)

def binInt (op : BinOp) (k : IntKind) (x y : Int) : T Value :=
  match op with
  | .add => .ret (.int k (k.wrap (x + y)))
  | .sub => .ret (.int k (k.wrap (x - y)))
  | .mul => .ret (.int k (k.wrap (x * y)))
  | .quo => .br (decide (y = 0)) .bad (.ret (.int k (k.wrap (x.tdiv y))))
  | .rem => .br (decide (y = 0)) .bad (.ret (.int k (x.tmod y)))
  | .and => .ret (.int k (k.wrap (BitVec.ofInt k.bits x &&& BitVec.ofInt k.bits y).toNat))
  | .or => .ret (.int k (k.wrap (BitVec.ofInt k.bits x ||| BitVec.ofInt k.bits y).toNat))
  | .xor => .ret (.int k (k.wrap (BitVec.ofInt k.bits x ^^^ BitVec.ofInt k.bits y).toNat))
  | .andNot => .ret (.int k (k.wrap (BitVec.ofInt k.bits x &&& ~~~ BitVec.ofInt k.bits y).toNat))
  | .eql => .ret (.bool (x == y))
  | .neq => .ret (.bool (x != y))
  | .lss => .ret (.bool (decide (x < y)))
  | .leq => .ret (.bool (decide (x ≤ y)))
  | .gtr => .ret (.bool (decide (x > y)))
  | .geq => .ret (.bool (decide (x ≥ y)))
  | _ => .bad

def shiftInt (op : BinOp) (k : IntKind) (x y : Int) : T Value :=
  match op with
  | .shl => .br (decide (y < 0)) .bad (.ret (.int k (k.wrap (x * 2 ^ (min y.toNat k.bits)))))
  | .shr => .br (decide (y < 0)) .bad (.ret (.int k (x.fdiv (2 ^ (min y.toNat k.bits)))))
  | _ => .bad

def binStr (op : BinOp) (x y : ByteArray) : T Value :=
  let eq := x.toList == y.toList
  let lt := Op.bytesLess x.toList y.toList
  match op with
  | .add => .br (decide (((x.size + y.size : Nat) : Int) > IntKind.i64.max)) .bad (.ret (.string (x ++ y)))
  | .eql => .ret (.bool eq)
  | .neq => .ret (.bool !eq)
  | .lss => .ret (.bool lt)
  | .leq => .ret (.bool (lt || eq))
  | .gtr => .ret (.bool !(lt || eq))
  | .geq => .ret (.bool !lt)
  | _ => .bad

/-- are two cells' values alike? (0: bools, 1: ints, 2: strings) -/
def eqCell : Nat → CV → CV → Option Bool
  | 0, .f (.lit (.bool a)), .f (.lit (.bool b)) => some (a == b)
  | 1, .f (.lit (.int k a)), .f (.lit (.int k' b)) => match decide (k = k') with | true => some (a == b) | false => none
  | 2, .f (.lit (.string a)), .f (.lit (.string b)) => some (a == b)
  | _, _, _ => none

def eqCells : List Nat → List CV → List CV → Option Bool
  | [], [], [] => some true
  | k :: ks, x :: xs, y :: ys => match eqCell k x y, eqCells ks xs ys with
    | some a, some b => some (a && b)
    | _, _ => none
  | _, _, _ => none

/-- is it nil? 0: a pointer, 1: a slice, 2: a map, 3: a function -/
def nilK : Nat → CV → Option Bool
  | 0, .f (.lit (.pointer none)) => some true
  | 0, .f (.fp _) => some false
  | 0, .ptr _ _ _ _ => some false
  | 1, .f (.lit (.slice none _ _)) => some true
  | 1, .f (.fs nil _ _ _) => some nil
  | 1, .f (.z0 nil) => some nil
  | 1, .sl nil _ _ _ _ _ _ _ _ => some nil
  | 2, .f (.lit (.map none)) => some true
  | 2, .mp _ => some false
  | 3, .f (.lit .nilFunc) => some true
  | 3, .fn _ _ => some false
  | _, _ => none

def litNil : Nat → CV → Bool
  | 0, .f (.lit (.pointer none)) => true
  | 1, .f (.lit (.slice none _ _)) => true
  | 2, .f (.lit (.map none)) => true
  | 3, .f (.lit .nilFunc) => true
  | _, _ => false

def eqNil (k : Nat) (a b : CV) : Option Bool :=
  match litNil k b with
  | true => nilK k a
  | false => match litNil k a with
    | true => nilK k b
    | false => none

def evEq (G : Ctx) (t : Nat) (x y : AV) : Option Bool :=
  match G.ti t with
  | none => none
  | some i =>
  match i.kind, x, y with
  | .bool, .one (.f (.lit (.bool a))), .one (.f (.lit (.bool b))) => some (a == b)
  | .ptr _, .one a, .one b => eqNil 0 a b
  | .slice _, .one a, .one b => eqNil 1 a b
  | .map _ _, .one a, .one b => eqNil 2 a b
  | .fn, .one a, .one b => eqNil 3 a b
  | .struct _, .agg a, .agg b => match i.eqs with
    | [] => none
    | ks => eqCells ks a b
  | _, _, _ => none

def evBin (G : Ctx) (op : BinOp) (t : Nat) (x y : AV) : T AV :=
  match x, y with
  | .one (.f (.lit (.int k a))), .one (.f (.lit (.int k' b))) =>
    match op with
    | .shl | .shr => (shiftInt op k a b).bind fun v => .ret (.one (.f (.lit v)))
    | _ => match decide (k = k') with
      | true => (binInt op k a b).bind fun v => .ret (.one (.f (.lit v)))
      | false => .bad
  | .one (.f (.lit (.string a))), .one (.f (.lit (.string b))) => (binStr op a b).bind fun v => .ret (.one (.f (.lit v)))
  | x, y =>
    match op with
    | .eql => match evEq G t x y with | some b => .ret (.one (.bool b)) | none => .bad
    | .neq => match evEq G t x y with | some b => .ret (.one (.bool !b)) | none => .bad
    | _ => .bad

def evUn (op : UnOp) (x : CV) : T CV :=
  match op, x with
  | .not, .f (.lit (.bool b)) => .ret (.bool !b)
  | .neg, .f (.lit (.int k n)) => .ret (.int k (k.wrap (0 - n)))
  | _, _ => .bad

/-- fields of a value -/
def evField (G : Ctx) (t : Nat) (l : List CV) (fld : Nat) : Option AV :=
  match G.ti t with
  | some { kind := .struct fs, .. } => match fs[fld]? with
    | some (off, size, _, agg) =>
      let r := (l.drop off).take size
      match Nat.beq r.length size with | true => ofCells agg r | false => none
    | none => none
  | _ => none

/-- an index that is in range: the walk over the places where the mode asks for it -/
def atIndex {α : Type} (sym : Bool) (n : Nat) (i : Int) (k : Nat → T α) : T α :=
  match sym with
  | false => k i.toNat
  | true => go n 0
where
  go : Nat → Nat → T α
    | 0, _ => .bad
    | n + 1, c => .br (decide (i = (c : Int))) (k c) (go n (c + 1))

def inRange {α : Type} (i : Int) (n : Nat) (t : T α) : T α := .need (decide (0 ≤ i ∧ i < (n : Int))) t

def evIndexAddr (G : Ctx) (t : Nat) (x : CV) (i : Int) : T CV :=
  match G.ti t with
  | none => .bad
  | some ti =>
  match ti.kind, x with
  | .array len e, .ptr b m a j => match G.ti e with
    | some ei => inRange i len (atIndex G.sym len i fun c => .ret (.ptr b m a (j + c * ei.size)))
    | none => .bad
  | .slice e, .sl nil b m a j len cap ex sz => match G.ti e with
    | some ei => match Nat.beq ei.size sz with
      | true => .need (!nil) (inRange i len (match m with
        | 0 => atIndex G.sym len i fun c => .ret (.ptr b 0 a (j + c * sz))
        | m + 1 => match Nat.beq (m + 1) sz with | true => .ret (.ptr b (m + 1) (a + i.toNat) j) | false => .bad))
      | false => .bad
    | none => .bad
  | .slice e, .f (.fs nil sz n g) => match G.ti e with
    | some ei => match Nat.beq ei.size sz with
      | true => .need (!nil) (inRange i n (.ret (.f (.fp ((g i.toNat).take sz)))))
      | false => .bad
    | none => .bad
  | _, _ => .bad

/-- n elements -/
def elems (agg : Bool) (sz : Nat) : Nat → List CV → Option (List AV)
  | 0, _ => some []
  | n + 1, l => match Nat.beq (l.take sz).length sz, ofCells agg (l.take sz), elems agg sz n (l.drop sz) with
    | true, some v, some r => some (v :: r)
    | _, _, _ => none

def evIndex (G : Ctx) (t : Nat) (x : AV) (i : Int) : T AV :=
  match G.ti t with
  | none => .bad
  | some ti =>
  match ti.kind, x with
  | .array len e, .agg l => match G.ti e with
    | some ei => match G.sym with
      | false => inRange i len (
        let r := (l.drop (i.toNat * ei.size)).take ei.size
        match Nat.beq r.length ei.size, ofCells ei.agg r with
        | true, some v => .ret v
        | _, _ => .bad)
      | true => match elems ei.agg ei.size len l with
        | some (x :: r) => inRange i len (.ret (selV i 0 x r))
        | _ => .bad
    | none => .bad
  | .str, .one (.f (.lit (.string s))) => inRange i s.size (.ret (.one (.int .u8 (s.data.toList.getD i.toNat 0).toNat)))
  | _, _ => .bad

/-- a slice's bounds: what a call gives, and what is there -/
def bnd {α : Type} (x : Option SV) (d y : Nat) (k : Nat → T α) : T α :=
  match x with
  | none => k d
  | some (.v (.one (.f (.lit (.int _ i))))) => .need (decide (0 ≤ i ∧ i ≤ (y : Int))) (k i.toNat)
  | some _ => .bad

def evSlice (G : Ctx) (H : Heap) (t : Nat) (x : CV) (lo hi mx : Option SV) : T (CV × List Nat) :=
  match G.ti t with
  | none => .bad
  | some ti =>
  match mx, hi with
  | some _, none => .bad
  | _, _ =>
  match ti.kind, x with
  | .str, .f (.lit (.string s)) => match mx with
    | none => bnd hi s.size s.size fun h => bnd lo 0 h fun l => .ret (.str (s.extract l h), [])
    | some _ => .bad
  | .array n e, .ptr b 0 a j => match G.ti e, mx with
    | some ei, none => match Nat.beq ei.size 0 with
      | true => .bad
      | false => ((H.get b).rd 0 a j (n * ei.size)).bind fun _ => bnd hi n n fun h => bnd lo 0 h fun l =>
        .br (Nat.beq n l) (.ret (.f (.z0 false), [b])) (.ret (.sl false b 0 a (j + l * ei.size) (h - l) (n - l) true ei.size, [b]))
    | _, _ => .bad
  | .slice e, .f (.lit (.slice none 0 0)) => match G.ti e with
    | some _ => bnd mx 0 0 fun m => bnd hi 0 m fun h => bnd lo 0 h fun l => .ret (.f (.lit (.slice none 0 0)), [])
    | none => .bad
  | .slice e, .f (.z0 nil) => match G.ti e with
    | some _ => bnd mx 0 0 fun m => bnd hi 0 m fun h => bnd lo 0 h fun l => .ret (.f (.z0 nil), [])
    | none => .bad
  | .slice e, .f (.fs nil sz n g) => match G.ti e with
    | some ei => match Nat.beq ei.size sz with
      | true => match mx with   -- (its capacity is not known: at least n)
        | some _ => bnd mx n n fun m => bnd hi n m fun h => bnd lo 0 h fun l => .br (Nat.beq m l) (.ret (.f (.z0 nil), [])) (.need (!nil) (.ret (.f (.fs false sz (h - l) fun i => g (l + i)), [])))
        | none => bnd hi n n fun h => bnd lo 0 h fun l => .br nil (.ret (.f (.z0 true), [])) (.ret (.f (.fs false sz (h - l) fun i => g (l + i)), []))
      | false => .bad
    | none => .bad
  | .slice e, .sl nil b m a j len cap ex sz => match G.ti e with
    | some ei => match Nat.beq ei.size sz with
      | true =>
        let mk (l h c : Nat) (ex : Bool) : T (CV × List Nat) := match m with
          | 0 => .ret (.sl false b 0 a (j + l * sz) (h - l) (c - l) ex sz, [])
          | m + 1 => match Nat.beq (m + 1) sz with | true => .ret (.sl false b (m + 1) (a + l) j (h - l) (c - l) ex sz, []) | false => .bad
        match mx with
        | some _ => bnd mx cap cap fun c => bnd hi len c fun h => bnd lo 0 h fun l =>
            .br (Nat.beq c l) (.ret (.f (.z0 nil), [])) (.need (!nil) (mk l h c true))
        | none => bnd hi len cap fun h => bnd lo 0 h fun l =>
            .br nil (.ret (.f (.z0 true), [])) (.need (Nat.ble len cap) (.br (Nat.beq cap l) (.ret (match ex with | true => .f (.z0 false) | false => .f (.fs false sz 0 fun _ => []), [])) (mk l h cap ex)))
      | false => .bad
    | none => .bad
  | _, _ => .bad

/-- what is appended, or copied: cells in a row, or elements by a function -/
inductive Src where
  | flat (n : Nat) (l : List CV)
  | fn (n : Nat) (e : Nat → List FV)

def Src.n : Src → Nat
  | .flat n _ => n
  | .fn n _ => n

/-- cells n * sz of a slice -/
def srcOf (H : Heap) (sz : Nat) (x : CV) : T (Src × List Nat) :=
  match x with
  | .f (.lit (.slice none 0 0)) => .ret (.flat 0 [], [])
  | .f (.z0 _) => .ret (.flat 0 [], [])
  | .f (.lit (.string s)) => match Nat.beq sz 1 with
    | true => .ret (.flat s.size (s.data.toList.map fun c => .int .u8 c.toNat), [])
    | false => .bad
  | .f (.fs nil s n e) => match Nat.beq s sz with | true => .ret (.fn n e, []) | false => .bad
  | .sl nil b m a j len cap ex s => match Nat.beq s sz with
    | true => match H.get b with
      | .cells l => match Nat.beq m 0 && Nat.beq a 0 with
        | true => .need (!nil) (let r := (l.drop j).take (len * sz); match Nat.beq r.length (len * sz) with | true => .ret (.flat len r, [b]) | false => .bad)
        | false => .bad
      | .arr live z N e => match Nat.beq m sz && Nat.beq z sz && Nat.beq j 0 with
        | true => .need ((nil || live) && Nat.ble (a + len) N) (.ret (.fn len (fun i => e (a + i)), [b]))
        | false => .bad
      | _ => .bad
    | false => .bad
  | _ => .bad

/-- a row of cells as elements -/
def chop {α : Type} (sz : Nat) (l : List α) (i : Nat) : List α := (l.drop (i * sz)).take sz

def chunks {α : Type} (sz : Nat) : Nat → List α → List (List α)
  | 0, _ => []
  | n + 1, l => l.take sz :: chunks sz n (l.drop sz)

/-- the j-th, if it is there -/
def selL : List (List FV) → Nat → List FV
  | [], _ => []
  | [x], _ => x
  | x :: y :: r, j => iteL (Nat.beq j 0) x (selL (y :: r) (j - 1))

def Src.fn? (sz : Nat) : Src → Option (Nat × (Nat → List FV))
  | .fn n e => some (n, e)
  | .flat n l => match fvs? l with | some r => some (n, selL (chunks sz n r)) | none => none

/-- one behind the other -/
def Src.app (sz : Nat) : Src → Src → Option (Src)
  | .flat n l, .flat k r => some (.flat (n + k) (l ++ r))
  | a, b => match a.fn? sz, b.fn? sz with
    | some (n, e), some (k, g) => some (.fn (n + k) fun i => iteL (Nat.ble (i + 1) n) (e i) (g (i - n)))
    | _, _ => none

def Src.esc (b : Nat) : Src → Bool
  | .flat _ l => l.any (CV.beyond b)
  | .fn _ _ => false

/-- a new block with these elements; the slice over it -/
def grown (st : St) (kill : List Nat) (sz : Nat) (s : Src) (fp : List Nat) : T Out :=
  let H := kill.foldl (fun H b => H.put b .dead) st.H
  match s with
  | .flat n l => .ret ⟨.one (.sl false st.nx 0 0 0 n n false sz), (st.nx, .cells l) :: H, st.nx + 1, false, fp, st.nx :: kill⟩
  | .fn n e => .ret ⟨.one (.sl false st.nx sz 0 0 n n false sz), (st.nx, .arr true sz n e) :: H, st.nx + 1, false, fp, st.nx :: kill⟩

/-- a slice whose capacity isn't known may be written in place: its block is no one's any more -/
def killOf : Bool → Nat → List Nat
  | true, _ => []
  | false, b => [b]

/-- so many elements, and as many as may be made of them, have room; told so that an open number is not reckoned -/
def smallB (need bytes : Nat) : Bool := Nat.ble (512 * bytes) 281474976710656 && Nat.ble need ((281474976710656 / bytes - 512) / 2)

def evAppend (G : Ctx) (st : St) (st0 st1 : Nat) (s x : CV) : T Out :=
  match G.ti st0, G.ti st1 with
  | some { kind := .slice e, .. }, some ti1 => match G.ti e with
    | none => .bad
    | some ei =>
      let sz := ei.size
      let small (need : Nat) : Bool := smallB need ei.bytes
      match Nat.beq sz 0 || Nat.beq ei.bytes 0 with
      | true => .bad
      | false =>
      let src : T (Src × List Nat) := match ti1.kind, x with
        | .int _, .f (.lit (.int _ l)) =>
          .need (decide (0 ≤ l ∧ l * ei.bytes ≤ 281474976710656)) (match G.sym with
            | false => .ret (.flat l.toNat (List.replicate l.toNat (zeros ei)).flatten, [])
            | true => .ret (.fn l.toNat (fun _ => ei.zero.map .lit), []))
        | .slice _, x => srcOf st.H sz x
        | .str, x => srcOf st.H sz x
        | _, _ => .bad
      src.bind fun (src, fx) =>
      -- to nothing
      let fresh (dflt : CV) : T Out := .br (Nat.beq src.n 0) (.ret ⟨.one dflt, st.H, st.nx, false, fx, []⟩) (.need (small src.n) (grown st [] sz src fx))
      match s with
      | .f (.lit (.slice none 0 0)) => fresh s
      | .f (.z0 _) => fresh s
      | .sl nil b m a j len cap ex s' => match Nat.beq s' sz with
        | false => .bad
        | true =>
          -- nothing is appended
          .br (Nat.beq src.n 0) (.ret ⟨.one (.sl nil b m a j len cap ex s'), st.H, st.nx, false, fx, []⟩) (
          .br (Nat.ble (len + src.n) cap)
            -- there is room
            (.need (!nil) (match m, src with
              | 0, .flat n l => ((st.H.get b).wr 0 a (j + len * sz) l).bind fun o =>
                  st.H.putK b o fun H => .ret ⟨.one (.sl nil b m a j (len + n) cap ex s'), H, st.nx, false || src.esc (b + 1), b :: fx, [b]⟩
              | _, _ => .bad))
            (.need (small (len + src.n)) ((srcOf st.H sz s).bind fun (old, fo) =>
              match old.app sz src with
              | some all => grown st (killOf ex b) sz all (b :: fx)
              | none => .bad)))
      | _ => .bad
  | _, _ => .bad

/-- n cells from an own slice's begin on are written -/
def evCopy (G : Ctx) (st : St) (st0 : Nat) (d x : CV) : T Out :=
  match G.ti st0 with
  | some { kind := .slice e, .. } => match G.ti e with
    | none => .bad
    | some ei => (srcOf st.H ei.size x).bind fun (src, fx) =>
      match d, src with
      | .f (.lit (.slice none 0 0)), _ => .ret ⟨.one (.int .i64 0), st.H, st.nx, false, fx, []⟩
      | .f (.z0 _), _ => .ret ⟨.one (.int .i64 0), st.H, st.nx, false, fx, []⟩
      | .sl nil b 0 a j len cap ex s, .flat n l => match Nat.beq s ei.size with
        | false => .bad
        | true => let k := Nat.min n len
          .need (!nil) (((st.H.get b).wr 0 a j (l.take (k * ei.size))).bind fun o =>
            st.H.putK b o fun H => .ret ⟨.one (.int .i64 k), H, st.nx, false || src.esc (b + 1), b :: fx, [b]⟩)
      | _, _ => .bad
  | _ => .bad

def evClear (G : Ctx) (st : St) (st0 : Nat) (d : CV) : T Out :=
  match G.ti st0 with
  | some { kind := .slice e, .. } => match G.ti e with
    | none => .bad
    | some ei => match d with
      | .f (.lit (.slice none 0 0)) => .ret ⟨.tup [], st.H, st.nx, false, [], []⟩
      | .f (.z0 _) => .ret ⟨.tup [], st.H, st.nx, false, [], []⟩
      | .f (.fs _ _ 0 _) => .ret ⟨.tup [], st.H, st.nx, false, [], []⟩
      | .sl nil b 0 a j len cap ex s => match Nat.beq s ei.size with
        | false => .bad
        | true => .need (!nil) (((st.H.get b).wr 0 a j (List.replicate len (zeros ei)).flatten).bind fun o =>
            st.H.putK b o fun H => .ret ⟨.tup [], H, st.nx, false, [b], [b]⟩)
      | .sl nil b (m + 1) a 0 len cap ex s => match Nat.beq s ei.size && Nat.beq (m + 1) s, st.H.get b with
        | true, .arr live z N e => match Nat.beq z s with
          | true => .need (!nil && live && Nat.ble (a + len) N) (st.H.putK b (.arr live z N fun i => iteL (Nat.ble a i && Nat.ble (i + 1) (a + len)) (ei.zero.map .lit) (e i)) fun H => .ret ⟨.tup [], H, st.nx, false, [b], [b]⟩)
          | false => .bad
        | _, _ => .bad
      | _ => .bad
  | _ => .bad

def evLen (G : Ctx) (t : Nat) (x : SV) : T CV :=
  match G.ti t with
  | none => .bad
  | some ti =>
  match ti.kind, x with
  | .str, .v (.one (.f (.lit (.string s)))) => .ret (.int .i64 s.size)
  | .array n _, _ => .ret (.int .i64 n)
  | .slice _, .v (.one (.f (.lit (.slice none n _)))) => .ret (.int .i64 n)
  | .slice _, .v (.one (.f (.z0 _))) => .ret (.int .i64 0)
  | .slice _, .v (.one (.f (.fs _ _ n _))) => .ret (.int .i64 n)
  | .slice _, .v (.one (.sl _ _ _ _ _ len _ _ _)) => .ret (.int .i64 len)
  | _, _ => .bad

/-- a capacity that is known -/
def evCap (G : Ctx) (t : Nat) (x : SV) : T CV :=
  match G.ti t with
  | none => .bad
  | some ti =>
  match ti.kind, x with
  | .slice _, .v (.one (.f (.lit (.slice none _ n)))) => .ret (.int .i64 n)
  | .slice _, .v (.one (.f (.z0 _))) => .ret (.int .i64 0)
  | .slice _, .v (.one (.sl _ _ _ _ _ _ cap true _)) => .ret (.int .i64 cap)
  | _, _ => .bad

def evMax (mx : Bool) : List SV → T CV
  | .v (.one (.f (.lit (.int k a)))) :: r => go k a r
  | _ => .bad
where
  go (k : IntKind) (a : Int) : List SV → T CV
    | [] => .ret (.int k a)
    | .v (.one (.f (.lit (.int _ b)))) :: r => go k (match mx with | true => if b > a then b else a | false => if b < a then b else a) r
    | _ => .bad

/-- a map's entry under a key -/
def findM (k : Value) : List (Value × Value) → Nat → T (Option (Nat × Value))
  | [], _ => .ret none
  | e :: r, i => match k, e.1 with
    | .int ka a, .int kb b => .need (decide (ka = kb)) (.br (a == b) (.ret (some (i, e.2))) (findM k r (i + 1)))
    | .string a, .string b => .br (a.toList == b.toList) (.ret (some (i, e.2))) (findM k r (i + 1))
    | .bool a, .bool b => .br (a == b) (.ret (some (i, e.2))) (findM k r (i + 1))
    | _, _ => .bad

def keyKind : TK → Value → Bool
  | .int k, .int k' _ => decide (k' = k)
  | .str, .string _ => true
  | .bool, .bool _ => true
  | _, _ => false

/-! maps whose entries are not told one by one -/
def keyOk (k e : Value) : Bool := match k, e with
  | .int ka _, .int kb _ => decide (ka = kb)
  | .string _, .string _ => true
  | .bool _, .bool _ => true
  | _, _ => false
def keyEq (k e : Value) : Bool := match k, e with
  | .int _ a, .int _ b => a == b
  | .string a, .string b => a.toList == b.toList
  | .bool a, .bool b => a == b
  | _, _ => false
def keysOk (k : Value) (es : List (Value × Value)) : Bool := es.all fun e => keyOk k e.1
def hasM (k : Value) (es : List (Value × Value)) : Bool := es.any fun e => keyEq k e.1
def valM (k : Value) : List (Value × Value) → Option Value
  | [] => none
  | e :: r => match keyEq k e.1 with | true => some e.2 | false => valM k r
def setM (k v : Value) : List (Value × Value) → List (Value × Value)
  | [] => [(k, v)]
  | e :: r => match keyEq k e.1 with | true => (k, v) :: r | false => e :: setM k v r
def intM (k : Value) (es : List (Value × Value)) : Int := match valM k es with | some (.int _ n) => n | _ => 0
def truM (k : Value) (es : List (Value × Value)) : Bool := match valM k es with | some (.bool b) => b | _ => false
def intsOk (kd : IntKind) (es : List (Value × Value)) : Bool := es.all fun e => match e.2 with | .int kd' _ => decide (kd' = kd) | _ => false
def trusOk (es : List (Value × Value)) : Bool := es.all fun e => match e.2 with | .bool _ => true | _ => false

/-- what is looked up in such a map, and whether it is there -/
def lookS (ei : TK) (zv k : Value) (es : List (Value × Value)) (t : Value → Bool → T Out) : T Out :=
  match ei, zv with
  | .int kd, .int kd' n => match decide (kd' = kd) && n == 0 with
    | true => .need (keysOk k es && intsOk kd es) (t (.int kd (intM k es)) (hasM k es))
    | false => .bad
  | .bool, .bool false => .need (keysOk k es && trusOk es) (t (.bool (truM k es)) (hasM k es))
  | _, _ => .bad

def evLookup (G : Ctx) (st : St) (t : Nat) (m : CV) (k : Value) (ok : Bool) : T Out :=
  match G.ti t with
  | some { kind := .map kt et, .. } => match G.ti kt, G.ti et with
    | some ki, some ei => match keyKind ki.kind k, ei.zero with
      | true, [zv] =>
        let tell (r : Option (Nat × Value)) (fp : List Nat) : T Out := match r with
          | some (_, v) => .need (oneCell v) (.ret ⟨match ok with | true => .tup [.one (.f (.lit v)), .one (.f (.lit (.bool true)))] | false => .v (.one (.f (.lit v))), st.H, st.nx, false, fp, []⟩)
          | none => .need (!ei.agg) (.ret ⟨match ok with | true => .tup [.one (.f (.lit zv)), .one (.f (.lit (.bool false)))] | false => .v (.one (.f (.lit zv))), st.H, st.nx, false, fp, []⟩)
        match m with
        | .mp b => match st.H.get b with
          | .map es => match G.sym with
            | false => (findM k es 0).bind fun r => tell r [b]
            | true => lookS ei.kind zv k es fun v b' => .ret ⟨match ok with | true => .tup [.one (.f (.lit v)), .one (.f (.lit (.bool b')))] | false => .v (.one (.f (.lit v))), st.H, st.nx, false, [b], []⟩
          | _ => .bad
        | .f (.lit (.map none)) => tell none []
        | _ => .bad
      | _, _ => .bad
    | _, _ => .bad
  | _ => .bad

def evMapUpdate (G : Ctx) (st : St) (t : Nat) (m : CV) (k v : Value) : T Out :=
  match G.ti t with
  | some { kind := .map kt _, .. } => match G.ti kt with
    | some ki => match keyKind ki.kind k, m with
      | true, .mp b => match st.H.get b with
        | .map es => match G.sym with
          | false => (findM k es 0).bind fun r =>
            let es' := match r with | some (i, _) => es.set i (k, v) | none => es ++ [(k, v)]
            st.H.putK b (.map es') fun H => .ret ⟨.top, H, st.nx, false, [b], [b]⟩
          | true => .need (keysOk k es) (st.H.putK b (.map (setM k v es)) fun H => .ret ⟨.top, H, st.nx, false, [b], [b]⟩)
        | _ => .bad
      | _, _ => .bad
    | none => .bad
  | _ => .bad

/-- a row of bytes -/
def bytesOf? : List CV → Option (List UInt8)
  | [] => some []
  | .f (.lit (.int .u8 n)) :: r => match bytesOf? r with | some l => some (UInt8.ofNat n.toNat :: l) | none => none
  | _ :: _ => none

def strLit : CV → Bool
  | .f (.lit (.string _)) => true
  | _ => false

def evConvert (G : Ctx) (st : St) (src dst : Nat) (x : CV) : T Out :=
  match G.ti src, G.ti dst with
  | some a, some b =>
    match a.kind, b.kind, x with
    | .int _, .int k, .f (.lit (.int _ n)) => pure1 st (.one (.int k (k.wrap n)))
    | .str, .str, .f (.lit (.string s)) => pure1 st (.one (.str s))
    | .str, .slice e, .f (.lit (.string s)) => match G.ti e with
      | some { kind := .int .u8, .. } => newBlock st (s.data.toList.map fun c => .int .u8 c.toNat) fun b => .one (.sl false b 0 0 0 s.size s.size false 1)
      | _ => .bad
    | .slice e, .str, x => match G.ti e with
      | some { kind := .int .u8, .. } => match strLit x with
        | true => .bad
        | false => (srcOf st.H 1 x).bind fun (src, fp) => match src with
          | .flat _ l => match bytesOf? l with
            | some bs => .ret ⟨.one (.str ⟨bs.toArray⟩), st.H, st.nx, false, fp, []⟩
            | none => .bad
          | _ => .bad
      | _ => .bad
    | _, _, _ => .bad
  | _, _ => .bad

def fill (place : Nat → Option (Nat × Nat)) (cells : List CV) : List (Nat × List CV) → Option (List CV)
  | [] => some cells
  | (i, v) :: rest =>
    match place i with
    | none => none
    | some (off, size) =>
      match Nat.beq v.length size && Nat.ble (off + v.length) cells.length with
      | true => fill place (setRange cells off v) rest
      | false => none

def partsOf (st : St) : List (Nat × Operand) → Option (List (Nat × List CV))
  | [] => some []
  | (i, x) :: r => match st.val x, partsOf st r with
    | .v a, some l => some ((i, a.cells) :: l)
    | _, _ => none

def addrs? : List SV → Option (List (Nat × Nat × Nat × Nat))
  | [] => some []
  | .v (.one (.ptr b m i j)) :: r => match addrs? r with | some l => some ((b, m, i, j) :: l) | none => none
  | _ :: _ => none

def avs? : List SV → Option (List AV)
  | [] => some []
  | .v a :: r => match avs? r with | some l => some (a :: l) | none => none
  | _ :: _ => none

abbrev CallF := Nat → List AV → Heap → Nat → T CallOut

/-- blocks that lead on from a value -/
def CV.refs : CV → List Nat
  | .f _ => []
  | .ptr b _ _ _ => [b]
  | .sl _ b _ _ _ _ _ _ _ => [b]
  | .mp b => [b]
  | .fn _ l => l.map (·.1)

def Ob.refs : Ob → List Nat
  | .cells l => l.flatMap CV.refs
  | .arr _ _ _ _ => []
  | .map _ => []
  | .dead => []

def reach (H : Heap) : Nat → List Nat → List Nat → List Nat
  | 0, _, seen => seen
  | _ + 1, [], seen => seen
  | n + 1, b :: r, seen => match seen.any (Nat.beq b) with
    | true => reach H n r seen
    | false => reach H n ((H.get b).refs ++ r) (b :: seen)

/-- a call: of a region that draws it sees what its arguments lead to alone -/
def evCallOp (call : CallF) (draw : Bool) (st : St) (g : Nat) (args : List AV) : T Out :=
  match draw with
  | false => (call g args st.H st.nx).bind fun o =>
      .ret ⟨o.v, o.H, o.nx, false || o.esc, st.H.map (·.1), o.wr ++ (List.range (o.nx - st.nx)).map (st.nx + ·)⟩
  | true =>
    let ids := (reach st.H 4000 (args.flatMap fun a => a.cells.flatMap CV.refs) []).filter fun b => Nat.ble (b + 1) st.nx
    let inn := st.H.filter fun e => ids.any (Nat.beq e.1)
    let out := st.H.filter fun e => !(ids.any (Nat.beq e.1))
    (call g args inn st.nx).bind fun o =>
      let new := (List.range (o.nx - st.nx)).map (st.nx + ·)
      .ret ⟨o.v, (o.H.filter fun e => (ids ++ new).any (Nat.beq e.1)) ++ out, o.nx, false || o.esc, ids, (ids.filter fun b => o.wr.any (Nat.beq b)) ++ new⟩

/-- how many entries a map has -/
def evLenM (G : Ctx) (st : St) (t b : Nat) : T Out :=
  match G.ti t with
  | some ti => match ti.kind, st.H.get b with
    | .map _ _, .map es => .ret ⟨.v (.one (.f (.lit (.int .i64 es.length)))), st.H, st.nx, false, [b], []⟩
    | _, _ => .bad
  | none => .bad

def evBuiltin (G : Ctx) (st : St) (b : Builtin) (ts : List Nat) (args : List SV) : T Out :=
  match b, ts, args with
  | .append, [t0, t1], [.v (.one s), .v (.one x)] => evAppend G st t0 t1 s x
  | .copy, t0 :: _, [.v (.one d), .v (.one x)] => evCopy G st t0 d x
  | .clear, t0 :: _, [.v (.one d)] => evClear G st t0 d
  | .len, t0 :: _, [.v (.one (.mp b))] => evLenM G st t0 b
  | .len, t0 :: _, [x] => (evLen G t0 x).bind fun v => pure1 st (.one v)
  | .cap, t0 :: _, [x] => (evCap G t0 x).bind fun v => pure1 st (.one v)
  | .max, _, l => (evMax true l).bind fun v => pure1 st (.one v)
  | .min, _, l => (evMax false l).bind fun v => pure1 st (.one v)
  | _, _, _ => .bad

def evOp (G : Ctx) (call : CallF) (draw : Bool) (st : St) (o : Oper) : T Out :=
  match o.op with
  | .move x | .assign x => pure1 st (st.val x)
  | .pick c a b => split st c fun t st => pure1 st (st.val (match t with | true => a | false => b))
  | .alloc t => match G.ti t with
    | some i => newBlock st (zeros i) fun b => .one (.ptr b 0 0 0)
    | none => .bad
  | .box t x => match st.val x with
    | .v a => newBlock st a.cells fun b => .one (.ptr b 0 0 0)
    | _ => .bad
  | .build t parts => match G.ti t, partsOf st parts.toList with
    | some i, some ps => match i.kind with
      | .struct fs => match fill (fun k => (fs[k]?).map fun f => (f.1, f.2.1)) (zeros i) ps with
        | some l => pure1 st (.v (.agg l))
        | none => .bad
      | .array _ e => match G.ti e with
        | some ei => match fill (fun k => some (k * ei.size, ei.size)) (zeros i) ps with
          | some l => pure1 st (.v (.agg l))
          | none => .bad
        | none => .bad
      | _ => .bad
    | _, _ => .bad
  | .buildSlice t len parts => match G.ti t, partsOf st parts.toList with
    | some { kind := .slice e, .. }, some ps => match G.ti e with
      | some ei => match Nat.ble (len * ei.size) (2 ^ 24), fill (fun k => some (k * ei.size, ei.size)) (List.replicate len (zeros ei)).flatten ps with
        | true, some l => newBlock st l fun b => .one (.sl false b 0 0 0 len len true ei.size)
        | _, _ => .bad
      | none => .bad
    | _, _ => .bad
  | .load t x => match G.ti t, st.val x with
    | some i, .v (.one (.ptr b m a j)) => ((st.H.get b).rd m a j i.size).bind fun l =>
      match ofCells i.agg l with
      | some v => .ret ⟨.v v, st.H, st.nx, false, [b], []⟩
      | none => .bad
    | some i, .v (.one (.f (.fp l))) =>
      let r := l.take i.size
      match Nat.beq r.length i.size, ofCells i.agg (r.map .f) with
      | true, some v => pure1 st (.v v)
      | _, _ => .bad
    | _, _ => .bad
  | .store t x y => match G.ti t, st.val x, st.val y with
    | some i, .v (.one (.ptr b m a j)), .v v => match Nat.beq v.cells.length i.size with
      | true => ((st.H.get b).wr m a j v.cells).bind fun ob =>
        st.H.putK b ob fun H => .ret ⟨.top, H, st.nx, false || v.cells.any (CV.beyond (b + 1)), [b], [b]⟩
      | false => .bad
    | _, _, _ => .bad
  | .nilCheck x => match st.val x with
    | .v (.one (.ptr b m a j)) => pure1 st (.one (.ptr b m a j))
    | .v (.one (.f (.fp l))) => pure1 st (.one (.f (.fp l)))
    | .v (.one (.fn g c)) => pure1 st (.one (.fn g c))
    | _ => .bad
  | .binOp op t x y _ => match st.val x, st.val y with
    | .v a, .v b => (evBin G op t a b).bind fun v => pure1 st (.v v)
    | _, _ => .bad
  | .unOp op _ x => match st.val x with
    | .v (.one a) => (evUn op a).bind fun v => pure1 st (.one v)
    | _ => .bad
  | .convert a b x => match st.val x with
    | .v (.one v) => evConvert G st a b v
    | _ => .bad
  | .makeFunc fn first captured => match fn, first.toList, addrs? (captured.toList.map st.val) with
    | .func g, [], some l => pure1 st (.one (.fn g l))
    | _, _, _ => .bad
  | .makeSlice t l c => match G.ti t, st.val l, st.val c with
    | some { kind := .slice e, .. }, .v (.one (.f (.lit (.int .i64 l)))), .v (.one (.f (.lit (.int .i64 c)))) => match G.ti e with
      | some ei => .need (decide (0 ≤ l ∧ l ≤ c ∧ c * ei.bytes ≤ 281474976710656 ∧ c ≤ 9223372036854775807)) (match Nat.beq ei.size 0, G.sym with
        | true, _ => .bad
        | false, false => newBlock st (List.replicate c.toNat (zeros ei)).flatten fun b => .one (.sl false b 0 0 0 l.toNat c.toNat true ei.size)
        | false, true => .ret ⟨.one (.sl false st.nx ei.size 0 0 l.toNat c.toNat true ei.size), (st.nx, .arr true ei.size c.toNat fun _ => ei.zero.map .lit) :: st.H, st.nx + 1, false, [], [st.nx]⟩)
      | none => .bad
    | _, _, _ => .bad
  | .makeMap t r => match G.ti t, r with
    | some { kind := .map _ _, .. }, none => .ret ⟨.one (.mp st.nx), (st.nx, .map []) :: st.H, st.nx + 1, false, [], [st.nx]⟩
    | some { kind := .map _ _, .. }, some x => match st.val x with
      | .v (.one (.f (.lit (.int _ _)))) => .ret ⟨.one (.mp st.nx), (st.nx, .map []) :: st.H, st.nx + 1, false, [], [st.nx]⟩
      | _ => .bad
    | _, _ => .bad
  | .lookup t m k ok => match st.val m, st.val k with
    | .v (.one m), .v (.one (.f (.lit k))) => evLookup G st t m k ok
    | _, _ => .bad
  | .mapUpdate t m k v | .insert t m k v => match st.val m, st.val k, st.val v with
    | .v (.one m), .v (.one (.f (.lit k))), .v (.one (.f (.lit v))) => evMapUpdate G st t m k v
    | _, _, _ => .bad
  | .slice t x lo hi mx => match st.val x with
    | .v (.one v) => (evSlice G st.H t v (lo.map st.val) (hi.map st.val) (mx.map st.val)).bind fun (v, fp) => .ret ⟨.one v, st.H, st.nx, false, fp, []⟩
    | _ => .bad
  | .fieldAddr t x fld => match G.ti t, st.val x with
    | some { kind := .struct fs, .. }, .v (.one v) => match fs[fld]? with
      | some (off, size, _, _) => match Nat.beq size 0, v with
        | false, .ptr b m a j => pure1 st (.one (.ptr b m a (j + off)))
        | false, .f (.fp l) => pure1 st (.one (.f (.fp (l.drop off))))
        | _, _ => .bad
      | none => .bad
    | _, _ => .bad
  | .field t x fld => match st.val x with
    | .v (.agg l) => match evField G t l fld with
      | some v => pure1 st (.v v)
      | none => .bad
    | _ => .bad
  | .indexAddr t x i => match st.val x, st.val i with
    | .v (.one v), .v (.one (.f (.lit (.int _ n)))) => (evIndexAddr G t v n).bind fun v => pure1 st (.one v)
    | _, _ => .bad
  | .index t x i => match st.val x, st.val i with
    | .v v, .v (.one (.f (.lit (.int _ n)))) => (evIndex G t v n).bind fun v => pure1 st (.v v)
    | _, _ => .bad
  | .extract x i => match st.val x with
    | .tup l => match l[i]? with
      | some v => pure1 st (.v v)
      | none => .bad
    | _ => .bad
  | .call c => match c.callee with
    | .builtin b => evBuiltin G st b c.argTypes.toList (c.args.toList.map st.val)
    | .value f => match st.val f, avs? (c.args.toList.map st.val) with
      | .v (.one (.fn g cap)), some args => match G.fi g with
        | some _ => evCallOp call draw st g (args ++ cap.map fun x => .one (.ptr x.1 x.2.1 x.2.2.1 x.2.2.2))
        | none => .bad
      | _, _ => .bad
    | _ => .bad
  | _ => .bad

/-- numbers are reckoned at once, where the mode says that all is closed -/
def forceV {β : Type} (sym : Bool) (v : SV) (k : SV → β) : β :=
  match sym, v with
  | false, .v (.one (.f (.lit (.int kd (.ofNat 0))))) => k (.v (.one (.f (.lit (.int kd (.ofNat 0))))))
  | false, .v (.one (.f (.lit (.int kd (.ofNat (n + 1)))))) => k (.v (.one (.f (.lit (.int kd (.ofNat (n + 1)))))))
  | false, .v (.one (.f (.lit (.int kd (.negSucc 0))))) => k (.v (.one (.f (.lit (.int kd (.negSucc 0))))))
  | false, .v (.one (.f (.lit (.int kd (.negSucc (n + 1)))))) => k (.v (.one (.f (.lit (.int kd (.negSucc (n + 1)))))))
  | false, .v (.one (.f (.lit (.bool true)))) => k (.v (.one (.f (.lit (.bool true)))))
  | false, .v (.one (.f (.lit (.bool false)))) => k (.v (.one (.f (.lit (.bool false)))))
  | _, v => k v

def isNone : SV → Bool
  | .tup [] => true
  | _ => false

/-- operations, in the text's order -/
def evOps (G : Ctx) (call : CallF) (N : Nat) (all : List Oper) : List Oper → St → T St
  | [], st => .ret st
  | o :: r, st =>
    match (match o.dst with | some d => Nat.ble (d + 1) N | none => true) with
    | false => .bad
    | true =>
    match o.guard with
    | none => (evOp G call false st o).bind fun u => forceV G.sym u.v fun v => evOps G call N all r ((st.up u).put o.dst v)
    | some (j, want) =>
      match (all[j]?).bind (·.dst) with
      | none => .bad
      | some t => match isNone (st.sl.get t) with
        | true => evOps G call N all r (st.put o.dst (.tup []))
        | false => split st (.tmp t) fun c st => match (match c, want with | true, true => true | false, false => true | _, _ => false) with
        | true => (evOp G call false st o).bind fun u => forceV G.sym u.v fun v => evOps G call N all r ((st.up u).put o.dst v)
        | false => evOps G call N all r (st.put o.dst (.tup []))

/-- what one operation of a region that draws looks at, writes, makes, and leads to -/
structure Eff where
  fp : List Nat
  wr : List Nat
  n0 : Nat
  n1 : Nat
  rf : List Nat

def SV.refs : SV → List Nat
  | .v a => a.cells.flatMap CV.refs
  | .tup l => l.flatMap fun a => a.cells.flatMap CV.refs
  | .top => []

def effOf (n0 : Nat) (u : Out) : Eff := ⟨u.fp, u.wr, n0, u.nx, u.v.refs ++ u.wr.flatMap fun b => (u.H.get b).refs⟩

def okOut (n0 : Nat) (u : Out) : Bool :=
  Nat.ble n0 u.nx && (u.wr.all fun b => Nat.ble (b + 1) u.nx) && (List.range (u.nx - n0)).all fun i => u.wr.any (Nat.beq (n0 + i))

/-- the slots that are kept -/
def pruneK {β : Type} (s : Slots) : List Nat → (Slots → β) → β
  | [], k => k []
  | t :: r, k => match s.get t with
    | .top => pruneK s r k
    | .v x => pruneK s r fun s' => k ((t, .v x) :: s')
    | .tup l => pruneK s r fun s' => k ((t, .tup l) :: s')

/-- operations of a region that draws: each is run with what it looks at alone -/
def evDraw (G : Ctx) (call : CallF) (N : Nat) (ops : Array Oper) : List Oper → St → List Eff → T (St × List Eff)
  | [], st, es => .ret (st, es)
  | o :: r, st, es =>
    match (match o.dst with | some d => Nat.ble (d + 1) N | none => true) with
    | false => .bad
    | true =>
    let run : T (St × List Eff) := pruneK st.sl (o.looksAt ops) fun s => (evOp G call true ⟨s, st.H, st.nx, false, st.base, []⟩ o).bind fun u => match okOut st.nx u with
      | true => forceV G.sym u.v fun v => evDraw G call N ops r ((st.up u).put o.dst v) (effOf st.nx u :: es)
      | false => .bad
    match o.guard with
    | none => run
    | some (j, want) =>
      match (ops.toList[j]?).bind (·.dst) with
      | none => .bad
      | some t => match st.sl.get t with
        | .v (.one (.f (.lit (.bool c)))) => match want with
          | true => .br c run (evDraw G call N ops r (st.put o.dst (.tup [])) (⟨[], [], st.nx, st.nx, []⟩ :: es))
          | false => .br c (evDraw G call N ops r (st.put o.dst (.tup [])) (⟨[], [], st.nx, st.nx, []⟩ :: es)) run
        | .tup [] => evDraw G call N ops r (st.put o.dst (.tup [])) (⟨[], [], st.nx, st.nx, []⟩ :: es)
        | _ => .bad

def meets (a b : List Nat) : Bool := a.any fun x => b.any (Nat.beq x)

/-- may neither come before the other? -/
def clash (a b : Eff) : Bool := meets a.wr b.fp || meets a.wr b.wr || meets a.fp b.wr

/-- the first region of a code: a loop's name -/
def rid : Code → Option Nat
  | .region id _ _ => some id
  | .seq a b => match rid a with | some n => some n | none => rid b
  | .cond _ a b => match rid a with | some n => some n | none => rid b
  | .block _ c | .loop c | .scope c => rid c
  | _ => none

/-- a region's own name -/
def rid0 : Code → Option Nat
  | .region id _ _ => some id
  | _ => none

def edges (o : Oper) : List Nat := (o.after.toList.filter (Region.binds .any)).map (·.on)

/-- for each operation those that come before it, as a number's bits -/
def closure : List Oper → List Nat → List Nat
  | [], acc => acc
  | o :: r, acc => closure r (acc ++ [(edges o).foldl (fun s e => s ||| (1 <<< e) ||| acc.getD e 0) 0])

def okPairs (all : List Oper) (ops : Array Oper) (es : List Eff) (bf : List Nat) (n : Nat) : Bool :=
  (List.range n).all fun j => (List.range j).all fun i =>
    (bf.getD j 0).testBit i ||
    (match all[i]?, all[j]?, es[i]?, es[j]? with
     | some oi, some oj, some ei, some ej => oi.apart ops oj && !(clash ei ej)
     | _, _, _, _ => false)

/-- may the text's order stand for every other one? 'es': the effects, in order -/
def okRefs (n0 : Nat) (es : List Eff) (bf : List Nat) (n : Nat) : Bool :=
  (List.range n).all fun k => match es[k]? with
    | none => false
    | some e => e.rf.all fun b => Nat.ble (b + 1) n0 || (List.range (k + 1)).any fun i => (Nat.beq i k || (bf.getD k 0).testBit i) &&
      (match es[i]? with | some e' => Nat.ble e'.n0 b && Nat.ble (b + 1) e'.n1 | none => false)

def okDraw (n0 : Nat) (ops : Array Oper) (es : List Eff) : Bool :=
  let all := ops.toList
  let bf := closure all []
  Region.noSelect ops && Nat.beq es.length all.length && (all.zipIdx.all fun (o, i) => (edges o).all fun e => Nat.ble (e + 1) i) &&
    okPairs all ops es bf all.length && okRefs n0 es bf all.length

def ownRefs (n : Nat) : SV → Bool
  | .v a => a.cells.any (CV.beyond n)
  | .tup l => l.any fun a => a.cells.any (CV.beyond n)
  | .top => false

/-- what leaves nothing behind is forgotten -/
def popK {β : Type} (n0 : Nat) (u : CallOut) (k : CallOut → β) : β :=
  match u.esc || ownRefs n0 u.v with
  | true => k u
  | false => go u.H k
where
  go : Heap → (CallOut → β) → β
    | [], k => k ⟨u.v, [], n0, false, u.wr⟩
    | (b, o) :: r, k => match Nat.ble n0 b with
      | true => go r k
      | false => go r fun c => k { c with H := (b, o) :: c.H }

def resultsOf (G : Ctx) (st : St) : List ResultVar → T (List AV)
  | [] => .ret []
  | .tmp t :: r => match st.sl.get t with
    | .v a => (resultsOf G st r).bind fun l => .ret (a :: l)
    | _ => .bad
  | .cell x t :: r => match G.ti t, st.sl.get x with
    | some i, .v (.one (.ptr b m a j)) => ((st.H.get b).rd m a j i.size).bind fun l => match ofCells i.agg l with
      | some v => (resultsOf G st r).bind fun l => .ret (v :: l)
      | none => .bad
    | _, _ => .bad

def outV : List AV → SV
  | [x] => .v x
  | l => .tup l

def argSlots : Nat → List AV → Slots
  | _, [] => []
  | n, a :: r => (n, .v a) :: argSlots (n + 1) r

/-- what a function comes to, its code's run being given -/
def evFn (G : Ctx) (run : Nat → Nat → Code → St → T (Ex × St)) (g : Nat) (args : List AV) (H : Heap) (nx : Nat) : T CallOut :=
  match G.fi g with
  | none => .bad
  | some fn => match fn.body, Nat.ble args.length fn.ntmps with
    | some c, true => (run g fn.ntmps c ⟨argSlots 0 args, H, nx, false, nx, []⟩).bind fun (e, st) => match e with
      | .exit _ => .bad
      | _ => (resultsOf G st fn.results.toList).bind fun l =>
        popK nx ⟨outV l, st.H, st.nx, st.esc, st.wr⟩ .ret
    | _, _ => .bad

/-- a call: what is known of it, or its run -/
def evKnown (G : Ctx) (run : Nat → Nat → Code → St → T (Ex × St)) (g : Nat) (args : List AV) (H : Heap) (nx : Nat) : T CallOut :=
  match G.sum g with
  | some s => s args H nx
  | none => evFn G run g args H nx

/-- less is said, where it is asked for -/
def hook (G : Ctx) (F id : Nat) (st : St) : T St := match G.pre F id with
  | some p => p st
  | none => .ret st

def ev (G : Ctx) (live : Nat → Nat → Option (List Nat)) : Nat → Nat → Nat → Code → St → T (Ex × St)
  | 0, _, _, _, _ => .bad
  | n + 1, F, N, code, st =>
    match code with
    | .skip | .label _ => .ret (.normal, st)
    | .seq a b => match (rid0 a).bind (G.ls F) with
     | some L => L N (.seq a b) st
     | none => (ev G live n F N a st).bind fun (e, st) => match e with
      | .normal => ev G live n F N b st
      | e => .ret (e, st)
    | .cond c a b => split st c fun t st => match t with | true => ev G live n F N a st | false => ev G live n F N b st
    | .block id c => (ev G live n F N c st).bind fun (e, st) => match e with
      | .exit k => match Nat.beq k id with | true => .ret (.normal, st) | false => .ret (.exit k, st)
      | e => .ret (e, st)
    | .loop c => match (rid c).bind (G.ls F) with
     | some L => L N (.loop c) st
     | none =>
      let go (s : Slots) : T (Ex × St) := (ev G live n F N c { st with sl := s }).bind fun (e, st) => match e with
        | .normal => ev G live n F N (.loop c) st
        | e => .ret (e, st)
      match (rid c).bind (live F) with
      | some l => pruneK st.sl l go
      | none => go st.sl
    | .region id ops false => (hook G F id st).bind fun st => (evOps G (evKnown G (ev G live n)) N ops.toList ops.toList st).bind fun st => .ret (.normal, st)
    | .region id ops true => (hook G F id st).bind fun st => (evDraw G (evKnown G (ev G live n)) N ops ops.toList st []).bind fun (st', es) =>
      match okDraw st.nx ops es.reverse with | true => .ret (.normal, st') | false => .bad
    | .exit id => .ret (.exit id, st)
    | .ret => .ret (.ret, st)
    | _ => .bad

def evCall (G : Ctx) (live : Nat → Nat → Option (List Nat)) (n : Nat) : Nat → List AV → Heap → Nat → T CallOut := evFn G (ev G live n)

end Go.Proofs.Ytggneleipimijaa.En
/- The engine, part 1: how abstract values and heaps stand for a world's. -/
namespace Go.Proofs.Ytggneleipimijaa.En
open Go
set_option linter.unusedVariables false

/-- where an own block lies: the world's block, from which cell on, how many cells of it there are -/
structure Loc where
  k : Nat
  d : Nat
  t : Nat

/-- cells that are never written any more -/
abbrev Z := Nat → Nat → Option Value

inductive RF (z : Z) : FV → Value → Prop
  | lit (v : Value) (h : v.oneCell' = true) : RF z (.lit v) v
  | z0n : RF z (.z0 true) (.slice none 0 0)
  | z0s (a : Addr) : RF z (.z0 false) (.slice (some a) 0 0)
  | fsn (sz : Nat) (e : Nat → List FV) : RF z (.fs true sz 0 e) (.slice none 0 0)
  | fs0 (sz : Nat) (e : Nat → List FV) (a : Addr) (cap : Nat) : RF z (.fs false sz 0 e) (.slice (some a) 0 cap)
  | fss (sz n : Nat) (e : Nat → List FV) (k o cap : Nat) (g : Nat → Nat → Value) (hc : n ≤ cap)
      (h1 : ∀ i j, i < n → j < sz → z k (o + (i * sz + j)) = some (g i j))
      (h2 : ∀ i j x, i < n → j < sz → (e i)[j]? = some x → RF z x (g i j)) (h3 : ∀ i j, i < n → j < sz → (g i j).oneCell' = true) : RF z (.fs false sz n e) (.slice (some ⟨k, o, none⟩) n cap)
  | fp (l : List FV) (k o : Nat) (g : Nat → Value) (h1 : ∀ j, j < l.length → z k (o + j) = some (g j))
      (h2 : ∀ j x, l[j]? = some x → RF z x (g j)) : RF z (.fp l) (.pointer (some ⟨k, o, none⟩))

def Z.le (z z' : Z) : Prop := ∀ k o v, z k o = some v → z' k o = some v

theorem RF.mono {z z' : Z} (hz : z.le z') {x : FV} {v : Value} (h : RF z x v) : RF z' x v := by
  induction h with
  | lit v h => exact .lit v h
  | z0n => exact .z0n
  | z0s a => exact .z0s a
  | fsn sz e => exact .fsn sz e
  | fs0 sz e a cap => exact .fs0 sz e a cap
  | fss sz n e k o cap g hc h1 _ h3 ih => exact .fss sz n e k o cap g hc (fun i j hi hj => hz _ _ _ (h1 i j hi hj)) ih h3
  | fp l k o g h1 _ ih => exact .fp l k o g (fun j hj => hz _ _ _ (h1 j hj)) ih

theorem RF.one {z : Z} {x : FV} {v : Value} (h : RF z x v) : v.oneCell' = true := by
  cases h <;> first | assumption | rfl

abbrev Fn := Nat → Loc

def ad (f : Fn) (b m i j : Nat) : Addr := ⟨(f b).k, (f b).d + (i * m + j), none⟩

def RC (f : Fn) (nx : Nat) (z : Z) : CV → Value → Prop
  | .f x, v => RF z x v
  | .ptr b m i j, v => b < nx ∧ v = .pointer (some (ad f b m i j))
  | .sl nil b m i j len cap ex sz, v => b < nx ∧ (nil = true → len = 0 ∧ cap = 0 ∧ v = .slice none 0 0) ∧
      (nil = false → ∃ cap', v = .slice (some (ad f b m i j)) len cap' ∧ len ≤ cap' ∧ cap ≤ cap' ∧ (ex = true → cap' = cap) ∧ (i * m + j) + cap' * sz ≤ (f b).t)
  | .mp b, v => b < nx ∧ v = .map (some (f b).k)
  | .fn g l, v => v = .func (.func g) #[] (l.map fun x => Value.pointer (some (ad f x.1 x.2.1 x.2.2.1 x.2.2.2))).toArray ∧ ∀ x ∈ l, x.1 < nx

theorem RC.one {f : Fn} {nx : Nat} {z : Z} {x : CV} {v : Value} (h : RC f nx z x v) : v.oneCell' = true := by
  cases x with
  | f x => exact RF.one h
  | ptr => obtain ⟨_, rfl⟩ := h; rfl
  | sl nil =>
    obtain ⟨_, h1, h2⟩ := h
    cases nil with
    | true => obtain ⟨_, _, rfl⟩ := h1 rfl; rfl
    | false => obtain ⟨c, rfl, _⟩ := h2 rfl; rfl
  | mp => obtain ⟨_, rfl⟩ := h; rfl
  | fn => obtain ⟨rfl, _⟩ := h; rfl

/-- f' goes on from f -/
def Ext (nx : Nat) (f f' : Fn) : Prop := ∀ b, b < nx → f' b = f b

theorem RC.mono {f f' : Fn} {nx nx' : Nat} {z z' : Z} (hf : Ext nx f f') (hn : nx ≤ nx') (hz : z.le z') {x : CV} {v : Value} (h : RC f nx z x v) : RC f' nx' z' x v := by
  cases x with
  | f x => exact RF.mono hz h
  | ptr b m i j => obtain ⟨h1, rfl⟩ := h; exact ⟨by omega, by simp [ad, hf b h1]⟩
  | sl nil b m i j len cap ex sz =>
    obtain ⟨h0, h1, h2⟩ := h
    refine ⟨by omega, h1, fun hn => ?_⟩
    obtain ⟨c, rfl, h3⟩ := h2 hn
    exact ⟨c, by simp [ad, hf b h0], by rw [hf b h0]; exact h3⟩
  | mp b => obtain ⟨h1, rfl⟩ := h; exact ⟨by omega, by rw [hf b h1]⟩
  | fn g l =>
    obtain ⟨rfl, h⟩ := h
    refine ⟨?_, fun x hx => by have := h x hx; omega⟩
    congr 2
    exact List.map_congr_left fun x hx => by simp [ad, hf x.1 (h x hx)]

/-- what leads to no block behind n0 needs no block behind n0 -/
theorem RC.below {f : Fn} {nx n0 : Nat} {z : Z} {x : CV} {v : Value} (h : RC f nx z x v) (hb : x.beyond n0 = false) : RC f n0 z x v := by
  have key : ∀ b : Nat, Nat.ble n0 b = false → b < n0 := fun b hb => by
    rcases Nat.lt_or_ge b n0 with h | h
    · exact h
    · rw [Nat.ble_eq_true_of_le h] at hb; cases hb
  cases x with
  | f x => exact h
  | ptr b m i j => exact ⟨key _ hb, h.2⟩
  | sl nil b m i j len cap ex sz => exact ⟨key _ hb, h.2⟩
  | mp b => exact ⟨key _ hb, h.2⟩
  | fn g l =>
    refine ⟨h.1, fun x hx => ?_⟩
    simp only [CV.beyond, List.any_eq_false] at hb
    simpa using hb x hx

/-- cell by cell -/
def RL (f : Fn) (nx : Nat) (z : Z) (l : List CV) (vs : List Value) : Prop := l.length = vs.length ∧ ∀ (i : Nat) x v, l[i]? = some x → vs[i]? = some v → RC f nx z x v

theorem RL.mono {f f' : Fn} {nx nx' : Nat} {z z' : Z} (hf : Ext nx f f') (hn : nx ≤ nx') (hz : z.le z') {l : List CV} {vs : List Value} (h : RL f nx z l vs) : RL f' nx' z' l vs :=
  ⟨h.1, fun i x v hx hv => RC.mono hf hn hz (h.2 i x v hx hv)⟩

def RA (f : Fn) (nx : Nat) (z : Z) : AV → Value → Prop
  | .one x, v => RC f nx z x v
  | .agg l, v => ∃ cs : Array Value, v = .agg cs ∧ RL f nx z l cs.toList

theorem RA.mono {f f' : Fn} {nx nx' : Nat} {z z' : Z} (hf : Ext nx f f') (hn : nx ≤ nx') (hz : z.le z') {x : AV} {v : Value} (h : RA f nx z x v) : RA f' nx' z' x v := by
  cases x with
  | one x => exact RC.mono hf hn hz h
  | agg l => obtain ⟨cs, rfl, h⟩ := h; exact ⟨cs, rfl, h.mono hf hn hz⟩

theorem cells_of_one {v : Value} (h : v.oneCell' = true) : v.cells = #[v] := by
  cases v <;> first | rfl | cases h

theorem RA.cells {f : Fn} {nx : Nat} {z : Z} {x : AV} {v : Value} (h : RA f nx z x v) : RL f nx z x.cells v.cells.toList := by
  cases x with
  | one x =>
    have h1 := RC.one h
    rw [cells_of_one h1]
    refine ⟨rfl, fun i y u hy hu => ?_⟩
    match i with
    | 0 =>
      simp [AV.cells] at hy hu
      subst hy
      subst hu
      exact h
    | i + 1 => simp [AV.cells] at hy
  | agg l => obtain ⟨cs, rfl, h⟩ := h; exact h

def RAs (f : Fn) (nx : Nat) (z : Z) (l : List AV) (vs : List Value) : Prop := l.length = vs.length ∧ ∀ (i : Nat) x v, l[i]? = some x → vs[i]? = some v → RA f nx z x v

theorem RAs.mono {f f' : Fn} {nx nx' : Nat} {z z' : Z} (hf : Ext nx f f') (hn : nx ≤ nx') (hz : z.le z') {l : List AV} {vs : List Value} (h : RAs f nx z l vs) : RAs f' nx' z' l vs :=
  ⟨h.1, fun i x v hx hv => RA.mono hf hn hz (h.2 i x v hx hv)⟩

theorem RAs.nil {f : Fn} {nx : Nat} {z : Z} : RAs f nx z [] [] := ⟨rfl, fun i x v h => by simp at h⟩

theorem RAs.cons {f : Fn} {nx : Nat} {z : Z} {x : AV} {v : Value} {l : List AV} {vs : List Value} (h : RA f nx z x v) (hl : RAs f nx z l vs) : RAs f nx z (x :: l) (v :: vs) := by
  refine ⟨by simp [hl.1], fun i y u hy hu => ?_⟩
  match i with
  | 0 => simp at hy hu; subst hy; subst hu; exact h
  | i + 1 => exact hl.2 i y u (by simpa using hy) (by simpa using hu)

def RS (f : Fn) (nx : Nat) (z : Z) : SV → Value → Prop
  | .v x, v => RA f nx z x v
  | .tup l, v => ∃ vs : Array Value, v = .tuple vs ∧ RAs f nx z l vs.toList
  | .top, _ => True

theorem RS.mono {f f' : Fn} {nx nx' : Nat} {z z' : Z} (hf : Ext nx f f') (hn : nx ≤ nx') (hz : z.le z') {x : SV} {v : Value} (h : RS f nx z x v) : RS f' nx' z' x v := by
  cases x with
  | v x => exact RA.mono hf hn hz h
  | tup l => obtain ⟨vs, rfl, h⟩ := h; exact ⟨vs, rfl, h.mono hf hn hz⟩
  | top => trivial

/-- the slots -/
def TR (f : Fn) (nx : Nat) (z : Z) (s : Slots) (a : Array Value) : Prop := ∀ t, RS f nx z (s.get t) (a.getD t undef)

theorem TR.mono {f f' : Fn} {nx nx' : Nat} {z z' : Z} (hf : Ext nx f f') (hn : nx ≤ nx') (hz : z.le z') {s : Slots} {a : Array Value} (h : TR f nx z s a) : TR f' nx' z' s a :=
  fun t => RS.mono hf hn hz (h t)

theorem Slots.get_cons (k : Nat) (v : SV) (r : Slots) (t : Nat) : Slots.get ((k, v) :: r) t = if k = t then v else Slots.get r t := by
  simp only [Slots.get]
  by_cases h : k = t
  · subst h; simp
  · have : Nat.beq k t = false := by
      cases hb : Nat.beq k t with
      | false => rfl
      | true => exact absurd (Nat.eq_of_beq_eq_true hb) h
    simp [this, h]

theorem TR.put {f : Fn} {nx : Nat} {z : Z} {s : Slots} {a : Array Value} (h : TR f nx z s a) {d : Nat} (hd : d < a.size) {x : SV} {v : Value} (hx : RS f nx z x v) :
    TR f nx z ((d, x) :: s) (a.setIfInBounds d v) := by
  intro t
  rw [Slots.get_cons]
  by_cases e : d = t
  · subst e; simp [hd]; exact hx
  · have := h t
    simp [e] at *
    simpa [Array.getElem?_setIfInBounds, e] using this

/-- a slot's value, told anew -/
theorem TR.tell {f : Fn} {nx : Nat} {z : Z} {s : Slots} {a : Array Value} (h : TR f nx z s a) {d : Nat} {x : SV} (hx : RS f nx z x (a.getD d undef)) :
    TR f nx z ((d, x) :: s) a := by
  intro t
  rw [Slots.get_cons]
  by_cases e : d = t
  · subst e; simp only [if_true]; exact hx
  · simp only [e, if_false]; exact h t

def Ob.live : Ob → Prop
  | .cells _ => True
  | .arr live _ _ _ => live = true
  | .map _ => True
  | .dead => False

def Ob.at (o : Ob) (m i j : Nat) : Option CV :=
  match o with
  | .cells l => if m = 0 ∧ i = 0 then l[j]? else none
  | .arr live sz n e => if live = true ∧ m = sz ∧ i < n ∧ j < sz then ((e i)[j]?).map .f else none
  | _ => none

def Ob.isMap : Ob → Prop
  | .map _ => True
  | _ => False

/-- a map's stamps: each is of one entry, and behind the clock -/
def BornOk (arr : Array MapEntry) (clock : Nat) : Prop := (∀ x ∈ arr.toList, x.born < clock) ∧ (arr.toList.map (·.born)).Nodup
theorem BornOk.nil : BornOk #[] 0 := ⟨by simp, by simp⟩
theorem BornOk.push {arr : Array MapEntry} {clock : Nat} (h : BornOk arr clock) (k v : Value) : BornOk (arr.push { key := k, val := v, born := clock }) (clock + 1) := by
  obtain ⟨h1, h2⟩ := h
  refine ⟨fun x hx => ?_, ?_⟩
  · simp only [Array.toList_push, List.mem_append, List.mem_singleton] at hx
    rcases hx with hx | rfl
    · exact Nat.lt_succ_of_lt (h1 x hx)
    · exact Nat.lt_succ_self _
  · simp only [Array.toList_push, List.map_append, List.map_cons, List.map_nil]
    refine List.nodup_append.2 ⟨h2, by simp, ?_⟩
    intro a ha b hb
    simp only [List.mem_singleton] at hb
    subst hb
    obtain ⟨x, hx, rfl⟩ := List.mem_map.1 ha
    exact Nat.ne_of_lt (h1 x hx)
theorem BornOk.modify {arr : Array MapEntry} {clock : Nat} (h : BornOk arr clock) (i : Nat) (k v : Value) : BornOk (arr.modify i fun e => { e with key := k, val := v }) clock := by
  have hb : (arr.modify i fun e => { e with key := k, val := v }).toList.map (·.born) = arr.toList.map (·.born) := by
    apply List.ext_getElem?
    intro j
    simp only [List.getElem?_map, Array.getElem?_toList, Array.getElem?_modify]
    by_cases hij : i = j
    · subst hij
      cases arr[i]? <;> simp
    · simp [hij]
  refine ⟨fun x hx => ?_, by rw [hb]; exact h.2⟩
  have : x.born ∈ (arr.modify i fun e => { e with key := k, val := v }).toList.map (·.born) := List.mem_map.2 ⟨x, hx, rfl⟩
  rw [hb] at this
  obtain ⟨y, hy, e⟩ := List.mem_map.1 this
  rw [← e]; exact h.1 y hy

structure BOk (f : Fn) (nx : Nat) (z : Z) (w : World) (b : Nat) (o : Ob) : Prop where
  lt : (f b).k < w.heap.size
  own : ∀ p, z (f b).k p = none
  room : ∀ p, p < (f b).t → (∃ v, w.cell? ⟨(f b).k, (f b).d + p, none⟩ = some v ∧ v.oneCell' = true) ∧ w.frozen? ⟨(f b).k, (f b).d + p, none⟩ = false
  cell : ∀ m i j x, o.at m i j = some x → i * m + j < (f b).t ∧ ∃ v, w.cell? (ad f b m i j) = some v ∧ RC f nx z x v
  map : ∀ es, o = .map es → (f b).t = 0 ∧ ∃ arr clock, w.heap[(f b).k]? = some (.map arr clock) ∧ arr.toList.map (fun e => (e.key, e.val)) = es ∧ BornOk arr clock

theorem BOk.hasCell {f : Fn} {nx : Nat} {z : Z} {w : World} {b : Nat} {o : Ob} (h : BOk f nx z w b o) {p : Nat} (hp : p < (f b).t) : (w.cell? ⟨(f b).k, (f b).d + p, none⟩).isSome = true := by
  obtain ⟨v, hv, _⟩ := (h.room p hp).1
  rw [hv]; rfl

theorem RL.all {f : Fn} {nx : Nat} {z : Z} {l : List CV} {vs : List Value} (h : RL f nx z l vs) : ∀ v ∈ vs, v.oneCell' = true := by
  intro v hv
  obtain ⟨i, hi⟩ := List.mem_iff_getElem?.1 hv
  have hlt : i < l.length := by rw [h.1]; exact (List.getElem?_eq_some_iff.1 hi).1
  exact (h.2 i _ v (List.getElem?_eq_getElem hlt) hi).one

structure Rel (S : Nat → Prop) (f : Fn) (nx : Nat) (z : Z) (w : World) (H : Heap) : Prop where
  own : ∀ b, S b → (H.get b).live → b < nx ∧ BOk f nx z w b (H.get b)
  inj : ∀ b c, S b → S c → (H.get b).live → (H.get c).live → b ≠ c → (f b).k ≠ (f c).k
  zok : ∀ k o v, z k o = some v → w.cell? ⟨k, o, none⟩ = some v

abbrev All : Nat → Prop := fun _ => True

theorem Rel.less {S S' : Nat → Prop} {f : Fn} {nx : Nat} {z : Z} {w : World} {H : Heap} (h : Rel S f nx z w H) (hs : ∀ b, S' b → S b) : Rel S' f nx z w H :=
  ⟨fun b hb => h.own b (hs b hb), fun b c hb hc => h.inj b c (hs b hb) (hs c hc), h.zok⟩

/-- the world's blocks under S -/
def img (S : Nat → Prop) (f : Fn) (H : Heap) (k : Nat) : Prop := ∃ b, S b ∧ (H.get b).live ∧ (f b).k = k

structure Fr (I : Nat → Prop) (w w' : World) : Prop where
  size : w.heap.size ≤ w'.heap.size
  os : w'.os = w.os
  tape : w'.tape = w.tape
  output : w'.output = w.output
  block : ∀ k, k < w.heap.size → ¬ I k → w'.heap[k]? = w.heap[k]?

theorem Fr.refl (I : Nat → Prop) (w : World) : Fr I w w := ⟨Nat.le_refl _, rfl, rfl, rfl, fun _ _ _ => rfl⟩

theorem Fr.trans {I J : Nat → Prop} {a b c : World} (h : Fr I a b) (k : Fr J b c) (hJ : ∀ x, x < a.heap.size → J x → I x) : Fr I a c :=
  ⟨Nat.le_trans h.size k.size, k.os.trans h.os, k.tape.trans h.tape, k.output.trans h.output, fun x hx hn =>
    (k.block x (Nat.lt_of_lt_of_le hx h.size) fun hj => hn (hJ x hx hj)).trans (h.block x hx hn)⟩

theorem Fr.less {I J : Nat → Prop} {a b : World} (h : Fr I a b) (hJ : ∀ x, x < a.heap.size → I x → J x) : Fr J a b :=
  ⟨h.size, h.os, h.tape, h.output, fun x hx hn => h.block x hx fun hi => hn (hJ x hx hi)⟩

theorem Fr.below {w w' : World} (h : Fr (fun _ => False) w w') : Go.RowKit.Below w.heap.size w w' :=
  ⟨h.os, h.tape, h.output, h.size, fun k hk => h.block k hk id⟩

def NoNew (m : Nat) (H : Heap) : Prop := ∀ b l, b < m → H.get b = .cells l → ∀ x ∈ l, x.beyond m = false

/-- what a step on the blocks S leaves -/
structure Post (S : Nat → Prop) (f : Fn) (nx : Nat) (z : Z) (w : World) (H : Heap) (f' : Fn) (nx' : Nat) (z' : Z) (w' : World) (H' : Heap) (esc : Bool) : Prop where
  hnx : nx ≤ nx'
  ext : Ext nx f f'
  zle : z.le z'
  znew : ∀ k o v, z' k o = some v → z k o = some v ∨ w.heap.size ≤ k ∨ img S f H k
  same : ∀ b, b < nx → ¬ S b → H'.get b = H.get b ∨ ¬ (H'.get b).live
  dead : ∀ b, b < nx → (H'.get b).live → (H.get b).live
  rel : Rel (fun b => S b ∨ nx ≤ b) f' nx' z' w' H'
  fresh : ∀ b, nx ≤ b → (H'.get b).live → w.heap.size ≤ (f' b).k ∨ img S f H (f' b).k
  fr : Fr (img S f H) w w'
  noesc : esc = false → ∀ m, m ≤ nx → NoNew m H → NoNew m H'

theorem Fr.cell {I : Nat → Prop} {w w' : World} (h : Fr I w w') {k : Nat} (hk : k < w.heap.size) (hn : ¬ I k) (o : Nat) : w'.cell? ⟨k, o, none⟩ = w.cell? ⟨k, o, none⟩ :=
  World.cell?_of_block (w := w) (h.block k hk hn)

theorem Fr.frozen {I : Nat → Prop} {w w' : World} (h : Fr I w w') {k : Nat} (hk : k < w.heap.size) (hn : ¬ I k) (o : Nat) : w'.frozen? ⟨k, o, none⟩ = w.frozen? ⟨k, o, none⟩ :=
  World.frozen?_of_block (w := w) (h.block k hk hn)

theorem BOk.kept {f f' : Fn} {nx nx' : Nat} {z z' : Z} {w w' : World} {b : Nat} {o : Ob} (h : BOk f nx z w b o) (hb : b < nx) {I : Nat → Prop} (hfr : Fr I w w') (hn : ¬ I (f b).k)
    (he : Ext nx f f') (hx : nx ≤ nx') (hz : z.le z') (hzn : ∀ k o v, z' k o = some v → z k o = some v ∨ w.heap.size ≤ k ∨ I k) : BOk f' nx' z' w' b o := by
  have e := he b hb
  refine ⟨by rw [e]; exact Nat.lt_of_lt_of_le h.lt hfr.size, fun p => ?_, fun p hp => ?_, fun m i j x hx' => ?_, fun es he => by rw [e, hfr.block _ h.lt hn]; exact h.map es he⟩
  · rw [e]
    cases hv : z' (f b).k p with
    | none => rfl
    | some v =>
      rcases hzn _ _ _ hv with h1 | h1 | h1
      · rw [h.own p] at h1; cases h1
      · have := h.lt; omega
      · exact absurd h1 hn
  · rw [e] at hp ⊢
    rw [hfr.cell h.lt hn, hfr.frozen h.lt hn]
    exact h.room p hp
  · obtain ⟨h1, v, h2, h3⟩ := h.cell m i j x hx'
    refine ⟨by rw [e]; exact h1, v, ?_, RC.mono he hx hz h3⟩
    simp only [ad, e]
    rw [hfr.cell h.lt hn]
    exact h2

/-- a step on some blocks is a step on all of them -/
theorem Post.lift {S : Nat → Prop} {f f' : Fn} {nx nx' : Nat} {z z' : Z} {w w' : World} {H H' : Heap} {esc : Bool} (hr : Rel All f nx z w H)
    (h : Post S f nx z w H f' nx' z' w' H' esc) : Post All f nx z w H f' nx' z' w' H' esc := by
  have himg : ∀ b, b < nx → ¬ S b → (H.get b).live → ¬ img S f H (f b).k := by
    rintro b hb hs hl ⟨c, hc, hcl, he⟩
    exact hr.inj c b trivial trivial hcl hl (fun e => hs (e ▸ hc)) he
  have hsub : ∀ x, img S f H x → img All f H x := fun x ⟨b, _, hl, he⟩ => ⟨b, trivial, hl, he⟩
  have hkeep : ∀ b, b < nx → ¬ S b → (H'.get b).live → BOk f' nx' z' w' b (H'.get b) := by
    intro b hb hs hl
    have hl0 := h.dead b hb hl
    rcases h.same b hb hs with e | e
    · rw [e]
      exact (hr.own b trivial hl0).2.kept hb h.fr (himg b hb hs hl0) h.ext h.hnx h.zle h.znew
    · exact absurd hl e
  refine ⟨h.hnx, h.ext, h.zle, fun k o v hv => (h.znew k o v hv).imp id (Or.imp id (hsub _)), fun b hb hs => absurd trivial hs, h.dead, ⟨?_, ?_, h.rel.zok⟩, fun b hb hl => (h.fresh b hb hl).imp id (hsub _), h.fr.less fun x _ => hsub x, h.noesc⟩
  · intro b _ hl
    by_cases hs : S b ∨ nx ≤ b
    · exact h.rel.own b hs hl
    · have hb : b < nx := by
        rcases Nat.lt_or_ge b nx with h | h
        · exact h
        · exact absurd (Or.inr h) hs
      exact ⟨Nat.lt_of_lt_of_le hb h.hnx, hkeep b hb (fun e => hs (.inl e)) hl⟩
  · have side : ∀ b c, b < nx → ¬ S b → (S c ∨ nx ≤ c) → (H'.get b).live → (H'.get c).live → (f' b).k ≠ (f' c).k := by
      intro b c hb hs hc hl hl' he
      have hl0 := h.dead b hb hl
      rw [h.ext b hb] at he
      have hlt := (hr.own b trivial hl0).2.lt
      rcases Nat.lt_or_ge c nx with h1 | h1
      · have hc' : S c := hc.resolve_right (by omega)
        rw [h.ext c h1] at he
        exact hr.inj b c trivial trivial hl0 (h.dead c h1 hl') (fun e => hs (e ▸ hc')) he
      · rcases h.fresh c h1 hl' with h2 | h2
        · rw [← he] at h2; omega
        · rw [← he] at h2
          exact himg b hb hs hl0 h2
    intro b c _ _ hl hl' hne
    by_cases hb : S b ∨ nx ≤ b
    · by_cases hc : S c ∨ nx ≤ c
      · exact h.rel.inj b c hb hc hl hl' hne
      · have hc0 : c < nx := by
          rcases Nat.lt_or_ge c nx with h | h
          · exact h
          · exact absurd (Or.inr h) hc
        exact (side c b hc0 (fun e => hc (.inl e)) hb hl' hl).symm
    · have hb0 : b < nx := by
        rcases Nat.lt_or_ge b nx with h | h
        · exact h
        · exact absurd (Or.inr h) hb
      by_cases hc : S c ∨ nx ≤ c
      · exact side b c hb0 (fun e => hb (.inl e)) hc hl hl'
      · have hc0 : c < nx := by
          rcases Nat.lt_or_ge c nx with h | h
          · exact h
          · exact absurd (Or.inr h) hc
        rw [h.ext b hb0, h.ext c hc0]
        exact hr.inj b c trivial trivial (h.dead b hb0 hl) (h.dead c hc0 hl') hne

theorem Post.refl {S : Nat → Prop} {f : Fn} {nx : Nat} {z : Z} {w : World} {H : Heap} {esc : Bool} (hr : Rel S f nx z w H) (hf : ∀ b, nx ≤ b → ¬ (H.get b).live) : Post S f nx z w H f nx z w H esc := by
  refine ⟨Nat.le_refl _, fun _ _ => rfl, fun _ _ _ h => h, fun _ _ _ h => .inl h, fun _ _ _ => .inl rfl, fun _ _ h => h, ⟨?_, ?_, hr.zok⟩, fun b hb hl => absurd hl (hf b hb), Fr.refl _ _, fun _ _ _ h => h⟩
  · intro b hb hl
    rcases hb with hb | hb
    · exact hr.own b hb hl
    · exact absurd hl (hf b hb)
  · intro b c hb hc hl hl' hne
    rcases hb with hb | hb
    · rcases hc with hc | hc
      · exact hr.inj b c hb hc hl hl' hne
      · exact absurd hl' (hf c hc)
    · exact absurd hl (hf b hb)

theorem Post.trans {f f1 f2 : Fn} {nx n1 n2 : Nat} {z z1 z2 : Z} {w w1 w2 : World} {H H1 H2 : Heap} {e1 e2 : Bool}
    (h : Post All f nx z w H f1 n1 z1 w1 H1 e1) (k : Post All f1 n1 z1 w1 H1 f2 n2 z2 w2 H2 e2) : Post All f nx z w H f2 n2 z2 w2 H2 (e1 || e2) := by
  have himg : ∀ x, img All f1 H1 x → w.heap.size ≤ x ∨ img All f H x := by
    rintro x ⟨b, _, hl, rfl⟩
    rcases Nat.lt_or_ge b nx with hb | hb
    · exact .inr ⟨b, trivial, h.dead b hb hl, by rw [h.ext b hb]⟩
    · exact h.fresh b hb hl
  refine ⟨Nat.le_trans h.hnx k.hnx, fun b hb => (k.ext b (Nat.lt_of_lt_of_le hb h.hnx)).trans (h.ext b hb), fun a b c hv => k.zle _ _ _ (h.zle _ _ _ hv), fun a b c hv => ?_, fun b _ hs => absurd trivial hs,
    fun b hb hl => h.dead b hb (k.dead b (Nat.lt_of_lt_of_le hb h.hnx) hl), ⟨fun b _ => k.rel.own b (.inl trivial), fun b c _ _ => k.rel.inj b c (.inl trivial) (.inl trivial), k.rel.zok⟩, fun b hb hl => ?_, ?_, fun he m hm hN => ?_⟩
  · rcases k.znew a b c hv with h1 | h1 | h1
    · exact h.znew a b c h1
    · exact .inr (.inl (Nat.le_trans h.fr.size h1))
    · exact .inr (himg _ h1)
  · rcases Nat.lt_or_ge b n1 with h1 | h1
    · rw [k.ext b h1]
      exact h.fresh b hb (k.dead b h1 hl)
    · rcases k.fresh b h1 hl with h2 | h2
      · exact .inl (Nat.le_trans h.fr.size h2)
      · exact himg _ h2
  · refine h.fr.trans k.fr fun x hx hi => ?_
    rcases himg x hi with h1 | h1
    · omega
    · exact h1
  · simp only [Bool.or_eq_false_iff] at he
    exact k.noesc he.2 m (Nat.le_trans hm h.hnx) (h.noesc he.1 m hm hN)

theorem Post.all {f f' : Fn} {nx nx' : Nat} {z z' : Z} {w w' : World} {H H' : Heap} {esc : Bool} (h : Post All f nx z w H f' nx' z' w' H' esc) : Rel All f' nx' z' w' H' :=
  ⟨fun b _ => h.rel.own b (.inl trivial), fun b c _ _ => h.rel.inj b c (.inl trivial) (.inl trivial), h.rel.zok⟩

theorem Rel.noLive {f : Fn} {nx : Nat} {z : Z} {w : World} {H : Heap} (hr : Rel All f nx z w H) : ∀ b, nx ≤ b → ¬ (H.get b).live :=
  fun b hb hl => by have := (hr.own b trivial hl).1; omega

end Go.Proofs.Ytggneleipimijaa.En
/- The engine, part 2: what reading, writing and making blocks come to. -/
namespace Go.Proofs.Ytggneleipimijaa.En
open Go
set_option linter.unusedVariables false

theorem T.res_bind {α β : Type} (t : T α) (k : α → T β) : (t.bind k).res = t.res.bind fun a => (k a).res := by
  induction t with
  | ret a => rfl
  | br b t e iht ihe =>
    cases b with
    | true => exact iht
    | false => exact ihe
  | bad => rfl

theorem T.bind_some {α β : Type} {t : T α} {k : α → T β} {r : β} (h : (t.bind k).res = some r) : ∃ a, t.res = some a ∧ (k a).res = some r := by
  rw [T.res_bind] at h
  cases ht : t.res with
  | none => rw [ht] at h; cases h
  | some a => rw [ht] at h; exact ⟨a, rfl, h⟩

theorem T.br_some {α : Type} {b : Bool} {t e : T α} {r : α} (h : (T.br b t e).res = some r) : (b = true ∧ t.res = some r) ∨ (b = false ∧ e.res = some r) := by
  cases b with
  | true => exact .inl ⟨rfl, h⟩
  | false => exact .inr ⟨rfl, h⟩

theorem T.need_some {α : Type} {b : Bool} {t : T α} {r : α} (h : (T.need b t).res = some r) : b = true ∧ t.res = some r := by
  rcases T.br_some h with h | ⟨_, h⟩
  · exact h
  · cases h

theorem T.ret_some {α : Type} {a r : α} (h : (T.ret a).res = some r) : a = r := by injection h

theorem T.bad_some {α : Type} {r : α} (h : (T.bad : T α).res = some r) : False := by cases h

theorem nbeq {a b : Nat} (h : Nat.beq a b = true) : a = b := Nat.eq_of_beq_eq_true h
theorem nble {a b : Nat} (h : Nat.ble a b = true) : a ≤ b := Nat.le_of_ble_eq_true h

theorem FV.ite0_eq (c : Bool) (x y : FV) : FV.ite0 c x y = match c with | true => x | false => y := by
  unfold FV.ite0
  split
  · split
    · rename_i k a k' b hk
      have := of_decide_eq_true hk
      subst this
      cases c <;> rfl
    · rfl
  · cases c <;> rfl
  · cases c <;> rfl
  · rfl

theorem iteL0_eq (c : Bool) : ∀ (l r : List FV), iteL0 c l r = match c with | true => l | false => r
  | x :: xs, y :: ys => by
    simp only [iteL0, FV.ite0_eq, iteL0_eq c xs ys]
    cases c <;> rfl
  | [], [] => by cases c <;> rfl
  | [], _ :: _ => by cases c <;> rfl
  | _ :: _, [] => by cases c <;> rfl

theorem FV.ite_eq (c : Bool) (x y : FV) : FV.ite c x y = match c with | true => x | false => y := by
  unfold FV.ite
  split
  · split
    · rename_i nil sz n e nil' sz' n' e' hs
      have := nbeq hs
      subst this
      simp only [iteL0_eq]
      cases c <;> rfl
    · rfl
  · exact FV.ite0_eq c x y

theorem iteL_eq (c : Bool) : ∀ (l r : List FV), iteL c l r = match c with | true => l | false => r
  | x :: xs, y :: ys => by
    simp only [iteL, FV.ite_eq, iteL_eq c xs ys]
    cases c <;> rfl
  | [], [] => by cases c <;> rfl
  | [], _ :: _ => by cases c <;> rfl
  | _ :: _, [] => by cases c <;> rfl

theorem CV.ite_eq (c : Bool) (x y : CV) : CV.ite c x y = match c with | true => x | false => y := by
  unfold CV.ite
  split
  · rw [FV.ite_eq]; cases c <;> rfl
  · rfl

theorem iteC_eq (c : Bool) : ∀ (l r : List CV), iteC c l r = match c with | true => l | false => r
  | x :: xs, y :: ys => by
    simp only [iteC, CV.ite_eq, iteC_eq c xs ys]
    cases c <;> rfl
  | [], [] => by cases c <;> rfl
  | [], _ :: _ => by cases c <;> rfl
  | _ :: _, [] => by cases c <;> rfl

theorem AV.ite_eq (c : Bool) (x y : AV) : AV.ite c x y = match c with | true => x | false => y := by
  unfold AV.ite
  split
  · rw [CV.ite_eq]; cases c <;> rfl
  · rw [iteC_eq]; cases c <;> rfl
  · rfl

theorem setRange_length {α : Type} : ∀ (l : List α) (j : Nat) (vs : List α), (setRange l j vs).length = l.length
  | [], _, _ => by simp [setRange]
  | x :: r, 0, [] => by simp [setRange]
  | _ :: r, 0, v :: vs => by simp [setRange, setRange_length r 0 vs]
  | x :: r, j + 1, vs => by simp [setRange, setRange_length r j vs]

theorem setRange_get {α : Type} : ∀ (l : List α) (j : Nat) (vs : List α) (p : Nat) (x : α), (setRange l j vs)[p]? = some x →
    (∃ q, p = j + q ∧ vs[q]? = some x) ∨ (l[p]? = some x ∧ ∀ q, q < vs.length → p ≠ j + q)
  | [], _, _, p, x, h => by simp [setRange] at h
  | y :: r, 0, [], p, x, h => .inr ⟨by simpa [setRange] using h, fun q hq => by simp at hq⟩
  | y :: r, 0, v :: vs, p, x, h => by
    cases p with
    | zero => exact .inl ⟨0, rfl, by simpa [setRange] using h⟩
    | succ p =>
      rcases setRange_get r 0 vs p x (by simpa [setRange] using h) with ⟨q, h1, h2⟩ | ⟨h1, h2⟩
      · exact .inl ⟨q + 1, by omega, by simpa using h2⟩
      · refine .inr ⟨by simpa using h1, fun q hq => ?_⟩
        cases q with
        | zero => omega
        | succ q => have := h2 q (by simpa using hq); omega
  | y :: r, j + 1, vs, p, x, h => by
    cases p with
    | zero => exact .inr ⟨by simpa [setRange] using h, fun q hq => by omega⟩
    | succ p =>
      rcases setRange_get r j vs p x (by simpa [setRange] using h) with ⟨q, h1, h2⟩ | ⟨h1, h2⟩
      · exact .inl ⟨q, by omega, h2⟩
      · exact .inr ⟨by simpa using h1, fun q hq => by have := h2 q hq; omega⟩

theorem setRangeK_eq {α β : Type} : ∀ (l : List α) (j : Nat) (vs : List α) (k : List α → β), setRangeK l j vs k = k (setRange l j vs)
  | [], _, _, k => by simp [setRangeK, setRange]
  | x :: r, 0, [], k => by simp [setRangeK, setRange]
  | _ :: r, 0, v :: vs, k => by simp [setRangeK, setRange, setRangeK_eq r 0 vs]
  | x :: r, j + 1, vs, k => by simp [setRangeK, setRange, setRangeK_eq r j vs]

theorem Heap.putK_eq {β : Type} : ∀ (H : Heap) (b : Nat) (o : Ob) (k : Heap → β), H.putK b o k = k (H.put b o)
  | [], _, _, k => rfl
  | (c, p) :: r, b, o, k => by
    simp only [Heap.putK, Heap.put]
    split
    · rfl
    · exact Heap.putK_eq r b o _

theorem Heap.get_cons (k : Nat) (o : Ob) (r : Heap) (b : Nat) : Heap.get ((k, o) :: r) b = if k = b then o else Heap.get r b := by
  simp only [Heap.get]
  by_cases h : k = b
  · subst h; simp
  · have : Nat.beq k b = false := by
      cases hb : Nat.beq k b with
      | false => rfl
      | true => exact absurd (nbeq hb) h
    simp [this, h]

theorem Heap.get_put : ∀ (H : Heap) (b : Nat) (o : Ob) (c : Nat), (H.put b o).get c = if b = c then o else H.get c
  | [], b, o, c => by simp only [Heap.put]; rw [Heap.get_cons]
  | (k, p) :: r, b, o, c => by
    simp only [Heap.put]
    by_cases h : k = b
    · subst h
      simp only [show Nat.beq k k = true from Nat.beq_refl k]
      rw [Heap.get_cons, Heap.get_cons]
      split <;> rfl
    · have : Nat.beq k b = false := by
        cases hb : Nat.beq k b with
        | false => rfl
        | true => exact absurd (nbeq hb) h
      simp only [this]
      rw [Heap.get_cons, Heap.get_cons, Heap.get_put r b o c]
      by_cases e : k = c
      · subst e; simp [Ne.symm h]
      · simp [e]

theorem fvs?_eq : ∀ (l : List CV) (r : List FV), fvs? l = some r → l = r.map .f
  | [], r, h => by simp only [fvs?, Option.some.injEq] at h; subst h; rfl
  | x :: l, r, h => by
    cases x with
    | f x =>
      simp only [fvs?] at h
      cases hl : fvs? l with
      | none => rw [hl] at h; cases h
      | some q =>
        rw [hl] at h
        simp only [Option.some.injEq] at h
        subst h
        rw [fvs?_eq l q hl]; rfl
    | _ => simp [fvs?] at h

theorem Ob.rd_ok {o : Ob} {m i j n : Nat} {l : List CV} (h : (o.rd m i j n).res = some l) : l.length = n ∧ o.live ∧ ¬ o.isMap ∧ ∀ (k : Nat) x, l[k]? = some x → o.at m i (j + k) = some x := by
  cases o with
  | cells c =>
    simp only [Ob.rd] at h
    split at h
    · rename_i hm
      simp only [Bool.and_eq_true] at hm
      have h1 := nbeq hm.1
      have h2 := nbeq hm.2
      split at h
      · rename_i hl
        have e := T.ret_some h
        subst e
        refine ⟨nbeq hl, trivial, id, fun k x hk => ?_⟩
        simp only [Ob.at, h1, h2, and_self, if_true]
        rw [List.getElem?_take] at hk
        split at hk
        · simpa [List.getElem?_drop] using hk
        · cases hk
      · exact (T.bad_some h).elim
    · exact (T.bad_some h).elim
  | arr live sz N e =>
    simp only [Ob.rd] at h
    split at h
    · rename_i hm
      simp only [Bool.and_eq_true] at hm
      have h1 := nbeq hm.1
      have h2 := nble hm.2
      obtain ⟨hlive, h⟩ := T.need_some h
      obtain ⟨hi, h⟩ := T.need_some h
      split at h
      · rename_i hl
        have e := T.ret_some h
        have hl := nbeq hl
        subst e
        refine ⟨by simpa using hl, hlive, id, fun k x hk => ?_⟩
        simp only [List.getElem?_map] at hk
        cases hq : (List.take n (List.drop j (e i)))[k]? with
        | none => rw [hq] at hk; cases hk
        | some y =>
          rw [hq] at hk
          rw [List.getElem?_take] at hq
          split at hq
          · rename_i hkn
            simp only [List.getElem?_drop] at hq
            simp only [Ob.at, hlive, h1, true_and]
            rw [if_pos ⟨nble hi, by omega⟩, hq]
            exact hk
          · cases hq
      · exact (T.bad_some h).elim
    · exact (T.bad_some h).elim
  | map es => exact (T.bad_some h).elim
  | dead => exact (T.bad_some h).elim

theorem Ob.wr_ok {o o' : Ob} {m i j : Nat} {vs : List CV} (h : (o.wr m i j vs).res = some o') : o.live ∧ o'.live ∧ ¬ o'.isMap ∧ (∀ q, q < vs.length → ∃ y, o.at m i (j + q) = some y) ∧
    (∀ m' i' j' x, o'.at m' i' j' = some x → (∃ q, i' * m' + j' = i * m + j + q ∧ vs[q]? = some x) ∨ (o.at m' i' j' = some x ∧ ∀ q, q < vs.length → i' * m' + j' ≠ i * m + j + q)) ∧
    (∀ l, o' = .cells l → ∃ l0, o = .cells l0 ∧ ∀ x ∈ l, x ∈ l0 ∨ x ∈ vs) := by
  cases o with
  | cells c =>
    simp only [Ob.wr] at h
    split at h
    · rename_i hm
      simp only [Bool.and_eq_true] at hm
      obtain ⟨⟨h1, h2⟩, h3⟩ := hm
      have h1 := nbeq h1
      have h2 := nbeq h2
      have h3 := nble h3
      rw [setRangeK_eq] at h
      have e := T.ret_some h
      subst e
      refine ⟨trivial, trivial, id, fun q hq => ?_, fun m' i' j' x hx => ?_, fun l hl => ⟨c, rfl, fun x hx => ?_⟩⟩
      · simp only [Ob.at, h1, h2, and_self, if_true]
        exact ⟨_, List.getElem?_eq_getElem (by omega)⟩
      · simp only [Ob.at] at hx
        split at hx
        · rename_i hz
          obtain ⟨rfl, rfl⟩ := hz
          subst h1 h2
          rcases setRange_get c j vs j' x hx with ⟨q, hq, hv⟩ | ⟨hq, hv⟩
          · exact .inl ⟨q, by omega, hv⟩
          · exact .inr ⟨by simp [Ob.at, hq], fun q hq' => by have := hv q hq'; omega⟩
        · cases hx
      · cases hl
        obtain ⟨p, hp⟩ := List.mem_iff_getElem?.1 hx
        rcases setRange_get c j vs p x hp with ⟨q, _, hv⟩ | ⟨hq, _⟩
        · exact .inr (List.mem_of_getElem? hv)
        · exact .inl (List.mem_of_getElem? hq)
    · exact (T.bad_some h).elim
  | arr live sz N e =>
    simp only [Ob.wr] at h
    split at h
    · rename_i fs hm hfs
      simp only [Bool.and_eq_true] at hm
      obtain ⟨⟨h1, h2⟩, h3⟩ := hm
      have h1 := nbeq h1
      have h2 := nble h2
      have h3 := nbeq h3
      obtain ⟨hlive, h⟩ := T.need_some h
      obtain ⟨hi, h⟩ := T.need_some h
      have hi := nble hi
      have e1 := T.ret_some h
      subst e1
      have hvs := fvs?_eq _ _ hfs
      subst hvs
      subst h1
      simp only [List.length_map] at h2
      refine ⟨hlive, hlive, id, fun q hq => ?_, fun m' i' j' x hx => ?_, fun l hl => by cases hl⟩
      · simp only [List.length_map] at hq
        simp only [Ob.at]
        rw [if_pos ⟨hlive, trivial, by omega, by omega⟩, List.getElem?_eq_getElem (by omega)]
        exact ⟨_, rfl⟩
      · simp only [Ob.at] at hx
        split at hx
        · rename_i hz
          obtain ⟨_, rfl, hi', hj'⟩ := hz
          rw [iteL_eq] at hx
          cases hb : Nat.beq i' i with
          | true =>
            have := nbeq hb
            subst this
            rw [hb] at hx
            simp only at hx
            cases hq : (setRange (e i') j fs)[j']? with
            | none => rw [hq] at hx; cases hx
            | some y =>
              rw [hq] at hx
              simp only [Option.map_some, Option.some.injEq] at hx
              rcases setRange_get _ j fs j' y hq with ⟨q, hq1, hv⟩ | ⟨hq1, hv⟩
              · exact .inl ⟨q, by omega, by simp [hv, hx]⟩
              · refine .inr ⟨?_, fun q hq' => ?_⟩
                · simp only [Ob.at]
                  rw [if_pos ⟨hlive, trivial, hi', hj'⟩, hq1]
                  simp [hx]
                · have := hv q (by simpa using hq')
                  omega
          | false =>
            have hne : i' ≠ i := fun e => by subst e; simp at hb
            rw [hb] at hx
            simp only at hx
            refine .inr ⟨?_, fun q hq' he => ?_⟩
            · simp only [Ob.at]
              rw [if_pos ⟨hlive, trivial, hi', hj'⟩]
              exact hx
            · simp only [List.length_map] at hq'
              rcases Nat.lt_or_gt_of_ne hne with hlt | hlt
              · have : (i' + 1) * m' ≤ i * m' := Nat.mul_le_mul_right _ hlt
                rw [Nat.add_mul] at this
                omega
              · have : (i + 1) * m' ≤ i' * m' := Nat.mul_le_mul_right _ hlt
                rw [Nat.add_mul] at this
                omega
        · cases hx
    · exact (T.bad_some h).elim
  | map es => exact (T.bad_some h).elim
  | dead => exact (T.bad_some h).elim

theorem ad_add (f : Fn) (b m i j k : Nat) : (ad f b m i j).add k = ad f b m i (j + k) := by
  unfold Addr.add ad
  by_cases h : k = 0
  · subst h; simp
  · simp [h, Nat.add_assoc]

theorem RL.exist {f : Fn} {nx : Nat} {z : Z} : ∀ (l : List CV) (p : Nat → Value → Prop), (∀ (k : Nat) x, l[k]? = some x → ∃ v, p k v ∧ RC f nx z x v) → ∃ vs, RL f nx z l vs ∧ ∀ (k : Nat) v, vs[k]? = some v → p k v
  | [], p, _ => ⟨[], ⟨rfl, fun i x v h => by simp at h⟩, fun k v h => by simp at h⟩
  | x :: l, p, h => by
    obtain ⟨v, h1, h2⟩ := h 0 x rfl
    obtain ⟨vs, h3, h4⟩ := RL.exist l (fun k => p (k + 1)) (fun k y hy => h (k + 1) y (by simpa using hy))
    refine ⟨v :: vs, ⟨by simp [h3.1], fun i y u hy hu => ?_⟩, fun k u hu => ?_⟩
    · cases i with
      | zero => simp only [List.getElem?_cons_zero, Option.some.injEq] at hy hu; rw [← hy, ← hu]; exact h2
      | succ i => exact h3.2 i y u (by simpa using hy) (by simpa using hu)
    · cases k with
      | zero => simp only [List.getElem?_cons_zero, Option.some.injEq] at hu; rw [← hu]; exact h1
      | succ k => exact h4 k u (by simpa using hu)

/-- the cells that are read -/
theorem BOk.read {f : Fn} {nx : Nat} {z : Z} {w : World} {b : Nat} {o : Ob} (h : BOk f nx z w b o) {m i j n : Nat} {l : List CV} (hr : (o.rd m i j n).res = some l) :
    ∃ vs, RL f nx z l vs ∧ vs.length = n ∧ ∀ (k : Nat) v, vs[k]? = some v → w.cell? ((ad f b m i j).add k) = some v := by
  obtain ⟨h1, _, _, h2⟩ := Ob.rd_ok hr
  obtain ⟨vs, h3, h4⟩ := RL.exist l (fun k v => w.cell? ((ad f b m i j).add k) = some v) (fun k x hx => by
    obtain ⟨_, v, hv, hc⟩ := h.cell m i (j + k) x (h2 k x hx)
    exact ⟨v, by rw [ad_add]; exact hv, hc⟩)
  exact ⟨vs, h3, by rw [← h3.1, h1], h4⟩

theorem World.heap_setCells (b : Nat) : ∀ (vs : List Value) (o : Nat) (w : World) (k : Nat), k ≠ b → (w.setCells b o vs).heap[k]? = w.heap[k]?
  | [], _, _, _, _ => rfl
  | v :: r, o, w, k, h => by
    rw [World.setCells, World.heap_setCells b r (o + 1) _ k h]
    exact heap_setCell_other w ⟨b, o, none⟩ k v h

theorem World.size_setCells (b : Nat) : ∀ (vs : List Value) (o : Nat) (w : World), (w.setCells b o vs).heap.size = w.heap.size
  | [], _, _ => rfl
  | v :: r, o, w => by rw [World.setCells, World.size_setCells b r]; simp

theorem World.os_setCells (b : Nat) : ∀ (vs : List Value) (o : Nat) (w : World), (w.setCells b o vs).os = w.os ∧ (w.setCells b o vs).tape = w.tape ∧ (w.setCells b o vs).output = w.output
  | [], _, _ => ⟨rfl, rfl, rfl⟩
  | v :: r, o, w => by rw [World.setCells]; exact World.os_setCells b r (o + 1) _

/-- a write into an own block -/
theorem Post.write {f : Fn} {nx : Nat} {z : Z} {w : World} {H : Heap} {b : Nat} {o' : Ob} {m i j : Nat} {vs : List CV} {us : List Value} {S : Nat → Prop} (hS : S b) (hr : Rel S f nx z w H)
    (hw : ((H.get b).wr m i j vs).res = some o') (hu : RL f nx z vs us) (hno : ∀ b, nx ≤ b → ¬ (H.get b).live) {esc : Bool} (hesc : esc = false → vs.any (CV.beyond (b + 1)) = false) :
    Post S f nx z w H f nx z (w.setCells (f b).k ((f b).d + (i * m + j)) us) (H.put b o') esc := by
  obtain ⟨hl, hl', hnm, hex, hat, hcl⟩ := Ob.wr_ok hw
  obtain ⟨hb, hok⟩ := hr.own b hS hl
  have hlen := hu.1
  have hroom : ∀ q, q < us.length → i * m + j + q < (f b).t := fun q hq => by
    obtain ⟨y, hy⟩ := hex q (by omega)
    have := (hok.cell _ _ _ _ hy).1
    omega
  have hisome : ∀ q, q < us.length → (w.cell? ⟨(f b).k, (f b).d + (i * m + j) + q, none⟩).isSome = true := fun q hq => by
    have := hok.hasCell (hroom q hq)
    rwa [← Nat.add_assoc] at this
  have hother : ∀ k p, k ≠ (f b).k → (w.setCells (f b).k ((f b).d + (i * m + j)) us).cell? ⟨k, p, none⟩ = w.cell? ⟨k, p, none⟩ := fun k p hk =>
    World.cell?_of_block (w := w) (World.heap_setCells _ _ _ _ _ hk)
  have hget : ∀ c, (H.put b o').get c = if b = c then o' else H.get c := Heap.get_put H b o'
  have hlive : ∀ c, ((H.put b o').get c).live → (H.get c).live := fun c hc => by
    rw [hget] at hc
    by_cases e : b = c
    · subst e; exact hl
    · simpa [e] using hc
  have hnot : ∀ c, S c → (H.get c).live → c ≠ b → (f c).k ≠ (f b).k := fun c hc hcl hne => hr.inj c b hc hS hcl hl hne
  refine ⟨Nat.le_refl _, fun _ _ => rfl, fun _ _ _ h => h, fun _ _ _ h => .inl h, fun c _ hc => ?_, fun c _ hc => hlive c hc, ⟨fun c hc hcl => ?_, fun c d hc hd hcl hdl hne => ?_, fun k p v hv => ?_⟩, fun c hc hcl => ?_, ?_, fun he mm hm hN c l hc hg x hx => ?_⟩
  · left; rw [hget]; rw [if_neg (fun (e : b = c) => hc (e ▸ hS))]
  · have hc' : S c := hc.resolve_right fun e => hno c e (hlive c hcl)
    refine ⟨(hr.own c hc' (hlive c hcl)).1, ?_⟩
    by_cases e : b = c
    · subst e
      rw [hget, if_pos rfl]
      refine ⟨by rw [World.size_setCells]; exact hok.lt, hok.own, fun p hp => ?_, fun m' i' j' x hx => ?_, fun es he => absurd (by rw [he]; trivial) hnm⟩
      · rw [World.frozen?_setCells]
        refine ⟨?_, (hok.room p hp).2⟩
        by_cases hin : i * m + j ≤ p ∧ p < i * m + j + us.length
        · have := World.cell?_setCells_in (f b).k us ((f b).d + (i * m + j)) w hisome (p - (i * m + j)) (by omega)
          rw [show (f b).d + (i * m + j) + (p - (i * m + j)) = (f b).d + p by omega] at this
          exact ⟨_, this, hu.all _ (List.getElem_mem _)⟩
        · rw [World.cell?_setCells_out _ _ _ _ _ (fun _ _ => by simp only; omega)]
          exact (hok.room p hp).1
      · rcases hat m' i' j' x hx with ⟨q, hq, hv⟩ | ⟨ho, hne⟩
        · have hq' : q < us.length := by
            have := (List.getElem?_eq_some_iff.1 hv).1
            omega
          refine ⟨by rw [hq]; exact hroom q hq', us[q]'hq', ?_, hu.2 q x (us[q]'hq') hv (List.getElem?_eq_getElem hq')⟩
          have := World.cell?_setCells_in (f b).k us ((f b).d + (i * m + j)) w hisome q hq'
          simp only [ad, hq]
          rw [show (f b).d + (i * m + j + q) = (f b).d + (i * m + j) + q by omega]
          exact this
        · obtain ⟨h1, v, h2, h3⟩ := hok.cell m' i' j' x ho
          refine ⟨h1, v, ?_, h3⟩
          rw [World.cell?_setCells_out _ _ _ _ _ (fun _ _ => ?_)]
          · exact h2
          · simp only [ad]
            rcases Nat.lt_or_ge (i' * m' + j') (i * m + j) with h | h
            · exact .inl (by omega)
            · rcases Nat.lt_or_ge (i' * m' + j') (i * m + j + us.length) with h4 | h4
              · exact absurd (by omega) (hne (i' * m' + j' - (i * m + j)) (by omega))
              · exact .inr (by omega)
    · rw [hget, if_neg e]
      have hcl0 := hlive c hcl
      have hk := hnot c hc' hcl0 (Ne.symm e)
      obtain ⟨_, hc0⟩ := hr.own c hc' hcl0
      refine ⟨by rw [World.size_setCells]; exact hc0.lt, hc0.own, fun p hp => ?_, fun m' i' j' x hx => ?_, fun es he => by rw [World.heap_setCells _ _ _ _ _ hk]; exact hc0.map es he⟩
      · rw [World.frozen?_setCells, hother _ _ hk]; exact hc0.room p hp
      · obtain ⟨h1, v, h2, h3⟩ := hc0.cell m' i' j' x hx
        exact ⟨h1, v, by simp only [ad]; rw [hother _ _ hk]; exact h2, h3⟩
  · have hc' : S c := hc.resolve_right fun e => hno c e (hlive c hcl)
    have hd' : S d := hd.resolve_right fun e => hno d e (hlive d hdl)
    exact hr.inj c d hc' hd' (hlive c hcl) (hlive d hdl) hne
  · have hv' := hr.zok k p v hv
    have hk : k ≠ (f b).k := fun e => by rw [e, hok.own] at hv; cases hv
    rw [hother _ _ hk]; exact hv'
  · exact absurd (hlive c hcl) (hno c hc)
  · refine ⟨by rw [World.size_setCells]; exact Nat.le_refl _, (World.os_setCells _ _ _ _).1, (World.os_setCells _ _ _ _).2.1, (World.os_setCells _ _ _ _).2.2, fun k _ hk => ?_⟩
    exact World.heap_setCells _ _ _ _ _ fun e => hk ⟨b, hS, hl, e.symm⟩
  · rw [hget] at hg
    by_cases e : b = c
    · subst e
      rw [if_pos rfl] at hg
      obtain ⟨l0, hl0, hmem⟩ := hcl l hg
      rcases hmem x hx with h1 | h1
      · exact hN b l0 hc hl0 x h1
      · have h2 := hesc he
        rw [List.any_eq_false] at h2
        have h3 := h2 x h1
        -- beyond is monotone
        have mono : ∀ (y : CV) (p q : Nat), p ≤ q → y.beyond p = false → y.beyond q = false := by
          intro y p q hpq hy
          have hb : ∀ c : Nat, Nat.ble p c = false → Nat.ble q c = false := fun c hc => by
            cases h : Nat.ble q c with
            | false => rfl
            | true => rw [Nat.ble_eq_true_of_le (Nat.le_trans hpq (nble h))] at hc; cases hc
          cases y with
          | f => rfl
          | ptr => exact hb _ hy
          | sl => exact hb _ hy
          | mp => exact hb _ hy
          | fn g l =>
            simp only [CV.beyond, List.any_eq_false] at hy ⊢
            intro y hy'
            have := hy y hy'
            simp only [Bool.not_eq_true] at this ⊢
            exact hb _ this
        exact mono x (b + 1) mm (by omega) (by simpa using h3)
    · rw [if_neg e] at hg
      exact hN c l hc hg x hx

/-- as Post.write, of cells that are told otherwise -/
theorem Post.write2 {f : Fn} {nx : Nat} {z : Z} {w : World} {H : Heap} {b : Nat} {o' : Ob} {vs : List CV} {us : List Value} {S : Nat → Prop} (hS : S b) (hr : Rel S f nx z w H)
    {B : Nat} (hl : (H.get b).live) (hnm : ¬ o'.isMap) (hroom : ∀ q, q < us.length → B + q < (f b).t)
    (hat : ∀ m' i' j' x, o'.at m' i' j' = some x → (∃ q, i' * m' + j' = B + q ∧ vs[q]? = some x) ∨ ((H.get b).at m' i' j' = some x ∧ ∀ q, q < us.length → i' * m' + j' ≠ B + q))
    (hcl : ∀ l, o' ≠ .cells l) (hu : RL f nx z vs us) (hno : ∀ b, nx ≤ b → ¬ (H.get b).live) {esc : Bool} :
    Post S f nx z w H f nx z (w.setCells (f b).k ((f b).d + B) us) (H.put b o') esc := by
  obtain ⟨hb, hok⟩ := hr.own b hS hl
  have hlen := hu.1
  have hisome : ∀ q, q < us.length → (w.cell? ⟨(f b).k, (f b).d + B + q, none⟩).isSome = true := fun q hq => by
    have := hok.hasCell (hroom q hq)
    rwa [← Nat.add_assoc] at this
  have hother : ∀ k p, k ≠ (f b).k → (w.setCells (f b).k ((f b).d + B) us).cell? ⟨k, p, none⟩ = w.cell? ⟨k, p, none⟩ := fun k p hk =>
    World.cell?_of_block (w := w) (World.heap_setCells _ _ _ _ _ hk)
  have hget : ∀ c, (H.put b o').get c = if b = c then o' else H.get c := Heap.get_put H b o'
  have hlive : ∀ c, ((H.put b o').get c).live → (H.get c).live := fun c hc => by
    rw [hget] at hc
    by_cases e : b = c
    · subst e; exact hl
    · simpa [e] using hc
  have hnot : ∀ c, S c → (H.get c).live → c ≠ b → (f c).k ≠ (f b).k := fun c hc hcl hne => hr.inj c b hc hS hcl hl hne
  refine ⟨Nat.le_refl _, fun _ _ => rfl, fun _ _ _ h => h, fun _ _ _ h => .inl h, fun c _ hc => ?_, fun c _ hc => hlive c hc, ⟨fun c hc hcl => ?_, fun c d hc hd hcl hdl hne => ?_, fun k p v hv => ?_⟩, fun c hc hcl => ?_, ?_, fun he mm hm hN c l hc hg x hx => ?_⟩
  · left; rw [hget]; rw [if_neg (fun (e : b = c) => hc (e ▸ hS))]
  · have hc' : S c := hc.resolve_right fun e => hno c e (hlive c hcl)
    refine ⟨(hr.own c hc' (hlive c hcl)).1, ?_⟩
    by_cases e : b = c
    · subst e
      rw [hget, if_pos rfl]
      refine ⟨by rw [World.size_setCells]; exact hok.lt, hok.own, fun p hp => ?_, fun m' i' j' x hx => ?_, fun es he => absurd (by rw [he]; trivial) hnm⟩
      · rw [World.frozen?_setCells]
        refine ⟨?_, (hok.room p hp).2⟩
        by_cases hin : B ≤ p ∧ p < B + us.length
        · have := World.cell?_setCells_in (f b).k us ((f b).d + B) w hisome (p - B) (by omega)
          rw [show (f b).d + B + (p - B) = (f b).d + p by omega] at this
          exact ⟨_, this, hu.all _ (List.getElem_mem _)⟩
        · rw [World.cell?_setCells_out _ _ _ _ _ (fun _ _ => by simp only; omega)]
          exact (hok.room p hp).1
      · rcases hat m' i' j' x hx with ⟨q, hq, hv⟩ | ⟨ho, hne⟩
        · have hq' : q < us.length := by
            have := (List.getElem?_eq_some_iff.1 hv).1
            omega
          refine ⟨by rw [hq]; exact hroom q hq', us[q]'hq', ?_, hu.2 q x (us[q]'hq') hv (List.getElem?_eq_getElem hq')⟩
          have := World.cell?_setCells_in (f b).k us ((f b).d + B) w hisome q hq'
          simp only [ad, hq]
          rw [show (f b).d + (B + q) = (f b).d + B + q by omega]
          exact this
        · obtain ⟨h1, v, h2, h3⟩ := hok.cell m' i' j' x ho
          refine ⟨h1, v, ?_, h3⟩
          rw [World.cell?_setCells_out _ _ _ _ _ (fun _ _ => ?_)]
          · exact h2
          · simp only [ad]
            rcases Nat.lt_or_ge (i' * m' + j') B with h | h
            · exact .inl (by omega)
            · rcases Nat.lt_or_ge (i' * m' + j') (B + us.length) with h4 | h4
              · exact absurd (by omega) (hne (i' * m' + j' - B) (by omega))
              · exact .inr (by omega)
    · rw [hget, if_neg e]
      have hcl0 := hlive c hcl
      have hk := hnot c hc' hcl0 (Ne.symm e)
      obtain ⟨_, hc0⟩ := hr.own c hc' hcl0
      refine ⟨by rw [World.size_setCells]; exact hc0.lt, hc0.own, fun p hp => ?_, fun m' i' j' x hx => ?_, fun es he => by rw [World.heap_setCells _ _ _ _ _ hk]; exact hc0.map es he⟩
      · rw [World.frozen?_setCells, hother _ _ hk]; exact hc0.room p hp
      · obtain ⟨h1, v, h2, h3⟩ := hc0.cell m' i' j' x hx
        exact ⟨h1, v, by simp only [ad]; rw [hother _ _ hk]; exact h2, h3⟩
  · have hc' : S c := hc.resolve_right fun e => hno c e (hlive c hcl)
    have hd' : S d := hd.resolve_right fun e => hno d e (hlive d hdl)
    exact hr.inj c d hc' hd' (hlive c hcl) (hlive d hdl) hne
  · have hv' := hr.zok k p v hv
    have hk : k ≠ (f b).k := fun e => by rw [e, hok.own] at hv; cases hv
    rw [hother _ _ hk]; exact hv'
  · exact absurd (hlive c hcl) (hno c hc)
  · refine ⟨by rw [World.size_setCells]; exact Nat.le_refl _, (World.os_setCells _ _ _ _).1, (World.os_setCells _ _ _ _).2.1, (World.os_setCells _ _ _ _).2.2, fun k _ hk => ?_⟩
    exact World.heap_setCells _ _ _ _ _ fun e => hk ⟨b, hS, hl, e.symm⟩
  · rw [hget] at hg
    by_cases e : b = c
    · subst e
      rw [if_pos rfl] at hg
      exact absurd hg (hcl l)
    · rw [if_neg e] at hg
      exact hN c l hc hg x hx

def upd (f : Fn) (n : Nat) (l : Loc) : Fn := fun b => if b = n then l else f b

theorem upd_ext (f : Fn) (n : Nat) (l : Loc) : Ext n f (upd f n l) := fun b hb => by simp [upd, Nat.ne_of_lt hb]
theorem upd_same (f : Fn) (n : Nat) (l : Loc) : upd f n l n = l := by simp [upd]

/-- a new block -/
theorem Post.alloc {f : Fn} {nx : Nat} {z : Z} {w : World} {H : Heap} {S : Nat → Prop} (hr : Rel S f nx z w H) (hno : ∀ b, nx ≤ b → ¬ (H.get b).live) (o : Ob) (cs : Array Value) (e : TypeId) (hnm : ¬ o.isMap) (hone : ∀ v ∈ cs.toList, v.oneCell' = true)
    (hat : ∀ m i j x, o.at m i j = some x → ∃ v, cs[i * m + j]? = some v ∧ RC f nx z x v) {esc : Bool} :
    Post S f nx z w H (upd f nx ⟨w.heap.size, 0, cs.size⟩) (nx + 1) z (w.alloc (.cells cs e)) ((nx, o) :: H) esc := by
  have hfr : Fr (img S f H) w (w.alloc (.cells cs e)) := ⟨by simp, rfl, rfl, rfl, fun k hk _ => heap_alloc_old w _ k hk⟩
  have hfr0 : Fr (fun _ => False) w (w.alloc (.cells cs e)) := ⟨by simp, rfl, rfl, rfl, fun k hk _ => heap_alloc_old w _ k hk⟩
  have hg : ∀ b, Heap.get ((nx, o) :: H) b = if nx = b then o else H.get b := Heap.get_cons nx o H
  have hold : ∀ b, (S b ∨ nx ≤ b) → (Heap.get ((nx, o) :: H) b).live → b = nx ∨ (b < nx ∧ S b ∧ (H.get b).live) := by
    intro b hb hl
    by_cases e : nx = b
    · exact .inl e.symm
    · rw [hg, if_neg e] at hl
      have : ¬ nx ≤ b := fun h => hno b h hl
      exact .inr ⟨by omega, hb.resolve_right this, hl⟩
  have hz0 : ∀ p, z w.heap.size p = none := fun p => by
    cases hv : z w.heap.size p with
    | none => rfl
    | some v => have := block_lt_of_cell (hr.zok _ _ _ hv); simp at this
  refine ⟨by omega, upd_ext _ _ _, fun _ _ _ h => h, fun _ _ _ h => .inl h, fun b hb _ => .inl (by rw [hg, if_neg (by omega)]), fun b hb hl => by rwa [hg, if_neg (by omega)] at hl, ⟨fun b hb hl => ?_, fun b c hb hc hl hl' hne => ?_, fun k p v hv => ?_⟩, fun b hb hl => ?_, hfr, fun _ m hm hN c l hc hgc x hx => ?_⟩
  · rcases hold b hb hl with rfl | ⟨hlt, hs, hl0⟩
    · rw [hg, if_pos rfl]
      refine ⟨by omega, ⟨by simp [upd_same], fun p => by rw [upd_same]; exact hz0 p, fun p hp => ?_, fun m i j x hx => ?_, fun es he => absurd (by rw [he]; trivial) hnm⟩⟩
      · rw [upd_same] at hp ⊢
        simp only [Nat.zero_add]
        rw [World.cell?_alloc_new, World.frozen?_alloc_new]
        exact ⟨⟨cs[p], by simp [hp], hone _ (by simp)⟩, rfl⟩
      · obtain ⟨v, hv, hc⟩ := hat m i j x hx
        refine ⟨by rw [upd_same]; exact (Array.getElem?_eq_some_iff.1 hv).1, v, ?_, RC.mono (upd_ext _ _ _) (by omega) (fun _ _ _ h => h) hc⟩
        simp only [ad, upd_same, Nat.zero_add]
        rw [World.cell?_alloc_new]
        exact hv
    · rw [hg, if_neg (by omega)]
      exact ⟨by omega, (hr.own b hs hl0).2.kept hlt hfr0 id (upd_ext _ _ _) (by omega) (fun _ _ _ h => h) (fun _ _ _ h => .inl h)⟩
  · rcases hold b hb hl with rfl | ⟨hlt, hs, hl0⟩
    · rcases hold c hc hl' with rfl | ⟨hlt', hs', hl0'⟩
      · exact absurd rfl hne
      · rw [upd_same, upd_ext _ _ _ _ hlt']
        have := (hr.own c hs' hl0').2.lt
        simp only
        omega
    · rcases hold c hc hl' with rfl | ⟨hlt', hs', hl0'⟩
      · rw [upd_same, upd_ext _ _ _ _ hlt]
        have := (hr.own b hs hl0).2.lt
        simp only
        omega
      · rw [upd_ext _ _ _ _ hlt, upd_ext _ _ _ _ hlt']
        exact hr.inj b c hs hs' hl0 hl0' hne
  · have h1 := hr.zok k p v hv
    rw [World.cell?_alloc_lt _ _ _ (block_lt_of_cell h1)]
    exact h1
  · rcases hold b (.inr hb) hl with rfl | ⟨hlt, _⟩
    · left; rw [upd_same]; exact Nat.le_refl _
    · omega
  · rw [hg, if_neg (by omega)] at hgc
    exact hN c l hc hgc x hx

end Go.Proofs.Ytggneleipimijaa.En
