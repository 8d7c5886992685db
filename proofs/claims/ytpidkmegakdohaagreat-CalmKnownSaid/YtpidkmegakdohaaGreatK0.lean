/- The engine, part 0: abstract values and heaps, and an evaluator of the model's code over them. Nothing is proved here. -/
import Derived.Orders
import Derived.Laws.Sem
import Derived.KernelRfl
namespace Go.Proofs.YtpidkmegakdohaaGreat.Kn
open Go
set_option linter.unusedVariables false

/-- What a run may come to. -/
inductive T (α : Type) where
  | ret (a : α)
  | bad

/-- a truth decides -/
def T.br {α : Type} (b : Bool) (t e : T α) : T α := match b with | true => t | false => e

def T.bind {α β : Type} (t : T α) (k : α → T β) : T β := match t with
  | .ret a => k a
  | .bad => .bad

def T.res {α : Type} (t : T α) : Option α := match t with
  | .ret a => some a
  | .bad => none

/-- only if -/
def T.need {α : Type} (b : Bool) (t : T α) : T α := .br b t .bad

/-- A value whose memory, if it has any, is never written any more. -/
inductive FV where
  | lit (v : Value)
  | z0 (nil : Bool)
  | fs (nil : Bool) (sz n : Nat) (e : Nat → List FV)
  | fp (l : List FV)

/-- A cell's value. An own block's address is (block, m, i, j): i * m + j cells from its begin. -/
inductive CV where
  | f (x : FV)
  | ptr (b m i j : Nat)
  | sl (nil : Bool) (b m i j len cap : Nat) (ex : Bool) (sz : Nat)
  | mp (b : Nat)
  | fn (g : Nat) (cap : List (Nat × Nat × Nat × Nat))

inductive AV where
  | one (x : CV)
  | agg (l : List CV)

inductive SV where
  | v (x : AV)
  | tup (l : List AV)
  | top

/-- An own block. -/
inductive Ob where
  | cells (l : List CV)
  | arr (live : Bool) (sz n : Nat) (e : Nat → List FV)
  | map (es : List (Value × Value))
  | dead

/-- a table of what numbers stand for: four ways at each fork; at the end what the least of them stands for, and a row of pairs for the others -/
inductive Tr (α : Type) where
  | row (x : α) (l : List (Nat × α))
  | fork (a b c d : Tr α)

def rowGet {α : Type} (x : α) (n : Nat) : List (Nat × α) → α
  | [] => x
  | (k, o) :: r => match Nat.beq k n with | true => o | false => rowGet x n r

def rowPut {α β : Type} (n : Nat) (o : α) : List (Nat × α) → (List (Nat × α) → β) → β
  | [], k => k [(n, o)]
  | (c, p) :: r, k => match Nat.beq c n with | true => k ((c, o) :: r) | false => rowPut n o r fun r' => k ((c, p) :: r')

noncomputable def four {α : Type} (a b c d : α) (n : Nat) : α :=
  Nat.rec (motive := fun _ => α → α → α → α → α) (fun a _ _ _ => a) (fun n _ _ b c d => Nat.rec (motive := fun _ => α → α → α → α) (fun b _ _ => b) (fun n _ _ c d => Nat.rec (motive := fun _ => α → α → α) (fun c _ => c) (fun _ _ _ d => d) n c d) n b c d) n a b c d

noncomputable def Tr.get {α : Type} (x : α) (t : Tr α) : Nat → α :=
  Tr.rec (motive := fun _ => Nat → α) (fun y l n => Nat.rec (motive := fun _ => α → List (Nat × α) → α) (fun y _ => y) (fun n _ _ l => rowGet x n l) n y l) (fun _ _ _ _ ga gb gc gd n => four ga gb gc gd (Nat.mod n 4) (Nat.div n 4)) t

/-- as 'k (the table in which n stands for o)', built at once -/
noncomputable def Tr.putK {α β : Type} (t : Tr α) : Nat → α → (Tr α → β) → β :=
  Tr.rec (motive := fun _ => Nat → α → (Tr α → β) → β) (fun y l n o k => Nat.rec (motive := fun _ => α → List (Nat × α) → α → (Tr α → β) → β) (fun _ l o k => k (.row o l)) (fun n _ y l o k => rowPut n o l fun r => k (.row y r)) n y l o k) (fun a b c d pa pb pc pd n o k =>
    four (fun n o => pa n o fun x => k (.fork x b c d)) (fun n o => pb n o fun x => k (.fork a x c d)) (fun n o => pc n o fun x => k (.fork a b x d)) (fun n o => pd n o fun x => k (.fork a b c x)) (Nat.mod n 4) (Nat.div n 4) o) t

def Tr.forks {α : Type} (x : α) : Nat → Tr α
  | 0 => .row x []
  | n + 1 => .fork (Tr.forks x n) (Tr.forks x n) (Tr.forks x n) (Tr.forks x n)

abbrev Heap := Tr Ob
noncomputable abbrev Heap.get (H : Heap) (b : Nat) : Ob := Tr.get .dead H b
noncomputable abbrev Heap.putK {β : Type} (H : Heap) (b : Nat) (o : Ob) (k : Heap → β) : β := Tr.putK H b o k
noncomputable def Heap.put (H : Heap) (b : Nat) (o : Ob) : Heap := Tr.putK H b o fun H => H
def Heap.none : Heap := Tr.forks .dead 6

abbrev Slots := Tr SV
noncomputable abbrev Slots.get (s : Slots) (t : Nat) : SV := Tr.get .top s t
noncomputable def Slots.put (s : Slots) (t : Nat) (v : SV) : Slots := Tr.putK s t v fun s => s
/-- how many forks so many slots want -/
def deep (n : Nat) : Nat := match Nat.ble n 16 with | true => 2 | false => match Nat.ble n 64 with | true => 3 | false => 4
def Slots.none (n : Nat) : Slots := Tr.forks .top (deep n)

def CV.int (k : IntKind) (n : Int) : CV := .f (.lit (.int k n))
def CV.bool (b : Bool) : CV := .f (.lit (.bool b))
def CV.str (s : ByteArray) : CV := .f (.lit (.string s))
def SV.one (x : CV) : SV := .v (.one x)
def SV.cv? : SV → Option CV
  | .v (.one x) => some x
  | _ => none

def AV.cells : AV → List CV
  | .one x => [x]
  | .agg l => l

abbrev oneCell : Value → Bool := Value.oneCell'

def constSV (v : Value) : SV :=
  match v with
  | .agg cs => if cs.toList.all oneCell then .v (.agg (cs.toList.map fun c => .f (.lit c))) else .top
  | .tuple _ => .top
  | v => .v (.one (.f (.lit v)))

/-- A type's row, as the evaluator wants it. -/
inductive TK where
  | bool | int (k : IntKind) | str | ptr (e : Nat) | slice (e : Nat) | struct (fs : List (Nat × Nat × Nat × Bool)) | array (n e : Nat)
  | map (k e : Nat) | fn | other

structure TI where
  size : Nat
  bytes : Nat
  zero : List Value
  kind : TK
  agg : Bool
  eqs : List Nat        -- '==' of two such structs is cell by cell, of these kinds, and asks nothing more

/-- what stands in a given table, which bears each number beside its row -/
noncomputable def tget {α : Type} (t : Tr (Option (Nat × α))) (n : Nat) : Option α := match t.get none n with
  | some (k, v) => match Nat.beq k n with | true => some v | false => none
  | none => none

structure St where
  sl : Slots
  H : Heap
  nx : Nat
  esc : Bool
  base : Nat         -- the blocks below it were there when the call began
  wr : List Nat      -- those of them that were written since

structure CallOut where
  v : SV
  H : Heap
  nx : Nat
  esc : Bool
  wr : List Nat

inductive Ex where
  | normal | exit (id : Nat) | ret

/-- what is known of a region that draws: the operations that may come in another order than one that they could meet; these pairs; those of which the first makes a block that the second could name -/
structure RI where
  fl : List Bool
  cl : List (Nat × Nat)
  al : List (Nat × Nat)

structure Ctx where
  ti : Nat → Option TI
  fi : Nat → Option Func
  sym : Bool
  sum : Nat → Option (List AV → Heap → Nat → T CallOut)          -- calls that are known
  dr : Nat → Nat → Option RI                                      -- a function's regions that draw

structure Out where
  v : SV
  H : Heap
  nx : Nat
  esc : Bool
  fp : List Nat      -- the own blocks that are looked at
  wr : List Nat      -- those that are written, or new

/-- the blocks below 'base' that were written, once each -/
def addWr (base : Nat) : List Nat → List Nat → List Nat
  | [], acc => acc
  | b :: r, acc => match Nat.ble base b || acc.any (Nat.beq b) with
    | true => addWr base r acc
    | false => addWr base r (b :: acc)

def St.up (st : St) (u : Out) : St := ⟨st.sl, u.H, u.nx, st.esc || u.esc, st.base, addWr st.base u.wr st.wr⟩

noncomputable def St.val (st : St) : Operand → SV
  | .tmp t => st.sl.get t
  | .const v => constSV v
  | .func g => .one (.fn g [])
  | .global _ => .top

noncomputable def St.put (st : St) (d : Option Nat) (v : SV) : St :=
  match d with
  | some d => { st with sl := st.sl.put d v }
  | none => st

/-- as 'k (st.put d v)', built at once -/
noncomputable def St.putK {β : Type} (st : St) (d : Option Nat) (v : SV) (k : St → β) : β :=
  match d with
  | some d => st.sl.putK d v fun s => k { st with sl := s }
  | none => k st

/-- a Bool slot decides -/
noncomputable def split {α : Type} (st : St) (x : Operand) (k : Bool → T α) : T α :=
  match st.val x with
  | .v (.one (.f (.lit (.bool b)))) => .br b (k true) (k false)
  | _ => .bad

def pure1 (st : St) (v : SV) : T Out := .ret ⟨v, st.H, st.nx, false, [], []⟩

/-- does a value lead to a block behind b? -/
def CV.beyond (b : Nat) : CV → Bool
  | .f _ => false
  | .ptr c _ _ _ => Nat.ble b c
  | .sl _ c _ _ _ _ _ _ _ => Nat.ble b c
  | .mp c => Nat.ble b c
  | .fn _ l => l.any fun x => Nat.ble b x.1

def CV.fv? : CV → Option FV
  | .f x => some x
  | _ => none

def fvs? : List CV → Option (List FV)
  | [] => some []
  | .f x :: r => match fvs? r with | some l => some (x :: l) | none => none
  | _ :: _ => none

def setRange {α : Type} : List α → Nat → List α → List α
  | [], _, _ => []
  | x :: r, 0, [] => x :: r
  | _ :: r, 0, v :: vs => v :: setRange r 0 vs
  | x :: r, j + 1, vs => x :: setRange r j vs

/-- as 'k (setRange l j vs)', built at once -/
def setRangeK {α β : Type} : List α → Nat → List α → (List α → β) → β
  | [], _, _, k => k []
  | x :: r, 0, [], k => k (x :: r)
  | _ :: r, 0, v :: vs, k => setRangeK r 0 vs fun r' => k (v :: r')
  | x :: r, j + 1, vs, k => setRangeK r j vs fun r' => k (x :: r')

/-- as 'match c with | true => x | false => y', pushed inwards where both are numbers, truths, texts -/
def FV.ite0 (c : Bool) (x y : FV) : FV :=
  match x, y with
  | .lit (.int k a), .lit (.int k' b) => match decide (k = k') with
    | true => .lit (.int k (cond c a b))
    | false => match c with | true => x | false => y
  | .lit (.bool a), .lit (.bool b) => .lit (.bool (cond c a b))
  | .lit (.string a), .lit (.string b) => .lit (.string (cond c a b))
  | x, y => match c with | true => x | false => y

def iteL0 (c : Bool) : List FV → List FV → List FV
  | x :: xs, y :: ys => FV.ite0 c x y :: iteL0 c xs ys
  | [], [] => []
  | xs, ys => match c with | true => xs | false => ys

def FV.ite (c : Bool) (x y : FV) : FV :=
  match x, y with
  | .fs nil sz n e, .fs nil' sz' n' e' => match Nat.beq sz sz' with
    | true => .fs (cond c nil nil') sz (cond c n n') fun i => iteL0 c (e i) (e' i)
    | false => match c with | true => x | false => y
  | x, y => FV.ite0 c x y

def iteL (c : Bool) : List FV → List FV → List FV
  | x :: xs, y :: ys => FV.ite c x y :: iteL c xs ys
  | [], [] => []
  | xs, ys => match c with | true => xs | false => ys

def CV.ite (c : Bool) (x y : CV) : CV :=
  match x, y with
  | .f a, .f b => .f (FV.ite c a b)
  | x, y => match c with | true => x | false => y

def iteC (c : Bool) : List CV → List CV → List CV
  | x :: xs, y :: ys => CV.ite c x y :: iteC c xs ys
  | [], [] => []
  | xs, ys => match c with | true => xs | false => ys

def AV.ite (c : Bool) (x y : AV) : AV :=
  match x, y with
  | .one a, .one b => .one (CV.ite c a b)
  | .agg a, .agg b => .agg (iteC c a b)
  | x, y => match c with | true => x | false => y

/-- the i-th, counted from c on; the last one, if there is none -/
def selV (i : Int) : Nat → AV → List AV → AV
  | _, x, [] => x
  | c, x, y :: r => AV.ite (decide (i = (c : Int))) x (selV i (c + 1) y r)

/-- n cells at an address -/
def Ob.rd (o : Ob) (m i j n : Nat) : T (List CV) :=
  match o with
  | .cells l => match Nat.beq m 0 && Nat.beq i 0 with
    | true => let r := (l.drop j).take n; match Nat.beq r.length n with | true => .ret r | false => .bad
    | false => .bad
  | .arr live sz N e => match Nat.beq m sz && Nat.ble (j + n) sz with
    | true => .need live (.need (Nat.ble (i + 1) N) (let r := ((e i).drop j).take n; match Nat.beq r.length n with | true => .ret (r.map .f) | false => .bad))
    | false => .bad
  | _ => .bad

def Ob.wr (o : Ob) (m i j : Nat) (vs : List CV) : T Ob :=
  match o with
  | .cells l => match Nat.beq m 0 && Nat.beq i 0 && Nat.ble (j + vs.length) l.length with
    | true => setRangeK l j vs fun l' => .ret (.cells l')
    | false => .bad
  | .arr live sz N e => match Nat.beq m sz && Nat.ble (j + vs.length) sz && Nat.beq (e i).length sz, fvs? vs with
    | true, some fs => .need live (.need (Nat.ble (i + 1) N) (.ret (.arr live sz N fun i' => iteL (Nat.beq i' i) (setRange (e i') j fs) (e i'))))
    | _, _ => .bad
  | _ => .bad

def ofCells (agg : Bool) (l : List CV) : Option AV :=
  match agg with
  | true => some (.agg l)
  | false => match l with | [x] => some (.one x) | _ => none

noncomputable def newBlock (st : St) (l : List CV) (v : Nat → SV) : T Out :=
  st.H.putK st.nx (.cells l) fun H => .ret ⟨v st.nx, H, st.nx + 1, false, [], [st.nx]⟩

def zeros (t : TI) : List CV := t.zero.map fun v => .f (.lit v)

def binInt (op : BinOp) (k : IntKind) (x y : Int) : T Value :=
  match op with
  | .add => .ret (.int k (k.wrap (x + y)))
  | .sub => .ret (.int k (k.wrap (x - y)))
  | .mul => .ret (.int k (k.wrap (x * y)))
  | .quo => .br (decide (y = 0)) .bad (.ret (.int k (k.wrap (x.tdiv y))))
  | .rem => .br (decide (y = 0)) .bad (.ret (.int k (x.tmod y)))
  | .and => .ret (.int k (k.wrap (BitVec.ofInt k.bits x &&& BitVec.ofInt k.bits y).toNat))
  | .or => .ret (.int k (k.wrap (BitVec.ofInt k.bits x ||| BitVec.ofInt k.bits y).toNat))
  | .xor => .ret (.int k (k.wrap (BitVec.ofInt k.bits x ^^^ BitVec.ofInt k.bits y).toNat))
  | .andNot => .ret (.int k (k.wrap (BitVec.ofInt k.bits x &&& ~~~ BitVec.ofInt k.bits y).toNat))
  | .eql => .ret (.bool (x == y))
  | .neq => .ret (.bool (x != y))
  | .lss => .ret (.bool (decide (x < y)))
  | .leq => .ret (.bool (decide (x ≤ y)))
  | .gtr => .ret (.bool (decide (x > y)))
  | .geq => .ret (.bool (decide (x ≥ y)))
  | _ => .bad

def shiftInt (op : BinOp) (k : IntKind) (x y : Int) : T Value :=
  match op with
  | .shl => .br (decide (y < 0)) .bad (.ret (.int k (k.wrap (x * 2 ^ (min y.toNat k.bits)))))
  | .shr => .br (decide (y < 0)) .bad (.ret (.int k (x.fdiv (2 ^ (min y.toNat k.bits)))))
  | _ => .bad

def binStr (op : BinOp) (x y : ByteArray) : T Value :=
  let eq := x.toList == y.toList
  let lt := Op.bytesLess x.toList y.toList
  match op with
  | .add => .br (decide (((x.size + y.size : Nat) : Int) > IntKind.i64.max)) .bad (.ret (.string (x ++ y)))
  | .eql => .ret (.bool eq)
  | .neq => .ret (.bool !eq)
  | .lss => .ret (.bool lt)
  | .leq => .ret (.bool (lt || eq))
  | .gtr => .ret (.bool !(lt || eq))
  | .geq => .ret (.bool !lt)
  | _ => .bad

/-- are two cells' values alike? (0: bools, 1: ints, 2: strings) -/
def eqCell : Nat → CV → CV → Option Bool
  | 0, .f (.lit (.bool a)), .f (.lit (.bool b)) => some (a == b)
  | 1, .f (.lit (.int k a)), .f (.lit (.int k' b)) => match decide (k = k') with | true => some (a == b) | false => none
  | 2, .f (.lit (.string a)), .f (.lit (.string b)) => some (a == b)
  | _, _, _ => none

def eqCells : List Nat → List CV → List CV → Option Bool
  | [], [], [] => some true
  | k :: ks, x :: xs, y :: ys => match eqCell k x y, eqCells ks xs ys with
    | some a, some b => some (a && b)
    | _, _ => none
  | _, _, _ => none

/-- is it nil? 0: a pointer, 1: a slice, 2: a map, 3: a function -/
def nilK : Nat → CV → Option Bool
  | 0, .f (.lit (.pointer none)) => some true
  | 0, .f (.fp _) => some false
  | 0, .ptr _ _ _ _ => some false
  | 1, .f (.lit (.slice none _ _)) => some true
  | 1, .f (.fs nil _ _ _) => some nil
  | 1, .f (.z0 nil) => some nil
  | 1, .sl nil _ _ _ _ _ _ _ _ => some nil
  | 2, .f (.lit (.map none)) => some true
  | 2, .mp _ => some false
  | 3, .f (.lit .nilFunc) => some true
  | 3, .fn _ _ => some false
  | _, _ => none

def litNil : Nat → CV → Bool
  | 0, .f (.lit (.pointer none)) => true
  | 1, .f (.lit (.slice none _ _)) => true
  | 2, .f (.lit (.map none)) => true
  | 3, .f (.lit .nilFunc) => true
  | _, _ => false

def eqNil (k : Nat) (a b : CV) : Option Bool :=
  match litNil k b with
  | true => nilK k a
  | false => match litNil k a with
    | true => nilK k b
    | false => none

def evEq (G : Ctx) (t : Nat) (x y : AV) : Option Bool :=
  match G.ti t with
  | none => none
  | some i =>
  match i.kind, x, y with
  | .bool, .one (.f (.lit (.bool a))), .one (.f (.lit (.bool b))) => some (a == b)
  | .ptr _, .one a, .one b => eqNil 0 a b
  | .slice _, .one a, .one b => eqNil 1 a b
  | .map _ _, .one a, .one b => eqNil 2 a b
  | .fn, .one a, .one b => eqNil 3 a b
  | .struct _, .agg a, .agg b => match i.eqs with
    | [] => none
    | ks => eqCells ks a b
  | _, _, _ => none

def evBin (G : Ctx) (op : BinOp) (t : Nat) (x y : AV) : T AV :=
  match x, y with
  | .one (.f (.lit (.int k a))), .one (.f (.lit (.int k' b))) =>
    match op with
    | .shl | .shr => (shiftInt op k a b).bind fun v => .ret (.one (.f (.lit v)))
    | _ => match decide (k = k') with
      | true => (binInt op k a b).bind fun v => .ret (.one (.f (.lit v)))
      | false => .bad
  | .one (.f (.lit (.string a))), .one (.f (.lit (.string b))) => (binStr op a b).bind fun v => .ret (.one (.f (.lit v)))
  | x, y =>
    match op with
    | .eql => match evEq G t x y with | some b => .ret (.one (.bool b)) | none => .bad
    | .neq => match evEq G t x y with | some b => .ret (.one (.bool !b)) | none => .bad
    | _ => .bad

def evUn (op : UnOp) (x : CV) : T CV :=
  match op, x with
  | .not, .f (.lit (.bool b)) => .ret (.bool !b)
  | .neg, .f (.lit (.int k n)) => .ret (.int k (k.wrap (0 - n)))
  | _, _ => .bad

/-- fields of a value -/
def evField (G : Ctx) (t : Nat) (l : List CV) (fld : Nat) : Option AV :=
  match G.ti t with
  | some { kind := .struct fs, .. } => match fs[fld]? with
    | some (off, size, _, agg) =>
      let r := (l.drop off).take size
      match Nat.beq r.length size with | true => ofCells agg r | false => none
    | none => none
  | _ => none

/-- an index that is in range: the walk over the places where the mode asks for it -/
def atIndex {α : Type} (sym : Bool) (n : Nat) (i : Int) (k : Nat → T α) : T α :=
  match sym with
  | false => k i.toNat
  | true => go n 0
where
  go : Nat → Nat → T α
    | 0, _ => .bad
    | n + 1, c => .br (decide (i = (c : Int))) (k c) (go n (c + 1))

def inRange {α : Type} (i : Int) (n : Nat) (t : T α) : T α := .need (decide (0 ≤ i ∧ i < (n : Int))) t

def evIndexAddr (G : Ctx) (t : Nat) (x : CV) (i : Int) : T CV :=
  match G.ti t with
  | none => .bad
  | some ti =>
  match ti.kind, x with
  | .array len e, .ptr b m a j => match G.ti e with
    | some ei => inRange i len (atIndex G.sym len i fun c => .ret (.ptr b m a (j + c * ei.size)))
    | none => .bad
  | .slice e, .sl nil b m a j len cap ex sz => match G.ti e with
    | some ei => match Nat.beq ei.size sz with
      | true => .need (!nil) (inRange i len (match m with
        | 0 => atIndex G.sym len i fun c => .ret (.ptr b 0 a (j + c * sz))
        | m + 1 => match Nat.beq (m + 1) sz with | true => .ret (.ptr b (m + 1) (a + i.toNat) j) | false => .bad))
      | false => .bad
    | none => .bad
  | .slice e, .f (.fs nil sz n g) => match G.ti e with
    | some ei => match Nat.beq ei.size sz with
      | true => .need (!nil) (inRange i n (.ret (.f (.fp ((g i.toNat).take sz)))))
      | false => .bad
    | none => .bad
  | _, _ => .bad

/-- n elements -/
def elems (agg : Bool) (sz : Nat) : Nat → List CV → Option (List AV)
  | 0, _ => some []
  | n + 1, l => match Nat.beq (l.take sz).length sz, ofCells agg (l.take sz), elems agg sz n (l.drop sz) with
    | true, some v, some r => some (v :: r)
    | _, _, _ => none

def evIndex (G : Ctx) (t : Nat) (x : AV) (i : Int) : T AV :=
  match G.ti t with
  | none => .bad
  | some ti =>
  match ti.kind, x with
  | .array len e, .agg l => match G.ti e with
    | some ei => match G.sym with
      | false => inRange i len (
        let r := (l.drop (i.toNat * ei.size)).take ei.size
        match Nat.beq r.length ei.size, ofCells ei.agg r with
        | true, some v => .ret v
        | _, _ => .bad)
      | true => match elems ei.agg ei.size len l with
        | some (x :: r) => inRange i len (.ret (selV i 0 x r))
        | _ => .bad
    | none => .bad
  | .str, .one (.f (.lit (.string s))) => inRange i s.size (.ret (.one (.int .u8 (s.data.toList.getD i.toNat 0).toNat)))
  | _, _ => .bad

/-- a slice's bounds: what a call gives, and what is there -/
def bnd {α : Type} (x : Option SV) (d y : Nat) (k : Nat → T α) : T α :=
  match x with
  | none => k d
  | some (.v (.one (.f (.lit (.int _ i))))) => .need (decide (0 ≤ i ∧ i ≤ (y : Int))) (k i.toNat)
  | some _ => .bad

noncomputable def evSlice (G : Ctx) (H : Heap) (t : Nat) (x : CV) (lo hi mx : Option SV) : T (CV × List Nat) :=
  match G.ti t with
  | none => .bad
  | some ti =>
  match mx, hi with
  | some _, none => .bad
  | _, _ =>
  match ti.kind, x with
  | .str, .f (.lit (.string s)) => match mx with
    | none => bnd hi s.size s.size fun h => bnd lo 0 h fun l => .ret (.str (s.extract l h), [])
    | some _ => .bad
  | .array n e, .ptr b 0 a j => match G.ti e, mx with
    | some ei, none => match Nat.beq ei.size 0 with
      | true => .bad
      | false => ((H.get b).rd 0 a j (n * ei.size)).bind fun _ => bnd hi n n fun h => bnd lo 0 h fun l =>
        .br (Nat.beq n l) (.ret (.f (.z0 false), [b])) (.ret (.sl false b 0 a (j + l * ei.size) (h - l) (n - l) true ei.size, [b]))
    | _, _ => .bad
  | .slice e, .f (.lit (.slice none 0 0)) => match G.ti e with
    | some _ => bnd mx 0 0 fun m => bnd hi 0 m fun h => bnd lo 0 h fun l => .ret (.f (.lit (.slice none 0 0)), [])
    | none => .bad
  | .slice e, .f (.z0 nil) => match G.ti e with
    | some _ => bnd mx 0 0 fun m => bnd hi 0 m fun h => bnd lo 0 h fun l => .ret (.f (.z0 nil), [])
    | none => .bad
  | .slice e, .f (.fs nil sz n g) => match G.ti e with
    | some ei => match Nat.beq ei.size sz with
      | true => match mx with   -- (its capacity is not known: at least n)
        | some _ => bnd mx n n fun m => bnd hi n m fun h => bnd lo 0 h fun l => .br (Nat.beq m l) (.ret (.f (.z0 nil), [])) (.need (!nil) (.ret (.f (.fs false sz (h - l) fun i => g (l + i)), [])))
        | none => bnd hi n n fun h => bnd lo 0 h fun l => .br nil (.ret (.f (.z0 true), [])) (.ret (.f (.fs false sz (h - l) fun i => g (l + i)), []))
      | false => .bad
    | none => .bad
  | .slice e, .sl nil b m a j len cap ex sz => match G.ti e with
    | some ei => match Nat.beq ei.size sz with
      | true =>
        let mk (l h c : Nat) (ex : Bool) : T (CV × List Nat) := match m with
          | 0 => .ret (.sl false b 0 a (j + l * sz) (h - l) (c - l) ex sz, [])
          | m + 1 => match Nat.beq (m + 1) sz with | true => .ret (.sl false b (m + 1) (a + l) j (h - l) (c - l) ex sz, []) | false => .bad
        match mx with
        | some _ => bnd mx cap cap fun c => bnd hi len c fun h => bnd lo 0 h fun l =>
            .br (Nat.beq c l) (.ret (.f (.z0 nil), [])) (.need (!nil) (mk l h c true))
        | none => bnd hi len cap fun h => bnd lo 0 h fun l =>
            .br nil (.ret (.f (.z0 true), [])) (.need (Nat.ble len cap) (.br (Nat.beq cap l) (.ret (match ex with | true => .f (.z0 false) | false => .f (.fs false sz 0 fun _ => []), [])) (mk l h cap ex)))
      | false => .bad
    | none => .bad
  | _, _ => .bad

/-- what is appended, or copied: cells in a row, or elements by a function -/
inductive Src where
  | flat (n : Nat) (l : List CV)
  | fn (n : Nat) (e : Nat → List FV)

def Src.n : Src → Nat
  | .flat n _ => n
  | .fn n _ => n

/-- cells n * sz of a slice -/
noncomputable def srcOf (H : Heap) (sz : Nat) (x : CV) : T (Src × List Nat) :=
  match x with
  | .f (.lit (.slice none 0 0)) => .ret (.flat 0 [], [])
  | .f (.z0 _) => .ret (.flat 0 [], [])
  | .f (.lit (.string s)) => match Nat.beq sz 1 with
    | true => .ret (.flat s.size (s.data.toList.map fun c => .int .u8 c.toNat), [])
    | false => .bad
  | .f (.fs nil s n e) => match Nat.beq s sz with | true => .ret (.fn n e, []) | false => .bad
  | .sl nil b m a j len cap ex s => match Nat.beq s sz with
    | true => match H.get b with
      | .cells l => match Nat.beq m 0 && Nat.beq a 0 with
        | true => .need (!nil) (let r := (l.drop j).take (len * sz); match Nat.beq r.length (len * sz) with | true => .ret (.flat len r, [b]) | false => .bad)
        | false => .bad
      | .arr live z N e => match Nat.beq m sz && Nat.beq z sz && Nat.beq j 0 with
        | true => .need (live && Nat.ble (a + len) N) (.ret (.fn len (fun i => e (a + i)), [b]))
        | false => .bad
      | _ => .bad
    | false => .bad
  | _ => .bad

/-- a row of cells as elements -/
def chop {α : Type} (sz : Nat) (l : List α) (i : Nat) : List α := (l.drop (i * sz)).take sz

def chunks {α : Type} (sz : Nat) : Nat → List α → List (List α)
  | 0, _ => []
  | n + 1, l => l.take sz :: chunks sz n (l.drop sz)

/-- the j-th, if it is there -/
def selL : List (List FV) → Nat → List FV
  | [], _ => []
  | [x], _ => x
  | x :: y :: r, j => iteL (Nat.beq j 0) x (selL (y :: r) (j - 1))

def Src.fn? (sz : Nat) : Src → Option (Nat × (Nat → List FV))
  | .fn n e => some (n, e)
  | .flat n l => match fvs? l with | some r => some (n, selL (chunks sz n r)) | none => none

/-- one behind the other -/
def Src.app (sz : Nat) : Src → Src → Option (Src)
  | .flat n l, .flat k r => some (.flat (n + k) (l ++ r))
  | a, b => match a.fn? sz, b.fn? sz with
    | some (n, e), some (k, g) => some (.fn (n + k) fun i => iteL (Nat.ble (i + 1) n) (e i) (g (i - n)))
    | _, _ => none

def Src.esc (b : Nat) : Src → Bool
  | .flat _ l => l.any (CV.beyond b)
  | .fn _ _ => false

/-- a new block with these elements; the slice over it -/
noncomputable def grown (st : St) (kill : List Nat) (sz : Nat) (s : Src) (fp : List Nat) : T Out :=
  let H := kill.foldl (fun H b => H.put b .dead) st.H
  match s with
  | .flat n l => H.putK st.nx (.cells l) fun H => .ret ⟨.one (.sl false st.nx 0 0 0 n n false sz), H, st.nx + 1, false, fp, st.nx :: kill⟩
  | .fn n e => H.putK st.nx (.arr true sz n e) fun H => .ret ⟨.one (.sl false st.nx sz 0 0 n n false sz), H, st.nx + 1, false, fp, st.nx :: kill⟩

/-- a slice whose capacity isn't known may be written in place: its block is no one's any more -/
def killOf : Bool → Nat → List Nat
  | true, _ => []
  | false, b => [b]

/-- so many elements, and as many as may be made of them, have room; told so that an open number is not reckoned -/
def smallB (need bytes : Nat) : Bool := Nat.ble (512 * bytes) 281474976710656 && Nat.ble need ((281474976710656 / bytes - 512) / 2)

noncomputable def evAppend (G : Ctx) (st : St) (st0 st1 : Nat) (s x : CV) : T Out :=
  match G.ti st0, G.ti st1 with
  | some { kind := .slice e, .. }, some ti1 => match G.ti e with
    | none => .bad
    | some ei =>
      let sz := ei.size
      let small (need : Nat) : Bool := smallB need ei.bytes
      match Nat.beq sz 0 || Nat.beq ei.bytes 0 with
      | true => .bad
      | false =>
      let src : T (Src × List Nat) := match ti1.kind, x with
        | .int _, .f (.lit (.int _ l)) =>
          .need (decide (0 ≤ l ∧ l * ei.bytes ≤ 281474976710656)) (match G.sym with
            | false => .ret (.flat l.toNat (List.replicate l.toNat (zeros ei)).flatten, [])
            | true => .ret (.fn l.toNat (fun _ => ei.zero.map .lit), []))
        | .slice _, x => srcOf st.H sz x
        | .str, x => srcOf st.H sz x
        | _, _ => .bad
      src.bind fun (src, fx) =>
      -- to nothing
      let fresh (dflt : CV) : T Out := .br (Nat.beq src.n 0) (.ret ⟨.one dflt, st.H, st.nx, false, fx, []⟩) (.need (small src.n) (grown st [] sz src fx))
      match s with
      | .f (.lit (.slice none 0 0)) => fresh s
      | .f (.z0 _) => fresh s
      | .sl nil b m a j len cap ex s' => match Nat.beq s' sz with
        | false => .bad
        | true =>
          -- nothing is appended
          .br (Nat.beq src.n 0) (.ret ⟨.one (.sl nil b m a j len cap ex s'), st.H, st.nx, false, fx, []⟩) (
          .br (Nat.ble (len + src.n) cap)
            -- there is room
            (.need (!nil) (match m, src with
              | 0, .flat n l => ((st.H.get b).wr 0 a (j + len * sz) l).bind fun o =>
                  st.H.putK b o fun H => .ret ⟨.one (.sl nil b m a j (len + n) cap ex s'), H, st.nx, false || src.esc (b + 1), b :: fx, [b]⟩
              | _, _ => .bad))
            (.need (small (len + src.n)) ((srcOf st.H sz s).bind fun (old, fo) =>
              match old.app sz src with
              | some all => grown st (killOf ex b) sz all (b :: fx)
              | none => .bad)))
      | _ => .bad
  | _, _ => .bad

/-- n cells from an own slice's begin on are written -/
noncomputable def evCopy (G : Ctx) (st : St) (st0 : Nat) (d x : CV) : T Out :=
  match G.ti st0 with
  | some { kind := .slice e, .. } => match G.ti e with
    | none => .bad
    | some ei => (srcOf st.H ei.size x).bind fun (src, fx) =>
      match d, src with
      | .f (.lit (.slice none 0 0)), _ => .ret ⟨.one (.int .i64 0), st.H, st.nx, false, fx, []⟩
      | .f (.z0 _), _ => .ret ⟨.one (.int .i64 0), st.H, st.nx, false, fx, []⟩
      | .sl nil b 0 a j len cap ex s, .flat n l => match Nat.beq s ei.size with
        | false => .bad
        | true => let k := Nat.min n len
          .need (!nil) (((st.H.get b).wr 0 a j (l.take (k * ei.size))).bind fun o =>
            st.H.putK b o fun H => .ret ⟨.one (.int .i64 k), H, st.nx, false || src.esc (b + 1), b :: fx, [b]⟩)
      | _, _ => .bad
  | _ => .bad

noncomputable def evClear (G : Ctx) (st : St) (st0 : Nat) (d : CV) : T Out :=
  match G.ti st0 with
  | some { kind := .slice e, .. } => match G.ti e with
    | none => .bad
    | some ei => match d with
      | .f (.lit (.slice none 0 0)) => .ret ⟨.tup [], st.H, st.nx, false, [], []⟩
      | .f (.z0 _) => .ret ⟨.tup [], st.H, st.nx, false, [], []⟩
      | .f (.fs _ _ 0 _) => .ret ⟨.tup [], st.H, st.nx, false, [], []⟩
      | .sl nil b 0 a j len cap ex s => match Nat.beq s ei.size with
        | false => .bad
        | true => .need (!nil) (((st.H.get b).wr 0 a j (List.replicate len (zeros ei)).flatten).bind fun o =>
            st.H.putK b o fun H => .ret ⟨.tup [], H, st.nx, false, [b], [b]⟩)
      | .sl nil b (m + 1) a 0 len cap ex s => match Nat.beq s ei.size && Nat.beq (m + 1) s, st.H.get b with
        | true, .arr live z N e => match Nat.beq z s with
          | true => .need (!nil && live && Nat.ble (a + len) N) (st.H.putK b (.arr live z N fun i => iteL (Nat.ble a i && Nat.ble (i + 1) (a + len)) (ei.zero.map .lit) (e i)) fun H => .ret ⟨.tup [], H, st.nx, false, [b], [b]⟩)
          | false => .bad
        | _, _ => .bad
      | _ => .bad
  | _ => .bad

def evLen (G : Ctx) (t : Nat) (x : SV) : T CV :=
  match G.ti t with
  | none => .bad
  | some ti =>
  match ti.kind, x with
  | .str, .v (.one (.f (.lit (.string s)))) => .ret (.int .i64 s.size)
  | .array n _, _ => .ret (.int .i64 n)
  | .slice _, .v (.one (.f (.lit (.slice none n _)))) => .ret (.int .i64 n)
  | .slice _, .v (.one (.f (.z0 _))) => .ret (.int .i64 0)
  | .slice _, .v (.one (.f (.fs _ _ n _))) => .ret (.int .i64 n)
  | .slice _, .v (.one (.sl _ _ _ _ _ len _ _ _)) => .ret (.int .i64 len)
  | _, _ => .bad

/-- a capacity that is known -/
def evCap (G : Ctx) (t : Nat) (x : SV) : T CV :=
  match G.ti t with
  | none => .bad
  | some ti =>
  match ti.kind, x with
  | .slice _, .v (.one (.f (.lit (.slice none _ n)))) => .ret (.int .i64 n)
  | .slice _, .v (.one (.f (.z0 _))) => .ret (.int .i64 0)
  | .slice _, .v (.one (.sl _ _ _ _ _ _ cap true _)) => .ret (.int .i64 cap)
  | _, _ => .bad

def evMax (mx : Bool) : List SV → T CV
  | .v (.one (.f (.lit (.int k a)))) :: r => go k a r
  | _ => .bad
where
  go (k : IntKind) (a : Int) : List SV → T CV
    | [] => .ret (.int k a)
    | .v (.one (.f (.lit (.int _ b)))) :: r => go k (match mx with | true => if b > a then b else a | false => if b < a then b else a) r
    | _ => .bad

/-- a map's entry under a key -/
def findM (k : Value) : List (Value × Value) → Nat → T (Option (Nat × Value))
  | [], _ => .ret none
  | e :: r, i => match k, e.1 with
    | .int ka a, .int kb b => .need (decide (ka = kb)) (.br (a == b) (.ret (some (i, e.2))) (findM k r (i + 1)))
    | .string a, .string b => .br (a.toList == b.toList) (.ret (some (i, e.2))) (findM k r (i + 1))
    | .bool a, .bool b => .br (a == b) (.ret (some (i, e.2))) (findM k r (i + 1))
    | _, _ => .bad

def keyKind : TK → Value → Bool
  | .int k, .int k' _ => decide (k' = k)
  | .str, .string _ => true
  | .bool, .bool _ => true
  | _, _ => false

/-! maps whose entries are not told one by one -/
def keyOk (k e : Value) : Bool := match k, e with
  | .int ka _, .int kb _ => decide (ka = kb)
  | .string _, .string _ => true
  | .bool _, .bool _ => true
  | _, _ => false
def keyEq (k e : Value) : Bool := match k, e with
  | .int _ a, .int _ b => a == b
  | .string a, .string b => a.toList == b.toList
  | .bool a, .bool b => a == b
  | _, _ => false
def keysOk (k : Value) (es : List (Value × Value)) : Bool := es.all fun e => keyOk k e.1
def hasM (k : Value) (es : List (Value × Value)) : Bool := es.any fun e => keyEq k e.1
def valM (k : Value) : List (Value × Value) → Option Value
  | [] => none
  | e :: r => match keyEq k e.1 with | true => some e.2 | false => valM k r
def setM (k v : Value) : List (Value × Value) → List (Value × Value)
  | [] => [(k, v)]
  | e :: r => match keyEq k e.1 with | true => (k, v) :: r | false => e :: setM k v r
def intM (k : Value) (es : List (Value × Value)) : Int := match valM k es with | some (.int _ n) => n | _ => 0
def truM (k : Value) (es : List (Value × Value)) : Bool := match valM k es with | some (.bool b) => b | _ => false
def intsOk (kd : IntKind) (es : List (Value × Value)) : Bool := es.all fun e => match e.2 with | .int kd' _ => decide (kd' = kd) | _ => false
def trusOk (es : List (Value × Value)) : Bool := es.all fun e => match e.2 with | .bool _ => true | _ => false

/-- what is looked up in such a map, and whether it is there -/
def lookS (ei : TK) (zv k : Value) (es : List (Value × Value)) (t : Value → Bool → T Out) : T Out :=
  match ei, zv with
  | .int kd, .int kd' n => match decide (kd' = kd) && n == 0 with
    | true => .need (keysOk k es && intsOk kd es) (t (.int kd (intM k es)) (hasM k es))
    | false => .bad
  | .bool, .bool false => .need (keysOk k es && trusOk es) (t (.bool (truM k es)) (hasM k es))
  | _, _ => .bad

noncomputable def evLookup (G : Ctx) (st : St) (t : Nat) (m : CV) (k : Value) (ok : Bool) : T Out :=
  match G.ti t with
  | some { kind := .map kt et, .. } => match G.ti kt, G.ti et with
    | some ki, some ei => match keyKind ki.kind k, ei.zero with
      | true, [zv] =>
        let tell (r : Option (Nat × Value)) (fp : List Nat) : T Out := match r with
          | some (_, v) => .need (oneCell v) (.ret ⟨match ok with | true => .tup [.one (.f (.lit v)), .one (.f (.lit (.bool true)))] | false => .v (.one (.f (.lit v))), st.H, st.nx, false, fp, []⟩)
          | none => .need (!ei.agg) (.ret ⟨match ok with | true => .tup [.one (.f (.lit zv)), .one (.f (.lit (.bool false)))] | false => .v (.one (.f (.lit zv))), st.H, st.nx, false, fp, []⟩)
        match m with
        | .mp b => match st.H.get b with
          | .map es => match G.sym with
            | false => (findM k es 0).bind fun r => tell r [b]
            | true => lookS ei.kind zv k es fun v b' => .ret ⟨match ok with | true => .tup [.one (.f (.lit v)), .one (.f (.lit (.bool b')))] | false => .v (.one (.f (.lit v))), st.H, st.nx, false, [b], []⟩
          | _ => .bad
        | .f (.lit (.map none)) => tell none []
        | _ => .bad
      | _, _ => .bad
    | _, _ => .bad
  | _ => .bad

noncomputable def evMapUpdate (G : Ctx) (st : St) (t : Nat) (m : CV) (k v : Value) : T Out :=
  match G.ti t with
  | some { kind := .map kt _, .. } => match G.ti kt with
    | some ki => match keyKind ki.kind k, m with
      | true, .mp b => match st.H.get b with
        | .map es => match G.sym with
          | false => (findM k es 0).bind fun r =>
            let es' := match r with | some (i, _) => es.set i (k, v) | none => es ++ [(k, v)]
            st.H.putK b (.map es') fun H => .ret ⟨.top, H, st.nx, false, [b], [b]⟩
          | true => .need (keysOk k es) (st.H.putK b (.map (setM k v es)) fun H => .ret ⟨.top, H, st.nx, false, [b], [b]⟩)
        | _ => .bad
      | _, _ => .bad
    | none => .bad
  | _ => .bad

/-- a row of bytes -/
def bytesOf? : List CV → Option (List UInt8)
  | [] => some []
  | .f (.lit (.int .u8 n)) :: r => match bytesOf? r with | some l => some (UInt8.ofNat n.toNat :: l) | none => none
  | _ :: _ => none

def strLit : CV → Bool
  | .f (.lit (.string _)) => true
  | _ => false

noncomputable def evConvert (G : Ctx) (st : St) (src dst : Nat) (x : CV) : T Out :=
  match G.ti src, G.ti dst with
  | some a, some b =>
    match a.kind, b.kind, x with
    | .int _, .int k, .f (.lit (.int _ n)) => pure1 st (.one (.int k (k.wrap n)))
    | .str, .str, .f (.lit (.string s)) => pure1 st (.one (.str s))
    | .str, .slice e, .f (.lit (.string s)) => match G.ti e with
      | some { kind := .int .u8, .. } => newBlock st (s.data.toList.map fun c => .int .u8 c.toNat) fun b => .one (.sl false b 0 0 0 s.size s.size false 1)
      | _ => .bad
    | .slice e, .slice _, .sl nil b m i j len cap ex sz => match G.ti e with   -- (a literal's row gets a mark behind its end)
      | some { kind := .int .u8, .. } => match Nat.beq src dst && !nil, st.H.get b with
        | true, .cells (_ :: _) => .ret ⟨.one (.sl nil b m i j len cap ex sz), st.H, st.nx, false, [b], [b]⟩
        | _, _ => .bad
      | _ => .bad
    | .slice e, .str, x => match G.ti e with
      | some { kind := .int .u8, .. } => match strLit x with
        | true => .bad
        | false => (srcOf st.H 1 x).bind fun (src, fp) => match src with
          | .flat _ l => match bytesOf? l with
            | some bs => .ret ⟨.one (.str ⟨bs.toArray⟩), st.H, st.nx, false, fp, []⟩
            | none => .bad
          | _ => .bad
      | _ => .bad
    | _, _, _ => .bad
  | _, _ => .bad

def fill (place : Nat → Option (Nat × Nat)) (cells : List CV) : List (Nat × List CV) → Option (List CV)
  | [] => some cells
  | (i, v) :: rest =>
    match place i with
    | none => none
    | some (off, size) =>
      match Nat.beq v.length size && Nat.ble (off + v.length) cells.length with
      | true => fill place (setRange cells off v) rest
      | false => none

noncomputable def partsOf (st : St) : List (Nat × Operand) → Option (List (Nat × List CV))
  | [] => some []
  | (i, x) :: r => match st.val x, partsOf st r with
    | .v a, some l => some ((i, a.cells) :: l)
    | _, _ => none

def addrs? : List SV → Option (List (Nat × Nat × Nat × Nat))
  | [] => some []
  | .v (.one (.ptr b m i j)) :: r => match addrs? r with | some l => some ((b, m, i, j) :: l) | none => none
  | _ :: _ => none

def avs? : List SV → Option (List AV)
  | [] => some []
  | .v a :: r => match avs? r with | some l => some (a :: l) | none => none
  | _ :: _ => none

abbrev CallF := Nat → List AV → Heap → Nat → T CallOut

/-- blocks that lead on from a value -/
def CV.refs : CV → List Nat
  | .f _ => []
  | .ptr b _ _ _ => [b]
  | .sl _ b _ _ _ _ _ _ _ => [b]
  | .mp b => [b]
  | .fn _ l => l.map (·.1)

def Ob.refs : Ob → List Nat
  | .cells l => l.flatMap CV.refs
  | .arr _ _ _ _ => []
  | .map _ => []
  | .dead => []

noncomputable def reach (H : Heap) : Nat → List Nat → List Nat → List Nat
  | 0, _, seen => seen
  | _ + 1, [], seen => seen
  | n + 1, b :: r, seen => match seen.any (Nat.beq b) with
    | true => reach H n r seen
    | false => reach H n ((H.get b).refs ++ r) (b :: seen)

/-- these blocks of A, laid over B -/
noncomputable def lay (A : Heap) : List Nat → Heap → Heap
  | [], B => B
  | b :: l, B => lay A l (B.put b (A.get b))

/-- a call: where it may come ahead of what stands before it, or behind it, it sees what its arguments lead to alone -/
noncomputable def evCallOp (call : CallF) (draw : Bool) (st : St) (g : Nat) (args : List AV) : T Out :=
  match draw with
  | false => (call g args st.H st.nx).bind fun o =>
      .ret ⟨o.v, o.H, o.nx, false || o.esc, List.range st.nx, o.wr ++ (List.range (o.nx - st.nx)).map (st.nx + ·)⟩
  | true =>
    let ids := (reach st.H 4000 (args.flatMap fun a => a.cells.flatMap CV.refs) []).filter fun b => Nat.ble (b + 1) st.nx
    (call g args (lay st.H ids Heap.none) st.nx).bind fun o =>
      let new := (List.range (o.nx - st.nx)).map (st.nx + ·)
      .ret ⟨o.v, lay o.H (ids ++ new) st.H, o.nx, false || o.esc, ids, (ids.filter fun b => o.wr.any (Nat.beq b)) ++ new⟩

noncomputable def evBuiltin (G : Ctx) (st : St) (b : Builtin) (ts : List Nat) (args : List SV) : T Out :=
  match b, ts, args with
  | .append, [t0, t1], [.v (.one s), .v (.one x)] => evAppend G st t0 t1 s x
  | .copy, t0 :: _, [.v (.one d), .v (.one x)] => evCopy G st t0 d x
  | .clear, t0 :: _, [.v (.one d)] => evClear G st t0 d
  | .len, t0 :: _, [x] => (evLen G t0 x).bind fun v => pure1 st (.one v)
  | .cap, t0 :: _, [x] => (evCap G t0 x).bind fun v => pure1 st (.one v)
  | .max, _, l => (evMax true l).bind fun v => pure1 st (.one v)
  | .min, _, l => (evMax false l).bind fun v => pure1 st (.one v)
  | _, _, _ => .bad

noncomputable def evOp (G : Ctx) (call : CallF) (draw : Bool) (st : St) (o : Oper) : T Out :=
  match o.op with
  | .move x | .assign x => pure1 st (st.val x)
  | .pick c a b => split st c fun t => pure1 st (st.val (match t with | true => a | false => b))
  | .alloc t => match G.ti t with
    | some i => newBlock st (zeros i) fun b => .one (.ptr b 0 0 0)
    | none => .bad
  | .box t x => match st.val x with
    | .v a => newBlock st a.cells fun b => .one (.ptr b 0 0 0)
    | _ => .bad
  | .build t parts => match G.ti t, partsOf st parts.toList with
    | some i, some ps => match i.kind with
      | .struct fs => match fill (fun k => (fs[k]?).map fun f => (f.1, f.2.1)) (zeros i) ps with
        | some l => pure1 st (.v (.agg l))
        | none => .bad
      | .array _ e => match G.ti e with
        | some ei => match fill (fun k => some (k * ei.size, ei.size)) (zeros i) ps with
          | some l => pure1 st (.v (.agg l))
          | none => .bad
        | none => .bad
      | _ => .bad
    | _, _ => .bad
  | .buildSlice t len parts => match G.ti t, partsOf st parts.toList with
    | some { kind := .slice e, .. }, some ps => match G.ti e with
      | some ei => match Nat.ble (len * ei.size) (2 ^ 24), fill (fun k => some (k * ei.size, ei.size)) (List.replicate len (zeros ei)).flatten ps with
        | true, some l => newBlock st l fun b => .one (.sl false b 0 0 0 len len true ei.size)
        | _, _ => .bad
      | none => .bad
    | _, _ => .bad
  | .load t x => match G.ti t, st.val x with
    | some i, .v (.one (.ptr b m a j)) => ((st.H.get b).rd m a j i.size).bind fun l =>
      match ofCells i.agg l with
      | some v => .ret ⟨.v v, st.H, st.nx, false, [b], []⟩
      | none => .bad
    | some i, .v (.one (.f (.fp l))) =>
      let r := l.take i.size
      match Nat.beq r.length i.size, ofCells i.agg (r.map .f) with
      | true, some v => pure1 st (.v v)
      | _, _ => .bad
    | _, _ => .bad
  | .store t x y => match G.ti t, st.val x, st.val y with
    | some i, .v (.one (.ptr b m a j)), .v v => match Nat.beq v.cells.length i.size with
      | true => ((st.H.get b).wr m a j v.cells).bind fun ob =>
        st.H.putK b ob fun H => .ret ⟨.top, H, st.nx, false || v.cells.any (CV.beyond (b + 1)), [b], [b]⟩
      | false => .bad
    | _, _, _ => .bad
  | .nilCheck x => match st.val x with
    | .v (.one (.ptr b m a j)) => pure1 st (.one (.ptr b m a j))
    | .v (.one (.f (.fp l))) => pure1 st (.one (.f (.fp l)))
    | .v (.one (.fn g c)) => pure1 st (.one (.fn g c))
    | _ => .bad
  | .binOp op t x y _ => match st.val x, st.val y with
    | .v a, .v b => (evBin G op t a b).bind fun v => pure1 st (.v v)
    | _, _ => .bad
  | .unOp op _ x => match st.val x with
    | .v (.one a) => (evUn op a).bind fun v => pure1 st (.one v)
    | _ => .bad
  | .convert a b x => match st.val x with
    | .v (.one v) => evConvert G st a b v
    | _ => .bad
  | .makeFunc fn first captured => match fn, first.toList, addrs? (captured.toList.map st.val) with
    | .func g, [], some l => pure1 st (.one (.fn g l))
    | _, _, _ => .bad
  | .makeSlice t l c => match G.ti t, st.val l, st.val c with
    | some { kind := .slice e, .. }, .v (.one (.f (.lit (.int .i64 l)))), .v (.one (.f (.lit (.int .i64 c)))) => match G.ti e with
      | some ei => .need (decide (0 ≤ l ∧ l ≤ c ∧ c * ei.bytes ≤ 281474976710656 ∧ c ≤ 9223372036854775807)) (match Nat.beq ei.size 0, G.sym with
        | true, _ => .bad
        | false, false => newBlock st (List.replicate c.toNat (zeros ei)).flatten fun b => .one (.sl false b 0 0 0 l.toNat c.toNat true ei.size)
        | false, true => st.H.putK st.nx (.arr true ei.size c.toNat fun _ => ei.zero.map .lit) fun H => .ret ⟨.one (.sl false st.nx ei.size 0 0 l.toNat c.toNat true ei.size), H, st.nx + 1, false, [], [st.nx]⟩)
      | none => .bad
    | _, _, _ => .bad
  | .makeMap t r => match G.ti t, r with
    | some { kind := .map _ _, .. }, none => st.H.putK st.nx (.map []) fun H => .ret ⟨.one (.mp st.nx), H, st.nx + 1, false, [], [st.nx]⟩
    | some { kind := .map _ _, .. }, some x => match st.val x with
      | .v (.one (.f (.lit (.int _ _)))) => st.H.putK st.nx (.map []) fun H => .ret ⟨.one (.mp st.nx), H, st.nx + 1, false, [], [st.nx]⟩
      | _ => .bad
    | _, _ => .bad
  | .lookup t m k ok => match st.val m, st.val k with
    | .v (.one m), .v (.one (.f (.lit k))) => evLookup G st t m k ok
    | _, _ => .bad
  | .mapUpdate t m k v | .insert t m k v => match st.val m, st.val k, st.val v with
    | .v (.one m), .v (.one (.f (.lit k))), .v (.one (.f (.lit v))) => evMapUpdate G st t m k v
    | _, _, _ => .bad
  | .slice t x lo hi mx => match st.val x with
    | .v (.one v) => (evSlice G st.H t v (lo.map st.val) (hi.map st.val) (mx.map st.val)).bind fun (v, fp) => .ret ⟨.one v, st.H, st.nx, false, fp, []⟩
    | _ => .bad
  | .fieldAddr t x fld => match G.ti t, st.val x with
    | some { kind := .struct fs, .. }, .v (.one v) => match fs[fld]? with
      | some (off, size, _, _) => match Nat.beq size 0, v with
        | false, .ptr b m a j => pure1 st (.one (.ptr b m a (j + off)))
        | false, .f (.fp l) => pure1 st (.one (.f (.fp (l.drop off))))
        | _, _ => .bad
      | none => .bad
    | _, _ => .bad
  | .field t x fld => match st.val x with
    | .v (.agg l) => match evField G t l fld with
      | some v => pure1 st (.v v)
      | none => .bad
    | _ => .bad
  | .indexAddr t x i => match st.val x, st.val i with
    | .v (.one v), .v (.one (.f (.lit (.int _ n)))) => (evIndexAddr G t v n).bind fun v => pure1 st (.one v)
    | _, _ => .bad
  | .index t x i => match st.val x, st.val i with
    | .v v, .v (.one (.f (.lit (.int _ n)))) => (evIndex G t v n).bind fun v => pure1 st (.v v)
    | _, _ => .bad
  | .extract x i => match st.val x with
    | .tup l => match l[i]? with
      | some v => pure1 st (.v v)
      | none => .bad
    | _ => .bad
  | .call c => match c.callee with
    | .builtin b => evBuiltin G st b c.argTypes.toList (c.args.toList.map st.val)
    | .value f => match st.val f, avs? (c.args.toList.map st.val) with
      | .v (.one (.fn g cap)), some args => match G.fi g with
        | some _ => evCallOp call draw st g (args ++ cap.map fun x => .one (.ptr x.1 x.2.1 x.2.2.1 x.2.2.2))
        | none => .bad
      | _, _ => .bad
    | _ => .bad
  | _ => .bad

/-- numbers are reckoned at once, where the mode says that all is closed -/
def forceV {β : Type} (sym : Bool) (v : SV) (k : SV → β) : β :=
  match sym, v with
  | false, .v (.one (.f (.lit (.int kd (.ofNat 0))))) => k (.v (.one (.f (.lit (.int kd (.ofNat 0))))))
  | false, .v (.one (.f (.lit (.int kd (.ofNat (n + 1)))))) => k (.v (.one (.f (.lit (.int kd (.ofNat (n + 1)))))))
  | false, .v (.one (.f (.lit (.int kd (.negSucc 0))))) => k (.v (.one (.f (.lit (.int kd (.negSucc 0))))))
  | false, .v (.one (.f (.lit (.int kd (.negSucc (n + 1)))))) => k (.v (.one (.f (.lit (.int kd (.negSucc (n + 1)))))))
  | false, .v (.one (.f (.lit (.bool true)))) => k (.v (.one (.f (.lit (.bool true)))))
  | false, .v (.one (.f (.lit (.bool false)))) => k (.v (.one (.f (.lit (.bool false)))))
  | _, v => k v

def isNone : SV → Bool
  | .tup [] => true
  | _ => false

/-- operations, in the text's order -/
noncomputable def evOps (G : Ctx) (call : CallF) (N : Nat) (all : List Oper) : List Oper → St → T St
  | [], st => .ret st
  | o :: r, st =>
    match (match o.dst with | some d => Nat.ble (d + 1) N | none => true) with
    | false => .bad
    | true =>
    match o.guard with
    | none => (evOp G call false st o).bind fun u => forceV G.sym u.v fun v => (st.up u).putK o.dst v (evOps G call N all r)
    | some (j, want) =>
      match (all[j]?).bind (·.dst) with
      | none => .bad
      | some t => match isNone (st.sl.get t) with
        | true => st.putK o.dst (.tup []) (evOps G call N all r)
        | false => split st (.tmp t) fun c => match (match c, want with | true, true => true | false, false => true | _, _ => false) with
        | true => (evOp G call false st o).bind fun u => forceV G.sym u.v fun v => (st.up u).putK o.dst v (evOps G call N all r)
        | false => st.putK o.dst (.tup []) (evOps G call N all r)

/-- what one operation of a region that draws looks at, writes, makes, and leads to -/
structure Eff where
  fp : List Nat
  wr : List Nat
  n0 : Nat
  n1 : Nat
  rf : List Nat

def SV.refs : SV → List Nat
  | .v a => a.cells.flatMap CV.refs
  | .tup l => l.flatMap fun a => a.cells.flatMap CV.refs
  | .top => []

noncomputable def effOf (n0 : Nat) (u : Out) : Eff := ⟨u.fp, u.wr, n0, u.nx, u.v.refs ++ u.wr.flatMap fun b => (u.H.get b).refs⟩

/-- operations of a region that draws, in the text's order; 'fl': which of them may come in another order than one that they could meet -/
noncomputable def evDraw (G : Ctx) (call : CallF) (N : Nat) (ops : Array Oper) : List Oper → List Bool → St → List Eff → T (St × List Eff)
  | [], _, st, es => .ret (st, es)
  | o :: r, fl, st, es =>
    match (match o.dst with | some d => Nat.ble (d + 1) N | none => true) with
    | false => .bad
    | true =>
    let fr := fl.tail
    let run : T (St × List Eff) := (evOp G call (fl.headD false) ⟨st.sl, st.H, st.nx, false, st.base, []⟩ o).bind fun u =>
      forceV G.sym u.v fun v => (st.up u).putK o.dst v fun st' => evDraw G call N ops r fr st' (effOf st.nx u :: es)
    let skip : T (St × List Eff) := st.putK o.dst (.tup []) fun st' => evDraw G call N ops r fr st' (⟨[], [], st.nx, st.nx, []⟩ :: es)
    match o.guard with
    | none => run
    | some (j, want) =>
      match (ops.toList[j]?).bind (·.dst) with
      | none => .bad
      | some t => match st.sl.get t with
        | .v (.one (.f (.lit (.bool c)))) => match want with
          | true => .br c run skip
          | false => .br c skip run
        | .tup [] => skip
        | _ => .bad

def meets (a b : List Nat) : Bool := a.any fun x => b.any (Nat.beq x)

/-- may neither come before the other? -/
def clash (a b : Eff) : Bool := meets a.wr b.fp || meets a.wr b.wr || meets a.fp b.wr

def edges (o : Oper) : List Nat := (o.after.toList.filter (Region.binds .any)).map (·.on)

/-- for each operation those that come before it, as a number's bits -/
def closure : List Oper → List Nat → List Nat
  | [], acc => acc
  | o :: r, acc => closure r (acc ++ [(edges o).foldl (fun s e => s ||| (1 <<< e) ||| acc.getD e 0) 0])

/-- an operation that looks at no block, and writes none -/
def stillOp (o : Oper) : Bool := match o.op with
  | .move _ | .assign _ | .pick _ _ _ | .build _ _ | .nilCheck _ | .binOp _ _ _ _ _ | .unOp _ _ _ | .makeFunc _ _ _ | .fieldAddr _ _ _ | .field _ _ _ | .indexAddr _ _ _ | .index _ _ _ | .extract _ _ => true
  | .call c => match c.callee with
    | .builtin .len | .builtin .cap | .builtin .max | .builtin .min => true
    | _ => false
  | _ => false

/-- one that writes no block -/
def readsOp (o : Oper) : Bool := match o.op with
  | .load _ _ | .lookup _ _ _ _ | .slice _ _ _ _ _ => true
  | _ => stillOp o

/-- one that makes a block, perhaps -/
def makesOp (o : Oper) : Bool := match o.op with
  | .load _ _ | .store _ _ _ | .lookup _ _ _ _ | .mapUpdate _ _ _ _ | .insert _ _ _ _ | .slice _ _ _ _ _ => false
  | _ => !stillOp o

/-- one whose answer names a block, perhaps -/
def namesOp (o : Oper) : Bool := match o.op with
  | .binOp _ _ _ _ _ | .unOp _ _ _ => false
  | .call c => match c.callee with
    | .builtin .len | .builtin .cap | .builtin .max | .builtin .min => false
    | _ => true
  | _ => true

def hasPair (l : List (Nat × Nat)) (i j : Nat) : Bool := l.any fun p => Nat.beq p.1 i && Nat.beq p.2 j

/-- is it so? Asked once of each region. -/
def RI.right (r : RI) (ops : Array Oper) : Bool :=
  let all := ops.toList
  let bf := closure all []
  Region.noSelect ops && (all.zipIdx.all fun (o, i) => (edges o).all fun e => Nat.ble (e + 1) i) &&
    all.zipIdx.all fun (oj, j) => all.zipIdx.all fun (oi, i) => !(Nat.ble (i + 1) j) || (bf.getD j 0).testBit i ||
      (oi.apart ops oj && (stillOp oi || stillOp oj || (readsOp oi && readsOp oj) || hasPair r.cl i j) && (!makesOp oi || !namesOp oj || hasPair r.al i j))

/-- may the text's order stand for every other one? 'es': the effects, in order -/
def RI.ok (r : RI) (es : List Eff) : Bool :=
  (r.cl.all fun p => match es[p.1]?, es[p.2]? with
    | some a, some b => !(clash a b)
    | _, _ => false) &&
  r.al.all fun p => match es[p.1]?, es[p.2]? with
    | some a, some b => b.rf.all fun x => !(Nat.ble a.n0 x && Nat.ble (x + 1) a.n1)
    | _, _ => false

noncomputable def resultsOf (G : Ctx) (st : St) : List ResultVar → T (List AV)
  | [] => .ret []
  | .tmp t :: r => match st.sl.get t with
    | .v a => (resultsOf G st r).bind fun l => .ret (a :: l)
    | _ => .bad
  | .cell x t :: r => match G.ti t, st.sl.get x with
    | some i, .v (.one (.ptr b m a j)) => ((st.H.get b).rd m a j i.size).bind fun l => match ofCells i.agg l with
      | some v => (resultsOf G st r).bind fun l => .ret (v :: l)
      | none => .bad
    | _, _ => .bad

def outV : List AV → SV
  | [x] => .v x
  | l => .tup l

/-- the arguments, laid into the first slots -/
noncomputable def argSlotsK {β : Type} : Nat → List AV → Slots → (Slots → β) → β
  | _, [], s, k => k s
  | n, a :: r, s, k => s.putK n (.v a) fun s => argSlotsK (n + 1) r s k

/-- what a function comes to, its code's run being given -/
noncomputable def evFn (G : Ctx) (run : Nat → Nat → Code → St → T (Ex × St)) (g : Nat) (args : List AV) (H : Heap) (nx : Nat) : T CallOut :=
  match G.fi g with
  | none => .bad
  | some fn => match fn.body, Nat.ble args.length fn.ntmps with
    | some c, true => argSlotsK 0 args (Slots.none fn.ntmps) fun s => (run g fn.ntmps c ⟨s, H, nx, false, nx, []⟩).bind fun (e, st) => match e with
      | .exit _ => .bad
      | _ => (resultsOf G st fn.results.toList).bind fun l => .ret ⟨outV l, st.H, st.nx, st.esc, st.wr⟩
    | _, _ => .bad

/-- a call: what is known of it, or its run -/
noncomputable def evKnown (G : Ctx) (run : Nat → Nat → Code → St → T (Ex × St)) (g : Nat) (args : List AV) (H : Heap) (nx : Nat) : T CallOut :=
  match G.sum g with
  | some s => s args H nx
  | none => evFn G run g args H nx

noncomputable def ev (G : Ctx) : Nat → Nat → Nat → Code → St → T (Ex × St)
  | 0, _, _, _, _ => .bad
  | n + 1, F, N, code, st =>
    match code with
    | .skip | .label _ => .ret (.normal, st)
    | .seq a b => (ev G n F N a st).bind fun (e, st) => match e with
      | .normal => ev G n F N b st
      | e => .ret (e, st)
    | .cond c a b => split st c fun t => match t with | true => ev G n F N a st | false => ev G n F N b st
    | .block id c => (ev G n F N c st).bind fun (e, st) => match e with
      | .exit k => match Nat.beq k id with | true => .ret (.normal, st) | false => .ret (.exit k, st)
      | e => .ret (e, st)
    | .loop c => (ev G n F N c st).bind fun (e, st) => match e with
      | .normal => ev G n F N (.loop c) st
      | e => .ret (e, st)
    | .region _ ops false => (evOps G (evKnown G (ev G n)) N ops.toList ops.toList st).bind fun st => .ret (.normal, st)
    | .region id ops true => match G.dr F id with
      | none => .bad
      | some r => (evDraw G (evKnown G (ev G n)) N ops ops.toList r.fl st []).bind fun (st', es) =>
        match r.ok es.reverse with | true => .ret (.normal, st') | false => .bad
    | .exit id => .ret (.exit id, st)
    | .ret => .ret (.ret, st)
    | _ => .bad

noncomputable def evCall (G : Ctx) (n : Nat) : Nat → List AV → Heap → Nat → T CallOut := evFn G (ev G n)

end Go.Proofs.YtpidkmegakdohaaGreat.Kn
