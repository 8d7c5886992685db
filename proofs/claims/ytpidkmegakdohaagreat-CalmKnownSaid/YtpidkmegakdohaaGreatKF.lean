/- The closed engine, made quick: an evaluator over code whose types and operands are resolved once, written so that the kernel copies little. Nothing is proved here; KG shows that it comes to what K0's comes to. -/
import Derived.Test.YtpidkmegakdohaaGreatK0
namespace Go.Proofs.YtpidkmegakdohaaGreat.Kn
open Go
set_option linter.unusedVariables false

/-- a slot's value, laid flat -/
inductive SC where
  | int (k : IntKind) (n : Int)
  | bool (b : Bool)
  | str (s : ByteArray)
  | ptr (b m i j : Nat)
  | sl (nil : Bool) (b m i j len cap : Nat) (ex : Bool) (sz : Nat)
  | agg (l : List CV)
  | tup (l : List AV)
  | no

noncomputable def sc (x : SV) : SC :=
  SV.rec (motive := fun _ => SC) (fun a => AV.rec (motive := fun _ => SC) (fun x => CV.rec (motive := fun _ => SC) (fun f => FV.rec (motive_1 := fun _ => SC) (motive_2 := fun _ => PUnit) (fun v => Value.rec (motive_1 := fun _ => SC) (motive_2 := fun _ => PUnit) (motive_3 := fun _ => PUnit)
    SC.bool SC.int (fun _ _ => SC.no) (fun _ _ _ => SC.no) SC.str (fun _ => SC.no) (fun _ _ _ => SC.no) (fun _ => SC.no) (fun _ => SC.no) (fun _ _ _ _ _ => SC.no) SC.no (fun _ _ _ => SC.no) SC.no (fun _ _ => SC.no) (fun _ _ => SC.no) (fun _ _ => ⟨⟩) ⟨⟩ (fun _ _ _ _ => ⟨⟩) v)
    (fun _ => SC.no) (fun _ _ _ _ _ => SC.no) (fun _ _ => SC.no) ⟨⟩ (fun _ _ _ _ => ⟨⟩) f) SC.ptr SC.sl (fun _ => SC.no) (fun _ _ => SC.no) x) SC.agg a) SC.tup SC.no x

/-- the way to a place of a table -/
inductive Pa where
  | nil
  | a (p : Pa)
  | b (p : Pa)
  | c (p : Pa)
  | d (p : Pa)

noncomputable def pathOf : Nat → Nat → Pa
  | 0, _ => .nil
  | k + 1, n => four Pa.a Pa.b Pa.c Pa.d (Nat.mod n 4) (pathOf k (Nat.div n 4))

/-- what stands there; 'no', if the table is of another shape -/
noncomputable def getP {α : Type} (p : Pa) : α → Tr α → α :=
  Pa.rec (motive := fun _ => α → Tr α → α) (fun no t => Tr.rec (motive := fun _ => α → α) (fun x _ _ => x) (fun _ _ _ _ _ _ _ _ no => no) t no)
    (fun _ ih no t => Tr.rec (motive := fun _ => (α → Tr α → α) → α → α) (fun _ _ _ no => no) (fun x _ _ _ _ _ _ _ ih no => ih no x) t ih no)
    (fun _ ih no t => Tr.rec (motive := fun _ => (α → Tr α → α) → α → α) (fun _ _ _ no => no) (fun _ x _ _ _ _ _ _ ih no => ih no x) t ih no)
    (fun _ ih no t => Tr.rec (motive := fun _ => (α → Tr α → α) → α → α) (fun _ _ _ no => no) (fun _ _ x _ _ _ _ _ ih no => ih no x) t ih no)
    (fun _ ih no t => Tr.rec (motive := fun _ => (α → Tr α → α) → α → α) (fun _ _ _ no => no) (fun _ _ _ x _ _ _ _ ih no => ih no x) t ih no) p

abbrev PutP (α β : Type) := α → (Tr α → β) → β → Tr α → β
noncomputable def putP {α β : Type} (p : Pa) : PutP α β :=
  Pa.rec (motive := fun _ => PutP α β) (fun v k no t => Tr.rec (motive := fun _ => α → (Tr α → β) → β → β) (fun _ l v k _ => k (.row v l)) (fun _ _ _ _ _ _ _ _ _ _ no => no) t v k no)
    (fun _ ih v k no t => Tr.rec (motive := fun _ => PutP α β → α → (Tr α → β) → β → β) (fun _ _ _ _ _ no => no) (fun x a b c _ _ _ _ ih v k no => ih v (fun x => k (.fork x a b c)) no x) t ih v k no)
    (fun _ ih v k no t => Tr.rec (motive := fun _ => PutP α β → α → (Tr α → β) → β → β) (fun _ _ _ _ _ no => no) (fun a x b c _ _ _ _ ih v k no => ih v (fun x => k (.fork a x b c)) no x) t ih v k no)
    (fun _ ih v k no t => Tr.rec (motive := fun _ => PutP α β → α → (Tr α → β) → β → β) (fun _ _ _ _ _ no => no) (fun a b x c _ _ _ _ ih v k no => ih v (fun x => k (.fork a b x c)) no x) t ih v k no)
    (fun _ ih v k no t => Tr.rec (motive := fun _ => PutP α β → α → (Tr α → β) → β → β) (fun _ _ _ _ _ no => no) (fun a b c x _ _ _ _ ih v k no => ih v (fun x => k (.fork a b c x)) no x) t ih v k no) p

/-- an operand, resolved -/
inductive KX where
  | t (p : Pa) (n : Nat)
  | far (n : Nat)
  | c (v : SV)

/-- so many slots, that many forks -/
def wide (k : Nat) : Nat := 4 ^ k
noncomputable def kxT (N n : Nat) : KX := match Nat.ble (n + 1) (wide (deep N)) with | true => .t (pathOf (deep N) n) n | false => .far n
noncomputable def kx (N : Nat) (x : Operand) : KX := Operand.rec (motive := fun _ => KX) (kxT N) (fun v => KX.c (constSV v)) (fun _ => KX.c .top) (fun g => KX.c (.one (.fn g []))) x
noncomputable def kxV (x : KX) : Slots → SV := KX.rec (motive := fun _ => Slots → SV) (fun p n s => getP p (Tr.get .top s n) s) (fun n s => Tr.get .top s n) (fun v _ => v) x

/-- where a value goes to -/
inductive KD where
  | no
  | at (p : Pa) (n : Nat)
  | far (n : Nat)
noncomputable def kd (N : Nat) (d : Option Nat) : KD := match d with
  | none => .no
  | some n => match Nat.ble (n + 1) (wide (deep N)) with | true => .at (pathOf (deep N) n) n | false => .far n

/-- an operation, its types resolved; 'other': as the plain evaluator does it -/
inductive KO where
  | mv (x : KX)
  | pick (c a b : KX)
  | new (z : List CV)
  | load (sz : Nat) (agg : Bool) (x : KX)
  | store (sz : Nat) (x y : KX)
  | bin (op : BinOp) (x y : KX)
  | not (x : KX)
  | conv (k : IntKind) (x : KX)
  | faddr (off : Nat) (x : KX)
  | field (off size : Nat) (agg : Bool) (x : KX)
  | iaddr (sz : Nat) (x i : KX)
  | aaddr (len sz : Nat) (x i : KX)
  | extr (x : KX) (i : Nat)
  | call (g : Nat) (args : List KX)
  | len (str : Bool) (x : KX)
  | other

/-- is it asked for? -/
inductive KG where
  | yes
  | on (t : KX) (want : Bool)
  | bad

/-- an operation, resolved; a mere move stands apart -/
inductive FO where
  | mv (x : KX) (dst : KD)
  | raw (op : KO) (dst : KD) (o : Oper)
  | op (op : KO) (dst : KD) (gd : KG) (o : Oper)

/-! numbers -/
noncomputable def kidx (k : IntKind) : Nat := IntKind.rec (motive := fun _ => Nat) 0 1 2 3 4 5 6 7 k
noncomputable def kbeq (a b : IntKind) : Bool := Nat.beq (kidx a) (kidx b)
noncomputable def ileF (x y : Int) : Bool := Int.rec (motive := fun _ => Int → Bool) (fun a y => Int.rec (motive := fun _ => Nat → Bool) (fun b a => Nat.ble a b) (fun _ _ => false) y a) (fun a y => Int.rec (motive := fun _ => Nat → Bool) (fun _ _ => true) (fun b a => Nat.ble b a) y a) x y
noncomputable def iltF (x y : Int) : Bool := Int.rec (motive := fun _ => Int → Bool) (fun a y => Int.rec (motive := fun _ => Nat → Bool) (fun b a => Nat.ble (Nat.succ a) b) (fun _ _ => false) y a) (fun a y => Int.rec (motive := fun _ => Nat → Bool) (fun _ _ => true) (fun b a => Nat.ble (Nat.succ b) a) y a) x y
noncomputable def ieqF (x y : Int) : Bool := Int.rec (motive := fun _ => Int → Bool) (fun a y => Int.rec (motive := fun _ => Nat → Bool) (fun b a => Nat.beq a b) (fun _ _ => false) y a) (fun a y => Int.rec (motive := fun _ => Nat → Bool) (fun _ _ => false) (fun b a => Nat.beq a b) y a) x y
noncomputable def addF (x y : Int) : Int := Int.rec (motive := fun _ => Int → Int) (fun a y => Int.rec (motive := fun _ => Nat → Int) (fun b a => .ofNat (Nat.add a b)) (fun b a => Int.add (.ofNat a) (.negSucc b)) y a) (fun a y => Int.add (.negSucc a) y) x y
noncomputable def subF (x y : Int) : Int := Int.rec (motive := fun _ => Int → Int) (fun a y => Int.rec (motive := fun _ => Nat → Int) (fun b a => Bool.rec (motive := fun _ => Nat → Nat → Int) (fun a b => Int.sub (.ofNat a) (.ofNat b)) (fun a b => .ofNat (Nat.sub a b)) (Nat.ble b a) a b) (fun b a => Int.sub (.ofNat a) (.negSucc b)) y a) (fun a y => Int.sub (.negSucc a) y) x y
/-- by kind: the greatest one, and whether there are some below zero -/
noncomputable def kmax (k : IntKind) : Nat := IntKind.rec (motive := fun _ => Nat) 127 32767 2147483647 9223372036854775807 255 65535 4294967295 18446744073709551615 k
noncomputable def ksig (k : IntKind) : Bool := IntKind.rec (motive := fun _ => Bool) true true true true false false false false k
noncomputable def natOp (f : Nat → Nat → Nat) (g : IntKind → Int → Int → Int) (k : IntKind) (x y : Int) : Int :=
  Int.rec (motive := fun _ => IntKind → Int → Int → Int) (fun a k x y => Int.rec (motive := fun _ => Nat → IntKind → Int → Int → Int) (fun b a k x y => Bool.rec (motive := fun _ => IntKind → Int → Int → Int) g (fun _ _ _ => .ofNat (f a b)) (and (Nat.ble a (kmax k)) (Nat.ble b (kmax k))) k x y) (fun _ _ k x y => g k x y) y a k x y) (fun _ k x y => g k x y) x k x y
noncomputable def bnot (b : Bool) : Bool := Bool.rec (motive := fun _ => Bool) true false b
noncomputable def wrapF (k : IntKind) (n : Int) : Int :=
  Int.rec (motive := fun _ => IntKind → Int → Int)
    (fun m k n => Bool.rec (motive := fun _ => IntKind → Int → Int) (fun k n => k.wrap n) (fun _ n => n) (Nat.ble m (kmax k)) k n)
    (fun m k n => Bool.rec (motive := fun _ => Nat → IntKind → Int → Int) (fun _ k n => k.wrap n) (fun m k n => Bool.rec (motive := fun _ => IntKind → Int → Int) (fun k n => k.wrap n) (fun _ n => n) (Nat.ble m (kmax k)) k n) (ksig k) m k n) n k n

/-- a number, reckoned at once -/
noncomputable def natK {β : Type} (n : Nat) (k : Nat → β) : β := Nat.rec (motive := fun _ => (Nat → β) → β) (fun k => k 0) (fun m _ k => k (Nat.succ m)) n k
noncomputable def intK {β : Type} (n : Int) (k : Int → β) : β := Int.rec (motive := fun _ => (Int → β) → β) (fun m k => natK m fun m => k (.ofNat m)) (fun m k => natK m fun m => k (.negSucc m)) n k
noncomputable def boolK {β : Type} (b : Bool) (k : Bool → β) : β := Bool.rec (motive := fun _ => (Bool → β) → β) (fun k => k false) (fun k => k true) b k
noncomputable def kindK {β : Type} (a : IntKind) (k : IntKind → β) : β := IntKind.rec (motive := fun _ => (IntKind → β) → β) (fun k => k .i8) (fun k => k .i16) (fun k => k .i32) (fun k => k .i64) (fun k => k .u8) (fun k => k .u16) (fun k => k .u32) (fun k => k .u64) a k

/-- a value, reckoned at once as far as it is numbers and truths -/
noncomputable def forceF {β : Type} (v : SV) (k : SV → β) : β :=
  SC.rec (motive := fun _ => SV → (SV → β) → β)
    (fun kd n _ k => kindK kd fun kd => intK n fun n => k (.v (.one (.f (.lit (.int kd n))))))
    (fun b _ k => boolK b fun b => k (.v (.one (.f (.lit (.bool b))))))
    (fun s _ k => k (.v (.one (.f (.lit (.string s))))))
    (fun b m i j _ k => natK b fun b => natK j fun j => k (.v (.one (.ptr b m i j))))
    (fun nil b m i j len cap ex sz _ k => natK b fun b => natK j fun j => natK len fun len => natK cap fun cap => k (.v (.one (.sl nil b m i j len cap ex sz))))
    (fun l _ k => k (.v (.agg l))) (fun l _ k => k (.tup l)) (fun v k => k v) (sc v) v k

abbrev Run1 := Ctx → CallF → Bool → Slots → Heap → Nat → St → Oper → T Out
/-- a table, its top reckoned at once -/
noncomputable def topK {α β : Type} (t : Tr α) (k : Tr α → β) : β := Tr.rec (motive := fun _ => (Tr α → β) → β) (fun x l k => k (.row x l)) (fun a b c d _ _ _ _ k => k (.fork a b c d)) t k
noncomputable def slowOut (u : Out) : T Out := Out.rec (motive := fun _ => T Out) (fun v H nx e fp w => topK H fun H => natK nx fun nx => .ret ⟨v, H, nx, e, fp, w⟩) u
noncomputable def slow : Run1 := fun G call d _ _ _ st o => T.rec (motive := fun _ => T Out) slowOut .bad (evOp G call d st o)

noncomputable def tk {α β : Type} (t : T α) (k : α → T β) : T β := T.rec (motive := fun _ => (α → T β) → T β) (fun a k => k a) (fun _ => .bad) t k
noncomputable def bk {β : Type} (b : Bool) (t e : β) : β := Bool.rec (motive := fun _ => β → β → β) (fun _ e => e) (fun t _ => t) b t e

/-! what a block holds -/
noncomputable def dropF {α : Type} (l : List α) : Nat → List α := List.rec (motive := fun _ => Nat → List α) (fun _ => []) (fun x r ih n => Nat.rec (motive := fun _ => α → List α → (Nat → List α) → List α) (fun x r _ => x :: r) (fun m _ _ _ ih => ih m) n x r ih) l
/-- the first n, all of them there, or none -/
noncomputable def takeF {α β : Type} (l : List α) : Nat → (List α → β) → β → β :=
  List.rec (motive := fun _ => Nat → (List α → β) → β → β) (fun n k no => Nat.rec (motive := fun _ => (List α → β) → β → β) (fun k _ => k []) (fun _ _ _ no => no) n k no)
    (fun x r ih n k no => Nat.rec (motive := fun _ => α → (Nat → (List α → β) → β → β) → (List α → β) → β → β) (fun _ _ k _ => k []) (fun m _ x ih k no => ih m (fun r => k (x :: r)) no) n x ih k no) l
/-- these laid over those from the j-th on, all of them in it, or none -/
noncomputable def overF {α β : Type} (l : List α) : Nat → List α → (List α → β) → β → β :=
  List.rec (motive := fun _ => Nat → List α → (List α → β) → β → β)
    (fun j vs k no => Nat.rec (motive := fun _ => List α → (List α → β) → β → β) (fun vs k no => List.rec (motive := fun _ => (List α → β) → β → β) (fun k _ => k []) (fun _ _ _ _ no => no) vs k no) (fun _ _ _ _ no => no) j vs k no)
    (fun x r ih j vs k no => Nat.rec (motive := fun _ => α → List α → (Nat → List α → (List α → β) → β → β) → List α → (List α → β) → β → β)
      (fun x r ih vs k no => List.rec (motive := fun _ => α → List α → (Nat → List α → (List α → β) → β → β) → (List α → β) → β → β) (fun x r _ k _ => k (x :: r)) (fun v vs _ _ _ ih k no => ih 0 vs (fun r => k (v :: r)) no) vs x r ih k no)
      (fun j _ x _ ih vs k no => ih j vs (fun r => k (x :: r)) no) j x r ih vs k no) l

noncomputable def obK {β : Type} (o : Ob) (k : List CV → β) (no : β) : β := Ob.rec (motive := fun _ => (List CV → β) → β → β) (fun l k _ => k l) (fun _ _ _ _ _ no => no) (fun _ _ no => no) (fun _ no => no) o k no
noncomputable def ofF {β : Type} (agg : Bool) (l : List CV) (k : AV → β) (no : β) : β :=
  Bool.rec (motive := fun _ => List CV → (AV → β) → β → β) (fun l k no => List.rec (motive := fun _ => (AV → β) → β → β) (fun _ no => no) (fun x r _ k no => List.rec (motive := fun _ => CV → (AV → β) → β → β) (fun x k _ => k (.one x)) (fun _ _ _ _ _ no => no) r x k no) l k no) (fun l k _ => k (.agg l)) agg l k no

/-! operations -/
noncomputable def aMv (x : KX) : Run1 := fun _ _ _ sl H nx _ _ => .ret ⟨kxV x sl, H, nx, false, [], []⟩
noncomputable def aPick (c a b : KX) : Run1 := fun G call d sl H nx st o =>
  SC.rec (motive := fun _ => KX → KX → Run1) (fun _ _ _ _ => slow) (fun t a b _ _ _ sl H nx _ _ => .ret ⟨kxV (bk t a b) sl, H, nx, false, [], []⟩) (fun _ _ _ => slow) (fun _ _ _ _ _ _ => slow) (fun _ _ _ _ _ _ _ _ _ _ _ => slow) (fun _ _ _ => slow) (fun _ _ _ => slow) (fun _ _ => slow) (sc (kxV c sl)) a b G call d sl H nx st o
noncomputable def aNew (z : List CV) : Run1 := fun _ _ _ sl H nx _ _ => Tr.putK H nx (.cells z) fun H => .ret ⟨.v (.one (.ptr nx 0 0 0)), H, Nat.succ nx, false, [], [nx]⟩

noncomputable def loadB (b m a j sz : Nat) (agg : Bool) : Run1 := fun G call d sl H nx st o =>
  bk (Nat.beq m 0) (bk (Nat.beq a 0) (obK (Tr.get .dead H b) (fun l => takeF (dropF l j) sz (fun r => ofF agg r (fun v => .ret ⟨.v v, H, nx, false, [b], []⟩) .bad) .bad) (slow G call d sl H nx st o)) (slow G call d sl H nx st o)) (slow G call d sl H nx st o)
noncomputable def aLoad (sz : Nat) (agg : Bool) (x : KX) : Run1 := fun G call d sl H nx st o =>
  SC.rec (motive := fun _ => Nat → Bool → Run1) (fun _ _ _ _ => slow) (fun _ _ _ => slow) (fun _ _ _ => slow) loadB (fun _ _ _ _ _ _ _ _ _ _ _ => slow) (fun _ _ _ => slow) (fun _ _ _ => slow) (fun _ _ => slow) (sc (kxV x sl)) sz agg G call d sl H nx st o

noncomputable def lenIs {α : Type} (l : List α) : Nat → Bool := List.rec (motive := fun _ => Nat → Bool) (fun n => Nat.beq n 0) (fun _ _ ih n => Nat.rec (motive := fun _ => (Nat → Bool) → Bool) (fun _ => false) (fun m _ ih => ih m) n ih) l

noncomputable def storeB (b m a j sz : Nat) (y : KX) : Run1 := fun G call d sl H nx st o =>
  SV.rec (motive := fun _ => T Out) (fun v => bk (lenIs v.cells sz) (bk (Nat.beq m 0) (bk (Nat.beq a 0) (obK (Tr.get .dead H b) (fun l => overF l j v.cells (fun r => Tr.putK H b (.cells r) fun H => .ret ⟨.top, H, nx, false || v.cells.any (CV.beyond (b + 1)), [b], [b]⟩) .bad) (slow G call d sl H nx st o)) (slow G call d sl H nx st o)) (slow G call d sl H nx st o)) .bad) (fun _ => .bad) .bad (kxV y sl)
noncomputable def aStore (sz : Nat) (x y : KX) : Run1 := fun G call d sl H nx st o =>
  SC.rec (motive := fun _ => Nat → KX → Run1) (fun _ _ _ _ => slow) (fun _ _ _ => slow) (fun _ _ _ => slow) storeB (fun _ _ _ _ _ _ _ _ _ _ _ => slow) (fun _ _ _ => slow) (fun _ _ _ => slow) (fun _ _ => slow) (sc (kxV x sl)) sz y G call d sl H nx st o

abbrev Bin1 := IntKind → Int → Int → Run1
noncomputable def bInt (f : Int → Int → Int) : Bin1 := fun k x y _ _ _ sl H nx _ _ => .ret ⟨.v (.one (.f (.lit (.int k (wrapF k (f x y)))))), H, nx, false, [], []⟩
noncomputable def bBool (f : Int → Int → Bool) : Bin1 := fun _ x y _ _ _ sl H nx _ _ => .ret ⟨.v (.one (.f (.lit (.bool (f x y))))), H, nx, false, [], []⟩
noncomputable def bKind (f : IntKind → Int → Int → Int) : Bin1 := fun k x y _ _ _ sl H nx _ _ => .ret ⟨.v (.one (.f (.lit (.int k (f k x y))))), H, nx, false, [], []⟩
noncomputable def binF (op : BinOp) : Bin1 :=
  BinOp.rec (motive := fun _ => Bin1) (bInt addF) (bInt subF) (bInt fun x y => x * y) (fun _ _ _ => slow) (fun _ _ _ => slow) (bKind (natOp Nat.land fun k x y => k.wrap (BitVec.ofInt k.bits x &&& BitVec.ofInt k.bits y).toNat)) (bKind (natOp Nat.lor fun k x y => k.wrap (BitVec.ofInt k.bits x ||| BitVec.ofInt k.bits y).toNat)) (bKind (natOp Nat.xor fun k x y => k.wrap (BitVec.ofInt k.bits x ^^^ BitVec.ofInt k.bits y).toNat)) (fun _ _ _ => slow) (fun _ _ _ => slow) (fun _ _ _ => slow)
    (bBool ieqF) (bBool fun x y => bnot (ieqF x y)) (bBool iltF) (bBool ileF) (bBool fun x y => iltF y x) (bBool fun x y => ileF y x) op
noncomputable def bin2 (op : BinOp) (k : IntKind) (x : Int) (k' : IntKind) (y : Int) : Run1 := bk (kbeq k k') (binF op k x y) slow
noncomputable def bin1 (op : BinOp) (y : KX) (k : IntKind) (x : Int) : Run1 := fun G call d sl H nx st o =>
  SC.rec (motive := fun _ => BinOp → IntKind → Int → Run1) (fun k' y op k x => bin2 op k x k' y) (fun _ _ _ _ => slow) (fun _ _ _ _ => slow) (fun _ _ _ _ _ _ _ => slow) (fun _ _ _ _ _ _ _ _ _ _ _ _ => slow) (fun _ _ _ _ => slow) (fun _ _ _ _ => slow) (fun _ _ _ => slow) (sc (kxV y sl)) op k x G call d sl H nx st o
noncomputable def aBin (op : BinOp) (x y : KX) : Run1 := fun G call d sl H nx st o =>
  SC.rec (motive := fun _ => BinOp → KX → Run1) (fun k x op y => bin1 op y k x) (fun _ _ _ => slow) (fun _ _ _ => slow) (fun _ _ _ _ _ _ => slow) (fun _ _ _ _ _ _ _ _ _ _ _ => slow) (fun _ _ _ => slow) (fun _ _ _ => slow) (fun _ _ => slow) (sc (kxV x sl)) op y G call d sl H nx st o
noncomputable def aNot (x : KX) : Run1 := fun G call d sl H nx st o =>
  SC.rec (motive := fun _ => Run1) (fun _ _ => slow) (fun b _ _ _ sl H nx _ _ => .ret ⟨.v (.one (.f (.lit (.bool (bnot b))))), H, nx, false, [], []⟩) (fun _ => slow) (fun _ _ _ _ => slow) (fun _ _ _ _ _ _ _ _ _ => slow) (fun _ => slow) (fun _ => slow) slow (sc (kxV x sl)) G call d sl H nx st o
noncomputable def aConv (k : IntKind) (x : KX) : Run1 := fun G call d sl H nx st o =>
  SC.rec (motive := fun _ => IntKind → Run1) (fun _ n k _ _ _ sl H nx _ _ => .ret ⟨.v (.one (.f (.lit (.int k (wrapF k n))))), H, nx, false, [], []⟩) (fun _ _ => slow) (fun _ _ => slow) (fun _ _ _ _ _ => slow) (fun _ _ _ _ _ _ _ _ _ _ => slow) (fun _ _ => slow) (fun _ _ => slow) (fun _ => slow) (sc (kxV x sl)) k G call d sl H nx st o
noncomputable def aFaddr (off : Nat) (x : KX) : Run1 := fun G call d sl H nx st o =>
  SC.rec (motive := fun _ => Nat → Run1) (fun _ _ _ => slow) (fun _ _ => slow) (fun _ _ => slow) (fun b m i j off _ _ _ sl H nx _ _ => .ret ⟨.v (.one (.ptr b m i (Nat.add j off))), H, nx, false, [], []⟩) (fun _ _ _ _ _ _ _ _ _ _ => slow) (fun _ _ => slow) (fun _ _ => slow) (fun _ => slow) (sc (kxV x sl)) off G call d sl H nx st o
noncomputable def fieldA (l : List CV) (off size : Nat) (agg : Bool) : Run1 := fun _ _ _ sl H nx _ _ =>
  takeF (dropF l off) size (fun r => ofF agg r (fun v => .ret ⟨.v v, H, nx, false, [], []⟩) .bad) .bad
noncomputable def aField (off size : Nat) (agg : Bool) (x : KX) : Run1 := fun G call d sl H nx st o =>
  SC.rec (motive := fun _ => Nat → Nat → Bool → Run1) (fun _ _ _ _ _ => slow) (fun _ _ _ _ => slow) (fun _ _ _ _ => slow) (fun _ _ _ _ _ _ _ => slow) (fun _ _ _ _ _ _ _ _ _ _ _ _ => slow) fieldA (fun _ _ _ _ => slow) (fun _ _ _ => slow) (sc (kxV x sl)) off size agg G call d sl H nx st o

noncomputable def inF (i : Int) (n : Nat) (k : Nat → T Out) : T Out := Int.rec (motive := fun _ => T Out) (fun m => bk (Nat.ble (Nat.succ m) n) (k m) .bad) (fun _ => .bad) i
noncomputable def isI (x : SC) (k : Int → T Out) (no : T Out) : T Out := SC.rec (motive := fun _ => (Int → T Out) → T Out → T Out) (fun _ n k _ => k n) (fun _ _ no => no) (fun _ _ no => no) (fun _ _ _ _ _ no => no) (fun _ _ _ _ _ _ _ _ _ _ no => no) (fun _ _ no => no) (fun _ _ no => no) (fun _ no => no) x k no
noncomputable def iaddrS (nil : Bool) (b m i j len cap : Nat) (ex : Bool) (sz' : Nat) (sz : Nat) (y : KX) : Run1 := fun G call d sl H nx st o =>
  bk (Nat.beq sz sz') (bk (Nat.beq m 0) (bk nil (slow G call d sl H nx st o) (isI (sc (kxV y sl)) (fun n => inF n len fun c => .ret ⟨.v (.one (.ptr b 0 i (Nat.add j (Nat.mul c sz)))), H, nx, false, [], []⟩) (slow G call d sl H nx st o))) (slow G call d sl H nx st o)) (slow G call d sl H nx st o)
noncomputable def aIaddr (sz : Nat) (x i : KX) : Run1 := fun G call d sl H nx st o =>
  SC.rec (motive := fun _ => Nat → KX → Run1) (fun _ _ _ _ => slow) (fun _ _ _ => slow) (fun _ _ _ => slow) (fun _ _ _ _ _ _ => slow) iaddrS (fun _ _ _ => slow) (fun _ _ _ => slow) (fun _ _ => slow) (sc (kxV x sl)) sz i G call d sl H nx st o
noncomputable def aaddrP (b m a j len sz : Nat) (y : KX) : Run1 := fun G call d sl H nx st o =>
  isI (sc (kxV y sl)) (fun n => inF n len fun c => .ret ⟨.v (.one (.ptr b m a (Nat.add j (Nat.mul c sz)))), H, nx, false, [], []⟩) (slow G call d sl H nx st o)
noncomputable def aAaddr (len sz : Nat) (x i : KX) : Run1 := fun G call d sl H nx st o =>
  SC.rec (motive := fun _ => Nat → Nat → KX → Run1) (fun _ _ _ _ _ => slow) (fun _ _ _ _ => slow) (fun _ _ _ _ => slow) aaddrP (fun _ _ _ _ _ _ _ _ _ _ _ _ => slow) (fun _ _ _ _ => slow) (fun _ _ _ _ => slow) (fun _ _ _ => slow) (sc (kxV x sl)) len sz i G call d sl H nx st o

noncomputable def nthF {α β : Type} (l : List α) : Nat → (α → β) → β → β := List.rec (motive := fun _ => Nat → (α → β) → β → β) (fun _ _ no => no) (fun x r ih n k no => Nat.rec (motive := fun _ => α → (Nat → (α → β) → β → β) → (α → β) → β → β) (fun x _ k _ => k x) (fun m _ _ ih k no => ih m k no) n x ih k no) l
noncomputable def aExtr (x : KX) (i : Nat) : Run1 := fun G call d sl H nx st o =>
  SC.rec (motive := fun _ => Nat → Run1) (fun _ _ _ => slow) (fun _ _ => slow) (fun _ _ => slow) (fun _ _ _ _ _ => slow) (fun _ _ _ _ _ _ _ _ _ _ => slow) (fun _ _ => slow) (fun l i _ _ _ sl H nx _ _ => nthF l i (fun v => .ret ⟨.v v, H, nx, false, [], []⟩) .bad) (fun _ => slow) (sc (kxV x sl)) i G call d sl H nx st o

noncomputable def avF (l : List KX) : Slots → (List AV → T Out) → T Out := List.rec (motive := fun _ => Slots → (List AV → T Out) → T Out) (fun _ k => k []) (fun x r ih s k => SV.rec (motive := fun _ => T Out) (fun a => ih s fun r => k (a :: r)) (fun _ => .bad) .bad (kxV x s)) l
noncomputable def aCall (g : Nat) (args : List KX) : Run1 := fun G call d sl H nx st o =>
  avF args sl fun args => Bool.rec (motive := fun _ => T Out)
    (tk (call g args H nx) fun o => CallOut.rec (motive := fun _ => T Out) (fun v H' nx' esc wr => .ret ⟨v, H', nx', false || esc, List.range nx, wr ++ (List.range (nx' - nx)).map (nx + ·)⟩) o)
    (evCallOp call true st g args) d
noncomputable def aLen (str : Bool) (x : KX) : Run1 := fun G call d sl H nx st o =>
  SC.rec (motive := fun _ => Bool → Run1) (fun _ _ _ => slow) (fun _ _ => slow) (fun s str => bk str (fun _ _ _ _ H nx _ _ => .ret ⟨.v (.one (.int .i64 s.size)), H, nx, false, [], []⟩) slow) (fun _ _ _ _ _ => slow) (fun _ _ _ _ _ len _ _ _ str => bk str slow (fun _ _ _ _ H nx _ _ => .ret ⟨.v (.one (.int .i64 len)), H, nx, false, [], []⟩)) (fun _ _ => slow) (fun _ _ => slow) (fun _ => slow) (sc (kxV x sl)) str G call d sl H nx st o

noncomputable def koRun (x : KO) : Run1 := KO.rec (motive := fun _ => Run1) aMv aPick aNew aLoad aStore aBin aNot aConv aFaddr aField aIaddr aAaddr aExtr aCall aLen slow x

/-! code, resolved -/
noncomputable def kop (G : Ctx) (N : Nat) (o : Oper) : KO :=
  match o.op with
  | .move x | .assign x => .mv (kx N x)
  | .pick c a b => .pick (kx N c) (kx N a) (kx N b)
  | .alloc t => match G.ti t with | some i => .new (zeros i) | none => .other
  | .load t x => match G.ti t with | some i => .load i.size i.agg (kx N x) | none => .other
  | .store t x y => match G.ti t with | some i => .store i.size (kx N x) (kx N y) | none => .other
  | .binOp .shl _ _ _ _ | .binOp .shr _ _ _ _ => .other
  | .binOp op _ x y _ => .bin op (kx N x) (kx N y)
  | .unOp .not _ x => .not (kx N x)
  | .convert a b x => match G.ti a, G.ti b with
    | some ⟨_, _, _, .int _, _, _⟩, some ⟨_, _, _, .int k, _, _⟩ => .conv k (kx N x)
    | _, _ => .other
  | .fieldAddr t x fld => match G.ti t with
    | some ⟨_, _, _, .struct fs, _, _⟩ => match fs[fld]? with
      | some (off, size, _, _) => match Nat.beq size 0 with | false => .faddr off (kx N x) | true => .other
      | none => .other
    | _ => .other
  | .field t x fld => match G.ti t with
    | some ⟨_, _, _, .struct fs, _, _⟩ => match fs[fld]? with
      | some (off, size, _, agg) => .field off size agg (kx N x)
      | none => .other
    | _ => .other
  | .indexAddr t x i => match G.ti t, G.sym with
    | some ⟨_, _, _, .slice e, _, _⟩, false => match G.ti e with
      | some ei => .iaddr ei.size (kx N x) (kx N i)
      | none => .other
    | some ⟨_, _, _, .array n e, _, _⟩, false => match G.ti e with
      | some ei => .aaddr n ei.size (kx N x) (kx N i)
      | none => .other
    | _, _ => .other
  | .extract x i => .extr (kx N x) i
  | .call c => match c.callee with
    | .value (.func g) => match G.fi g with
      | some _ => .call g (c.args.toList.map (kx N))
      | none => .other
    | .builtin .len => match c.argTypes.toList, c.args.toList with
      | t :: _, [x] => match G.ti t with
        | some ⟨_, _, _, .str, _, _⟩ => .len true (kx N x)
        | some ⟨_, _, _, .slice _, _, _⟩ => .len false (kx N x)
        | _ => .other
      | _, _ => .other
    | _ => .other
  | _ => .other

noncomputable def kgd (N : Nat) (all : List Oper) (o : Oper) : KG :=
  match (match o.dst with | some d => Nat.ble (d + 1) N | none => true) with
  | false => .bad
  | true => match o.guard with
    | none => .yes
    | some (j, want) => match (all[j]?).bind (·.dst) with
      | none => .bad
      | some t => .on (kxT N t) want
noncomputable def kfo (G : Ctx) (N : Nat) (all : List Oper) (o : Oper) : FO := match kop G N o, kgd N all o with
  | .mv x, .yes => .mv x (kd N o.dst)
  | .load sz agg x, .yes => .raw (.load sz agg x) (kd N o.dst) o
  | .field a b c x, .yes => .raw (.field a b c x) (kd N o.dst) o
  | .extr x i, .yes => .raw (.extr x i) (kd N o.dst) o
  | p, g => .op p (kd N o.dst) g o
noncomputable def kfos (G : Ctx) (N : Nat) (all : List Oper) : List Oper → List FO
  | [] => []
  | o :: r => kfo G N all o :: kfos G N all r

inductive KC where
  | skip
  | seq (a b : KC)
  | cond (x : KX) (a b : KC)
  | block (id : Nat) (c : KC)
  | loop (c : KC)
  | region (l : List FO)
  | draw (l : List FO) (r : RI)
  | exit (id : Nat)
  | ret
  | bad

noncomputable def kc (G : Ctx) (F N : Nat) : Code → KC
  | .skip | .label _ => .skip
  | .seq a b => .seq (kc G F N a) (kc G F N b)
  | .cond x a b => .cond (kx N x) (kc G F N a) (kc G F N b)
  | .block id c => .block id (kc G F N c)
  | .loop c => .loop (kc G F N c)
  | .region _ ops false => .region (kfos G N ops.toList ops.toList)
  | .region id ops true => match G.dr F id with
    | none => .bad
    | some r => .draw (kfos G N ops.toList ops.toList) r
  | .exit id => .exit id
  | .ret => .ret
  | _ => .bad

/-! running it -/
noncomputable def putF {β : Type} (d : KD) : Slots → SV → (Slots → β) → β :=
  KD.rec (motive := fun _ => Slots → SV → (Slots → β) → β) (fun s _ k => k s) (fun p n s v k => putP p v k (Tr.putK s n v k) s) (fun n s v k => Tr.putK s n v k) d

noncomputable def opsOut (dst : KD) (ih : St → T St) (sl : Slots) (esc : Bool) (base : Nat) (wr : List Nat) (u : Out) : T St :=
  Out.rec (motive := fun _ => T St) (fun v H nx e _ w => forceF v fun v => putF dst sl v fun sl => ih ⟨sl, H, nx, esc || e, base, addWr base w wr⟩) u
noncomputable def opsRun (G : Ctx) (call : CallF) (op : KO) (dst : KD) (o : Oper) (ih : St → T St) (st : St) : T St :=
  St.rec (motive := fun _ => T St) (fun sl H nx esc base wr => T.rec (motive := fun _ => T St) (opsOut dst ih sl esc base wr) .bad (koRun op G call false sl H nx ⟨sl, H, nx, esc, base, wr⟩ o)) st
noncomputable def opsSkip (dst : KD) (ih : St → T St) (st : St) : T St :=
  St.rec (motive := fun _ => T St) (fun sl H nx esc base wr => putF dst sl (.tup []) fun sl => ih ⟨sl, H, nx, esc, base, wr⟩) st
noncomputable def guardF {β : Type} (x : SV) (want : Bool) (run skip no : β) : β :=
  SC.rec (motive := fun _ => Bool → β → β → β → β) (fun _ _ _ _ _ no => no) (fun b want run skip _ => Bool.rec (motive := fun _ => Bool → β → β → β) (fun want run skip => Bool.rec (motive := fun _ => β → β → β) (fun run _ => run) (fun _ skip => skip) want run skip) (fun want run skip => Bool.rec (motive := fun _ => β → β → β) (fun _ skip => skip) (fun run _ => run) want run skip) b want run skip)
    (fun _ _ _ _ no => no) (fun _ _ _ _ _ _ _ no => no) (fun _ _ _ _ _ _ _ _ _ _ _ _ no => no) (fun _ _ _ _ no => no) (fun l _ _ skip no => List.rec (motive := fun _ => β → β → β) (fun skip _ => skip) (fun _ _ _ _ no => no) l skip no) (fun _ _ _ no => no) (sc x) want run skip no
noncomputable def opsOutN (dst : KD) (ih : St → T St) (sl : Slots) (esc : Bool) (base : Nat) (wr : List Nat) (u : Out) : T St :=
  Out.rec (motive := fun _ => T St) (fun v H nx e _ w => putF dst sl v fun sl => ih ⟨sl, H, nx, esc || e, base, addWr base w wr⟩) u
noncomputable def opsRaw (G : Ctx) (call : CallF) (op : KO) (dst : KD) (o : Oper) (ih : St → T St) (st : St) : T St :=
  St.rec (motive := fun _ => T St) (fun sl H nx esc base wr => T.rec (motive := fun _ => T St) (opsOutN dst ih sl esc base wr) .bad (koRun op G call false sl H nx ⟨sl, H, nx, esc, base, wr⟩ o)) st
noncomputable def opsMv (x : KX) (dst : KD) (ih : St → T St) (st : St) : T St :=
  St.rec (motive := fun _ => T St) (fun sl H nx esc base wr => putF dst sl (kxV x sl) fun sl => ih ⟨sl, H, nx, esc, base, wr⟩) st
noncomputable def opsStep (G : Ctx) (call : CallF) (f : FO) (ih : St → T St) (st : St) : T St :=
  FO.rec (motive := fun _ => T St) (fun x dst => opsMv x dst ih st) (fun op dst o => opsRaw G call op dst o ih st) (fun op dst gd o => KG.rec (motive := fun _ => T St) (opsRun G call op dst o ih st) (fun t want => guardF (kxV t st.sl) want (opsRun G call op dst o ih st) (opsSkip dst ih st) .bad) .bad gd) f
noncomputable def opsF (G : Ctx) (call : CallF) (l : List FO) : St → T St :=
  List.rec (motive := fun _ => St → T St) (fun st => .ret st) (fun f _ ih => opsStep G call f ih) l

abbrev DR := List Bool → St → List Eff → T (St × List Eff)
noncomputable def hdF (l : List Bool) : Bool := List.rec (motive := fun _ => Bool) false (fun b _ _ => b) l
noncomputable def tlF (l : List Bool) : List Bool := List.rec (motive := fun _ => List Bool) [] (fun _ r _ => r) l
noncomputable def drwOut (dst : KD) (ih : DR) (fl : List Bool) (es : List Eff) (sl : Slots) (nx0 : Nat) (esc : Bool) (base : Nat) (wr : List Nat) (u : Out) : T (St × List Eff) :=
  Out.rec (motive := fun _ => T (St × List Eff)) (fun v H nx e fp w => forceF v fun v' => putF dst sl v' fun sl => ih (tlF fl) ⟨sl, H, nx, esc || e, base, addWr base w wr⟩ (effOf nx0 ⟨v, H, nx, e, fp, w⟩ :: es)) u
noncomputable def drwRun (G : Ctx) (call : CallF) (op : KO) (dst : KD) (o : Oper) (ih : DR) (fl : List Bool) (st : St) (es : List Eff) : T (St × List Eff) :=
  St.rec (motive := fun _ => T (St × List Eff)) (fun sl H nx esc base wr => T.rec (motive := fun _ => T (St × List Eff)) (drwOut dst ih fl es sl nx esc base wr) .bad (koRun op G call (hdF fl) sl H nx ⟨sl, H, nx, false, base, []⟩ o)) st
noncomputable def drwSkip (dst : KD) (ih : DR) (fl : List Bool) (st : St) (es : List Eff) : T (St × List Eff) :=
  St.rec (motive := fun _ => T (St × List Eff)) (fun sl H nx esc base wr => putF dst sl (.tup []) fun sl => ih (tlF fl) ⟨sl, H, nx, esc, base, wr⟩ (⟨[], [], nx, nx, []⟩ :: es)) st
noncomputable def drwMv (x : KX) (dst : KD) (ih : DR) (fl : List Bool) (st : St) (es : List Eff) : T (St × List Eff) :=
  St.rec (motive := fun _ => T (St × List Eff)) (fun sl H nx esc base wr => putF dst sl (kxV x sl) fun sl' => ih (tlF fl) ⟨sl', H, nx, esc, base, wr⟩ (effOf nx ⟨kxV x sl, H, nx, false, [], []⟩ :: es)) st
noncomputable def drwStep (G : Ctx) (call : CallF) (f : FO) (ih : DR) : DR := fun fl st es =>
  FO.rec (motive := fun _ => T (St × List Eff)) (fun x dst => drwMv x dst ih fl st es) (fun op dst o => drwRun G call op dst o ih fl st es) (fun op dst gd o => KG.rec (motive := fun _ => T (St × List Eff)) (drwRun G call op dst o ih fl st es) (fun t want => guardF (kxV t st.sl) want (drwRun G call op dst o ih fl st es) (drwSkip dst ih fl st es) .bad) .bad gd) f
noncomputable def drwF (G : Ctx) (call : CallF) (l : List FO) : DR :=
  List.rec (motive := fun _ => DR) (fun _ st es => .ret (st, es)) (fun f _ ih => drwStep G call f ih) l

abbrev RunC := KC → St → T (Ex × St)
noncomputable def exK {β : Type} (e : Ex) (n : β) (x : Nat → β) (r : β) : β := Ex.rec (motive := fun _ => β → (Nat → β) → β → β) (fun n _ _ => n) (fun i _ x _ => x i) (fun _ _ r => r) e n x r
noncomputable def prK {α γ β : Type} (p : α × γ) (k : α → γ → β) : β := Prod.rec (motive := fun _ => (α → γ → β) → β) (fun a b k => k a b) p k
noncomputable def seqK (b : KC) (run : RunC) (p : Ex × St) : T (Ex × St) := Prod.rec (motive := fun _ => T (Ex × St)) (fun e st => Ex.rec (motive := fun _ => T (Ex × St)) (run b st) (fun i => .ret (.exit i, st)) (.ret (.ret, st)) e) p
noncomputable def cSeq (a b : KC) (run : RunC) (st : St) : T (Ex × St) := T.rec (motive := fun _ => T (Ex × St)) (seqK b run) .bad (run a st)
noncomputable def cCond (x : KX) (a b : KC) (run : RunC) (st : St) : T (Ex × St) :=
  SC.rec (motive := fun _ => T (Ex × St)) (fun _ _ => .bad) (fun t => bk t (run a st) (run b st)) (fun _ => .bad) (fun _ _ _ _ => .bad) (fun _ _ _ _ _ _ _ _ _ => .bad) (fun _ => .bad) (fun _ => .bad) .bad (sc (kxV x st.sl))
noncomputable def cBlock (id : Nat) (c : KC) (run : RunC) (st : St) : T (Ex × St) := tk (run c st) fun p => prK p fun e st => exK e (.ret (.normal, st)) (fun i => bk (Nat.beq i id) (.ret (.normal, st)) (.ret (.exit i, st))) (.ret (.ret, st))
noncomputable def cLoop (c : KC) (run : RunC) (st : St) : T (Ex × St) := tk (run c st) fun p => prK p fun e st => exK e (run (.loop c) st) (fun i => .ret (.exit i, st)) (.ret (.ret, st))
noncomputable def cRegion (G : Ctx) (call : CallF) (l : List FO) (st : St) : T (Ex × St) := T.rec (motive := fun _ => T (Ex × St)) (fun st => .ret (.normal, st)) .bad (opsF G call l st)
/-- as RI.ok -/
noncomputable def pairK (es : List Eff) (f : Eff → Eff → Bool) (p : Nat × Nat) : Bool := Prod.rec (motive := fun _ => Bool) (fun i j => nthF es i (fun a => nthF es j (fun b => f a b) false) false) p
noncomputable def allK {α : Type} (f : α → Bool) (l : List α) : Bool := List.rec (motive := fun _ => Bool) true (fun x _ ih => Bool.rec (motive := fun _ => Bool) false ih (f x)) l
noncomputable def okF (r : RI) (es : List Eff) : Bool :=
  RI.rec (motive := fun _ => Bool) (fun _ cl al => Bool.rec (motive := fun _ => Bool) false (allK (pairK es fun a b => b.rf.all fun x => !(Nat.ble a.n0 x && Nat.ble (x + 1) a.n1)) al) (allK (pairK es fun a b => !(clash a b)) cl)) r
noncomputable def cDraw (G : Ctx) (call : CallF) (l : List FO) (r : RI) (st : St) : T (Ex × St) := tk (drwF G call l r.fl st []) fun p => prK p fun st' es => bk (okF r es.reverse) (.ret (.normal, st')) .bad

noncomputable def kcStep (c : KC) : Ctx → CallF → RunC → St → T (Ex × St) :=
  KC.rec (motive := fun _ => Ctx → CallF → RunC → St → T (Ex × St)) (fun _ _ _ st => .ret (.normal, st)) (fun a b _ _ _ _ => cSeq a b) (fun x a b _ _ _ _ => cCond x a b) (fun id c _ _ _ => cBlock id c) (fun c _ _ _ => cLoop c)
    (fun l G call _ => cRegion G call l) (fun l r G call _ => cDraw G call l r) (fun id _ _ _ st => .ret (.exit id, st)) (fun _ _ _ st => .ret (.ret, st)) (fun _ _ _ _ => .bad) c

noncomputable def resF (G : Ctx) (st : St) (l : List ResultVar) : T (List AV) := resultsOf G st l

noncomputable def optK {α β : Type} (o : Option α) (k : α → β) (no : β) : β := Option.rec (motive := fun _ => (α → β) → β → β) (fun _ no => no) (fun a k _ => k a) o k no

noncomputable def stOut (st : St) (l : List AV) : T CallOut := St.rec (motive := fun _ => T CallOut) (fun _ H nx esc _ wr => .ret ⟨outV l, H, nx, esc, wr⟩) st

/-- a function's code, resolved -/
noncomputable def fcode (G : Ctx) (g : Nat) (fn : Func) : KC := optK fn.body (fun c => kc G g fn.ntmps c) .bad

noncomputable def fnRun (G : Ctx) (run : Nat → RunC) : CallF := fun g args H nx =>
  optK (G.fi g) (fun fn => bk (Nat.ble args.length fn.ntmps) (argSlotsK 0 args (Slots.none fn.ntmps) fun s => tk (run g (fcode G g fn) ⟨s, H, nx, false, nx, []⟩) fun p => prK p fun e st =>
    exK e (tk (resF G st fn.results.toList) fun l => stOut st l) (fun _ => .bad) (tk (resF G st fn.results.toList) fun l => stOut st l)) .bad) .bad
noncomputable def knRun (G : Ctx) (run : Nat → RunC) : CallF := fun g args H nx => optK (G.sum g) (fun s => s args H nx) (fnRun G run g args H nx)

noncomputable def fev (G : Ctx) (n : Nat) : Nat → RunC :=
  Nat.rec (motive := fun _ => Nat → RunC) (fun _ _ _ => .bad) (fun _ run F c st => kcStep c G (knRun G run) (run F) st) n

noncomputable def fevCall (G : Ctx) (n : Nat) : CallF := fnRun G (fev G n)

end Go.Proofs.YtpidkmegakdohaaGreat.Kn
