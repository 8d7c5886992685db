/- The engine, part 39: the statement 'for k, v := range m' of a function, taken apart. -/
import Derived.Test.YtbobakclbdaepaaGreatF15
namespace Go.Proofs.YtbobakclbdaepaaGreat.En
open Go
set_option linter.unusedVariables false

/-- the statement that begins with this region -/
def seqAt : Code → Nat → Option Code
  | .seq a b, id => match (match rid0 a with | some k => Nat.beq k id | none => false) with
    | true => some (.seq a b)
    | false => match seqAt a id with | some c => some c | none => seqAt b id
  | .cond _ a b, id => match seqAt a id with | some c => some c | none => seqAt b id
  | .block _ c, id => seqAt c id
  | .loop c, id => seqAt c id
  | .scope c, id => seqAt c id
  | _, _ => none
def seqOf (f : Func) (id : Nat) : Code := match f.body with
  | some c => (seqAt c id).getD .skip
  | none => .skip
def rgHead : Code → Array Oper × Array Oper × Array Oper × Code
  | .seq (.region _ a _) (.block _ (.loop (.seq (.region _ b _) (.seq _ (.block _ (.seq (.region _ c _) rest)))))) => (a, b, c, rest)
  | _ => (#[], #[], #[], .skip)
def rgO (c : Code) : Nat → Oper
  | 0 => (rgHead c).1.toList.getD 0 default
  | 1 => (rgHead c).1.toList.getD 1 default
  | 2 => (rgHead c).2.1.toList.getD 0 default
  | 3 => (rgHead c).2.1.toList.getD 1 default
  | _ => (rgHead c).2.2.1.toList.getD 0 default
def rgOps (c : Code) : Array Oper := (rgHead c).2.2.1
def rgTail (c : Code) : List Oper := (rgHead c).2.2.1.toList.tail
def rgRest (c : Code) : Code := (rgHead c).2.2.2
/-- a round -/
def evRg (G : Ctx) (K F N : Nat) (c : Code) (kb d4 m : Nat) (live : List Nat) (st : St) (p : Value × Value) : T (Ex × St) :=
  evRR G K F N (rgOps c).toList (rgTail c) (rgRest c) kb m live (st.put (some d4) (.tup [.one (.f (.lit p.1)), .one (.f (.lit p.2))]))

/-- what a slot says less of -/
theorem get_skip {d : Nat} {v : SV} {sl sl' : Slots} (h : sl'.get d = .top) (he : ∀ t, t ≠ d → sl.get t = sl'.get t) : ∀ t, (Slots.get ((d, v) :: sl) t).le (sl'.get t) := fun t => by
  by_cases e : d = t
  · subst e; rw [h]; exact .inl rfl
  · rw [Slots.get_cons, if_neg e, he t (Ne.symm e)]; exact .inr (.inl rfl)

end Go.Proofs.YtbobakclbdaepaaGreat.En
