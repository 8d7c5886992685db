/- The engine, part 22: tables; a closed call. -/
import Derived.Test.YtbobakclbdaepaaGreatE21
namespace Go.Proofs.YtbobakclbdaepaaGreat.En
open Go
set_option linter.unusedVariables false
set_option linter.unusedSimpArgs false

def Tab.Every {α : Type} (p : Nat → α → Prop) : Tab α → Prop
  | .leaf => True
  | .node k v l r => p k v ∧ l.Every p ∧ r.Every p

theorem Tab.Every.get {α : Type} {p : Nat → α → Prop} : ∀ {t : Tab α}, t.Every p → ∀ {k : Nat} {v : α}, t.get k = some v → p k v
  | .leaf, _, k, v, h => by cases h
  | .node k0 v0 l r, ⟨h1, h2, h3⟩, k, v, h => by
    simp only [Tab.get] at h
    split at h
    · rename_i e
      have := nbeq e
      simp only [Option.some.injEq] at h
      subst this h
      exact h1
    · split at h
      · exact Tab.Every.get h2 h
      · exact Tab.Every.get h3 h

/-- nothing of one's own yet -/
def noFn : Fn := fun _ => ⟨0, 0, 0⟩
def noZ : Z := fun _ _ => none

theorem Rel.empty (w : World) : Rel All noFn 0 noZ w [] := ⟨fun b _ h => h.elim, fun b c _ _ h => h.elim, fun k o v h => by cases h⟩

/-- what stands in the world already, and isn't written: told by a prover -/
structure Seen (z : Z) (w : World) : Prop where
  ok : ∀ k o v, z k o = some v → w.cell? ⟨k, o, none⟩ = some v

theorem Rel.seen {z : Z} {w : World} (h : Seen z w) : Rel All noFn 0 z w [] := ⟨fun b _ h => h.elim, fun b c _ _ h => h.elim, h.ok⟩

theorem Post.below {f f' : Fn} {z z' : Z} {w w' : World} {n : Nat} {H : Heap} {e : Bool} (h : Post All f 0 z w [] f' n z' w' H e) : Go.RowKit.Below w.heap.size w w' :=
  (h.fr.less fun x _ ⟨b, _, hl, _⟩ => hl.elim).below

/-- nothing is known of calls, nor of loops -/
theorem KnownOk.nothing {P : Program} {ti : Nat → Option TI} {fi : Nat → Option Func} {sym : Bool} : KnownOk P ⟨ti, fi, sym, fun _ => Option.none, fun _ _ => Option.none, fun _ _ => Option.none⟩ where
  sum := fun _ _ h => (Option.some_ne_none _ h.symm).elim
  ls := fun _ _ _ h => (Option.some_ne_none _ h.symm).elim
  sumK := fun _ _ h => (Option.some_ne_none _ h.symm).elim
  lsK := fun _ _ _ h => (Option.some_ne_none _ h.symm).elim
  pre := fun _ _ _ h => (Option.some_ne_none _ h.symm).elim
  preK := fun _ _ _ h => (Option.some_ne_none _ h.symm).elim

/-- A closed run that comes to true. -/
theorem calls_true {P : Program} {G : Ctx} (hG : CtxOk P G) (hK : KnownOk P G) {live : Nat → Nat → Option (List Nat)} {n g : Nat} {args : List AV} {z : Z} {w : World} {vs : Array Value} (hz : Seen z w) (ha : RAs noFn 0 z args vs.toList)
    (h : ((evCall G live n g args [] 0).bind fun o => match o.v with | .v (.one (.f (.lit (.bool b)))) => .ret b | _ => .bad).res = some true) :
    Calls P g vs w fun e w' => e = .returned (.bool true) ∧ Go.RowKit.Below w.heap.size w w' := by
  obtain ⟨o, h1, h2⟩ := T.bind_some h
  split at h2
  · rename_i b hv
    have := T.ret_some h2
    subst this
    refine evCall_ok hG hK n g args [] 0 o h1 noFn z w vs (Rel.seen hz) ha _ fun f' z' w' v' hp hv' => ⟨?_, hp.below⟩
    rw [hv] at hv'
    rw [lit_ok hv']
  · exact (T.bad_some h2).elim

end Go.Proofs.YtbobakclbdaepaaGreat.En
