/- The engine, part 22: tables; a closed call. -/
import Derived.Test.YtpidkmegakdohaaGreatK21
namespace Go.Proofs.YtpidkmegakdohaaGreat.Kn
open Go
set_option linter.unusedVariables false
set_option linter.unusedSimpArgs false

/-- all that stands in a given table -/
def Tr.Vals {α : Type} (q : α → Prop) : Tr (Option α) → Prop
  | .row x l => (∀ y, x = some y → q y) ∧ ∀ p ∈ l, ∀ y, p.2 = some y → q y
  | .fork a b c d => a.Vals q ∧ b.Vals q ∧ c.Vals q ∧ d.Vals q

theorem rowGet_vals {α : Type} {q : α → Prop} (n : Nat) : ∀ {l : List (Nat × Option α)}, (∀ p ∈ l, ∀ y, p.2 = some y → q y) → ∀ y, rowGet none n l = some y → q y
  | [], _, y, h => by cases h
  | (k, o) :: r, hl, y, h => by
    simp only [rowGet] at h
    split at h
    · exact hl (k, o) (by simp) y h
    · exact rowGet_vals n (fun p hp => hl p (by simp [hp])) y h

theorem Tr.Vals.get {α : Type} {q : α → Prop} : ∀ {t : Tr (Option α)}, t.Vals q → ∀ {n : Nat} {y : α}, t.get none n = some y → q y
  | .row x l, ⟨h1, h2⟩, 0, y, h => h1 y h
  | .row x l, ⟨h1, h2⟩, n + 1, y, h => rowGet_vals n h2 y h
  | .fork a b c d, ⟨ha, hb, hc, hd⟩, n, y, h => by
    have h : four (a.get none) (b.get none) (c.get none) (d.get none) (n % 4) (n / 4) = some y := h
    have hn : n % 4 < 4 := Nat.mod_lt _ (by decide)
    generalize n % 4 = i at *
    match i, hn with
    | 0, _ => exact Tr.Vals.get ha h
    | 1, _ => exact Tr.Vals.get hb h
    | 2, _ => exact Tr.Vals.get hc h
    | 3, _ => exact Tr.Vals.get hd h

theorem tget_vals {α : Type} {q : Nat → α → Prop} {t : Tr (Option (Nat × α))} (h : t.Vals fun p => q p.1 p.2) {n : Nat} {y : α} (hy : tget t n = some y) : q n y := by
  unfold tget at hy
  split at hy
  · rename_i k v hk
    split at hy
    · rename_i e
      have e := nbeq e
      subst e
      simp only [Option.some.injEq] at hy
      subst hy
      exact h.get hk
    · cases hy
  · cases hy

/-- nothing of one's own yet -/
def noFn : Fn := fun _ => ⟨0, 0, 0⟩
def noZ : Z := fun _ _ => none

theorem Rel.empty (w : World) : Rel All noFn 0 noZ w Heap.none := ⟨fun b _ h => by rw [Heap.get_none] at h; exact h.elim, fun b c _ _ h => by rw [Heap.get_none] at h; exact h.elim, fun k o v h => by cases h⟩

/-- what stands in the world already, and isn't written: told by a prover -/
structure Seen (z : Z) (w : World) : Prop where
  ok : ∀ k o v, z k o = some v → w.cell? ⟨k, o, none⟩ = some v

theorem Rel.seen {z : Z} {w : World} (h : Seen z w) : Rel All noFn 0 z w Heap.none := ⟨fun b _ h => by rw [Heap.get_none] at h; exact h.elim, fun b c _ _ h => by rw [Heap.get_none] at h; exact h.elim, h.ok⟩

theorem Post.below {f f' : Fn} {z z' : Z} {w w' : World} {n : Nat} {H : Heap} {e : Bool} (h : Post All f 0 z w Heap.none f' n z' w' H e) : Go.RowKit.Below w.heap.size w w' :=
  (h.fr.less fun x _ ⟨b, _, hl, _⟩ => by rw [Heap.get_none] at hl; exact hl.elim).below

/-- A closed run that comes to true. -/
theorem calls_true {P : Program} {G : Ctx} (hG : CtxOk P G) (hK : KnownOk P G) {n g : Nat} {args : List AV} {z : Z} {w : World} {vs : Array Value} (hz : Seen z w) (ha : RAs noFn 0 z args vs.toList)
    (h : ((evCall G n g args Heap.none 0).bind fun o => match o.v with | .v (.one (.f (.lit (.bool b)))) => .ret b | _ => .bad).res = some true) :
    Calls P g vs w fun e w' => e = .returned (.bool true) ∧ Go.RowKit.Below w.heap.size w w' := by
  obtain ⟨o, h1, h2⟩ := T.bind_some h
  split at h2
  · rename_i b hv
    have := T.ret_some h2
    subst this
    refine evCall_ok hG hK n g args Heap.none 0 o h1 noFn z w vs (Rel.seen hz) ha _ fun f' z' w' v' hp hv' => ⟨?_, hp.below⟩
    rw [hv] at hv'
    rw [lit_ok hv']
  · exact (T.bad_some h2).elim

end Go.Proofs.YtpidkmegakdohaaGreat.Kn
