/- The engine, part 35: patterns without numerals. -/
import Derived.Test.YtbobakclbdaepaaGreatF11
namespace Go.Proofs.YtbobakclbdaepaaGreat.En
open Go
set_option linter.unusedVariables false
set_option linter.unusedSimpArgs false

/-- the values under just these keys -/
def keyed {α : Type} : List Nat → List (Nat × α) → Option (List α)
  | [], [] => some []
  | k :: ks, (j, x) :: r => match Nat.beq j k with
    | true => match keyed ks r with
      | some l => some (x :: l)
      | none => none
    | false => none
  | _, _ => none

theorem keyed_eq {α : Type} : ∀ {ks : List Nat} {l : List (Nat × α)} {vs : List α}, keyed ks l = some vs → l = ks.zip vs
  | [], [], vs, h => by cases h; rfl
  | [], _ :: _, vs, h => by cases h
  | _ :: _, [], vs, h => by cases h
  | k :: ks, (j, x) :: r, vs, h => by
    simp only [keyed] at h
    split at h
    · rename_i hj
      split at h
      · rename_i l hl
        cases h
        have := Nat.eq_of_beq_eq_true hj
        subst this
        rw [keyed_eq hl]; rfl
      · cases h
    · cases h

theorem nbeq_iff {a b : Nat} : Nat.beq a b = true ↔ a = b := ⟨Nat.eq_of_beq_eq_true, fun h => h ▸ Nat.beq_refl a⟩

theorem pb_no {p : Prop} (h : pb p = false) : ¬ p := fun k => by rw [pb_true k] at h; cases h

/-- where a truth holds -/
def onlyB {α : Type} (b : Bool) (t : T α) : T α := match b with | true => t | false => .bad
theorem onlyB_some {α : Type} {b : Bool} {t : T α} {a : α} (h : (onlyB b t).res = some a) : b = true ∧ t.res = some a := by
  cases b with
  | true => exact ⟨rfl, h⟩
  | false => exact (T.bad_some h).elim
theorem onlyB_every {α : Type} {b : Bool} {t : T α} {p : α → Prop} (h : T.Every p t) : T.Every p (onlyB b t) := by
  cases b with
  | true => exact h
  | false => trivial

end Go.Proofs.YtbobakclbdaepaaGreat.En
