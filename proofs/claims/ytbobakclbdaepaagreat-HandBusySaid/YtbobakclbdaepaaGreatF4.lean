/- The engine, part 27: short words; a loop's rounds. -/
import Derived.Test.YtbobakclbdaepaaGreatF3
import Derived.Laws.BitsLemmas
namespace Go.Proofs.YtbobakclbdaepaaGreat.En
open Go
set_option linter.unusedVariables false
set_option linter.unusedSimpArgs false

abbrev noLive : Nat → Nat → Option (List Nat) := fun _ _ => none
abbrev I (n : Int) : CV := .f (.lit (.int .i64 n))
abbrev Bo (b : Bool) : CV := .f (.lit (.bool b))
abbrev Sg (s : ByteArray) : CV := .f (.lit (.string s))
abbrev Nil : CV := .f (.lit (.slice none 0 0))
abbrev Ptr (b : Nat) : CV := .ptr b 0 0 0
abbrev AI (n : Int) : AV := .one (I n)
abbrev AB (b : Bool) : AV := .one (Bo b)
abbrev AS (s : ByteArray) : AV := .one (Sg s)
abbrev AP (b : Nat) : AV := .one (Ptr b)
abbrev out0 (v : SV) : CallOut := ⟨v, [], 0, false, []⟩

theorem T.res_br {α : Type} (b : Bool) (t e : T α) : (T.br b t e).res = if b = true then t.res else e.res := by cases b <;> rfl
theorem T.res_ret {α : Type} (a : α) : (T.ret a).res = some a := rfl
theorem T.res_bad {α : Type} : (T.bad : T α).res = none := rfl
theorem T.res_need {α : Type} (b : Bool) (t : T α) : (T.need b t).res = if b = true then t.res else none := by cases b <;> rfl

theorem T.over_eq {α : Type} {t u : T α} {a : α} (p : PT) (h : t.over p = u) (hu : u.res = some a) : t.res = some a := T.over_res p t (by rw [h]; exact hu)

/-- a call's run; what is written is told otherwise -/
def evCallW (wr : List Nat) (G : Ctx) (n g : Nat) (args : List AV) (H : Heap) (nx : Nat) : T CallOut := (evCall G noLive n g args H nx).bind fun o => .ret { o with wr := wr }

theorem evCallW_ok {P : Program} {G : Ctx} (hG : CtxOk P G) (hK : KnownOk P G) {wr : List Nat} {n g : Nat} {args : List AV} {H : Heap} {nx : Nat} {r : CallOut} (h : (evCallW wr G n g args H nx).res = some r) : CallTo P g args H nx r := by
  obtain ⟨o, h1, h2⟩ := T.bind_some h
  have := T.ret_some h2
  subst this
  exact evCall_ok hG hK n g args H nx o h1

/-- a round of a loop; what it leaves is named anew, from m on -/
def evRound (G : Ctx) (K F N : Nat) (c : Code) (m : Nat) (live after : List Nat) (st : St) : T (Ex × St) :=
  (ev G noLive K F N c st).bind fun x => match canonSt m (match x.1 with | .normal => live | _ => after) x.2 with
    | some s => .ret (x.1, s)
    | none => .bad

theorem evRound_some {G : Ctx} {K F N : Nat} {c : Code} {m : Nat} {live after : List Nat} {st : St} {e : Ex} {s : St} (h : (evRound G K F N c m live after st).res = some (e, s)) :
    ∃ st1, (ev G noLive K F N c st).res = some (e, st1) ∧ StLe m st1 s := by
  unfold evRound at h
  obtain ⟨⟨e1, st1⟩, h1, h2⟩ := T.bind_some h
  simp only at h2
  split at h2
  · rename_i s1 hs
    have := T.ret_some h2
    simp only [Prod.mk.injEq] at this
    obtain ⟨rfl, rfl⟩ := this
    exact ⟨st1, h1, canonSt_ok hs⟩
  · exact (T.bad_some h2).elim

/-- round by round: an invariant, a measure -/
theorem rounds {G : Ctx} {K F N : Nat} {c : Code} {m : Nat} {live after : List Nat} {α : Type} (S : α → St) (μ : α → Nat) (Inv : α → Prop) (Fin : Ex → St → Prop)
    (h : ∀ p, Inv p → ∃ e s, (evRound G K F N c m live after (S p)).res = some (e, s) ∧ ((e = .normal ∧ ∃ p', StLe m s (S p') ∧ Inv p' ∧ μ p' < μ p) ∨ (e ≠ .normal ∧ ∃ s', StLe m s s' ∧ Fin e s'))) :
    ∀ p, Inv p → ∃ e s, Fin e s ∧ Chain S μ m (ev G noLive K F N c) p e s := by
  have key : ∀ k p, μ p ≤ k → Inv p → ∃ e s, Fin e s ∧ Chain S μ m (ev G noLive K F N c) p e s := by
    intro k
    induction k with
    | zero =>
      intro p hk hI
      obtain ⟨e, s, h1, h2⟩ := h p hI
      obtain ⟨st1, h3, h4⟩ := evRound_some h1
      rcases h2 with ⟨rfl, p', h5, h6, h7⟩ | ⟨hne, s', h5, h6⟩
      · omega
      · exact ⟨e, s', h6, .stop h3 hne (h4.trans h5)⟩
    | succ k ih =>
      intro p hk hI
      obtain ⟨e, s, h1, h2⟩ := h p hI
      obtain ⟨st1, h3, h4⟩ := evRound_some h1
      rcases h2 with ⟨rfl, p', h5, h6, h7⟩ | ⟨hne, s', h5, h6⟩
      · obtain ⟨e', s', f1, f2⟩ := ih p' (by omega) h6
        exact ⟨e', s', f1, .step h3 (h4.trans h5) h7 f2⟩
      · exact ⟨e, s', h6, .stop h3 hne (h4.trans h5)⟩
  exact fun p hI => key (μ p) p (Nat.le_refl _) hI

/-- a loop that is known by its rounds -/
theorem loop_to {P : Program} {G : Ctx} (hG : CtxOk P G) (hK : KnownOk P G) {K F N : Nat} {c : Code} {m : Nat} {live after : List Nat} {α : Type} (S : α → St) (μ : α → Nat) (Inv : α → Prop) (e : Ex) (s : St)
    (h : ∀ p, Inv p → ∃ e' s', (evRound G K F N c m live after (S p)).res = some (e', s') ∧ ((e' = .normal ∧ ∃ p', StLe m s' (S p') ∧ Inv p' ∧ μ p' < μ p) ∨ (e' ≠ .normal ∧ ∃ s'', StLe m s' s'' ∧ e' = e ∧ s'' = s)))
    (hm : ∀ p, m ≤ (S p).nx) {p : α} (hI : Inv p) {st0 : St} (h0 : StLe m st0 (S p)) (hnx : st0.nx = m) : CodeOk P N (.loop c) st0 e s := by
  obtain ⟨e1, s1, ⟨rfl, rfl⟩, hc⟩ := rounds S μ Inv (fun e' s' => e' = e ∧ s' = s) h p hI
  exact hc.ok (fun st e st' hr => ev_ok hG hK K F N c st e st' hr) hm h0 hnx

/-- the loop whose first region this is -/
def loopAt : Code → Nat → Option Code
  | .seq a b, id => match loopAt a id with | some c => some c | none => loopAt b id
  | .cond _ a b, id => match loopAt a id with | some c => some c | none => loopAt b id
  | .block _ c, id => loopAt c id
  | .scope c, id => loopAt c id
  | .loop c, id => match rid c with
    | some k => match Nat.beq k id with | true => some c | false => loopAt c id
    | none => loopAt c id
  | _, _ => none

def loopOf (f : Func) (id : Nat) : Code := match f.body with
  | some c => (loopAt c id).getD .skip
  | none => .skip

theorem wrapI {x : Int} (h : -9223372036854775808 ≤ x ∧ x ≤ 9223372036854775807) : IntKind.wrap .i64 x = x := by
  rw [IntKind.wrap_i64]; omega

end Go.Proofs.YtbobakclbdaepaaGreat.En
