/- The closed engine: a closed call that comes to true is known from then on. -/
import Derived.Test.YtpidkmegakdohaaGreatKI
namespace Go.Proofs.YtpidkmegakdohaaGreat.Kn
open Go
set_option linter.unusedVariables false

/-- a call without arguments that comes to true, and leaves what is there as it was -/
noncomputable def truthSum : List AV → Heap → Nat → T CallOut
  | [], H, nx => .ret ⟨.v (.one (.bool true)), H, nx, false, []⟩
  | _ :: _, _, _ => .bad

theorem truthSum_ok {P : Program} {g : Nat} (h : ∀ w, Calls P g #[] w fun e w' => e = .returned (.bool true) ∧ Go.RowKit.Below w.heap.size w w') : ∀ args H nx r, (truthSum args H nx).res = some r → CallTo P g args H nx r := by
  intro args H nx r hr
  cases args with
  | cons a l => exact (T.bad_some hr).elim
  | nil =>
    have := T.ret_some hr
    subst this
    intro f z w vs hrel hargs R hR
    have hvs : vs = #[] := by
      have := hargs.1
      simp at this
      exact Array.eq_empty_of_size_eq_zero this.symm
    subst hvs
    refine (h w).mono fun e w' ⟨he, hw⟩ => ?_
    subst he
    have hfr : Fr (fun _ => False) w w' := ⟨hw.size, hw.os, hw.tape, hw.output, fun k hk _ => hw.block k hk⟩
    refine hR f z w' (.bool true) ⟨Nat.le_refl _, fun _ _ => rfl, fun _ _ _ h => h, fun _ _ _ h => .inl h, fun _ _ _ => .inl rfl, fun _ _ h => h, ⟨fun b _ hl => ?_, fun b c _ _ hl hl' => hrel.inj b c trivial trivial hl hl', fun k o v hv => ?_⟩,
      fun b hb hl => absurd hl (hrel.noLive b hb), hfr.less fun _ _ h => h.elim, fun _ _ _ h => h⟩ (RF.lit _ rfl)
    · obtain ⟨h1, h2⟩ := hrel.own b trivial hl
      exact ⟨h1, h2.kept h1 hfr id (fun _ _ => rfl) (Nat.le_refl _) (fun _ _ _ h => h) fun _ _ _ h => .inl h⟩
    · have h1 := hrel.zok k o v hv
      rw [hfr.cell (block_lt_of_cell h1) id]
      exact h1

theorem truthSum_keeps : ∀ args H nx, (truthSum args H nx).Every fun o => Low nx H → nx ≤ o.nx ∧ Low o.nx o.H ∧ (∀ b, b < nx → b ∉ o.wr → o.H.get b = H.get b) ∧ ∀ b ∈ o.wr, b < nx
  | [], H, nx => fun h => ⟨Nat.le_refl _, h, fun _ _ _ => rfl, fun b hb => by cases hb⟩
  | _ :: _, _, _ => trivial

theorem DrOk.congr {G G' : Ctx} (h : G'.dr = G.dr) {F : Nat} : ∀ {c : Code}, DrOk G F c → DrOk G' F c
  | .region id ops true, hc => fun r hr => hc r (by rw [← h]; exact hr)
  | .region id ops false, _ => trivial
  | .seq a b, hc => ⟨DrOk.congr h hc.1, DrOk.congr h hc.2⟩
  | .cond _ a b, hc => ⟨DrOk.congr h hc.1, DrOk.congr h hc.2⟩
  | .block _ c, hc => DrOk.congr (c := c) h hc
  | .loop c, hc => DrOk.congr (c := c) h hc
  | .skip, _ => trivial
  | .exit _, _ => trivial
  | .label _, _ => trivial
  | .ret, _ => trivial
  | .rangeFunc .., _ => trivial
  | .scope _, _ => trivial
  | .goto _, _ => trivial
  | .refuse _, _ => trivial

/-- one call more is known -/
noncomputable def Ctx.know (G : Ctx) (g : Nat) : Ctx := { G with sum := fun k => match Nat.beq g k with | true => some truthSum | false => G.sum k }

theorem Ctx.know_ok {P : Program} {G : Ctx} {g : Nat} (h : CtxOk P G) : CtxOk P (G.know g) := ⟨h.ti, h.fi, h.mixed⟩

theorem Ctx.know_known {P : Program} {G : Ctx} {g : Nat} (h : KnownOk P G) (hc : ∀ args H nx r, (truthSum args H nx).res = some r → CallTo P g args H nx r) : KnownOk P (G.know g) where
  sum := fun k s hs => by
    simp only [Ctx.know] at hs
    split at hs
    · rename_i e
      have e := nbeq e
      subst e
      cases hs
      exact hc
    · exact h.sum k s hs
  sumK := fun k s hs => by
    simp only [Ctx.know] at hs
    split at hs
    · cases hs
      exact truthSum_keeps
    · exact h.sumK k s hs
  dr := fun f fn c h1 h2 => DrOk.congr (G := G) (G' := G.know g) rfl (h.dr f fn c h1 h2)

end Go.Proofs.YtpidkmegakdohaaGreat.Kn
