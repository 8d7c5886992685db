/- The engine, part 20: code. -/
import Derived.Test.YtbobakclbdaepaaGreatE19
import Derived.Deep.LoopGhost
namespace Go.Proofs.YtbobakclbdaepaaGreat.En
open Go
set_option linter.unusedVariables false
set_option linter.unusedSimpArgs false

def exitOf : Ex → Exit
  | .normal => .normal
  | .exit id => .exit id
  | .ret => .ret

def CodeOk (P : Program) (N : Nat) (c : Code) (st : St) (e : Ex) (st' : St) : Prop :=
  (st'.esc = false → st.esc = false) ∧ ∀ (f : Fn) (z : Z) (w : World) (a : Act), TR f st.nx z st.sl a.tmps → Rel All f st.nx z w st.H → a.tmps.size = N → a.defers = [] →
    ∀ (Q : Exit → Act → World → Prop), (∀ f' z' w' a', Post All f st.nx z w st.H f' st'.nx z' w' st'.H st'.esc → TR f' st'.nx z' st'.sl a'.tmps → a'.tmps.size = N → a'.defers = [] → Q (exitOf e) a' w') → c.wp P Q a w

def RunOk (P : Program) (run : Nat → Nat → Code → St → T (Ex × St)) : Prop := ∀ F N c st e st', (run F N c st).res = some (e, st') → CodeOk P N c st e st'

theorem Post.drew {S : Nat → Prop} {f f' : Fn} {nx nx' : Nat} {z z' : Z} {w w' : World} {H H' : Heap} {e : Bool} {k : Nat} (h : Post S f nx z { w with drawn := k } H f' nx' z' w' H' e) : Post S f nx z w H f' nx' z' w' H' e :=
  ⟨h.hnx, h.ext, h.zle, h.znew, h.same, h.dead, h.rel, h.fresh, ⟨h.fr.size, h.fr.os, h.fr.tape, h.fr.output, h.fr.block⟩, h.noesc⟩

section
variable {P : Program} {G : Ctx} (hG : CtxOk P G)
include hG

theorem results_ok {f : Fn} {z : Z} {w : World} {st : St} {a : Array Value} (ht : TR f st.nx z st.sl a) (hr : Rel All f st.nx z w st.H) {fn : Func} {l : List AV} (h : (resultsOf G st fn.results.toList).res = some l) :
    ∃ v, (results fn a).run P w = .ok v w ∧ RS f st.nx z (outV l) v := by
  obtain ⟨vs, h1, h2⟩ := resultsOf_ok hG ht hr _ _ h
  refine ⟨if h : vs.toArray.size = 1 then vs.toArray[0] else .tuple vs.toArray, ?_, ?_⟩
  · unfold results
    rw [Array.mapM_eq_mapM_toList]
    rw [Sem.run_bind, Sem.run_map]
    erw [h1]
    rfl
  · have hlen := h2.1
    match l, vs, hlen, h2 with
    | [x], [v], _, h2 =>
      simp only [List.size_toArray, List.length_singleton, dif_pos]
      exact h2.2 0 x v rfl rfl
    | [], [], _, h2 => exact ⟨#[], by simp, h2⟩
    | x :: y :: l, u :: v :: vs, hlen, h2 => exact ⟨_, by simp, h2⟩

theorem evFn_ok {run : Nat → Nat → Code → St → T (Ex × St)} (h : RunOk P run) : CallOk P (evFn G run) := by
  intro g args H nx r hr f z w vs hrel hargs R hR
  unfold evFn at hr
  split at hr
  · exact (T.bad_some hr).elim
  rename_i fn hfn
  split at hr
  · rename_i c hb hle
    obtain ⟨⟨e, st'⟩, he, hr⟩ := T.bind_some hr
    have hrec : ∃ l, (resultsOf G st' fn.results.toList).res = some l ∧ (popK nx ⟨outV l, st'.H, st'.nx, st'.esc, st'.wr⟩ T.ret).res = some r ∧ (e = .normal ∨ e = .ret) := by
      cases e with
      | exit id => exact (T.bad_some hr).elim
      | normal => obtain ⟨l, h1, h2⟩ := T.bind_some hr; exact ⟨l, h1, h2, .inl rfl⟩
      | ret => obtain ⟨l, h1, h2⟩ := T.bind_some hr; exact ⟨l, h1, h2, .inr rfl⟩
    obtain ⟨l, hl, hp, hex⟩ := hrec
    obtain ⟨hf1, _, _⟩ := hG.fi g fn hfn
    have hle := nble hle
    have hsz : args.length = vs.size := by simpa using hargs.1
    refine calls_of_wp hf1 hb ?_
    obtain ⟨_, hc⟩ := h g fn.ntmps c _ e st' he
    refine hc f z w _ (argSlots_TR hargs _) hrel (by simp; omega) rfl _ fun f' z' w' a' hpost htr hN hd => ?_
    obtain ⟨v, hv1, hv2⟩ := results_ok hG htr hpost.all hl
    obtain ⟨hp1, hp2⟩ := pop_ok (u := ⟨outV l, st'.H, st'.nx, st'.esc, st'.wr⟩) hrel hpost hv2 hp
    rcases hex with rfl | rfl
    · exact ⟨hd, v, hv1, hR f' z' w' v hp1 hp2⟩
    · exact ⟨hd, v, hv1, hR f' z' w' v hp1 hp2⟩
  · exact (T.bad_some hr).elim

theorem evKnown_ok (hs : ∀ g s, G.sum g = some s → ∀ args H nx r, (s args H nx).res = some r → CallTo P g args H nx r) {run : Nat → Nat → Code → St → T (Ex × St)} (h : RunOk P run) : CallOk P (evKnown G run) := by
  intro g args H nx r hr
  unfold evKnown at hr
  split at hr
  · rename_i s hsum
    exact hs g s hsum args H nx r hr
  · exact evFn_ok hG h g args H nx r hr

end

/-- what is known of calls and loops is so -/
structure KnownOk (P : Program) (G : Ctx) : Prop where
  sum : ∀ g s, G.sum g = some s → ∀ args H nx r, (s args H nx).res = some r → CallTo P g args H nx r
  ls : ∀ F id L, G.ls F id = some L → ∀ N c st e st', (L N c st).res = some (e, st') → CodeOk P N c st e st'
  sumK : SumsKeep G
  lsK : LoopsKeep G
  pre : ∀ F id p, G.pre F id = some p → ∀ st st1, (p st).res = some st1 → ∀ N c e st2, CodeOk P N c st1 e st2 → CodeOk P N c st e st2
  preK : PresKeep G

theorem hook_ok {P : Program} {G : Ctx} (hK : KnownOk P G) {F id : Nat} {st st1 : St} (h : (hook G F id st).res = some st1) {N : Nat} {c : Code} {e : Ex} {st2 : St} (hc : CodeOk P N c st1 e st2) : CodeOk P N c st e st2 := by
  unfold hook at h
  split at h
  · rename_i p hp; exact hK.pre F id p hp st st1 h N c e st2 hc
  · have := T.ret_some h
    subst this
    exact hc

end Go.Proofs.YtbobakclbdaepaaGreat.En
