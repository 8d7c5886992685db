/- The engine, part 20: code. -/
import Derived.Test.YtpidkmegakdohaaGreatK19
import Derived.Deep.LoopGhost
namespace Go.Proofs.YtpidkmegakdohaaGreat.Kn
open Go
set_option linter.unusedVariables false
set_option linter.unusedSimpArgs false

def exitOf : Ex → Exit
  | .normal => .normal
  | .exit id => .exit id
  | .ret => .ret

def CodeOk (P : Program) (N : Nat) (c : Code) (st : St) (e : Ex) (st' : St) : Prop :=
  (st'.esc = false → st.esc = false) ∧ ∀ (f : Fn) (z : Z) (w : World) (a : Act), TR f st.nx z st.sl a.tmps → Rel All f st.nx z w st.H → a.tmps.size = N → a.defers = [] →
    ∀ (Q : Exit → Act → World → Prop), (∀ f' z' w' a', Post All f st.nx z w st.H f' st'.nx z' w' st'.H st'.esc → TR f' st'.nx z' st'.sl a'.tmps → a'.tmps.size = N → a'.defers = [] → Q (exitOf e) a' w') → c.wp P Q a w

/-- what the table says of a code's regions that draw is so -/
def DrOk (G : Ctx) (F : Nat) : Code → Prop
  | .region id ops true => ∀ r, G.dr F id = some r → r.right ops = true
  | .seq a b => DrOk G F a ∧ DrOk G F b
  | .cond _ a b => DrOk G F a ∧ DrOk G F b
  | .block _ c => DrOk G F c
  | .loop c => DrOk G F c
  | _ => True

noncomputable def drChk (G : Ctx) (F : Nat) : Code → Bool
  | .region id ops true => match G.dr F id with
    | none => true
    | some r => r.right ops
  | .seq a b => drChk G F a && drChk G F b
  | .cond _ a b => drChk G F a && drChk G F b
  | .block _ c => drChk G F c
  | .loop c => drChk G F c
  | _ => true

theorem drChk_ok {G : Ctx} {F : Nat} : ∀ {c : Code}, drChk G F c = true → DrOk G F c
  | .region id ops true, h => fun r hr => by simpa [drChk, hr] using h
  | .region id ops false, h => trivial
  | .seq a b, h => by
    simp only [drChk, Bool.and_eq_true] at h
    exact ⟨drChk_ok h.1, drChk_ok h.2⟩
  | .cond _ a b, h => by
    simp only [drChk, Bool.and_eq_true] at h
    exact ⟨drChk_ok h.1, drChk_ok h.2⟩
  | .block _ c, h => drChk_ok (c := c) h
  | .loop c, h => drChk_ok (c := c) h
  | .skip, _ => trivial
  | .exit _, _ => trivial
  | .label _, _ => trivial
  | .ret, _ => trivial
  | .rangeFunc .., _ => trivial
  | .scope _, _ => trivial
  | .goto _, _ => trivial
  | .refuse _, _ => trivial

def RunOk (P : Program) (G : Ctx) (run : Nat → Nat → Code → St → T (Ex × St)) : Prop := ∀ F N c st e st', DrOk G F c → (run F N c st).res = some (e, st') → CodeOk P N c st e st'

theorem Post.drew {S : Nat → Prop} {f f' : Fn} {nx nx' : Nat} {z z' : Z} {w w' : World} {H H' : Heap} {e : Bool} {k : Nat} (h : Post S f nx z { w with drawn := k } H f' nx' z' w' H' e) : Post S f nx z w H f' nx' z' w' H' e :=
  ⟨h.hnx, h.ext, h.zle, h.znew, h.same, h.dead, h.rel, h.fresh, ⟨h.fr.size, h.fr.os, h.fr.tape, h.fr.output, h.fr.block⟩, h.noesc⟩

section
variable {P : Program} {G : Ctx} (hG : CtxOk P G)
include hG

theorem results_ok {f : Fn} {z : Z} {w : World} {st : St} {a : Array Value} (ht : TR f st.nx z st.sl a) (hr : Rel All f st.nx z w st.H) {fn : Func} {l : List AV} (h : (resultsOf G st fn.results.toList).res = some l) :
    ∃ v, (results fn a).run P w = .ok v w ∧ RS f st.nx z (outV l) v := by
  obtain ⟨vs, h1, h2⟩ := resultsOf_ok hG ht hr _ _ h
  refine ⟨if h : vs.toArray.size = 1 then vs.toArray[0] else .tuple vs.toArray, ?_, ?_⟩
  · unfold results
    rw [Array.mapM_eq_mapM_toList]
    rw [Sem.run_bind, Sem.run_map]
    erw [h1]
    rfl
  · have hlen := h2.1
    match l, vs, hlen, h2 with
    | [x], [v], _, h2 =>
      simp only [List.size_toArray, List.length_singleton, dif_pos]
      exact h2.2 0 x v rfl rfl
    | [], [], _, h2 => exact ⟨#[], by simp, h2⟩
    | x :: y :: l, u :: v :: vs, hlen, h2 => exact ⟨_, by simp, h2⟩

theorem evFn_ok (hd : ∀ f fn c, G.fi f = some fn → fn.body = some c → DrOk G f c) {run : Nat → Nat → Code → St → T (Ex × St)} (h : RunOk P G run) : CallOk P (evFn G run) := by
  intro g args H nx r hr f z w vs hrel hargs R hR
  unfold evFn at hr
  split at hr
  · exact (T.bad_some hr).elim
  rename_i fn hfn
  split at hr
  · rename_i c hb hle
    rw [argSlotsK_eq] at hr
    obtain ⟨⟨e, st'⟩, he, hr⟩ := T.bind_some hr
    have hrec : ∃ l, (resultsOf G st' fn.results.toList).res = some l ∧ r = ⟨outV l, st'.H, st'.nx, st'.esc, st'.wr⟩ ∧ (e = .normal ∨ e = .ret) := by
      cases e with
      | exit id => exact (T.bad_some hr).elim
      | normal => obtain ⟨l, h1, h2⟩ := T.bind_some hr; exact ⟨l, h1, (T.ret_some h2).symm, .inl rfl⟩
      | ret => obtain ⟨l, h1, h2⟩ := T.bind_some hr; exact ⟨l, h1, (T.ret_some h2).symm, .inr rfl⟩
    obtain ⟨l, hl, hp, hex⟩ := hrec
    subst hp
    obtain ⟨hf1, _, _⟩ := hG.fi g fn hfn
    have hle := nble hle
    have hsz : args.length = vs.size := by simpa using hargs.1
    refine calls_of_wp hf1 hb ?_
    obtain ⟨_, hc⟩ := h g fn.ntmps c _ e st' (hd g fn c hfn hb) he
    refine hc f z w _ (argSlots_TR hargs _ _) hrel (by simp; omega) rfl _ fun f' z' w' a' hpost htr hN hd => ?_
    obtain ⟨v, hv1, hv2⟩ := results_ok hG htr hpost.all hl
    rcases hex with rfl | rfl
    · exact ⟨hd, v, hv1, hR f' z' w' v hpost hv2⟩
    · exact ⟨hd, v, hv1, hR f' z' w' v hpost hv2⟩
  · exact (T.bad_some hr).elim

theorem evKnown_ok (hd : ∀ f fn c, G.fi f = some fn → fn.body = some c → DrOk G f c) (hs : ∀ g s, G.sum g = some s → ∀ args H nx r, (s args H nx).res = some r → CallTo P g args H nx r) {run : Nat → Nat → Code → St → T (Ex × St)} (h : RunOk P G run) : CallOk P (evKnown G run) := by
  intro g args H nx r hr
  unfold evKnown at hr
  split at hr
  · rename_i s hsum
    exact hs g s hsum args H nx r hr
  · exact evFn_ok hG hd h g args H nx r hr

end

/-- what is known of calls, and of regions that draw, is so -/
structure KnownOk (P : Program) (G : Ctx) : Prop where
  sum : ∀ g s, G.sum g = some s → ∀ args H nx r, (s args H nx).res = some r → CallTo P g args H nx r
  sumK : SumsKeep G
  dr : ∀ f fn c, G.fi f = some fn → fn.body = some c → DrOk G f c

theorem evDraw_esc {G : Ctx} {call : CallF} {N : Nat} {ops : Array Oper} : ∀ (l : List Oper) (fl : List Bool) (st : St) (es : List Eff), (evDraw G call N ops l fl st es).Every fun x => x.1.esc = false → st.esc = false
  | [], fl, st, es => id
  | o :: l, fl, st, es => by
    have skip : ∀ es', (evDraw G call N ops l fl.tail (st.put o.dst (.tup [])) es').Every fun x => x.1.esc = false → st.esc = false := fun es' => (evDraw_esc l _ _ _).mono fun x h hx => by
      have := h hx
      rwa [(put_H st o.dst (.tup [])).2.2] at this
    have run : ((evOp G call (fl.headD false) ⟨st.sl, st.H, st.nx, false, st.base, []⟩ o).bind fun u => forceV G.sym u.v fun v => evDraw G call N ops l fl.tail ((st.up u).put o.dst v) (effOf st.nx u :: es)).Every fun x => x.1.esc = false → st.esc = false := by
      refine T.Every.bindR (fun u hu => ?_)
      rw [forceV_eq]
      refine (evDraw_esc l _ _ _).mono fun x h hx => ?_
      have := h hx
      rw [(put_H (st.up u) o.dst u.v).2.2] at this
      have : (st.esc || u.esc) = false := this
      exact (Bool.or_eq_false_iff.1 this).1
    simp only [evDraw, St.putK_eq]
    split
    · trivial
    · split
      · exact run
      · split
        · trivial
        · split
          · split
            · exact T.Every.brR (fun _ => run) fun _ => skip _
            · exact T.Every.brR (fun _ => skip _) fun _ => run
          · exact skip _
          · trivial

end Go.Proofs.YtpidkmegakdohaaGreat.Kn
