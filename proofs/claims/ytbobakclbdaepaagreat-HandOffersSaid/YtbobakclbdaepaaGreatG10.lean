/- Texts put together: E20, E21, E22, F0, F1. -/
import Derived.Test.YtbobakclbdaepaaGreatG09
import Derived.Deep.LoopGhost
/- The engine, part 20: code. -/
namespace Go.Proofs.YtbobakclbdaepaaGreat.En
open Go
set_option linter.unusedVariables false
set_option linter.unusedSimpArgs false

def exitOf : Ex → Exit
  | .normal => .normal
  | .exit id => .exit id
  | .ret => .ret

def CodeOk (P : Program) (N : Nat) (c : Code) (st : St) (e : Ex) (st' : St) : Prop :=
  (st'.esc = false → st.esc = false) ∧ ∀ (f : Fn) (z : Z) (w : World) (a : Act), TR f st.nx z st.sl a.tmps → Rel All f st.nx z w st.H → a.tmps.size = N → a.defers = [] →
    ∀ (Q : Exit → Act → World → Prop), (∀ f' z' w' a', Post All f st.nx z w st.H f' st'.nx z' w' st'.H st'.esc → TR f' st'.nx z' st'.sl a'.tmps → a'.tmps.size = N → a'.defers = [] → Q (exitOf e) a' w') → c.wp P Q a w

def RunOk (P : Program) (run : Nat → Nat → Code → St → T (Ex × St)) : Prop := ∀ F N c st e st', (run F N c st).res = some (e, st') → CodeOk P N c st e st'

theorem Post.drew {S : Nat → Prop} {f f' : Fn} {nx nx' : Nat} {z z' : Z} {w w' : World} {H H' : Heap} {e : Bool} {k : Nat} (h : Post S f nx z { w with drawn := k } H f' nx' z' w' H' e) : Post S f nx z w H f' nx' z' w' H' e :=
  ⟨h.hnx, h.ext, h.zle, h.znew, h.same, h.dead, h.rel, h.fresh, ⟨h.fr.size, h.fr.os, h.fr.tape, h.fr.output, h.fr.block⟩, h.noesc⟩

section
variable {P : Program} {G : Ctx} (hG : CtxOk P G)
include hG

theorem results_ok {f : Fn} {z : Z} {w : World} {st : St} {a : Array Value} (ht : TR f st.nx z st.sl a) (hr : Rel All f st.nx z w st.H) {fn : Func} {l : List AV} (h : (resultsOf G st fn.results.toList).res = some l) :
    ∃ v, (results fn a).run P w = .ok v w ∧ RS f st.nx z (outV l) v := by
  obtain ⟨vs, h1, h2⟩ := resultsOf_ok hG ht hr _ _ h
  refine ⟨if h : vs.toArray.size = 1 then vs.toArray[0] else .tuple vs.toArray, ?_, ?_⟩
  · unfold results
    rw [Array.mapM_eq_mapM_toList]
    rw [Sem.run_bind, Sem.run_map]
    erw [h1]
    rfl
  · have hlen := h2.1
    match l, vs, hlen, h2 with
    | [x], [v], _, h2 =>
      simp only [List.size_toArray, List.length_singleton, dif_pos]
      exact h2.2 0 x v rfl rfl
    | [], [], _, h2 => exact ⟨#[], by simp, h2⟩
    | x :: y :: l, u :: v :: vs, hlen, h2 => exact ⟨_, by simp, h2⟩

theorem evFn_ok {run : Nat → Nat → Code → St → T (Ex × St)} (h : RunOk P run) : CallOk P (evFn G run) := by
  intro g args H nx r hr f z w vs hrel hargs R hR
  unfold evFn at hr
  split at hr
  · exact (T.bad_some hr).elim
  rename_i fn hfn
  split at hr
  · rename_i c hb hle
    obtain ⟨⟨e, st'⟩, he, hr⟩ := T.bind_some hr
    have hrec : ∃ l, (resultsOf G st' fn.results.toList).res = some l ∧ (popK nx ⟨outV l, st'.H, st'.nx, st'.esc, st'.wr⟩ T.ret).res = some r ∧ (e = .normal ∨ e = .ret) := by
      cases e with
      | exit id => exact (T.bad_some hr).elim
      | normal => obtain ⟨l, h1, h2⟩ := T.bind_some hr; exact ⟨l, h1, h2, .inl rfl⟩
      | ret => obtain ⟨l, h1, h2⟩ := T.bind_some hr; exact ⟨l, h1, h2, .inr rfl⟩
    obtain ⟨l, hl, hp, hex⟩ := hrec
    obtain ⟨hf1, _, _⟩ := hG.fi g fn hfn
    have hle := nble hle
    have hsz : args.length = vs.size := by simpa using hargs.1
    refine calls_of_wp hf1 hb ?_
    obtain ⟨_, hc⟩ := h g fn.ntmps c _ e st' he
    refine hc f z w _ (argSlots_TR hargs _) hrel (by simp; omega) rfl _ fun f' z' w' a' hpost htr hN hd => ?_
    obtain ⟨v, hv1, hv2⟩ := results_ok hG htr hpost.all hl
    obtain ⟨hp1, hp2⟩ := pop_ok (u := ⟨outV l, st'.H, st'.nx, st'.esc, st'.wr⟩) hrel hpost hv2 hp
    rcases hex with rfl | rfl
    · exact ⟨hd, v, hv1, hR f' z' w' v hp1 hp2⟩
    · exact ⟨hd, v, hv1, hR f' z' w' v hp1 hp2⟩
  · exact (T.bad_some hr).elim

theorem evKnown_ok (hs : ∀ g s, G.sum g = some s → ∀ args H nx r, (s args H nx).res = some r → CallTo P g args H nx r) {run : Nat → Nat → Code → St → T (Ex × St)} (h : RunOk P run) : CallOk P (evKnown G run) := by
  intro g args H nx r hr
  unfold evKnown at hr
  split at hr
  · rename_i s hsum
    exact hs g s hsum args H nx r hr
  · exact evFn_ok hG h g args H nx r hr

end

/-- what is known of calls and loops is so -/
structure KnownOk (P : Program) (G : Ctx) : Prop where
  sum : ∀ g s, G.sum g = some s → ∀ args H nx r, (s args H nx).res = some r → CallTo P g args H nx r
  ls : ∀ F id L, G.ls F id = some L → ∀ N c st e st', (L N c st).res = some (e, st') → CodeOk P N c st e st'
  sumK : SumsKeep G
  lsK : LoopsKeep G
  pre : ∀ F id p, G.pre F id = some p → ∀ st st1, (p st).res = some st1 → ∀ N c e st2, CodeOk P N c st1 e st2 → CodeOk P N c st e st2
  preK : PresKeep G

theorem hook_ok {P : Program} {G : Ctx} (hK : KnownOk P G) {F id : Nat} {st st1 : St} (h : (hook G F id st).res = some st1) {N : Nat} {c : Code} {e : Ex} {st2 : St} (hc : CodeOk P N c st1 e st2) : CodeOk P N c st e st2 := by
  unfold hook at h
  split at h
  · rename_i p hp; exact hK.pre F id p hp st st1 h N c e st2 hc
  · have := T.ret_some h
    subst this
    exact hc

end Go.Proofs.YtbobakclbdaepaaGreat.En
/- The engine, part 21: what the evaluator says of a code is so. -/
namespace Go.Proofs.YtbobakclbdaepaaGreat.En
open Go
set_option linter.unusedVariables false
set_option linter.unusedSimpArgs false

theorem CodeOk.refl {P : Program} {N : Nat} {c : Code} {st : St} {e : Ex} (h : ∀ (Q : Exit → Act → World → Prop) a w, Q (exitOf e) a w → c.wp P Q a w) : CodeOk P N c st e st :=
  ⟨id, fun f z w a ht hr hN hd Q hQ => h Q a w (hQ f z w a (Post.reflA hr) ht hN hd)⟩

/-- the same with other slots -/
theorem CodeOk.slots {P : Program} {N : Nat} {c : Code} {st : St} {s : Slots} {e : Ex} {st' : St} (h : CodeOk P N c { st with sl := s } e st') (hs : ∀ (f : Fn) (z : Z) (a : Array Value), TR f st.nx z st.sl a → TR f st.nx z s a) : CodeOk P N c st e st' :=
  ⟨h.1, fun f z w a ht hr hN hd Q hQ => h.2 f z w a (hs f z _ ht) hr hN hd Q hQ⟩

theorem CodeOk.then {P : Program} {N : Nat} {c : Code} {st st1 st' : St} {e : Ex} (h : CodeOk P N c st .normal st1) (hesc : st'.esc = false → st1.esc = false) {f : Fn} {z : Z} {w : World} {a : Act} (ht : TR f st.nx z st.sl a.tmps) (hr : Rel All f st.nx z w st.H)
    (hN : a.tmps.size = N) (hd : a.defers = []) {Q R : Exit → Act → World → Prop} (hQ : ∀ f' z' w' a', Post All f st.nx z w st.H f' st'.nx z' w' st'.H st'.esc → TR f' st'.nx z' st'.sl a'.tmps → a'.tmps.size = N → a'.defers = [] → Q (exitOf e) a' w')
    (hR : ∀ f1 z1 w1 a1, TR f1 st1.nx z1 st1.sl a1.tmps → Rel All f1 st1.nx z1 w1 st1.H → a1.tmps.size = N → a1.defers = [] →
      (∀ f' z' w' a', Post All f1 st1.nx z1 w1 st1.H f' st'.nx z' w' st'.H st'.esc → TR f' st'.nx z' st'.sl a'.tmps → a'.tmps.size = N → a'.defers = [] → Q (exitOf e) a' w') → R .normal a1 w1) : c.wp P R a w := by
  refine h.2 f z w a ht hr hN hd R fun f1 z1 w1 a1 hp1 ht1 hN1 hd1 => ?_
  refine hR f1 z1 w1 a1 ht1 hp1.all hN1 hd1 fun f' z' w' a' hp2 ht2 hN2 hd2 => ?_
  refine hQ f' z' w' a' ((Post.trans hp1 hp2).weak fun he => ?_) ht2 hN2 hd2
  rw [Bool.or_eq_false_iff]
  exact ⟨hesc he, he⟩

/-- what a loop's round may end with -/
def Round (G : Ctx) (live : Nat → Nat → Option (List Nat)) (n F N : Nat) (c : Code) (st : St) (e : Ex) (st' : St) : Prop :=
  ∃ (s : Slots), (∀ (f : Fn) (z : Z) (a : Array Value), TR f st.nx z st.sl a → TR f st.nx z s a) ∧ ∃ e1 st1, (ev G live n F N c { st with sl := s }).res = some (e1, st1) ∧
    ((e1 = .normal ∧ (ev G live n F N (.loop c) st1).res = some (e, st')) ∨ (e1 ≠ .normal ∧ e1 = e ∧ st1 = st'))

theorem ev_loop {G : Ctx} {live : Nat → Nat → Option (List Nat)} {n F N : Nat} {c : Code} {st : St} {e : Ex} {st' : St} (hno : (rid c).bind (G.ls F) = none) (h : (ev G live (n + 1) F N (.loop c) st).res = some (e, st')) : Round G live n F N c st e st' := by
  have go : ∀ s : Slots, ((ev G live n F N c { st with sl := s }).bind fun x => match x.fst with | .normal => ev G live n F N (.loop c) x.snd | e => .ret (e, x.snd)).res = some (e, st') →
      ∃ e1 st1, (ev G live n F N c { st with sl := s }).res = some (e1, st1) ∧ ((e1 = .normal ∧ (ev G live n F N (.loop c) st1).res = some (e, st')) ∨ (e1 ≠ .normal ∧ e1 = e ∧ st1 = st')) := by
    intro s h
    obtain ⟨⟨e1, st1⟩, h1, h2⟩ := T.bind_some h
    refine ⟨e1, st1, h1, ?_⟩
    cases e1 with
    | normal => exact .inl ⟨rfl, h2⟩
    | exit id =>
      have := T.ret_some h2
      simp only [Prod.mk.injEq] at this
      exact .inr ⟨by simp, this.1, this.2⟩
    | ret =>
      have := T.ret_some h2
      simp only [Prod.mk.injEq] at this
      exact .inr ⟨by simp, this.1, this.2⟩
  simp only [ev, hno] at h
  split at h
  · rename_i l hl
    obtain ⟨s', h1, h2⟩ := pruneK_eq (β := T (Ex × St)) st.sl l
    rw [h1] at h
    refine ⟨s', fun f z a ht t => ?_, go s' h⟩
    rw [h2]
    split
    · exact ht t
    · trivial
  · exact ⟨st.sl, fun _ _ _ h => h, go st.sl h⟩

section
variable {P : Program} {G : Ctx} (hG : CtxOk P G) (hK : KnownOk P G) {live : Nat → Nat → Option (List Nat)}
include hG hK

omit hG hK in
theorem loop_ok {F N : Nat} {c : Code} (hno : (rid c).bind (G.ls F) = none) {e : Ex} {st' : St} {n : Nat} (ih : ∀ m, m < n → RunOk P (ev G live m)) {st : St} (h : (ev G live n F N (.loop c) st).res = some (e, st')) : CodeOk P N (.loop c) st e st' := by
  have hesc : ∀ m, m ≤ n → ∀ st, (ev G live m F N (.loop c) st).res = some (e, st') → st'.esc = false → st.esc = false := by
    intro m
    induction m with
    | zero => intro _ st h; exact (T.bad_some h).elim
    | succ m ihm =>
      intro hm st h he
      obtain ⟨s, _, e1, st1, h1, h2⟩ := ev_loop hno h
      have hc := ih m (by omega) F N c _ e1 st1 h1
      rcases h2 with ⟨rfl, h2⟩ | ⟨_, rfl, rfl⟩
      · exact hc.1 (ihm (by omega) st1 h2 he)
      · exact hc.1 he
  refine ⟨hesc n (Nat.le_refl _) st h, fun f z w a ht hr hN hd Q hQ => ?_⟩
  refine wp_loop_ghost (fun m a w => m ≤ n ∧ ∃ f z st1, (ev G live m F N (.loop c) st1).res = some (e, st') ∧ TR f st1.nx z st1.sl a.tmps ∧ Rel All f st1.nx z w st1.H ∧ a.tmps.size = N ∧ a.defers = [] ∧
    ∀ f' z' w' a', Post All f st1.nx z w st1.H f' st'.nx z' w' st'.H st'.esc → TR f' st'.nx z' st'.sl a'.tmps → a'.tmps.size = N → a'.defers = [] → Q (exitOf e) a' w') n ⟨Nat.le_refl _, f, z, st, h, ht, hr, hN, hd, hQ⟩ ?_
  rintro m a w ⟨hm, f, z, st, h, ht, hr, hN, hd, hQ⟩
  cases m with
  | zero => exact (T.bad_some h).elim
  | succ m =>
    obtain ⟨s, hs, e1, st1, h1, h2⟩ := ev_loop hno h
    have hc := (ih m (by omega) F N c _ e1 st1 h1).slots hs
    rcases h2 with ⟨rfl, h2⟩ | ⟨hne, rfl, rfl⟩
    · refine hc.then (hesc m (by omega) st1 h2) ht hr hN hd hQ fun f1 z1 w1 a1 ht1 hr1 hN1 hd1 hQ1 => ?_
      exact ⟨m, Nat.lt_succ_self m, by omega, f1, z1, st1, h2, ht1, hr1, hN1, hd1, hQ1⟩
    · refine hc.2 f z w a ht hr hN hd _ fun f' z' w' a' hp ht' hN' hd' => ?_
      have := hQ f' z' w' a' hp ht' hN' hd'
      cases e1 with
      | normal => exact absurd rfl hne
      | exit id => exact this
      | ret => exact this

theorem ev_ok : ∀ n, RunOk P (ev G live n) := by
  intro n
  induction n using Nat.strongRecOn with
  | _ n ih =>
    intro F N code st e st' h
    cases n with
    | zero => exact (T.bad_some h).elim
    | succ n =>
      have ihn := ih n (Nat.lt_succ_self n)
      cases code with
      | skip =>
        have := T.ret_some h
        simp only [Prod.mk.injEq] at this
        obtain ⟨rfl, rfl⟩ := this
        exact CodeOk.refl fun Q a w h => wp_skip h
      | label l =>
        have := T.ret_some h
        simp only [Prod.mk.injEq] at this
        obtain ⟨rfl, rfl⟩ := this
        exact CodeOk.refl fun Q a w h => wp_label h
      | exit id =>
        have := T.ret_some h
        simp only [Prod.mk.injEq] at this
        obtain ⟨rfl, rfl⟩ := this
        exact CodeOk.refl fun Q a w h => wp_exit h
      | ret =>
        have := T.ret_some h
        simp only [Prod.mk.injEq] at this
        obtain ⟨rfl, rfl⟩ := this
        exact CodeOk.refl fun Q a w h => wp_ret h
      | seq x y =>
        cases hL : (rid0 x).bind (G.ls F) with
        | some L =>
          simp only [ev, hL] at h
          obtain ⟨id, _, h2⟩ := Option.bind_eq_some_iff.1 hL
          exact hK.ls F id L h2 N (.seq x y) st e st' h
        | none =>
        simp only [ev, hL] at h
        obtain ⟨⟨e1, st1⟩, h1, h2⟩ := T.bind_some h
        have hx := ihn F N x st e1 st1 h1
        have hother : e1 ≠ .normal → e1 = e → st1 = st' → CodeOk P N (.seq x y) st e st' := by
          rintro hne rfl rfl
          refine ⟨hx.1, fun f z w a ht hr hN hd Q hQ => wp_seq (hx.2 f z w a ht hr hN hd _ fun f' z' w' a' hp ht' hN' hd' => ?_)⟩
          have := hQ f' z' w' a' hp ht' hN' hd'
          cases e1 with
          | normal => exact absurd rfl hne
          | exit id => exact this
          | ret => exact this
        cases e1 with
        | normal =>
          have hy := ihn F N y st1 e st' h2
          exact ⟨fun he => hx.1 (hy.1 he), fun f z w a ht hr hN hd Q hQ => wp_seq (hx.then hy.1 ht hr hN hd hQ fun f1 z1 w1 a1 ht1 hr1 hN1 hd1 hQ1 => hy.2 f1 z1 w1 a1 ht1 hr1 hN1 hd1 Q hQ1)⟩
        | exit id =>
          have := T.ret_some h2
          simp only [Prod.mk.injEq] at this
          exact hother (by simp) this.1 this.2
        | ret =>
          have := T.ret_some h2
          simp only [Prod.mk.injEq] at this
          exact hother (by simp) this.1 this.2
      | cond c x y =>
        simp only [ev] at h
        obtain ⟨b, hb, h⟩ := split_some h
        obtain ⟨s1, s2, s3⟩ := setB_H st c b
        have key : ∀ k : Code, (if b = true then x else y) = k → CodeOk P N k (st.setB c b) e st' → CodeOk P N (.cond c x y) st e st' := by
          rintro k rfl hk
          refine ⟨fun he => by rw [← s3]; exact hk.1 he, fun f z w a ht hr hN hd Q hQ => wp_cond (t := b) ?_ ?_⟩
          · have := val_ok ht c
            rw [hb] at this
            exact lit_ok this
          · have ht' := setB_TR ht hb
            refine hk.2 f z w a ht' (by rw [s1, s2]; exact hr) hN hd Q fun f' z' w' a' hp => ?_
            rw [s1, s2] at hp
            exact hQ f' z' w' a' hp
        cases b with
        | true => exact key x (by simp) (ihn F N x _ e st' h)
        | false => exact key y (by simp) (ihn F N y _ e st' h)
      | block id c =>
        simp only [ev] at h
        obtain ⟨⟨e1, st1⟩, h1, h2⟩ := T.bind_some h
        have hx := ihn F N c st e1 st1 h1
        have done : ∀ e2, (e2, st1) = (e, st') → (∀ Q : Exit → Act → World → Prop, ∀ a w, Q (exitOf e2) a w → Exit.inBlock id Q (exitOf e1) a w) → CodeOk P N (.block id c) st e st' := by
          intro e2 he hq
          simp only [Prod.mk.injEq] at he
          obtain ⟨rfl, rfl⟩ := he
          exact ⟨hx.1, fun f z w a ht hr hN hd Q hQ => wp_block (hx.2 f z w a ht hr hN hd _ fun f' z' w' a' hp ht' hN' hd' => hq Q a' w' (hQ f' z' w' a' hp ht' hN' hd'))⟩
        cases e1 with
        | normal => exact done .normal (T.ret_some h2) fun Q a w h => h
        | ret => exact done .ret (T.ret_some h2) fun Q a w h => h
        | exit k =>
          simp only at h2
          split at h2
          · rename_i hk
            have hk := nbeq hk
            exact done .normal (T.ret_some h2) fun Q a w h => by simp only [exitOf, Exit.inBlock, hk, if_true]; exact h
          · rename_i hk
            have hk : k ≠ id := fun e => by rw [e, Nat.beq_refl] at hk; cases hk
            exact done (.exit k) (T.ret_some h2) fun Q a w h => by simp only [exitOf, Exit.inBlock, hk, if_false]; exact h
      | loop c =>
        cases hL : (rid c).bind (G.ls F) with
        | none => exact loop_ok hL (n := n + 1) ih h
        | some L =>
          simp only [ev, hL] at h
          obtain ⟨id, _, h2⟩ := Option.bind_eq_some_iff.1 hL
          exact hK.ls F id L h2 N (.loop c) st e st' h
      | region id ops draw =>
        have hC : CallOk P (evKnown G (ev G live n)) := evKnown_ok hG hK.sum ihn
        cases draw with
        | false =>
          simp only [ev] at h
          obtain ⟨st0, h0, h⟩ := T.bind_some h
          refine hook_ok hK h0 ?_
          clear h0
          revert h
          generalize st0 = st
          intro h
          obtain ⟨st1, h1, h2⟩ := T.bind_some h
          have := T.ret_some h2
          simp only [Prod.mk.injEq] at this
          obtain ⟨rfl, rfl⟩ := this
          obtain ⟨i1, i2⟩ := evOps_seq (Q := fun _ _ _ => True) hG hC ops.toList 0 st st1 (fun i => by simp) h1
          refine ⟨i1, fun f z w a ht hr hN hd Q hQ => wp_region ?_⟩
          obtain ⟨_, i2⟩ := evOps_seq (Q := Q) hG hC ops.toList 0 st st1 (fun i => by simp) h1
          rw [List.range_eq_range']
          have := i2 f z w a ht hr hN fun f' z' w' a' hp ht' hN' hd' => hQ f' z' w' a' hp ht' hN' (hd'.trans hd)
          simpa using this
        | true =>
          simp only [ev] at h
          obtain ⟨st0, h0, h⟩ := T.bind_some h
          refine hook_ok hK h0 ?_
          clear h0
          revert h
          generalize st0 = st
          intro h
          obtain ⟨⟨st1, es⟩, h1, h2⟩ := T.bind_some h
          simp only at h2
          split at h2
          · rename_i hok
            have := T.ret_some h2
            simp only [Prod.mk.injEq] at this
            obtain ⟨rfl, rfl⟩ := this
            obtain ⟨r, hr1, hr2⟩ := evDraw_run hG hC (evKnown_keeps hK.sumK (ev_keeps hK.sumK hK.lsK hK.preK n)) ops.toList 0 st [] st1 es (fun i => by simp) h1
            have hes : es.reverse = r.map effS := by rw [hr1]; simp
            rw [hes] at hok
            have hP := plan_ok hr2 hok
            refine ⟨hP.esc, fun f z w a ht hr hN hd Q hQ => wp_region_any hG.mixed ?_⟩
            have hnone : ∀ k, ¬ (Array.replicate ops.size false).getD k false = true := fun k => by
              rw [Array.getD_eq_getD_getElem?, Array.getElem?_replicate]
              split <;> simp
            have hrw : Rel All f st.nx z { w with drawn := w.drawn + 1 } st.H := hr.drew
            refine Inv.all hP hr.noLive (ds := a.defers) (f0 := f) (z0 := z) (w0 := { w with drawn := w.drawn + 1 }) (N := N) ?_ ops.size _ (by simp) (by rw [Array.toList_replicate, List.countP_replicate]; rfl) ?_ f z _ a ?_
            · rintro f' z' w' a' ⟨E, hE, hI⟩
              obtain ⟨hp, ht'⟩ := hI.done hP hE
              exact hQ f' z' w' a' hp.drew ht' hI.size (hI.defs.trans hd)
            · intro i k hk
              exact absurd hk (hnone k)
            · exact Inv.start hP hnone ht hrw hN
          · exact (T.bad_some h2).elim
      | rangeFunc => exact (T.bad_some h).elim
      | scope => exact (T.bad_some h).elim
      | goto => exact (T.bad_some h).elim
      | refuse => exact (T.bad_some h).elim

/-- A run of the evaluator is a law of the call. -/
theorem evCall_ok (n : Nat) : CallOk P (evCall G live n) := evFn_ok hG (ev_ok hG hK n)

end

end Go.Proofs.YtbobakclbdaepaaGreat.En
/- The engine, part 22: tables; a closed call. -/
namespace Go.Proofs.YtbobakclbdaepaaGreat.En
open Go
set_option linter.unusedVariables false
set_option linter.unusedSimpArgs false

def Tab.Every {α : Type} (p : Nat → α → Prop) : Tab α → Prop
  | .leaf => True
  | .node k v l r => p k v ∧ l.Every p ∧ r.Every p

theorem Tab.Every.get {α : Type} {p : Nat → α → Prop} : ∀ {t : Tab α}, t.Every p → ∀ {k : Nat} {v : α}, t.get k = some v → p k v
  | .leaf, _, k, v, h => by cases h
  | .node k0 v0 l r, ⟨h1, h2, h3⟩, k, v, h => by
    simp only [Tab.get] at h
    split at h
    · rename_i e
      have := nbeq e
      simp only [Option.some.injEq] at h
      subst this h
      exact h1
    · split at h
      · exact Tab.Every.get h2 h
      · exact Tab.Every.get h3 h

/-- nothing of one's own yet -/
def noFn : Fn := fun _ => ⟨0, 0, 0⟩
def noZ : Z := fun _ _ => none

theorem Rel.empty (w : World) : Rel All noFn 0 noZ w [] := ⟨fun b _ h => h.elim, fun b c _ _ h => h.elim, fun k o v h => by cases h⟩

/-- what stands in the world already, and isn't written: told by a prover -/
structure Seen (z : Z) (w : World) : Prop where
  ok : ∀ k o v, z k o = some v → w.cell? ⟨k, o, none⟩ = some v

theorem Rel.seen {z : Z} {w : World} (h : Seen z w) : Rel All noFn 0 z w [] := ⟨fun b _ h => h.elim, fun b c _ _ h => h.elim, h.ok⟩

theorem Post.below {f f' : Fn} {z z' : Z} {w w' : World} {n : Nat} {H : Heap} {e : Bool} (h : Post All f 0 z w [] f' n z' w' H e) : Go.RowKit.Below w.heap.size w w' :=
  (h.fr.less fun x _ ⟨b, _, hl, _⟩ => hl.elim).below

/-- nothing is known of calls, nor of loops -/
theorem KnownOk.nothing {P : Program} {ti : Nat → Option TI} {fi : Nat → Option Func} {sym : Bool} : KnownOk P ⟨ti, fi, sym, fun _ => Option.none, fun _ _ => Option.none, fun _ _ => Option.none⟩ where
  sum := fun _ _ h => (Option.some_ne_none _ h.symm).elim
  ls := fun _ _ _ h => (Option.some_ne_none _ h.symm).elim
  sumK := fun _ _ h => (Option.some_ne_none _ h.symm).elim
  lsK := fun _ _ _ h => (Option.some_ne_none _ h.symm).elim
  pre := fun _ _ _ h => (Option.some_ne_none _ h.symm).elim
  preK := fun _ _ _ h => (Option.some_ne_none _ h.symm).elim

/-- A closed run that comes to true. -/
theorem calls_true {P : Program} {G : Ctx} (hG : CtxOk P G) (hK : KnownOk P G) {live : Nat → Nat → Option (List Nat)} {n g : Nat} {args : List AV} {z : Z} {w : World} {vs : Array Value} (hz : Seen z w) (ha : RAs noFn 0 z args vs.toList)
    (h : ((evCall G live n g args [] 0).bind fun o => match o.v with | .v (.one (.f (.lit (.bool b)))) => .ret b | _ => .bad).res = some true) :
    Calls P g vs w fun e w' => e = .returned (.bool true) ∧ Go.RowKit.Below w.heap.size w w' := by
  obtain ⟨o, h1, h2⟩ := T.bind_some h
  split at h2
  · rename_i b hv
    have := T.ret_some h2
    subst this
    refine evCall_ok hG hK n g args [] 0 o h1 noFn z w vs (Rel.seen hz) ha _ fun f' z' w' v' hp hv' => ⟨?_, hp.below⟩
    rw [hv] at hv'
    rw [lit_ok hv']
  · exact (T.bad_some h2).elim

end Go.Proofs.YtbobakclbdaepaaGreat.En
/- The engine, part 23: blocks under other names. -/
namespace Go.Proofs.YtbobakclbdaepaaGreat.En
open Go
set_option linter.unusedVariables false
set_option linter.unusedSimpArgs false

def CV.ren (ρ : Nat → Nat) : CV → CV
  | .f x => .f x
  | .ptr b m i j => .ptr (ρ b) m i j
  | .sl nil b m i j len cap ex sz => .sl nil (ρ b) m i j len cap ex sz
  | .mp b => .mp (ρ b)
  | .fn g l => .fn g (l.map fun x => (ρ x.1, x.2.1, x.2.2.1, x.2.2.2))

def AV.ren (ρ : Nat → Nat) : AV → AV
  | .one x => .one (x.ren ρ)
  | .agg l => .agg (l.map (CV.ren ρ))

def SV.ren (ρ : Nat → Nat) : SV → SV
  | .v x => .v (x.ren ρ)
  | .tup l => .tup (l.map (AV.ren ρ))
  | .top => .top

def Ob.ren (ρ : Nat → Nat) : Ob → Ob
  | .cells l => .cells (l.map (CV.ren ρ))
  | .arr live sz n e => .arr live sz n e
  | .map es => .map es
  | .dead => .dead

def AV.refs (a : AV) : List Nat := a.cells.flatMap CV.refs

/-- where the names lead -/
def Led (f f' : Fn) (nx' : Nat) (ρ : Nat → Nat) (c : Nat) : Prop := f' (ρ c) = f c ∧ ρ c < nx'

theorem RC.ren {f f' : Fn} {nx nx' : Nat} {z : Z} {ρ : Nat → Nat} {x : CV} {v : Value} (h : RC f nx z x v) (hr : ∀ c ∈ x.refs, Led f f' nx' ρ c) : RC f' nx' z (x.ren ρ) v := by
  cases x with
  | f x => exact h
  | ptr b m i j =>
    obtain ⟨h1, h2⟩ := hr b (by simp [CV.refs])
    obtain ⟨_, rfl⟩ := h
    exact ⟨h2, by simp [ad, h1]⟩
  | sl nil b m i j len cap ex sz =>
    obtain ⟨h1, h2⟩ := hr b (by simp [CV.refs])
    obtain ⟨_, h3, h4⟩ := h
    refine ⟨h2, h3, fun hn => ?_⟩
    obtain ⟨c, rfl, h5⟩ := h4 hn
    exact ⟨c, by simp [ad, h1], by rw [h1]; exact h5⟩
  | mp b =>
    obtain ⟨h1, h2⟩ := hr b (by simp [CV.refs])
    obtain ⟨_, rfl⟩ := h
    exact ⟨h2, by rw [h1]⟩
  | fn g l =>
    obtain ⟨rfl, _⟩ := h
    refine ⟨?_, fun x hx => ?_⟩
    · rw [List.map_map]
      congr 2
      refine List.map_congr_left fun x hx => ?_
      obtain ⟨h1, _⟩ := hr x.1 (by simp only [CV.refs, List.mem_map]; exact ⟨x, hx, rfl⟩)
      simp [ad, h1]
    · simp only [List.mem_map] at hx
      obtain ⟨y, hy, rfl⟩ := hx
      exact (hr y.1 (by simp only [CV.refs, List.mem_map]; exact ⟨y, hy, rfl⟩)).2

theorem RL.ren {f f' : Fn} {nx nx' : Nat} {z : Z} {ρ : Nat → Nat} {l : List CV} {vs : List Value} (h : RL f nx z l vs) (hr : ∀ c ∈ l.flatMap CV.refs, Led f f' nx' ρ c) : RL f' nx' z (l.map (CV.ren ρ)) vs := by
  refine ⟨by simp [h.1], fun i x v hx hv => ?_⟩
  simp only [List.getElem?_map] at hx
  cases hq : l[i]? with
  | none => rw [hq] at hx; cases hx
  | some y =>
    rw [hq] at hx
    simp only [Option.map_some, Option.some.injEq] at hx
    subst hx
    exact (h.2 i y v hq hv).ren fun c hc => hr c (List.mem_flatMap.2 ⟨y, List.mem_of_getElem? hq, hc⟩)

theorem RA.ren {f f' : Fn} {nx nx' : Nat} {z : Z} {ρ : Nat → Nat} {x : AV} {v : Value} (h : RA f nx z x v) (hr : ∀ c ∈ x.refs, Led f f' nx' ρ c) : RA f' nx' z (x.ren ρ) v := by
  cases x with
  | one x => exact RC.ren h fun c hc => hr c (by simp [AV.refs, AV.cells, hc])
  | agg l =>
    obtain ⟨cs, rfl, h⟩ := h
    exact ⟨cs, rfl, h.ren hr⟩

theorem RAs.ren {f f' : Fn} {nx nx' : Nat} {z : Z} {ρ : Nat → Nat} {l : List AV} {vs : List Value} (h : RAs f nx z l vs) (hr : ∀ c ∈ l.flatMap AV.refs, Led f f' nx' ρ c) : RAs f' nx' z (l.map (AV.ren ρ)) vs := by
  refine ⟨by simp [h.1], fun i x v hx hv => ?_⟩
  simp only [List.getElem?_map] at hx
  cases hq : l[i]? with
  | none => rw [hq] at hx; cases hx
  | some y =>
    rw [hq] at hx
    simp only [Option.map_some, Option.some.injEq] at hx
    subst hx
    exact (h.2 i y v hq hv).ren fun c hc => hr c (List.mem_flatMap.2 ⟨y, List.mem_of_getElem? hq, hc⟩)

theorem SV.refs_v (a : AV) : (SV.v a).refs = a.refs := rfl

theorem RS.ren {f f' : Fn} {nx nx' : Nat} {z : Z} {ρ : Nat → Nat} {x : SV} {v : Value} (h : RS f nx z x v) (hr : ∀ c ∈ x.refs, Led f f' nx' ρ c) : RS f' nx' z (x.ren ρ) v := by
  cases x with
  | v x => exact RA.ren h hr
  | tup l =>
    obtain ⟨vs, rfl, h⟩ := h
    exact ⟨vs, rfl, h.ren hr⟩
  | top => trivial

theorem Ob.ren_live (ρ : Nat → Nat) (o : Ob) : (o.ren ρ).live ↔ o.live := by cases o <;> exact Iff.rfl

theorem Ob.ren_at {ρ : Nat → Nat} {o : Ob} {m i j : Nat} {x : CV} (h : (o.ren ρ).at m i j = some x) : ∃ y, o.at m i j = some y ∧ x = y.ren ρ ∧ (∀ c ∈ y.refs, c ∈ o.refs) := by
  cases o with
  | cells l =>
    simp only [Ob.ren, Ob.at] at h
    split at h
    · rename_i hz
      simp only [List.getElem?_map] at h
      cases hq : l[j]? with
      | none => rw [hq] at h; cases h
      | some y =>
        rw [hq] at h
        simp only [Option.map_some, Option.some.injEq] at h
        exact ⟨y, by simp only [Ob.at]; rw [if_pos hz, hq], h.symm, fun c hc => List.mem_flatMap.2 ⟨y, List.mem_of_getElem? hq, hc⟩⟩
    · cases h
  | arr live sz n e =>
    simp only [Ob.ren] at h
    have h' := h
    simp only [Ob.at] at h
    split at h
    · rename_i hz
      cases hq : (e i)[j]? with
      | none => rw [hq] at h; cases h
      | some y =>
        rw [hq] at h
        simp only [Option.map_some, Option.some.injEq] at h
        subst h
        exact ⟨.f y, h', rfl, fun c hc => by simp [CV.refs] at hc⟩
    · cases h
  | map es => cases h
  | dead => cases h

theorem BOk.ren {f f' : Fn} {nx nx' : Nat} {z : Z} {w : World} {b b' : Nat} {o : Ob} {ρ : Nat → Nat} (h : BOk f nx z w b o) (hb : f' b' = f b) (hr : ∀ c ∈ o.refs, Led f f' nx' ρ c) : BOk f' nx' z w b' (o.ren ρ) := by
  refine ⟨by rw [hb]; exact h.lt, by rw [hb]; exact h.own, fun p hp => by rw [hb] at hp ⊢; exact h.room p hp, fun m i j x hx => ?_, fun es he => by
    cases o <;> simp only [Ob.ren, reduceCtorEq, Ob.map.injEq] at he
    subst he
    rw [hb]; exact h.map _ rfl⟩
  obtain ⟨y, hy, rfl, hc⟩ := Ob.ren_at hx
  obtain ⟨h1, v, h2, h3⟩ := h.cell m i j y hy
  refine ⟨by rw [hb]; exact h1, v, ?_, h3.ren fun c hq => hr c (hc c hq)⟩
  simp only [ad, hb] at h2 ⊢
  exact h2

/-! new names: those below m stay; 'news' come to be m, m + 1, .. -/

/-- the place of a number -/
def place : List Nat → Nat → Nat
  | [], _ => 0
  | x :: r, c => match Nat.beq x c with | true => 0 | false => place r c + 1

def reName (m : Nat) (news : List Nat) (c : Nat) : Nat := match Nat.ble (c + 1) m with | true => c | false => m + place news c
def unName (m : Nat) (news : List Nat) (n : Nat) : Nat := match Nat.ble (n + 1) m with | true => n | false => news.getD (n - m) 0

theorem place_get : ∀ (l : List Nat) (c : Nat), c ∈ l → place l c < l.length ∧ l.getD (place l c) 0 = c
  | [], c, h => by cases h
  | x :: r, c, h => by
    simp only [place]
    split
    · rename_i e
      have := nbeq e
      subst this
      exact ⟨by simp, by simp⟩
    · rename_i e
      have hne : x ≠ c := fun h => by subst h; simp at e
      obtain ⟨h1, h2⟩ := place_get r c (by
        rcases List.mem_cons.1 h with h | h
        · exact absurd h.symm hne
        · exact h)
      exact ⟨by simp [h1], by simpa using h2⟩

theorem ble_iff (a b : Nat) : Nat.ble a b = true ↔ a ≤ b := ⟨nble, Nat.ble_eq_true_of_le⟩
theorem ble_false {a b : Nat} (h : ¬ a ≤ b) : Nat.ble a b = false := by
  cases hq : Nat.ble a b with
  | false => rfl
  | true => exact absurd (nble hq) h

theorem unName_reName {m : Nat} {news : List Nat} {c : Nat} (h : c < m ∨ c ∈ news) : unName m news (reName m news c) = c ∧ reName m news c < m + news.length := by
  by_cases hc : c < m
  · have h1 : Nat.ble (c + 1) m = true := Nat.ble_eq_true_of_le hc
    simp only [reName, h1, unName]
    exact ⟨trivial, by omega⟩
  · have h1 : Nat.ble (c + 1) m = false := ble_false (by omega)
    obtain ⟨h2, h3⟩ := place_get news c (h.resolve_left hc)
    have h4 : Nat.ble (m + place news c + 1) m = false := ble_false (by omega)
    simp only [reName, h1, unName, h4]
    exact ⟨by rw [Nat.add_sub_cancel_left]; exact h3, by omega⟩

/-- the new blocks -/
def laid (H : Heap) (ρ : Nat → Nat) : Nat → List Nat → Heap
  | _, [] => []
  | k, b :: r => (k, (H.get b).ren ρ) :: laid H ρ (k + 1) r

def renH (m : Nat) (news : List Nat) (H : Heap) : Heap :=
  ((H.filter fun e => Nat.ble (e.1 + 1) m).map fun e => (e.1, e.2.ren (reName m news))) ++ laid H (reName m news) m news

theorem get_laid (H : Heap) (ρ : Nat → Nat) : ∀ (news : List Nat) (k b : Nat), Heap.get (laid H ρ k news) b = if k ≤ b ∧ b < k + news.length then (H.get (news.getD (b - k) 0)).ren ρ else .dead
  | [], k, b => by
    simp only [laid, Heap.get, List.length_nil]
    rw [if_neg (by omega)]
  | x :: r, k, b => by
    simp only [laid]
    rw [Heap.get_cons, get_laid H ρ r (k + 1) b]
    by_cases e : k = b
    · subst e
      simp
    · rw [if_neg e]
      by_cases h : k + 1 ≤ b ∧ b < k + 1 + r.length
      · rw [if_pos h, if_pos ⟨by omega, by simp only [List.length_cons]; omega⟩]
        obtain ⟨d, rfl⟩ : ∃ d, b = k + 1 + d := ⟨b - (k + 1), by omega⟩
        rw [show k + 1 + d - (k + 1) = d by omega, show k + 1 + d - k = d + 1 by omega]
        simp
      · rw [if_neg h, if_neg (by simp only [List.length_cons]; omega)]

theorem get_map_ren (ρ : Nat → Nat) : ∀ (H : Heap) (b : Nat), Heap.get (H.map fun e => (e.1, e.2.ren ρ)) b = (H.get b).ren ρ
  | [], b => rfl
  | (k, o) :: r, b => by
    simp only [List.map_cons]
    rw [Heap.get_cons, Heap.get_cons, get_map_ren ρ r b]
    split <;> rfl

theorem get_renH {m : Nat} {news : List Nat} {H : Heap} {b : Nat} (hl : ((renH m news H).get b).live) : b < m + news.length ∧ (renH m news H).get b = (H.get (unName m news b)).ren (reName m news) := by
  have h1 : ∀ b, Heap.get ((H.filter fun e => Nat.ble (e.1 + 1) m).map fun e => (e.1, e.2.ren (reName m news))) b = if b < m then (H.get b).ren (reName m news) else .dead := fun b => by
    rw [get_map_ren, get_filter (fun b => Nat.ble (b + 1) m)]
    by_cases hb : b < m
    · rw [if_pos (Nat.ble_eq_true_of_le hb), if_pos hb]
    · rw [if_neg (by rw [ble_false (by omega)]; simp), if_neg hb]; rfl
  have h2 := get_laid H (reName m news) news m b
  unfold renH at hl ⊢
  rcases get_append ((H.filter fun e => Nat.ble (e.1 + 1) m).map fun e => (e.1, e.2.ren (reName m news))) (laid H (reName m news) m news) b with e | ⟨e1, e2⟩
  · rw [e, h1] at hl ⊢
    by_cases hb : b < m
    · rw [if_pos hb] at hl ⊢
      have : Nat.ble (b + 1) m = true := Nat.ble_eq_true_of_le hb
      exact ⟨by omega, by simp only [unName, this]⟩
    · rw [if_neg hb] at hl
      exact hl.elim
  · rw [e2, h2] at hl ⊢
    by_cases hb : m ≤ b ∧ b < m + news.length
    · rw [if_pos hb] at hl ⊢
      have : Nat.ble (b + 1) m = false := ble_false (by omega)
      exact ⟨hb.2, by simp only [unName, this]⟩
    · rw [if_neg hb] at hl
      exact hl.elim

/-- the names are in order -/
structure Names (m nx : Nat) (news : List Nat) (H : Heap) : Prop where
  hm : m ≤ nx
  ge : ∀ c ∈ news, m ≤ c ∧ c < nx
  nodup : news.Nodup
  refs : ∀ b, (b < m ∨ b ∈ news) → ∀ c ∈ (H.get b).refs, c < m ∨ c ∈ news

theorem Names.led {m nx : Nat} {news : List Nat} {H : Heap} (h : Names m nx news H) (f : Fn) {c : Nat} (hc : c < m ∨ c ∈ news) : Led f (fun b => f (unName m news b)) (m + news.length) (reName m news) c := by
  obtain ⟨h1, h2⟩ := unName_reName hc
  exact ⟨by simp only [h1], h2⟩

theorem unName_in {m : Nat} {news : List Nat} {b : Nat} (h : b < m + news.length) : (unName m news b = b ∧ b < m) ∨ (m ≤ b ∧ unName m news b ∈ news) := by
  by_cases hb : b < m
  · have : Nat.ble (b + 1) m = true := Nat.ble_eq_true_of_le hb
    exact .inl ⟨by simp only [unName, this], hb⟩
  · have : Nat.ble (b + 1) m = false := ble_false (by omega)
    refine .inr ⟨by omega, ?_⟩
    simp only [unName, this]
    have hlt : b - m < news.length := by omega
    rw [List.getD_eq_getElem?_getD, List.getElem?_eq_getElem hlt]
    exact List.getElem_mem hlt

theorem unName_inj {m nx : Nat} {news : List Nat} {H : Heap} (h : Names m nx news H) {a b : Nat} (ha : a < m + news.length) (hb : b < m + news.length) (e : unName m news a = unName m news b) : a = b := by
  rcases unName_in ha with ⟨h1, h2⟩ | ⟨h1, h2⟩ <;> rcases unName_in hb with ⟨h3, h4⟩ | ⟨h3, h4⟩
  · rw [h1, h3] at e; exact e
  · rw [h1] at e; have := (h.ge _ h4).1; omega
  · rw [h3] at e; have := (h.ge _ h2).1; omega
  · have p : Nat.ble (a + 1) m = false := ble_false (by omega)
    have q : Nat.ble (b + 1) m = false := ble_false (by omega)
    simp only [unName, p, q] at e
    have la : a - m < news.length := by omega
    have lb : b - m < news.length := by omega
    rw [List.getD_eq_getElem?_getD, List.getD_eq_getElem?_getD, List.getElem?_eq_getElem la, List.getElem?_eq_getElem lb] at e
    have := (List.getElem_inj h.nodup).1 e
    omega

theorem Rel.ren {f : Fn} {nx : Nat} {z : Z} {w : World} {H : Heap} {m : Nat} {news : List Nat} (hr : Rel All f nx z w H) (h : Names m nx news H) :
    Rel All (fun b => f (unName m news b)) (m + news.length) z w (renH m news H) := by
  refine ⟨fun b _ hl => ?_, fun b c _ _ hl hl' hne => ?_, hr.zok⟩
  · obtain ⟨h1, h2⟩ := get_renH hl
    refine ⟨h1, ?_⟩
    rw [h2] at hl ⊢
    rw [Ob.ren_live] at hl
    refine (hr.own _ trivial hl).2.ren rfl fun c hc => h.led f (h.refs _ ?_ c hc)
    rcases unName_in h1 with ⟨e, e'⟩ | ⟨_, e⟩
    · rw [e]; exact .inl e'
    · exact .inr e
  · obtain ⟨h1, h2⟩ := get_renH hl
    obtain ⟨h3, h4⟩ := get_renH hl'
    rw [h2, Ob.ren_live] at hl
    rw [h4, Ob.ren_live] at hl'
    exact hr.inj _ _ trivial trivial hl hl' fun e => hne (unName_inj h h1 h3 e)

end Go.Proofs.YtbobakclbdaepaaGreat.En
/- The engine, part 24: states that say less; a loop that is known. -/
namespace Go.Proofs.YtbobakclbdaepaaGreat.En
open Go
set_option linter.unusedVariables false
set_option linter.unusedSimpArgs false

theorem Post.trans' {f f1 f2 : Fn} {nx n1 m n2 : Nat} {z z1 z2 : Z} {w w1 w2 : World} {H H1 H2 : Heap} {e1 e2 : Bool}
    (h : Post All f nx z w H f1 n1 z1 w1 H1 e1) (k : Post All f1 m z1 w1 H1 f2 n2 z2 w2 H2 e2) (hm : nx ≤ m) : Post All f nx z w H f2 n2 z2 w2 H2 (e1 || e2) := by
  have himg : ∀ x, img All f1 H1 x → w.heap.size ≤ x ∨ img All f H x := by
    rintro x ⟨b, _, hl, rfl⟩
    rcases Nat.lt_or_ge b nx with hb | hb
    · exact .inr ⟨b, trivial, h.dead b hb hl, by rw [h.ext b hb]⟩
    · exact h.fresh b hb hl
  refine ⟨Nat.le_trans hm k.hnx, fun b hb => (k.ext b (Nat.lt_of_lt_of_le hb hm)).trans (h.ext b hb), fun a b c hv => k.zle _ _ _ (h.zle _ _ _ hv), fun a b c hv => ?_, fun b _ hs => absurd trivial hs,
    fun b hb hl => h.dead b hb (k.dead b (Nat.lt_of_lt_of_le hb hm) hl), ⟨fun b _ => k.rel.own b (.inl trivial), fun b c _ _ => k.rel.inj b c (.inl trivial) (.inl trivial), k.rel.zok⟩, fun b hb hl => ?_, ?_, fun he m' hm' hN => ?_⟩
  · rcases k.znew a b c hv with h1 | h1 | h1
    · exact h.znew a b c h1
    · exact .inr (.inl (Nat.le_trans h.fr.size h1))
    · exact .inr (himg _ h1)
  · rcases Nat.lt_or_ge b m with h1 | h1
    · rw [k.ext b h1]
      exact h.fresh b hb (k.dead b h1 hl)
    · rcases k.fresh b h1 hl with h2 | h2
      · exact .inl (Nat.le_trans h.fr.size h2)
      · exact himg _ h2
  · refine h.fr.trans k.fr fun x hx hi => ?_
    rcases himg x hi with h1 | h1
    · omega
    · exact h1
  · simp only [Bool.or_eq_false_iff] at he
    exact k.noesc he.2 m' (Nat.le_trans hm' hm) (h.noesc he.1 m' hm' hN)

theorem Post.lower {f f1 : Fn} {nx n1 m : Nat} {z z1 : Z} {w w1 : World} {H H1 : Heap} {e : Bool} (h : Post All f nx z w H f1 n1 z1 w1 H1 e) (hm : m ≤ nx) : Post All f m z w H f1 n1 z1 w1 H1 e :=
  ⟨Nat.le_trans hm h.hnx, fun b hb => h.ext b (by omega), h.zle, h.znew, fun _ _ hs => absurd trivial hs, fun b hb => h.dead b (by omega), ⟨fun b _ => h.rel.own b (.inl trivial), fun b c _ _ => h.rel.inj b c (.inl trivial) (.inl trivial), h.rel.zok⟩, fun b hb hl => by
    rcases Nat.lt_or_ge b nx with h1 | h1
    · rw [h.ext b h1]; exact .inr ⟨b, trivial, h.dead b h1 hl, rfl⟩
    · exact h.fresh b h1 hl, h.fr, fun he m' hm' => h.noesc he m' (by omega)⟩

theorem beyond_refs {x : CV} {n : Nat} : x.beyond n = false ↔ ∀ c ∈ x.refs, c < n := by
  have key : ∀ b : Nat, Nat.ble n b = false ↔ b < n := fun b => by
    constructor
    · intro h
      rcases Nat.lt_or_ge b n with h' | h'
      · exact h'
      · rw [Nat.ble_eq_true_of_le h'] at h; cases h
    · intro h; exact ble_false (by omega)
  cases x with
  | f x => simp [CV.beyond, CV.refs]
  | ptr => simp [CV.beyond, CV.refs, key]
  | sl => simp [CV.beyond, CV.refs, key]
  | mp => simp [CV.beyond, CV.refs, key]
  | fn g l =>
    simp only [CV.beyond, CV.refs, List.any_eq_false, List.mem_map, Bool.not_eq_true, key]
    constructor
    · rintro h c ⟨y, hy, rfl⟩; exact h y hy
    · intro h y hy; exact h _ ⟨y, hy, rfl⟩

theorem Post.ren {f : Fn} {nx : Nat} {z : Z} {w : World} {H : Heap} {m : Nat} {news : List Nat} {esc : Bool} (hr : Rel All f nx z w H) (h : Names m nx news H) :
    Post All f m z w H (fun b => f (unName m news b)) (m + news.length) z w (renH m news H) esc := by
  have un : ∀ b, b < m → unName m news b = b := fun b hb => by
    have : Nat.ble (b + 1) m = true := Nat.ble_eq_true_of_le hb
    simp only [unName, this]
  have hR := hr.ren h
  refine ⟨Nat.le_add_right _ _, fun b hb => by simp only [un b hb], fun _ _ _ h => h, fun _ _ _ h => .inl h, fun _ _ hs => absurd trivial hs, fun b hb hl => ?_, ⟨fun b _ => hR.own b trivial, fun b c _ _ => hR.inj b c trivial trivial, hR.zok⟩, fun b hb hl => ?_, Fr.refl _ _, fun _ m' hm' hN b l hb hg x hx => ?_⟩
  · obtain ⟨_, h2⟩ := get_renH hl
    rw [h2, Ob.ren_live, un b hb] at hl
    exact hl
  · obtain ⟨_, h2⟩ := get_renH hl
    rw [h2, Ob.ren_live] at hl
    exact .inr ⟨_, trivial, hl, rfl⟩
  · have hl : ((renH m news H).get b).live := by rw [hg]; trivial
    obtain ⟨_, h2⟩ := get_renH hl
    rw [hg, un b (by omega)] at h2
    cases ho : H.get b with
    | cells l0 =>
      rw [ho] at h2
      simp only [Ob.ren, Ob.cells.injEq] at h2
      subst h2
      obtain ⟨y, hy, rfl⟩ := List.mem_map.1 hx
      have hy' := beyond_refs.1 (hN b l0 hb ho y hy)
      rw [beyond_refs]
      have e : y.ren (reName m news) = y := by
        have rn : ∀ c ∈ y.refs, reName m news c = c := fun c hc => by
          have : Nat.ble (c + 1) m = true := Nat.ble_eq_true_of_le (by have := hy' c hc; omega)
          simp only [reName, this]
        cases y with
        | f x => rfl
        | ptr b => simp only [CV.ren, rn b (by simp [CV.refs])]
        | sl nil b => simp only [CV.ren, rn b (by simp [CV.refs])]
        | mp b => simp only [CV.ren, rn b (by simp [CV.refs])]
        | fn g l =>
          simp only [CV.ren, CV.fn.injEq, true_and]
          have : ∀ x ∈ l, (fun x : Nat × Nat × Nat × Nat => (reName m news x.1, x.2.1, x.2.2.1, x.2.2.2)) x = id x := fun x hx => by
            simp only [rn x.1 (List.mem_map.2 ⟨x, hx, rfl⟩), id]
          rw [List.map_congr_left this, List.map_id]
      rw [e]
      exact hy'
    | arr => rw [ho] at h2; cases h2
    | map => rw [ho] at h2; cases h2
    | dead => rw [ho] at h2; cases h2

/-- s' says less than s; what lies below m keeps its name -/
structure StLe (m : Nat) (s s' : St) : Prop where
  esc : s'.esc = false → s.esc = false
  to : ∀ (f : Fn) (z : Z) (w : World) (a : Array Value), TR f s.nx z s.sl a → Rel All f s.nx z w s.H → ∃ f' z', TR f' s'.nx z' s'.sl a ∧ Post All f m z w s.H f' s'.nx z' w s'.H s'.esc

theorem StLe.refl {m : Nat} {s : St} (h : m ≤ s.nx) : StLe m s s :=
  ⟨id, fun f z w a ht hr => ⟨f, z, ht, by
    have := Post.reflA (esc := s.esc) hr
    refine ⟨h, fun b hb => rfl, this.zle, this.znew, fun _ _ hs => absurd trivial hs, fun b _ hl => hl, ⟨fun b _ => hr.own b trivial, fun b c _ _ => hr.inj b c trivial trivial, hr.zok⟩, fun b hb hl => .inr ⟨b, trivial, hl, rfl⟩, this.fr, fun _ _ _ h => h⟩⟩⟩

theorem StLe.trans {m : Nat} {a b c : St} (h : StLe m a b) (k : StLe m b c) : StLe m a c :=
  ⟨fun e => h.esc (k.esc e), fun f z w t ht hr => by
    obtain ⟨f1, z1, t1, p1⟩ := h.to f z w t ht hr
    obtain ⟨f2, z2, t2, p2⟩ := k.to f1 z1 w t t1 p1.all
    refine ⟨f2, z2, t2, (Post.trans' p1 p2 (Nat.le_refl _)).weak fun e => ?_⟩
    rw [Bool.or_eq_false_iff]
    exact ⟨k.esc e, e⟩⟩

/-- slots of which less is said -/
theorem StLe.slots {m : Nat} {s : St} {sl : Slots} (hm : m ≤ s.nx) (h : ∀ t, sl.get t = .top ∨ sl.get t = s.sl.get t) : StLe m s { s with sl := sl } :=
  ⟨id, fun f z w a ht hr => by
    obtain ⟨f', z', t', p'⟩ := (StLe.refl hm).to f z w a ht hr
    obtain ⟨f1, z1, _, p1⟩ := (StLe.refl hm).to f z w a ht hr
    refine ⟨f, z, fun t => ?_, ?_⟩
    · rcases h t with e | e
      · simp only [e]; trivial
      · simp only [e]; exact ht t
    · exact ⟨hm, fun b hb => rfl, fun _ _ _ h => h, fun _ _ _ h => .inl h, fun _ _ hs => absurd trivial hs, fun b _ hl => hl, ⟨fun b _ => hr.own b trivial, fun b c _ _ => hr.inj b c trivial trivial, hr.zok⟩, fun b hb hl => .inr ⟨b, trivial, hl, rfl⟩, Fr.refl _ _, fun _ _ _ h => h⟩⟩

/-- another name for some blocks; the others are dropped -/
theorem StLe.ren {m : Nat} {s : St} {news : List Nat} (h : Names m s.nx news s.H) (hs : ∀ t c, c ∈ (s.sl.get t).refs → c < m ∨ c ∈ news) {base : Nat} {wr : List Nat} :
    StLe m s ⟨s.sl.map fun x => (x.1, x.2.ren (reName m news)), renH m news s.H, m + news.length, s.esc, base, wr⟩ :=
  ⟨id, fun f z w a ht hr => ⟨fun b => f (unName m news b), z, fun t => by
    have : ∀ (l : Slots) (t : Nat), Slots.get (l.map fun x => (x.1, x.2.ren (reName m news))) t = (Slots.get l t).ren (reName m news) := by
      intro l t
      induction l with
      | nil => rfl
      | cons x l ih =>
        obtain ⟨k, v⟩ := x
        simp only [List.map_cons]
        rw [Slots.get_cons, Slots.get_cons, ih]
        split <;> rfl
    rw [this]
    exact (ht t).ren fun c hc => h.led f (hs t c hc), Post.ren hr h⟩⟩

/-- a run of a loop, from round to round -/
inductive Chain {α : Type} (S : α → St) (μ : α → Nat) (m : Nat) (run : St → T (Ex × St)) : α → Ex → St → Prop
  | stop {p : α} {e : Ex} {st1 st2 : St} (h : (run (S p)).res = some (e, st1)) (hne : e ≠ .normal) (hle : StLe m st1 st2) : Chain S μ m run p e st2
  | step {p p' : α} {e : Ex} {st1 st2 : St} (h : (run (S p)).res = some (.normal, st1)) (hle : StLe m st1 (S p')) (hμ : μ p' < μ p) (hc : Chain S μ m run p' e st2) : Chain S μ m run p e st2

theorem Chain.esc {α : Type} {S : α → St} {μ : α → Nat} {m N : Nat} {run : St → T (Ex × St)} {P : Program} {c : Code} (hrun : ∀ st e st', (run st).res = some (e, st') → CodeOk P N c st e st') {p : α} {e : Ex} {st' : St}
    (h : Chain S μ m run p e st') : st'.esc = false → (S p).esc = false := by
  induction h with
  | stop h hne hle => exact fun he => (hrun _ _ _ h).1 (hle.esc he)
  | step h hle hμ hc ih => exact fun he => (hrun _ _ _ h).1 (hle.esc (ih he))

theorem Chain.ok {α : Type} {S : α → St} {μ : α → Nat} {m N : Nat} {run : St → T (Ex × St)} {P : Program} {c : Code} (hrun : ∀ st e st', (run st).res = some (e, st') → CodeOk P N c st e st') (hm : ∀ p, m ≤ (S p).nx)
    {p : α} {e : Ex} {st' st0 : St} (h : Chain S μ m run p e st') (h0 : StLe m st0 (S p)) (hnx : st0.nx = m) : CodeOk P N (.loop c) st0 e st' := by
  refine ⟨fun he => h0.esc (h.esc hrun he), fun f z w a ht hr hN hd Q hQ => ?_⟩
  obtain ⟨f0, z0, ht0, hp0⟩ := h0.to f z w a.tmps ht hr
  refine wp_loop_ghost (fun k a w => ∃ p, μ p = k ∧ Chain S μ m run p e st' ∧ ∃ f z, TR f (S p).nx z (S p).sl a.tmps ∧ Rel All f (S p).nx z w (S p).H ∧ a.tmps.size = N ∧ a.defers = [] ∧
    ∀ f' z' w' a', Post All f m z w (S p).H f' st'.nx z' w' st'.H st'.esc → TR f' st'.nx z' st'.sl a'.tmps → a'.tmps.size = N → a'.defers = [] → Q (exitOf e) a' w') (μ p) ⟨p, rfl, h, f0, z0, ht0, hp0.all, hN, hd, fun f' z' w' a' hp ht' hN' hd' => ?_⟩ ?_
  · refine hQ f' z' w' a' ?_ ht' hN' hd'
    rw [hnx]
    refine (Post.trans' hp0 hp (Nat.le_refl _)).weak fun he => ?_
    rw [Bool.or_eq_false_iff]
    exact ⟨h.esc hrun he, he⟩
  · rintro k a w ⟨p, rfl, h, f, z, ht, hr, hN, hd, hQ⟩
    cases h with
    | stop h hne hle =>
      rename_i st1
      refine (hrun _ _ _ h).2 f z w a ht hr hN hd _ fun f1 z1 w1 a1 hp1 ht1 hN1 hd1 => ?_
      obtain ⟨f2, z2, ht2, hp2⟩ := hle.to f1 z1 w1 a1.tmps ht1 hp1.all
      have := hQ f2 z2 w1 a1 ((Post.trans' (hp1.lower (hm p)) hp2 (Nat.le_refl _)).weak fun he => by
        rw [Bool.or_eq_false_iff]
        exact ⟨hle.esc he, he⟩) ht2 hN1 hd1
      cases e with
      | normal => exact absurd rfl hne
      | exit id => exact this
      | ret => exact this
    | step h hle hμ hc =>
      rename_i p' st1
      refine (hrun _ _ _ h).2 f z w a ht hr hN hd _ fun f1 z1 w1 a1 hp1 ht1 hN1 hd1 => ?_
      obtain ⟨f2, z2, ht2, hp2⟩ := hle.to f1 z1 w1 a1.tmps ht1 hp1.all
      refine ⟨μ p', hμ, p', rfl, hc, f2, z2, ht2, hp2.all, hN1, hd1, fun f' z' w' a' hp ht' hN' hd' => ?_⟩
      have hp3 := (Post.trans' (hp1.lower (hm p)) hp2 (Nat.le_refl _))
      refine hQ f' z' w' a' ((Post.trans' hp3 hp (Nat.le_refl _)).weak fun he => ?_) ht' hN' hd'
      have h1 := hc.esc hrun he
      rw [Bool.or_eq_false_iff, Bool.or_eq_false_iff]
      exact ⟨⟨hle.esc h1, h1⟩, he⟩

end Go.Proofs.YtbobakclbdaepaaGreat.En
