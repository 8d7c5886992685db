/- The engine, part 21: what the evaluator says of a code is so. -/
import Derived.Test.YtpidkmegakdohaaGreatK20
namespace Go.Proofs.YtpidkmegakdohaaGreat.Kn
open Go
set_option linter.unusedVariables false
set_option linter.unusedSimpArgs false

theorem CodeOk.refl {P : Program} {N : Nat} {c : Code} {st : St} {e : Ex} (h : ∀ (Q : Exit → Act → World → Prop) a w, Q (exitOf e) a w → c.wp P Q a w) : CodeOk P N c st e st :=
  ⟨id, fun f z w a ht hr hN hd Q hQ => h Q a w (hQ f z w a (Post.reflA hr) ht hN hd)⟩

/-- the same with other slots -/
theorem CodeOk.slots {P : Program} {N : Nat} {c : Code} {st : St} {s : Slots} {e : Ex} {st' : St} (h : CodeOk P N c { st with sl := s } e st') (hs : ∀ (f : Fn) (z : Z) (a : Array Value), TR f st.nx z st.sl a → TR f st.nx z s a) : CodeOk P N c st e st' :=
  ⟨h.1, fun f z w a ht hr hN hd Q hQ => h.2 f z w a (hs f z _ ht) hr hN hd Q hQ⟩

theorem CodeOk.then {P : Program} {N : Nat} {c : Code} {st st1 st' : St} {e : Ex} (h : CodeOk P N c st .normal st1) (hesc : st'.esc = false → st1.esc = false) {f : Fn} {z : Z} {w : World} {a : Act} (ht : TR f st.nx z st.sl a.tmps) (hr : Rel All f st.nx z w st.H)
    (hN : a.tmps.size = N) (hd : a.defers = []) {Q R : Exit → Act → World → Prop} (hQ : ∀ f' z' w' a', Post All f st.nx z w st.H f' st'.nx z' w' st'.H st'.esc → TR f' st'.nx z' st'.sl a'.tmps → a'.tmps.size = N → a'.defers = [] → Q (exitOf e) a' w')
    (hR : ∀ f1 z1 w1 a1, TR f1 st1.nx z1 st1.sl a1.tmps → Rel All f1 st1.nx z1 w1 st1.H → a1.tmps.size = N → a1.defers = [] →
      (∀ f' z' w' a', Post All f1 st1.nx z1 w1 st1.H f' st'.nx z' w' st'.H st'.esc → TR f' st'.nx z' st'.sl a'.tmps → a'.tmps.size = N → a'.defers = [] → Q (exitOf e) a' w') → R .normal a1 w1) : c.wp P R a w := by
  refine h.2 f z w a ht hr hN hd R fun f1 z1 w1 a1 hp1 ht1 hN1 hd1 => ?_
  refine hR f1 z1 w1 a1 ht1 hp1.all hN1 hd1 fun f' z' w' a' hp2 ht2 hN2 hd2 => ?_
  refine hQ f' z' w' a' ((Post.trans hp1 hp2).weak fun he => ?_) ht2 hN2 hd2
  rw [Bool.or_eq_false_iff]
  exact ⟨hesc he, he⟩

/-- what a loop's round may end with -/
theorem ev_loop {G : Ctx} {n F N : Nat} {c : Code} {st : St} {e : Ex} {st' : St} (h : (ev G (n + 1) F N (.loop c) st).res = some (e, st')) :
    ∃ e1 st1, (ev G n F N c st).res = some (e1, st1) ∧ ((e1 = .normal ∧ (ev G n F N (.loop c) st1).res = some (e, st')) ∨ (e1 ≠ .normal ∧ e1 = e ∧ st1 = st')) := by
  simp only [ev] at h
  obtain ⟨⟨e1, st1⟩, h1, h2⟩ := T.bind_some h
  refine ⟨e1, st1, h1, ?_⟩
  cases e1 with
  | normal => exact .inl ⟨rfl, h2⟩
  | exit id =>
    have := T.ret_some h2
    simp only [Prod.mk.injEq] at this
    exact .inr ⟨by simp, this.1, this.2⟩
  | ret =>
    have := T.ret_some h2
    simp only [Prod.mk.injEq] at this
    exact .inr ⟨by simp, this.1, this.2⟩

section
variable {P : Program} {G : Ctx} (hG : CtxOk P G) (hK : KnownOk P G)
include hG hK

omit hG hK in
theorem loop_ok {F N : Nat} {c : Code} (hdr : DrOk G F c) {e : Ex} {st' : St} {n : Nat} (ih : ∀ m, m < n → RunOk P G (ev G m)) {st : St} (h : (ev G n F N (.loop c) st).res = some (e, st')) : CodeOk P N (.loop c) st e st' := by
  have hesc : ∀ m, m ≤ n → ∀ st, (ev G m F N (.loop c) st).res = some (e, st') → st'.esc = false → st.esc = false := by
    intro m
    induction m with
    | zero => intro _ st h; exact (T.bad_some h).elim
    | succ m ihm =>
      intro hm st h he
      obtain ⟨e1, st1, h1, h2⟩ := ev_loop h
      have hc := ih m (by omega) F N c _ e1 st1 hdr h1
      rcases h2 with ⟨rfl, h2⟩ | ⟨_, rfl, rfl⟩
      · exact hc.1 (ihm (by omega) st1 h2 he)
      · exact hc.1 he
  refine ⟨hesc n (Nat.le_refl _) st h, fun f z w a ht hr hN hd Q hQ => ?_⟩
  refine wp_loop_ghost (fun m a w => m ≤ n ∧ ∃ f z st1, (ev G m F N (.loop c) st1).res = some (e, st') ∧ TR f st1.nx z st1.sl a.tmps ∧ Rel All f st1.nx z w st1.H ∧ a.tmps.size = N ∧ a.defers = [] ∧
    ∀ f' z' w' a', Post All f st1.nx z w st1.H f' st'.nx z' w' st'.H st'.esc → TR f' st'.nx z' st'.sl a'.tmps → a'.tmps.size = N → a'.defers = [] → Q (exitOf e) a' w') n ⟨Nat.le_refl _, f, z, st, h, ht, hr, hN, hd, hQ⟩ ?_
  rintro m a w ⟨hm, f, z, st, h, ht, hr, hN, hd, hQ⟩
  cases m with
  | zero => exact (T.bad_some h).elim
  | succ m =>
    obtain ⟨e1, st1, h1, h2⟩ := ev_loop h
    have hc := ih m (by omega) F N c _ e1 st1 hdr h1
    rcases h2 with ⟨rfl, h2⟩ | ⟨hne, rfl, rfl⟩
    · refine hc.then (hesc m (by omega) st1 h2) ht hr hN hd hQ fun f1 z1 w1 a1 ht1 hr1 hN1 hd1 hQ1 => ?_
      exact ⟨m, Nat.lt_succ_self m, by omega, f1, z1, st1, h2, ht1, hr1, hN1, hd1, hQ1⟩
    · refine hc.2 f z w a ht hr hN hd _ fun f' z' w' a' hp ht' hN' hd' => ?_
      have := hQ f' z' w' a' hp ht' hN' hd'
      cases e1 with
      | normal => exact absurd rfl hne
      | exit id => exact this
      | ret => exact this

theorem ev_ok : ∀ n, RunOk P G (ev G n) := by
  intro n
  induction n using Nat.strongRecOn with
  | _ n ih =>
    intro F N code st e st' hdr h
    cases n with
    | zero => exact (T.bad_some h).elim
    | succ n =>
      have ihn := ih n (Nat.lt_succ_self n)
      cases code with
      | skip =>
        have := T.ret_some h
        simp only [Prod.mk.injEq] at this
        obtain ⟨rfl, rfl⟩ := this
        exact CodeOk.refl fun Q a w h => wp_skip h
      | label l =>
        have := T.ret_some h
        simp only [Prod.mk.injEq] at this
        obtain ⟨rfl, rfl⟩ := this
        exact CodeOk.refl fun Q a w h => wp_label h
      | exit id =>
        have := T.ret_some h
        simp only [Prod.mk.injEq] at this
        obtain ⟨rfl, rfl⟩ := this
        exact CodeOk.refl fun Q a w h => wp_exit h
      | ret =>
        have := T.ret_some h
        simp only [Prod.mk.injEq] at this
        obtain ⟨rfl, rfl⟩ := this
        exact CodeOk.refl fun Q a w h => wp_ret h
      | seq x y =>
        simp only [ev] at h
        obtain ⟨⟨e1, st1⟩, h1, h2⟩ := T.bind_some h
        have hx := ihn F N x st e1 st1 hdr.1 h1
        have hother : e1 ≠ .normal → e1 = e → st1 = st' → CodeOk P N (.seq x y) st e st' := by
          rintro hne rfl rfl
          refine ⟨hx.1, fun f z w a ht hr hN hd Q hQ => wp_seq (hx.2 f z w a ht hr hN hd _ fun f' z' w' a' hp ht' hN' hd' => ?_)⟩
          have := hQ f' z' w' a' hp ht' hN' hd'
          cases e1 with
          | normal => exact absurd rfl hne
          | exit id => exact this
          | ret => exact this
        cases e1 with
        | normal =>
          have hy := ihn F N y st1 e st' hdr.2 h2
          exact ⟨fun he => hx.1 (hy.1 he), fun f z w a ht hr hN hd Q hQ => wp_seq (hx.then hy.1 ht hr hN hd hQ fun f1 z1 w1 a1 ht1 hr1 hN1 hd1 hQ1 => hy.2 f1 z1 w1 a1 ht1 hr1 hN1 hd1 Q hQ1)⟩
        | exit id =>
          have := T.ret_some h2
          simp only [Prod.mk.injEq] at this
          exact hother (by simp) this.1 this.2
        | ret =>
          have := T.ret_some h2
          simp only [Prod.mk.injEq] at this
          exact hother (by simp) this.1 this.2
      | cond c x y =>
        simp only [ev] at h
        obtain ⟨b, hb, h⟩ := split_some h
        have key : ∀ k : Code, (if b = true then x else y) = k → CodeOk P N k st e st' → CodeOk P N (.cond c x y) st e st' := by
          rintro k rfl hk
          refine ⟨hk.1, fun f z w a ht hr hN hd Q hQ => wp_cond (t := b) ?_ (hk.2 f z w a ht hr hN hd Q hQ)⟩
          have := val_ok ht c
          rw [hb] at this
          exact lit_ok this
        cases b with
        | true => exact key x (by simp) (ihn F N x _ e st' hdr.1 h)
        | false => exact key y (by simp) (ihn F N y _ e st' hdr.2 h)
      | block id c =>
        simp only [ev] at h
        obtain ⟨⟨e1, st1⟩, h1, h2⟩ := T.bind_some h
        have hx := ihn F N c st e1 st1 hdr h1
        have done : ∀ e2, (e2, st1) = (e, st') → (∀ Q : Exit → Act → World → Prop, ∀ a w, Q (exitOf e2) a w → Exit.inBlock id Q (exitOf e1) a w) → CodeOk P N (.block id c) st e st' := by
          intro e2 he hq
          simp only [Prod.mk.injEq] at he
          obtain ⟨rfl, rfl⟩ := he
          exact ⟨hx.1, fun f z w a ht hr hN hd Q hQ => wp_block (hx.2 f z w a ht hr hN hd _ fun f' z' w' a' hp ht' hN' hd' => hq Q a' w' (hQ f' z' w' a' hp ht' hN' hd'))⟩
        cases e1 with
        | normal => exact done .normal (T.ret_some h2) fun Q a w h => h
        | ret => exact done .ret (T.ret_some h2) fun Q a w h => h
        | exit k =>
          simp only at h2
          split at h2
          · rename_i hk
            have hk := nbeq hk
            exact done .normal (T.ret_some h2) fun Q a w h => by simp only [exitOf, Exit.inBlock, hk, if_true]; exact h
          · rename_i hk
            have hk : k ≠ id := fun e => by rw [e, Nat.beq_refl] at hk; cases hk
            exact done (.exit k) (T.ret_some h2) fun Q a w h => by simp only [exitOf, Exit.inBlock, hk, if_false]; exact h
      | loop c => exact loop_ok (c := c) hdr (n := n + 1) ih h
      | region id ops draw =>
        have hC : CallOk P (evKnown G (ev G n)) := evKnown_ok hG hK.dr hK.sum ihn
        cases draw with
        | false =>
          simp only [ev] at h
          obtain ⟨st1, h1, h2⟩ := T.bind_some h
          have := T.ret_some h2
          simp only [Prod.mk.injEq] at this
          obtain ⟨rfl, rfl⟩ := this
          obtain ⟨i1, i2⟩ := evOps_seq (Q := fun _ _ _ => True) hG hC ops.toList 0 st st1 (fun i => by simp) h1
          refine ⟨i1, fun f z w a ht hr hN hd Q hQ => wp_region ?_⟩
          obtain ⟨_, i2⟩ := evOps_seq (Q := Q) hG hC ops.toList 0 st st1 (fun i => by simp) h1
          rw [List.range_eq_range']
          have := i2 f z w a ht hr hN fun f' z' w' a' hp ht' hN' hd' => hQ f' z' w' a' hp ht' hN' (hd'.trans hd)
          simpa using this
        | true =>
          simp only [ev] at h
          split at h
          · exact (T.bad_some h).elim
          rename_i ri hri
          obtain ⟨⟨st1, es⟩, h1, h2⟩ := T.bind_some h
          simp only at h2
          split at h2
          · rename_i hok
            have := T.ret_some h2
            simp only [Prod.mk.injEq] at this
            obtain ⟨rfl, rfl⟩ := this
            refine ⟨(evDraw_esc ops.toList ri.fl st []).res h1, fun f z w a ht hr hN hd Q hQ => wp_region_any hG.mixed ?_⟩
            obtain ⟨r, hr1, hr2⟩ := evDraw_run hG hC (evKnown_keeps hK.sumK (ev_keeps hK.sumK n)) ops.toList 0 ri.fl st [] st1 es hr.noLive (fun i => by simp) h1
            have hes : es.reverse = r.map effS := by rw [hr1]; simp
            rw [hes] at hok
            have hP := plan_ok hr2 (hdr ri hri) hok
            have hnone : ∀ k, ¬ (Array.replicate ops.size false).getD k false = true := fun k => by
              rw [Array.getD_eq_getD_getElem?, Array.getElem?_replicate]
              split <;> simp
            have hrw : Rel All f st.nx z { w with drawn := w.drawn + 1 } st.H := hr.drew
            refine Inv.all hP hr.noLive (ds := a.defers) (f0 := f) (z0 := z) (w0 := { w with drawn := w.drawn + 1 }) (N := N) ?_ ops.size _ (by simp) (by rw [Array.toList_replicate, List.countP_replicate]; rfl) ?_ f z _ a ?_
            · rintro f' z' w' a' ⟨E, hE, hI⟩
              obtain ⟨hp, ht'⟩ := hI.done hP hE
              exact hQ f' z' w' a' hp.drew ht' hI.size (hI.defs.trans hd)
            · intro i k hk
              exact absurd hk (hnone k)
            · exact Inv.start hP hnone ht hrw hN
          · exact (T.bad_some h2).elim
      | rangeFunc => exact (T.bad_some h).elim
      | scope => exact (T.bad_some h).elim
      | goto => exact (T.bad_some h).elim
      | refuse => exact (T.bad_some h).elim

/-- A run of the evaluator is a law of the call. -/
theorem evCall_ok (n : Nat) : CallOk P (evCall G n) := evFn_ok hG hK.dr (ev_ok hG hK n)

end

end Go.Proofs.YtpidkmegakdohaaGreat.Kn
