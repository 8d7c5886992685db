/- The engine, part 19: a region that draws, whole. -/
import Derived.Test.YtpidkmegakdohaaGreatK18
namespace Go.Proofs.YtpidkmegakdohaaGreat.Kn
open Go
set_option linter.unusedVariables false
set_option linter.unusedSimpArgs false

section
variable {P : Program} {G : Ctx} {ops : Array Oper} {N : Nat} {r : List Stp} {st st' : St} (hP : Plan P G ops N r st st') {f0 : Fn} {z0 : Z} {w0 : World} {ds : List Deferred}
include hP

theorem Inv.start {f : Fn} {z : Z} {w : World} {a : Act} {E : Nat → Prop} (hE : ∀ k, ¬ E k) (ht : TR f st.nx z st.sl a.tmps) (hr : Rel All f st.nx z w st.H) (hN : a.tmps.size = N) : Inv N ops r st st' f z w a.defers E f z w a := by
  have h0 : ∀ {Wr : Nat → Prop} {p : Nat}, Last Wr E p → p = 0 := fun {Wr p} h => by
    cases p with
    | zero => rfl
    | succ i => exact absurd (h.1 i rfl).1 (hE i)
  refine ⟨hN, rfl, fun _ _ => rfl, fun _ _ _ h => h, fun _ _ _ h => .inl h, hr.zok, Fr.refl _ _, fun t p _ hL => ?_, fun b p _ hL hl => ?_, fun b c p q _ _ hL hL' hl hl' hne => ?_, fun k x hk => absurd hk (hE k)⟩
  · rw [h0 hL, hP.s0]; exact ht t
  · rw [h0 hL, hP.s0] at hl ⊢
    obtain ⟨h1, h2⟩ := hr.own b trivial hl
    exact ⟨h1, h2, fun _ => hl, fun h => by omega⟩
  · rw [h0 hL, hP.s0] at hl
    rw [h0 hL', hP.s0] at hl'
    exact hr.inj b c trivial trivial hl hl' hne

theorem Inv.done {f : Fn} {z : Z} {w : World} {a : Act} {E : Nat → Prop} (hE : ∀ k, E k ↔ k < ops.size) (hI : Inv N ops r st st' f0 z0 w0 ds E f z w a) : Post All f0 st.nx z0 w0 st.H f st'.nx z w st'.H st'.esc ∧ TR f st'.nx z st'.sl a.tmps := by
  have hn : sAt r st' ops.size = st' := by
    have : r[ops.size]? = none := List.getElem?_eq_none (by rw [hP.len]; exact Nat.le_refl _)
    simp [sAt, this]
  have hnx : st.nx ≤ st'.nx := by
    have := hP.nx_le (i := 0) (j := ops.size) (by omega) (by omega)
    rwa [hP.s0, hn] at this
  have lastOf : ∀ (Wr : Nat → Prop) p, (∀ i, i + 1 = p → Wr i) → p ≤ ops.size → (∀ k, p ≤ k → k < ops.size → ¬ Wr k) → Last Wr E p := fun Wr p h1 h2 h3 =>
    ⟨fun i hi => ⟨(hE i).2 (by omega), h1 i hi⟩, fun k hk hpk => h3 k hpk ((hE k).1 hk)⟩
  have hpos : ∀ b, (st'.H.get b).live → ∃ p, p ≤ ops.size ∧ Last (WrB r b) E p ∧ st'.H.get b = (sAt r st' p).H.get b ∧ (sAt r st' p).nx ≤ st'.nx := fun b hl => by
    obtain ⟨p, h1, h2, h3⟩ := static_last (WrB r b) ops.size
    refine ⟨p, h1, lastOf _ p h2 h1 h3, ?_, ?_⟩
    · have := hP.chainH h1 (Nat.le_refl _) h3 (.inl (by rw [hn]; exact hl))
      rwa [hn] at this
    · have := hP.nx_le h1 (Nat.le_refl _)
      rwa [hn] at this
  refine ⟨⟨hnx, hI.ext, hI.zle, hI.znew, fun b _ hs => absurd trivial hs, fun b hb hl => ?_, ⟨fun b _ hl => ?_, fun b c _ _ hl hl' hne => ?_, hI.zok⟩, fun b hb hl => ?_, hI.fr, fun he => ?_⟩, fun t => ?_⟩
  · obtain ⟨p, h1, h2, h3, _⟩ := hpos b hl
    rw [h3] at hl
    exact (hI.hp b p h1 h2 hl).2.2.1 hb
  · obtain ⟨p, h1, h2, h3, h4⟩ := hpos b hl
    rw [h3] at hl ⊢
    obtain ⟨k1, k2, _⟩ := hI.hp b p h1 h2 hl
    exact ⟨by omega, k2.up h4⟩
  · obtain ⟨p, h1, h2, h3, _⟩ := hpos b hl
    obtain ⟨q, k1, k2, k3, _⟩ := hpos c hl'
    rw [h3] at hl
    rw [k3] at hl'
    exact hI.inj b c p q h1 k1 h2 k2 hl hl' hne
  · obtain ⟨p, h1, h2, h3, _⟩ := hpos b hl
    rw [h3] at hl
    exact (hI.hp b p h1 h2 hl).2.2.2 hb
  · have hesc : ∀ d i, i + d = ops.size → (sAt r st' i).esc = false ∧ ∀ m, m ≤ st.nx → NoNew m (sAt r st' i).H → NoNew m st'.H := by
      intro d
      induction d with
      | zero => intro i hi; rw [show i = ops.size by omega, hn]; exact ⟨he, fun _ _ h => h⟩
      | succ d ih =>
        intro i hi
        obtain ⟨i1, i2⟩ := ih (i + 1) (by omega)
        obtain ⟨o, x, ho, hx, hs, hok, _⟩ := hP.get (i := i) (by omega)
        obtain ⟨_, aH, _, aesc, _⟩ := hP.after (by omega) ho hx
        rw [aesc, Bool.or_eq_false_iff] at i1
        have hle := hP.nx_le (i := 0) (j := i) (by omega) (by omega)
        rw [hP.s0, ← hs] at hle
        refine ⟨by rw [← hs]; exact i1.1, fun m hm hN => i2 m hm ?_⟩
        rw [aH]
        refine hI.noesc i x ((hE i).2 (by omega)) hx i1.2 m (by omega) ?_
        rw [hs]; exact hN
    intro m hm hN
    refine (hesc ops.size 0 (by omega)).2 m hm ?_
    rw [hP.s0]; exact hN
  · obtain ⟨p, h1, h2, h3⟩ := static_last (WrT ops t) ops.size
    have hc := hP.chainS h1 (Nat.le_refl _) h3
    rw [hn] at hc
    have hle := hP.nx_le h1 (Nat.le_refl _)
    rw [hn] at hle
    rw [hc]
    exact RS.mono (fun _ _ => rfl) hle (fun _ _ _ h => h) (hI.sl t p h1 (lastOf _ p h2 h1 h3))

theorem Plan.esc : st'.esc = false → st.esc = false := by
  intro he
  have hn : sAt r st' ops.size = st' := by
    have : r[ops.size]? = none := List.getElem?_eq_none (by rw [hP.len]; exact Nat.le_refl _)
    simp [sAt, this]
  have : ∀ d i, i + d = ops.size → (sAt r st' i).esc = false := by
    intro d
    induction d with
    | zero => intro i hi; rw [show i = ops.size by omega, hn]; exact he
    | succ d ih =>
      intro i hi
      have i1 := ih (i + 1) (by omega)
      obtain ⟨o, x, ho, hx, hs, hok, _⟩ := hP.get (i := i) (by omega)
      rw [(hP.after (by omega) ho hx).2.2.2.1, Bool.or_eq_false_iff] at i1
      rw [← hs]; exact i1.1
  rw [← hP.s0]
  exact this ops.size 0 (by omega)

/-- whatever order is drawn -/
theorem Inv.all (h0 : ∀ b, st.nx ≤ b → ¬ (st.H.get b).live) {Q : Exit → Act → World → Prop} (hQ : ∀ f z w a, (∃ E : Nat → Prop, (∀ k, E k ↔ k < ops.size) ∧ Inv N ops r st st' f0 z0 w0 ds E f z w a) → Q .normal a w) :
    ∀ (fuel : Nat) (listed : Array Bool), listed.size = ops.size → listed.toList.countP (fun b => !b) = fuel → (∀ i k, listed.getD k false = true → Pre ops i k → listed.getD i false = true) →
      ∀ (f : Fn) (z : Z) (w : World) (a : Act), Inv N ops r st st' f0 z0 w0 ds (fun k => listed.getD k false = true) f z w a → wpAny P .any ops Q fuel listed a w := by
  have hlt : ∀ (listed : Array Bool), listed.size = ops.size → ∀ k, listed.getD k false = true → k < ops.size := fun listed hs k hk => by
    rcases Nat.lt_or_ge k ops.size with h | h
    · exact h
    · rw [Array.getD_eq_getD_getElem?, Array.getElem?_eq_none (by omega)] at hk
      cases hk
  have hdone : ∀ (listed : Array Bool), listed.size = ops.size → (Region.ready .any ops listed = []) → ∀ j k, k < j → k < ops.size → listed.getD k false = true := by
    intro listed hs hr j
    induction j with
    | zero => intro k hk; omega
    | succ j ih =>
      intro k hk hkn
      rcases Nat.lt_or_ge k j with h | h
      · exact ih k h hkn
      · have hkj : k = j := by omega
        subst hkj
        cases hv : listed.getD k false with
        | true => rfl
        | false =>
          exfalso
          obtain ⟨o, x, ho, _⟩ := hP.get (i := k) hkn
          have : k ∈ Region.ready .any ops listed := by
            rw [mem_ready]
            refine ⟨?_, o, ho, fun e he hb => ?_⟩
            · have : k < listed.size := by omega
              simp [this] at hv ⊢
              exact hv
            · have h1 := hP.back k o ho e he hb
              exact ih e.on h1 (by omega)
          rw [hr] at this
          cases this
  have hfin : ∀ (listed : Array Bool), listed.size = ops.size → (Region.ready .any ops listed = []) → ∀ k, listed.getD k false = true ↔ k < ops.size := fun listed hs hr k =>
    ⟨hlt listed hs k, fun hk => hdone listed hs hr (k + 1) k (by omega) hk⟩
  intro fuel
  induction fuel with
  | zero =>
    intro listed hs hc hdown f z w a hI
    have hall : ∀ k, k < ops.size → listed.getD k false = true := fun k hk => by
      have hk' : k < listed.size := by omega
      rw [List.countP_eq_zero] at hc
      have := hc listed[k] (by simp)
      simp [hk'] at this ⊢
      exact this
    refine ⟨?_, hQ f z w a ⟨_, fun k => ⟨hlt listed hs k, hall k⟩, hI⟩⟩
    cases hr : Region.ready .any ops listed with
    | nil => rfl
    | cons j l =>
      exfalso
      have hm : j ∈ Region.ready .any ops listed := by rw [hr]; simp
      rw [mem_ready] at hm
      obtain ⟨h1, o, ho, _⟩ := hm
      have hjn : j < ops.size := (Array.getElem?_eq_some_iff.1 ho).1
      have := hall j hjn
      have hj' : j < listed.size := by omega
      simp [hj'] at h1 this
      rw [h1] at this
      cases this
  | succ fuel ih =>
    intro listed hs hc hdown f z w a hI
    refine ⟨fun hr => hQ f z w a ⟨_, hfin listed hs hr, hI⟩, fun j hj => ?_⟩
    rw [mem_ready] at hj
    obtain ⟨h1, o, ho, h2⟩ := hj
    have hjn : j < ops.size := (Array.getElem?_eq_some_iff.1 ho).1
    have hj' : j < listed.size := by omega
    have hnj : listed[j] = false := by simpa [hj'] using h1
    have hready : ∀ i, Pre ops i j → listed.getD i false = true := fun i hi => by
      obtain ⟨e, he, hb, h3⟩ := hP.clos j o i ho hi
      have h4 := h2 e he hb
      rcases h3 with rfl | h3
      · exact h4
      · exact hdown i e.on h4 h3
    have hset : ∀ k, (listed.setIfInBounds j true).getD k false = true ↔ (listed.getD k false = true ∨ k = j) := fun k => by
      by_cases e : j = k
      · subst e
        rw [Array.getD_eq_getD_getElem?, Array.getElem?_setIfInBounds_self_of_lt hj']
        simp
      · rw [getD_set_ne false e]
        exact ⟨.inl, fun h => h.resolve_right (fun h => e h.symm)⟩
    refine Inv.step hP h0 (hlt listed hs) hdown hjn (by simp [hj', hnj]) hready hI _ Q fun f' z' w' a' hI' => ?_
    refine ih _ (by simp [hs]) ?_ ?_ f' z' w' a' ?_
    · have hj3 : j < listed.toList.length := by simpa using hj'
      have e : listed.toList[j] = false := by simpa using hnj
      rw [Array.toList_setIfInBounds, List.countP_set hj3, hc, e]
      rfl
    · intro i k hk hp
      rw [hset] at hk ⊢
      rcases hk with hk | rfl
      · exact .inl (hdown i k hk hp)
      · exact .inl (hready i hp)
    · have : (fun k => (listed.setIfInBounds j true).getD k false = true) = fun k => listed.getD k false = true ∨ k = j := funext fun k => propext (hset k)
      rw [this]
      exact hI'

end

end Go.Proofs.YtpidkmegakdohaaGreat.Kn
