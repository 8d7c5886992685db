/- The engine, part 18: a region that draws: one operation more. -/
import Derived.Test.YtpidkmegakdohaaGreatK17
namespace Go.Proofs.YtpidkmegakdohaaGreat.Kn
open Go
set_option linter.unusedVariables false
set_option linter.unusedSimpArgs false

theorem RS.refs_lt {f : Fn} {nx : Nat} {z : Z} {x : SV} {v : Value} (h : RS f nx z x v) : ∀ b ∈ x.refs, b < nx := by
  have one : ∀ {a : AV} {u : Value}, RA f nx z a u → ∀ b ∈ a.cells.flatMap CV.refs, b < nx := fun {a u} h b hb => by
    obtain ⟨y, hy, hb2⟩ := List.mem_flatMap.1 hb
    cases a with
    | one x => simp only [AV.cells, List.mem_singleton] at hy; subst hy; exact RC.refs_lt h b hb2
    | agg l =>
      obtain ⟨cs, rfl, h1, h2⟩ := h
      obtain ⟨i, hi⟩ := List.mem_iff_getElem?.1 hy
      have hlt : i < cs.toList.length := by rw [← h1]; exact (List.getElem?_eq_some_iff.1 hi).1
      exact RC.refs_lt (h2 i y _ hi (List.getElem?_eq_getElem hlt)) b hb2
  intro b hb
  cases x with
  | v a => exact one h b hb
  | tup l =>
    obtain ⟨vs, rfl, h1, h2⟩ := h
    obtain ⟨a, ha, hb⟩ := List.mem_flatMap.1 hb
    obtain ⟨i, hi⟩ := List.mem_iff_getElem?.1 ha
    have hlt : i < vs.toList.length := by rw [← h1]; exact (List.getElem?_eq_some_iff.1 hi).1
    exact one (h2 i a _ hi (List.getElem?_eq_getElem hlt)) b hb
  | top => cases hb

section
variable {P : Program} {G : Ctx} {ops : Array Oper} {N : Nat} {r : List Stp} {st st' : St} (hP : Plan P G ops N r st st') {f0 : Fn} {z0 : Z} {w0 : World} {ds : List Deferred}
include hP

/-- what is executed names blocks that are made -/
theorem Plan.named {E : Nat → Prop} (hEn : ∀ k, E k → k < ops.size) (hdown : ∀ i k, E k → Pre ops i k → E i) {j : Nat} (hj : j < ops.size) (hnj : ¬ E j) {x : Stp} (hx : r[j]? = some x) {k : Nat} (hk : E k) {y : Stp} (hy : r[k]? = some y)
    {b : Nat} (hb : b ∈ (effS y).rf) (hlt : b < (sAt r st' (k + 1)).nx) : ¬ (x.s.nx ≤ b ∧ b < x.u.nx) := by
  rintro ⟨h1, h2⟩
  have hxs : x.s = sAt r st' j := by simp [sAt, hx]
  have hkn := hEn k hk
  rcases Nat.lt_trichotomy j k with h | h | h
  · exact hnj (hdown j k hk (hP.refs k y hy b hb j x h hx h1 h2))
  · exact hnj (h ▸ hk)
  · have := hP.nx_le (i := k + 1) (j := j) (by omega) (by omega)
    rw [← hxs] at this
    omega

theorem Inv.step (h0 : ∀ b, st.nx ≤ b → ¬ (st.H.get b).live) {E : Nat → Prop} (hEn : ∀ k, E k → k < ops.size) (hdown : ∀ i k, E k → Pre ops i k → E i) {j : Nat} (hj : j < ops.size) (hnj : ¬ E j) (hready : ∀ i, Pre ops i j → E i)
    {f : Fn} {z : Z} {w : World} {a : Act} (hI : Inv N ops r st st' f0 z0 w0 ds E f z w a) (K : Act → World → Prop) (Q : Exit → Act → World → Prop)
    (hK : ∀ f' z' w' a', Inv N ops r st st' f0 z0 w0 ds (fun k => E k ∨ k = j) f' z' w' a' → K a' w') : wpOp P ops Q j K a w := by
  obtain ⟨o, x, ho, hx, hs, hok, _⟩ := hP.get hj
  obtain ⟨_, aH, anx, aesc, asl⟩ := hP.after hj ho hx
  have hn0 : st.nx ≤ x.s.nx := by
    have := hP.nx_le (i := 0) (j := j) (by omega) (by omega)
    rwa [hP.s0, ← hs] at this
  have atH := fun {b : Nat} (hb : b ∈ x.u.fp ∨ b ∈ x.u.wr) => hP.atH hEn hdown hj hnj hready hx hb
  -- what it looks at is as in the text's order
  have hpos : ∀ {b : Nat}, (b ∈ x.u.fp ∨ b ∈ x.u.wr) → (x.s.H.get b).live → ∃ p, p ≤ j ∧ Last (WrB r b) E p ∧ x.s.H.get b = (sAt r st' p).H.get b ∧ ((sAt r st' p).H.get b).live := fun hb hl => by
    obtain ⟨p, h1, h2, h3⟩ := atH hb
    rw [← hs] at h3
    have h3 := h3 (.inl hl)
    exact ⟨p, h1, h2, h3, by rw [← h3]; exact hl⟩
  have hrel : Rel (Sx x.u.fp x.u.wr) f x.s.nx z w x.s.H := by
    refine ⟨fun b hb hl => ?_, fun b c hb hc hl hl' hne => ?_, hI.zok⟩
    · obtain ⟨p, h1, h2, h3, h4⟩ := hpos hb hl
      obtain ⟨h5, h6, _⟩ := hI.hp b p (by omega) h2 h4
      have hle := hP.nx_le (i := p) (j := j) h1 (by omega)
      rw [← hs] at hle
      rw [h3]
      exact ⟨by omega, h6.up hle⟩
    · obtain ⟨p, h1, h2, _, h4⟩ := hpos hb hl
      obtain ⟨q, k1, k2, _, k4⟩ := hpos hc hl'
      exact hI.inj b c p q (by omega) (by omega) h2 k2 h4 k4 hne
  refine hok.sem f z w a (fun t ht => ?_) hrel (fun b hb => ?_) K Q fun f' z' w' v' hp hv => ?_
  · obtain ⟨p, h1, h2, h3⟩ := hP.atS hEn hdown hj hnj hready ho ht
    have hle := hP.nx_le (i := p) (j := j) h1 (by omega)
    rw [hs, h3]
    exact RS.mono (fun _ _ => rfl) hle (fun _ _ _ h => h) (hI.sl t p (by omega) h2)
  · rw [hs] at hb ⊢
    exact hP.noLive h0 (by omega) b hb
  -- behind it
  let g : Fn := fun b => if x.s.nx ≤ b ∧ b < x.u.nx then f' b else f b
  have e1 : Ext x.u.nx f' g := fun b hb => by
    show (if x.s.nx ≤ b ∧ b < x.u.nx then f' b else f b) = f' b
    by_cases h : x.s.nx ≤ b
    · rw [if_pos ⟨h, hb⟩]
    · rw [if_neg (fun e => h e.1)]
      exact (hp.ext b (by omega)).symm
  have e2 : ∀ b, b ∉ x.u.wr → g b = f b := fun b hb => by
    show (if x.s.nx ≤ b ∧ b < x.u.nx then f' b else f b) = f b
    rw [if_neg (fun e => hb (hok.new b e.1 e.2))]
  have e3 : ∀ b, ¬ (x.s.nx ≤ b ∧ b < x.u.nx) → g b = f b := fun b hb => by
    show (if x.s.nx ≤ b ∧ b < x.u.nx then f' b else f b) = f b
    rw [if_neg hb]
  have e4 : Ext st.nx f g := fun b hb => e3 b (by omega)
  -- the blocks that it was told of
  have hY : ∀ d, (d ∈ x.u.fp ∨ d ∈ x.u.wr) → (x.s.H.get d).live → w0.heap.size ≤ (f d).k ∨ img All f0 st.H (f d).k := fun d hd hl => by
    obtain ⟨p, h1, h2, _, h4⟩ := hpos hd hl
    obtain ⟨_, _, h6, h7⟩ := hI.hp d p (by omega) h2 h4
    rcases Nat.lt_or_ge d st.nx with h | h
    · exact .inr ⟨d, trivial, h6 h, by rw [hI.ext d h]⟩
    · exact h7 h
  have himg : ∀ k, img (Sx x.u.fp x.u.wr) f x.s.H k → w0.heap.size ≤ k ∨ img All f0 st.H k := by
    rintro k ⟨d, hd, hl, rfl⟩
    exact hY d hd hl
  have hZ : ∀ b, (b ∈ x.u.fp ∨ b ∈ x.u.wr) → (x.u.H.get b).live → w.heap.size ≤ (f' b).k ∨ ∃ d, (d ∈ x.u.fp ∨ d ∈ x.u.wr) ∧ (x.s.H.get d).live ∧ (f d).k = (f' b).k := fun b hb hl => by
    rcases Nat.lt_or_ge b x.s.nx with h | h
    · exact .inr ⟨b, hb, hp.dead b h hl, by rw [hp.ext b h]⟩
    · exact (hp.fresh b h hl).imp id fun ⟨d, h1, h2, h3⟩ => ⟨d, h1, h2, h3⟩
  have hlastT : ∀ t p, Last (WrT ops t) (fun k => E k ∨ k = j) p → o.dst ≠ some t → Last (WrT ops t) E p := fun t p hL hd =>
    ⟨fun i hi => by
      obtain ⟨h1, h2⟩ := hL.1 i hi
      refine ⟨h1.resolve_right fun e => ?_, h2⟩
      obtain ⟨oi, h3, h4⟩ := h2
      rw [e, ho] at h3
      simp only [Option.some.injEq] at h3
      exact hd (h3 ▸ h4), fun k hk => hL.2 k (.inl hk)⟩
  have hlastB : ∀ b p, Last (WrB r b) (fun k => E k ∨ k = j) p → b ∉ x.u.wr → Last (WrB r b) E p := fun b p hL hd =>
    ⟨fun i hi => by
      obtain ⟨h1, h2⟩ := hL.1 i hi
      refine ⟨h1.resolve_right fun e => ?_, h2⟩
      obtain ⟨xi, h3, h4⟩ := h2
      rw [e, hx] at h3
      simp only [Option.some.injEq] at h3
      exact hd (h3 ▸ h4), fun k hk => hL.2 k (.inl hk)⟩
  have hatT : ∀ t p, Last (WrT ops t) (fun k => E k ∨ k = j) p → o.dst = some t → p = j + 1 := fun t p hL hd => by
    have h1 : ¬ p ≤ j := fun h => hL.2 j (.inr rfl) h ⟨o, ho, hd⟩
    rcases Nat.lt_or_ge (j + 1) p with h | h
    · obtain ⟨h2, h3⟩ := hL.1 (p - 1) (by omega)
      have h2 := h2.resolve_right (by omega)
      exact absurd (hdown j (p - 1) h2 (hP.wrT' (by omega) ho h3 (.inr hd))) hnj
    · omega
  have hatB : ∀ b p, Last (WrB r b) (fun k => E k ∨ k = j) p → b ∈ x.u.wr → p = j + 1 := fun b p hL hd => by
    have h1 : ¬ p ≤ j := fun h => hL.2 j (.inr rfl) h ⟨x, hx, hd⟩
    rcases Nat.lt_or_ge (j + 1) p with h | h
    · obtain ⟨h2, h3⟩ := hL.1 (p - 1) (by omega)
      have h2 := h2.resolve_right (by omega)
      exact absurd (hdown j (p - 1) h2 (hP.wrH' (by omega) (hEn _ h2) hx (.inr hd) h3)) hnj
    · omega
  -- a block that it doesn't write, but looks at
  have hread : ∀ b p, Last (WrB r b) E p → b ∈ x.u.fp → b ∉ x.u.wr → ((sAt r st' p).H.get b).live → p ≤ j ∧ x.u.H.get b = (sAt r st' p).H.get b := fun b p hL hb hn hl => by
    obtain ⟨q, h1, h2, h3⟩ := atH (.inl hb)
    have := hL.uniq h2
    subst this
    refine ⟨h1, ?_⟩
    have h3 := h3 (.inr hl)
    rw [hok.keep b hn (.inr (by rw [hs, h3]; exact hl)), hs, h3]
  refine hK g z' w' _ ⟨?_, ?_, ?_, ?_, ?_, hp.rel.zok, ?_, ?_, ?_, ?_, ?_⟩
  · cases hd : o.dst with
    | none => exact hI.size
    | some d => simp [Act.put]; exact hI.size
  · cases hd : o.dst with
    | none => exact hI.defs
    | some d => exact hI.defs
  · exact fun b hb => (e4 b hb).trans (hI.ext b hb)
  · exact fun k p v h => hp.zle _ _ _ (hI.zle _ _ _ h)
  · intro k p v h
    rcases hp.znew k p v h with h1 | h1 | h1
    · exact hI.znew k p v h1
    · exact .inr (.inl (Nat.le_trans hI.fr.size h1))
    · exact .inr (himg k h1)
  · refine hI.fr.trans hp.fr fun k hk hi => ?_
    rcases himg k hi with h1 | h1
    · omega
    · exact h1
  -- slots
  · intro t p hpn hL
    by_cases hd : o.dst = some t
    · have := hatT t p hL hd
      subst this
      have hlt : t < a.tmps.size := by rw [hI.size]; exact hok.dst t hd
      rw [anx, asl t, if_pos hd]
      have : (a.put o.dst v').tmps.getD t undef = v' := by
        rw [hd]
        simp only [Act.put]
        rw [Array.getD_eq_getD_getElem?, Array.getElem?_setIfInBounds_self_of_lt hlt]
        rfl
      rw [this]
      exact RS.mono e1 (Nat.le_refl _) (fun _ _ _ h => h) hv
    · have hL' := hlastT t p hL hd
      have : (a.put o.dst v').tmps.getD t undef = a.tmps.getD t undef := by
        cases hd' : o.dst with
        | none => rfl
        | some d =>
          simp only [Act.put]
          rw [Array.getD_eq_getD_getElem?, Array.getD_eq_getD_getElem?, Array.getElem?_setIfInBounds_ne (fun e => hd (by rw [hd', e]))]
      rw [this]
      have hold := hI.sl t p hpn hL'
      cases p with
      | zero =>
        rw [hP.s0] at hold ⊢
        exact RS.mono e4 (Nat.le_refl _) hp.zle hold
      | succ i =>
        obtain ⟨hEi, oi, hoi, hdi⟩ := hL'.1 i rfl
        obtain ⟨_, xi, _, hxi, _⟩ := hP.get (hEn i hEi)
        have hsl := (hP.after (hEn i hEi) hoi hxi).2.2.2.2 t
        rw [if_pos hdi] at hsl
        refine RS.agree hp.zle (fun b hb => e3 b (hP.named hEn hdown hj hnj hx hEi hxi ?_ (RS.refs_lt hold b hb))) hold
        rw [hsl] at hb
        exact List.mem_append.2 (.inl hb)
  -- blocks
  · intro b p hpn hL hl
    by_cases hd : b ∈ x.u.wr
    · have := hatB b p hL hd
      subst this
      rw [aH] at hl
      rw [aH, anx]
      obtain ⟨h1, h2⟩ := hp.rel.own b (.inl (.inr hd)) hl
      refine ⟨h1, h2.ext h1 e1, fun hb => ?_, fun hb => ?_⟩
      · have hl' := hp.dead b (by omega) hl
        obtain ⟨q, k1, k2, _, k4⟩ := hpos (.inr hd) hl'
        exact (hI.hp b q (by omega) k2 k4).2.2.1 hb
      · rw [e1 b h1]
        rcases hZ b (.inr hd) hl with h3 | ⟨d, h3, h4, h5⟩
        · exact .inl (Nat.le_trans hI.fr.size h3)
        · rw [← h5]; exact hY d h3 h4
    · have hL' := hlastB b p hL hd
      obtain ⟨h1, h2, h3, h4⟩ := hI.hp b p hpn hL' hl
      have eb := e2 b hd
      refine ⟨h1, ?_, h3, fun hb => by rw [eb]; exact h4 hb⟩
      by_cases hf : b ∈ x.u.fp
      · obtain ⟨hpj, hg⟩ := hread b p hL' hf hd hl
        have hl2 : (x.u.H.get b).live := by rw [hg]; exact hl
        obtain ⟨k1, k2⟩ := hp.rel.own b (.inl (.inl hf)) hl2
        rw [hg] at k2
        exact (k2.ext k1 e1).re h2
      · have hni : ¬ img (Sx x.u.fp x.u.wr) f x.s.H (f b).k := by
          rintro ⟨d, hd', hdl, he⟩
          obtain ⟨q, q1, q2, _, q4⟩ := hpos hd' hdl
          refine hI.inj d b q p (by omega) hpn q2 hL' q4 hl (fun e => ?_) he
          subst e
          exact hd'.elim hf hd
        have hk : BOk f (sAt r st' p).nx z' w' b ((sAt r st' p).H.get b) := h2.kept h1 hp.fr hni (fun _ _ => rfl) (Nat.le_refl _) hp.zle hp.znew
        refine hk.agree eb fun m i k y hy c hc => ?_
        cases p with
        | zero =>
          obtain ⟨_, u, _, hu⟩ := hk.cell m i k y hy
          have := RC.refs_lt hu c hc
          rw [hP.s0] at this
          exact e4 c this
        | succ i' =>
          obtain ⟨hEi, xi, hxi, hbi⟩ := hL'.1 i' rfl
          obtain ⟨oi, _, hoi, _⟩ := hP.get (hEn i' hEi)
          have hclt : c < (sAt r st' (i' + 1)).nx := by
            obtain ⟨_, u, _, hu⟩ := hk.cell m i k y hy
            exact RC.refs_lt hu c hc
          refine e3 c (hP.named hEn hdown hj hnj hx hEi hxi ?_ hclt)
          rw [(hP.after (hEn i' hEi) hoi hxi).2.1] at hy
          exact List.mem_append.2 (.inr (List.mem_flatMap.2 ⟨b, hbi, Ob.at_refs hy c hc⟩))
  -- no two of them are one
  · -- what is told of behind it
    have hin : ∀ b p, Last (WrB r b) (fun k => E k ∨ k = j) p → p ≤ ops.size → ((sAt r st' p).H.get b).live → (b ∈ x.u.fp ∨ b ∈ x.u.wr) → (x.u.H.get b).live ∧ g b = f' b := fun b p hL hpn hl hb => by
      by_cases hd : b ∈ x.u.wr
      · have := hatB b p hL hd
        subst this
        rw [aH] at hl
        exact ⟨hl, e1 b (hok.lt b hd)⟩
      · have hf := hb.resolve_right hd
        have hL' := hlastB b p hL hd
        obtain ⟨hpj, hg⟩ := hread b p hL' hf hd hl
        have hlt := (hI.hp b p hpn hL' hl).1
        have hle := hP.nx_le (i := p) (j := j) hpj (by omega)
        rw [← hs] at hle
        have := hok.nx
        exact ⟨by rw [hg]; exact hl, e1 b (by omega)⟩
    have side : ∀ b c p q, Last (WrB r b) (fun k => E k ∨ k = j) p → Last (WrB r c) (fun k => E k ∨ k = j) q → p ≤ ops.size → q ≤ ops.size → ((sAt r st' p).H.get b).live → ((sAt r st' q).H.get c).live →
        (b ∈ x.u.fp ∨ b ∈ x.u.wr) → ¬ (c ∈ x.u.fp ∨ c ∈ x.u.wr) → (g b).k ≠ (g c).k := by
      intro b c p q hp1 hq1 hpn hqn hl hl' hb hc
      simp only [not_or] at hc
      obtain ⟨hb1, hb2⟩ := hin b p hp1 hpn hl hb
      have hL' := hlastB c q hq1 hc.2
      rw [hb2, e2 c hc.2]
      rcases hZ b hb hb1 with h3 | ⟨d, h3, h4, h5⟩
      · have := (hI.hp c q hqn hL' hl').2.1.lt
        omega
      · obtain ⟨p', k1, k2, _, k4⟩ := hpos h3 h4
        rw [← h5]
        refine hI.inj d c p' q (by omega) hqn k2 hL' k4 hl' fun e => ?_
        subst e
        exact h3.elim hc.1 hc.2
    intro b c p q hpn hqn hp1 hq1 hl hl' hne
    by_cases hb : b ∈ x.u.fp ∨ b ∈ x.u.wr
    · by_cases hc : c ∈ x.u.fp ∨ c ∈ x.u.wr
      · obtain ⟨hb1, hb2⟩ := hin b p hp1 hpn hl hb
        obtain ⟨hc1, hc2⟩ := hin c q hq1 hqn hl' hc
        rw [hb2, hc2]
        exact hp.rel.inj b c (.inl hb) (.inl hc) hb1 hc1 hne
      · exact side b c p q hp1 hq1 hpn hqn hl hl' hb hc
    · by_cases hc : c ∈ x.u.fp ∨ c ∈ x.u.wr
      · exact (side c b q p hq1 hp1 hqn hpn hl' hl hc hb).symm
      · simp only [not_or] at hb hc
        rw [e2 b hb.2, e2 c hc.2]
        exact hI.inj b c p q hpn hqn (hlastB b p hp1 hb.2) (hlastB c q hq1 hc.2) hl hl' hne
  · intro k y hk hy he
    rcases hk with hk | rfl
    · exact hI.noesc k y hk hy he
    · rw [hx] at hy
      simp only [Option.some.injEq] at hy
      subst hy
      exact hp.noesc he

end

end Go.Proofs.YtpidkmegakdohaaGreat.Kn
