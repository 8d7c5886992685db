/- The engine, part 17: a region that draws: the invariant of its orders. -/
import Derived.Test.YtpidkmegakdohaaGreatK16
namespace Go.Proofs.YtpidkmegakdohaaGreat.Kn
open Go
set_option linter.unusedVariables false
set_option linter.unusedSimpArgs false

def Last (Wr E : Nat → Prop) (p : Nat) : Prop := (∀ i, i + 1 = p → E i ∧ Wr i) ∧ ∀ k, E k → p ≤ k → ¬ Wr k

theorem Last.uniq {Wr E : Nat → Prop} {p q : Nat} (h : Last Wr E p) (k : Last Wr E q) : p = q := by
  have key : ∀ p q, Last Wr E p → Last Wr E q → ¬ p < q := fun p q h k hlt => by
    obtain ⟨h1, h2⟩ := k.1 (q - 1) (by omega)
    exact h.2 (q - 1) h1 (by omega) h2
  have := key p q h k
  have := key q p k h
  omega

theorem static_last (Wr : Nat → Prop) : ∀ j : Nat, ∃ p, p ≤ j ∧ (∀ i, i + 1 = p → Wr i) ∧ ∀ k, p ≤ k → k < j → ¬ Wr k
  | 0 => ⟨0, Nat.le_refl _, fun i h => by omega, fun k _ h => by omega⟩
  | j + 1 => by
    by_cases h : Wr j
    · exact ⟨j + 1, Nat.le_refl _, fun i hi => by rw [show i = j by omega]; exact h, fun k h1 h2 => by omega⟩
    · obtain ⟨p, h1, h2, h3⟩ := static_last Wr j
      refine ⟨p, by omega, h2, fun k hk hk' => ?_⟩
      rcases Nat.lt_or_ge k j with h4 | h4
      · exact h3 k hk h4
      · rw [show k = j by omega]; exact h

def WrB (r : List Stp) (b : Nat) (i : Nat) : Prop := ∃ x, r[i]? = some x ∧ b ∈ x.u.wr
def WrT (ops : Array Oper) (t : Nat) (i : Nat) : Prop := ∃ o, ops[i]? = some o ∧ o.dst = some t

section
variable {P : Program} {G : Ctx} {ops : Array Oper} {N : Nat} {r : List Stp} {st st' : St} (hP : Plan P G ops N r st st')
include hP

theorem Plan.get {i : Nat} (hi : i < ops.size) : ∃ o x, ops[i]? = some o ∧ r[i]? = some x ∧ x.s = sAt r st' i ∧ StepOk P G ops N i o x ∧ sAt r st' (i + 1) = nextS o x := by
  have h1 : i < r.length := by rw [hP.len]; exact hi
  refine ⟨ops[i], r[i], by simp [hi], by simp [h1], ?_, hP.ok i _ _ (by simp [hi]) (by simp [h1])⟩
  simp [sAt, h1]

theorem Plan.after {i : Nat} (hi : i < ops.size) {o : Oper} {x : Stp} (ho : ops[i]? = some o) (hx : r[i]? = some x) :
    x.s = sAt r st' i ∧ (sAt r st' (i + 1)).H = x.u.H ∧ (sAt r st' (i + 1)).nx = x.u.nx ∧ (sAt r st' (i + 1)).esc = (x.s.esc || x.u.esc) ∧
      (∀ t, (sAt r st' (i + 1)).sl.get t = if o.dst = some t then x.u.v else x.s.sl.get t) := by
  obtain ⟨_, h2⟩ := hP.ok i o x ho hx
  refine ⟨by simp [sAt, hx], ?_⟩
  rw [h2]
  unfold nextS
  cases hd : o.dst with
  | none => exact ⟨rfl, rfl, rfl, fun t => by simp [St.put, St.up]⟩
  | some d =>
    refine ⟨rfl, rfl, rfl, fun t => ?_⟩
    simp only [St.put]
    rw [Slots.get_cons]
    simp [St.up]

theorem Plan.nx_le : ∀ {i j : Nat}, i ≤ j → j ≤ ops.size → (sAt r st' i).nx ≤ (sAt r st' j).nx
  | i, 0, h, _ => by rw [show i = 0 by omega]; exact Nat.le_refl _
  | i, j + 1, h, hj => by
    rcases Nat.lt_or_ge j i with h1 | h1
    · rw [show i = j + 1 by omega]; exact Nat.le_refl _
    · obtain ⟨o, x, ho, hx, hs, hok, _⟩ := hP.get (i := j) (by omega)
      have := Plan.nx_le (i := i) (j := j) h1 (by omega)
      have h2 := hok.nx
      rw [(hP.after (by omega) ho hx).2.2.1]
      rw [hs] at h2
      omega

theorem Plan.chainH {b : Nat} {p : Nat} : ∀ {j : Nat}, p ≤ j → j ≤ ops.size → (∀ k, p ≤ k → k < j → ¬ WrB r b k) → (((sAt r st' j).H.get b).live ∨ ((sAt r st' p).H.get b).live) → (sAt r st' j).H.get b = (sAt r st' p).H.get b
  | 0, h, _, _, _ => by rw [show p = 0 by omega]
  | j + 1, h, hj, hn, hl => by
    rcases Nat.lt_or_ge j p with h1 | h1
    · rw [show p = j + 1 by omega]
    · obtain ⟨o, x, ho, hx, hs, hok, _⟩ := hP.get (i := j) (by omega)
      have hk := hok.keep b fun hb => hn j h1 (by omega) ⟨x, hx, hb⟩
      have ih := Plan.chainH (j := j) h1 (by omega) fun k h2 h3 => hn k h2 (by omega)
      rw [(hP.after (by omega) ho hx).2.1] at hl ⊢
      rcases hl with hl | hl
      · have e := hk (.inl hl)
        rw [e] at hl ⊢
        rw [hs] at hl ⊢
        exact ih (.inl hl)
      · have e := ih (.inr hl)
        rw [← e, ← hs] at hl
        rw [hk (.inr hl), hs, e]

theorem Plan.chainS {t : Nat} {p : Nat} : ∀ {j : Nat}, p ≤ j → j ≤ ops.size → (∀ k, p ≤ k → k < j → ¬ WrT ops t k) → (sAt r st' j).sl.get t = (sAt r st' p).sl.get t
  | 0, h, _, _ => by rw [show p = 0 by omega]
  | j + 1, h, hj, hn => by
    rcases Nat.lt_or_ge j p with h1 | h1
    · rw [show p = j + 1 by omega]
    · obtain ⟨o, x, ho, hx, hs, hok, _⟩ := hP.get (i := j) (by omega)
      rw [(hP.after (by omega) ho hx).2.2.2.2 t, if_neg fun hd => hn j h1 (by omega) ⟨o, ho, hd⟩, hs]
      exact Plan.chainS (j := j) h1 (by omega) fun k h2 h3 => hn k h2 (by omega)

theorem Plan.noLive (h0 : ∀ b, st.nx ≤ b → ¬ (st.H.get b).live) : ∀ {j : Nat}, j ≤ ops.size → ∀ b, (sAt r st' j).nx ≤ b → ¬ ((sAt r st' j).H.get b).live
  | 0, _, b, hb => by rw [hP.s0] at hb ⊢; exact h0 b hb
  | j + 1, hj, b, hb => by
    obtain ⟨o, x, ho, hx, hs, hok, _⟩ := hP.get (i := j) (by omega)
    obtain ⟨_, a1, a2, _⟩ := hP.after (by omega) ho hx
    rw [a1]
    rw [a2] at hb
    have hnw : b ∉ x.u.wr := fun h => by have := hok.lt b h; omega
    intro hl
    rw [hok.keep b hnw (.inl hl), hs] at hl
    refine Plan.noLive h0 (j := j) (by omega) b ?_ hl
    have := hok.nx
    rw [hs] at this
    omega

/-- what is written once more is written in the text's order -/
theorem Plan.wrH {i j : Nat} {b : Nat} {xj : Stp} (hij : i < j) (hj : j < ops.size) (hi : WrB r b i) (hxj : r[j]? = some xj) (hb : b ∈ xj.u.fp ∨ b ∈ xj.u.wr) : Pre ops i j := by
  obtain ⟨xi, hxi, hbi⟩ := hi
  obtain ⟨oi, _, hoi, _⟩ := hP.get (i := i) (by omega)
  obtain ⟨oj, _, hoj, _⟩ := hP.get (i := j) hj
  rcases hP.pairs i j oi oj xi xj hij hoi hoj hxi hxj with h | ⟨_, h⟩
  · exact h
  · obtain ⟨c1, c2, _⟩ := clash_false h
    rcases hb with hb | hb
    · exact absurd hb (c1 b hbi)
    · exact absurd hb (c2 b hbi)

theorem Plan.wrH' {i j : Nat} {b : Nat} {xi : Stp} (hij : i < j) (hj : j < ops.size) (hxi : r[i]? = some xi) (hb : b ∈ xi.u.fp ∨ b ∈ xi.u.wr) (h : WrB r b j) : Pre ops i j := by
  obtain ⟨xj, hxj, hbj⟩ := h
  obtain ⟨oi, _, hoi, _⟩ := hP.get (i := i) (by omega)
  obtain ⟨oj, _, hoj, _⟩ := hP.get (i := j) hj
  rcases hP.pairs i j oi oj xi xj hij hoi hoj hxi hxj with h | ⟨_, h⟩
  · exact h
  · obtain ⟨_, c2, c3⟩ := clash_false h
    rcases hb with hb | hb
    · exact absurd hbj (c3 b hb)
    · exact absurd hbj (c2 b hb)

theorem Plan.wrT {i j : Nat} {t : Nat} {oj : Oper} (hij : i < j) (hoj : ops[j]? = some oj) (hi : WrT ops t i) (hb : t ∈ oj.looksAt ops ∨ oj.dst = some t) : Pre ops i j := by
  obtain ⟨oi, hoi, hd⟩ := hi
  have hj : j < ops.size := (Array.getElem?_eq_some_iff.1 hoj).1
  obtain ⟨_, xi, _, hxi, _⟩ := hP.get (i := i) (by omega)
  obtain ⟨_, xj, _, hxj, _⟩ := hP.get (i := j) hj
  rcases hP.pairs i j oi oj xi xj hij hoi hoj hxi hxj with h | ⟨h, _⟩
  · exact h
  · obtain ⟨c1, c2, _⟩ := Oper.apart_spec h
    rcases hb with hb | hb
    · exact absurd hb (c1 t hd)
    · exact absurd hb (c2 t hd)

theorem Plan.wrT' {i j : Nat} {t : Nat} {oi : Oper} (hij : i < j) (hoi : ops[i]? = some oi) (hj : WrT ops t j) (hb : t ∈ oi.looksAt ops ∨ oi.dst = some t) : Pre ops i j := by
  obtain ⟨oj, hoj, hd⟩ := hj
  have hj : j < ops.size := (Array.getElem?_eq_some_iff.1 hoj).1
  obtain ⟨_, xi, _, hxi, _⟩ := hP.get (i := i) (by omega)
  obtain ⟨_, xj, _, hxj, _⟩ := hP.get (i := j) hj
  rcases hP.pairs i j oi oj xi xj hij hoi hoj hxi hxj with h | ⟨h, _⟩
  · exact h
  · obtain ⟨_, c2, c3⟩ := Oper.apart_spec h
    rcases hb with hb | hb
    · exact absurd hb (c3 t hd)
    · exact absurd hd (c2 t hb)

/-- where a block that an operation looks at was written last -/
theorem Plan.atH {E : Nat → Prop} (hEn : ∀ k, E k → k < ops.size) (hdown : ∀ i k, E k → Pre ops i k → E i) {j : Nat} (hj : j < ops.size) (hnj : ¬ E j) (hready : ∀ i, Pre ops i j → E i) {x : Stp} (hx : r[j]? = some x)
    {b : Nat} (hb : b ∈ x.u.fp ∨ b ∈ x.u.wr) : ∃ p, p ≤ j ∧ Last (WrB r b) E p ∧ ((((sAt r st' j).H.get b).live ∨ ((sAt r st' p).H.get b).live) → (sAt r st' j).H.get b = (sAt r st' p).H.get b) := by
  obtain ⟨p, h1, h2, h3⟩ := static_last (WrB r b) j
  refine ⟨p, h1, ⟨fun i hi => ⟨hready i (hP.wrH (by omega) hj (h2 i hi) hx hb), h2 i hi⟩, fun k hk hpk hw => ?_⟩, hP.chainH h1 (by omega) h3⟩
  rcases Nat.lt_trichotomy k j with h | h | h
  · exact h3 k hpk h hw
  · exact hnj (h ▸ hk)
  · exact hnj (hdown j k hk (hP.wrH' h (hEn k hk) hx hb hw))

theorem Plan.atS {E : Nat → Prop} (hEn : ∀ k, E k → k < ops.size) (hdown : ∀ i k, E k → Pre ops i k → E i) {j : Nat} (hj : j < ops.size) (hnj : ¬ E j) (hready : ∀ i, Pre ops i j → E i) {o : Oper} (ho : ops[j]? = some o)
    {t : Nat} (hb : t ∈ o.looksAt ops) : ∃ p, p ≤ j ∧ Last (WrT ops t) E p ∧ (sAt r st' j).sl.get t = (sAt r st' p).sl.get t := by
  obtain ⟨p, h1, h2, h3⟩ := static_last (WrT ops t) j
  refine ⟨p, h1, ⟨fun i hi => ⟨hready i (hP.wrT (by omega) ho (h2 i hi) (.inl hb)), h2 i hi⟩, fun k hk hpk hw => ?_⟩, hP.chainS h1 (by omega) h3⟩
  rcases Nat.lt_trichotomy k j with h | h | h
  · exact h3 k hpk h hw
  · exact hnj (h ▸ hk)
  · exact hnj (hdown j k hk (hP.wrT' h ho hw (.inl hb)))

end

/-- what holds when the operations E have been carried out, in whatever order -/
structure Inv (N : Nat) (ops : Array Oper) (r : List Stp) (st st' : St) (f0 : Fn) (z0 : Z) (w0 : World) (ds : List Deferred) (E : Nat → Prop) (f : Fn) (z : Z) (w : World) (a : Act) : Prop where
  size : a.tmps.size = N
  defs : a.defers = ds
  ext : Ext st.nx f0 f
  zle : z0.le z
  znew : ∀ k o v, z k o = some v → z0 k o = some v ∨ w0.heap.size ≤ k ∨ img All f0 st.H k
  zok : ∀ k o v, z k o = some v → w.cell? ⟨k, o, none⟩ = some v
  fr : Fr (img All f0 st.H) w0 w
  sl : ∀ t p, p ≤ ops.size → Last (WrT ops t) E p → RS f (sAt r st' p).nx z ((sAt r st' p).sl.get t) (a.tmps.getD t undef)
  hp : ∀ b p, p ≤ ops.size → Last (WrB r b) E p → ((sAt r st' p).H.get b).live → b < (sAt r st' p).nx ∧ BOk f (sAt r st' p).nx z w b ((sAt r st' p).H.get b) ∧
    (b < st.nx → (st.H.get b).live) ∧ (st.nx ≤ b → w0.heap.size ≤ (f b).k ∨ img All f0 st.H (f b).k)
  inj : ∀ b c p q, p ≤ ops.size → q ≤ ops.size → Last (WrB r b) E p → Last (WrB r c) E q → ((sAt r st' p).H.get b).live → ((sAt r st' q).H.get c).live → b ≠ c → (f b).k ≠ (f c).k
  noesc : ∀ k x, E k → r[k]? = some x → x.u.esc = false → ∀ m, m ≤ x.s.nx → NoNew m x.s.H → NoNew m x.u.H

end Go.Proofs.YtpidkmegakdohaaGreat.Kn
