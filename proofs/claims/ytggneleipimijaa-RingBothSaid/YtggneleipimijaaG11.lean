/- Texts put together: RF, RG, F14, F15, F16, F17, RX. -/
import Derived.Test.YtggneleipimijaaG10
import Derived.Test.YtggneleipimijaaG08
import Derived.Maps.RangeRun
/- Both Next tell the same. -/
namespace Go.Proofs.Ytggneleipimijaa.En
open Go
set_option linter.unusedVariables false
set_option linter.unusedSimpArgs false
set_option maxRecDepth 20000
set_option maxHeartbeats 1000000
def LcI (p : Int → Prop) (x : Nat → Int) (i : Nat) (b : Int) : Prop := (b = -1 ∧ ∀ j, j < i → ¬ p (x j)) ∨ ∃ k : Nat, k < i ∧ b = k ∧ p (x k) ∧ ∀ j, j < i → p (x j) → x k ≤ x j
def McI (p : Int → Prop) (x : Nat → Int) (i : Nat) (b : Int) : Prop := (b = -1 ∧ ∀ j, j < i → ¬ p (x j)) ∨ ∃ k : Nat, k < i ∧ b = k ∧ p (x k) ∧ ∀ j, j < i → p (x j) → x j ≤ x k
theorem LcI.no {p : Int → Prop} {x : Nat → Int} {i : Nat} {b : Int} (h : LcI p x i b) (hp : ¬ p (x i)) : LcI p x (i + 1) b := by
  rcases h with ⟨h1, h2⟩ | ⟨k, h1, h2, h3, h4⟩
  · refine .inl ⟨h1, fun j hj => ?_⟩
    rcases Nat.lt_succ_iff_lt_or_eq.1 hj with hj | rfl
    · exact h2 j hj
    · exact hp
  · refine .inr ⟨k, by omega, h2, h3, fun j hj hq => ?_⟩
    rcases Nat.lt_succ_iff_lt_or_eq.1 hj with hj | rfl
    · exact h4 j hj hq
    · exact absurd hq hp
theorem McI.no {p : Int → Prop} {x : Nat → Int} {i : Nat} {b : Int} (h : McI p x i b) (hp : ¬ p (x i)) : McI p x (i + 1) b := by
  rcases h with ⟨h1, h2⟩ | ⟨k, h1, h2, h3, h4⟩
  · refine .inl ⟨h1, fun j hj => ?_⟩
    rcases Nat.lt_succ_iff_lt_or_eq.1 hj with hj | rfl
    · exact h2 j hj
    · exact hp
  · refine .inr ⟨k, by omega, h2, h3, fun j hj hq => ?_⟩
    rcases Nat.lt_succ_iff_lt_or_eq.1 hj with hj | rfl
    · exact h4 j hj hq
    · exact absurd hq hp
theorem LcI.yes {p : Int → Prop} {x : Nat → Int} {i : Nat} {b : Int} (h : LcI p x i b) (hp : p (x i)) : LcI p x (i + 1) (upL x i b) := by
  rcases h with ⟨h1, h2⟩ | ⟨k, h1, h2, h3, h4⟩
  · subst h1
    refine .inr ⟨i, by omega, rfl, hp, fun j hj hq => ?_⟩
    rcases Nat.lt_succ_iff_lt_or_eq.1 hj with hj | rfl
    · exact absurd hq (h2 j hj)
    · exact Int.le_refl _
  · subst h2
    rcases upL_cases x i (k : Int) with ⟨g, e⟩ | ⟨g, g2, e⟩ | ⟨g, g2, e⟩
    · omega
    · rw [e]
      rw [Int.toNat_natCast] at g2
      refine .inr ⟨i, by omega, rfl, hp, fun j hj hq => ?_⟩
      rcases Nat.lt_succ_iff_lt_or_eq.1 hj with hj | rfl
      · have := h4 j hj hq; omega
      · exact Int.le_refl _
    · rw [e]
      rw [Int.toNat_natCast] at g2
      refine .inr ⟨k, by omega, rfl, h3, fun j hj hq => ?_⟩
      rcases Nat.lt_succ_iff_lt_or_eq.1 hj with hj | rfl
      · exact h4 j hj hq
      · omega
theorem McI.yes {p : Int → Prop} {x : Nat → Int} {i : Nat} {b : Int} (h : McI p x i b) (hp : p (x i)) : McI p x (i + 1) (upM x i b) := by
  rcases h with ⟨h1, h2⟩ | ⟨k, h1, h2, h3, h4⟩
  · subst h1
    refine .inr ⟨i, by omega, rfl, hp, fun j hj hq => ?_⟩
    rcases Nat.lt_succ_iff_lt_or_eq.1 hj with hj | rfl
    · exact absurd hq (h2 j hj)
    · exact Int.le_refl _
  · subst h2
    rcases upM_cases x i (k : Int) with ⟨g, e⟩ | ⟨g, g2, e⟩ | ⟨g, g2, e⟩
    · omega
    · rw [e]
      rw [Int.toNat_natCast] at g2
      refine .inr ⟨i, by omega, rfl, hp, fun j hj hq => ?_⟩
      rcases Nat.lt_succ_iff_lt_or_eq.1 hj with hj | rfl
      · have := h4 j hj hq; omega
      · exact Int.le_refl _
    · rw [e]
      rw [Int.toNat_natCast] at g2
      refine .inr ⟨k, by omega, rfl, h3, fun j hj hq => ?_⟩
      rcases Nat.lt_succ_iff_lt_or_eq.1 hj with hj | rfl
      · exact h4 j hj hq
      · omega
def RnI (me : Int) (x : Nat → Int) (i : Nat) (a : (Int × Int) × (Int × Int)) : Prop := (LcI (me < ·) x i a.1.1 ∧ McI (· < me) x i a.1.2) ∧ LcI (· ≠ me) x i a.2.1 ∧ McI (· ≠ me) x i a.2.2
theorem RnI.step {me : Int} {x : Nat → Int} {i : Nat} {a : (Int × Int) × (Int × Int)} (h : RnI me x i a) : RnI me x (i + 1) (rnF me x i a) := by
  obtain ⟨⟨b, a⟩, l, m⟩ := a
  obtain ⟨⟨h1, h2⟩, h3, h4⟩ := h
  cases hq : (x i == me)
  · have hne : x i ≠ me := by simpa using hq
    have es : rnF me x i ((b, a), (l, m)) = ((if x i > me then upL x i b else b, if x i < me then upM x i a else a), (upL x i l, upM x i m)) := by simp only [rnF, hq]
    rw [es]
    refine ⟨⟨?_, ?_⟩, h3.yes hne, h4.yes hne⟩
    · by_cases hg : x i > me
      · simp only [hg, reduceIte]; exact h1.yes hg
      · simp only [hg, reduceIte]; exact h1.no hg
    · by_cases hg : x i < me
      · simp only [hg, reduceIte]; exact h2.yes hg
      · simp only [hg, reduceIte]; exact h2.no hg
  · have he : x i = me := by simpa using hq
    have es : rnF me x i ((b, a), (l, m)) = ((b, a), (l, m)) := by simp only [rnF, hq]
    rw [es]
    exact ⟨⟨h1.no (by omega), h2.no (by omega)⟩, h3.no (by simp [he]), h4.no (by simp [he])⟩
theorem RnI.fold {me : Int} {x : Nat → Int} : ∀ (c i : Nat) (a : (Int × Int) × (Int × Int)), RnI me x i a → RnI me x (i + c) (foldF (rnF me x) c i a)
  | 0, _, _, h => h
  | c + 1, i, a, h => by
    have := RnI.fold c (i + 1) _ h.step
    rw [show i + 1 + c = i + (c + 1) by omega] at this
    exact this
def rnR (me : Int) (x : Nat → Int) (n : Nat) : (Int × Int) × (Int × Int) := foldF (rnF me x) n 0 ((-1, -1), (-1, -1))
theorem rnR_ok (me : Int) (x : Nat → Int) (n : Nat) : RnI me x n (rnR me x n) := by
  have := RnI.fold (me := me) (x := x) n 0 ((-1, -1), (-1, -1)) ⟨⟨.inl ⟨rfl, fun j hj => absurd hj (Nat.not_lt_zero j)⟩, .inl ⟨rfl, fun j hj => absurd hj (Nat.not_lt_zero j)⟩⟩, .inl ⟨rfl, fun j hj => absurd hj (Nat.not_lt_zero j)⟩, .inl ⟨rfl, fun j hj => absurd hj (Nat.not_lt_zero j)⟩⟩
  rwa [Nat.zero_add] at this
/-- the least of those that are so -/
def LeastI (p : Int → Prop) (x : Nat → Int) (n : Nat) (v : Int) : Prop := (∃ j, j < n ∧ p (x j) ∧ x j = v) ∧ ∀ j, j < n → p (x j) → v ≤ x j
def MostI (p : Int → Prop) (x : Nat → Int) (n : Nat) (v : Int) : Prop := (∃ j, j < n ∧ p (x j) ∧ x j = v) ∧ ∀ j, j < n → p (x j) → x j ≤ v
theorem LeastI.uniq {p : Int → Prop} {x : Nat → Int} {n : Nat} {v u : Int} (h : LeastI p x n v) (g : LeastI p x n u) : v = u := by
  obtain ⟨⟨j, h1, h2, h3⟩, h4⟩ := h
  obtain ⟨⟨k, g1, g2, g3⟩, g4⟩ := g
  have := h4 k g1 g2
  have := g4 j h1 h2
  omega
theorem MostI.uniq {p : Int → Prop} {x : Nat → Int} {n : Nat} {v u : Int} (h : MostI p x n v) (g : MostI p x n u) : v = u := by
  obtain ⟨⟨j, h1, h2, h3⟩, h4⟩ := h
  obtain ⟨⟨k, g1, g2, g3⟩, g4⟩ := g
  have := h4 k g1 g2
  have := g4 j h1 h2
  omega
def IsB (me : Int) (x : Nat → Int) (n : Nat) (v : Int) : Prop := LeastI (me < ·) x n v ∨ ((∀ j, j < n → ¬ me < x j) ∧ LeastI (· ≠ me) x n v)
def IsA (me : Int) (x : Nat → Int) (n : Nat) (v : Int) : Prop := MostI (· < me) x n v ∨ ((∀ j, j < n → ¬ x j < me) ∧ MostI (· ≠ me) x n v)
theorem IsB.uniq {me : Int} {x : Nat → Int} {n : Nat} {v u : Int} (h : IsB me x n v) (g : IsB me x n u) : v = u := by
  rcases h with h | ⟨h1, h2⟩ <;> rcases g with g | ⟨g1, g2⟩
  · exact h.uniq g
  · obtain ⟨⟨j, a, b, _⟩, _⟩ := h; exact absurd b (g1 j a)
  · obtain ⟨⟨j, a, b, _⟩, _⟩ := g; exact absurd b (h1 j a)
  · exact h2.uniq g2
theorem IsA.uniq {me : Int} {x : Nat → Int} {n : Nat} {v u : Int} (h : IsA me x n v) (g : IsA me x n u) : v = u := by
  rcases h with h | ⟨h1, h2⟩ <;> rcases g with g | ⟨g1, g2⟩
  · exact h.uniq g
  · obtain ⟨⟨j, a, b, _⟩, _⟩ := h; exact absurd b (g1 j a)
  · obtain ⟨⟨j, a, b, _⟩, _⟩ := g; exact absurd b (h1 j a)
  · exact h2.uniq g2
/-- who is next, by the reference -/
def rnB (me : Int) (x : Nat → Int) (n : Nat) : Int := if (rnR me x n).1.1 < 0 then x (rnR me x n).2.1.toNat else x (rnR me x n).1.1.toNat
def rnA (me : Int) (x : Nat → Int) (n : Nat) : Int := if (rnR me x n).1.2 < 0 then x (rnR me x n).2.2.toNat else x (rnR me x n).1.2.toNat
theorem rn_none (me : Int) (x : Nat → Int) (n : Nat) : (rnR me x n).2.1 < 0 ↔ ∀ j, j < n → x j = me := by
  obtain ⟨_, h, _⟩ := rnR_ok me x n
  rcases h with ⟨h1, h2⟩ | ⟨k, h1, h2, h3, h4⟩
  · rw [h1]
    exact ⟨fun _ j hj => Decidable.not_not.1 (h2 j hj), fun _ => by decide⟩
  · rw [h2]
    exact ⟨fun h => by omega, fun h => absurd (h k h1) h3⟩
theorem rnB_ok {me : Int} {x : Nat → Int} {n : Nat} (h0 : ¬ (rnR me x n).2.1 < 0) : IsB me x n (rnB me x n) := by
  obtain ⟨⟨h1, _⟩, h3, _⟩ := rnR_ok me x n
  unfold rnB
  rcases h1 with ⟨e, g⟩ | ⟨k, k1, e, k3, k4⟩
  · rw [if_pos (by omega)]
    rcases h3 with ⟨e3, _⟩ | ⟨k, k1, e3, k3, k4⟩
    · omega
    · rw [e3, Int.toNat_natCast]
      exact .inr ⟨g, ⟨k, k1, k3, rfl⟩, k4⟩
  · rw [if_neg (by omega), e, Int.toNat_natCast]
    exact .inl ⟨⟨k, k1, k3, rfl⟩, k4⟩
theorem rnA_ok {me : Int} {x : Nat → Int} {n : Nat} (h0 : ¬ (rnR me x n).2.1 < 0) : IsA me x n (rnA me x n) := by
  have hn := rn_none me x n
  obtain ⟨⟨_, h1⟩, _, h3⟩ := rnR_ok me x n
  unfold rnA
  rcases h1 with ⟨e, g⟩ | ⟨k, k1, e, k3, k4⟩
  · rw [if_pos (by omega)]
    rcases h3 with ⟨e3, f⟩ | ⟨k, k1, e3, k3, k4⟩
    · exact absurd (hn.2 fun j hj => Decidable.not_not.1 (f j hj)) h0
    · rw [e3, Int.toNat_natCast]
      exact .inr ⟨g, ⟨k, k1, k3, rfl⟩, k4⟩
  · rw [if_neg (by omega), e, Int.toNat_natCast]
    exact .inl ⟨⟨k, k1, k3, rfl⟩, k4⟩

theorem mem_rowL (x : Nat → Int) (n : Nat) (y : Int) : y ∈ rowL x 0 n ↔ ∃ j, j < n ∧ x j = y := by
  simp [rowL]
theorem rowL_sorted {s : Nat → Int} {d : Nat} (h : SortedL s d) {i j : Nat} (hi : i ≤ j) (hj : j < d) : s i ≤ s j := by
  rcases Nat.lt_or_eq_of_le hi with hi | rfl
  · have := List.pairwise_iff_getElem.1 h i j (by rw [rowL_length]; omega) (by rw [rowL_length]; omega) hi
    simpa [rowL] using this
  · exact Int.le_refl _
theorem belowI_succ (s : Nat → Int) (d : Nat) (t : Int) : belowI s (d + 1) t = belowI s d t + (if s d < t then 1 else 0) := by
  unfold belowI
  rw [rowL_succ, List.countP_append]
  by_cases h : s d < t
  · simp [h]
  · simp [h]
theorem below_iff {s : Nat → Int} {t : Int} : ∀ {d : Nat}, SortedL s d → ∀ j, j < d → (s j < t ↔ j < belowI s d t)
  | 0, _, j, hj => absurd hj (Nat.not_lt_zero j)
  | d + 1, h, j, hj => by
    have h' : SortedL s d := by
      have := h
      unfold SortedL at this ⊢
      rw [rowL_succ] at this
      exact (List.pairwise_append.1 this).1
    have ih := below_iff (t := t) h'
    have hle := belowI_le s d t
    rw [belowI_succ]
    by_cases hd : s d < t
    · rw [if_pos hd]
      have : d ≤ belowI s d t := by
        rcases Nat.eq_zero_or_pos d with rfl | hp
        · exact Nat.zero_le _
        · have := (ih (d - 1) (by omega)).1 (by have := rowL_sorted h (i := d - 1) (j := d) (by omega) (by omega); omega)
          omega
      have := rowL_sorted h (i := j) (j := d) (by omega) (by omega)
      exact ⟨fun _ => by omega, fun _ => by omega⟩
    · rw [if_neg hd]
      rcases Nat.lt_succ_iff_lt_or_eq.1 hj with hj | rfl
      · exact ih j hj
      · exact ⟨fun h => absurd h hd, fun h => by omega⟩
theorem nxS_mem (me : Int) (x : Nat → Int) (n : Nat) (y : Int) : (∃ j, j < nxD me x n ∧ nxS me x n j = y) ↔ (∃ j, j < n ∧ x j = y) ∧ y ≠ me := by
  rw [← mem_rowL, ← mem_rowL]
  unfold nxS
  rw [sortI_ok, List.mem_mergeSort]
  have : rowL (delI me x n).2 0 (nxD me x n) = filL me x n := (delI_ok me x n).2
  rw [this]
  simp [filL]
theorem nxD_none (me : Int) (x : Nat → Int) (n : Nat) : nxD me x n = 0 ↔ ∀ j, j < n → x j = me := by
  constructor
  · intro h j hj
    refine Decidable.byContradiction fun hne => ?_
    obtain ⟨k, hk, _⟩ := (nxS_mem me x n (x j)).2 ⟨⟨j, hj, rfl⟩, hne⟩
    omega
  · intro h
    refine Decidable.byContradiction fun hne => ?_
    obtain ⟨⟨k, hk, e⟩, h2⟩ := (nxS_mem me x n (nxS me x n 0)).1 ⟨0, by omega, rfl⟩
    exact h2 (e ▸ h k hk)
theorem nxB_ok {me : Int} {x : Nat → Int} {n : Nat} (h0 : nxD me x n ≠ 0) : IsB me x n (nxB me x n) := by
  have hs : SortedL (nxS me x n) (nxD me x n) := sortI_sorted _ _
  have hk : nxK me x n ≤ nxD me x n := belowI_le _ _ _
  have hb := fun j hj => below_iff (t := me) hs j hj
  have hall : ∀ j, j < n → x j ≠ me → ∃ i, i < nxD me x n ∧ nxS me x n i = x j := fun j hj hne => (nxS_mem me x n (x j)).2 ⟨⟨j, hj, rfl⟩, hne⟩
  have hin : ∀ i, i < nxD me x n → (∃ j, j < n ∧ x j = nxS me x n i) ∧ nxS me x n i ≠ me := fun i hi => (nxS_mem me x n _).1 ⟨i, hi, rfl⟩
  have hK : nxK me x n = belowI (nxS me x n) (nxD me x n) me := rfl
  rw [← hK] at hb
  unfold nxB
  rcases Nat.lt_or_eq_of_le hk with hlt | heq
  · rw [Nat.mod_eq_of_lt hlt]
    obtain ⟨⟨j, j1, j2⟩, h2⟩ := hin _ hlt
    have h3 := hb _ hlt
    refine .inl ⟨⟨j, j1, by omega, j2⟩, fun j hj hp => ?_⟩
    obtain ⟨i, i1, i2⟩ := hall j hj (by omega)
    have h4 := hb i i1
    have := rowL_sorted hs (i := nxK me x n) (j := i) (by omega) i1
    omega
  · rw [heq, Nat.mod_self]
    obtain ⟨⟨j, j1, j2⟩, h2⟩ := hin 0 (by omega)
    refine .inr ⟨fun j hj hp => ?_, ⟨j, j1, by omega, j2⟩, fun j hj hp => ?_⟩
    · obtain ⟨i, i1, i2⟩ := hall j hj (by omega)
      have h4 := hb i i1
      omega
    · obtain ⟨i, i1, i2⟩ := hall j hj hp
      have := rowL_sorted hs (i := 0) (j := i) (by omega) i1
      omega
theorem nxA_ok {me : Int} {x : Nat → Int} {n : Nat} (h0 : nxD me x n ≠ 0) : IsA me x n (nxA me x n) := by
  have hs : SortedL (nxS me x n) (nxD me x n) := sortI_sorted _ _
  have hk : nxK me x n ≤ nxD me x n := belowI_le _ _ _
  have hb := fun j hj => below_iff (t := me) hs j hj
  have hall : ∀ j, j < n → x j ≠ me → ∃ i, i < nxD me x n ∧ nxS me x n i = x j := fun j hj hne => (nxS_mem me x n (x j)).2 ⟨⟨j, hj, rfl⟩, hne⟩
  have hin : ∀ i, i < nxD me x n → (∃ j, j < n ∧ x j = nxS me x n i) ∧ nxS me x n i ≠ me := fun i hi => (nxS_mem me x n _).1 ⟨i, hi, rfl⟩
  have hK : nxK me x n = belowI (nxS me x n) (nxD me x n) me := rfl
  rw [← hK] at hb
  unfold nxA
  rcases Nat.eq_zero_or_pos (nxK me x n) with heq | hpos
  · rw [heq, Nat.mod_eq_of_lt (by omega)]
    obtain ⟨⟨j, j1, j2⟩, h2⟩ := hin (0 + nxD me x n - 1) (by omega)
    refine .inr ⟨fun j hj hp => ?_, ⟨j, j1, by omega, j2⟩, fun j hj hp => ?_⟩
    · obtain ⟨i, i1, i2⟩ := hall j hj (by omega)
      have h4 := hb i i1
      omega
    · obtain ⟨i, i1, i2⟩ := hall j hj hp
      have := rowL_sorted hs (i := i) (j := 0 + nxD me x n - 1) (by omega) (by omega)
      omega
  · rw [show (nxK me x n + nxD me x n - 1) % nxD me x n = nxK me x n - 1 by
      rw [show nxK me x n + nxD me x n - 1 = (nxK me x n - 1) + nxD me x n by omega, Nat.add_mod_right, Nat.mod_eq_of_lt (by omega)]]
    obtain ⟨⟨j, j1, j2⟩, h2⟩ := hin (nxK me x n - 1) (by omega)
    have h3 := hb (nxK me x n - 1) (by omega)
    refine .inl ⟨⟨j, j1, by omega, j2⟩, fun j hj hp => ?_⟩
    obtain ⟨i, i1, i2⟩ := hall j hj (by omega)
    have h4 := hb i i1
    have := rowL_sorted hs (i := i) (j := nxK me x n - 1) (by omega) (by omega)
    omega
/-- what both Next answer -/
def nzO (vb va : Int) : CallOut := if max vb va = min vb va then out0 (.v (.one (.f (.fs false 1 1 (intE fun _ => min vb va))))) else out0 (.v (.one (.f (.fs false 1 2 (intE fun a => bif Nat.beq a 0 then min vb va else max vb va)))))
def nzR (me : Int) (x : Nat → Int) (n : Nat) : CallOut := if nxD me x n = 0 then out0 (.v (.one Nil)) else nzO (nxB me x n) (nxA me x n)
theorem nz_eq (me : Int) (x : Nat → Int) (n : Nat) : nzR me x n = if (rnR me x n).2.1 < 0 then out0 (.v (.one Nil)) else nzO (rnB me x n) (rnA me x n) := by
  unfold nzR
  by_cases h : nxD me x n = 0
  · rw [if_pos h, if_pos ((rn_none me x n).2 ((nxD_none me x n).1 h))]
  · have h2 : ¬ (rnR me x n).2.1 < 0 := fun h2 => h ((nxD_none me x n).2 ((rn_none me x n).1 h2))
    rw [if_neg h, if_neg h2, (nxB_ok h).uniq (rnB_ok h2), (nxA_ok h).uniq (rnA_ok h2)]

theorem res_Nz (me : Int) (n : Nat) (x : Nat → Int) (h : 1 ≤ n ∧ n ≤ 1048576) : (tgt_Nz me false n x).res = some (nzR me x n) := by
  refine T.over_eq _ (tree_Nz me false n x) ?_
  obtain ⟨h1, h2⟩ := h
  have hd : nxD me x n = (delI me x n).1 := rfl
  have hs : nxS me x n = sortI (delI me x n).2 (nxD me x n) := rfl
  have hk : nxK me x n = belowI (nxS me x n) (nxD me x n) me := rfl
  have hso : SortedL (nxS me x n) (nxD me x n) := sortI_sorted _ _
  have hb : nxB me x n = nxS me x n (nxK me x n % nxD me x n) := rfl
  have ha : nxA me x n = nxS me x n ((nxK me x n + nxD me x n - 1) % nxD me x n) := rfl
  have d1 : nxD me x n ≤ n := (delI_ok me x n).1
  have d2 : nxK me x n ≤ nxD me x n := belowI_le _ _ _
  have f1 : (n : Int) ≤ 9223372036854775807 := by omega
  simp only [T.res_br, T.res_ret, T.res_bad, ← hd, ← hs, ← hk, IntE_ok, h1, h2, f1, eq_self, Nat.le_refl, and_self, pb_tt, reduceIte]
  unfold nzR nzO
  by_cases h0 : nxD me x n = 0
  · simp only [h0, reduceIte]
    rfl
  · have m1 : nxK me x n % nxD me x n < nxD me x n := Nat.mod_lt _ (by omega)
    have m2 : (nxK me x n + nxD me x n - 1) % nxD me x n < nxD me x n := Nat.mod_lt _ (by omega)
    have e1 : (((nxD me x n : Nat) : Int) == 0) = false := by simpa using h0
    have e2 : ¬ (((nxD me x n : Nat) : Int) = 0) := by omega
    have e3 : ((nxD me x n : Nat) : Int) < 4611686018427387904 := by omega
    have t1 : Int.tmod (nxK me x n : Int) (nxD me x n : Int) = ((nxK me x n % nxD me x n : Nat) : Int) := by rw [Int.tmod_eq_emod_of_nonneg (by omega)]; rfl
    have w1 : IntKind.wrap IntKind.i64 ((nxK me x n : Int) + (nxD me x n : Int)) = ((nxK me x n + nxD me x n : Nat) : Int) := by rw [wrapI (by omega)]; omega
    have w2 : IntKind.wrap IntKind.i64 (((nxK me x n + nxD me x n : Nat) : Int) - 1) = ((nxK me x n + nxD me x n - 1 : Nat) : Int) := by rw [wrapI (by omega)]; omega
    have t2 : Int.tmod ((nxK me x n + nxD me x n - 1 : Nat) : Int) (nxD me x n : Int) = (((nxK me x n + nxD me x n - 1) % nxD me x n : Nat) : Int) := by rw [Int.tmod_eq_emod_of_nonneg (by omega)]; rfl
    have g1 : (0 : Int) ≤ ((nxK me x n % nxD me x n : Nat) : Int) ∧ ((nxK me x n % nxD me x n : Nat) : Int) < (nxD me x n : Int) := by omega
    have g2 : (0 : Int) ≤ (((nxK me x n + nxD me x n - 1) % nxD me x n : Nat) : Int) ∧ (((nxK me x n + nxD me x n - 1) % nxD me x n : Nat) : Int) < (nxD me x n : Int) := by omega
    have b1 : Nat.ble (nxK me x n % nxD me x n + 1) n = true := ble_tt (by omega)
    have b2 : Nat.ble ((nxK me x n + nxD me x n - 1) % nxD me x n + 1) n = true := ble_tt (by omega)
    simp only [e1, e2, e3, t1, w1, w2, t2, decide_eq_true g1, decide_eq_true g2, Int.toNat_natCast, Nat.zero_add, b1, b2, d1, hso, h0, ← ha, ← hb, decide_false, and_self, pb_tt, Bool.false_eq_true, beq_iff_eq, if_false, if_true]
    split <;> rfl
theorem min_if (p q : Int) : (if q < p then q else p) = min p q := by split <;> omega
theorem max_if (p q : Int) : (if q > p then q else p) = max p q := by split <;> omega
theorem res_RNx (me : Int) (nl : Bool) (n : Nat) (x : Nat → Int) (h : (nl = true → n = 0) ∧ n ≤ 1048576) : (tgt_RNx me nl n x).res = some (if (rnR me x n).2.1 < 0 then out0 (.v (.one Nil)) else nzO (rnB me x n) (rnA me x n)) := by
  refine T.over_eq _ (tree_RNx me nl n x) ?_
  obtain ⟨h1, h2⟩ := h
  have hr : rnR me x n = foldF (rnF me x) n 0 ((-1, -1), (-1, -1)) := rfl
  have h1' : (nl = true → n = 0) = True := eq_true h1
  simp only [T.res_br, T.res_ret, T.res_bad, ← hr, IntE_ok, h1', h2, eq_self, and_self, pb_tt, decide_eq_true_eq, reduceIte]
  by_cases h0 : (rnR me x n).2.1 < 0
  · simp only [h0, reduceIte]
  · obtain ⟨⟨hb, ha⟩, hl, hm⟩ := rnR_ok me x n
    have el : (0 : Int) ≤ (rnR me x n).2.1 ∧ (rnR me x n).2.1 < (n : Int) := by
      rcases hl with ⟨e, _⟩ | ⟨k, k1, e, _⟩ <;> omega
    have hn := rn_none me x n
    have em : (0 : Int) ≤ (rnR me x n).2.2 ∧ (rnR me x n).2.2 < (n : Int) := by
      rcases hm with ⟨e, f⟩ | ⟨k, k1, e, _⟩
      · exact absurd (hn.2 fun j hj => Decidable.not_not.1 (f j hj)) h0
      · omega
    have eb : ¬ (rnR me x n).1.1 < 0 → (0 : Int) ≤ (rnR me x n).1.1 ∧ (rnR me x n).1.1 < (n : Int) := fun g => by
      rcases hb with ⟨e, _⟩ | ⟨k, k1, e, _⟩ <;> omega
    have ea : ¬ (rnR me x n).1.2 < 0 → (0 : Int) ≤ (rnR me x n).1.2 ∧ (rnR me x n).1.2 < (n : Int) := fun g => by
      rcases ha with ⟨e, _⟩ | ⟨k, k1, e, _⟩ <;> omega
    have e0 : nl = false := by
      cases nl
      · rfl
      · have := h1 rfl; omega
    subst e0
    by_cases g1 : (rnR me x n).1.1 < 0
    · by_cases g2 : (rnR me x n).1.2 < 0
      · simp only [h0, g1, g2, el, em, rnB, rnA, nzO, and_self, Bool.not_false, min_if, max_if, beq_iff_eq, reduceIte]
        split <;> split <;> first | rfl | omega
      · have e2 := ea g2
        simp only [h0, g1, g2, el, em, e2, rnB, rnA, nzO, and_self, Bool.not_false, min_if, max_if, beq_iff_eq, reduceIte]
        split <;> split <;> first | rfl | omega
    · have e1 := eb g1
      by_cases g2 : (rnR me x n).1.2 < 0
      · simp only [h0, g1, g2, el, em, e1, rnB, rnA, nzO, and_self, Bool.not_false, min_if, max_if, beq_iff_eq, reduceIte]
        split <;> split <;> first | rfl | omega
      · have e2 := ea g2
        simp only [h0, g1, g2, el, em, e1, e2, rnB, rnA, nzO, and_self, Bool.not_false, min_if, max_if, beq_iff_eq, reduceIte]
        split <;> split <;> first | rfl | omega

end Go.Proofs.Ytggneleipimijaa.En
/- Both Next are known; same. -/
namespace Go.Proofs.Ytggneleipimijaa.En
open Go
set_option linter.unusedVariables false
set_option linter.unusedSimpArgs false
set_option maxRecDepth 20000
set_option maxHeartbeats 1000000
def nzN (me : Int) (x : Nat → Int) (n : Nat) : Bool := Nat.beq (nxD me x n) 0
def nzL (me : Int) (x : Nat → Int) (n : Nat) : Nat := if nxD me x n = 0 then 0 else if max (nxB me x n) (nxA me x n) = min (nxB me x n) (nxA me x n) then 1 else 2
def nzE (me : Int) (x : Nat → Int) (n : Nat) (i : Nat) : Int := bif Nat.beq i 0 then min (nxB me x n) (nxA me x n) else max (nxB me x n) (nxA me x n)
theorem nz_le {P : Program} {g : Nat} {args : List AV} {me : Int} {x : Nat → Int} {n : Nat} (h : CallTo P g args [] 0 (nzR me x n)) : CallTo P g args [] 0 (out0 (.v (.one (.f (.fs (nzN me x n) 1 (nzL me x n) (intE (nzE me x n))))))) := by
  unfold nzR nzO at h
  by_cases h0 : nxD me x n = 0
  · have e1 : nzN me x n = true := by simp [nzN, h0]
    have e2 : nzL me x n = 0 := by simp [nzL, h0]
    rw [if_pos h0] at h
    rw [e1, e2]
    exact h.less (Nat.le_refl 0) (.inr (.inr ⟨_, _, rfl, rfl, CV.le.f FV.le_nil⟩)) (fun b => .inl rfl) rfl rfl
  · have e1 : nzN me x n = false := by unfold nzN; exact beq_ff h0
    rw [if_neg h0] at h
    by_cases h2 : max (nxB me x n) (nxA me x n) = min (nxB me x n) (nxA me x n)
    · have e2 : nzL me x n = 1 := by simp only [nzL, h0, h2, reduceIte]
      rw [if_pos h2] at h
      rw [e1, e2]
      have hle : FV.le (.fs false 1 1 (intE fun _ => min (nxB me x n) (nxA me x n))) (.fs false 1 1 (intE (nzE me x n))) := FV.le_fs fun i hi => by
        obtain rfl : i = 0 := Nat.lt_one_iff.1 hi
        rfl
      exact h.less (Nat.le_refl 0) (.inr (.inr ⟨_, _, rfl, rfl, CV.le.f hle⟩)) (fun b => .inl rfl) rfl rfl
    · have e2 : nzL me x n = 2 := by simp only [nzL, h0, h2, reduceIte]
      rw [if_neg h2] at h
      rw [e1, e2]
      exact h
theorem nz_0 (me : Int) (x : Nat → Int) : nzR me x 0 = out0 (.v (.one Nil)) := by
  have : nxD me x 0 = 0 := (nxD_none me x 0).2 fun j hj => absurd hj (Nat.not_lt_zero j)
  unfold nzR
  rw [if_pos this]
theorem res_Nx0 (me : Int) (nl : Bool) (x : Nat → Int) : (tgt_Nx0 me nl x).res = some (nzR me x 0) := by
  rw [nz_0]
  refine T.over_eq _ (tree_Nx0 me nl x) ?_
  simp only [T.res_br, T.res_ret]
  cases nl <;> rfl
theorem to_Nz (me : Int) (nl : Bool) (n : Nat) (x : Nat → Int) (h : (nl = true → n = 0) ∧ n ≤ 1048576) : CallTo Try.prog 14 [AI me, .one (.f (.fs nl 1 n (intE x)))] [] 0 (out0 (.v (.one (.f (.fs (nzN me x n) 1 (nzL me x n) (intE (nzE me x n))))))) := by
  refine nz_le ?_
  rcases Nat.eq_zero_or_pos n with rfl | hp
  · exact evCallW_ok GORD1 GKRD1 (res_Nx0 me nl x)
  · have : nl = false := by
      cases nl
      · rfl
      · have := h.1 rfl; omega
    subst this
    exact evCallZ_ok GORD3 GKRD3 (res_Nz me n x ⟨hp, h.2⟩)
theorem to_RNx (me : Int) (nl : Bool) (n : Nat) (x : Nat → Int) (h : (nl = true → n = 0) ∧ n ≤ 1048576) : CallTo Try.prog 18 [AI me, .one (.f (.fs nl 1 n (intE x)))] [] 0 (out0 (.v (.one (.f (.fs (nzN me x n) 1 (nzL me x n) (intE (nzE me x n))))))) := by
  refine nz_le ?_
  have := res_RNx me nl n x h
  rw [← nz_eq] at this
  exact evCallZ_ok GORE2 GKRE2 this

noncomputable def F_Nz : SumF
  | [.one (.f (.lit (.int .i64 me))), .one (.f (.fs nl 1 n e))], [], 0 => .need (pb (IntE e ∧ (nl = true → n = 0) ∧ n ≤ 1048576)) (.ret (out0 (.v (.one (.f (.fs (nzN me (intOf e) n) 1 (nzL me (intOf e) n) (intE (nzE me (intOf e) n))))))))
  | _, _, _ => .bad
theorem sum_Nz : SumOk Try.prog 14 F_Nz := by
  refine ⟨fun args H nx r hr => ?_, fun args H nx => ?_⟩
  · unfold F_Nz at hr
    split at hr
    · rename_i me nl n e
      obtain ⟨h0, hr⟩ := T.need_some hr
      have := T.ret_some hr
      subst this
      have h := pb_of h0
      obtain ⟨⟨x, rfl⟩, h1⟩ := h
      exact to_Nz me nl n x h1
    · exact (T.bad_some hr).elim
  · unfold F_Nz
    split
    · exact T.Every.need ⟨Nat.zero_le _, fun b hb hw => absurd hb (Nat.not_lt_zero b)⟩
    · trivial
noncomputable def sm_Nz : SumF := orSum (nilSum 1 ((intE fun _ => 0)) (canonSum F_Nz)) (frzSum (nilSum 1 ((intE fun _ => 0)) (canonSum F_Nz)))
theorem sm_Nz_ok : SumOk Try.prog 14 sm_Nz := orSum_ok (nilSum_ok (canonSum_ok sum_Nz)) (frzSum_ok (nilSum_ok (canonSum_ok sum_Nz)))
noncomputable def ss_Nz : List (Nat × SumF) := (14, sm_Nz) :: ss_Table
theorem ss_Nz_ok : ∀ x ∈ ss_Nz, SumOk Try.prog x.1 x.2 := List.forall_mem_cons.2 ⟨sm_Nz_ok, ss_Table_ok⟩
noncomputable def F_RNx : SumF
  | [.one (.f (.lit (.int .i64 me))), .one (.f (.fs nl 1 n e))], [], 0 => .need (pb (IntE e ∧ (nl = true → n = 0) ∧ n ≤ 1048576)) (.ret (out0 (.v (.one (.f (.fs (nzN me (intOf e) n) 1 (nzL me (intOf e) n) (intE (nzE me (intOf e) n))))))))
  | _, _, _ => .bad
theorem sum_RNx : SumOk Try.prog 18 F_RNx := by
  refine ⟨fun args H nx r hr => ?_, fun args H nx => ?_⟩
  · unfold F_RNx at hr
    split at hr
    · rename_i me nl n e
      obtain ⟨h0, hr⟩ := T.need_some hr
      have := T.ret_some hr
      subst this
      have h := pb_of h0
      obtain ⟨⟨x, rfl⟩, h1⟩ := h
      exact to_RNx me nl n x h1
    · exact (T.bad_some hr).elim
  · unfold F_RNx
    split
    · exact T.Every.need ⟨Nat.zero_le _, fun b hb hw => absurd hb (Nat.not_lt_zero b)⟩
    · trivial
noncomputable def sm_RNx : SumF := orSum (nilSum 1 ((intE fun _ => 0)) (canonSum F_RNx)) (frzSum (nilSum 1 ((intE fun _ => 0)) (canonSum F_RNx)))
theorem sm_RNx_ok : SumOk Try.prog 18 sm_RNx := orSum_ok (nilSum_ok (canonSum_ok sum_RNx)) (frzSum_ok (nilSum_ok (canonSum_ok sum_RNx)))
noncomputable def ss_RNx : List (Nat × SumF) := (18, sm_RNx) :: ss_Nz
theorem ss_RNx_ok : ∀ x ∈ ss_RNx, SumOk Try.prog x.1 x.2 := List.forall_mem_cons.2 ⟨sm_RNx_ok, ss_Nz_ok⟩
def S_sm (nl : Bool) (n : Nat) (x : Nat → Int) (nl2 : Bool) (i : Nat) (a : Unit) : St := ⟨[(0, .v (.one (.f (.fs nl 1 n (intE x))))), (1, .v (.one (.f (.fs nl2 1 n (intE x))))), (12, .v (AI n)), (13, .v (AI i))], [], 0, false, 0, []⟩

noncomputable def GRG1 : Ctx := GS.with ss_RNx ll_tb
noncomputable def tgt_sm (nl : Bool) (n : Nat) (x : Nat → Int) (nl2 : Bool) (i : Nat) (a : Unit) : T (Ex × St) := evRound GRG1 300 15 Try.f15.ntmps (loopOf Try.f15 4) 0 [0, 1, 12, 13] [] (S_sm nl n x nl2 i a)
theorem GKRG1 : KnownOk Try.prog GRG1 := KnownOk.lists ss_RNx_ok ll_tb_ok
theorem GORG1 : CtxOk Try.prog GRG1 := GS_ok.with _ _
theorem tree_sm (nl : Bool) (n : Nat) (x : Nat → Int) (nl2 : Bool) (i : Nat) (a : Unit) : (tgt_sm nl n x nl2 i a).over (.br (.br (.br (.br (.br (.br .leaf .leaf) .skip) .skip) .skip) .skip) .leaf) =
  T.br (decide ((↑i : Int) < (↑n : Int)))
    (T.br (!nl)
      (T.br (decide ((0 : Int) ≤ (↑i : Int) ∧ (↑i : Int) < (↑n : Int)))
        (T.br (!nl2)
          (T.br (decide ((0 : Int) ≤ (↑i : Int) ∧ (↑i : Int) < (↑n : Int)))
            (T.br (x i != x i) (T.ret (Ex.ret, { sl := [], H := [], nx := (0 : Nat), esc := false, base := (0 : Nat), wr := [] : St }))
              (T.ret
                (Ex.normal,
                  {
                    sl :=
                      [((0 : Nat), SV.v (AV.one (CV.f (FV.fs nl (1 : Nat) n fun a => [FV.lit (Value.int IntKind.i64 (x a))])))), ((1 : Nat), SV.v (AV.one (CV.f (FV.fs nl2 (1 : Nat) n fun a => [FV.lit (Value.int IntKind.i64 (x a))])))),
                        ((12 : Nat), SV.v (AI (↑n : Int))), ((13 : Nat), SV.v (AI (IntKind.wrap IntKind.i64 ((↑i : Int) + (1 : Int)))))],
                    H := [], nx := (0 : Nat), esc := false, base := (0 : Nat), wr := [] : St })))
            T.bad)
          T.bad)
        T.bad)
      T.bad)
    (T.ret (Ex.exit (0 : Nat), { sl := [], H := [], nx := (0 : Nat), esc := false, base := (0 : Nat), wr := [] : St })) := by kernel_rfl
theorem round_sm (nl : Bool) (n : Nat) (x : Nat → Int) (nl2 : Bool) (hnl : nl = true → n = 0) (hnl2 : nl2 = true → n = 0) (hb : n ≤ 1048576) (i : Nat) (a : Unit) (hi : i < n) (hI : (fun (i : Nat) (a : Unit) => (True : Prop)) i a) : ∃ st', (tgt_sm nl n x nl2 i a).res = some (.normal, st') ∧ StLe 0 st' (S_sm nl n x nl2 (i + 1) ((fun (i : Nat) (a : Unit) => (a)) i a)) ∧ (fun (i : Nat) (a : Unit) => (True : Prop)) (i + 1) ((fun (i : Nat) (a : Unit) => (a)) i a) := by
  refine T.over_exP (g := fun s => (Ex.normal, s)) (tree_sm nl n x nl2 i a) ?_
  have e0 : nl = false := by cases nl; rfl; exact absurd (hnl rfl) (by omega)
  have e0' : nl2 = false := by cases nl2; rfl; exact absurd (hnl2 rfl) (by omega)
  have e1 : (i : Int) < (n : Int) := by omega
  have e2 : (0 : Int) ≤ (i : Int) ∧ (i : Int) < (n : Int) := by omega
  have e3 : IntKind.wrap .i64 ((i : Int) + 1) = ((i + 1 : Nat) : Int) := by rw [wrapI (by omega)]; rfl
  subst e0 e0'
  simp only [T.res_br, T.res_ret, T.res_bad, decide_eq_true_eq, e1, e2, e3, and_self, Bool.not_false, bne_self_eq_false, Bool.false_eq_true, reduceIte]
  exact ⟨_, rfl, StLe.less (Nat.le_refl 0) (fun t => .inr (.inl rfl)) (fun b => .inl rfl), trivial⟩
theorem end_sm (nl : Bool) (n : Nat) (x : Nat → Int) (nl2 : Bool) (hnl : nl = true → n = 0) (hnl2 : nl2 = true → n = 0) (hb : n ≤ 1048576) (a : Unit) (hI : (fun (i : Nat) (a : Unit) => (True : Prop)) (n) a) : ∃ st', (tgt_sm nl n x nl2 (n) a).res = some (.exit 0, st') ∧ StLe 0 st' (⟨[], [], 0, false, 0, []⟩) := by
  refine T.over_exP (g := fun s => (.exit 0, s)) (tree_sm nl n x nl2 (n) a) ?_
  simp only [T.res_br, T.res_ret, T.res_bad, decide_eq_true_eq, Int.lt_irrefl, reduceIte]
  exact ⟨_, rfl, StLe.refl (Nat.le_refl 0)⟩
theorem loop_sm (nl : Bool) (n : Nat) (x : Nat → Int) (nl2 : Bool) (hnl : nl = true → n = 0) (hnl2 : nl2 = true → n = 0) (hb : n ≤ 1048576) (i : Nat) (a : Unit) (hi : i ≤ n) (hI : (fun (i : Nat) (a : Unit) => (True : Prop)) i a) {st0 : St} (h0 : StLe 0 st0 (S_sm nl n x nl2 i a)) (hnx : st0.nx = 0) :
    CodeOk Try.prog Try.f15.ntmps (.loop (loopOf Try.f15 4)) st0 (.exit 0) ((fun (a : Unit) => ⟨[], [], 0, false, 0, []⟩) (foldF (fun (i : Nat) (a : Unit) => (a)) (n - i) i a)) := by
  have := for_loop GORG1 GKRG1 (K := 300) (F := 15) (N := Try.f15.ntmps) (c := loopOf Try.f15 4) (m := 0) (live := [0, 1, 12, 13]) (after := []) (S_sm nl n x nl2) (n) (fun (i : Nat) (a : Unit) => .inl (a)) (fun (a : Unit) => (.exit 0, ⟨[], [], 0, false, 0, []⟩)) (fun (i : Nat) (a : Unit) => (True : Prop))
    (fun i a hi hI => by obtain ⟨s, h1, h2, h3⟩ := round_sm nl n x nl2 hnl hnl2 hb i a hi hI; exact ⟨_, s, h1, rfl, h2, h3⟩)
    (fun a hI => by obtain ⟨s, h1, h2⟩ := end_sm nl n x nl2 hnl hnl2 hb a hI; exact ⟨_, s, h1, by simp, rfl, h2⟩)
    (fun i a => by first | exact Nat.le_refl _ | (show 0 ≤ _; decide) | (simp only [S_sm]; omega)) hi hI h0 hnx
  rw [foldX_inl] at this
  exact this
noncomputable def L_sm : LoopF := mkLoopF [0, 1, 12, 13] (loopOf Try.f15 4) Try.f15.ntmps fun sl H nx => match keyed [0, 1, 12, 13] sl, keyed [] H with
  | some [.v (.one (.f (.fs nl k n e))), .v (.one (.f (.fs nl2 k2 n2 e2))), .v (.one (.f (.lit (.int .i64 m)))), .v (.one (.f (.lit (.int .i64 i))))], some [] => onlyB (Nat.beq nx 0) (onlyB (Nat.beq k 1 && Nat.beq k2 1) (.need (pb (IntE e ∧ e = e2 ∧ n = n2 ∧ (nl = true → n = 0) ∧ (nl2 = true → n = 0) ∧ n ≤ 1048576 ∧ m = n ∧ i = 0)) (.ret (.exit 0, (St.mk [] [] 0 false 0 []).sl, (St.mk [] [] 0 false 0 []).H, 0, false))))
  | _, _ => .bad
theorem L_sm_ok : LoopOk Try.prog L_sm := by
  refine mkLoopF_ok fun sl H nx e sl' H' nx' esc' h => ?_
  split at h
  · rename_i nl k n e nl2 k2 n2 e2 m i hsl hH
    have hsl := keyed_eq hsl
    have hH := keyed_eq hH
    subst hsl hH
    have h5 := onlyB_some h
    clear h
    obtain ⟨hck, h⟩ := h5
    simp only [Bool.and_eq_true, nbeq_iff] at hck
    obtain ⟨rfl⟩ := hck
    have h5 := onlyB_some h
    clear h
    have hw := h5.1
    have h := h5.2
    clear h5
    obtain ⟨hp, hret⟩ := T.need_some h
    have hp := pb_of hp
    have := T.ret_some hret
    simp only [Prod.mk.injEq] at this
    obtain ⟨rfl, rfl, rfl, rfl, rfl⟩ := this
    clear hret h
    obtain ⟨⟨x, rfl⟩, rfl, rfl, hn, hn2, hb, rfl, rfl⟩ := hp
    obtain ⟨hw1, hw2⟩ := Bool.and_eq_true_iff.1 hw
    obtain rfl := Nat.eq_of_beq_eq_true hw1
    obtain rfl := Nat.eq_of_beq_eq_true hw2
    exact loop_sm nl n x nl2 hn hn2 hb 0 () (Nat.zero_le _) trivial (StLe.refl (Nat.le_refl 0)) rfl
  · exact (T.bad_some h).elim
noncomputable def ll_sm : List (Nat × Nat × LoopF) := (15, 4, L_sm) :: ll_tb
theorem ll_sm_ok : ∀ x ∈ ll_sm, LoopOk Try.prog x.2.2 := List.forall_mem_cons.2 ⟨L_sm_ok, ll_tb_ok⟩
noncomputable def GRG2 : Ctx := GS.with ss_RNx ll_sm
noncomputable def tgt_same (nl : Bool) (n : Nat) (x : Nat → Int) (nl2 : Bool) : T CallOut := evCallW [] GRG2 300 15 [.one (.f (.fs nl 1 n (intE x))), .one (.f (.fs nl2 1 n (intE x)))] [] 0
theorem GKRG2 : KnownOk Try.prog GRG2 := KnownOk.lists ss_RNx_ok ll_sm_ok
theorem GORG2 : CtxOk Try.prog GRG2 := GS_ok.with _ _
theorem tree_same (nl : Bool) (n : Nat) (x : Nat → Int) (nl2 : Bool) : (tgt_same nl n x nl2).over (.br .leaf (.br (.br .leaf .skip) .skip)) =
  T.br ((↑n : Int) != (↑n : Int)) (T.ret (out0 (SV.v (AB false))))
    (T.br (pb (Code.loop (loopOf Proofs.Try.f15 (4 : Nat)) = Code.loop (loopOf Proofs.Try.f15 (4 : Nat)) ∧ (26 : Nat) = (26 : Nat)))
      (T.br (pb (IntE (intE x) ∧ intE x = intE x ∧ n = n ∧ (nl = true → n = (0 : Nat)) ∧ (nl2 = true → n = (0 : Nat)) ∧ n ≤ (1048576 : Nat) ∧ (↑n : Int) = (↑n : Int) ∧ (0 : Int) = (0 : Int))) (T.ret (out0 (SV.v (AB true)))) T.bad) T.bad) := by kernel_rfl
theorem res_same (nl : Bool) (n : Nat) (x : Nat → Int) (nl2 : Bool) (h : (nl = true → n = 0) ∧ (nl2 = true → n = 0) ∧ n ≤ 1048576) : (tgt_same nl n x nl2).res = some (out0 (.v (AB true))) := by
  refine T.over_eq _ (tree_same nl n x nl2) ?_
  have h1 : (nl = true → n = 0) = True := eq_true h.1
  have h2 : (nl2 = true → n = 0) = True := eq_true h.2.1
  simp only [T.res_br, T.res_ret, T.res_bad, IntE_ok, h1, h2, h.2.2, bne_self_eq_false, eq_self, and_self, pb_tt, Bool.false_eq_true, reduceIte]

noncomputable def F_same : SumF
  | [.one (.f (.fs nl 1 n e)), .one (.f (.fs nl2 1 n2 e2))], [], 0 => .need (pb (IntE e ∧ e = e2 ∧ n = n2 ∧ (nl = true → n = 0) ∧ (nl2 = true → n = 0) ∧ n ≤ 1048576)) (.ret (out0 (.v (AB true))))
  | _, _, _ => .bad
theorem sum_same : SumOk Try.prog 15 F_same := by
  refine ⟨fun args H nx r hr => ?_, fun args H nx => ?_⟩
  · unfold F_same at hr
    split at hr
    · rename_i nl n e nl2 n2 e2
      obtain ⟨h0, hr⟩ := T.need_some hr
      have := T.ret_some hr
      subst this
      have h := pb_of h0
      obtain ⟨⟨x, rfl⟩, rfl, rfl, h1⟩ := h
      exact evCallW_ok GORG2 GKRG2 (res_same nl n x nl2 h1)
    · exact (T.bad_some hr).elim
  · unfold F_same
    split
    · exact T.Every.need ⟨Nat.zero_le _, fun b hb hw => absurd hb (Nat.not_lt_zero b)⟩
    · trivial
noncomputable def sm_same : SumF := orSum (nilSum 1 ((intE fun _ => 0)) (canonSum F_same)) (lendSum (nilSum 1 ((intE fun _ => 0)) (canonSum F_same)))
theorem sm_same_ok : SumOk Try.prog 15 sm_same := orSum_ok (nilSum_ok (canonSum_ok sum_same)) (lendSum_ok (nilSum_ok (canonSum_ok sum_same)))
noncomputable def ss_same : List (Nat × SumF) := (15, sm_same) :: ss_RNx
theorem ss_same_ok : ∀ x ∈ ss_same, SumOk Try.prog x.1 x.2 := List.forall_mem_cons.2 ⟨sm_same_ok, ss_RNx_ok⟩
end Go.Proofs.Ytggneleipimijaa.En
/- The engine, part 37: 'for k, v := range m', whatever the order. -/
namespace Go.Proofs.Ytggneleipimijaa.En
open Go
open Go.ChangeMaps (setBlock)
set_option linter.unusedVariables false
set_option linter.unusedSimpArgs false

/-- an iterator, as a word -/
abbrev itV (r : Nat) : SV := .v (.one (.f (.lit (.pointer (some ⟨r, 0, none⟩)))))

theorem lt_of_some {α : Type} {a : Array α} {i : Nat} {x : α} (h : a[i]? = some x) : i < a.size := (Array.getElem?_eq_some_iff.1 h).1

/-- an iterator's block, its map's: nobody else has them -/
structure It (f : Fn) (H : Heap) (w : World) (k r : Nat) (arr : Array MapEntry) (clock since : Nat) (seen : Array Nat) (c0 : Nat) : Prop where
  it : w.heap[r]? = some (.mapIter (some k) since seen c0)
  mp : w.heap[k]? = some (.map arr clock)
  born : BornOk arr since
  sc : since ≤ c0
  sk : since ≤ clock
  free : ∀ b, (H.get b).live → (f b).k ≠ r ∧ (f b).k ≠ k

theorem It.post {f f' : Fn} {nx nx' : Nat} {z z' : Z} {w w' : World} {H H' : Heap} {e : Bool} {k r : Nat} {arr : Array MapEntry} {clock since c0 : Nat} {seen : Array Nat}
    (h : It f H w k r arr clock since seen c0) (hp : Post All f nx z w H f' nx' z' w' H' e) : It f' H' w' k r arr clock since seen c0 := by
  have hr := lt_of_some h.it
  have hk := lt_of_some h.mp
  have nr : ¬ img All f H r := fun ⟨b, _, hl, e⟩ => (h.free b hl).1 e
  have nk : ¬ img All f H k := fun ⟨b, _, hl, e⟩ => (h.free b hl).2 e
  refine ⟨(hp.fr.block r hr nr).trans h.it, (hp.fr.block k hk nk).trans h.mp, h.born, h.sc, h.sk, fun b hl => ?_⟩
  rcases Nat.lt_or_ge b nx with hb | hb
  · rw [hp.ext b hb]; exact h.free b (hp.dead b hb hl)
  · rcases hp.fresh b hb hl with h1 | h1
    · exact ⟨by omega, by omega⟩
    · exact ⟨fun e => nr (e ▸ h1), fun e => nk (e ▸ h1)⟩

/-- a block that nobody has is another one -/
theorem Rel.other {S : Nat → Prop} {f : Fn} {nx : Nat} {z : Z} {w w' : World} {H : Heap} {r : Nat} (h : Rel S f nx z w H) (hs : w'.heap.size = w.heap.size) (hb : ∀ k, k ≠ r → w'.heap[k]? = w.heap[k]?)
    (hf : ∀ b, S b → (H.get b).live → (f b).k ≠ r) (hz : ∀ o v, z r o ≠ some v) : Rel S f nx z w' H := by
  have hc : ∀ k p, k ≠ r → w'.cell? ⟨k, p, none⟩ = w.cell? ⟨k, p, none⟩ := fun k p hk => World.cell?_of_block (w := w) (hb k hk)
  have hfz : ∀ k p, k ≠ r → w'.frozen? ⟨k, p, none⟩ = w.frozen? ⟨k, p, none⟩ := fun k p hk => World.frozen?_of_block (w := w) (hb k hk)
  refine ⟨fun b hS hl => ⟨(h.own b hS hl).1, ?_⟩, h.inj, fun k o v hv => ?_⟩
  · have hk := hf b hS hl
    obtain ⟨_, ok⟩ := h.own b hS hl
    refine ⟨by rw [hs]; exact ok.lt, ok.own, fun p hp => by rw [hc _ _ hk, hfz _ _ hk]; exact ok.room p hp, fun m i j x hx => ?_, fun es he => by rw [hb _ hk]; exact ok.map es he⟩
    obtain ⟨h1, v, h2, h3⟩ := ok.cell m i j x hx
    exact ⟨h1, v, by simp only [ad]; rw [hc _ _ hk]; exact h2, h3⟩
  · have hk : k ≠ r := fun e => hz o v (e ▸ hv)
    rw [hc _ _ hk]; exact h.zok k o v hv

theorem Post.other {f f' : Fn} {nx nx' : Nat} {z z' : Z} {w w' w'' : World} {H H' : Heap} {e : Bool} {r : Nat} (h : Post All f nx z w H f' nx' z' w' H' e) (hr : w.heap.size ≤ r) (hs : w''.heap.size = w'.heap.size)
    (ho : w''.os = w'.os) (ht : w''.tape = w'.tape) (hu : w''.output = w'.output) (hb : ∀ k, k ≠ r → w''.heap[k]? = w'.heap[k]?) (hf : ∀ b, (H'.get b).live → (f' b).k ≠ r) (hz : ∀ o v, z' r o ≠ some v) :
    Post All f nx z w H f' nx' z' w'' H' e :=
  ⟨h.hnx, h.ext, h.zle, h.znew, h.same, h.dead, h.rel.other hs hb (fun b _ hl => hf b hl) hz, h.fresh,
    ⟨by rw [hs]; exact h.fr.size, ho.trans h.fr.os, ht.trans h.fr.tape, hu.trans h.fr.output, fun k hk hn => (hb k (by omega)).trans (h.fr.block k hk hn)⟩, h.noesc⟩

/-- a new block that nobody has -/
theorem Post.alloc0 {f : Fn} {nx : Nat} {z : Z} {w : World} {H : Heap} (hr : Rel All f nx z w H) (o : Obj) : Post All f nx z w H f nx z (w.alloc o) H false := by
  have hfr : Fr (fun _ => False) w (w.alloc o) := ⟨by simp, rfl, rfl, rfl, fun k hk _ => heap_alloc_old w o hk⟩
  refine ⟨Nat.le_refl _, fun _ _ => rfl, fun _ _ _ h => h, fun _ _ _ h => .inl h, fun b _ hs => absurd trivial hs, fun _ _ h => h, ⟨fun b _ hl => ?_, fun b c _ _ => hr.inj b c trivial trivial, fun k o' v hv => ?_⟩, fun b hb hl => absurd hl (hr.noLive b hb),
    ⟨hfr.size, rfl, rfl, rfl, fun k hk _ => hfr.block k hk id⟩, fun _ _ _ h => h⟩
  · obtain ⟨h1, h2⟩ := hr.own b trivial hl
    exact ⟨h1, h2.kept h1 hfr id (fun _ _ => rfl) (Nat.le_refl _) (fun _ _ _ h => h) (fun _ _ _ h => .inl h)⟩
  · have h1 := hr.zok k o' v hv
    rw [World.cell?_alloc_lt _ _ _ (block_lt_of_cell h1)]
    exact h1

theorem cell_mapIter {w : World} {r : Nat} {m : Option Nat} {s c : Nat} {seen : Array Nat} (h : w.heap[r]? = some (.mapIter m s seen c)) (o : Nat) : w.cell? ⟨r, o, none⟩ = none := by
  simp [World.cell?, h]

theorem TR.skip {f : Fn} {nx : Nat} {z : Z} {s : Slots} {a : Array Value} (h : TR f nx z s a) {d : Nat} (hd : s.get d = .top) (v : Value) : TR f nx z s (a.setIfInBounds d v) := by
  intro t
  by_cases e : d = t
  · subst e; rw [hd]; trivial
  · have := h t
    simpa [Array.getElem?_setIfInBounds, e] using this

/-- the rest of a round, behind the step and the entry -/
def evRest (G : Ctx) (K F N : Nat) (all l : List Oper) (rest : Code) (kb : Nat) (st : St) : T (Ex × St) :=
  (evOps G (evKnown G (ev G noLive K)) N all l st).bind fun st => (ev G noLive K F N rest st).bind fun x => match x.1 with
    | .exit k => match Nat.beq k kb with | true => .ret (.normal, x.2) | false => .ret (.exit k, x.2)
    | e => .ret (e, x.2)

/-- it, its blocks named anew, from m on -/
def evRR (G : Ctx) (K F N : Nat) (all l : List Oper) (rest : Code) (kb m : Nat) (live : List Nat) (st : St) : T (Ex × St) :=
  (evRest G K F N all l rest kb st).bind fun x => match canonSt m live x.2 with
    | some s => .ret (x.1, s)
    | none => .bad

section
variable {P : Program} {G : Ctx} (hG : CtxOk P G) (hK : KnownOk P G)
include hG hK

theorem evRest_ok {K F N : Nat} {o4 : Oper} {ops2 : Array Oper} {l : List Oper} {rest : Code} {kb : Nat} {st s : St} {e : Ex} (hops : ops2.toList = o4 :: l) (h : (evRest G K F N ops2.toList l rest kb st).res = some (e, s)) :
    (s.esc = false → st.esc = false) ∧ ∀ (f : Fn) (z : Z) (w : World) (a : Act), TR f st.nx z st.sl a.tmps → Rel All f st.nx z w st.H → a.tmps.size = N → a.defers = [] → ∀ (Q : Exit → Act → World → Prop),
      (∀ f' z' w' a', Post All f st.nx z w st.H f' s.nx z' w' s.H s.esc → TR f' s.nx z' s.sl a'.tmps → a'.tmps.size = N → a'.defers = [] → Q (exitOf e) a' w') →
      wpOps P ops2 (Exit.then (rest.wp P (Exit.inBlock kb Q)) (Exit.inBlock kb Q)) (List.range' 1 l.length) a w := by
  unfold evRest at h
  obtain ⟨st1, h1, h⟩ := T.bind_some h
  obtain ⟨⟨e1, st2⟩, h2, h⟩ := T.bind_some h
  have hC : CallOk P (evKnown G (ev G noLive K)) := evKnown_ok hG hK.sum (ev_ok hG hK K)
  have hl : ∀ i, l[i]? = ops2.toList[1 + i]? := fun i => by
    rw [hops, Nat.add_comm 1 i, List.getElem?_cons_succ]
  have hrest := ev_ok hG hK K F N rest st1 e1 st2 h2
  have hs : s = st2 ∧ ∀ Q : Exit → Act → World → Prop, ∀ a w, Q (exitOf e) a w → Exit.inBlock kb Q (exitOf e1) a w := by
    cases e1 with
    | normal =>
      have := T.ret_some h
      simp only [Prod.mk.injEq] at this
      obtain ⟨rfl, rfl⟩ := this
      exact ⟨rfl, fun Q a w h => h⟩
    | ret =>
      have := T.ret_some h
      simp only [Prod.mk.injEq] at this
      obtain ⟨rfl, rfl⟩ := this
      exact ⟨rfl, fun Q a w h => h⟩
    | exit k =>
      simp only at h
      split at h
      · rename_i hk
        have hk := nbeq hk
        have := T.ret_some h
        simp only [Prod.mk.injEq] at this
        obtain ⟨rfl, rfl⟩ := this
        exact ⟨rfl, fun Q a w h => by simp only [exitOf, Exit.inBlock, hk, if_true]; exact h⟩
      · rename_i hk
        have hk : k ≠ kb := fun e => by rw [e, Nat.beq_refl] at hk; cases hk
        have := T.ret_some h
        simp only [Prod.mk.injEq] at this
        obtain ⟨rfl, rfl⟩ := this
        exact ⟨rfl, fun Q a w h => by simp only [exitOf, Exit.inBlock, hk, if_false]; exact h⟩
  obtain ⟨rfl, hq⟩ := hs
  refine ⟨fun he => (evOps_seq (Q := fun _ _ _ => True) hG hC l 1 st st1 hl h1).1 (hrest.1 he), fun f z w a ht hr hN hd Q hQ => ?_⟩
  obtain ⟨_, i2⟩ := evOps_seq (Q := Exit.then (rest.wp P (Exit.inBlock kb Q)) (Exit.inBlock kb Q)) hG hC l 1 st st1 hl h1
  refine i2 f z w a ht hr hN fun f1 z1 w1 a1 hp ht1 hN1 hd1 => ?_
  show rest.wp P (Exit.inBlock kb Q) a1 w1
  refine hrest.2 f1 z1 w1 a1 ht1 hp.all hN1 (hd1.trans hd) _ fun f2 z2 w2 a2 hp2 ht2 hN2 hd2 => hq Q a2 w2 (hQ f2 z2 w2 a2 ((Post.trans hp hp2).weak fun he => ?_) ht2 hN2 hd2)
  rw [Bool.or_eq_false_iff]
  exact ⟨hrest.1 he, he⟩

omit hG hK in
theorem evRR_some {K F N : Nat} {all l : List Oper} {rest : Code} {kb m : Nat} {live : List Nat} {st s : St} {e : Ex} (h : (evRR G K F N all l rest kb m live st).res = some (e, s)) :
    ∃ st1, (evRest G K F N all l rest kb st).res = some (e, st1) ∧ StLe m st1 s := by
  unfold evRR at h
  obtain ⟨⟨e1, st1⟩, h1, h2⟩ := T.bind_some h
  simp only at h2
  split at h2
  · rename_i s1 hs
    have := T.ret_some h2
    simp only [Prod.mk.injEq] at this
    obtain ⟨rfl, rfl⟩ := this
    exact ⟨st1, h1, canonSt_ok hs⟩
  · exact (T.bad_some h2).elim

end

def kvE (e : MapEntry) : Value × Value := (e.key, e.val)
def leftL (arr : Array MapEntry) (seen : Array Nat) : List MapEntry := arr.toList.filter fun e => !seen.contains e.born

theorem left_push {arr : Array MapEntry} {since : Nat} {seen : Array Nat} (h : BornOk arr since) {e : MapEntry} (he : e ∈ leftL arr seen) : ∃ l1 l2, leftL arr seen = l1 ++ e :: l2 ∧ leftL arr (seen.push e.born) = l1 ++ l2 := by
  obtain ⟨l1, l2, hl⟩ := List.append_of_mem he
  refine ⟨l1, l2, hl, ?_⟩
  have hn : (leftL arr seen).Pairwise fun x y => x.born ≠ y.born := by
    have := h.2
    rw [List.Nodup, List.pairwise_map] at this
    exact this.filter _
  have e1 : leftL arr (seen.push e.born) = (leftL arr seen).filter fun x => !(x.born == e.born) := by
    unfold leftL
    rw [List.filter_filter]
    refine List.filter_congr fun x _ => ?_
    rw [Bool.eq_iff_iff]
    simp only [Bool.not_eq_true', Bool.and_eq_true, Array.contains_push, Bool.or_eq_false_iff]
    constructor
    · rintro h; exact ⟨by simpa using h.2, by simpa using h.1⟩
    · rintro h; exact ⟨by simpa using h.2, by simpa using h.1⟩
  rw [e1, hl]
  rw [hl] at hn
  obtain ⟨_, h2, h3⟩ := List.pairwise_append.1 hn
  obtain ⟨h4, _⟩ := List.pairwise_cons.1 h2
  rw [List.filter_append, List.filter_cons]
  rw [if_neg (by simp), List.filter_eq_self.2, List.filter_eq_self.2]
  · intro x hx
    simpa using (h4 x hx).symm
  · intro x hx
    simpa using h3 x hx e (List.mem_cons_self ..)

end Go.Proofs.Ytggneleipimijaa.En
/- The engine, part 38: 'for k, v := range m', known by its rounds. -/
namespace Go.Proofs.Ytggneleipimijaa.En
open Go
open Go.ChangeMaps (setBlock)
set_option linter.unusedVariables false
set_option linter.unusedSimpArgs false

/-- the statement's code -/
abbrev rgCode (id0 jb id1 kb id2 : Nat) (o0 o1 o2 o3 : Oper) (c3 : Operand) (ops2 : Array Oper) (rest : Code) : Code :=
  .seq (.region id0 #[o0, o1] false) (.block jb (.loop (.seq (.region id1 #[o2, o3] false) (.seq (.cond c3 .skip (.exit jb)) (.block kb (.seq (.region id2 ops2 false) rest))))))

theorem wanted_none {o : Oper} (h : o.guard = none) (y : Nat → Option Bool) : Region.wanted o y = true := by simp [Region.wanted, h]

theorem Rel.part {f : Fn} {nx : Nat} {z : Z} {w : World} {H : Heap} (h : Rel All f nx z w H) (p : Nat → Bool) : Rel All f nx z w (H.filter fun e => p e.1) := by
  have hg : ∀ b, (Heap.get (H.filter fun e => p e.1) b).live → Heap.get (H.filter fun e => p e.1) b = H.get b ∧ p b = true := fun b hl => by
    rw [get_filter p] at hl ⊢
    by_cases hb : p b = true
    · rw [if_pos hb]; exact ⟨rfl, hb⟩
    · rw [if_neg hb] at hl; exact hl.elim
  refine ⟨fun b _ hl => ?_, fun b c _ _ hl hl' hne => ?_, h.zok⟩
  · obtain ⟨e, _⟩ := hg b hl
    rw [e] at hl ⊢
    exact h.own b trivial hl
  · obtain ⟨e, _⟩ := hg b hl
    obtain ⟨e', _⟩ := hg c hl'
    rw [e] at hl
    rw [e'] at hl'
    exact h.inj b c trivial trivial hl hl' hne

section
variable {P : Program} {G : Ctx} (hG : CtxOk P G) (hK : KnownOk P G)
include hG hK

theorem map_range {K F N mb id0 jb id1 kb id2 : Nat} {T kt et : Nat} {o0 o1 o2 o3 o4 : Oper} {x0 : Operand} {d0 d1 d2 d3 d4 : Nat} {ops2 : Array Oper} {l : List Oper} {rest : Code}
    (h0 : o0.op = .move x0 ∧ o0.dst = some d0 ∧ o0.guard = none) (h1 : o1.op = .range T (.tmp d0) ∧ o1.dst = some d1 ∧ o1.guard = none)
    (h2 : o2.op = .next (.tmp d1) false ∧ o2.dst = some d2 ∧ o2.guard = none) (h3 : o3.op = .extract (.tmp d2) 0 ∧ o3.dst = some d3 ∧ o3.guard = none)
    (h4 : o4.op = .entry (.tmp d1) ∧ o4.dst = some d4 ∧ o4.guard = none) (hops : ops2.toList = o4 :: l)
    (hd : d0 < N ∧ d1 < N ∧ d2 < N ∧ d3 < N ∧ d4 < N) (hne : d2 ≠ d1 ∧ d3 ≠ d1) (hT : P.underlying T = some (.map kt et))
    {A : Type} (S : Nat → A → St) (Inv : List (Value × Value) → A → Prop) (live : List Nat) (ids : List Nat) {Sfin st0 : St} {es : List (Value × Value)} {a0 : A}
    (hx : st0.val x0 = .v (.one (.mp mb))) (hes : st0.H.get mb = .map es) (hone : ∀ p ∈ es, p.1.oneCell' = true ∧ p.2.oneCell' = true) (hesc0 : st0.esc = false)
    (hmb : mb ∉ ids) (hids : ∀ b, (st0.H.get b).live → b = mb ∨ b ∈ ids)
    (hS : ∀ r a, st0.nx ≤ (S r a).nx ∧ (S r a).esc = false ∧ (S r a).sl.get d1 = itV r ∧ (S r a).sl.get d2 = .top ∧ (S r a).sl.get d3 = .top)
    (h00 : ∀ r, StLe st0.nx ⟨(d1, itV r) :: (d0, .top) :: st0.sl, st0.H.filter (fun e => ids.any (Nat.beq e.1)), st0.nx, false, 0, []⟩ (S r a0))
    (hI0 : Inv es a0)
    (hround : ∀ r a left1 left2 p, p ∈ es → Inv (left1 ++ p :: left2) a → ∃ s a', (evRR G K F N ops2.toList l rest kb st0.nx live ((S r a).put (some d4) (.tup [.one (.f (.lit p.1)), .one (.f (.lit p.2))]))).res = some (.normal, s) ∧ StLe st0.nx s (S r a') ∧ Inv (left1 ++ left2) a')
    (hend : ∀ r a, Inv [] a → StLe st0.nx (S r a) Sfin) (hfin : Sfin.esc = false) :
    CodeOk P N (rgCode id0 jb id1 kb id2 o0 o1 o2 o3 (.tmp d3) ops2 rest) st0 .normal ⟨Sfin.sl, Sfin.H ++ st0.H.filter (fun e => !(ids.any (Nat.beq e.1))), Sfin.nx, false, 0, []⟩ := by
  obtain ⟨p0, q0, g0⟩ := h0
  obtain ⟨p1, q1, g1⟩ := h1
  obtain ⟨p2, q2, g2⟩ := h2
  obtain ⟨p3, q3, g3⟩ := h3
  obtain ⟨p4, q4, g4⟩ := h4
  obtain ⟨n0, n1, n2, n3, n4⟩ := hd
  refine ⟨fun _ => hesc0, fun f z w a ht hr hN hdf Q hQ => ?_⟩
  have hX := val_ok ht x0
  rw [hx] at hX
  obtain ⟨hm0, hX⟩ := hX
  have hml : (st0.H.get mb).live := by rw [hes]; trivial
  obtain ⟨_, hok⟩ := hr.own mb trivial hml
  rw [hes] at hok
  obtain ⟨_, arr, clock, hw, he, hbo⟩ := hok.map es rfl
  -- the iterator is made
  refine wp_seq (wp_region ?_)
  show wpOps P #[o0, o1] _ [0, 1] a w
  simp only [wpOps]
  have i0 : (#[o0, o1] : Array Oper)[0]? = some o0 := rfl
  have i1 : (#[o0, o1] : Array Oper)[1]? = some o1 := rfl
  simp only [i0, i1, wanted_none g0, wanted_none g1, if_true]
  refine .inl (wp_value (v := .map (some (f mb).k)) (w' := w) ?_ ?_)
  · simp only [execOp, p0, hX]
    rfl
  have e0 : (a.put o0.dst (.map (some (f mb).k))).eval (.tmp d0) = .map (some (f mb).k) := by
    simp only [q0, Act.put, Act.eval]
    rw [Array.getD_eq_getD_getElem?, Array.getElem?_setIfInBounds_self_of_lt (by omega)]
    rfl
  refine .inl (wp_value (v := .pointer (some ⟨w.heap.size, 0, none⟩)) (w' := w.alloc (.mapIter (some (f mb).k) clock #[] clock)) ?_ ?_)
  · simp only [execOp, p1]
    refine run_v ?_
    rw [e0]
    exact run_range_map w T kt et (f mb).k arr clock hT hw
  generalize ha2 : (a.put o0.dst (.map (some (f mb).k))).put o1.dst (.pointer (some ⟨w.heap.size, 0, none⟩)) = a2
  have ht2 : TR f st0.nx z ((d1, itV w.heap.size) :: (d0, .top) :: st0.sl) a2.tmps := by
    rw [← ha2, q0, q1]
    simp only [Act.put]
    exact (ht.put (x := .top) (by omega) trivial).put (by rw [Array.size_setIfInBounds]; omega) (.lit _ rfl)
  have hN2 : a2.tmps.size = N := by rw [← ha2, q0, q1]; simp only [Act.put, Array.size_setIfInBounds]; exact hN
  have hd2 : a2.defers = [] := by rw [← ha2, q0, q1]; exact hdf
  -- the part without the map
  have hrp := hr.part fun b => ids.any (Nat.beq b)
  have hpa := Post.alloc0 hrp (.mapIter (some (f mb).k) clock #[] clock)
  have hkr : (f mb).k < w.heap.size := hok.lt
  have hinH : ∀ b, (Heap.get (st0.H.filter fun e => ids.any (Nat.beq e.1)) b).live → b ≠ mb ∧ (st0.H.get b).live := fun b hl => by
    rw [get_filter (fun b => ids.any (Nat.beq b))] at hl
    by_cases hb : ids.any (Nat.beq b) = true
    · rw [if_pos hb] at hl
      exact ⟨fun e => hmb (e ▸ (anyBeq ids b).1 hb), hl⟩
    · rw [if_neg hb] at hl; exact hl.elim
  have hit0 : It f (st0.H.filter fun e => ids.any (Nat.beq e.1)) (w.alloc (.mapIter (some (f mb).k) clock #[] clock)) (f mb).k w.heap.size arr clock clock #[] clock :=
    ⟨heap_alloc_new _ _, (heap_alloc_old w _ hkr).trans hw, hbo, Nat.le_refl _, Nat.le_refl _, fun b hl => by
      obtain ⟨hb1, hb2⟩ := hinH b hl
      have := (hr.own b trivial hb2).2.lt
      exact ⟨by omega, hr.inj b mb trivial trivial hb2 hml hb1⟩⟩
  obtain ⟨f1, z1, ht1, hp1⟩ := (h00 w.heap.size).to f z _ a2.tmps ht2 hpa.all
  have hP1 := (Post.trans' hpa hp1 (Nat.le_refl _)).weak (e' := false) fun _ => by rw [(hS w.heap.size a0).2.1]; rfl
  show (Code.block jb _).wp P Q a2 _
  refine wp_block ?_
  generalize hw1 : w.alloc (.mapIter (some (f mb).k) clock #[] clock) = w1 at *
  have hrs : w.heap.size < w1.heap.size := by rw [← hw1]; simp
  generalize hrr : w.heap.size = r at *
  generalize hkk : (f mb).k = k at *
  refine wp_loop_ghost (fun n a' w' => ∃ f' z' acc seen c0, n = (leftL arr seen).length ∧ Inv ((leftL arr seen).map kvE) acc ∧ TR f' (S r acc).nx z' (S r acc).sl a'.tmps ∧ a'.tmps.size = N ∧ a'.defers = [] ∧
    It f' (S r acc).H w' k r arr clock clock seen c0 ∧ Post All f st0.nx z w (st0.H.filter fun e => ids.any (Nat.beq e.1)) f' (S r acc).nx z' w' (S r acc).H false) (leftL arr #[]).length
    ⟨f1, z1, a0, #[], clock, rfl, ?_, ht1, hN2, hd2, hit0.post hp1, hP1⟩ ?_
  · have : leftL arr #[] = arr.toList := List.filter_eq_self.2 fun x _ => by simp
    rw [this]
    show Inv (arr.toList.map fun e => (e.key, e.val)) a0
    rw [he]; exact hI0
  rintro n a' w' ⟨f', z', acc, seen, c0, hn, hI, ht', hN', hd', hit, hP⟩
  have hSr := hS r acc
  have hitv : a'.eval (.tmp d1) = .pointer (some ⟨r, 0, none⟩) := by
    have := ht' d1
    rw [hSr.2.2.1] at this
    exact lit_ok this
  have hzr : ∀ o v, z' r o ≠ some v := fun o v hv => by
    have := hP.rel.zok r o v hv
    rw [cell_mapIter hit.it] at this
    cases this
  refine wp_seq (wp_region ?_)
  show wpOps P #[o2, o3] _ [0, 1] a' w'
  simp only [wpOps]
  have i2 : (#[o2, o3] : Array Oper)[0]? = some o2 := rfl
  have i3 : (#[o2, o3] : Array Oper)[1]? = some o3 := rfl
  simp only [i2, i3, wanted_none g2, wanted_none g3, if_true]
  have hput : ∀ (v2 v3 : Value), ((a'.put o2.dst v2).put o3.dst v3).tmps = (a'.tmps.setIfInBounds d2 v2).setIfInBounds d3 v3 ∧ ((a'.put o2.dst v2).put o3.dst v3).defers = [] := fun v2 v3 => by
    rw [q2, q3]
    exact ⟨rfl, hd'⟩
  have hev2 : ∀ v2 : Value, (a'.put o2.dst v2).eval (.tmp d2) = v2 := fun v2 => by
    simp only [q2, Act.put, Act.eval]
    rw [Array.getD_eq_getD_getElem?, Array.getElem?_setIfInBounds_self_of_lt (by omega)]
    rfl
  have hev3 : ∀ v2 v3 : Value, ((a'.put o2.dst v2).put o3.dst v3).eval (.tmp d3) = v3 := fun v2 v3 => by
    simp only [q2, q3, Act.put, Act.eval]
    rw [Array.getD_eq_getD_getElem?, Array.getElem?_setIfInBounds_self_of_lt (by rw [Array.size_setIfInBounds]; omega)]
    rfl
  have htp : ∀ v2 v3 : Value, TR f' (S r acc).nx z' (S r acc).sl ((a'.put o2.dst v2).put o3.dst v3).tmps := fun v2 v3 => by
    rw [(hput v2 v3).1]
    exact (ht'.skip hSr.2.2.2.1 v2).skip hSr.2.2.2.2 v3
  have hNp : ∀ v2 v3 : Value, ((a'.put o2.dst v2).put o3.dst v3).tmps.size = N := fun v2 v3 => by
    rw [(hput v2 v3).1]
    simp only [Array.size_setIfInBounds]; exact hN'
  rcases run_next_at (P := P) w' 0 r k clock c0 seen arr clock hit.it hit.mp hit.born.1 hit.sc with ⟨hz, hrun⟩ | ⟨e, he2, w2, hw2, hrun⟩
  · -- nothing is left
    have hleft : leftL arr seen = [] := by
      have : leftOf arr seen = #[] := Array.eq_empty_of_size_eq_zero hz
      unfold leftL
      have h9 := congrArg Array.toList this
      simpa [leftOf] using h9
    refine .inl (wp_value (v := .tuple #[.bool false]) (w' := w') ?_ ?_)
    · simp only [execOp, p2]
      refine run_v ?_
      rw [hitv]
      exact hrun
    refine .inl (wp_value (v := .bool false) (w' := w') ?_ ?_)
    · simp only [execOp, p3]
      refine run_v ?_
      rw [hev2]
      rfl
    show (Code.seq _ _).wp P _ _ _
    refine wp_seq (wp_cond_false (hev3 _ _) (wp_exit ?_))
    show Exit.inBlock jb Q (.exit jb) _ _
    simp only [Exit.inBlock, if_true]
    rw [hleft] at hI
    obtain ⟨f2, z2, ht2', hp2⟩ := (hend r acc hI).to f' z' w' _ (htp (.tuple #[.bool false]) (.bool false)) hP.all
    have hP2 := (Post.trans' hP hp2 (Nat.le_refl _)).weak (e' := false) fun _ => by rw [hfin]; rfl
    have hpp := Post.part ids hr.noLive hP2
    exact hQ f2 z2 w' _ (Post.lift hr hpp) ht2' (hNp _ _) (hput _ _).2
  · -- one comes out
    have he3 : e ∈ leftL arr seen := by
      unfold leftL
      simpa [leftOf] using he2
    have hea : e ∈ arr.toList := (List.mem_filter.1 he3).1
    have hw2h : w2.heap = w'.heap ∧ w2.os = w'.os ∧ w2.tape = w'.tape ∧ w2.output = w'.output := by rcases hw2 with rfl | rfl <;> exact ⟨rfl, rfl, rfl, rfl⟩
    generalize hw3 : setBlock w2 r (.mapIter (some k) clock (seen.push e.born) clock) = w3 at *
    have hb3 : ∀ x, x ≠ r → w3.heap[x]? = w'.heap[x]? := fun x hx => by
      rw [← hw3]
      simp only [setBlock, hw2h.1]
      rw [Array.getElem?_setIfInBounds_ne (Ne.symm hx)]
    have hs3 : w3.heap.size = w'.heap.size := by rw [← hw3]; simp [setBlock, hw2h.1]
    have hrlt : r < w'.heap.size := lt_of_some hit.it
    have hkne : k ≠ r := fun e9 => by
      have h8 := hit.it
      rw [← e9, hit.mp] at h8
      cases h8
    have hr3 : w3.heap[r]? = some (.mapIter (some k) clock (seen.push e.born) clock) := by
      rw [← hw3]
      simp only [setBlock, hw2h.1]
      rw [Array.getElem?_setIfInBounds_self_of_lt hrlt]
    have hm3 : w3.heap[k]? = some (.map arr clock) := (hb3 k hkne).trans hit.mp
    have hP3 : Post All f st0.nx z w (st0.H.filter fun e => ids.any (Nat.beq e.1)) f' (S r acc).nx z' w3 (S r acc).H false :=
      hP.other (by omega) hs3 (by rw [← hw3]; exact hw2h.2.1) (by rw [← hw3]; exact hw2h.2.2.1) (by rw [← hw3]; exact hw2h.2.2.2) hb3 (fun b hl => (hit.free b hl).1) hzr
    have hit3 : It f' (S r acc).H w3 k r arr clock clock (seen.push e.born) clock := ⟨hr3, hm3, hit.born, Nat.le_refl _, Nat.le_refl _, hit.free⟩
    refine .inl (wp_value (v := .tuple #[.bool true, e.key, e.val]) (w' := w3) ?_ ?_)
    · simp only [execOp, p2]
      refine run_v ?_
      rw [hitv]
      exact hrun
    refine .inl (wp_value (v := .bool true) (w' := w3) ?_ ?_)
    · simp only [execOp, p3]
      refine run_v ?_
      rw [hev2]
      rfl
    show (Code.seq _ _).wp P _ _ _
    refine wp_seq (wp_cond_true (hev3 _ _) (wp_skip ?_))
    show (Code.block kb _).wp P _ _ _
    refine wp_block (wp_seq (wp_region ?_))
    have hsz : List.range ops2.size = 0 :: List.range' 1 l.length := by
      have : ops2.size = l.length + 1 := by rw [← Array.length_toList, hops]; rfl
      rw [this, List.range_eq_range', List.range'_succ]
    rw [hsz]
    have i4 : ops2[0]? = some o4 := by rw [← Array.getElem?_toList, hops]; rfl
    simp only [wpOps, i4, wanted_none g4, if_true]
    have hitv2 : ((a'.put o2.dst (.tuple #[.bool true, e.key, e.val])).put o3.dst (.bool true)).eval (.tmp d1) = .pointer (some ⟨r, 0, none⟩) := by
      have := htp (.tuple #[.bool true, e.key, e.val]) (.bool true) d1
      rw [hSr.2.2.1] at this
      exact lit_ok this
    refine .inl (wp_value (v := .tuple #[e.key, e.val]) (w' := w3) ?_ ?_)
    · simp only [execOp, p4]
      refine run_v ?_
      rw [hitv2]
      exact run_entry_at w3 r k clock seen arr clock e hr3 hm3 hea hit.born.2
    obtain ⟨l1, l2, hl1, hl2⟩ := left_push hit.born he3
    have hpe : kvE e ∈ es := by rw [← he]; exact List.mem_map.2 ⟨e, hea, rfl⟩
    rw [hl1, List.map_append, List.map_cons] at hI
    obtain ⟨s, acc', hs1, hs2, hs3'⟩ := hround r acc (l1.map kvE) (l2.map kvE) (kvE e) hpe hI
    obtain ⟨s0, hs4, hs5⟩ := evRR_some hs1
    obtain ⟨c1, c2⟩ := evRest_ok hG hK hops hs4
    obtain ⟨o1', o2'⟩ := hone _ hpe
    have hty : TR f' ((S r acc).put (some d4) (.tup [.one (.f (.lit (kvE e).1)), .one (.f (.lit (kvE e).2))])).nx z' ((S r acc).put (some d4) (.tup [.one (.f (.lit (kvE e).1)), .one (.f (.lit (kvE e).2))])).sl
        (((a'.put o2.dst (.tuple #[.bool true, e.key, e.val])).put o3.dst (.bool true)).put o4.dst (.tuple #[e.key, e.val])).tmps := by
      rw [q4]
      refine (htp _ _).put (by rw [hNp]; omega) ?_
      exact ⟨#[e.key, e.val], rfl, .cons (.lit _ o1') (.cons (.lit _ o2') .nil)⟩
    refine c2 f' z' w3 _ hty hP3.all (by rw [q4]; simp only [Act.put, Array.size_setIfInBounds]; exact hNp _ _) (by rw [q4]; exact (hput _ _).2) _ fun f5 z5 w5 a5 hp5 ht5 hN5 hd5 => ?_
    show Exit.then _ _ .normal a5 w5
    obtain ⟨f6, z6, ht6, hp6⟩ := hs5.to f5 z5 w5 a5.tmps ht5 hp5.all
    obtain ⟨f7, z7, ht7, hp7⟩ := hs2.to f6 z6 w5 a5.tmps ht6 hp6.all
    refine ⟨(leftL arr (seen.push e.born)).length, ?_, f7, z7, acc', seen.push e.born, clock, rfl, ?_, ht7, hN5, hd5, ((hit3.post hp5).post hp6).post hp7, ?_⟩
    · rw [hn, hl1, hl2]
      simp
    · rw [hl2, List.map_append]
      exact hs3'
    · refine (Post.trans' (Post.trans' (Post.trans hP3 hp5) hp6 (Nat.le_refl _)) hp7 (Nat.le_refl _)).weak fun _ => ?_
      have g7 := (hS r acc').2.1
      have g6 := hs2.esc g7
      have g5 := hs5.esc g6
      rw [g7, g6, g5]
      rfl

end

end Go.Proofs.Ytggneleipimijaa.En
/- The engine, part 39: the statement 'for k, v := range m' of a function, taken apart. -/
namespace Go.Proofs.Ytggneleipimijaa.En
open Go
set_option linter.unusedVariables false

/-- the statement that begins with this region -/
def seqAt : Code → Nat → Option Code
  | .seq a b, id => match (match rid0 a with | some k => Nat.beq k id | none => false) with
    | true => some (.seq a b)
    | false => match seqAt a id with | some c => some c | none => seqAt b id
  | .cond _ a b, id => match seqAt a id with | some c => some c | none => seqAt b id
  | .block _ c, id => seqAt c id
  | .loop c, id => seqAt c id
  | .scope c, id => seqAt c id
  | _, _ => none
def seqOf (f : Func) (id : Nat) : Code := match f.body with
  | some c => (seqAt c id).getD .skip
  | none => .skip
def rgHead : Code → Array Oper × Array Oper × Array Oper × Code
  | .seq (.region _ a _) (.block _ (.loop (.seq (.region _ b _) (.seq _ (.block _ (.seq (.region _ c _) rest)))))) => (a, b, c, rest)
  | _ => (#[], #[], #[], .skip)
def rgO (c : Code) : Nat → Oper
  | 0 => (rgHead c).1.toList.getD 0 default
  | 1 => (rgHead c).1.toList.getD 1 default
  | 2 => (rgHead c).2.1.toList.getD 0 default
  | 3 => (rgHead c).2.1.toList.getD 1 default
  | _ => (rgHead c).2.2.1.toList.getD 0 default
def rgOps (c : Code) : Array Oper := (rgHead c).2.2.1
def rgTail (c : Code) : List Oper := (rgHead c).2.2.1.toList.tail
def rgRest (c : Code) : Code := (rgHead c).2.2.2
/-- a round -/
def evRg (G : Ctx) (K F N : Nat) (c : Code) (kb d4 m : Nat) (live : List Nat) (st : St) (p : Value × Value) : T (Ex × St) :=
  evRR G K F N (rgOps c).toList (rgTail c) (rgRest c) kb m live (st.put (some d4) (.tup [.one (.f (.lit p.1)), .one (.f (.lit p.2))]))

/-- what a slot says less of -/
theorem get_skip {d : Nat} {v : SV} {sl sl' : Slots} (h : sl'.get d = .top) (he : ∀ t, t ≠ d → sl.get t = sl'.get t) : ∀ t, (Slots.get ((d, v) :: sl) t).le (sl'.get t) := fun t => by
  by_cases e : d = t
  · subst e; rw [h]; exact .inl rfl
  · rw [Slots.get_cons, if_neg e, he t (Ne.symm e)]; exact .inr (.inl rfl)

end Go.Proofs.Ytggneleipimijaa.En
/- The engine, part 40: what a code comes to, told by a set of states. -/
namespace Go.Proofs.Ytggneleipimijaa.En
open Go
open Go.ChangeMaps (setBlock)
set_option linter.unusedVariables false
set_option linter.unusedSimpArgs false

theorem Fr.on {S : Nat → Prop} {f f' : Fn} {nx nx' : Nat} {z z' : Z} {w0 w w' : World} {H H' : Heap} {e : Bool} (h : Fr (fun _ => False) w0 w) (hn : ∀ b, (H.get b).live → w0.heap.size ≤ (f b).k) (hp : Post S f nx z w H f' nx' z' w' H' e) : Fr (fun _ => False) w0 w' :=
  h.trans hp.fr fun x hx ⟨b, _, hl, hb⟩ => by have := hn b hl; omega

theorem Post.new {f f' : Fn} {nx nx' : Nat} {z z' : Z} {w0 w w' : World} {H H' : Heap} {e : Bool} (h : Fr (fun _ => False) w0 w) (hn : ∀ b, (H.get b).live → w0.heap.size ≤ (f b).k) (hp : Post All f nx z w H f' nx' z' w' H' e) : ∀ b, (H'.get b).live → w0.heap.size ≤ (f' b).k := fun b hl => by
  rcases Nat.lt_or_ge b nx with h1 | h1
  · rw [hp.ext b h1]
    exact hn b (hp.dead b h1 hl)
  · rcases hp.fresh b h1 hl with h2 | ⟨c, _, hc, h3⟩
    · exact Nat.le_trans h.size h2
    · rw [← h3]; exact hn c hc

/-- how a state stands for a run's, begun in w0 -/
structure Sit (N : Nat) (w0 : World) (st : St) (f : Fn) (z : Z) (w : World) (a : Act) : Prop where
  tr : TR f st.nx z st.sl a.tmps
  rel : Rel All f st.nx z w st.H
  size : a.tmps.size = N
  defers : a.defers = []
  fr : Fr (fun _ => False) w0 w
  new : ∀ b, (st.H.get b).live → w0.heap.size ≤ (f b).k

/-- however it runs, it ends in one of these states -/
def HT (P : Program) (N : Nat) (c : Code) (st : St) (R : Ex → St → Prop) : Prop :=
  ∀ w0 f z w a, Sit N w0 st f z w a → ∀ Q : Exit → Act → World → Prop, (∀ e st' f' z' w' a', R e st' → Sit N w0 st' f' z' w' a' → Q (exitOf e) a' w') → c.wp P Q a w

theorem Sit.post {N : Nat} {w0 : World} {st st' : St} {f f' : Fn} {z z' : Z} {w w' : World} {a a' : Act} {m : Nat} {e : Bool} (h : Sit N w0 st f z w a) (hm : m ≤ st.nx) (hp : Post All f m z w st.H f' st'.nx z' w' st'.H e)
    (ht : TR f' st'.nx z' st'.sl a'.tmps) (hN : a'.tmps.size = N) (hd : a'.defers = []) : Sit N w0 st' f' z' w' a' :=
  ⟨ht, hp.all, hN, hd, Fr.on h.fr h.new hp, Post.new h.fr h.new hp⟩

theorem Sit.le {N : Nat} {w0 : World} {st st' : St} {f : Fn} {z : Z} {w : World} {a : Act} {m : Nat} (h : Sit N w0 st f z w a) (hle : StLe m st st') : ∃ f' z', Sit N w0 st' f' z' w a := by
  obtain ⟨f', z', ht, hp⟩ := hle.to f z w a.tmps h.tr h.rel
  exact ⟨f', z', ht, hp.all, h.size, h.defers, Fr.on h.fr h.new hp, Post.new h.fr h.new hp⟩

section
variable {P : Program} {N : Nat}

theorem HT.of {c : Code} {st st' : St} {e : Ex} {R : Ex → St → Prop} (h : CodeOk P N c st e st') (hR : R e st') : HT P N c st R :=
  fun w0 f z w a s Q hQ => h.2 f z w a s.tr s.rel s.size s.defers Q fun f' z' w' a' hp ht hN hd => hQ e st' f' z' w' a' hR (s.post (Nat.le_refl _) hp ht hN hd)

theorem HT.mono {c : Code} {st : St} {R R' : Ex → St → Prop} (h : HT P N c st R) (hR : ∀ e s, R e s → ∃ m s', StLe m s s' ∧ R' e s') : HT P N c st R' :=
  fun w0 f z w a s Q hQ => h w0 f z w a s Q fun e st' f' z' w' a' hr s' => by
    obtain ⟨m, s2, hle, h2⟩ := hR e st' hr
    obtain ⟨f2, z2, s3⟩ := s'.le hle
    exact hQ e s2 f2 z2 w' a' h2 s3

theorem HT.weak {c : Code} {st : St} {R R' : Ex → St → Prop} (h : HT P N c st R) (hR : ∀ e s, R e s → R' e s) : HT P N c st R' :=
  fun w0 f z w a s Q hQ => h w0 f z w a s Q fun e st' f' z' w' a' hr s' => hQ e st' f' z' w' a' (hR e st' hr) s'

theorem HT.pre {c : Code} {st st1 : St} {R : Ex → St → Prop} {m : Nat} (hle : StLe m st st1) (h : HT P N c st1 R) : HT P N c st R :=
  fun w0 f z w a s Q hQ => by
    obtain ⟨f1, z1, s1⟩ := s.le hle
    exact h w0 f1 z1 w a s1 Q hQ

theorem HT.seq {x y : Code} {st : St} {R1 R : Ex → St → Prop} (hx : HT P N x st R1) (hy : ∀ s, R1 .normal s → HT P N y s R) (he : ∀ e s, e ≠ .normal → R1 e s → R e s) : HT P N (.seq x y) st R :=
  fun w0 f z w a s Q hQ => wp_seq (hx w0 f z w a s _ fun e st' f' z' w' a' hr s' => by
    cases e with
    | normal => exact hy st' hr w0 f' z' w' a' s' Q hQ
    | exit id => exact hQ (.exit id) st' f' z' w' a' (he _ _ (by simp) hr) s'
    | ret => exact hQ .ret st' f' z' w' a' (he _ _ (by simp) hr) s')

def unb (jb : Nat) : Ex → Ex
  | .exit k => if k = jb then .normal else .exit k
  | e => e

theorem HT.block {c : Code} {jb : Nat} {st : St} {R : Ex → St → Prop} (h : HT P N c st fun e s => R (unb jb e) s) : HT P N (.block jb c) st R :=
  fun w0 f z w a s Q hQ => wp_block (h w0 f z w a s _ fun e st' f' z' w' a' hr s' => by
    cases e with
    | normal => exact hQ .normal st' f' z' w' a' hr s'
    | ret => exact hQ .ret st' f' z' w' a' hr s'
    | exit k =>
      simp only [unb] at hr
      simp only [exitOf, Exit.inBlock]
      split
      · rename_i hk
        rw [if_pos hk] at hr
        exact hQ .normal st' f' z' w' a' hr s'
      · rename_i hk
        rw [if_neg hk] at hr
        exact hQ (.exit k) st' f' z' w' a' hr s')

/-- a loop: its states ahead of a round, what goes down -/
theorem HT.loop {c : Code} {α : Type} (S : α → St) (μ : α → Nat) (Inv : α → Prop) {R : Ex → St → Prop}
    (h : ∀ p, Inv p → HT P N c (S p) fun e s => (e = .normal ∧ ∃ m p', StLe m s (S p') ∧ Inv p' ∧ μ p' < μ p) ∨ (e ≠ .normal ∧ R e s)) {p : α} (hI : Inv p) {st0 : St} {m : Nat} (h0 : StLe m st0 (S p)) : HT P N (.loop c) st0 R := by
  intro w0 f z w a s Q hQ
  obtain ⟨f1, z1, s1⟩ := s.le h0
  refine wp_loop_ghost (fun k a w => ∃ p, μ p = k ∧ Inv p ∧ ∃ f z, Sit N w0 (S p) f z w a) (μ p) ⟨p, rfl, hI, f1, z1, s1⟩ ?_
  rintro k a w ⟨p, rfl, hI, f, z, s⟩
  refine h p hI w0 f z w a s _ fun e st' f' z' w' a' hr s' => ?_
  rcases hr with ⟨rfl, m, p', hle, hI', hlt⟩ | ⟨hne, hr⟩
  · obtain ⟨f2, z2, s2⟩ := s'.le hle
    exact ⟨μ p', hlt, p', rfl, hI', f2, z2, s2⟩
  · have := hQ e st' f' z' w' a' hr s'
    cases e with
    | normal => exact absurd rfl hne
    | exit id => exact this
    | ret => exact this

/-- the first k statements; what is behind them -/
def evCut (G : Ctx) (K F N : Nat) : Nat → Code → St → T (Ex × St)
  | 0, _, st => .ret (.normal, st)
  | k + 1, .seq a b, st => (ev G noLive K F N a st).bind fun x => match x.1 with
    | .normal => evCut G K F N k b x.2
    | e => .ret (e, x.2)
  | _ + 1, _, _ => .bad
def bodyOf (f : Func) : Code := match f.body with | some c => c | none => .skip
def restC : Nat → Code → Code
  | 0, c => c
  | k + 1, .seq _ b => restC k b
  | _ + 1, c => c
/-- they, and their blocks named anew -/
def evCutR (G : Ctx) (K F N : Nat) (k : Nat) (c : Code) (m : Nat) (live after : List Nat) (st : St) : T (Ex × St) :=
  (evCut G K F N k c st).bind fun x => match canonSt m (match x.1 with | .normal => live | _ => after) x.2 with
    | some s => .ret (x.1, s)
    | none => .bad
theorem evCutR_some {G : Ctx} {K F N k : Nat} {c : Code} {m : Nat} {live after : List Nat} {st : St} {e : Ex} {s : St} (h : (evCutR G K F N k c m live after st).res = some (e, s)) :
    ∃ st1, (evCut G K F N k c st).res = some (e, st1) ∧ StLe m st1 s := by
  unfold evCutR at h
  obtain ⟨⟨e1, st1⟩, h1, h2⟩ := T.bind_some h
  simp only at h2
  split at h2
  · rename_i s1 hs
    have := T.ret_some h2
    simp only [Prod.mk.injEq] at this
    obtain ⟨rfl, rfl⟩ := this
    exact ⟨st1, h1, canonSt_ok hs⟩
  · exact (T.bad_some h2).elim

variable {G : Ctx} (hG : CtxOk P G) (hK : KnownOk P G)
include hG hK

theorem HT.ev {n F : Nat} {c : Code} {st st' : St} {e : Ex} {R : Ex → St → Prop} (h : (ev G noLive n F N c st).res = some (e, st')) (hR : R e st') : HT P N c st R := HT.of (ev_ok hG hK n F N c st e st' h) hR

theorem HT.round {n F : Nat} {c : Code} {m : Nat} {live after : List Nat} {st st' : St} {e : Ex} {R : Ex → St → Prop} (h : (evRound G n F N c m live after st).res = some (e, st')) (hR : R e st') : HT P N c st R := by
  obtain ⟨st1, h1, h2⟩ := evRound_some h
  exact (HT.ev hG hK (R := fun e1 s1 => e1 = e ∧ s1 = st1) h1 ⟨rfl, rfl⟩).mono fun e1 s1 ⟨he, hs⟩ => by subst he hs; exact ⟨m, st', h2, hR⟩

/-- the first k statements by the evaluator; the rest by what is told of it -/
theorem HT.cut {n F : Nat} {R : Ex → St → Prop} : ∀ (k : Nat) (c : Code) (st0 st : St) (e : Ex), (evCut G n F N k c st0).res = some (e, st) → (e = .normal → HT P N (restC k c) st R) → (e ≠ .normal → R e st) → HT P N c st0 R
  | 0, c, st0, st, e, h, h1, h2 => by
    have := T.ret_some h
    simp only [Prod.mk.injEq] at this
    obtain ⟨rfl, rfl⟩ := this
    exact h1 rfl
  | k + 1, .seq x y, st0, st, e, h, h1, h2 => by
    obtain ⟨⟨e1, st1⟩, h3, h4⟩ := T.bind_some h
    cases e1 with
    | normal =>
      have hy := HT.cut (n := n) (F := F) (R := R) k y st1 st e h4 h1 h2
      exact HT.seq (HT.ev hG hK (R := fun e1 s1 => e1 = .normal ∧ s1 = st1) h3 ⟨rfl, rfl⟩) (fun s ⟨_, hs⟩ => hs ▸ hy) fun e s hne ⟨he, _⟩ => absurd he hne
    | exit id =>
      have := T.ret_some h4
      simp only [Prod.mk.injEq] at this
      obtain ⟨rfl, rfl⟩ := this
      exact HT.seq (HT.ev hG hK (R := fun e1 s1 => e1 = .exit id ∧ s1 = st1) h3 ⟨rfl, rfl⟩) (fun s ⟨hs, _⟩ => by cases hs) fun e s hne ⟨he, hs⟩ => by subst he hs; exact h2 (by simp)
    | ret =>
      have := T.ret_some h4
      simp only [Prod.mk.injEq] at this
      obtain ⟨rfl, rfl⟩ := this
      exact HT.seq (HT.ev hG hK (R := fun e1 s1 => e1 = .ret ∧ s1 = st1) h3 ⟨rfl, rfl⟩) (fun s ⟨hs, _⟩ => by cases hs) fun e s hne ⟨he, hs⟩ => by subst he hs; exact h2 (by simp)
  | k + 1, .skip, _, _, _, h, _, _ => (T.bad_some h).elim
  | k + 1, .region .., _, _, _, h, _, _ => (T.bad_some h).elim
  | k + 1, .cond .., _, _, _, h, _, _ => (T.bad_some h).elim
  | k + 1, .block .., _, _, _, h, _, _ => (T.bad_some h).elim
  | k + 1, .loop .., _, _, _, h, _, _ => (T.bad_some h).elim
  | k + 1, .rangeFunc .., _, _, _, h, _, _ => (T.bad_some h).elim
  | k + 1, .exit .., _, _, _, h, _, _ => (T.bad_some h).elim
  | k + 1, .scope .., _, _, _, h, _, _ => (T.bad_some h).elim
  | k + 1, .label .., _, _, _, h, _, _ => (T.bad_some h).elim
  | k + 1, .goto .., _, _, _, h, _, _ => (T.bad_some h).elim
  | k + 1, .ret, _, _, _, h, _, _ => (T.bad_some h).elim
  | k + 1, .refuse .., _, _, _, h, _, _ => (T.bad_some h).elim

/-- they, their blocks named anew -/
theorem HT.cutR {n F k : Nat} {c : Code} {m : Nat} {live after : List Nat} {R : Ex → St → Prop} {st0 st : St} {e : Ex} (h : (evCutR G n F N k c m live after st0).res = some (e, st)) (h1 : e = .normal → HT P N (restC k c) st R) (h2 : e ≠ .normal → R e st) : HT P N c st0 R := by
  obtain ⟨st1, h3, h4⟩ := evCutR_some h
  refine (HT.cut hG hK (n := n) (F := F) (R := fun e2 s2 => R e2 s2 ∨ (e2 ≠ .normal ∧ e2 = e ∧ s2 = st1)) k c st0 st1 e h3 (fun he => HT.weak (HT.pre h4 (h1 he)) fun _ _ h => .inl h) fun he => .inr ⟨he, rfl, rfl⟩).mono fun e2 s2 hr => ?_
  rcases hr with hr | ⟨hne, rfl, rfl⟩
  · exact ⟨s2.nx, s2, StLe.refl (Nat.le_refl _), hr⟩
  · exact ⟨m, st, h4, h2 hne⟩

end

section
variable {P : Program} {G : Ctx} (hG : CtxOk P G) (hK : KnownOk P G)
include hG hK

theorem map_rangeH {K F N mb id0 jb id1 kb id2 : Nat} {T kt et : Nat} {o0 o1 o2 o3 o4 : Oper} {x0 : Operand} {d0 d1 d2 d3 d4 : Nat} {ops2 : Array Oper} {l : List Oper} {rest : Code}
    (h0 : o0.op = .move x0 ∧ o0.dst = some d0 ∧ o0.guard = none) (h1 : o1.op = .range T (.tmp d0) ∧ o1.dst = some d1 ∧ o1.guard = none)
    (h2 : o2.op = .next (.tmp d1) false ∧ o2.dst = some d2 ∧ o2.guard = none) (h3 : o3.op = .extract (.tmp d2) 0 ∧ o3.dst = some d3 ∧ o3.guard = none)
    (h4 : o4.op = .entry (.tmp d1) ∧ o4.dst = some d4 ∧ o4.guard = none) (hops : ops2.toList = o4 :: l)
    (hd : d0 < N ∧ d1 < N ∧ d2 < N ∧ d3 < N ∧ d4 < N) (hne : d2 ≠ d1 ∧ d3 ≠ d1) (hT : P.underlying T = some (.map kt et))
    {A : Type} (S : Nat → A → St) (Inv : List (Value × Value) → A → Prop) (live : List Nat) (ids : List Nat) {Sfin : A → St} {st0 : St} {es : List (Value × Value)} {a0 : A}
    (hx : st0.val x0 = .v (.one (.mp mb))) (hes : st0.H.get mb = .map es) (hone : ∀ p ∈ es, p.1.oneCell' = true ∧ p.2.oneCell' = true) (hesc0 : st0.esc = false)
    (hmb : mb ∉ ids) (hids : ∀ b, (st0.H.get b).live → b = mb ∨ b ∈ ids)
    (hS : ∀ r a, st0.nx ≤ (S r a).nx ∧ (S r a).esc = false ∧ (S r a).sl.get d1 = itV r ∧ (S r a).sl.get d2 = .top ∧ (S r a).sl.get d3 = .top)
    (h00 : ∀ r, StLe st0.nx ⟨(d1, itV r) :: (d0, .top) :: st0.sl, st0.H.filter (fun e => ids.any (Nat.beq e.1)), st0.nx, false, 0, []⟩ (S r a0))
    (hI0 : Inv es a0)
    (hround : ∀ r a left1 left2 p, p ∈ es → Inv (left1 ++ p :: left2) a → ∃ s a', (evRR G K F N ops2.toList l rest kb st0.nx live ((S r a).put (some d4) (.tup [.one (.f (.lit p.1)), .one (.f (.lit p.2))]))).res = some (.normal, s) ∧ StLe st0.nx s (S r a') ∧ Inv (left1 ++ left2) a')
    (hend : ∀ r a, Inv [] a → StLe st0.nx (S r a) (Sfin a)) (hfin : ∀ a, (Sfin a).esc = false) :
    HT P N (rgCode id0 jb id1 kb id2 o0 o1 o2 o3 (.tmp d3) ops2 rest) st0 (fun e s => e = .normal ∧ ∃ acc, Inv [] acc ∧ s = ⟨(Sfin acc).sl, (Sfin acc).H ++ st0.H.filter (fun e => !(ids.any (Nat.beq e.1))), (Sfin acc).nx, false, 0, []⟩) := by
  obtain ⟨p0, q0, g0⟩ := h0
  obtain ⟨p1, q1, g1⟩ := h1
  obtain ⟨p2, q2, g2⟩ := h2
  obtain ⟨p3, q3, g3⟩ := h3
  obtain ⟨p4, q4, g4⟩ := h4
  obtain ⟨n0, n1, n2, n3, n4⟩ := hd
  intro w0 f z w a sit Q hQ
  obtain ⟨ht, hr, hN, hdf, hfr0, hnew0⟩ := sit
  have hX := val_ok ht x0
  rw [hx] at hX
  obtain ⟨hm0, hX⟩ := hX
  have hml : (st0.H.get mb).live := by rw [hes]; trivial
  obtain ⟨_, hok⟩ := hr.own mb trivial hml
  rw [hes] at hok
  obtain ⟨_, arr, clock, hw, he, hbo⟩ := hok.map es rfl
  -- the iterator is made
  refine wp_seq (wp_region ?_)
  show wpOps P #[o0, o1] _ [0, 1] a w
  simp only [wpOps]
  have i0 : (#[o0, o1] : Array Oper)[0]? = some o0 := rfl
  have i1 : (#[o0, o1] : Array Oper)[1]? = some o1 := rfl
  simp only [i0, i1, wanted_none g0, wanted_none g1, if_true]
  refine .inl (wp_value (v := .map (some (f mb).k)) (w' := w) ?_ ?_)
  · simp only [execOp, p0, hX]
    rfl
  have e0 : (a.put o0.dst (.map (some (f mb).k))).eval (.tmp d0) = .map (some (f mb).k) := by
    simp only [q0, Act.put, Act.eval]
    rw [Array.getD_eq_getD_getElem?, Array.getElem?_setIfInBounds_self_of_lt (by omega)]
    rfl
  refine .inl (wp_value (v := .pointer (some ⟨w.heap.size, 0, none⟩)) (w' := w.alloc (.mapIter (some (f mb).k) clock #[] clock)) ?_ ?_)
  · simp only [execOp, p1]
    refine run_v ?_
    rw [e0]
    exact run_range_map w T kt et (f mb).k arr clock hT hw
  generalize ha2 : (a.put o0.dst (.map (some (f mb).k))).put o1.dst (.pointer (some ⟨w.heap.size, 0, none⟩)) = a2
  have ht2 : TR f st0.nx z ((d1, itV w.heap.size) :: (d0, .top) :: st0.sl) a2.tmps := by
    rw [← ha2, q0, q1]
    simp only [Act.put]
    exact (ht.put (x := .top) (by omega) trivial).put (by rw [Array.size_setIfInBounds]; omega) (.lit _ rfl)
  have hN2 : a2.tmps.size = N := by rw [← ha2, q0, q1]; simp only [Act.put, Array.size_setIfInBounds]; exact hN
  have hd2 : a2.defers = [] := by rw [← ha2, q0, q1]; exact hdf
  -- the part without the map
  have hrp := hr.part fun b => ids.any (Nat.beq b)
  have hpa := Post.alloc0 hrp (.mapIter (some (f mb).k) clock #[] clock)
  have hkr : (f mb).k < w.heap.size := hok.lt
  have hinH : ∀ b, (Heap.get (st0.H.filter fun e => ids.any (Nat.beq e.1)) b).live → b ≠ mb ∧ (st0.H.get b).live := fun b hl => by
    rw [get_filter (fun b => ids.any (Nat.beq b))] at hl
    by_cases hb : ids.any (Nat.beq b) = true
    · rw [if_pos hb] at hl
      exact ⟨fun e => hmb (e ▸ (anyBeq ids b).1 hb), hl⟩
    · rw [if_neg hb] at hl; exact hl.elim
  have hit0 : It f (st0.H.filter fun e => ids.any (Nat.beq e.1)) (w.alloc (.mapIter (some (f mb).k) clock #[] clock)) (f mb).k w.heap.size arr clock clock #[] clock :=
    ⟨heap_alloc_new _ _, (heap_alloc_old w _ hkr).trans hw, hbo, Nat.le_refl _, Nat.le_refl _, fun b hl => by
      obtain ⟨hb1, hb2⟩ := hinH b hl
      have := (hr.own b trivial hb2).2.lt
      exact ⟨by omega, hr.inj b mb trivial trivial hb2 hml hb1⟩⟩
  obtain ⟨f1, z1, ht1, hp1⟩ := (h00 w.heap.size).to f z _ a2.tmps ht2 hpa.all
  have hP1 := (Post.trans' hpa hp1 (Nat.le_refl _)).weak (e' := false) fun _ => by rw [(hS w.heap.size a0).2.1]; rfl
  show (Code.block jb _).wp P Q a2 _
  refine wp_block ?_
  generalize hw1 : w.alloc (.mapIter (some (f mb).k) clock #[] clock) = w1 at *
  have hrs : w.heap.size < w1.heap.size := by rw [← hw1]; simp
  generalize hrr : w.heap.size = r at *
  generalize hkk : (f mb).k = k at *
  refine wp_loop_ghost (fun n a' w' => ∃ f' z' acc seen c0, n = (leftL arr seen).length ∧ Inv ((leftL arr seen).map kvE) acc ∧ TR f' (S r acc).nx z' (S r acc).sl a'.tmps ∧ a'.tmps.size = N ∧ a'.defers = [] ∧
    It f' (S r acc).H w' k r arr clock clock seen c0 ∧ Post All f st0.nx z w (st0.H.filter fun e => ids.any (Nat.beq e.1)) f' (S r acc).nx z' w' (S r acc).H false) (leftL arr #[]).length
    ⟨f1, z1, a0, #[], clock, rfl, ?_, ht1, hN2, hd2, hit0.post hp1, hP1⟩ ?_
  · have : leftL arr #[] = arr.toList := List.filter_eq_self.2 fun x _ => by simp
    rw [this]
    show Inv (arr.toList.map fun e => (e.key, e.val)) a0
    rw [he]; exact hI0
  rintro n a' w' ⟨f', z', acc, seen, c0, hn, hI, ht', hN', hd', hit, hP⟩
  have hSr := hS r acc
  have hitv : a'.eval (.tmp d1) = .pointer (some ⟨r, 0, none⟩) := by
    have := ht' d1
    rw [hSr.2.2.1] at this
    exact lit_ok this
  have hzr : ∀ o v, z' r o ≠ some v := fun o v hv => by
    have := hP.rel.zok r o v hv
    rw [cell_mapIter hit.it] at this
    cases this
  refine wp_seq (wp_region ?_)
  show wpOps P #[o2, o3] _ [0, 1] a' w'
  simp only [wpOps]
  have i2 : (#[o2, o3] : Array Oper)[0]? = some o2 := rfl
  have i3 : (#[o2, o3] : Array Oper)[1]? = some o3 := rfl
  simp only [i2, i3, wanted_none g2, wanted_none g3, if_true]
  have hput : ∀ (v2 v3 : Value), ((a'.put o2.dst v2).put o3.dst v3).tmps = (a'.tmps.setIfInBounds d2 v2).setIfInBounds d3 v3 ∧ ((a'.put o2.dst v2).put o3.dst v3).defers = [] := fun v2 v3 => by
    rw [q2, q3]
    exact ⟨rfl, hd'⟩
  have hev2 : ∀ v2 : Value, (a'.put o2.dst v2).eval (.tmp d2) = v2 := fun v2 => by
    simp only [q2, Act.put, Act.eval]
    rw [Array.getD_eq_getD_getElem?, Array.getElem?_setIfInBounds_self_of_lt (by omega)]
    rfl
  have hev3 : ∀ v2 v3 : Value, ((a'.put o2.dst v2).put o3.dst v3).eval (.tmp d3) = v3 := fun v2 v3 => by
    simp only [q2, q3, Act.put, Act.eval]
    rw [Array.getD_eq_getD_getElem?, Array.getElem?_setIfInBounds_self_of_lt (by rw [Array.size_setIfInBounds]; omega)]
    rfl
  have htp : ∀ v2 v3 : Value, TR f' (S r acc).nx z' (S r acc).sl ((a'.put o2.dst v2).put o3.dst v3).tmps := fun v2 v3 => by
    rw [(hput v2 v3).1]
    exact (ht'.skip hSr.2.2.2.1 v2).skip hSr.2.2.2.2 v3
  have hNp : ∀ v2 v3 : Value, ((a'.put o2.dst v2).put o3.dst v3).tmps.size = N := fun v2 v3 => by
    rw [(hput v2 v3).1]
    simp only [Array.size_setIfInBounds]; exact hN'
  rcases run_next_at (P := P) w' 0 r k clock c0 seen arr clock hit.it hit.mp hit.born.1 hit.sc with ⟨hz, hrun⟩ | ⟨e, he2, w2, hw2, hrun⟩
  · -- nothing is left
    have hleft : leftL arr seen = [] := by
      have : leftOf arr seen = #[] := Array.eq_empty_of_size_eq_zero hz
      unfold leftL
      have h9 := congrArg Array.toList this
      simpa [leftOf] using h9
    refine .inl (wp_value (v := .tuple #[.bool false]) (w' := w') ?_ ?_)
    · simp only [execOp, p2]
      refine run_v ?_
      rw [hitv]
      exact hrun
    refine .inl (wp_value (v := .bool false) (w' := w') ?_ ?_)
    · simp only [execOp, p3]
      refine run_v ?_
      rw [hev2]
      rfl
    show (Code.seq _ _).wp P _ _ _
    refine wp_seq (wp_cond_false (hev3 _ _) (wp_exit ?_))
    show Exit.inBlock jb Q (.exit jb) _ _
    simp only [Exit.inBlock, if_true]
    rw [hleft] at hI
    obtain ⟨f2, z2, ht2', hp2⟩ := (hend r acc hI).to f' z' w' _ (htp (.tuple #[.bool false]) (.bool false)) hP.all
    have hP2 := (Post.trans' hP hp2 (Nat.le_refl _)).weak (e' := false) fun _ => by rw [hfin acc]; rfl
    have hpp := Post.part ids hr.noLive hP2
    exact hQ .normal _ f2 z2 w' _ ⟨rfl, acc, hI, rfl⟩ ⟨ht2', (Post.lift hr hpp).all, hNp _ _, (hput _ _).2, Fr.on hfr0 hnew0 (Post.lift hr hpp), Post.new hfr0 hnew0 (Post.lift hr hpp)⟩
  · -- one comes out
    have he3 : e ∈ leftL arr seen := by
      unfold leftL
      simpa [leftOf] using he2
    have hea : e ∈ arr.toList := (List.mem_filter.1 he3).1
    have hw2h : w2.heap = w'.heap ∧ w2.os = w'.os ∧ w2.tape = w'.tape ∧ w2.output = w'.output := by rcases hw2 with rfl | rfl <;> exact ⟨rfl, rfl, rfl, rfl⟩
    generalize hw3 : setBlock w2 r (.mapIter (some k) clock (seen.push e.born) clock) = w3 at *
    have hb3 : ∀ x, x ≠ r → w3.heap[x]? = w'.heap[x]? := fun x hx => by
      rw [← hw3]
      simp only [setBlock, hw2h.1]
      rw [Array.getElem?_setIfInBounds_ne (Ne.symm hx)]
    have hs3 : w3.heap.size = w'.heap.size := by rw [← hw3]; simp [setBlock, hw2h.1]
    have hrlt : r < w'.heap.size := lt_of_some hit.it
    have hkne : k ≠ r := fun e9 => by
      have h8 := hit.it
      rw [← e9, hit.mp] at h8
      cases h8
    have hr3 : w3.heap[r]? = some (.mapIter (some k) clock (seen.push e.born) clock) := by
      rw [← hw3]
      simp only [setBlock, hw2h.1]
      rw [Array.getElem?_setIfInBounds_self_of_lt hrlt]
    have hm3 : w3.heap[k]? = some (.map arr clock) := (hb3 k hkne).trans hit.mp
    have hP3 : Post All f st0.nx z w (st0.H.filter fun e => ids.any (Nat.beq e.1)) f' (S r acc).nx z' w3 (S r acc).H false :=
      hP.other (by omega) hs3 (by rw [← hw3]; exact hw2h.2.1) (by rw [← hw3]; exact hw2h.2.2.1) (by rw [← hw3]; exact hw2h.2.2.2) hb3 (fun b hl => (hit.free b hl).1) hzr
    have hit3 : It f' (S r acc).H w3 k r arr clock clock (seen.push e.born) clock := ⟨hr3, hm3, hit.born, Nat.le_refl _, Nat.le_refl _, hit.free⟩
    refine .inl (wp_value (v := .tuple #[.bool true, e.key, e.val]) (w' := w3) ?_ ?_)
    · simp only [execOp, p2]
      refine run_v ?_
      rw [hitv]
      exact hrun
    refine .inl (wp_value (v := .bool true) (w' := w3) ?_ ?_)
    · simp only [execOp, p3]
      refine run_v ?_
      rw [hev2]
      rfl
    show (Code.seq _ _).wp P _ _ _
    refine wp_seq (wp_cond_true (hev3 _ _) (wp_skip ?_))
    show (Code.block kb _).wp P _ _ _
    refine wp_block (wp_seq (wp_region ?_))
    have hsz : List.range ops2.size = 0 :: List.range' 1 l.length := by
      have : ops2.size = l.length + 1 := by rw [← Array.length_toList, hops]; rfl
      rw [this, List.range_eq_range', List.range'_succ]
    rw [hsz]
    have i4 : ops2[0]? = some o4 := by rw [← Array.getElem?_toList, hops]; rfl
    simp only [wpOps, i4, wanted_none g4, if_true]
    have hitv2 : ((a'.put o2.dst (.tuple #[.bool true, e.key, e.val])).put o3.dst (.bool true)).eval (.tmp d1) = .pointer (some ⟨r, 0, none⟩) := by
      have := htp (.tuple #[.bool true, e.key, e.val]) (.bool true) d1
      rw [hSr.2.2.1] at this
      exact lit_ok this
    refine .inl (wp_value (v := .tuple #[e.key, e.val]) (w' := w3) ?_ ?_)
    · simp only [execOp, p4]
      refine run_v ?_
      rw [hitv2]
      exact run_entry_at w3 r k clock seen arr clock e hr3 hm3 hea hit.born.2
    obtain ⟨l1, l2, hl1, hl2⟩ := left_push hit.born he3
    have hpe : kvE e ∈ es := by rw [← he]; exact List.mem_map.2 ⟨e, hea, rfl⟩
    rw [hl1, List.map_append, List.map_cons] at hI
    obtain ⟨s, acc', hs1, hs2, hs3'⟩ := hround r acc (l1.map kvE) (l2.map kvE) (kvE e) hpe hI
    obtain ⟨s0, hs4, hs5⟩ := evRR_some hs1
    obtain ⟨c1, c2⟩ := evRest_ok hG hK hops hs4
    obtain ⟨o1', o2'⟩ := hone _ hpe
    have hty : TR f' ((S r acc).put (some d4) (.tup [.one (.f (.lit (kvE e).1)), .one (.f (.lit (kvE e).2))])).nx z' ((S r acc).put (some d4) (.tup [.one (.f (.lit (kvE e).1)), .one (.f (.lit (kvE e).2))])).sl
        (((a'.put o2.dst (.tuple #[.bool true, e.key, e.val])).put o3.dst (.bool true)).put o4.dst (.tuple #[e.key, e.val])).tmps := by
      rw [q4]
      refine (htp _ _).put (by rw [hNp]; omega) ?_
      exact ⟨#[e.key, e.val], rfl, .cons (.lit _ o1') (.cons (.lit _ o2') .nil)⟩
    refine c2 f' z' w3 _ hty hP3.all (by rw [q4]; simp only [Act.put, Array.size_setIfInBounds]; exact hNp _ _) (by rw [q4]; exact (hput _ _).2) _ fun f5 z5 w5 a5 hp5 ht5 hN5 hd5 => ?_
    show Exit.then _ _ .normal a5 w5
    obtain ⟨f6, z6, ht6, hp6⟩ := hs5.to f5 z5 w5 a5.tmps ht5 hp5.all
    obtain ⟨f7, z7, ht7, hp7⟩ := hs2.to f6 z6 w5 a5.tmps ht6 hp6.all
    refine ⟨(leftL arr (seen.push e.born)).length, ?_, f7, z7, acc', seen.push e.born, clock, rfl, ?_, ht7, hN5, hd5, ((hit3.post hp5).post hp6).post hp7, ?_⟩
    · rw [hn, hl1, hl2]
      simp
    · rw [hl2, List.map_append]
      exact hs3'
    · refine (Post.trans' (Post.trans' (Post.trans hP3 hp5) hp6 (Nat.le_refl _)) hp7 (Nat.le_refl _)).weak fun _ => ?_
      have g7 := (hS r acc').2.1
      have g6 := hs2.esc g7
      have g5 := hs5.esc g6
      rw [g7, g6, g5]
      rfl


omit hK in
/-- a call with arguments that are only looked at, that comes to true -/
theorem law_ht {g : Nat} {fn : Func} {c : Code} {args : List AV} {w : World} {vs : Array Value} (hg : G.fi g = some fn) (hb : fn.body = some c) (hle : args.length ≤ fn.ntmps) (ha : RAs noFn 0 (zAll w) args vs.toList)
    (h : HT P fn.ntmps c ⟨argSlots 0 args, [], 0, false, 0, []⟩ fun e s => (e = .normal ∨ e = .ret) ∧ (resultsOf G s fn.results.toList).res = some [AB true]) :
    Calls P g vs w fun e w' => e = .returned (.bool true) ∧ Go.RowKit.Below w.heap.size w w' := by
  obtain ⟨hf1, _, _⟩ := hG.fi g fn hg
  have hsz : args.length = vs.size := by simpa using ha.1
  refine calls_of_wp hf1 hb ?_
  refine h w noFn (zAll w) w _ ⟨argSlots_TR ha _, Rel.seen ⟨fun k o v h => h⟩, by simp; omega, rfl, Fr.refl _ _, fun b hl => hl.elim⟩ _ fun e st' f' z' w' a' hr s => ?_
  obtain ⟨he, hl⟩ := hr
  obtain ⟨v, hv1, hv2⟩ := results_ok hG s.tr s.rel hl
  have hv : v = .bool true := lit_ok hv2
  subst hv
  have hbel : Go.RowKit.Below w.heap.size w w' := s.fr.below
  rcases he with rfl | rfl
  · exact ⟨s.defers, .bool true, hv1, rfl, hbel⟩
  · exact ⟨s.defers, .bool true, hv1, rfl, hbel⟩
end

/-- a call without arguments that comes to true, wherever it is made -/
theorem truth_to {P : Program} {g : Nat} (h : ∀ w, Calls P g #[] w fun e w' => e = .returned (.bool true) ∧ Go.RowKit.Below w.heap.size w w') (H : Heap) (nx : Nat) :
    CallTo P g [] H nx ⟨.v (AB true), H, nx, false, []⟩ := by
  intro f z w vs hrel hargs R hR
  have hvs : vs = #[] := by
    have := hargs.1
    cases vs with
    | mk l => cases l with
      | nil => rfl
      | cons a l => simp at this
  subst hvs
  refine (h w).mono fun e w' ⟨he, hw⟩ => ?_
  subst he
  have hfr : Fr (fun _ => False) w w' := ⟨hw.size, hw.os, hw.tape, hw.output, fun k hk _ => hw.block k hk⟩
  refine hR f z w' (.bool true) ⟨Nat.le_refl _, fun _ _ => rfl, fun _ _ _ h => h, fun _ _ _ h => .inl h, fun _ _ _ => .inl rfl, fun _ _ h => h, ⟨fun b _ hl => ?_, fun b c _ _ hl hl' => hrel.inj b c trivial trivial hl hl', fun k o v hv => ?_⟩,
    fun b hb hl => absurd hl (hrel.noLive b hb), hfr.less fun _ _ h => h.elim, fun _ _ _ h => h⟩ (RF.lit _ rfl)
  · obtain ⟨h1, h2⟩ := hrel.own b trivial hl
    exact ⟨h1, h2.kept h1 hfr id (fun _ _ => rfl) (Nat.le_refl _) (fun _ _ _ h => h) fun _ _ _ h => .inl h⟩
  · have h1 := hrel.zok k o v hv
    rw [hfr.cell (block_lt_of_cell h1) id]
    exact h1

end Go.Proofs.Ytggneleipimijaa.En
/- RingBoth: the plain law. -/
namespace Go.Proofs.Ytggneleipimijaa.En
open Go
set_option linter.unusedVariables false
set_option linter.unusedSimpArgs false
set_option maxRecDepth 20000
set_option maxHeartbeats 1000000
theorem nz_mem {me : Int} {x : Nat → Int} {n : Nat} {j : Nat} (hj : j < nzL me x n) : (∃ i, i < n ∧ x i = nzE me x n j) ∧ nzE me x n j ≠ me := by
  have h0 : nxD me x n ≠ 0 := fun h0 => by simp only [nzL, h0, reduceIte] at hj; omega
  have hb := (nxS_mem me x n (nxB me x n)).1 ⟨nxK me x n % nxD me x n, Nat.mod_lt _ (by omega), rfl⟩
  have ha := (nxS_mem me x n (nxA me x n)).1 ⟨(nxK me x n + nxD me x n - 1) % nxD me x n, Nat.mod_lt _ (by omega), rfl⟩
  have : nzE me x n j = nxB me x n ∨ nzE me x n j = nxA me x n := by
    unfold nzE
    cases Nat.beq j 0 <;> simp only [cond_true, cond_false] <;> omega
  rcases this with e | e <;> rw [e] <;> assumption
theorem nz_le2 (me : Int) (x : Nat → Int) (n : Nat) : nzL me x n ≤ 2 := by
  unfold nzL
  split
  · omega
  · split <;> omega
theorem nz_nil (me : Int) (x : Nat → Int) (n : Nat) : nzN me x n = true → nzL me x n = 0 := fun h => by
  have : nxD me x n = 0 := Nat.eq_of_beq_eq_true h
  simp only [nzL, this, reduceIte]
/-- is it one of them, or was it so -/
def orB (v : Int) (z : Nat → Int) (d : Nat) : Bool := foldF (fun i a => a || (v == z i)) d 0 false
def Has (x : Nat → Int) (n : Nat) (v : Int) : Prop := ∃ j, j < n ∧ x j = v
def IsN (x : Nat → Int) (n : Nat) (me y : Int) : Prop := ∃ j, j < nzL me x n ∧ nzE me x n j = y
theorem isN_iff (x : Nat → Int) (n : Nat) (me y : Int) : IsN x n me y ↔ nxD me x n ≠ 0 ∧ (y = nxB me x n ∨ y = nxA me x n) := by
  unfold IsN nzL nzE
  generalize nxB me x n = b
  generalize nxA me x n = a
  by_cases h : nxD me x n = 0
  · simp only [h, reduceIte]
    exact ⟨fun ⟨j, hj, _⟩ => absurd hj (Nat.not_lt_zero j), fun hh => absurd rfl hh.1⟩
  · simp only [h, reduceIte]
    constructor
    · rintro ⟨j, hj, e⟩
      refine ⟨h, ?_⟩
      cases hb : Nat.beq j 0
      · rw [hb, cond_false] at e; omega
      · rw [hb, cond_true] at e; omega
    · rintro ⟨_, e⟩
      by_cases hm : y = min b a
      · exact ⟨0, by split <;> omega, by simp only [show Nat.beq 0 0 = true from rfl, cond_true]; exact hm.symm⟩
      · have hx : max b a ≠ min b a := by omega
        refine ⟨1, by rw [if_neg hx]; omega, ?_⟩
        simp only [show Nat.beq 1 0 = false from rfl, cond_false]
        omega
theorem nxD_of {x : Nat → Int} {n : Nat} {me v : Int} (h : Has x n v) (hne : v ≠ me) : nxD me x n ≠ 0 := fun h0 => by
  obtain ⟨j, hj, e⟩ := h
  exact hne (e.symm.trans ((nxD_none me x n).1 h0 j hj))
theorem isN_ne {x : Nat → Int} {n : Nat} {me y : Int} (h : IsN x n me y) : Has x n y ∧ y ≠ me := by
  obtain ⟨j, hj, rfl⟩ := h
  exact nz_mem hj
/-- who is next to one has that one next to it -/
theorem isN_back {x : Nat → Int} {n : Nat} {p y : Int} (hp : Has x n p) (h : IsN x n p y) : IsN x n y p := by
  obtain ⟨hy, hne⟩ := isN_ne h
  obtain ⟨h0, h1⟩ := (isN_iff x n p y).1 h
  have h0' : nxD y x n ≠ 0 := nxD_of hp (fun e => hne e.symm)
  refine (isN_iff x n y p).2 ⟨h0', ?_⟩
  obtain ⟨jp, hjp, ep⟩ := hp
  obtain ⟨jy, hjy, ey⟩ := hy
  rcases h1 with e | e
  · right
    have hb := nxB_ok h0
    rw [← e] at hb
    refine IsA.uniq ?_ (nxA_ok h0')
    rcases hb with ⟨⟨j, hj, hlt, hjv⟩, hl⟩ | ⟨hno, ⟨j, hj, hjne, hjv⟩, hl⟩
    · left
      refine ⟨⟨jp, hjp, by rw [ep]; omega, ep⟩, fun k hk hky => ?_⟩
      by_cases hc : x k ≤ p
      · exact hc
      · have := hl k hk (by omega)
        omega
    · right
      refine ⟨fun k hk hky => ?_, ⟨jp, hjp, by rw [ep]; exact fun e => hne e.symm, ep⟩, fun k hk hky => ?_⟩
      · by_cases hc : x k = p
        · have := hno jy hjy
          omega
        · have := hl k hk hc
          omega
      · have := hno k hk
        omega
  · left
    have hb := nxA_ok h0
    rw [← e] at hb
    refine IsB.uniq ?_ (nxB_ok h0')
    rcases hb with ⟨⟨j, hj, hlt, hjv⟩, hl⟩ | ⟨hno, ⟨j, hj, hjne, hjv⟩, hl⟩
    · left
      refine ⟨⟨jp, hjp, by rw [ep]; omega, ep⟩, fun k hk hky => ?_⟩
      by_cases hc : p ≤ x k
      · exact hc
      · have := hl k hk (by omega)
        omega
    · right
      refine ⟨fun k hk hky => ?_, ⟨jp, hjp, by rw [ep]; exact fun e => hne e.symm, ep⟩, fun k hk hky => ?_⟩
      · by_cases hc : x k = p
        · have := hno jy hjy
          omega
        · have := hl k hk hc
          omega
      · have := hno k hk
        omega
theorem most_of (P : Int → Prop) : ∀ (r : List Int), (∃ v ∈ r, P v) → ∃ v ∈ r, P v ∧ ∀ q ∈ r, P q → q ≤ v
  | [], ⟨v, h, _⟩ => by cases h
  | a :: r, ⟨v, h, hv⟩ => by
    by_cases hr : ∃ v ∈ r, P v
    · obtain ⟨u, h1, h2, h3⟩ := most_of P r hr
      by_cases ha : P a ∧ u < a
      · exact ⟨a, List.mem_cons_self .., ha.1, fun q hq hp => by
          rcases List.mem_cons.1 hq with e | hq
          · omega
          · have := h3 q hq hp; omega⟩
      · exact ⟨u, List.mem_cons_of_mem _ h1, h2, fun q hq hp => by
          rcases List.mem_cons.1 hq with e | hq
          · subst e
            by_cases hle : q ≤ u
            · exact hle
            · exact absurd ⟨hp, by omega⟩ ha
          · exact h3 q hq hp⟩
    · rcases List.mem_cons.1 h with e | h
      · subst e
        exact ⟨v, List.mem_cons_self .., hv, fun q hq hp => by
          rcases List.mem_cons.1 hq with e | hq
          · omega
          · exact absurd ⟨q, hq, hp⟩ hr⟩
      · exact absurd ⟨v, h, hv⟩ hr
theorem least_of (P : Int → Prop) (r : List Int) (h : ∃ v ∈ r, P v) : ∃ v ∈ r, P v ∧ ∀ q ∈ r, P q → v ≤ q := by
  obtain ⟨u, h1, h2, h3⟩ := most_of (fun v => P (-v)) (r.map fun v => -v) (by
    obtain ⟨v, h1, h2⟩ := h
    exact ⟨-v, List.mem_map.2 ⟨v, h1, rfl⟩, by rw [Int.neg_neg]; exact h2⟩)
  obtain ⟨v, hv, rfl⟩ := List.mem_map.1 h1
  rw [Int.neg_neg] at h2
  refine ⟨v, hv, h2, fun q hq hp => ?_⟩
  have := h3 (-q) (List.mem_map.2 ⟨q, hq, rfl⟩) (by rw [Int.neg_neg]; exact hp)
  omega
/-- from one to the next, and on: all -/
theorem closed_all {x : Nat → Int} {n : Nat} {r : List Int} {a : Int} (ha : a ∈ r) (hc : ∀ p ∈ r, ∀ y, IsN x n p y → y ∈ r) : ∀ z, Has x n z → z ∈ r := fun z hz => by
  by_cases hzr : z ∈ r
  · exact hzr
  exfalso
  obtain ⟨jz, hjz, ez⟩ := hz
  by_cases hlow : ∃ v ∈ r, v < z
  · obtain ⟨p, hp, hpz, hmax⟩ := most_of (· < z) r hlow
    have h0 : nxD p x n ≠ 0 := nxD_of ⟨jz, hjz, ez⟩ (by omega)
    have hb := nxB_ok h0
    have hy := hc p hp _ ((isN_iff x n p _).2 ⟨h0, .inl rfl⟩)
    rcases hb with ⟨⟨j, hj, hlt, hjv⟩, hl⟩ | ⟨hno, _⟩
    · have h1 := hl jz hjz (by omega)
      have h2 : nxB p x n ≠ z := fun e => hzr (e ▸ hy)
      have h3 := hmax _ hy (by show nxB p x n < z; omega)
      omega
    · have := hno jz hjz
      omega
  · have hne : a ≠ z := fun e => hzr (by rw [← e]; exact ha)
    have hnl : ¬ a < z := fun h => hlow ⟨a, ha, h⟩
    have hza : z < a := by omega
    obtain ⟨p, hp, hpz, hmin⟩ := least_of (z < ·) r ⟨a, ha, hza⟩
    have h0 : nxD p x n ≠ 0 := nxD_of ⟨jz, hjz, ez⟩ (by omega)
    have hb := nxA_ok h0
    have hy := hc p hp _ ((isN_iff x n p _).2 ⟨h0, .inr rfl⟩)
    rcases hb with ⟨⟨j, hj, hlt, hjv⟩, hl⟩ | ⟨hno, _⟩
    · have h1 := hl jz hjz (by omega)
      have h2 : nxA p x n ≠ z := fun e => hzr (e ▸ hy)
      have h3 := hmin _ hy (by show z < nxA p x n; omega)
      omega
    · have := hno jz hjz
      omega
/-- one more, if it is not there yet -/
def addK (k : Int) : List Int → List Int
  | [] => [k]
  | e :: r => match k == e with | true => k :: r | false => e :: addK k r
theorem addK_mem (k v : Int) : ∀ r : List Int, v ∈ addK k r ↔ v = k ∨ v ∈ r
  | [] => by simp [addK]
  | e :: r => by
    simp only [addK]
    cases h : (k == e)
    · simp only [List.mem_cons, addK_mem k v r]
      constructor
      · rintro (h | h | h)
        · exact .inr (.inl h)
        · exact .inl h
        · exact .inr (.inr h)
      · rintro (h | h | h)
        · exact .inr (.inl h)
        · exact .inl h
        · exact .inr (.inr h)
    · have : k = e := by simpa using h
      subst this
      simp only [List.mem_cons]
      exact ⟨fun h => h.elim .inl fun h => .inr (.inr h), fun h => h.elim .inl id⟩
theorem addK_nodup (k : Int) : ∀ {r : List Int}, r.Nodup → (addK k r).Nodup
  | [], _ => by simp [addK]
  | e :: r, h => by
    obtain ⟨h1, h2⟩ := List.nodup_cons.1 h
    simp only [addK]
    cases hk : (k == e)
    · refine List.nodup_cons.2 ⟨fun hm => ?_, addK_nodup k h2⟩
      rcases (addK_mem k e r).1 hm with e' | hm
      · rw [e', beq_self_eq_true] at hk; cases hk
      · exact h1 hm
    · have : k = e := by simpa using hk
      subst this
      exact h
/-- the next ones, too -/
def addN (x : Nat → Int) (n : Nat) (me : Int) (r : List Int) : List Int := foldF (fun i r => addK (nzE me x n i) r) (nzL me x n) 0 r
theorem addF_ok (y : Nat → Int) : ∀ (c i : Nat) (r : List Int), r.Nodup → (foldF (fun i r => addK (y i) r) c i r).Nodup ∧ ∀ v, v ∈ foldF (fun i r => addK (y i) r) c i r ↔ v ∈ r ∨ ∃ j, i ≤ j ∧ j < i + c ∧ y j = v
  | 0, i, r, h => ⟨h, fun v => ⟨.inl, fun h => h.elim id fun ⟨j, h1, h2, _⟩ => by omega⟩⟩
  | c + 1, i, r, h => by
    obtain ⟨h1, h2⟩ := addF_ok y c (i + 1) (addK (y i) r) (addK_nodup _ h)
    refine ⟨h1, fun v => ?_⟩
    show v ∈ foldF (fun i r => addK (y i) r) c (i + 1) (addK (y i) r) ↔ _
    rw [h2, addK_mem]
    constructor
    · rintro ((e | h) | ⟨j, h3, h4, h5⟩)
      · exact .inr ⟨i, Nat.le_refl i, by omega, e.symm⟩
      · exact .inl h
      · exact .inr ⟨j, by omega, by omega, h5⟩
    · rintro (h | ⟨j, h3, h4, h5⟩)
      · exact .inl (.inr h)
      · by_cases e : j = i
        · subst e; exact .inl (.inl h5.symm)
        · exact .inr ⟨j, by omega, by omega, h5⟩
theorem addN_ok (x : Nat → Int) (n : Nat) (me : Int) {r : List Int} (h : r.Nodup) : (addN x n me r).Nodup ∧ ∀ v, v ∈ addN x n me r ↔ v ∈ r ∨ IsN x n me v := by
  obtain ⟨h1, h2⟩ := addF_ok (nzE me x n) (nzL me x n) 0 r h
  refine ⟨h1, fun v => (h2 v).trans (or_congr Iff.rfl ⟨fun ⟨j, _, h3, h4⟩ => ⟨j, by omega, h4⟩, fun ⟨j, h3, h4⟩ => ⟨j, Nat.zero_le j, by omega, h4⟩⟩)⟩
theorem nodup_len : ∀ {r h : List Int}, r.Nodup → (∀ v ∈ r, v ∈ h) → r.length ≤ h.length
  | [], _, _, _ => Nat.zero_le _
  | a :: r, h, hn, hs => by
    obtain ⟨h1, h2⟩ := List.nodup_cons.1 hn
    have ha := hs a (List.mem_cons_self ..)
    have := nodup_len (r := r) (h := h.erase a) h2 fun v hv => (List.mem_erase_of_ne (fun e : v = a => h1 (by rw [← e]; exact hv))).2 (hs v (List.mem_cons_of_mem _ hv))
    rw [List.length_erase_of_mem ha] at this
    have hp : 0 < h.length := List.length_pos_of_mem ha
    simp only [List.length_cons]
    omega
/-- the set of the numbers so far -/
def hsL (x : Nat → Int) (c : Nat) : List Int := foldF (fun i r => addK (x i) r) c 0 []
theorem hsL_ok (x : Nat → Int) (c : Nat) : (hsL x c).Nodup ∧ ∀ v, v ∈ hsL x c ↔ Has x c v := by
  obtain ⟨h1, h2⟩ := addF_ok x c 0 [] List.nodup_nil
  exact ⟨h1, fun v => (h2 v).trans ⟨fun h => h.elim (fun h => by cases h) fun ⟨j, _, h3, h4⟩ => ⟨j, by omega, h4⟩, fun ⟨j, h3, h4⟩ => .inr ⟨j, Nat.zero_le j, by omega, h4⟩⟩⟩
/-- what is reached so far, behind i passes -/
structure Reach (x : Nat → Int) (n : Nat) (i : Nat) (r : List Int) : Prop where
  nodup : r.Nodup
  sub : ∀ v ∈ r, Has x n v
  pos : r ≠ []
  len : i + 1 ≤ r.length ∨ (hsL x n).length ≤ r.length
theorem Reach.done {x : Nat → Int} {n i : Nat} {r : List Int} (h : Reach x n i r) (hi : (hsL x n).length ≤ i) : r.length = (hsL x n).length := by
  have := nodup_len h.nodup fun v hv => ((hsL_ok x n).2 v).2 (h.sub v hv)
  rcases h.len with h | h <;> omega
/-- a pass: behind it all that is next to what was there is there -/
theorem Reach.next {x : Nat → Int} {n i : Nat} {r0 r : List Int} (h : Reach x n i r0) (hn : r.Nodup) (hs : ∀ v ∈ r, Has x n v) (h0 : ∀ v ∈ r0, v ∈ r) (hc : ∀ p ∈ r0, ∀ y, IsN x n p y → y ∈ r) : Reach x n (i + 1) r := by
  have hl := nodup_len h.nodup h0
  refine ⟨hn, hs, fun e => ?_, ?_⟩
  · subst e
    have := h.pos
    cases r0 with
    | nil => exact this rfl
    | cons a r0 => exact absurd (h0 a (List.mem_cons_self ..)) (by simp)
  · by_cases hcl : ∀ p ∈ r0, ∀ y, IsN x n p y → y ∈ r0
    · right
      obtain ⟨a, ha⟩ := List.exists_mem_of_ne_nil r0 h.pos
      have := nodup_len (hsL_ok x n).1 fun v hv => closed_all ha hcl v (((hsL_ok x n).2 v).1 hv)
      omega
    · have : ∃ p ∈ r0, ∃ y, IsN x n p y ∧ y ∉ r0 := by
        by_cases hx : ∃ p ∈ r0, ∃ y, IsN x n p y ∧ y ∉ r0
        · exact hx
        · exact absurd (fun p hp y hy => by
            by_cases hm : y ∈ r0
            · exact hm
            · exact absurd ⟨p, hp, y, hy, hm⟩ hx) hcl
      obtain ⟨p, hp, y, hy, hm⟩ := this
      have := nodup_len (r := y :: r0) (h := r) (List.nodup_cons.2 ⟨hm, h.nodup⟩) fun v hv => by
        rcases List.mem_cons.1 hv with e | hv
        · subst e; exact hc p hp v hy
        · exact h0 v hv
      simp only [List.length_cons] at this
      rcases h.len with h | h
      · left; omega
      · right; omega
/-- the set as a map's pairs -/
def mT (l : List Int) : List (Value × Value) := l.map fun k => (.int .i64 k, .bool true)
theorem mT_keys (k : Int) (l : List Int) : keysOk (.int .i64 k) (mT l) = true := by simp [keysOk, mT, keyOk]
theorem mT_trus (l : List Int) : trusOk (mT l) = true := by simp [trusOk, mT]
theorem mT_has (k : Int) : ∀ l : List Int, truM (.int .i64 k) (mT l) = true ↔ k ∈ l
  | [] => by simp [truM, mT, valM]
  | e :: r => by
    have := mT_has k r
    simp only [truM, mT, List.map_cons, valM, keyEq] at this ⊢
    cases h : (k == e)
    · simp only [List.mem_cons]
      rw [beq_eq_false_iff_ne] at h
      rw [this]
      exact ⟨.inr, fun h' => h'.resolve_left h⟩
    · have : k = e := by simpa using h
      simp [this]
theorem mT_put (k : Int) : ∀ l : List Int, setM (.int .i64 k) (.bool true) (mT l) = mT (addK k l)
  | [] => rfl
  | e :: r => by
    have := mT_put k r
    simp only [mT, List.map_cons, setM, keyEq, addK] at this ⊢
    cases h : (k == e)
    · simp only [List.map_cons, this]
    · simp only [List.map_cons]
theorem mT_inj : ∀ {a b : List Int}, mT a = mT b → a = b
  | [], [], _ => rfl
  | [], _ :: _, h => by simp [mT] at h
  | _ :: _, [], h => by simp [mT] at h
  | a :: r, b :: s, h => by
    simp only [mT, List.map_cons, List.cons.injEq, Prod.mk.injEq, Value.int.injEq, and_true, true_and] at h
    rw [h.1, mT_inj h.2]
theorem mT_mem {l : List Int} {p : Value × Value} (h : p ∈ mT l) : ∃ k ∈ l, p = (.int .i64 k, .bool true) := by
  obtain ⟨k, hk, e⟩ := List.mem_map.1 h
  exact ⟨k, hk, e.symm⟩
theorem mT_len (l : List Int) : (mT l).length = l.length := by simp [mT]

end Go.Proofs.Ytggneleipimijaa.En
