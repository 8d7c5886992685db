/- Texts put together: RF, RG, RH, RI, RJ, RK, RL. -/
import Derived.Test.YtggneleipimijaaG10
/- Both Next tell the same. -/
namespace Go.Proofs.Ytggneleipimijaa.En
open Go
set_option linter.unusedVariables false
set_option linter.unusedSimpArgs false
set_option maxRecDepth 20000
set_option maxHeartbeats 1000000
def LcI (p : Int → Prop) (x : Nat → Int) (i : Nat) (b : Int) : Prop := (b = -1 ∧ ∀ j, j < i → ¬ p (x j)) ∨ ∃ k : Nat, k < i ∧ b = k ∧ p (x k) ∧ ∀ j, j < i → p (x j) → x k ≤ x j
def McI (p : Int → Prop) (x : Nat → Int) (i : Nat) (b : Int) : Prop := (b = -1 ∧ ∀ j, j < i → ¬ p (x j)) ∨ ∃ k : Nat, k < i ∧ b = k ∧ p (x k) ∧ ∀ j, j < i → p (x j) → x j ≤ x k
theorem LcI.no {p : Int → Prop} {x : Nat → Int} {i : Nat} {b : Int} (h : LcI p x i b) (hp : ¬ p (x i)) : LcI p x (i + 1) b := by
  rcases h with ⟨h1, h2⟩ | ⟨k, h1, h2, h3, h4⟩
  · refine .inl ⟨h1, fun j hj => ?_⟩
    rcases Nat.lt_succ_iff_lt_or_eq.1 hj with hj | rfl
    · exact h2 j hj
    · exact hp
  · refine .inr ⟨k, by omega, h2, h3, fun j hj hq => ?_⟩
    rcases Nat.lt_succ_iff_lt_or_eq.1 hj with hj | rfl
    · exact h4 j hj hq
    · exact absurd hq hp
theorem McI.no {p : Int → Prop} {x : Nat → Int} {i : Nat} {b : Int} (h : McI p x i b) (hp : ¬ p (x i)) : McI p x (i + 1) b := by
  rcases h with ⟨h1, h2⟩ | ⟨k, h1, h2, h3, h4⟩
  · refine .inl ⟨h1, fun j hj => ?_⟩
    rcases Nat.lt_succ_iff_lt_or_eq.1 hj with hj | rfl
    · exact h2 j hj
    · exact hp
  · refine .inr ⟨k, by omega, h2, h3, fun j hj hq => ?_⟩
    rcases Nat.lt_succ_iff_lt_or_eq.1 hj with hj | rfl
    · exact h4 j hj hq
    · exact absurd hq hp
theorem LcI.yes {p : Int → Prop} {x : Nat → Int} {i : Nat} {b : Int} (h : LcI p x i b) (hp : p (x i)) : LcI p x (i + 1) (upL x i b) := by
  rcases h with ⟨h1, h2⟩ | ⟨k, h1, h2, h3, h4⟩
  · subst h1
    refine .inr ⟨i, by omega, rfl, hp, fun j hj hq => ?_⟩
    rcases Nat.lt_succ_iff_lt_or_eq.1 hj with hj | rfl
    · exact absurd hq (h2 j hj)
    · exact Int.le_refl _
  · subst h2
    rcases upL_cases x i (k : Int) with ⟨g, e⟩ | ⟨g, g2, e⟩ | ⟨g, g2, e⟩
    · omega
    · rw [e]
      rw [Int.toNat_natCast] at g2
      refine .inr ⟨i, by omega, rfl, hp, fun j hj hq => ?_⟩
      rcases Nat.lt_succ_iff_lt_or_eq.1 hj with hj | rfl
      · have := h4 j hj hq; omega
      · exact Int.le_refl _
    · rw [e]
      rw [Int.toNat_natCast] at g2
      refine .inr ⟨k, by omega, rfl, h3, fun j hj hq => ?_⟩
      rcases Nat.lt_succ_iff_lt_or_eq.1 hj with hj | rfl
      · exact h4 j hj hq
      · omega
theorem McI.yes {p : Int → Prop} {x : Nat → Int} {i : Nat} {b : Int} (h : McI p x i b) (hp : p (x i)) : McI p x (i + 1) (upM x i b) := by
  rcases h with ⟨h1, h2⟩ | ⟨k, h1, h2, h3, h4⟩
  · subst h1
    refine .inr ⟨i, by omega, rfl, hp, fun j hj hq => ?_⟩
    rcases Nat.lt_succ_iff_lt_or_eq.1 hj with hj | rfl
    · exact absurd hq (h2 j hj)
    · exact Int.le_refl _
  · subst h2
    rcases upM_cases x i (k : Int) with ⟨g, e⟩ | ⟨g, g2, e⟩ | ⟨g, g2, e⟩
    · omega
    · rw [e]
      rw [Int.toNat_natCast] at g2
      refine .inr ⟨i, by omega, rfl, hp, fun j hj hq => ?_⟩
      rcases Nat.lt_succ_iff_lt_or_eq.1 hj with hj | rfl
      · have := h4 j hj hq; omega
      · exact Int.le_refl _
    · rw [e]
      rw [Int.toNat_natCast] at g2
      refine .inr ⟨k, by omega, rfl, h3, fun j hj hq => ?_⟩
      rcases Nat.lt_succ_iff_lt_or_eq.1 hj with hj | rfl
      · exact h4 j hj hq
      · omega
def RnI (me : Int) (x : Nat → Int) (i : Nat) (a : (Int × Int) × (Int × Int)) : Prop := (LcI (me < ·) x i a.1.1 ∧ McI (· < me) x i a.1.2) ∧ LcI (· ≠ me) x i a.2.1 ∧ McI (· ≠ me) x i a.2.2
theorem RnI.step {me : Int} {x : Nat → Int} {i : Nat} {a : (Int × Int) × (Int × Int)} (h : RnI me x i a) : RnI me x (i + 1) (rnF me x i a) := by
  obtain ⟨⟨b, a⟩, l, m⟩ := a
  obtain ⟨⟨h1, h2⟩, h3, h4⟩ := h
  cases hq : (x i == me)
  · have hne : x i ≠ me := by simpa using hq
    have es : rnF me x i ((b, a), (l, m)) = ((if x i > me then upL x i b else b, if x i < me then upM x i a else a), (upL x i l, upM x i m)) := by simp only [rnF, hq]
    rw [es]
    refine ⟨⟨?_, ?_⟩, h3.yes hne, h4.yes hne⟩
    · by_cases hg : x i > me
      · simp only [hg, reduceIte]; exact h1.yes hg
      · simp only [hg, reduceIte]; exact h1.no hg
    · by_cases hg : x i < me
      · simp only [hg, reduceIte]; exact h2.yes hg
      · simp only [hg, reduceIte]; exact h2.no hg
  · have he : x i = me := by simpa using hq
    have es : rnF me x i ((b, a), (l, m)) = ((b, a), (l, m)) := by simp only [rnF, hq]
    rw [es]
    exact ⟨⟨h1.no (by omega), h2.no (by omega)⟩, h3.no (by simp [he]), h4.no (by simp [he])⟩
theorem RnI.fold {me : Int} {x : Nat → Int} : ∀ (c i : Nat) (a : (Int × Int) × (Int × Int)), RnI me x i a → RnI me x (i + c) (foldF (rnF me x) c i a)
  | 0, _, _, h => h
  | c + 1, i, a, h => by
    have := RnI.fold c (i + 1) _ h.step
    rw [show i + 1 + c = i + (c + 1) by omega] at this
    exact this
def rnR (me : Int) (x : Nat → Int) (n : Nat) : (Int × Int) × (Int × Int) := foldF (rnF me x) n 0 ((-1, -1), (-1, -1))
theorem rnR_ok (me : Int) (x : Nat → Int) (n : Nat) : RnI me x n (rnR me x n) := by
  have := RnI.fold (me := me) (x := x) n 0 ((-1, -1), (-1, -1)) ⟨⟨.inl ⟨rfl, fun j hj => absurd hj (Nat.not_lt_zero j)⟩, .inl ⟨rfl, fun j hj => absurd hj (Nat.not_lt_zero j)⟩⟩, .inl ⟨rfl, fun j hj => absurd hj (Nat.not_lt_zero j)⟩, .inl ⟨rfl, fun j hj => absurd hj (Nat.not_lt_zero j)⟩⟩
  rwa [Nat.zero_add] at this
/-- the least of those that are so -/
def LeastI (p : Int → Prop) (x : Nat → Int) (n : Nat) (v : Int) : Prop := (∃ j, j < n ∧ p (x j) ∧ x j = v) ∧ ∀ j, j < n → p (x j) → v ≤ x j
def MostI (p : Int → Prop) (x : Nat → Int) (n : Nat) (v : Int) : Prop := (∃ j, j < n ∧ p (x j) ∧ x j = v) ∧ ∀ j, j < n → p (x j) → x j ≤ v
theorem LeastI.uniq {p : Int → Prop} {x : Nat → Int} {n : Nat} {v u : Int} (h : LeastI p x n v) (g : LeastI p x n u) : v = u := by
  obtain ⟨⟨j, h1, h2, h3⟩, h4⟩ := h
  obtain ⟨⟨k, g1, g2, g3⟩, g4⟩ := g
  have := h4 k g1 g2
  have := g4 j h1 h2
  omega
theorem MostI.uniq {p : Int → Prop} {x : Nat → Int} {n : Nat} {v u : Int} (h : MostI p x n v) (g : MostI p x n u) : v = u := by
  obtain ⟨⟨j, h1, h2, h3⟩, h4⟩ := h
  obtain ⟨⟨k, g1, g2, g3⟩, g4⟩ := g
  have := h4 k g1 g2
  have := g4 j h1 h2
  omega
def IsB (me : Int) (x : Nat → Int) (n : Nat) (v : Int) : Prop := LeastI (me < ·) x n v ∨ ((∀ j, j < n → ¬ me < x j) ∧ LeastI (· ≠ me) x n v)
def IsA (me : Int) (x : Nat → Int) (n : Nat) (v : Int) : Prop := MostI (· < me) x n v ∨ ((∀ j, j < n → ¬ x j < me) ∧ MostI (· ≠ me) x n v)
theorem IsB.uniq {me : Int} {x : Nat → Int} {n : Nat} {v u : Int} (h : IsB me x n v) (g : IsB me x n u) : v = u := by
  rcases h with h | ⟨h1, h2⟩ <;> rcases g with g | ⟨g1, g2⟩
  · exact h.uniq g
  · obtain ⟨⟨j, a, b, _⟩, _⟩ := h; exact absurd b (g1 j a)
  · obtain ⟨⟨j, a, b, _⟩, _⟩ := g; exact absurd b (h1 j a)
  · exact h2.uniq g2
theorem IsA.uniq {me : Int} {x : Nat → Int} {n : Nat} {v u : Int} (h : IsA me x n v) (g : IsA me x n u) : v = u := by
  rcases h with h | ⟨h1, h2⟩ <;> rcases g with g | ⟨g1, g2⟩
  · exact h.uniq g
  · obtain ⟨⟨j, a, b, _⟩, _⟩ := h; exact absurd b (g1 j a)
  · obtain ⟨⟨j, a, b, _⟩, _⟩ := g; exact absurd b (h1 j a)
  · exact h2.uniq g2
/-- who is next, by the reference -/
def rnB (me : Int) (x : Nat → Int) (n : Nat) : Int := if (rnR me x n).1.1 < 0 then x (rnR me x n).2.1.toNat else x (rnR me x n).1.1.toNat
def rnA (me : Int) (x : Nat → Int) (n : Nat) : Int := if (rnR me x n).1.2 < 0 then x (rnR me x n).2.2.toNat else x (rnR me x n).1.2.toNat
theorem rn_none (me : Int) (x : Nat → Int) (n : Nat) : (rnR me x n).2.1 < 0 ↔ ∀ j, j < n → x j = me := by
  obtain ⟨_, h, _⟩ := rnR_ok me x n
  rcases h with ⟨h1, h2⟩ | ⟨k, h1, h2, h3, h4⟩
  · rw [h1]
    exact ⟨fun _ j hj => Decidable.not_not.1 (h2 j hj), fun _ => by decide⟩
  · rw [h2]
    exact ⟨fun h => by omega, fun h => absurd (h k h1) h3⟩
theorem rnB_ok {me : Int} {x : Nat → Int} {n : Nat} (h0 : ¬ (rnR me x n).2.1 < 0) : IsB me x n (rnB me x n) := by
  obtain ⟨⟨h1, _⟩, h3, _⟩ := rnR_ok me x n
  unfold rnB
  rcases h1 with ⟨e, g⟩ | ⟨k, k1, e, k3, k4⟩
  · rw [if_pos (by omega)]
    rcases h3 with ⟨e3, _⟩ | ⟨k, k1, e3, k3, k4⟩
    · omega
    · rw [e3, Int.toNat_natCast]
      exact .inr ⟨g, ⟨k, k1, k3, rfl⟩, k4⟩
  · rw [if_neg (by omega), e, Int.toNat_natCast]
    exact .inl ⟨⟨k, k1, k3, rfl⟩, k4⟩
theorem rnA_ok {me : Int} {x : Nat → Int} {n : Nat} (h0 : ¬ (rnR me x n).2.1 < 0) : IsA me x n (rnA me x n) := by
  have hn := rn_none me x n
  obtain ⟨⟨_, h1⟩, _, h3⟩ := rnR_ok me x n
  unfold rnA
  rcases h1 with ⟨e, g⟩ | ⟨k, k1, e, k3, k4⟩
  · rw [if_pos (by omega)]
    rcases h3 with ⟨e3, f⟩ | ⟨k, k1, e3, k3, k4⟩
    · exact absurd (hn.2 fun j hj => Decidable.not_not.1 (f j hj)) h0
    · rw [e3, Int.toNat_natCast]
      exact .inr ⟨g, ⟨k, k1, k3, rfl⟩, k4⟩
  · rw [if_neg (by omega), e, Int.toNat_natCast]
    exact .inl ⟨⟨k, k1, k3, rfl⟩, k4⟩

theorem mem_rowL (x : Nat → Int) (n : Nat) (y : Int) : y ∈ rowL x 0 n ↔ ∃ j, j < n ∧ x j = y := by
  simp [rowL]
theorem rowL_sorted {s : Nat → Int} {d : Nat} (h : SortedL s d) {i j : Nat} (hi : i ≤ j) (hj : j < d) : s i ≤ s j := by
  rcases Nat.lt_or_eq_of_le hi with hi | rfl
  · have := List.pairwise_iff_getElem.1 h i j (by rw [rowL_length]; omega) (by rw [rowL_length]; omega) hi
    simpa [rowL] using this
  · exact Int.le_refl _
theorem belowI_succ (s : Nat → Int) (d : Nat) (t : Int) : belowI s (d + 1) t = belowI s d t + (if s d < t then 1 else 0) := by
  unfold belowI
  rw [rowL_succ, List.countP_append]
  by_cases h : s d < t
  · simp [h]
  · simp [h]
theorem below_iff {s : Nat → Int} {t : Int} : ∀ {d : Nat}, SortedL s d → ∀ j, j < d → (s j < t ↔ j < belowI s d t)
  | 0, _, j, hj => absurd hj (Nat.not_lt_zero j)
  | d + 1, h, j, hj => by
    have h' : SortedL s d := by
      have := h
      unfold SortedL at this ⊢
      rw [rowL_succ] at this
      exact (List.pairwise_append.1 this).1
    have ih := below_iff (t := t) h'
    have hle := belowI_le s d t
    rw [belowI_succ]
    by_cases hd : s d < t
    · rw [if_pos hd]
      have : d ≤ belowI s d t := by
        rcases Nat.eq_zero_or_pos d with rfl | hp
        · exact Nat.zero_le _
        · have := (ih (d - 1) (by omega)).1 (by have := rowL_sorted h (i := d - 1) (j := d) (by omega) (by omega); omega)
          omega
      have := rowL_sorted h (i := j) (j := d) (by omega) (by omega)
      exact ⟨fun _ => by omega, fun _ => by omega⟩
    · rw [if_neg hd]
      rcases Nat.lt_succ_iff_lt_or_eq.1 hj with hj | rfl
      · exact ih j hj
      · exact ⟨fun h => absurd h hd, fun h => by omega⟩
theorem nxS_mem (me : Int) (x : Nat → Int) (n : Nat) (y : Int) : (∃ j, j < nxD me x n ∧ nxS me x n j = y) ↔ (∃ j, j < n ∧ x j = y) ∧ y ≠ me := by
  rw [← mem_rowL, ← mem_rowL]
  unfold nxS
  rw [sortI_ok, List.mem_mergeSort]
  have : rowL (delI me x n).2 0 (nxD me x n) = filL me x n := (delI_ok me x n).2
  rw [this]
  simp [filL]
theorem nxD_none (me : Int) (x : Nat → Int) (n : Nat) : nxD me x n = 0 ↔ ∀ j, j < n → x j = me := by
  constructor
  · intro h j hj
    refine Decidable.byContradiction fun hne => ?_
    obtain ⟨k, hk, _⟩ := (nxS_mem me x n (x j)).2 ⟨⟨j, hj, rfl⟩, hne⟩
    omega
  · intro h
    refine Decidable.byContradiction fun hne => ?_
    obtain ⟨⟨k, hk, e⟩, h2⟩ := (nxS_mem me x n (nxS me x n 0)).1 ⟨0, by omega, rfl⟩
    exact h2 (e ▸ h k hk)
theorem nxB_ok {me : Int} {x : Nat → Int} {n : Nat} (h0 : nxD me x n ≠ 0) : IsB me x n (nxB me x n) := by
  have hs : SortedL (nxS me x n) (nxD me x n) := sortI_sorted _ _
  have hk : nxK me x n ≤ nxD me x n := belowI_le _ _ _
  have hb := fun j hj => below_iff (t := me) hs j hj
  have hall : ∀ j, j < n → x j ≠ me → ∃ i, i < nxD me x n ∧ nxS me x n i = x j := fun j hj hne => (nxS_mem me x n (x j)).2 ⟨⟨j, hj, rfl⟩, hne⟩
  have hin : ∀ i, i < nxD me x n → (∃ j, j < n ∧ x j = nxS me x n i) ∧ nxS me x n i ≠ me := fun i hi => (nxS_mem me x n _).1 ⟨i, hi, rfl⟩
  have hK : nxK me x n = belowI (nxS me x n) (nxD me x n) me := rfl
  rw [← hK] at hb
  unfold nxB
  rcases Nat.lt_or_eq_of_le hk with hlt | heq
  · rw [Nat.mod_eq_of_lt hlt]
    obtain ⟨⟨j, j1, j2⟩, h2⟩ := hin _ hlt
    have h3 := hb _ hlt
    refine .inl ⟨⟨j, j1, by omega, j2⟩, fun j hj hp => ?_⟩
    obtain ⟨i, i1, i2⟩ := hall j hj (by omega)
    have h4 := hb i i1
    have := rowL_sorted hs (i := nxK me x n) (j := i) (by omega) i1
    omega
  · rw [heq, Nat.mod_self]
    obtain ⟨⟨j, j1, j2⟩, h2⟩ := hin 0 (by omega)
    refine .inr ⟨fun j hj hp => ?_, ⟨j, j1, by omega, j2⟩, fun j hj hp => ?_⟩
    · obtain ⟨i, i1, i2⟩ := hall j hj (by omega)
      have h4 := hb i i1
      omega
    · obtain ⟨i, i1, i2⟩ := hall j hj hp
      have := rowL_sorted hs (i := 0) (j := i) (by omega) i1
      omega
theorem nxA_ok {me : Int} {x : Nat → Int} {n : Nat} (h0 : nxD me x n ≠ 0) : IsA me x n (nxA me x n) := by
  have hs : SortedL (nxS me x n) (nxD me x n) := sortI_sorted _ _
  have hk : nxK me x n ≤ nxD me x n := belowI_le _ _ _
  have hb := fun j hj => below_iff (t := me) hs j hj
  have hall : ∀ j, j < n → x j ≠ me → ∃ i, i < nxD me x n ∧ nxS me x n i = x j := fun j hj hne => (nxS_mem me x n (x j)).2 ⟨⟨j, hj, rfl⟩, hne⟩
  have hin : ∀ i, i < nxD me x n → (∃ j, j < n ∧ x j = nxS me x n i) ∧ nxS me x n i ≠ me := fun i hi => (nxS_mem me x n _).1 ⟨i, hi, rfl⟩
  have hK : nxK me x n = belowI (nxS me x n) (nxD me x n) me := rfl
  rw [← hK] at hb
  unfold nxA
  rcases Nat.eq_zero_or_pos (nxK me x n) with heq | hpos
  · rw [heq, Nat.mod_eq_of_lt (by omega)]
    obtain ⟨⟨j, j1, j2⟩, h2⟩ := hin (0 + nxD me x n - 1) (by omega)
    refine .inr ⟨fun j hj hp => ?_, ⟨j, j1, by omega, j2⟩, fun j hj hp => ?_⟩
    · obtain ⟨i, i1, i2⟩ := hall j hj (by omega)
      have h4 := hb i i1
      omega
    · obtain ⟨i, i1, i2⟩ := hall j hj hp
      have := rowL_sorted hs (i := i) (j := 0 + nxD me x n - 1) (by omega) (by omega)
      omega
  · rw [show (nxK me x n + nxD me x n - 1) % nxD me x n = nxK me x n - 1 by
      rw [show nxK me x n + nxD me x n - 1 = (nxK me x n - 1) + nxD me x n by omega, Nat.add_mod_right, Nat.mod_eq_of_lt (by omega)]]
    obtain ⟨⟨j, j1, j2⟩, h2⟩ := hin (nxK me x n - 1) (by omega)
    have h3 := hb (nxK me x n - 1) (by omega)
    refine .inl ⟨⟨j, j1, by omega, j2⟩, fun j hj hp => ?_⟩
    obtain ⟨i, i1, i2⟩ := hall j hj (by omega)
    have h4 := hb i i1
    have := rowL_sorted hs (i := i) (j := nxK me x n - 1) (by omega) (by omega)
    omega
/-- what both Next answer -/
def nzO (vb va : Int) : CallOut := if max vb va = min vb va then out0 (.v (.one (.f (.fs false 1 1 (intE fun _ => min vb va))))) else out0 (.v (.one (.f (.fs false 1 2 (intE fun a => bif Nat.beq a 0 then min vb va else max vb va)))))
def nzR (me : Int) (x : Nat → Int) (n : Nat) : CallOut := if nxD me x n = 0 then out0 (.v (.one Nil)) else nzO (nxB me x n) (nxA me x n)
theorem nz_eq (me : Int) (x : Nat → Int) (n : Nat) : nzR me x n = if (rnR me x n).2.1 < 0 then out0 (.v (.one Nil)) else nzO (rnB me x n) (rnA me x n) := by
  unfold nzR
  by_cases h : nxD me x n = 0
  · rw [if_pos h, if_pos ((rn_none me x n).2 ((nxD_none me x n).1 h))]
  · have h2 : ¬ (rnR me x n).2.1 < 0 := fun h2 => h ((nxD_none me x n).2 ((rn_none me x n).1 h2))
    rw [if_neg h, if_neg h2, (nxB_ok h).uniq (rnB_ok h2), (nxA_ok h).uniq (rnA_ok h2)]

theorem res_Nz (me : Int) (n : Nat) (x : Nat → Int) (h : 1 ≤ n ∧ n ≤ 1048576) : (tgt_Nz me false n x).res = some (nzR me x n) := by
  refine T.over_eq _ (tree_Nz me false n x) ?_
  obtain ⟨h1, h2⟩ := h
  have hd : nxD me x n = (delI me x n).1 := rfl
  have hs : nxS me x n = sortI (delI me x n).2 (nxD me x n) := rfl
  have hk : nxK me x n = belowI (nxS me x n) (nxD me x n) me := rfl
  have hso : SortedL (nxS me x n) (nxD me x n) := sortI_sorted _ _
  have hb : nxB me x n = nxS me x n (nxK me x n % nxD me x n) := rfl
  have ha : nxA me x n = nxS me x n ((nxK me x n + nxD me x n - 1) % nxD me x n) := rfl
  have d1 : nxD me x n ≤ n := (delI_ok me x n).1
  have d2 : nxK me x n ≤ nxD me x n := belowI_le _ _ _
  have f1 : (n : Int) ≤ 9223372036854775807 := by omega
  simp only [T.res_br, T.res_ret, T.res_bad, ← hd, ← hs, ← hk, IntE_ok, h1, h2, f1, eq_self, Nat.le_refl, and_self, pb_tt, reduceIte]
  unfold nzR nzO
  by_cases h0 : nxD me x n = 0
  · simp only [h0, reduceIte]
    rfl
  · have m1 : nxK me x n % nxD me x n < nxD me x n := Nat.mod_lt _ (by omega)
    have m2 : (nxK me x n + nxD me x n - 1) % nxD me x n < nxD me x n := Nat.mod_lt _ (by omega)
    have e1 : (((nxD me x n : Nat) : Int) == 0) = false := by simpa using h0
    have e2 : ¬ (((nxD me x n : Nat) : Int) = 0) := by omega
    have e3 : ((nxD me x n : Nat) : Int) < 4611686018427387904 := by omega
    have t1 : Int.tmod (nxK me x n : Int) (nxD me x n : Int) = ((nxK me x n % nxD me x n : Nat) : Int) := by rw [Int.tmod_eq_emod_of_nonneg (by omega)]; rfl
    have w1 : IntKind.wrap IntKind.i64 ((nxK me x n : Int) + (nxD me x n : Int)) = ((nxK me x n + nxD me x n : Nat) : Int) := by rw [wrapI (by omega)]; omega
    have w2 : IntKind.wrap IntKind.i64 (((nxK me x n + nxD me x n : Nat) : Int) - 1) = ((nxK me x n + nxD me x n - 1 : Nat) : Int) := by rw [wrapI (by omega)]; omega
    have t2 : Int.tmod ((nxK me x n + nxD me x n - 1 : Nat) : Int) (nxD me x n : Int) = (((nxK me x n + nxD me x n - 1) % nxD me x n : Nat) : Int) := by rw [Int.tmod_eq_emod_of_nonneg (by omega)]; rfl
    have g1 : (0 : Int) ≤ ((nxK me x n % nxD me x n : Nat) : Int) ∧ ((nxK me x n % nxD me x n : Nat) : Int) < (nxD me x n : Int) := by omega
    have g2 : (0 : Int) ≤ (((nxK me x n + nxD me x n - 1) % nxD me x n : Nat) : Int) ∧ (((nxK me x n + nxD me x n - 1) % nxD me x n : Nat) : Int) < (nxD me x n : Int) := by omega
    have b1 : Nat.ble (nxK me x n % nxD me x n + 1) n = true := ble_tt (by omega)
    have b2 : Nat.ble ((nxK me x n + nxD me x n - 1) % nxD me x n + 1) n = true := ble_tt (by omega)
    simp only [e1, e2, e3, t1, w1, w2, t2, decide_eq_true g1, decide_eq_true g2, Int.toNat_natCast, Nat.zero_add, b1, b2, d1, hso, h0, ← ha, ← hb, decide_false, and_self, pb_tt, Bool.false_eq_true, beq_iff_eq, if_false, if_true]
    split <;> rfl
theorem min_if (p q : Int) : (if q < p then q else p) = min p q := by split <;> omega
theorem max_if (p q : Int) : (if q > p then q else p) = max p q := by split <;> omega
theorem res_RNx (me : Int) (nl : Bool) (n : Nat) (x : Nat → Int) (h : (nl = true → n = 0) ∧ n ≤ 1048576) : (tgt_RNx me nl n x).res = some (if (rnR me x n).2.1 < 0 then out0 (.v (.one Nil)) else nzO (rnB me x n) (rnA me x n)) := by
  refine T.over_eq _ (tree_RNx me nl n x) ?_
  obtain ⟨h1, h2⟩ := h
  have hr : rnR me x n = foldF (rnF me x) n 0 ((-1, -1), (-1, -1)) := rfl
  have h1' : (nl = true → n = 0) = True := eq_true h1
  simp only [T.res_br, T.res_ret, T.res_bad, ← hr, IntE_ok, h1', h2, eq_self, and_self, pb_tt, decide_eq_true_eq, reduceIte]
  by_cases h0 : (rnR me x n).2.1 < 0
  · simp only [h0, reduceIte]
  · obtain ⟨⟨hb, ha⟩, hl, hm⟩ := rnR_ok me x n
    have el : (0 : Int) ≤ (rnR me x n).2.1 ∧ (rnR me x n).2.1 < (n : Int) := by
      rcases hl with ⟨e, _⟩ | ⟨k, k1, e, _⟩ <;> omega
    have hn := rn_none me x n
    have em : (0 : Int) ≤ (rnR me x n).2.2 ∧ (rnR me x n).2.2 < (n : Int) := by
      rcases hm with ⟨e, f⟩ | ⟨k, k1, e, _⟩
      · exact absurd (hn.2 fun j hj => Decidable.not_not.1 (f j hj)) h0
      · omega
    have eb : ¬ (rnR me x n).1.1 < 0 → (0 : Int) ≤ (rnR me x n).1.1 ∧ (rnR me x n).1.1 < (n : Int) := fun g => by
      rcases hb with ⟨e, _⟩ | ⟨k, k1, e, _⟩ <;> omega
    have ea : ¬ (rnR me x n).1.2 < 0 → (0 : Int) ≤ (rnR me x n).1.2 ∧ (rnR me x n).1.2 < (n : Int) := fun g => by
      rcases ha with ⟨e, _⟩ | ⟨k, k1, e, _⟩ <;> omega
    have e0 : nl = false := by
      cases nl
      · rfl
      · have := h1 rfl; omega
    subst e0
    by_cases g1 : (rnR me x n).1.1 < 0
    · by_cases g2 : (rnR me x n).1.2 < 0
      · simp only [h0, g1, g2, el, em, rnB, rnA, nzO, and_self, Bool.not_false, min_if, max_if, beq_iff_eq, reduceIte]
        split <;> split <;> first | rfl | omega
      · have e2 := ea g2
        simp only [h0, g1, g2, el, em, e2, rnB, rnA, nzO, and_self, Bool.not_false, min_if, max_if, beq_iff_eq, reduceIte]
        split <;> split <;> first | rfl | omega
    · have e1 := eb g1
      by_cases g2 : (rnR me x n).1.2 < 0
      · simp only [h0, g1, g2, el, em, e1, rnB, rnA, nzO, and_self, Bool.not_false, min_if, max_if, beq_iff_eq, reduceIte]
        split <;> split <;> first | rfl | omega
      · have e2 := ea g2
        simp only [h0, g1, g2, el, em, e1, e2, rnB, rnA, nzO, and_self, Bool.not_false, min_if, max_if, beq_iff_eq, reduceIte]
        split <;> split <;> first | rfl | omega

end Go.Proofs.Ytggneleipimijaa.En
/- Both Next are known; same. -/
namespace Go.Proofs.Ytggneleipimijaa.En
open Go
set_option linter.unusedVariables false
set_option linter.unusedSimpArgs false
set_option maxRecDepth 20000
set_option maxHeartbeats 1000000
def nzN (me : Int) (x : Nat → Int) (n : Nat) : Bool := Nat.beq (nxD me x n) 0
def nzL (me : Int) (x : Nat → Int) (n : Nat) : Nat := if nxD me x n = 0 then 0 else if max (nxB me x n) (nxA me x n) = min (nxB me x n) (nxA me x n) then 1 else 2
def nzE (me : Int) (x : Nat → Int) (n : Nat) (i : Nat) : Int := bif Nat.beq i 0 then min (nxB me x n) (nxA me x n) else max (nxB me x n) (nxA me x n)
theorem nz_le {P : Program} {g : Nat} {args : List AV} {me : Int} {x : Nat → Int} {n : Nat} (h : CallTo P g args [] 0 (nzR me x n)) : CallTo P g args [] 0 (out0 (.v (.one (.f (.fs (nzN me x n) 1 (nzL me x n) (intE (nzE me x n))))))) := by
  unfold nzR nzO at h
  by_cases h0 : nxD me x n = 0
  · have e1 : nzN me x n = true := by simp [nzN, h0]
    have e2 : nzL me x n = 0 := by simp [nzL, h0]
    rw [if_pos h0] at h
    rw [e1, e2]
    exact h.less (Nat.le_refl 0) (.inr (.inr ⟨_, _, rfl, rfl, CV.le.f FV.le_nil⟩)) (fun b => .inl rfl) rfl rfl
  · have e1 : nzN me x n = false := by unfold nzN; exact beq_ff h0
    rw [if_neg h0] at h
    by_cases h2 : max (nxB me x n) (nxA me x n) = min (nxB me x n) (nxA me x n)
    · have e2 : nzL me x n = 1 := by simp only [nzL, h0, h2, reduceIte]
      rw [if_pos h2] at h
      rw [e1, e2]
      have hle : FV.le (.fs false 1 1 (intE fun _ => min (nxB me x n) (nxA me x n))) (.fs false 1 1 (intE (nzE me x n))) := FV.le_fs fun i hi => by
        obtain rfl : i = 0 := Nat.lt_one_iff.1 hi
        rfl
      exact h.less (Nat.le_refl 0) (.inr (.inr ⟨_, _, rfl, rfl, CV.le.f hle⟩)) (fun b => .inl rfl) rfl rfl
    · have e2 : nzL me x n = 2 := by simp only [nzL, h0, h2, reduceIte]
      rw [if_neg h2] at h
      rw [e1, e2]
      exact h
theorem nz_0 (me : Int) (x : Nat → Int) : nzR me x 0 = out0 (.v (.one Nil)) := by
  have : nxD me x 0 = 0 := (nxD_none me x 0).2 fun j hj => absurd hj (Nat.not_lt_zero j)
  unfold nzR
  rw [if_pos this]
theorem res_Nx0 (me : Int) (nl : Bool) (x : Nat → Int) : (tgt_Nx0 me nl x).res = some (nzR me x 0) := by
  rw [nz_0]
  refine T.over_eq _ (tree_Nx0 me nl x) ?_
  simp only [T.res_br, T.res_ret]
  cases nl <;> rfl
theorem to_Nz (me : Int) (nl : Bool) (n : Nat) (x : Nat → Int) (h : (nl = true → n = 0) ∧ n ≤ 1048576) : CallTo Try.prog 14 [AI me, .one (.f (.fs nl 1 n (intE x)))] [] 0 (out0 (.v (.one (.f (.fs (nzN me x n) 1 (nzL me x n) (intE (nzE me x n))))))) := by
  refine nz_le ?_
  rcases Nat.eq_zero_or_pos n with rfl | hp
  · exact evCallW_ok GORD1 GKRD1 (res_Nx0 me nl x)
  · have : nl = false := by
      cases nl
      · rfl
      · have := h.1 rfl; omega
    subst this
    exact evCallZ_ok GORD3 GKRD3 (res_Nz me n x ⟨hp, h.2⟩)
theorem to_RNx (me : Int) (nl : Bool) (n : Nat) (x : Nat → Int) (h : (nl = true → n = 0) ∧ n ≤ 1048576) : CallTo Try.prog 18 [AI me, .one (.f (.fs nl 1 n (intE x)))] [] 0 (out0 (.v (.one (.f (.fs (nzN me x n) 1 (nzL me x n) (intE (nzE me x n))))))) := by
  refine nz_le ?_
  have := res_RNx me nl n x h
  rw [← nz_eq] at this
  exact evCallZ_ok GORE2 GKRE2 this

noncomputable def F_Nz : SumF
  | [.one (.f (.lit (.int .i64 me))), .one (.f (.fs nl 1 n e))], [], 0 => .need (pb (IntE e ∧ (nl = true → n = 0) ∧ n ≤ 1048576)) (.ret (out0 (.v (.one (.f (.fs (nzN me (intOf e) n) 1 (nzL me (intOf e) n) (intE (nzE me (intOf e) n))))))))
  | _, _, _ => .bad
theorem sum_Nz : SumOk Try.prog 14 F_Nz := by
  refine ⟨fun args H nx r hr => ?_, fun args H nx => ?_⟩
  · unfold F_Nz at hr
    split at hr
    · rename_i me nl n e
      obtain ⟨h0, hr⟩ := T.need_some hr
      have := T.ret_some hr
      subst this
      have h := pb_of h0
      obtain ⟨⟨x, rfl⟩, h1⟩ := h
      exact to_Nz me nl n x h1
    · exact (T.bad_some hr).elim
  · unfold F_Nz
    split
    · exact T.Every.need ⟨Nat.zero_le _, fun b hb hw => absurd hb (Nat.not_lt_zero b)⟩
    · trivial
noncomputable def sm_Nz : SumF := orSum (nilSum 1 ((intE fun _ => 0)) (canonSum F_Nz)) (frzSum (nilSum 1 ((intE fun _ => 0)) (canonSum F_Nz)))
theorem sm_Nz_ok : SumOk Try.prog 14 sm_Nz := orSum_ok (nilSum_ok (canonSum_ok sum_Nz)) (frzSum_ok (nilSum_ok (canonSum_ok sum_Nz)))
noncomputable def ss_Nz : List (Nat × SumF) := (14, sm_Nz) :: ss_Table
theorem ss_Nz_ok : ∀ x ∈ ss_Nz, SumOk Try.prog x.1 x.2 := List.forall_mem_cons.2 ⟨sm_Nz_ok, ss_Table_ok⟩
noncomputable def F_RNx : SumF
  | [.one (.f (.lit (.int .i64 me))), .one (.f (.fs nl 1 n e))], [], 0 => .need (pb (IntE e ∧ (nl = true → n = 0) ∧ n ≤ 1048576)) (.ret (out0 (.v (.one (.f (.fs (nzN me (intOf e) n) 1 (nzL me (intOf e) n) (intE (nzE me (intOf e) n))))))))
  | _, _, _ => .bad
theorem sum_RNx : SumOk Try.prog 18 F_RNx := by
  refine ⟨fun args H nx r hr => ?_, fun args H nx => ?_⟩
  · unfold F_RNx at hr
    split at hr
    · rename_i me nl n e
      obtain ⟨h0, hr⟩ := T.need_some hr
      have := T.ret_some hr
      subst this
      have h := pb_of h0
      obtain ⟨⟨x, rfl⟩, h1⟩ := h
      exact to_RNx me nl n x h1
    · exact (T.bad_some hr).elim
  · unfold F_RNx
    split
    · exact T.Every.need ⟨Nat.zero_le _, fun b hb hw => absurd hb (Nat.not_lt_zero b)⟩
    · trivial
noncomputable def sm_RNx : SumF := orSum (nilSum 1 ((intE fun _ => 0)) (canonSum F_RNx)) (frzSum (nilSum 1 ((intE fun _ => 0)) (canonSum F_RNx)))
theorem sm_RNx_ok : SumOk Try.prog 18 sm_RNx := orSum_ok (nilSum_ok (canonSum_ok sum_RNx)) (frzSum_ok (nilSum_ok (canonSum_ok sum_RNx)))
noncomputable def ss_RNx : List (Nat × SumF) := (18, sm_RNx) :: ss_Nz
theorem ss_RNx_ok : ∀ x ∈ ss_RNx, SumOk Try.prog x.1 x.2 := List.forall_mem_cons.2 ⟨sm_RNx_ok, ss_Nz_ok⟩
def S_sm (nl : Bool) (n : Nat) (x : Nat → Int) (nl2 : Bool) (i : Nat) (a : Unit) : St := ⟨[(0, .v (.one (.f (.fs nl 1 n (intE x))))), (1, .v (.one (.f (.fs nl2 1 n (intE x))))), (12, .v (AI n)), (13, .v (AI i))], [], 0, false, 0, []⟩

noncomputable def GRG1 : Ctx := GS.with ss_RNx ll_tb
noncomputable def tgt_sm (nl : Bool) (n : Nat) (x : Nat → Int) (nl2 : Bool) (i : Nat) (a : Unit) : T (Ex × St) := evRound GRG1 300 15 Try.f15.ntmps (loopOf Try.f15 4) 0 [0, 1, 12, 13] [] (S_sm nl n x nl2 i a)
theorem GKRG1 : KnownOk Try.prog GRG1 := KnownOk.lists ss_RNx_ok ll_tb_ok
theorem GORG1 : CtxOk Try.prog GRG1 := GS_ok.with _ _
theorem tree_sm (nl : Bool) (n : Nat) (x : Nat → Int) (nl2 : Bool) (i : Nat) (a : Unit) : (tgt_sm nl n x nl2 i a).over (.br (.br (.br (.br (.br (.br .leaf .leaf) .skip) .skip) .skip) .skip) .leaf) = T.br (decide ((↑i : Int) < (↑n : Int))) (T.br (!nl) (T.br (decide ((0 : Int) ≤ (↑i : Int) ∧ (↑i : Int) < (↑n : Int))) (T.br (!nl2) (T.br (decide ((0 : Int) ≤ (↑i : Int) ∧ (↑i : Int) < (↑n : Int))) (T.br (x i != x i) (T.ret (Ex.ret, ⟨[], [], 0, false, 0, []⟩)) (T.ret (Ex.normal, ⟨[(0, SV.v (AV.one (CV.f (FV.fs nl 1 n fun a => [FV.lit (.int .i64 (x a))])))), (1, SV.v (AV.one (CV.f (FV.fs nl2 1 n fun a => [FV.lit (.int .i64 (x a))])))), (12, SV.v (AI (↑n : Int))), (13, SV.v (AI (IntKind.wrap IntKind.i64 ((↑i : Int) + (1 : Int)))))], [], 0, false, 0, []⟩))) T.bad) T.bad) T.bad) T.bad) (T.ret (Ex.exit 0, ⟨[], [], 0, false, 0, []⟩)) := by kernel_rfl
theorem round_sm (nl : Bool) (n : Nat) (x : Nat → Int) (nl2 : Bool) (hnl : nl = true → n = 0) (hnl2 : nl2 = true → n = 0) (hb : n ≤ 1048576) (i : Nat) (a : Unit) (hi : i < n) (hI : (fun (i : Nat) (a : Unit) => (True : Prop)) i a) : ∃ st', (tgt_sm nl n x nl2 i a).res = some (.normal, st') ∧ StLe 0 st' (S_sm nl n x nl2 (i + 1) ((fun (i : Nat) (a : Unit) => (a)) i a)) ∧ (fun (i : Nat) (a : Unit) => (True : Prop)) (i + 1) ((fun (i : Nat) (a : Unit) => (a)) i a) := by
  refine T.over_exP (g := fun s => (Ex.normal, s)) (tree_sm nl n x nl2 i a) ?_
  have e0 : nl = false := by cases nl; rfl; exact absurd (hnl rfl) (by omega)
  have e0' : nl2 = false := by cases nl2; rfl; exact absurd (hnl2 rfl) (by omega)
  have e1 : (i : Int) < (n : Int) := by omega
  have e2 : (0 : Int) ≤ (i : Int) ∧ (i : Int) < (n : Int) := by omega
  have e3 : IntKind.wrap .i64 ((i : Int) + 1) = ((i + 1 : Nat) : Int) := by rw [wrapI (by omega)]; rfl
  subst e0 e0'
  simp only [T.res_br, T.res_ret, T.res_bad, decide_eq_true_eq, e1, e2, e3, and_self, Bool.not_false, bne_self_eq_false, Bool.false_eq_true, reduceIte]
  exact ⟨_, rfl, StLe.less (Nat.le_refl 0) (fun t => .inr (.inl rfl)) (fun b => .inl rfl), trivial⟩
theorem end_sm (nl : Bool) (n : Nat) (x : Nat → Int) (nl2 : Bool) (hnl : nl = true → n = 0) (hnl2 : nl2 = true → n = 0) (hb : n ≤ 1048576) (a : Unit) (hI : (fun (i : Nat) (a : Unit) => (True : Prop)) (n) a) : ∃ st', (tgt_sm nl n x nl2 (n) a).res = some (.exit 0, st') ∧ StLe 0 st' (⟨[], [], 0, false, 0, []⟩) := by
  refine T.over_exP (g := fun s => (.exit 0, s)) (tree_sm nl n x nl2 (n) a) ?_
  simp only [T.res_br, T.res_ret, T.res_bad, decide_eq_true_eq, Int.lt_irrefl, reduceIte]
  exact ⟨_, rfl, StLe.refl (Nat.le_refl 0)⟩
theorem loop_sm (nl : Bool) (n : Nat) (x : Nat → Int) (nl2 : Bool) (hnl : nl = true → n = 0) (hnl2 : nl2 = true → n = 0) (hb : n ≤ 1048576) (i : Nat) (a : Unit) (hi : i ≤ n) (hI : (fun (i : Nat) (a : Unit) => (True : Prop)) i a) {st0 : St} (h0 : StLe 0 st0 (S_sm nl n x nl2 i a)) (hnx : st0.nx = 0) :
    CodeOk Try.prog Try.f15.ntmps (.loop (loopOf Try.f15 4)) st0 (.exit 0) ((fun (a : Unit) => ⟨[], [], 0, false, 0, []⟩) (foldF (fun (i : Nat) (a : Unit) => (a)) (n - i) i a)) := by
  have := for_loop GORG1 GKRG1 (K := 300) (F := 15) (N := Try.f15.ntmps) (c := loopOf Try.f15 4) (m := 0) (live := [0, 1, 12, 13]) (after := []) (S_sm nl n x nl2) (n) (fun (i : Nat) (a : Unit) => .inl (a)) (fun (a : Unit) => (.exit 0, ⟨[], [], 0, false, 0, []⟩)) (fun (i : Nat) (a : Unit) => (True : Prop))
    (fun i a hi hI => by obtain ⟨s, h1, h2, h3⟩ := round_sm nl n x nl2 hnl hnl2 hb i a hi hI; exact ⟨_, s, h1, rfl, h2, h3⟩)
    (fun a hI => by obtain ⟨s, h1, h2⟩ := end_sm nl n x nl2 hnl hnl2 hb a hI; exact ⟨_, s, h1, by simp, rfl, h2⟩)
    (fun i a => by first | exact Nat.le_refl _ | (show 0 ≤ _; decide) | (simp only [S_sm]; omega)) hi hI h0 hnx
  rw [foldX_inl] at this
  exact this
noncomputable def L_sm : LoopF := mkLoopF [0, 1, 12, 13] (loopOf Try.f15 4) Try.f15.ntmps fun sl H nx => match keyed [0, 1, 12, 13] sl, keyed [] H with
  | some [.v (.one (.f (.fs nl k n e))), .v (.one (.f (.fs nl2 k2 n2 e2))), .v (.one (.f (.lit (.int .i64 m)))), .v (.one (.f (.lit (.int .i64 i))))], some [] => onlyB (Nat.beq nx 0) (onlyB (Nat.beq k 1 && Nat.beq k2 1) (.need (pb (IntE e ∧ e = e2 ∧ n = n2 ∧ (nl = true → n = 0) ∧ (nl2 = true → n = 0) ∧ n ≤ 1048576 ∧ m = n ∧ i = 0)) (.ret (.exit 0, (St.mk [] [] 0 false 0 []).sl, (St.mk [] [] 0 false 0 []).H, 0, false))))
  | _, _ => .bad
theorem L_sm_ok : LoopOk Try.prog L_sm := by
  refine mkLoopF_ok fun sl H nx e sl' H' nx' esc' h => ?_
  split at h
  · rename_i nl k n e nl2 k2 n2 e2 m i hsl hH
    have hsl := keyed_eq hsl
    have hH := keyed_eq hH
    subst hsl hH
    have h5 := onlyB_some h
    clear h
    obtain ⟨hck, h⟩ := h5
    simp only [Bool.and_eq_true, nbeq_iff] at hck
    obtain ⟨rfl⟩ := hck
    have h5 := onlyB_some h
    clear h
    have hw := h5.1
    have h := h5.2
    clear h5
    obtain ⟨hp, hret⟩ := T.need_some h
    have hp := pb_of hp
    have := T.ret_some hret
    simp only [Prod.mk.injEq] at this
    obtain ⟨rfl, rfl, rfl, rfl, rfl⟩ := this
    clear hret h
    obtain ⟨⟨x, rfl⟩, rfl, rfl, hn, hn2, hb, rfl, rfl⟩ := hp
    obtain ⟨hw1, hw2⟩ := Bool.and_eq_true_iff.1 hw
    obtain rfl := Nat.eq_of_beq_eq_true hw1
    obtain rfl := Nat.eq_of_beq_eq_true hw2
    exact loop_sm nl n x nl2 hn hn2 hb 0 () (Nat.zero_le _) trivial (StLe.refl (Nat.le_refl 0)) rfl
  · exact (T.bad_some h).elim
noncomputable def ll_sm : List (Nat × Nat × LoopF) := (15, 4, L_sm) :: ll_tb
theorem ll_sm_ok : ∀ x ∈ ll_sm, LoopOk Try.prog x.2.2 := List.forall_mem_cons.2 ⟨L_sm_ok, ll_tb_ok⟩
noncomputable def GRG2 : Ctx := GS.with ss_RNx ll_sm
noncomputable def tgt_same (nl : Bool) (n : Nat) (x : Nat → Int) (nl2 : Bool) : T CallOut := evCallW [] GRG2 300 15 [.one (.f (.fs nl 1 n (intE x))), .one (.f (.fs nl2 1 n (intE x)))] [] 0
theorem GKRG2 : KnownOk Try.prog GRG2 := KnownOk.lists ss_RNx_ok ll_sm_ok
theorem GORG2 : CtxOk Try.prog GRG2 := GS_ok.with _ _
theorem tree_same (nl : Bool) (n : Nat) (x : Nat → Int) (nl2 : Bool) : (tgt_same nl n x nl2).over (.br .leaf (.br (.br .leaf .skip) .skip)) = T.br ((↑n : Int) != (↑n : Int)) (T.ret (out0 (SV.v (AB false)))) (T.br (pb (Code.loop (loopOf Proofs.Try.f15 4) = Code.loop (loopOf Proofs.Try.f15 4) ∧ 26 = 26)) (T.br (pb (IntE (intE x) ∧ intE x = intE x ∧ n = n ∧ (nl = true → n = 0) ∧ (nl2 = true → n = 0) ∧ n ≤ 1048576 ∧ (↑n : Int) = (↑n : Int) ∧ (0 : Int) = (0 : Int))) (T.ret (out0 (SV.v (AB true)))) T.bad) T.bad) := by kernel_rfl
theorem res_same (nl : Bool) (n : Nat) (x : Nat → Int) (nl2 : Bool) (h : (nl = true → n = 0) ∧ (nl2 = true → n = 0) ∧ n ≤ 1048576) : (tgt_same nl n x nl2).res = some (out0 (.v (AB true))) := by
  refine T.over_eq _ (tree_same nl n x nl2) ?_
  have h1 : (nl = true → n = 0) = True := eq_true h.1
  have h2 : (nl2 = true → n = 0) = True := eq_true h.2.1
  simp only [T.res_br, T.res_ret, T.res_bad, IntE_ok, h1, h2, h.2.2, bne_self_eq_false, eq_self, and_self, pb_tt, Bool.false_eq_true, reduceIte]

noncomputable def F_same : SumF
  | [.one (.f (.fs nl 1 n e)), .one (.f (.fs nl2 1 n2 e2))], [], 0 => .need (pb (IntE e ∧ e = e2 ∧ n = n2 ∧ (nl = true → n = 0) ∧ (nl2 = true → n = 0) ∧ n ≤ 1048576)) (.ret (out0 (.v (AB true))))
  | _, _, _ => .bad
theorem sum_same : SumOk Try.prog 15 F_same := by
  refine ⟨fun args H nx r hr => ?_, fun args H nx => ?_⟩
  · unfold F_same at hr
    split at hr
    · rename_i nl n e nl2 n2 e2
      obtain ⟨h0, hr⟩ := T.need_some hr
      have := T.ret_some hr
      subst this
      have h := pb_of h0
      obtain ⟨⟨x, rfl⟩, rfl, rfl, h1⟩ := h
      exact evCallW_ok GORG2 GKRG2 (res_same nl n x nl2 h1)
    · exact (T.bad_some hr).elim
  · unfold F_same
    split
    · exact T.Every.need ⟨Nat.zero_le _, fun b hb hw => absurd hb (Nat.not_lt_zero b)⟩
    · trivial
noncomputable def sm_same : SumF := orSum (nilSum 1 ((intE fun _ => 0)) (canonSum F_same)) (lendSum (nilSum 1 ((intE fun _ => 0)) (canonSum F_same)))
theorem sm_same_ok : SumOk Try.prog 15 sm_same := orSum_ok (nilSum_ok (canonSum_ok sum_same)) (lendSum_ok (nilSum_ok (canonSum_ok sum_same)))
noncomputable def ss_same : List (Nat × SumF) := (15, sm_same) :: ss_RNx
theorem ss_same_ok : ∀ x ∈ ss_same, SumOk Try.prog x.1 x.2 := List.forall_mem_cons.2 ⟨sm_same_ok, ss_RNx_ok⟩
end Go.Proofs.Ytggneleipimijaa.En
/- RingTells: the numbers drawn small. -/
namespace Go.Proofs.Ytggneleipimijaa.En
open Go
set_option linter.unusedVariables false
set_option linter.unusedSimpArgs false
set_option maxRecDepth 20000
set_option maxHeartbeats 1000000
def S_nn (nl : Bool) (n : Nat) (x : Nat → Int) (me k : Int) (l2 : Bool) (n2 : Nat) (e2 : Nat → List FV) (i : Nat) (a : Unit) : St :=
  ⟨[(0, .v (AI me)), (1, .v (.one (.f (.fs nl 1 n (intE x))))), (3, .v (AI k)), (9, .v (.one (.f (.fs l2 5 n2 e2)))), (10, .v (.one (.sl (Nat.beq i 0) 0 1 0 0 i i false 1))), (16, .v (.one (.f (.fs nl 1 n (intE x))))), (17, .v (AI n)), (18, .v (AI i))], [(0, .arr (!(Nat.beq i 0)) 1 i (intE fun j => x j % 9 - 2))], 1, false, 0, []⟩

noncomputable def GRH1 : Ctx := GS.with ss_Table ll_tb
noncomputable def tgt_nn (nl : Bool) (n : Nat) (x : Nat → Int) (me k : Int) (l2 : Bool) (n2 : Nat) (e2 : Nat → List FV) (i : Nat) (a : Unit) : T (Ex × St) := evRound GRH1 300 5 Try.f5.ntmps (loopOf Try.f5 4) 0 [0, 1, 3, 9, 10, 16, 17, 18] [0, 1, 3, 9, 10] (S_nn nl n x me k l2 n2 e2 i a)
theorem GKRH1 : KnownOk Try.prog GRH1 := KnownOk.lists ss_Table_ok ll_tb_ok
theorem GORH1 : CtxOk Try.prog GRH1 := GS_ok.with _ _
theorem tree_nn (nl : Bool) (n : Nat) (x : Nat → Int) (me k : Int) (l2 : Bool) (n2 : Nat) (e2 : Nat → List FV) (i : Nat) (a : Unit) : (tgt_nn nl n x me k l2 n2 e2 i a).over (.br (.br (.br (.tt (.tt (.ff (.br (.br .skip .skip) (.br (.br .leaf .skip) .skip))))) .skip) .skip) .leaf) = T.br (decide ((↑i : Int) < (↑n : Int))) (T.br (!nl) (T.br (decide ((0 : Int) ≤ (↑i : Int) ∧ (↑i : Int) < (↑n : Int))) (T.br (Nat.ble (i + 1) i) (T.br (!Nat.beq i 0) T.bad T.bad) (T.br (smallB (i + 1) 8) (T.br ((Nat.beq i 0 || !Nat.beq i 0) && Nat.ble (0 + i) i) (T.ret (Ex.normal, ⟨[(0, SV.v (AI me)), (1, SV.v (AV.one (CV.f (FV.fs nl 1 n fun a => [FV.lit (.int .i64 (x a))])))), (3, SV.v (AI k)), (9, SV.v (AV.one (CV.f (FV.fs l2 5 n2 fun a => e2 a)))), (10, SV.v (AV.one (CV.sl false 0 1 0 0 (i + 1) (i + 1) false 1))), (16, SV.v (AV.one (CV.f (FV.fs nl 1 n fun a => [FV.lit (.int .i64 (x a))])))), (17, SV.v (AI (↑n : Int))), (18, SV.v (AI (IntKind.wrap IntKind.i64 ((↑i : Int) + (1 : Int)))))], [(0, Ob.arr true 1 (i + 1) fun i_1 => [FV.lit (.int .i64 (bif Nat.ble (i_1 + 1) i then x (0 + i_1) % (9 : Int) - (2 : Int) else IntKind.wrap IntKind.i64 (x i % (9 : Int) - (2 : Int))))])], 1, false, 0, []⟩)) T.bad) T.bad)) T.bad) T.bad) (T.ret (Ex.exit 0, ⟨[(0, SV.v (AI me)), (1, SV.v (AV.one (CV.f (FV.fs nl 1 n fun a => [FV.lit (.int .i64 (x a))])))), (3, SV.v (AI k)), (9, SV.v (AV.one (CV.f (FV.fs l2 5 n2 fun a => e2 a)))), (10, SV.v (AV.one (CV.sl (Nat.beq i 0) 0 1 0 0 i i false 1)))], [(0, Ob.arr (!Nat.beq i 0) 1 i fun a => [FV.lit (.int .i64 (x a % (9 : Int) - (2 : Int)))])], 1, false, 0, []⟩)) := by kernel_rfl
theorem round_nn (nl : Bool) (n : Nat) (x : Nat → Int) (me k : Int) (l2 : Bool) (n2 : Nat) (e2 : Nat → List FV) (hb : n ≤ 1048576) (hnl : nl = true → n = 0) (i : Nat) (a : Unit) (hi : i < n) (hI : (fun (i : Nat) (a : Unit) => (True : Prop)) i a) : ∃ st', (tgt_nn nl n x me k l2 n2 e2 i a).res = some (.normal, st') ∧ StLe 0 st' (S_nn nl n x me k l2 n2 e2 (i + 1) ((fun (i : Nat) (a : Unit) => (())) i a)) ∧ (fun (i : Nat) (a : Unit) => (True : Prop)) (i + 1) ((fun (i : Nat) (a : Unit) => (())) i a) := by
  refine T.over_exP (g := fun s => (Ex.normal, s)) (tree_nn nl n x me k l2 n2 e2 i a) ?_
  have e1 : ((i : Int) < (n : Int)) := by omega
  have e2 : (0 : Int) ≤ (i : Int) ∧ (i : Int) < (n : Int) := by omega
  have e3 : IntKind.wrap .i64 ((i : Int) + 1) = ((i + 1 : Nat) : Int) := by rw [wrapI (by omega)]; rfl
  have e3' : IntKind.wrap .i64 (x i % 9 - 2) = x i % 9 - 2 := wrapI (by omega)
  obtain rfl : nl = false := by cases nl <;> simp_all <;> omega
  have e4 : Nat.ble (i + 1) i = false := ble_false (by omega)
  have e5 : smallB (i + 1) 8 = true := smallB_le (by omega) (by omega)
  have e6 : Nat.ble (0 + i) i = true := ble_tt (by omega)
  have e7 : (0 : Int) < 9 ∧ (9 : Int) ≤ 9223372036854775807 := by decide
  simp only [T.res_br, T.res_ret, T.res_bad, decide_eq_true_eq, e1, e2, e3, e3', e4, e5, e6, e7, beq_or, pb_tt, Bool.and_self, Bool.not_false, Bool.false_eq_true, reduceIte, and_self]
  refine ⟨_, rfl, StLe.less (Nat.zero_le _) (fun t => .inr (.inl rfl)) (fun b => ?_), trivial⟩
  rcases b with _ | b
  · refine Ob.le.arr fun j hj => ?_
    rcases Nat.lt_or_ge j i with h | h
    · simp only [ble_tt (show j + 1 ≤ i by omega), cond_true, Nat.zero_add]
    · obtain rfl : j = i := by omega
      simp only [ble_false (show ¬ j + 1 ≤ j by omega), cond_false]
  · exact .inl rfl
theorem end_nn (nl : Bool) (n : Nat) (x : Nat → Int) (me k : Int) (l2 : Bool) (n2 : Nat) (e2 : Nat → List FV) (hb : n ≤ 1048576) (hnl : nl = true → n = 0) (a : Unit) (hI : (fun (i : Nat) (a : Unit) => (True : Prop)) (n) a) : ∃ st', (tgt_nn nl n x me k l2 n2 e2 (n) a).res = some (.exit 0, st') ∧ StLe 0 st' (⟨[(0, .v (AI me)), (1, .v (.one (.f (.fs nl 1 n (intE x))))), (3, .v (AI k)), (9, .v (.one (.f (.fs l2 5 n2 e2)))), (10, .v (.one (.sl (Nat.beq n 0) 0 1 0 0 n n false 1)))], [(0, .arr (!(Nat.beq n 0)) 1 n (intE fun j => x j % 9 - 2))], 1, false, 0, []⟩) := by
  refine T.over_exP (g := fun s => (.exit 0, s)) (tree_nn nl n x me k l2 n2 e2 (n) a) ?_
  simp only [T.res_br, T.res_ret, T.res_bad, decide_eq_true_eq, Int.lt_irrefl, reduceIte]
  exact ⟨_, rfl, StLe.refl (Nat.zero_le _)⟩
theorem loop_nn (nl : Bool) (n : Nat) (x : Nat → Int) (me k : Int) (l2 : Bool) (n2 : Nat) (e2 : Nat → List FV) (hb : n ≤ 1048576) (hnl : nl = true → n = 0) (i : Nat) (a : Unit) (hi : i ≤ n) (hI : (fun (i : Nat) (a : Unit) => (True : Prop)) i a) {st0 : St} (h0 : StLe 0 st0 (S_nn nl n x me k l2 n2 e2 i a)) (hnx : st0.nx = 0) :
    CodeOk Try.prog Try.f5.ntmps (.loop (loopOf Try.f5 4)) st0 (.exit 0) ((fun (a : Unit) => ⟨[(0, .v (AI me)), (1, .v (.one (.f (.fs nl 1 n (intE x))))), (3, .v (AI k)), (9, .v (.one (.f (.fs l2 5 n2 e2)))), (10, .v (.one (.sl (Nat.beq n 0) 0 1 0 0 n n false 1)))], [(0, .arr (!(Nat.beq n 0)) 1 n (intE fun j => x j % 9 - 2))], 1, false, 0, []⟩) (foldF (fun (i : Nat) (a : Unit) => (())) (n - i) i a)) := by
  have := for_loop GORH1 GKRH1 (K := 300) (F := 5) (N := Try.f5.ntmps) (c := loopOf Try.f5 4) (m := 0) (live := [0, 1, 3, 9, 10, 16, 17, 18]) (after := [0, 1, 3, 9, 10]) (S_nn nl n x me k l2 n2 e2) (n) (fun (i : Nat) (a : Unit) => .inl (())) (fun (a : Unit) => (.exit 0, ⟨[(0, .v (AI me)), (1, .v (.one (.f (.fs nl 1 n (intE x))))), (3, .v (AI k)), (9, .v (.one (.f (.fs l2 5 n2 e2)))), (10, .v (.one (.sl (Nat.beq n 0) 0 1 0 0 n n false 1)))], [(0, .arr (!(Nat.beq n 0)) 1 n (intE fun j => x j % 9 - 2))], 1, false, 0, []⟩)) (fun (i : Nat) (a : Unit) => (True : Prop))
    (fun i a hi hI => by obtain ⟨s, h1, h2, h3⟩ := round_nn nl n x me k l2 n2 e2 hb hnl i a hi hI; exact ⟨_, s, h1, rfl, h2, h3⟩)
    (fun a hI => by obtain ⟨s, h1, h2⟩ := end_nn nl n x me k l2 n2 e2 hb hnl a hI; exact ⟨_, s, h1, by simp, rfl, h2⟩)
    (fun i a => by first | exact Nat.le_refl _ | (show 0 ≤ _; decide) | (simp only [S_nn]; omega)) hi hI h0 hnx
  rw [foldX_inl] at this
  exact this
end Go.Proofs.Ytggneleipimijaa.En
/- Targets: the loop that takes who may be given to. -/
namespace Go.Proofs.Ytggneleipimijaa.En
open Go
set_option linter.unusedVariables false
set_option linter.unusedSimpArgs false
set_option maxRecDepth 20000
set_option maxHeartbeats 1000000
def S_tg (nl : Bool) (n : Nat) (x : Nat → Ent) (me : Int) (i : Nat) (a : Nat × (Nat → Int)) : St :=
  ⟨[(0, .v (AI me)), (3, .v (AP 0)), (5, .v (.one (.sl (Nat.beq a.1 0) 1 1 0 0 a.1 a.1 false 1))), (16, .v (.one (.f (.fs nl 5 n (entE x))))), (17, .v (AI n)), (18, .v (AI i))], [(0, .cells [.f (.fs nl 5 n (entE x))]), (1, .arr (!(Nat.beq a.1 0)) 1 a.1 (intE a.2))], 2, false, 0, []⟩

noncomputable def GRI1 : Ctx := GS.with ss_Table ll_tb
noncomputable def tgt_tg (nl : Bool) (n : Nat) (x : Nat → Ent) (me : Int) (i : Nat) (a : Nat × (Nat → Int)) : T (Ex × St) := evRound GRI1 300 16 Try.f16.ntmps (loopOf Try.f16 5) 1 [0, 3, 5, 16, 17, 18] [0, 3, 5] (S_tg nl n x me i a)
theorem GKRI1 : KnownOk Try.prog GRI1 := KnownOk.lists ss_Table_ok ll_tb_ok
theorem GORI1 : CtxOk Try.prog GRI1 := GS_ok.with _ _
theorem tree_tg (nl : Bool) (n : Nat) (x : Nat → Ent) (me : Int) (i : Nat) (a : Nat × (Nat → Int)) : (tgt_tg nl n x me i a).over (.br (.br (.br (.br (.tt (.tt (.tt (.br (.tt (.tt (.tt (.br (.tt (.ff (.br (.br .skip .skip) (.br (.br .leaf .skip) .skip)))) .leaf)))) (.ff (.ff (.ff (.ff .leaf)))))))) (.ff (.ff (.ff (.ff (.ff (.ff (.ff (.ff .leaf))))))))) .skip) .skip) .leaf) = T.br (decide ((↑i : Int) < (↑n : Int))) (T.br (!nl) (T.br (decide ((0 : Int) ≤ (↑i : Int) ∧ (↑i : Int) < (↑n : Int))) (T.br ((↑i : Int) != me) (T.br (Ent.st (x i) != (2 : Int)) (T.br (!Ent.dr (x i)) (T.br (Nat.ble (Prod.fst a + 1) (Prod.fst a)) (T.br (!Nat.beq (Prod.fst a) 0) T.bad T.bad) (T.br (smallB (Prod.fst a + 1) 8) (T.br ((Nat.beq (Prod.fst a) 0 || !Nat.beq (Prod.fst a) 0) && Nat.ble (0 + Prod.fst a) (Prod.fst a)) (T.ret (Ex.normal, ⟨[(0, SV.v (AI me)), (3, SV.v (AP 0)), (5, SV.v (AV.one (CV.sl false 1 1 0 0 (Prod.fst a + 1) (Prod.fst a + 1) false 1))), (16, SV.v (AV.one (CV.f (FV.fs nl 5 n fun a => [FV.lit (.int .i64 (Ent.inc (x a))), FV.lit (.int .i64 (Ent.st (x a))), FV.lit (.int .i64 (Ent.stamp (x a))), FV.lit (.int .i64 (Ent.load (x a))), FV.lit (Value.bool (Ent.dr (x a)))])))), (17, SV.v (AI (↑n : Int))), (18, SV.v (AI (IntKind.wrap IntKind.i64 ((↑i : Int) + (1 : Int)))))], [(0, Ob.cells [CV.f (FV.fs nl 5 n fun a => [FV.lit (.int .i64 (Ent.inc (x a))), FV.lit (.int .i64 (Ent.st (x a))), FV.lit (.int .i64 (Ent.stamp (x a))), FV.lit (.int .i64 (Ent.load (x a))), FV.lit (Value.bool (Ent.dr (x a)))])]), (1, Ob.arr true 1 (Prod.fst a + 1) fun i_1 => [FV.lit (.int .i64 (bif Nat.ble (i_1 + 1) (Prod.fst a) then Prod.snd a (0 + i_1) else (↑i : Int)))])], 2, false, 0, []⟩)) T.bad) T.bad)) (T.ret (Ex.normal, ⟨[(0, SV.v (AI me)), (3, SV.v (AP 0)), (5, SV.v (AV.one (CV.sl (Nat.beq (Prod.fst a) 0) 1 1 0 0 (Prod.fst a) (Prod.fst a) false 1))), (16, SV.v (AV.one (CV.f (FV.fs nl 5 n fun a => [FV.lit (.int .i64 (Ent.inc (x a))), FV.lit (.int .i64 (Ent.st (x a))), FV.lit (.int .i64 (Ent.stamp (x a))), FV.lit (.int .i64 (Ent.load (x a))), FV.lit (Value.bool (Ent.dr (x a)))])))), (17, SV.v (AI (↑n : Int))), (18, SV.v (AI (IntKind.wrap IntKind.i64 ((↑i : Int) + (1 : Int)))))], [(0, Ob.cells [CV.f (FV.fs nl 5 n fun a => [FV.lit (.int .i64 (Ent.inc (x a))), FV.lit (.int .i64 (Ent.st (x a))), FV.lit (.int .i64 (Ent.stamp (x a))), FV.lit (.int .i64 (Ent.load (x a))), FV.lit (Value.bool (Ent.dr (x a)))])]), (1, Ob.arr (!Nat.beq (Prod.fst a) 0) 1 (Prod.fst a) fun a_1 => [FV.lit (.int .i64 (Prod.snd a a_1))])], 2, false, 0, []⟩))) (T.ret (Ex.normal, ⟨[(0, SV.v (AI me)), (3, SV.v (AP 0)), (5, SV.v (AV.one (CV.sl (Nat.beq (Prod.fst a) 0) 1 1 0 0 (Prod.fst a) (Prod.fst a) false 1))), (16, SV.v (AV.one (CV.f (FV.fs nl 5 n fun a => [FV.lit (.int .i64 (Ent.inc (x a))), FV.lit (.int .i64 (Ent.st (x a))), FV.lit (.int .i64 (Ent.stamp (x a))), FV.lit (.int .i64 (Ent.load (x a))), FV.lit (Value.bool (Ent.dr (x a)))])))), (17, SV.v (AI (↑n : Int))), (18, SV.v (AI (IntKind.wrap IntKind.i64 ((↑i : Int) + (1 : Int)))))], [(0, Ob.cells [CV.f (FV.fs nl 5 n fun a => [FV.lit (.int .i64 (Ent.inc (x a))), FV.lit (.int .i64 (Ent.st (x a))), FV.lit (.int .i64 (Ent.stamp (x a))), FV.lit (.int .i64 (Ent.load (x a))), FV.lit (Value.bool (Ent.dr (x a)))])]), (1, Ob.arr (!Nat.beq (Prod.fst a) 0) 1 (Prod.fst a) fun a_1 => [FV.lit (.int .i64 (Prod.snd a a_1))])], 2, false, 0, []⟩))) (T.ret (Ex.normal, ⟨[(0, SV.v (AI me)), (3, SV.v (AP 0)), (5, SV.v (AV.one (CV.sl (Nat.beq (Prod.fst a) 0) 1 1 0 0 (Prod.fst a) (Prod.fst a) false 1))), (16, SV.v (AV.one (CV.f (FV.fs nl 5 n fun a => [FV.lit (.int .i64 (Ent.inc (x a))), FV.lit (.int .i64 (Ent.st (x a))), FV.lit (.int .i64 (Ent.stamp (x a))), FV.lit (.int .i64 (Ent.load (x a))), FV.lit (Value.bool (Ent.dr (x a)))])))), (17, SV.v (AI (↑n : Int))), (18, SV.v (AI (IntKind.wrap IntKind.i64 ((↑i : Int) + (1 : Int)))))], [(0, Ob.cells [CV.f (FV.fs nl 5 n fun a => [FV.lit (.int .i64 (Ent.inc (x a))), FV.lit (.int .i64 (Ent.st (x a))), FV.lit (.int .i64 (Ent.stamp (x a))), FV.lit (.int .i64 (Ent.load (x a))), FV.lit (Value.bool (Ent.dr (x a)))])]), (1, Ob.arr (!Nat.beq (Prod.fst a) 0) 1 (Prod.fst a) fun a_1 => [FV.lit (.int .i64 (Prod.snd a a_1))])], 2, false, 0, []⟩))) T.bad) T.bad) (T.ret (Ex.exit 0, ⟨[(0, SV.v (AI me)), (3, SV.v (AP 0)), (5, SV.v (AV.one (CV.sl (Nat.beq (Prod.fst a) 0) 1 1 0 0 (Prod.fst a) (Prod.fst a) false 1)))], [(0, Ob.cells [CV.f (FV.fs nl 5 n fun a => [FV.lit (.int .i64 (Ent.inc (x a))), FV.lit (.int .i64 (Ent.st (x a))), FV.lit (.int .i64 (Ent.stamp (x a))), FV.lit (.int .i64 (Ent.load (x a))), FV.lit (Value.bool (Ent.dr (x a)))])]), (1, Ob.arr (!Nat.beq (Prod.fst a) 0) 1 (Prod.fst a) fun a_1 => [FV.lit (.int .i64 (Prod.snd a a_1))])], 2, false, 0, []⟩)) := by kernel_rfl
def tgB (me : Int) (x : Nat → Ent) (i : Nat) : Bool := ((i : Int) != me) && ((x i).st != 2) && !(x i).dr
def tgF (me : Int) (x : Nat → Ent) (i : Nat) (a : Nat × (Nat → Int)) : Nat × (Nat → Int) := match tgB me x i with | true => (a.1 + 1, fun k => bif Nat.ble (k + 1) a.1 then a.2 k else i) | false => a

theorem round_tg (nl : Bool) (n : Nat) (x : Nat → Ent) (me : Int) (hb : n ≤ 1048576) (hnl : nl = true → n = 0) (i : Nat) (a : Nat × (Nat → Int)) (hi : i < n) (hI : (fun (i : Nat) (a : Nat × (Nat → Int)) => (a.1 ≤ i : Prop)) i a) : ∃ st', (tgt_tg nl n x me i a).res = some (.normal, st') ∧ StLe 1 st' (S_tg nl n x me (i + 1) ((fun (i : Nat) (a : Nat × (Nat → Int)) => (tgF me x i a)) i a)) ∧ (fun (i : Nat) (a : Nat × (Nat → Int)) => (a.1 ≤ i : Prop)) (i + 1) ((fun (i : Nat) (a : Nat × (Nat → Int)) => (tgF me x i a)) i a) := by
  refine T.over_exP (g := fun s => (Ex.normal, s)) (tree_tg nl n x me i a) ?_
  obtain ⟨c, y⟩ := a
  have hI' : c ≤ i := hI
  clear hI
  have e1 : ((i : Int) < (n : Int)) := by omega
  have e2 : (0 : Int) ≤ (i : Int) ∧ (i : Int) < (n : Int) := by omega
  have e3 : IntKind.wrap .i64 ((i : Int) + 1) = ((i + 1 : Nat) : Int) := by rw [wrapI (by omega)]; rfl
  obtain rfl : nl = false := by cases nl <;> simp_all <;> omega
  have e4 : Nat.ble (c + 1) c = false := ble_false (by omega)
  have e5 : smallB (c + 1) 8 = true := smallB_le (by omega) (by omega)
  have e6 : Nat.ble (0 + c) c = true := ble_tt (by omega)
  cases q1 : ((i : Int) != me)
  · have es : tgF me x i (c, y) = (c, y) := by simp only [tgF, tgB, q1, Bool.false_and]
    simp only [es, T.res_br, T.res_ret, T.res_bad, decide_eq_true_eq, e1, e2, e3, q1, Bool.not_false, Bool.false_eq_true, reduceIte, and_self]
    exact ⟨_, rfl, StLe.less (Nat.le_succ 1) (fun t => .inr (.inl rfl)) (fun b => .inl rfl), Nat.le_succ_of_le hI'⟩
  · cases q2 : ((x i).st != 2)
    · have es : tgF me x i (c, y) = (c, y) := by simp only [tgF, tgB, q1, q2, Bool.false_and, Bool.and_false]
      simp only [es, T.res_br, T.res_ret, T.res_bad, decide_eq_true_eq, e1, e2, e3, q1, q2, Bool.not_false, Bool.false_eq_true, reduceIte, and_self]
      exact ⟨_, rfl, StLe.less (Nat.le_succ 1) (fun t => .inr (.inl rfl)) (fun b => .inl rfl), Nat.le_succ_of_le hI'⟩
    · cases q3 : (x i).dr
      · have es : tgF me x i (c, y) = (c + 1, fun k => bif Nat.ble (k + 1) c then y k else i) := by simp only [tgF, tgB, q1, q2, q3, Bool.not_false, Bool.and_self]
        simp only [es, T.res_br, T.res_ret, T.res_bad, decide_eq_true_eq, e1, e2, e3, q1, q2, q3, e4, e5, e6, beq_or, Bool.and_self, Bool.not_false, Bool.false_eq_true, reduceIte, and_self]
        refine ⟨_, rfl, StLe.less (Nat.le_succ 1) (fun t => .inr (.inl rfl)) (fun b => ?_), Nat.succ_le_succ hI'⟩
        rcases b with _ | _ | b
        · exact .inl rfl
        · refine Ob.le.arr fun j hj => ?_
          rcases Nat.lt_or_ge j c with h | h
          · simp only [intE, ble_tt (show j + 1 ≤ c by omega), cond_true, Nat.zero_add]
          · obtain rfl : j = c := by omega
            simp only [intE, ble_false (show ¬ j + 1 ≤ j by omega), cond_false]
        · exact .inl rfl
      · have es : tgF me x i (c, y) = (c, y) := by simp only [tgF, tgB, q1, q2, q3, Bool.not_true, Bool.and_false]
        simp only [es, T.res_br, T.res_ret, T.res_bad, decide_eq_true_eq, e1, e2, e3, q1, q2, q3, Bool.not_false, Bool.not_true, Bool.false_eq_true, reduceIte, and_self]
        exact ⟨_, rfl, StLe.less (Nat.le_succ 1) (fun t => .inr (.inl rfl)) (fun b => .inl rfl), Nat.le_succ_of_le hI'⟩
theorem end_tg (nl : Bool) (n : Nat) (x : Nat → Ent) (me : Int) (hb : n ≤ 1048576) (hnl : nl = true → n = 0) (a : Nat × (Nat → Int)) (hI : (fun (i : Nat) (a : Nat × (Nat → Int)) => (a.1 ≤ i : Prop)) (n) a) : ∃ st', (tgt_tg nl n x me (n) a).res = some (.exit 0, st') ∧ StLe 1 st' (⟨[(0, .v (AI me)), (3, .v (AP 0)), (5, .v (.one (.sl (Nat.beq a.1 0) 1 1 0 0 a.1 a.1 false 1)))], [(0, .cells [.f (.fs nl 5 n (entE x))]), (1, .arr (!(Nat.beq a.1 0)) 1 a.1 (intE a.2))], 2, false, 0, []⟩) := by
  refine T.over_exP (g := fun s => (.exit 0, s)) (tree_tg nl n x me (n) a) ?_
  obtain ⟨c, y⟩ := a
  simp only [T.res_br, T.res_ret, T.res_bad, decide_eq_true_eq, Int.lt_irrefl, reduceIte]
  exact ⟨_, rfl, StLe.refl (Nat.le_succ 1)⟩
theorem loop_tg (nl : Bool) (n : Nat) (x : Nat → Ent) (me : Int) (hb : n ≤ 1048576) (hnl : nl = true → n = 0) (i : Nat) (a : Nat × (Nat → Int)) (hi : i ≤ n) (hI : (fun (i : Nat) (a : Nat × (Nat → Int)) => (a.1 ≤ i : Prop)) i a) {st0 : St} (h0 : StLe 1 st0 (S_tg nl n x me i a)) (hnx : st0.nx = 1) :
    CodeOk Try.prog Try.f16.ntmps (.loop (loopOf Try.f16 5)) st0 (.exit 0) ((fun (a : Nat × (Nat → Int)) => ⟨[(0, .v (AI me)), (3, .v (AP 0)), (5, .v (.one (.sl (Nat.beq a.1 0) 1 1 0 0 a.1 a.1 false 1)))], [(0, .cells [.f (.fs nl 5 n (entE x))]), (1, .arr (!(Nat.beq a.1 0)) 1 a.1 (intE a.2))], 2, false, 0, []⟩) (foldF (fun (i : Nat) (a : Nat × (Nat → Int)) => (tgF me x i a)) (n - i) i a)) := by
  have := for_loop GORI1 GKRI1 (K := 300) (F := 16) (N := Try.f16.ntmps) (c := loopOf Try.f16 5) (m := 1) (live := [0, 3, 5, 16, 17, 18]) (after := [0, 3, 5]) (S_tg nl n x me) (n) (fun (i : Nat) (a : Nat × (Nat → Int)) => .inl (tgF me x i a)) (fun (a : Nat × (Nat → Int)) => (.exit 0, ⟨[(0, .v (AI me)), (3, .v (AP 0)), (5, .v (.one (.sl (Nat.beq a.1 0) 1 1 0 0 a.1 a.1 false 1)))], [(0, .cells [.f (.fs nl 5 n (entE x))]), (1, .arr (!(Nat.beq a.1 0)) 1 a.1 (intE a.2))], 2, false, 0, []⟩)) (fun (i : Nat) (a : Nat × (Nat → Int)) => (a.1 ≤ i : Prop))
    (fun i a hi hI => by obtain ⟨s, h1, h2, h3⟩ := round_tg nl n x me hb hnl i a hi hI; exact ⟨_, s, h1, rfl, h2, h3⟩)
    (fun a hI => by obtain ⟨s, h1, h2⟩ := end_tg nl n x me hb hnl a hI; exact ⟨_, s, h1, by simp, rfl, h2⟩)
    (fun i a => by first | exact Nat.le_refl _ | (show 1 ≤ _; decide) | (simp only [S_tg]; omega)) hi hI h0 hnx
  rw [foldX_inl] at this
  exact this
end Go.Proofs.Ytggneleipimijaa.En
/- insertionSortCmpFunc on a row of numbers, by the load of whom they name. -/
namespace Go.Proofs.Ytggneleipimijaa.En
open Go
set_option linter.unusedVariables false
set_option linter.unusedSimpArgs false
set_option maxRecDepth 20000
set_option maxHeartbeats 1000000
/-- the load of whom it names -/
def ldI (x : Nat → Ent) (a : Int) : Int := (x a.toNat).load
def S_is (nl : Bool) (n : Nat) (x : Nat → Ent) (d N cap : Nat) (i : Nat) (r : Nat) (y : Nat → Int) : St :=
  ⟨[(0, .v (.one (.sl false 0 1 0 0 d cap false 1))), (1, .v (AI 0)), (2, .v (AI d)), (3, .v (.one (.fn 33 [(1, 0, 0, 0)]))), (8, .v (AI i)), (9, .v (AI (i - r : Nat)))], [(0, .arr true 1 N (intE y)), (1, .cells [.f (.fs nl 5 n (entE x))])], 2, false, 0, []⟩

noncomputable def GRJ1 : Ctx := GS.with ss_same ll_tb
noncomputable def tgt_Tg1 (nl : Bool) (n : Nat) (x : Nat → Ent) (a b : Int) : T CallOut := evCallW [] GRJ1 300 33 [AI a, AI b, AP 0] [(0, .cells [.f (.fs nl 5 n (entE x))])] 1
theorem GKRJ1 : KnownOk Try.prog GRJ1 := KnownOk.lists ss_same_ok ll_tb_ok
theorem GORJ1 : CtxOk Try.prog GRJ1 := GS_ok.with _ _
theorem tree_Tg1 (nl : Bool) (n : Nat) (x : Nat → Ent) (a b : Int) : (tgt_Tg1 nl n x a b).over (.br (.br (.br (.br .leaf .skip) .skip) .skip) .skip) = T.br (!nl) (T.br (decide ((0 : Int) ≤ a ∧ a < (↑n : Int))) (T.br (!nl) (T.br (decide ((0 : Int) ≤ b ∧ b < (↑n : Int))) (T.ret ⟨SV.v (AI (cmpI (Ent.load (x (Int.toNat a))) (Ent.load (x (Int.toNat b))))), [(0, Ob.cells [CV.f (FV.fs nl 5 n fun a => [FV.lit (.int .i64 (Ent.inc (x a))), FV.lit (.int .i64 (Ent.st (x a))), FV.lit (.int .i64 (Ent.stamp (x a))), FV.lit (.int .i64 (Ent.load (x a))), FV.lit (Value.bool (Ent.dr (x a)))])])], 1, false, []⟩) T.bad) T.bad) T.bad) T.bad := by kernel_rfl
theorem res_Tg1 (nl : Bool) (n : Nat) (x : Nat → Ent) (a b : Int) (h : (0 ≤ a ∧ a < (n : Int)) ∧ (0 ≤ b ∧ b < (n : Int)) ∧ nl = false) : (tgt_Tg1 nl n x a b).res = some (⟨.v (AI (cmpI (ldI x a) (ldI x b))), [(0, .cells [.f (.fs nl 5 n (entE x))])], 1, false, []⟩) := by
  refine T.over_eq _ (tree_Tg1 nl n x a b) ?_
  simp only [T.res_br, T.res_ret, T.res_bad]
  obtain ⟨h1, h2, rfl⟩ := h
  simp only [decide_eq_true h1, decide_eq_true h2, Bool.not_false, reduceIte, ldI]
noncomputable def F_Tg1 : SumF
  | [.one (.f (.lit (.int .i64 a))), .one (.f (.lit (.int .i64 b))), .one (.ptr 0 0 0 0)], [(0, .cells [.f (.fs nl 5 n e)])], 1 => .need (pb (EntE e ∧ (0 ≤ a ∧ a < (n : Int)) ∧ (0 ≤ b ∧ b < (n : Int)) ∧ nl = false)) (.ret (⟨.v (AI (cmpI (ldI (entOf e) a) (ldI (entOf e) b))), [(0, .cells [.f (.fs nl 5 n e)])], 1, false, []⟩))
  | _, _, _ => .bad
theorem sum_Tg1 : SumOk Try.prog 33 F_Tg1 := by
  refine ⟨fun args H nx r hr => ?_, fun args H nx => ?_⟩
  · unfold F_Tg1 at hr
    split at hr
    · rename_i a b nl n e
      obtain ⟨h0, hr⟩ := T.need_some hr
      have := T.ret_some hr
      subst this
      have h := pb_of h0
      obtain ⟨⟨x, rfl⟩, h1⟩ := h
      exact evCallW_ok GORJ1 GKRJ1 (res_Tg1 nl n x a b h1)
    · exact (T.bad_some hr).elim
  · unfold F_Tg1
    split
    · exact T.Every.need ⟨by first | exact Nat.le_refl _ | (dsimp only; omega), fun b hb hw => by
        have : b = 0 := by omega
        subst this <;> first | rfl | exact absurd (by dsimp only; decide) hw⟩
    · trivial
noncomputable def sm_Tg1 : SumF := canonSum F_Tg1
theorem sm_Tg1_ok : SumOk Try.prog 33 sm_Tg1 := canonSum_ok sum_Tg1
noncomputable def ss_Tg1 : List (Nat × SumF) := (33, sm_Tg1) :: ss_same
theorem ss_Tg1_ok : ∀ x ∈ ss_Tg1, SumOk Try.prog x.1 x.2 := List.forall_mem_cons.2 ⟨sm_Tg1_ok, ss_same_ok⟩
noncomputable def GRJ2 : Ctx := GS.with ss_Tg1 ll_tb
noncomputable def tgt_is (nl : Bool) (n : Nat) (x : Nat → Ent) (d N cap : Nat) (i r : Nat) (y : Nat → Int) : T (Ex × St) := evRound GRJ2 300 57 Try.f57.ntmps (loopOf Try.f57 4) 2 [0, 1, 2, 3, 8, 9] [0, 1, 2, 3, 8] (S_is nl n x d N cap i r y)
theorem GKRJ2 : KnownOk Try.prog GRJ2 := KnownOk.lists ss_Tg1_ok ll_tb_ok
theorem GORJ2 : CtxOk Try.prog GRJ2 := GS_ok.with _ _
theorem tree_is (nl : Bool) (n : Nat) (x : Nat → Ent) (d N cap : Nat) (i r : Nat) (y : Nat → Int) : (tgt_is nl n x d N cap i r y).over (.br (.br (.br (.br (.tt (.br (.br (.tt (.br (.br (.br (.br (.br (.tt (.br (.br (.tt (.br (.br (.br (.br (.br (.br (.tt (.br (.tt (.br (.tt (.br (.tt (.br (.tt (.br (.tt (.br (.tt (.br (.tt (.br .leaf .skip)) .skip)) .skip)) .skip)) .skip)) .skip)) .skip)) .skip)) .leaf) .skip) .skip) .skip) .skip) .skip)) .skip) .skip)) .skip) .skip) .skip) .skip) .skip)) .skip) .skip)) .skip) .skip) .skip) (.br .skip (.br .skip (.br .skip (.br .skip (.br .skip (.br .skip (.br .skip (.br .skip (.br .skip (.br .skip (.br .skip (.br .skip (.ff .leaf)))))))))))))) = T.br (decide ((↑(i - r) : Int) > (0 : Int))) (T.br (decide ((↑(i - r) : Int) > (0 : Int))) (T.br (decide ((↑(i - r) : Int) > (0 : Int))) (T.br (decide ((↑(i - r) : Int) > (0 : Int))) (T.br (decide ((0 : Int) ≤ (↑(i - r) : Int) ∧ (↑(i - r) : Int) < (↑d : Int))) (T.br (decide ((↑(i - r) : Int) > (0 : Int))) (T.br (Nat.ble (0 + (i - r) + 1) N) (T.br (decide ((↑(i - r) : Int) > (0 : Int))) (T.br (decide ((↑(i - r) : Int) > (0 : Int))) (T.br (decide ((↑(i - r) : Int) > (0 : Int))) (T.br (decide ((↑(i - r) : Int) > (0 : Int))) (T.br (decide ((0 : Int) ≤ IntKind.wrap IntKind.i64 ((↑(i - r) : Int) - (1 : Int)) ∧ IntKind.wrap IntKind.i64 ((↑(i - r) : Int) - (1 : Int)) < (↑d : Int))) (T.br (decide ((↑(i - r) : Int) > (0 : Int))) (T.br (Nat.ble (0 + Int.toNat (IntKind.wrap IntKind.i64 ((↑(i - r) : Int) - (1 : Int))) + 1) N) (T.br (decide ((↑(i - r) : Int) > (0 : Int))) (T.br (pb (EntE (entE x) ∧ ((0 : Int) ≤ y (0 + (i - r)) ∧ y (0 + (i - r)) < (↑n : Int)) ∧ ((0 : Int) ≤ y (0 + Int.toNat (IntKind.wrap IntKind.i64 ((↑(i - r) : Int) - (1 : Int)))) ∧ y (0 + Int.toNat (IntKind.wrap IntKind.i64 ((↑(i - r) : Int) - (1 : Int)))) < (↑n : Int)) ∧ nl = false)) (T.br (decide ((↑(i - r) : Int) > (0 : Int))) (T.br (decide ((↑(i - r) : Int) > (0 : Int))) (T.br (decide (cmpI (ldI x (y (0 + (i - r)))) (ldI x (y (0 + Int.toNat (IntKind.wrap IntKind.i64 ((↑(i - r) : Int) - (1 : Int)))))) < (0 : Int))) (T.br (decide ((0 : Int) ≤ IntKind.wrap IntKind.i64 ((↑(i - r) : Int) - (1 : Int)) ∧ IntKind.wrap IntKind.i64 ((↑(i - r) : Int) - (1 : Int)) < (↑d : Int))) (T.br (Nat.ble (0 + Int.toNat (IntKind.wrap IntKind.i64 ((↑(i - r) : Int) - (1 : Int))) + 1) N) (T.br (decide ((0 : Int) ≤ (↑(i - r) : Int) ∧ (↑(i - r) : Int) < (↑d : Int))) (T.br (Nat.ble (0 + (i - r) + 1) N) (T.br (decide ((0 : Int) ≤ (↑(i - r) : Int) ∧ (↑(i - r) : Int) < (↑d : Int))) (T.br (Nat.ble (0 + (i - r) + 1) N) (T.br (decide ((0 : Int) ≤ IntKind.wrap IntKind.i64 ((↑(i - r) : Int) - (1 : Int)) ∧ IntKind.wrap IntKind.i64 ((↑(i - r) : Int) - (1 : Int)) < (↑d : Int))) (T.br (Nat.ble (0 + Int.toNat (IntKind.wrap IntKind.i64 ((↑(i - r) : Int) - (1 : Int))) + 1) N) (T.ret (Ex.normal, ⟨[(0, SV.v (AV.one (CV.sl false 0 1 0 0 d cap false 1))), (1, SV.v (AI (0 : Int))), (2, SV.v (AI (↑d : Int))), (3, SV.v (AV.one (CV.fn 33 [(1, 0, 0, 0)]))), (8, SV.v (AI (↑i : Int))), (9, SV.v (AI (IntKind.wrap IntKind.i64 ((↑(i - r) : Int) - (1 : Int)))))], [(1, Ob.cells [CV.f (FV.fs nl 5 n fun a => [FV.lit (.int .i64 (Ent.inc (x a))), FV.lit (.int .i64 (Ent.st (x a))), FV.lit (.int .i64 (Ent.stamp (x a))), FV.lit (.int .i64 (Ent.load (x a))), FV.lit (Value.bool (Ent.dr (x a)))])]), (0, Ob.arr true 1 N fun i' => [FV.lit (.int .i64 (bif Nat.beq i' (0 + Int.toNat (IntKind.wrap IntKind.i64 ((↑(i - r) : Int) - (1 : Int)))) then y (0 + (i - r)) else bif Nat.beq i' (0 + (i - r)) then y (0 + Int.toNat (IntKind.wrap IntKind.i64 ((↑(i - r) : Int) - (1 : Int)))) else y i'))])], 2, false, 0, []⟩)) T.bad) T.bad) T.bad) T.bad) T.bad) T.bad) T.bad) T.bad) (T.ret (Ex.exit 2, ⟨[(0, SV.v (AV.one (CV.sl false 0 1 0 0 d cap false 1))), (1, SV.v (AI (0 : Int))), (2, SV.v (AI (↑d : Int))), (3, SV.v (AV.one (CV.fn 33 [(1, 0, 0, 0)]))), (8, SV.v (AI (↑i : Int)))], [(1, Ob.cells [CV.f (FV.fs nl 5 n fun a => [FV.lit (.int .i64 (Ent.inc (x a))), FV.lit (.int .i64 (Ent.st (x a))), FV.lit (.int .i64 (Ent.stamp (x a))), FV.lit (.int .i64 (Ent.load (x a))), FV.lit (Value.bool (Ent.dr (x a)))])]), (0, Ob.arr true 1 N fun a => [FV.lit (.int .i64 (y a))])], 2, false, 0, []⟩))) T.bad) T.bad) T.bad) T.bad) T.bad) T.bad) T.bad) T.bad) T.bad) T.bad) T.bad) T.bad) T.bad) T.bad) T.bad) T.bad) T.bad) (T.br (decide ((↑(i - r) : Int) > (0 : Int))) T.bad (T.br (decide ((↑(i - r) : Int) > (0 : Int))) T.bad (T.br (decide ((↑(i - r) : Int) > (0 : Int))) T.bad (T.br (decide ((↑(i - r) : Int) > (0 : Int))) T.bad (T.br (decide ((↑(i - r) : Int) > (0 : Int))) T.bad (T.br (decide ((↑(i - r) : Int) > (0 : Int))) T.bad (T.br (decide ((↑(i - r) : Int) > (0 : Int))) T.bad (T.br (decide ((↑(i - r) : Int) > (0 : Int))) T.bad (T.br (decide ((↑(i - r) : Int) > (0 : Int))) T.bad (T.br (decide ((↑(i - r) : Int) > (0 : Int))) T.bad (T.br (decide ((↑(i - r) : Int) > (0 : Int))) T.bad (T.br (decide ((↑(i - r) : Int) > (0 : Int))) T.bad (T.ret (Ex.exit 2, ⟨[(0, SV.v (AV.one (CV.sl false 0 1 0 0 d cap false 1))), (1, SV.v (AI (0 : Int))), (2, SV.v (AI (↑d : Int))), (3, SV.v (AV.one (CV.fn 33 [(1, 0, 0, 0)]))), (8, SV.v (AI (↑i : Int)))], [(0, Ob.arr true 1 N fun a => [FV.lit (.int .i64 (y a))]), (1, Ob.cells [CV.f (FV.fs nl 5 n fun a => [FV.lit (.int .i64 (Ent.inc (x a))), FV.lit (.int .i64 (Ent.st (x a))), FV.lit (.int .i64 (Ent.stamp (x a))), FV.lit (.int .i64 (Ent.load (x a))), FV.lit (Value.bool (Ent.dr (x a)))])])], 2, false, 0, []⟩)))))))))))))) := by kernel_rfl
/-- two neighbours change places -/
def swI (y : Nat → Int) (j : Nat) : Nat → Int := fun k => bif Nat.beq k (j - 1) then y j else bif Nat.beq k j then y (j - 1) else y k
def lessI (x : Nat → Ent) (a b : Int) : Bool := decide (cmpI (ldI x a) (ldI x b) < 0)
def E_is (nl : Bool) (n : Nat) (x : Nat → Ent) (d N cap i : Nat) (y : Nat → Int) : St :=
  ⟨[(0, .v (.one (.sl false 0 1 0 0 d cap false 1))), (1, .v (AI 0)), (2, .v (AI d)), (3, .v (.one (.fn 33 [(1, 0, 0, 0)]))), (8, .v (AI i))], [(0, .arr true 1 N (intE y)), (1, .cells [.f (.fs nl 5 n (entE x))])], 2, false, 0, []⟩
def insF (nl : Bool) (n : Nat) (x : Nat → Ent) (d N cap i r : Nat) (y : Nat → Int) : (Nat → Int) ⊕ (Ex × St) := match lessI x (y (i - r)) (y (i - r - 1)) with | true => .inl (swI y (i - r)) | false => .inr (.exit 2, E_is nl n x d N cap i y)
/-- one is put where it belongs -/
def insG (x : Nat → Ent) (i : Nat) : Nat → Nat → (Nat → Int) → (Nat → Int)
  | 0, _, y => y
  | c + 1, r, y => match lessI x (y (i - r)) (y (i - r - 1)) with | true => insG x i c (r + 1) (swI y (i - r)) | false => y
theorem foldX_is (nl : Bool) (n : Nat) (x : Nat → Ent) (d N cap i : Nat) : ∀ (c r : Nat) (y : Nat → Int), foldX (insF nl n x d N cap i) (fun y => ((Ex.exit 2, E_is nl n x d N cap i y) : Ex × St)) c r y = (.exit 2, E_is nl n x d N cap i (insG x i c r y))
  | 0, _, _ => rfl
  | c + 1, r, y => by
    simp only [foldX, insF, insG]
    cases lessI x (y (i - r)) (y (i - r - 1))
    · rfl
    · exact foldX_is nl n x d N cap i c (r + 1) _
theorem swI_in {y : Nat → Int} {d n j : Nat} (h : ∀ k, k < d → 0 ≤ y k ∧ y k < (n : Int)) (hj : j < d) : ∀ k, k < d → 0 ≤ swI y j k ∧ swI y j k < (n : Int) := fun k hk => by
  unfold swI
  cases Nat.beq k (j - 1)
  · cases Nat.beq k j
    · exact h k hk
    · exact h (j - 1) (by omega)
  · exact h j hj
theorem loop_is (nl : Bool) (n : Nat) (x : Nat → Ent) (d N cap i : Nat) (hi : i < d) (hd : d ≤ N) (hb : d ≤ 1048576) (hnl : nl = false) (y : Nat → Int) (hy : ∀ k, k < d → 0 ≤ y k ∧ y k < (n : Int)) {st0 : St} (h0 : StLe 2 st0 (S_is nl n x d N cap i 0 y)) (hnx : st0.nx = 2) :
    CodeOk Try.prog Try.f57.ntmps (.loop (loopOf Try.f57 4)) st0 (.exit 2) (E_is nl n x d N cap i (insG x i i 0 y)) := by
  have hf := foldX_is nl n x d N cap i i 0 y
  rw [show (Ex.exit 2) = (foldX (insF nl n x d N cap i) (fun y => ((Ex.exit 2, E_is nl n x d N cap i y) : Ex × St)) i 0 y).1 by rw [hf], show E_is nl n x d N cap i (insG x i i 0 y) = (foldX (insF nl n x d N cap i) (fun y => ((Ex.exit 2, E_is nl n x d N cap i y) : Ex × St)) i 0 y).2 by rw [hf]]
  clear hf
  subst hnl
  refine for_loop GORJ2 GKRJ2 (K := 300) (F := 57) (m := 2) (live := [0, 1, 2, 3, 8, 9]) (after := [0, 1, 2, 3, 8]) (S_is false n x d N cap i) i _ _ (fun _ y => ∀ k, k < d → 0 ≤ y k ∧ y k < (n : Int)) (fun r y hr hI => ?_) (fun y _ => ?_) (fun i a => Nat.le_refl _) (Nat.zero_le _) hy h0 hnx
  · have e1 : ((i - r : Nat) : Int) > 0 := by omega
    have e2 : (0 : Int) ≤ ((i - r : Nat) : Int) ∧ ((i - r : Nat) : Int) < (d : Int) := by omega
    have e3 : IntKind.wrap .i64 (((i - r : Nat) : Int) - 1) = ((i - r - 1 : Nat) : Int) := by rw [wrapI (by omega)]; omega
    have e4 : Nat.ble (i - r + 1) N = true := ble_tt (by omega)
    have e5 : (0 : Int) ≤ ((i - r - 1 : Nat) : Int) ∧ ((i - r - 1 : Nat) : Int) < (d : Int) := by omega
    have e6 : Nat.ble (i - r - 1 + 1) N = true := ble_tt (by omega)
    have e7 := hI (i - r) (by omega)
    have e8 := hI (i - r - 1) (by omega)
    have e9 : EntE (entE x) := EntE_ok x
    have bb : ∀ (p q : Ob) (b : Nat), Heap.get [(1, p), (0, q)] b = Heap.get [(0, q), (1, p)] b := fun p q b => by rcases b with _ | _ | b <;> rfl
    cases hq : lessI x (y (i - r)) (y (i - r - 1)) with
    | true =>
      have hq' := hq
      unfold lessI at hq'
      refine ⟨.normal, ⟨(S_is false n x d N cap i (r + 1) y).sl, [(1, .cells [.f (.fs false 5 n (entE x))]), (0, .arr true 1 N (intE (swI y (i - r))))], 2, false, 0, []⟩, T.over_eq _ (tree_is false n x d N cap i r y) ?_, by simp only [insF, hq]; exact ⟨trivial, StLe.less (Nat.le_refl 2) (fun t => .inr (.inl rfl)) (fun b => .inl (bb _ _ b)), swI_in hI (by omega)⟩⟩
      simp only [T.res_br, T.res_ret, T.res_bad, Nat.zero_add, decide_eq_true e1, decide_eq_true e2, e3, e4, decide_eq_true e5, Int.toNat_natCast, e6, e7, e8, e9, and_self, pb_tt, hq', reduceIte]
      rfl
    | false =>
      have hq' := hq
      unfold lessI at hq'
      refine ⟨.exit 2, ⟨(E_is false n x d N cap i y).sl, [(1, .cells [.f (.fs false 5 n (entE x))]), (0, .arr true 1 N (intE y))], 2, false, 0, []⟩, T.over_eq _ (tree_is false n x d N cap i r y) ?_, by simp only [insF, hq]; exact ⟨by simp, trivial, StLe.less (Nat.le_refl 2) (fun t => .inr (.inl rfl)) (fun b => .inl (bb _ _ b))⟩⟩
      simp only [T.res_br, T.res_ret, T.res_bad, Nat.zero_add, decide_eq_true e1, decide_eq_true e2, e3, e4, decide_eq_true e5, Int.toNat_natCast, e6, e7, e8, e9, and_self, pb_tt, hq', Bool.false_eq_true, reduceIte]
      rfl
  · have e1 : ¬ ((i - i : Nat) : Int) > 0 := by omega
    refine ⟨.exit 2, _, T.over_eq _ (tree_is false n x d N cap i i y) ?_, by simp, rfl, StLe.refl (Nat.le_refl _)⟩
    simp only [T.res_br, T.res_ret, T.res_bad, decide_eq_false e1, Bool.false_eq_true, reduceIte]
    rfl

end Go.Proofs.Ytggneleipimijaa.En
/- insertionSortCmpFunc is known. -/
namespace Go.Proofs.Ytggneleipimijaa.En
open Go
set_option linter.unusedVariables false
set_option linter.unusedSimpArgs false
set_option maxRecDepth 20000
set_option maxHeartbeats 1000000
def InI (y : Nat → Int) (d n : Nat) : Prop := ∀ k, k < d → 0 ≤ y k ∧ y k < (n : Int)
theorem insG_in (x : Nat → Ent) {i d n : Nat} (hi : i < d) : ∀ (c r : Nat) (y : Nat → Int), InI y d n → InI (insG x i c r y) d n
  | 0, _, _, h => h
  | c + 1, r, y, h => by
    simp only [insG]
    cases lessI x (y (i - r)) (y (i - r - 1))
    · exact h
    · exact insG_in x hi c (r + 1) _ (swI_in h (by omega))

noncomputable def L_is : LoopF := mkLoopF [0, 1, 2, 3, 8, 9] (loopOf Try.f57 4) Try.f57.ntmps fun sl H nx => match keyed [0, 1, 2, 3, 8, 9] sl, keyed [0, 1] H with
  | some [.v (.one (.sl false z1 z2 z3 z4 d cap false z5)), .v (.one (.f (.lit (.int .i64 z)))), .v (.one (.f (.lit (.int .i64 q)))), .v (.one (.fn g [(z6, z7, z8, z9)])), .v (.one (.f (.lit (.int .i64 i)))), .v (.one (.f (.lit (.int .i64 j))))], some [.arr true z10 N e, .cells [.f (.fs nl k n e2)]] => onlyB (Nat.beq nx 2 && (Nat.beq z1 0 && (Nat.beq z2 1 && (Nat.beq z3 0 && (Nat.beq z4 0 && (Nat.beq z5 1 && (Nat.beq z6 1 && (Nat.beq z7 0 && (Nat.beq z8 0 && (Nat.beq z9 0 && (Nat.beq z10 1))))))))))) (onlyB (Nat.beq g 33 && Nat.beq k 5) (.need (pb (IntE e ∧ EntE e2 ∧ z = 0 ∧ q = d ∧ 0 ≤ i ∧ i < (d : Int) ∧ j = i ∧ d ≤ N ∧ d ≤ 1048576 ∧ nl = false ∧ InI (intOf e) d n)) (.ret (.exit 2, (St.mk [(0, .v (.one (.sl false 0 1 0 0 d cap false 1))), (1, .v (AI 0)), (2, .v (AI d)), (3, .v (.one (.fn 33 [(1, 0, 0, 0)]))), (8, .v (AI i))] [(0, .arr true 1 N (intE (insG (entOf e2) i.toNat i.toNat 0 (intOf e)))), (1, .cells [.f (.fs nl 5 n e2)])] 2 false 0 []).sl, (St.mk [(0, .v (.one (.sl false 0 1 0 0 d cap false 1))), (1, .v (AI 0)), (2, .v (AI d)), (3, .v (.one (.fn 33 [(1, 0, 0, 0)]))), (8, .v (AI i))] [(0, .arr true 1 N (intE (insG (entOf e2) i.toNat i.toNat 0 (intOf e)))), (1, .cells [.f (.fs nl 5 n e2)])] 2 false 0 []).H, 2, false))))
  | _, _ => .bad
theorem L_is_ok : LoopOk Try.prog L_is := by
  refine mkLoopF_ok fun sl H nx e sl' H' nx' esc' h => ?_
  split at h
  · rename_i z1 z2 z3 z4 d cap z5 z q g z6 z7 z8 z9 i j z10 N e nl k n e2 hsl hH
    have hsl := keyed_eq hsl
    have hH := keyed_eq hH
    subst hsl hH
    have h5 := onlyB_some h
    clear h
    obtain ⟨hck, h⟩ := h5
    simp only [Bool.and_eq_true, nbeq_iff] at hck
    obtain ⟨rfl, rfl, rfl, rfl, rfl, rfl, rfl, rfl, rfl, rfl, rfl⟩ := hck
    have h5 := onlyB_some h
    clear h
    have hw := h5.1
    have h := h5.2
    clear h5
    obtain ⟨hp, hret⟩ := T.need_some h
    have hp := pb_of hp
    have := T.ret_some hret
    simp only [Prod.mk.injEq] at this
    obtain ⟨rfl, rfl, rfl, rfl, rfl⟩ := this
    clear hret h
    obtain ⟨⟨y, rfl⟩, ⟨x, rfl⟩, rfl, rfl, h0, h1, rfl, h2, h3, h4, h5⟩ := hp
    obtain ⟨hw1, hw2⟩ := Bool.and_eq_true_iff.1 hw
    obtain rfl := Nat.eq_of_beq_eq_true hw1
    obtain rfl := Nat.eq_of_beq_eq_true hw2
    obtain ⟨i, rfl⟩ : ∃ i' : Nat, j = i' := ⟨j.toNat, by omega⟩
    exact loop_is nl n x d N cap i (by omega) h2 h3 h4 y h5 (StLe.refl (Nat.le_refl 2)) rfl
  · exact (T.bad_some h).elim
noncomputable def ll_is : List (Nat × Nat × LoopF) := (57, 4, L_is) :: ll_tb
theorem ll_is_ok : ∀ x ∈ ll_is, LoopOk Try.prog x.2.2 := List.forall_mem_cons.2 ⟨L_is_ok, ll_tb_ok⟩
def S_io (nl : Bool) (n : Nat) (x : Nat → Ent) (d N cap : Nat) (r : Nat) (y : Nat → Int) : St := ⟨[(0, .v (.one (.sl false 0 1 0 0 d cap false 1))), (1, .v (AI 0)), (2, .v (AI d)), (3, .v (.one (.fn 33 [(1, 0, 0, 0)]))), (8, .v (AI (r + 1 : Nat)))], [(0, .arr true 1 N (intE y)), (1, .cells [.f (.fs nl 5 n (entE x))])], 2, false, 0, []⟩

noncomputable def GRK1 : Ctx := GS.with ss_Tg1 ll_is
noncomputable def tgt_io (nl : Bool) (n : Nat) (x : Nat → Ent) (d N cap : Nat) (r : Nat) (y : Nat → Int) : T (Ex × St) := evRound GRK1 300 57 Try.f57.ntmps (loopOf Try.f57 1) 2 [0, 1, 2, 3, 8] [] (S_io nl n x d N cap r y)
theorem GKRK1 : KnownOk Try.prog GRK1 := KnownOk.lists ss_Tg1_ok ll_is_ok
theorem GORK1 : CtxOk Try.prog GRK1 := GS_ok.with _ _
theorem tree_io (nl : Bool) (n : Nat) (x : Nat → Ent) (d N cap : Nat) (r : Nat) (y : Nat → Int) : (tgt_io nl n x d N cap r y).over (.br (.br (.br .leaf .skip) .skip) .leaf) = T.br (decide ((↑(r + 1) : Int) < (↑d : Int))) (T.br (pb (Code.loop (loopOf Proofs.Try.f57 4) = Code.loop (loopOf Proofs.Try.f57 4) ∧ 53 = 53)) (T.br (pb (IntE (intE y) ∧ EntE (entE x) ∧ (0 : Int) = (0 : Int) ∧ (↑d : Int) = (↑d : Int) ∧ (0 : Int) ≤ (↑(r + 1) : Int) ∧ (↑(r + 1) : Int) < (↑d : Int) ∧ (↑(r + 1) : Int) = (↑(r + 1) : Int) ∧ d ≤ N ∧ d ≤ 1048576 ∧ nl = false ∧ InI y d n)) (T.ret (Ex.normal, ⟨[(0, SV.v (AV.one (CV.sl false 0 1 0 0 d cap false 1))), (1, SV.v (AI (0 : Int))), (2, SV.v (AI (↑d : Int))), (3, SV.v (AV.one (CV.fn 33 [(1, 0, 0, 0)]))), (8, SV.v (AI (IntKind.wrap IntKind.i64 ((↑(r + 1) : Int) + (1 : Int)))))], [(0, Ob.arr true 1 N fun a => [FV.lit (.int .i64 (insG x (r + 1) (r + 1) 0 y a))]), (1, Ob.cells [CV.f (FV.fs nl 5 n fun a => [FV.lit (.int .i64 (Ent.inc (x a))), FV.lit (.int .i64 (Ent.st (x a))), FV.lit (.int .i64 (Ent.stamp (x a))), FV.lit (.int .i64 (Ent.load (x a))), FV.lit (Value.bool (Ent.dr (x a)))])])], 2, false, 0, [0, 1]⟩)) T.bad) T.bad) (T.ret (Ex.exit 0, ⟨[], [(0, Ob.arr true 1 N fun a => [FV.lit (.int .i64 (y a))]), (1, Ob.cells [CV.f (FV.fs nl 5 n fun a => [FV.lit (.int .i64 (Ent.inc (x a))), FV.lit (.int .i64 (Ent.st (x a))), FV.lit (.int .i64 (Ent.stamp (x a))), FV.lit (.int .i64 (Ent.load (x a))), FV.lit (Value.bool (Ent.dr (x a)))])])], 2, false, 0, []⟩)) := by kernel_rfl
theorem round_io (nl : Bool) (n : Nat) (x : Nat → Ent) (d N cap : Nat) (hd1 : 1 ≤ d) (hd : d ≤ N) (hb : d ≤ 1048576) (hnl : nl = false) (i : Nat) (a : Nat → Int) (hi : i < d - 1) (hI : (fun (i : Nat) (a : Nat → Int) => (InI a d n : Prop)) i a) : ∃ st', (tgt_io nl n x d N cap i a).res = some (.normal, st') ∧ StLe 2 st' (S_io nl n x d N cap (i + 1) ((fun (i : Nat) (a : Nat → Int) => (insG x (i + 1) (i + 1) 0 a)) i a)) ∧ (fun (i : Nat) (a : Nat → Int) => (InI a d n : Prop)) (i + 1) ((fun (i : Nat) (a : Nat → Int) => (insG x (i + 1) (i + 1) 0 a)) i a) := by
  refine T.over_exP (g := fun s => (Ex.normal, s)) (tree_io nl n x d N cap i a) ?_
  have hI' : InI a d n := hI
  clear hI
  have e1 : (((i + 1 : Nat) : Int) < (d : Int)) := by omega
  have e1' : (0 : Int) ≤ ((i + 1 : Nat) : Int) := by omega
  have e3 : IntKind.wrap .i64 (((i + 1 : Nat) : Int) + 1) = ((i + 1 + 1 : Nat) : Int) := by rw [wrapI (by omega)]; rfl
  have e9 : EntE (entE x) := EntE_ok x
  simp only [T.res_br, T.res_ret, T.res_bad, decide_eq_true e1, e1, e1', e3, IntE_ok, e9, hd, hb, hnl, hI', eq_self, and_self, pb_tt, reduceIte]
  exact ⟨_, rfl, StLe.less (Nat.le_refl 2) (fun t => .inr (.inl rfl)) (fun b => .inl rfl), insG_in x (by omega) _ _ _ hI'⟩
theorem end_io (nl : Bool) (n : Nat) (x : Nat → Ent) (d N cap : Nat) (hd1 : 1 ≤ d) (hd : d ≤ N) (hb : d ≤ 1048576) (hnl : nl = false) (a : Nat → Int) (hI : (fun (i : Nat) (a : Nat → Int) => (InI a d n : Prop)) (d - 1) a) : ∃ st', (tgt_io nl n x d N cap (d - 1) a).res = some (.exit 0, st') ∧ StLe 2 st' (⟨[], [(0, .arr true 1 N (intE a)), (1, .cells [.f (.fs nl 5 n (entE x))])], 2, false, 0, []⟩) := by
  refine T.over_exP (g := fun s => (.exit 0, s)) (tree_io nl n x d N cap (d - 1) a) ?_
  have e1 : ¬ (((d - 1 + 1 : Nat) : Int) < (d : Int)) := by omega
  simp only [T.res_br, T.res_ret, T.res_bad, decide_eq_false e1, Bool.false_eq_true, reduceIte]
  exact ⟨_, rfl, StLe.refl (Nat.le_refl 2)⟩
theorem loop_io (nl : Bool) (n : Nat) (x : Nat → Ent) (d N cap : Nat) (hd1 : 1 ≤ d) (hd : d ≤ N) (hb : d ≤ 1048576) (hnl : nl = false) (i : Nat) (a : Nat → Int) (hi : i ≤ d - 1) (hI : (fun (i : Nat) (a : Nat → Int) => (InI a d n : Prop)) i a) {st0 : St} (h0 : StLe 2 st0 (S_io nl n x d N cap i a)) (hnx : st0.nx = 2) :
    CodeOk Try.prog Try.f57.ntmps (.loop (loopOf Try.f57 1)) st0 (.exit 0) ((fun (a : Nat → Int) => ⟨[], [(0, .arr true 1 N (intE a)), (1, .cells [.f (.fs nl 5 n (entE x))])], 2, false, 0, []⟩) (foldF (fun (i : Nat) (a : Nat → Int) => (insG x (i + 1) (i + 1) 0 a)) (d - 1 - i) i a)) := by
  have := for_loop GORK1 GKRK1 (K := 300) (F := 57) (N := Try.f57.ntmps) (c := loopOf Try.f57 1) (m := 2) (live := [0, 1, 2, 3, 8]) (after := []) (S_io nl n x d N cap) (d - 1) (fun (i : Nat) (a : Nat → Int) => .inl (insG x (i + 1) (i + 1) 0 a)) (fun (a : Nat → Int) => (.exit 0, ⟨[], [(0, .arr true 1 N (intE a)), (1, .cells [.f (.fs nl 5 n (entE x))])], 2, false, 0, []⟩)) (fun (i : Nat) (a : Nat → Int) => (InI a d n : Prop))
    (fun i a hi hI => by obtain ⟨s, h1, h2, h3⟩ := round_io nl n x d N cap hd1 hd hb hnl i a hi hI; exact ⟨_, s, h1, rfl, h2, h3⟩)
    (fun a hI => by obtain ⟨s, h1, h2⟩ := end_io nl n x d N cap hd1 hd hb hnl a hI; exact ⟨_, s, h1, by simp, rfl, h2⟩)
    (fun i a => by first | exact Nat.le_refl _ | (show 2 ≤ _; decide) | (simp only [S_io]; omega)) hi hI h0 hnx
  rw [foldX_inl] at this
  exact this
/-- a row, put in order -/
def insA (x : Nat → Ent) (d : Nat) (y : Nat → Int) : Nat → Int := foldF (fun (i : Nat) (a : Nat → Int) => insG x (i + 1) (i + 1) 0 a) (d - 1) 0 y

noncomputable def L_io : LoopF := mkLoopF [0, 1, 2, 3, 8] (loopOf Try.f57 1) Try.f57.ntmps fun sl H nx => match keyed [0, 1, 2, 3, 8] sl, keyed [0, 1] H with
  | some [.v (.one (.sl false z1 z2 z3 z4 d cap false z5)), .v (.one (.f (.lit (.int .i64 z)))), .v (.one (.f (.lit (.int .i64 q)))), .v (.one (.fn g [(z6, z7, z8, z9)])), .v (.one (.f (.lit (.int .i64 i))))], some [.arr true z10 N e, .cells [.f (.fs nl k n e2)]] => onlyB (Nat.beq nx 2 && (Nat.beq z1 0 && (Nat.beq z2 1 && (Nat.beq z3 0 && (Nat.beq z4 0 && (Nat.beq z5 1 && (Nat.beq z6 1 && (Nat.beq z7 0 && (Nat.beq z8 0 && (Nat.beq z9 0 && (Nat.beq z10 1))))))))))) (onlyB (Nat.beq g 33 && Nat.beq k 5) (.need (pb (IntE e ∧ EntE e2 ∧ z = 0 ∧ q = d ∧ i = 1 ∧ 1 ≤ d ∧ d ≤ N ∧ d ≤ 1048576 ∧ nl = false ∧ InI (intOf e) d n)) (.ret (.exit 0, (St.mk [] [(0, .arr true 1 N (intE (insA (entOf e2) d (intOf e)))), (1, .cells [.f (.fs nl 5 n e2)])] 2 false 0 []).sl, (St.mk [] [(0, .arr true 1 N (intE (insA (entOf e2) d (intOf e)))), (1, .cells [.f (.fs nl 5 n e2)])] 2 false 0 []).H, 2, false))))
  | _, _ => .bad
theorem L_io_ok : LoopOk Try.prog L_io := by
  refine mkLoopF_ok fun sl H nx e sl' H' nx' esc' h => ?_
  split at h
  · rename_i z1 z2 z3 z4 d cap z5 z q g z6 z7 z8 z9 i z10 N e nl k n e2 hsl hH
    have hsl := keyed_eq hsl
    have hH := keyed_eq hH
    subst hsl hH
    have h5 := onlyB_some h
    clear h
    obtain ⟨hck, h⟩ := h5
    simp only [Bool.and_eq_true, nbeq_iff] at hck
    obtain ⟨rfl, rfl, rfl, rfl, rfl, rfl, rfl, rfl, rfl, rfl, rfl⟩ := hck
    have h5 := onlyB_some h
    clear h
    have hw := h5.1
    have h := h5.2
    clear h5
    obtain ⟨hp, hret⟩ := T.need_some h
    have hp := pb_of hp
    have := T.ret_some hret
    simp only [Prod.mk.injEq] at this
    obtain ⟨rfl, rfl, rfl, rfl, rfl⟩ := this
    clear hret h
    obtain ⟨⟨y, rfl⟩, ⟨x, rfl⟩, rfl, rfl, rfl, h1, h2, h3, h4, h5⟩ := hp
    obtain ⟨hw1, hw2⟩ := Bool.and_eq_true_iff.1 hw
    obtain rfl := Nat.eq_of_beq_eq_true hw1
    obtain rfl := Nat.eq_of_beq_eq_true hw2
    exact loop_io nl n x d N cap h1 h2 h3 h4 0 y (Nat.zero_le _) h5 (StLe.refl (Nat.le_refl 2)) rfl
  · exact (T.bad_some h).elim
noncomputable def ll_io : List (Nat × Nat × LoopF) := (57, 1, L_io) :: ll_is
theorem ll_io_ok : ∀ x ∈ ll_io, LoopOk Try.prog x.2.2 := List.forall_mem_cons.2 ⟨L_io_ok, ll_is_ok⟩
noncomputable def GRK2 : Ctx := GS.with ss_Tg1 ll_io
noncomputable def tgt_Ins (nl : Bool) (n : Nat) (x : Nat → Ent) (d N cap : Nat) (y : Nat → Int) : T CallOut := evCallW [] GRK2 300 57 [.one (.sl false 0 1 0 0 d cap false 1), AI 0, AI d, .one (.fn 33 [(1, 0, 0, 0)])] [(0, .arr true 1 N (intE y)), (1, .cells [.f (.fs nl 5 n (entE x))])] 2
theorem GKRK2 : KnownOk Try.prog GRK2 := KnownOk.lists ss_Tg1_ok ll_io_ok
theorem GORK2 : CtxOk Try.prog GRK2 := GS_ok.with _ _
theorem tree_Ins (nl : Bool) (n : Nat) (x : Nat → Ent) (d N cap : Nat) (y : Nat → Int) : (tgt_Ins nl n x d N cap y).over (.br (.br .leaf .skip) .skip) = T.br (pb (Code.loop (loopOf Proofs.Try.f57 1) = Code.loop (loopOf Proofs.Try.f57 1) ∧ 53 = 53)) (T.br (pb (IntE (intE y) ∧ EntE (entE x) ∧ (0 : Int) = (0 : Int) ∧ (↑d : Int) = (↑d : Int) ∧ (1 : Int) = (1 : Int) ∧ 1 ≤ d ∧ d ≤ N ∧ d ≤ 1048576 ∧ nl = false ∧ InI y d n)) (T.ret ⟨SV.tup [], [(0, Ob.arr true 1 N fun a => [FV.lit (.int .i64 (insA x d y a))]), (1, Ob.cells [CV.f (FV.fs nl 5 n fun a => [FV.lit (.int .i64 (Ent.inc (x a))), FV.lit (.int .i64 (Ent.st (x a))), FV.lit (.int .i64 (Ent.stamp (x a))), FV.lit (.int .i64 (Ent.load (x a))), FV.lit (Value.bool (Ent.dr (x a)))])])], 2, false, []⟩) T.bad) T.bad := by kernel_rfl
theorem res_Ins (nl : Bool) (n : Nat) (x : Nat → Ent) (d N cap : Nat) (y : Nat → Int) (h : nl = false ∧ 1 ≤ d ∧ d ≤ N ∧ d ≤ 1048576 ∧ InI y d n) : (tgt_Ins nl n x d N cap y).res = some ⟨.tup [], [(0, .arr true 1 N (intE (insA x d y))), (1, .cells [.f (.fs nl 5 n (entE x))])], 2, false, []⟩ := by
  refine T.over_eq _ (tree_Ins nl n x d N cap y) ?_
  obtain ⟨h1, h2, h3, h4, h5⟩ := h
  have e9 : EntE (entE x) := EntE_ok x
  simp only [T.res_br, T.res_ret, T.res_bad, IntE_ok, e9, h1, h2, h3, h4, h5, eq_self, and_self, pb_tt, reduceIte]

noncomputable def F_Ins : SumF
  | [.one (.sl false 0 1 0 0 d cap false 1), .one (.f (.lit (.int .i64 z))), .one (.f (.lit (.int .i64 q))), .one (.fn g [(1, 0, 0, 0)])], [(0, .arr true 1 N e), (1, .cells [.f (.fs nl 5 n e2)])], 2 => .need (pb (IntE e ∧ EntE e2 ∧ z = 0 ∧ q = d ∧ g = 33 ∧ nl = false ∧ 1 ≤ d ∧ d ≤ N ∧ d ≤ 1048576 ∧ InI (intOf e) d n)) (.ret (⟨.tup [], [(0, .arr true 1 N (intE (insA (entOf e2) d (intOf e)))), (1, .cells [.f (.fs nl 5 n e2)])], 2, false, [0]⟩))
  | _, _, _ => .bad
theorem sum_Ins : SumOk Try.prog 57 F_Ins := by
  refine ⟨fun args H nx r hr => ?_, fun args H nx => ?_⟩
  · unfold F_Ins at hr
    split at hr
    · rename_i d cap z q g N e nl n e2
      obtain ⟨h0, hr⟩ := T.need_some hr
      have := T.ret_some hr
      subst this
      have h := pb_of h0
      obtain ⟨⟨y, rfl⟩, ⟨x, rfl⟩, rfl, rfl, rfl, h1⟩ := h
      exact by have h9 := evCallW_ok GORK2 GKRK2 (res_Ins nl n x d N cap y h1); exact h9
    · exact (T.bad_some hr).elim
  · unfold F_Ins
    split
    · exact T.Every.need ⟨by first | exact Nat.le_refl _ | (dsimp only; omega), fun b hb hw => by
        have : b = 0 ∨ b = 1 := by omega
        rcases this with rfl | rfl <;> first | rfl | exact absurd (by dsimp only; decide) hw⟩
    · trivial
noncomputable def sm_Ins : SumF := canonSum F_Ins
theorem sm_Ins_ok : SumOk Try.prog 57 sm_Ins := canonSum_ok sum_Ins
noncomputable def ss_Ins : List (Nat × SumF) := (57, sm_Ins) :: ss_Tg1
theorem ss_Ins_ok : ∀ x ∈ ss_Ins, SumOk Try.prog x.1 x.2 := List.forall_mem_cons.2 ⟨sm_Ins_ok, ss_Tg1_ok⟩
end Go.Proofs.Ytggneleipimijaa.En
/- stableCmpFunc: its loops do not turn. -/
namespace Go.Proofs.Ytggneleipimijaa.En
open Go
set_option linter.unusedVariables false
set_option linter.unusedSimpArgs false
set_option maxRecDepth 20000
set_option maxHeartbeats 1000000
def S_st (nl : Bool) (n : Nat) (x : Nat → Ent) (d N cap : Nat) (y : Nat → Int) (i : Nat) (a : Unit) : St := ⟨[(0, .v (.one (.sl false 0 1 0 0 d cap false 1))), (1, .v (AI d)), (2, .v (.one (.fn 33 [(1, 0, 0, 0)]))), (6, .v (AI 20)), (7, .v (AI 0)), (8, .v (AI 20))], [(0, .arr true 1 N (intE y)), (1, .cells [.f (.fs nl 5 n (entE x))])], 2, false, 0, []⟩
def S_su (nl : Bool) (n : Nat) (x : Nat → Ent) (d N cap : Nat) (y : Nat → Int) (i : Nat) (a : Unit) : St := ⟨[(1, .v (AI d)), (6, .v (AI 20))], [(0, .arr true 1 N (intE y)), (1, .cells [.f (.fs nl 5 n (entE x))])], 2, false, 0, []⟩

noncomputable def GRL1 : Ctx := GS.with ss_Ins ll_tb
noncomputable def tgt_st (nl : Bool) (n : Nat) (x : Nat → Ent) (d N cap : Nat) (y : Nat → Int) (i : Nat) (a : Unit) : T (Ex × St) := evRound GRL1 300 44 Try.f44.ntmps (loopOf Try.f44 2) 2 [0, 1, 2, 6, 7, 8] [0, 1, 2, 6, 7, 8] (S_st nl n x d N cap y i a)
theorem GKRL1 : KnownOk Try.prog GRL1 := KnownOk.lists ss_Ins_ok ll_tb_ok
theorem GORL1 : CtxOk Try.prog GRL1 := GS_ok.with _ _
theorem tree_st (nl : Bool) (n : Nat) (x : Nat → Ent) (d N cap : Nat) (y : Nat → Int) (i : Nat) (a : Unit) : (tgt_st nl n x d N cap y i a).over (.br (.br .leaf .skip) .leaf) = T.br (decide ((20 : Int) ≤ (↑d : Int))) (T.br (pb (IntE (intE y) ∧ EntE (entE x) ∧ (0 : Int) = (0 : Int) ∧ (20 : Int) = (↑d : Int) ∧ 33 = 33 ∧ nl = false ∧ 1 ≤ d ∧ d ≤ N ∧ d ≤ 1048576 ∧ InI y d n)) (T.ret (Ex.normal, ⟨[(0, SV.v (AV.one (CV.sl false 0 1 0 0 d cap false 1))), (1, SV.v (AI (↑d : Int))), (2, SV.v (AV.one (CV.fn 33 [(1, 0, 0, 0)]))), (6, SV.v (AI (20 : Int))), (7, SV.v (AI (20 : Int))), (8, SV.v (AI (40 : Int)))], [(0, Ob.arr true 1 N fun a => [FV.lit (.int .i64 (insA x d y a))]), (1, Ob.cells [CV.f (FV.fs nl 5 n fun a => [FV.lit (.int .i64 (Ent.inc (x a))), FV.lit (.int .i64 (Ent.st (x a))), FV.lit (.int .i64 (Ent.stamp (x a))), FV.lit (.int .i64 (Ent.load (x a))), FV.lit (Value.bool (Ent.dr (x a)))])])], 2, false, 0, []⟩)) T.bad) (T.ret (Ex.exit 0, ⟨[(0, SV.v (AV.one (CV.sl false 0 1 0 0 d cap false 1))), (1, SV.v (AI (↑d : Int))), (2, SV.v (AV.one (CV.fn 33 [(1, 0, 0, 0)]))), (6, SV.v (AI (20 : Int))), (7, SV.v (AI (0 : Int))), (8, SV.v (AI (20 : Int)))], [(0, Ob.arr true 1 N fun a => [FV.lit (.int .i64 (y a))]), (1, Ob.cells [CV.f (FV.fs nl 5 n fun a => [FV.lit (.int .i64 (Ent.inc (x a))), FV.lit (.int .i64 (Ent.st (x a))), FV.lit (.int .i64 (Ent.stamp (x a))), FV.lit (.int .i64 (Ent.load (x a))), FV.lit (Value.bool (Ent.dr (x a)))])])], 2, false, 0, []⟩)) := by kernel_rfl
theorem round_st (nl : Bool) (n : Nat) (x : Nat → Ent) (d N cap : Nat) (y : Nat → Int) (hd : d < 20) (i : Nat) (a : Unit) (hi : i < 0) (hI : (fun (i : Nat) (a : Unit) => (True : Prop)) i a) : ∃ st', (tgt_st nl n x d N cap y i a).res = some (.normal, st') ∧ StLe 2 st' (S_st nl n x d N cap y (i + 1) ((fun (i : Nat) (a : Unit) => (a)) i a)) ∧ (fun (i : Nat) (a : Unit) => (True : Prop)) (i + 1) ((fun (i : Nat) (a : Unit) => (a)) i a) := by
  refine T.over_exP (g := fun s => (Ex.normal, s)) (tree_st nl n x d N cap y i a) ?_
  exact absurd hi (Nat.not_lt_zero i)
theorem end_st (nl : Bool) (n : Nat) (x : Nat → Ent) (d N cap : Nat) (y : Nat → Int) (hd : d < 20) (a : Unit) (hI : (fun (i : Nat) (a : Unit) => (True : Prop)) (0) a) : ∃ st', (tgt_st nl n x d N cap y (0) a).res = some (.exit 0, st') ∧ StLe 2 st' (⟨[(0, .v (.one (.sl false 0 1 0 0 d cap false 1))), (1, .v (AI d)), (2, .v (.one (.fn 33 [(1, 0, 0, 0)]))), (6, .v (AI 20)), (7, .v (AI 0)), (8, .v (AI 20))], [(0, .arr true 1 N (intE y)), (1, .cells [.f (.fs nl 5 n (entE x))])], 2, false, 0, []⟩) := by
  refine T.over_exP (g := fun s => (.exit 0, s)) (tree_st nl n x d N cap y (0) a) ?_
  have e1 : ¬ ((20 : Int) ≤ (d : Int)) := by omega
  simp only [T.res_br, T.res_ret, T.res_bad, decide_eq_false e1, Bool.false_eq_true, reduceIte]
  exact ⟨_, rfl, StLe.refl (Nat.le_refl 2)⟩
theorem loop_st (nl : Bool) (n : Nat) (x : Nat → Ent) (d N cap : Nat) (y : Nat → Int) (hd : d < 20) (i : Nat) (a : Unit) (hi : i ≤ 0) (hI : (fun (i : Nat) (a : Unit) => (True : Prop)) i a) {st0 : St} (h0 : StLe 2 st0 (S_st nl n x d N cap y i a)) (hnx : st0.nx = 2) :
    CodeOk Try.prog Try.f44.ntmps (.loop (loopOf Try.f44 2)) st0 (.exit 0) ((fun (a : Unit) => ⟨[(0, .v (.one (.sl false 0 1 0 0 d cap false 1))), (1, .v (AI d)), (2, .v (.one (.fn 33 [(1, 0, 0, 0)]))), (6, .v (AI 20)), (7, .v (AI 0)), (8, .v (AI 20))], [(0, .arr true 1 N (intE y)), (1, .cells [.f (.fs nl 5 n (entE x))])], 2, false, 0, []⟩) (foldF (fun (i : Nat) (a : Unit) => (a)) (0 - i) i a)) := by
  have := for_loop GORL1 GKRL1 (K := 300) (F := 44) (N := Try.f44.ntmps) (c := loopOf Try.f44 2) (m := 2) (live := [0, 1, 2, 6, 7, 8]) (after := [0, 1, 2, 6, 7, 8]) (S_st nl n x d N cap y) (0) (fun (i : Nat) (a : Unit) => .inl (a)) (fun (a : Unit) => (.exit 0, ⟨[(0, .v (.one (.sl false 0 1 0 0 d cap false 1))), (1, .v (AI d)), (2, .v (.one (.fn 33 [(1, 0, 0, 0)]))), (6, .v (AI 20)), (7, .v (AI 0)), (8, .v (AI 20))], [(0, .arr true 1 N (intE y)), (1, .cells [.f (.fs nl 5 n (entE x))])], 2, false, 0, []⟩)) (fun (i : Nat) (a : Unit) => (True : Prop))
    (fun i a hi hI => by obtain ⟨s, h1, h2, h3⟩ := round_st nl n x d N cap y hd i a hi hI; exact ⟨_, s, h1, rfl, h2, h3⟩)
    (fun a hI => by obtain ⟨s, h1, h2⟩ := end_st nl n x d N cap y hd a hI; exact ⟨_, s, h1, by simp, rfl, h2⟩)
    (fun i a => by first | exact Nat.le_refl _ | (show 2 ≤ _; decide) | (simp only [S_st]; omega)) hi hI h0 hnx
  rw [foldX_inl] at this
  exact this
noncomputable def L_st : LoopF := mkLoopF [0, 1, 2, 6, 7, 8] (loopOf Try.f44 2) Try.f44.ntmps fun sl H nx => match keyed [0, 1, 2, 6, 7, 8] sl, keyed [0, 1] H with
  | some [.v (.one (.sl false z1 z2 z3 z4 d cap false z5)), .v (.one (.f (.lit (.int .i64 q)))), .v (.one (.fn g [(z6, z7, z8, z9)])), .v (.one (.f (.lit (.int .i64 u)))), .v (.one (.f (.lit (.int .i64 v)))), .v (.one (.f (.lit (.int .i64 w))))], some [.arr true z10 N e, .cells [.f (.fs nl k n e2)]] => onlyB (Nat.beq nx 2 && (Nat.beq z1 0 && (Nat.beq z2 1 && (Nat.beq z3 0 && (Nat.beq z4 0 && (Nat.beq z5 1 && (Nat.beq z6 1 && (Nat.beq z7 0 && (Nat.beq z8 0 && (Nat.beq z9 0 && (Nat.beq z10 1))))))))))) (onlyB (Nat.beq g 33 && Nat.beq k 5) (.need (pb (IntE e ∧ EntE e2 ∧ q = d ∧ u = 20 ∧ v = 0 ∧ w = 20 ∧ d < 20)) (.ret (.exit 0, (St.mk [(0, .v (.one (.sl false 0 1 0 0 d cap false 1))), (1, .v (AI d)), (2, .v (.one (.fn 33 [(1, 0, 0, 0)]))), (6, .v (AI 20)), (7, .v (AI 0)), (8, .v (AI 20))] [(0, .arr true 1 N e), (1, .cells [.f (.fs nl 5 n e2)])] 2 false 0 []).sl, (St.mk [(0, .v (.one (.sl false 0 1 0 0 d cap false 1))), (1, .v (AI d)), (2, .v (.one (.fn 33 [(1, 0, 0, 0)]))), (6, .v (AI 20)), (7, .v (AI 0)), (8, .v (AI 20))] [(0, .arr true 1 N e), (1, .cells [.f (.fs nl 5 n e2)])] 2 false 0 []).H, 2, false))))
  | _, _ => .bad
theorem L_st_ok : LoopOk Try.prog L_st := by
  refine mkLoopF_ok fun sl H nx e sl' H' nx' esc' h => ?_
  split at h
  · rename_i z1 z2 z3 z4 d cap z5 q g z6 z7 z8 z9 u v w z10 N e nl k n e2 hsl hH
    have hsl := keyed_eq hsl
    have hH := keyed_eq hH
    subst hsl hH
    have h5 := onlyB_some h
    clear h
    obtain ⟨hck, h⟩ := h5
    simp only [Bool.and_eq_true, nbeq_iff] at hck
    obtain ⟨rfl, rfl, rfl, rfl, rfl, rfl, rfl, rfl, rfl, rfl, rfl⟩ := hck
    have h5 := onlyB_some h
    clear h
    have hw := h5.1
    have h := h5.2
    clear h5
    obtain ⟨hp, hret⟩ := T.need_some h
    have hp := pb_of hp
    have := T.ret_some hret
    simp only [Prod.mk.injEq] at this
    obtain ⟨rfl, rfl, rfl, rfl, rfl⟩ := this
    clear hret h
    obtain ⟨⟨y, rfl⟩, ⟨x, rfl⟩, rfl, rfl, rfl, rfl, h1⟩ := hp
    obtain ⟨hw1, hw2⟩ := Bool.and_eq_true_iff.1 hw
    obtain rfl := Nat.eq_of_beq_eq_true hw1
    obtain rfl := Nat.eq_of_beq_eq_true hw2
    exact loop_st nl n x d N cap y h1 0 () (Nat.zero_le _) trivial (StLe.refl (Nat.le_refl 2)) rfl
  · exact (T.bad_some h).elim
noncomputable def ll_st : List (Nat × Nat × LoopF) := (44, 2, L_st) :: ll_tb
theorem ll_st_ok : ∀ x ∈ ll_st, LoopOk Try.prog x.2.2 := List.forall_mem_cons.2 ⟨L_st_ok, ll_tb_ok⟩
def S_sv (d : Nat) (i : Nat) (a : Unit) : St := ⟨[(1, .v (AI d)), (6, .v (AI 20))], [], 0, false, 0, []⟩

noncomputable def GRL2 : Ctx := GS.with ss_Ins ll_st
noncomputable def tgt_sv (d : Nat) (i : Nat) (a : Unit) : T (Ex × St) := evRound GRL2 6 44 Try.f44.ntmps (loopOf Try.f44 7) 0 [1, 6] [] (S_sv d i a)
theorem GKRL2 : KnownOk Try.prog GRL2 := KnownOk.lists ss_Ins_ok ll_st_ok
theorem GORL2 : CtxOk Try.prog GRL2 := GS_ok.with _ _
theorem tree_sv (d : Nat) (i : Nat) (a : Unit) : (tgt_sv d i a).over (.br .skip .leaf) = T.br (decide ((20 : Int) < (↑d : Int))) T.bad (T.ret (Ex.exit 2, ⟨[], [], 0, false, 0, []⟩)) := by kernel_rfl
theorem round_sv (d : Nat) (hd : d < 20) (i : Nat) (a : Unit) (hi : i < 0) (hI : (fun (i : Nat) (a : Unit) => (True : Prop)) i a) : ∃ st', (tgt_sv d i a).res = some (.normal, st') ∧ StLe 0 st' (S_sv d (i + 1) ((fun (i : Nat) (a : Unit) => (a)) i a)) ∧ (fun (i : Nat) (a : Unit) => (True : Prop)) (i + 1) ((fun (i : Nat) (a : Unit) => (a)) i a) := by
  refine T.over_exP (g := fun s => (Ex.normal, s)) (tree_sv d i a) ?_
  exact absurd hi (Nat.not_lt_zero i)
theorem end_sv (d : Nat) (hd : d < 20) (a : Unit) (hI : (fun (i : Nat) (a : Unit) => (True : Prop)) (0) a) : ∃ st', (tgt_sv d (0) a).res = some (.exit 2, st') ∧ StLe 0 st' (⟨[], [], 0, false, 0, []⟩) := by
  refine T.over_exP (g := fun s => (.exit 2, s)) (tree_sv d (0) a) ?_
  have e1 : ¬ ((20 : Int) < (d : Int)) := by omega
  simp only [T.res_br, T.res_ret, T.res_bad, decide_eq_false e1, Bool.false_eq_true, reduceIte]
  exact ⟨_, rfl, StLe.refl (Nat.le_refl 0)⟩
theorem loop_sv (d : Nat) (hd : d < 20) (i : Nat) (a : Unit) (hi : i ≤ 0) (hI : (fun (i : Nat) (a : Unit) => (True : Prop)) i a) {st0 : St} (h0 : StLe 0 st0 (S_sv d i a)) (hnx : st0.nx = 0) :
    CodeOk Try.prog Try.f44.ntmps (.loop (loopOf Try.f44 7)) st0 (.exit 2) ((fun (a : Unit) => ⟨[], [], 0, false, 0, []⟩) (foldF (fun (i : Nat) (a : Unit) => (a)) (0 - i) i a)) := by
  have := for_loop GORL2 GKRL2 (K := 6) (F := 44) (N := Try.f44.ntmps) (c := loopOf Try.f44 7) (m := 0) (live := [1, 6]) (after := []) (S_sv d) (0) (fun (i : Nat) (a : Unit) => .inl (a)) (fun (a : Unit) => (.exit 2, ⟨[], [], 0, false, 0, []⟩)) (fun (i : Nat) (a : Unit) => (True : Prop))
    (fun i a hi hI => by obtain ⟨s, h1, h2, h3⟩ := round_sv d hd i a hi hI; exact ⟨_, s, h1, rfl, h2, h3⟩)
    (fun a hI => by obtain ⟨s, h1, h2⟩ := end_sv d hd a hI; exact ⟨_, s, h1, by simp, rfl, h2⟩)
    (fun i a => by first | exact Nat.le_refl _ | (show 0 ≤ _; decide) | (simp only [S_sv]; omega)) hi hI h0 hnx
  rw [foldX_inl] at this
  exact this
noncomputable def L_sv : LoopF := mkLoopF [1, 6] (loopOf Try.f44 7) Try.f44.ntmps fun sl H nx => match keyed [1, 6] sl, keyed [] H with
  | some [.v (.one (.f (.lit (.int .i64 q)))), .v (.one (.f (.lit (.int .i64 u))))], some [] => onlyB (Nat.beq nx 0) (onlyB (true) (.need (pb (0 ≤ q ∧ q < 20 ∧ u = 20)) (.ret (.exit 2, (St.mk [] [] 0 false 0 []).sl, (St.mk [] [] 0 false 0 []).H, 0, false))))
  | _, _ => .bad
theorem L_sv_ok : LoopOk Try.prog L_sv := by
  refine mkLoopF_ok fun sl H nx e sl' H' nx' esc' h => ?_
  split at h
  · rename_i q u hsl hH
    have hsl := keyed_eq hsl
    have hH := keyed_eq hH
    subst hsl hH
    have h5 := onlyB_some h
    clear h
    obtain ⟨hck, h⟩ := h5
    simp only [Bool.and_eq_true, nbeq_iff] at hck
    obtain ⟨rfl⟩ := hck
    have h5 := onlyB_some h
    clear h
    have hw := h5.1
    have h := h5.2
    clear h5
    obtain ⟨hp, hret⟩ := T.need_some h
    have hp := pb_of hp
    have := T.ret_some hret
    simp only [Prod.mk.injEq] at this
    obtain ⟨rfl, rfl, rfl, rfl, rfl⟩ := this
    clear hret h
    obtain ⟨h0, h1, rfl⟩ := hp
    obtain ⟨d, rfl⟩ : ∃ d : Nat, q = d := ⟨q.toNat, by omega⟩
    exact loop_sv d (by omega) 0 () (Nat.zero_le _) trivial (StLe.refl (Nat.le_refl 0)) rfl
  · exact (T.bad_some h).elim
noncomputable def ll_sv : List (Nat × Nat × LoopF) := (44, 7, L_sv) :: ll_st
theorem ll_sv_ok : ∀ x ∈ ll_sv, LoopOk Try.prog x.2.2 := List.forall_mem_cons.2 ⟨L_sv_ok, ll_st_ok⟩
noncomputable def GRL3 : Ctx := GS.with ss_Ins ll_sv
noncomputable def tgt_SS (nl : Bool) (n : Nat) (x : Nat → Ent) (d N cap : Nat) (y : Nat → Int) : T CallOut := evCallW [] GRL3 300 32 [.one (.sl false 0 1 0 0 d cap false 1), .one (.fn 33 [(1, 0, 0, 0)])] [(0, .arr true 1 N (intE y)), (1, .cells [.f (.fs nl 5 n (entE x))])] 2
theorem GKRL3 : KnownOk Try.prog GRL3 := KnownOk.lists ss_Ins_ok ll_sv_ok
theorem GORL3 : CtxOk Try.prog GRL3 := GS_ok.with _ _
theorem tree_SS (nl : Bool) (n : Nat) (x : Nat → Ent) (d N cap : Nat) (y : Nat → Int) : (tgt_SS nl n x d N cap y).over (.br (.br (.br (.br (.br .leaf .skip) .skip) .skip) .skip) .skip) = T.br (pb (Code.loop (loopOf Proofs.Try.f44 2) = Code.loop (loopOf Proofs.Try.f44 2) ∧ 63 = 63)) (T.br (pb (IntE (intE y) ∧ EntE (entE x) ∧ (↑d : Int) = (↑d : Int) ∧ (20 : Int) = (20 : Int) ∧ (0 : Int) = (0 : Int) ∧ (20 : Int) = (20 : Int) ∧ d < 20)) (T.br (pb (IntE (intE y) ∧ EntE (entE x) ∧ (0 : Int) = (0 : Int) ∧ (↑d : Int) = (↑d : Int) ∧ 33 = 33 ∧ nl = false ∧ 1 ≤ d ∧ d ≤ N ∧ d ≤ 1048576 ∧ InI y d n)) (T.br (pb (Code.loop (loopOf Proofs.Try.f44 7) = Code.loop (loopOf Proofs.Try.f44 7) ∧ 63 = 63)) (T.br (pb ((0 : Int) ≤ (↑d : Int) ∧ (↑d : Int) < (20 : Int) ∧ (20 : Int) = (20 : Int))) (T.ret ⟨SV.tup [], [(0, Ob.arr true 1 N fun a => [FV.lit (.int .i64 (insA x d y a))]), (1, Ob.cells [CV.f (FV.fs nl 5 n fun a => [FV.lit (.int .i64 (Ent.inc (x a))), FV.lit (.int .i64 (Ent.st (x a))), FV.lit (.int .i64 (Ent.stamp (x a))), FV.lit (.int .i64 (Ent.load (x a))), FV.lit (Value.bool (Ent.dr (x a)))])])], 2, false, []⟩) T.bad) T.bad) T.bad) T.bad) T.bad := by kernel_rfl
theorem res_SS (nl : Bool) (n : Nat) (x : Nat → Ent) (d N cap : Nat) (y : Nat → Int) (h : nl = false ∧ 1 ≤ d ∧ d ≤ N ∧ d < 20 ∧ InI y d n) : (tgt_SS nl n x d N cap y).res = some ⟨.tup [], [(0, .arr true 1 N (intE (insA x d y))), (1, .cells [.f (.fs nl 5 n (entE x))])], 2, false, []⟩ := by
  refine T.over_eq _ (tree_SS nl n x d N cap y) ?_
  obtain ⟨h1, h2, h3, h4, h5⟩ := h
  have e9 : EntE (entE x) := EntE_ok x
  have e1 : d ≤ 1048576 := by omega
  have e2 : (0 : Int) ≤ (d : Int) ∧ (d : Int) < 20 := by omega
  simp only [T.res_br, T.res_ret, T.res_bad, IntE_ok, e9, h1, h2, h3, h4, h5, e1, e2, eq_self, and_self, pb_tt, reduceIte]

noncomputable def F_SS : SumF
  | [.one (.sl false 0 1 0 0 d cap false 1), .one (.fn g [(1, 0, 0, 0)])], [(0, .arr true 1 N e), (1, .cells [.f (.fs nl 5 n e2)])], 2 => .need (pb (IntE e ∧ EntE e2 ∧ g = 33 ∧ nl = false ∧ 1 ≤ d ∧ d ≤ N ∧ d < 20 ∧ InI (intOf e) d n)) (.ret (⟨.tup [], [(0, .arr true 1 N (intE (insA (entOf e2) d (intOf e)))), (1, .cells [.f (.fs nl 5 n e2)])], 2, false, [0]⟩))
  | _, _, _ => .bad
theorem sum_SS : SumOk Try.prog 32 F_SS := by
  refine ⟨fun args H nx r hr => ?_, fun args H nx => ?_⟩
  · unfold F_SS at hr
    split at hr
    · rename_i d cap g N e nl n e2
      obtain ⟨h0, hr⟩ := T.need_some hr
      have := T.ret_some hr
      subst this
      have h := pb_of h0
      obtain ⟨⟨y, rfl⟩, ⟨x, rfl⟩, rfl, h1⟩ := h
      exact by have h9 := evCallW_ok GORL3 GKRL3 (res_SS nl n x d N cap y h1); exact h9
    · exact (T.bad_some hr).elim
  · unfold F_SS
    split
    · exact T.Every.need ⟨by first | exact Nat.le_refl _ | (dsimp only; omega), fun b hb hw => by
        have : b = 0 ∨ b = 1 := by omega
        rcases this with rfl | rfl <;> first | rfl | exact absurd (by dsimp only; decide) hw⟩
    · trivial
noncomputable def sm_SS : SumF := canonSum F_SS
theorem sm_SS_ok : SumOk Try.prog 32 sm_SS := canonSum_ok sum_SS
noncomputable def ss_SS : List (Nat × SumF) := (32, sm_SS) :: ss_Ins
theorem ss_SS_ok : ∀ x ∈ ss_SS, SumOk Try.prog x.1 x.2 := List.forall_mem_cons.2 ⟨sm_SS_ok, ss_Ins_ok⟩
end Go.Proofs.Ytggneleipimijaa.En
