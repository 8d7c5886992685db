/- Texts put together: RQ, RR. -/
import Derived.Test.YtggneleipimijaaG12
/- Both Targets tell the same. -/
namespace Go.Proofs.Ytggneleipimijaa.En
open Go
set_option linter.unusedVariables false
set_option linter.unusedSimpArgs false
set_option maxRecDepth 20000
set_option maxHeartbeats 1000000
def filF (p : Nat → Bool) (i : Nat) (a : Nat × (Nat → Int)) : Nat × (Nat → Int) := match p i with | true => (a.1 + 1, appI a.2 a.1 i) | false => a
def filA (p : Nat → Bool) (n : Nat) : Nat × (Nat → Int) := foldF (filF p) n 0 (0, fun _ => 0)
def insStep (x : Nat → Ent) (p : Nat → Bool) (i : Nat) (a : Nat × (Nat → Int)) : Nat × (Nat → Int) := match p i with | true => (a.1 + 1, insK x (x i).load i a.1 a.1 0 (appI a.2 a.1 i)) | false => a
theorem filA_succ (p : Nat → Bool) (n : Nat) : filA p (n + 1) = filF p n (filA p n) := by
  have := foldF_succ (filF p) n 0 (0, fun _ => 0)
  rwa [Nat.zero_add] at this
theorem tgA_fil (me : Int) (x : Nat → Ent) (n : Nat) : tgA me x n = filA (tgB me x) n := rfl
def Agree (c : Nat) (y z : Nat → Int) : Prop := ∀ j, j < c → y j = z j
theorem insG_congr (x : Nat → Ent) {i c : Nat} (hi : i < c) : ∀ (f r : Nat) (y z : Nat → Int), Agree c y z → Agree c (insG x i f r y) (insG x i f r z)
  | 0, _, _, _, h => h
  | f + 1, r, y, z, h => by
    simp only [insG]
    rw [h (i - r) (by omega), h (i - r - 1) (by omega)]
    cases lessI x (z (i - r)) (z (i - r - 1))
    · exact h
    · refine insG_congr x hi f (r + 1) _ _ fun j hj => ?_
      unfold swI
      rw [h (i - r) (by omega), h (i - r - 1) (by omega), h j hj]
theorem insG_out (x : Nat → Ent) {i : Nat} : ∀ (f r : Nat) (y : Nat → Int) (j : Nat), i < j → insG x i f r y j = y j
  | 0, _, _, _, _ => rfl
  | f + 1, r, y, j, hj => by
    simp only [insG]
    cases lessI x (y (i - r)) (y (i - r - 1))
    · rfl
    · refine (insG_out x f (r + 1) _ j hj).trans ?_
      unfold swI
      rw [beq_ff (show j ≠ i - r - 1 by omega), beq_ff (show j ≠ i - r by omega)]
      rfl
theorem insA_succ (x : Nat → Ent) (c : Nat) (y : Nat → Int) : insA x (c + 1) y = insG x c c 0 (insA x c y) := by
  cases c with
  | zero => rfl
  | succ c =>
    unfold insA
    have := foldF_succ (fun (i : Nat) (a : Nat → Int) => insG x (i + 1) (i + 1) 0 a) c 0 y
    simp only [Nat.zero_add] at this
    exact this
theorem insA_out (x : Nat → Ent) : ∀ (c : Nat) (y : Nat → Int) (j : Nat), c ≤ j → insA x c y j = y j
  | 0, _, _, _ => rfl
  | c + 1, y, j, h => by
    rw [insA_succ, insG_out x _ _ _ j (by omega)]
    exact insA_out x c y j (by omega)
theorem insA_congr (x : Nat → Ent) : ∀ (c : Nat) (y z : Nat → Int), Agree c y z → Agree c (insA x c y) (insA x c z)
  | 0, _, _, h => fun j hj => absurd hj (Nat.not_lt_zero j)
  | c + 1, y, z, h => by
    rw [insA_succ, insA_succ]
    refine insG_congr x (Nat.lt_succ_self c) _ _ _ _ fun j hj => ?_
    rcases Nat.lt_or_ge j c with h1 | h1
    · exact insA_congr x c y z (fun k hk => h k (by omega)) j h1
    · rw [insA_out x c y j h1, insA_out x c z j h1]; exact h j hj
theorem less_gt (x : Nat → Ent) (a b : Int) : lessI x a b = decide (ldI x b > ldI x a) := by
  unfold lessI
  rw [decide_eq_decide]
  unfold cmpI
  split
  · omega
  · split <;> omega
theorem insK_eq (x : Nat → Ent) (k : Int) (c : Nat) : ∀ (f r : Nat) (z : Nat → Int), z (c - r) = k → insG x c f r z = insK x (ldI x k) k c f r z
  | 0, _, _, _ => rfl
  | f + 1, r, z, h => by
    simp only [insG, insK]
    rw [less_gt, h]
    cases decide (ldI x (z (c - r - 1)) > ldI x k)
    · rfl
    · have e : swI z (c - r) = fun p => bif Nat.beq p (c - r - 1) then k else bif Nat.beq p (c - r) then z (c - r - 1) else z p := by
        funext p
        unfold swI
        rw [h]
      dsimp only
      rw [e]
      refine insK_eq x k c f (r + 1) _ ?_
      rw [show c - (r + 1) = c - r - 1 by omega, Nat.beq_refl]
      rfl
theorem ldI_nat (x : Nat → Ent) (i : Nat) : ldI x (i : Int) = (x i).load := by
  unfold ldI
  rw [Int.toNat_natCast]
/-- one after another, or all of them at once -/
theorem ins_fil (x : Nat → Ent) (p : Nat → Bool) : ∀ (n : Nat), (foldF (insStep x p) n 0 (0, fun _ => 0)).1 = (filA p n).1 ∧ Agree (filA p n).1 (foldF (insStep x p) n 0 (0, fun _ => 0)).2 (insA x (filA p n).1 (filA p n).2)
  | 0 => ⟨rfl, fun j hj => absurd hj (Nat.not_lt_zero j)⟩
  | n + 1 => by
    have ih := ins_fil x p n
    have hs := foldF_succ (insStep x p) n 0 (0, fun _ => 0)
    rw [Nat.zero_add] at hs
    rw [hs, filA_succ]
    clear hs
    generalize foldF (insStep x p) n 0 (0, fun _ => 0) = t at ih ⊢
    generalize filA p n = r at ih ⊢
    obtain ⟨h1, h2⟩ := ih
    unfold insStep filF
    cases p n
    · exact ⟨h1, h2⟩
    · obtain ⟨c, y⟩ := t
      obtain ⟨d, z⟩ := r
      dsimp only at h1 h2 ⊢
      subst h1
      refine ⟨rfl, fun j hj => ?_⟩
      have e : appI y c n (c - 0) = (n : Int) := by
        unfold appI
        rw [ble_false (by omega)]; rfl
      rw [← ldI_nat, ← insK_eq x n c c 0 _ e, insA_succ]
      refine insG_congr x (Nat.lt_succ_self c) _ _ _ _ (fun j hj => ?_) j hj
      rcases Nat.lt_or_ge j c with h3 | h3
      · have e1 : appI y c n j = y j := by unfold appI; rw [ble_tt (by omega)]; rfl
        rw [e1, h2 j h3]
        exact insA_congr x c _ _ (fun k hk => by unfold appI; rw [ble_tt (by omega)]; rfl) j h3
      · rw [insA_out x c _ j h3]
        unfold appI
        rw [ble_false (by omega)]; rfl
/-- what a row of indexes holds -/
theorem fil_ok (p : Nat → Bool) : ∀ n, (∀ v : Int, (∃ j, j < (filA p n).1 ∧ (filA p n).2 j = v) ↔ ∃ i : Nat, i < n ∧ p i = true ∧ (i : Int) = v) ∧ (∀ j k, j < k → k < (filA p n).1 → (filA p n).2 j < (filA p n).2 k)
  | 0 => ⟨fun v => ⟨fun ⟨j, hj, _⟩ => absurd hj (Nat.not_lt_zero j), fun ⟨j, hj, _⟩ => absurd hj (Nat.not_lt_zero j)⟩, fun j k _ hk => absurd hk (Nat.not_lt_zero k)⟩
  | n + 1 => by
    have ih := fil_ok p n
    rw [filA_succ]
    generalize filA p n = r at ih ⊢
    obtain ⟨c, y⟩ := r
    unfold filF
    obtain ⟨h1, h2⟩ := ih
    dsimp only at h1 h2
    cases hp : p n
    · refine ⟨fun v => (h1 v).trans ⟨fun ⟨i, a, b, e⟩ => ⟨i, by omega, b, e⟩, fun ⟨i, a, b, e⟩ => ⟨i, ?_, b, e⟩⟩, h2⟩
      rcases Nat.lt_or_ge i n with h | h
      · exact h
      · obtain rfl : i = n := by omega
        rw [hp] at b; cases b
    · dsimp only
      have a1 : ∀ j, j < c → appI y c n j = y j := fun j hj => by unfold appI; rw [ble_tt (by omega)]; rfl
      have a2 : appI y c n c = n := by unfold appI; rw [ble_false (by omega)]; rfl
      refine ⟨fun v => ⟨fun ⟨j, a, e⟩ => ?_, fun ⟨i, a, b, e⟩ => ?_⟩, fun j k hjk hk => ?_⟩
      · rcases Nat.lt_or_ge j c with h | h
        · rw [a1 j h] at e
          obtain ⟨i, a, b, e⟩ := (h1 v).1 ⟨j, h, e⟩
          exact ⟨i, by omega, b, e⟩
        · obtain rfl : j = c := by omega
          rw [a2] at e
          exact ⟨n, by omega, hp, e⟩
      · rcases Nat.lt_or_ge i n with h | h
        · obtain ⟨j, g, e⟩ := (h1 v).2 ⟨i, h, b, e⟩
          exact ⟨j, by omega, by rw [a1 j g]; exact e⟩
        · obtain rfl : i = n := by omega
          exact ⟨c, by omega, by rw [a2]; exact e⟩
      · rw [a1 j (by omega)]
        rcases Nat.lt_or_ge k c with h | h
        · rw [a1 k h]; exact h2 j k hjk h
        · obtain rfl : k = c := by omega
          rw [a2]
          obtain ⟨i, a, _, e⟩ := (h1 _).1 ⟨j, hjk, rfl⟩
          omega
/-- rows that rise, and hold the same, are the same -/
theorem asc_uniq {c d : Nat} {f g : Nat → Int} (hf : ∀ j k, j < k → k < c → f j < f k) (hg : ∀ j k, j < k → k < d → g j < g k) (h : ∀ v : Int, (∃ j, j < c ∧ f j = v) ↔ ∃ j, j < d ∧ g j = v) : c = d ∧ Agree c f g := by
  have key : ∀ j, j < c → j < d → f j = g j := fun j => by
    induction j using Nat.strongRecOn with
    | _ j ih =>
      intro h1 h2
      rcases Int.lt_trichotomy (f j) (g j) with hlt | he | hgt
      · obtain ⟨k, hk, e⟩ := (h _).1 ⟨j, h1, rfl⟩
        rcases Nat.lt_or_ge k j with h3 | h3
        · have := ih k h3 (by omega) hk
          have := hf k j h3 h1
          omega
        · rcases Nat.lt_or_ge j k with h4 | h4
          · have := hg j k h4 hk; omega
          · obtain rfl : k = j := by omega
            omega
      · exact he
      · obtain ⟨k, hk, e⟩ := (h _).2 ⟨j, h2, rfl⟩
        rcases Nat.lt_or_ge k j with h3 | h3
        · have := ih k h3 hk (by omega)
          have := hg k j h3 h2
          omega
        · rcases Nat.lt_or_ge j k with h4 | h4
          · have := hf j k h4 hk; omega
          · obtain rfl : k = j := by omega
            omega
  have hcd : c = d := by
    rcases Nat.lt_trichotomy c d with hlt | he | hgt
    · obtain ⟨k, hk, e⟩ := (h _).2 ⟨c, hlt, rfl⟩
      have := key k hk (by omega)
      have := hg k c hk hlt
      omega
    · exact he
    · obtain ⟨k, hk, e⟩ := (h _).1 ⟨d, hgt, rfl⟩
      have := key k (by omega) hk
      have := hf k d hk hgt
      omega
  subst hcd
  exact ⟨rfl, fun j hj => key j hj hj⟩
/-- who is next hangs on the others alone -/
def SameBut (me : Int) (x : Nat → Int) (n : Nat) (y : Nat → Int) (m : Nat) : Prop := ∀ v : Int, v ≠ me → ((∃ j, j < n ∧ x j = v) ↔ ∃ j, j < m ∧ y j = v)
theorem SameBut.symm {me : Int} {x : Nat → Int} {n : Nat} {y : Nat → Int} {m : Nat} (h : SameBut me x n y m) : SameBut me y m x n := fun v hv => (h v hv).symm
theorem SameBut.least {me : Int} {x : Nat → Int} {n : Nat} {y : Nat → Int} {m : Nat} (h : SameBut me x n y m) {p : Int → Prop} (hp : ∀ v, p v → v ≠ me) {v : Int} (hl : LeastI p x n v) : LeastI p y m v := by
  obtain ⟨⟨j, h1, h2, rfl⟩, h4⟩ := hl
  refine ⟨?_, fun k hk hpk => ?_⟩
  · obtain ⟨k, hk, e⟩ := (h _ (hp _ h2)).1 ⟨j, h1, rfl⟩
    exact ⟨k, hk, by rw [e]; exact h2, e⟩
  · obtain ⟨i, hi, e⟩ := (h _ (hp _ hpk)).2 ⟨k, hk, rfl⟩
    have := h4 i hi (by rw [e]; exact hpk)
    omega
theorem SameBut.most {me : Int} {x : Nat → Int} {n : Nat} {y : Nat → Int} {m : Nat} (h : SameBut me x n y m) {p : Int → Prop} (hp : ∀ v, p v → v ≠ me) {v : Int} (hl : MostI p x n v) : MostI p y m v := by
  obtain ⟨⟨j, h1, h2, rfl⟩, h4⟩ := hl
  refine ⟨?_, fun k hk hpk => ?_⟩
  · obtain ⟨k, hk, e⟩ := (h _ (hp _ h2)).1 ⟨j, h1, rfl⟩
    exact ⟨k, hk, by rw [e]; exact h2, e⟩
  · obtain ⟨i, hi, e⟩ := (h _ (hp _ hpk)).2 ⟨k, hk, rfl⟩
    have := h4 i hi (by rw [e]; exact hpk)
    omega
theorem SameBut.none {me : Int} {x : Nat → Int} {n : Nat} {y : Nat → Int} {m : Nat} (h : SameBut me x n y m) {p : Int → Prop} (hp : ∀ v, p v → v ≠ me) (hl : ∀ j, j < n → ¬ p (x j)) : ∀ j, j < m → ¬ p (y j) := fun j hj hpj => by
  obtain ⟨i, hi, e⟩ := (h _ (hp _ hpj)).2 ⟨j, hj, rfl⟩
  exact hl i hi (by rw [e]; exact hpj)
theorem SameBut.isB {me : Int} {x : Nat → Int} {n : Nat} {y : Nat → Int} {m : Nat} (h : SameBut me x n y m) {v : Int} (hb : IsB me x n v) : IsB me y m v := by
  rcases hb with hb | ⟨hb, hc⟩
  · exact .inl (h.least (fun v hv => by omega) hb)
  · exact .inr ⟨h.none (p := fun v => me < v) (fun v hv => by omega) hb, h.least (fun v hv => hv) hc⟩
theorem SameBut.isA {me : Int} {x : Nat → Int} {n : Nat} {y : Nat → Int} {m : Nat} (h : SameBut me x n y m) {v : Int} (hb : IsA me x n v) : IsA me y m v := by
  rcases hb with hb | ⟨hb, hc⟩
  · exact .inl (h.most (fun v hv => by omega) hb)
  · exact .inr ⟨h.none (p := fun v => v < me) (fun v hv => by omega) hb, h.most (fun v hv => hv) hc⟩
theorem SameBut.nz {me : Int} {x : Nat → Int} {n : Nat} {y : Nat → Int} {m : Nat} (h : SameBut me x n y m) : nzL me x n = nzL me y m ∧ Agree (nzL me x n) (nzE me x n) (nzE me y m) := by
  by_cases h0 : nxD me x n = 0
  · have h1 : nxD me y m = 0 := (nxD_none me y m).2 fun j hj => by
      have := h.none (p := fun v => v ≠ me) (fun v hv => hv) (fun j hj hn => hn ((nxD_none me x n).1 h0 j hj)) j hj
      simpa using this
    exact ⟨by simp only [nzL, h0, h1, reduceIte], fun j hj => by simp only [nzL, h0, reduceIte] at hj; omega⟩
  · have h1 : nxD me y m ≠ 0 := fun h1 => h0 ((nxD_none me x n).2 fun j hj => by
      have := h.symm.none (p := fun v => v ≠ me) (fun v hv => hv) (fun j hj hn => hn ((nxD_none me y m).1 h1 j hj)) j hj
      simpa using this)
    have eb : nxB me x n = nxB me y m := IsB.uniq (h.isB (nxB_ok h0)) (nxB_ok h1)
    have ea : nxA me x n = nxA me y m := IsA.uniq (h.isA (nxA_ok h0)) (nxA_ok h1)
    refine ⟨by simp only [nzL, h0, h1, eb, ea], fun j hj => by simp only [nzE, eb, ea]⟩
theorem nz_asc (me : Int) (x : Nat → Int) (n : Nat) : ∀ j k, j < k → k < nzL me x n → nzE me x n j < nzE me x n k := fun j k hjk hk => by
  unfold nzL at hk
  split at hk
  · omega
  · split at hk
    · omega
    · obtain rfl : j = 0 := by omega
      obtain rfl : k = 1 := by omega
      show min (nxB me x n) (nxA me x n) < max (nxB me x n) (nxA me x n)
      omega
theorem nz_mem {me : Int} {x : Nat → Int} {n : Nat} {j : Nat} (hj : j < nzL me x n) : (∃ i, i < n ∧ x i = nzE me x n j) ∧ nzE me x n j ≠ me := by
  have h0 : nxD me x n ≠ 0 := fun h0 => by simp only [nzL, h0, reduceIte] at hj; omega
  have hb := (nxS_mem me x n (nxB me x n)).1 ⟨nxK me x n % nxD me x n, Nat.mod_lt _ (by omega), rfl⟩
  have ha := (nxS_mem me x n (nxA me x n)).1 ⟨(nxK me x n + nxD me x n - 1) % nxD me x n, Nat.mod_lt _ (by omega), rfl⟩
  have : nzE me x n j = nxB me x n ∨ nzE me x n j = nxA me x n := by
    unfold nzE
    cases Nat.beq j 0 <;> simp only [cond_true, cond_false] <;> omega
  rcases this with e | e <;> rw [e] <;> assumption

noncomputable abbrev rtA (me : Int) (x : Nat → Ent) (n : Nat) : Nat × (Nat → Int) := toA me x n (nzL me (tgA (-1) x n).2 (tgA (-1) x n).1) (nzE me (tgA (-1) x n).2 (tgA (-1) x n).1)
theorem tg_same (me : Int) (x : Nat → Ent) (n : Nat) : SameBut me (tgA (-1) x n).2 (tgA (-1) x n).1 (tgA me x n).2 (tgA me x n).1 := fun v hv => by
  rw [tgA_fil, tgA_fil]
  refine ((fil_ok _ n).1 v).trans (Iff.trans ?_ ((fil_ok _ n).1 v).symm)
  refine ⟨fun ⟨i, a, b, e⟩ => ⟨i, a, ?_, e⟩, fun ⟨i, a, b, e⟩ => ⟨i, a, ?_, e⟩⟩
  · unfold tgB at b ⊢
    simp only [Bool.and_eq_true, bne_iff_ne, ne_eq] at b ⊢
    exact ⟨⟨by omega, b.1.2⟩, b.2⟩
  · unfold tgB at b ⊢
    simp only [Bool.and_eq_true, bne_iff_ne, ne_eq] at b ⊢
    exact ⟨⟨by omega, b.1.2⟩, b.2⟩
theorem rt_ok (me : Int) (x : Nat → Ent) (n : Nat) (h : 0 ≤ me ∧ me < (n : Int)) : (rtA me x n).1 = tzL me x n ∧ Agree (tzL me x n) (rtA me x n).2 (tzE me x n) := by
  have hA : rtA me x n = foldF (insStep x (toB me x (nzL me (tgA (-1) x n).2 (tgA (-1) x n).1) (nzE me (tgA (-1) x n).2 (tgA (-1) x n).1))) n 0 (0, fun _ => 0) := rfl
  have hL : tzL me x n = (tgR me x n).1 := if_pos h
  have hE : tzE me x n = insA x (tgR me x n).1 (tgR me x n).2 := by unfold tzE; rw [hL]
  have h1 := (ins_fil x (toB me x (nzL me (tgA (-1) x n).2 (tgA (-1) x n).1) (nzE me (tgA (-1) x n).2 (tgA (-1) x n).1)) n).1
  have h2 := (ins_fil x (toB me x (nzL me (tgA (-1) x n).2 (tgA (-1) x n).1) (nzE me (tgA (-1) x n).2 (tgA (-1) x n).1)) n).2
  rw [← hA] at h1 h2
  suffices hs : (tgR me x n).1 = (filA (toB me x (nzL me (tgA (-1) x n).2 (tgA (-1) x n).1) (nzE me (tgA (-1) x n).2 (tgA (-1) x n).1)) n).1 ∧ Agree (tgR me x n).1 (tgR me x n).2 (filA (toB me x (nzL me (tgA (-1) x n).2 (tgA (-1) x n).1) (nzE me (tgA (-1) x n).2 (tgA (-1) x n).1)) n).2 by
    rw [hL, hE, h1]
    refine ⟨hs.1.symm, fun j hj => ?_⟩
    rw [h2 j (by rw [← hs.1]; exact hj), hs.1]
    exact (insA_congr x _ _ _ (by rw [← hs.1]; exact hs.2) j (by rw [← hs.1]; exact hj)).symm
  cases hd : (x me.toNat).dr with
  | true =>
    have e : toB me x (nzL me (tgA (-1) x n).2 (tgA (-1) x n).1) (nzE me (tgA (-1) x n).2 (tgA (-1) x n).1) = tgB me x := funext fun i => by
      unfold toB tgB
      rw [hd]
      simp only [Bool.true_or, Bool.and_true, bne, Bool.and_assoc]
    have e2 : tgR me x n = tgA me x n := by unfold tgR; rw [hd]
    rw [e, e2, tgA_fil]
    exact ⟨rfl, fun j hj => rfl⟩
  | false =>
    have e2 : tgR me x n = (nzL me (tgA me x n).2 (tgA me x n).1, nzE me (tgA me x n).2 (tgA me x n).1) := by unfold tgR; rw [hd]
    have hz := (tg_same me x n).nz
    rw [e2]
    have f := fil_ok (toB me x (nzL me (tgA (-1) x n).2 (tgA (-1) x n).1) (nzE me (tgA (-1) x n).2 (tgA (-1) x n).1)) n
    have u := asc_uniq (nz_asc me (tgA (-1) x n).2 (tgA (-1) x n).1) f.2 (fun v => by
      refine Iff.trans ?_ (f.1 v).symm
      refine ⟨fun ⟨j, hj, e⟩ => ?_, fun ⟨i, a, b, e⟩ => ?_⟩
      · obtain ⟨⟨k, hk, e3⟩, hne⟩ := nz_mem hj
        obtain ⟨i, a, b, e4⟩ := ((fil_ok (tgB (-1) x) n).1 v).1 ⟨k, hk, e3.trans e⟩
        refine ⟨i, a, ?_, e4⟩
        have hh : hasB (nzE me (tgA (-1) x n).2 (tgA (-1) x n).1) (nzL me (tgA (-1) x n).2 (tgA (-1) x n).1) i = true := pb_true ⟨j, hj, by rw [e4]; exact e⟩
        unfold toB
        unfold tgB at b
        rw [hh]
        have hi : (i : Int) ≠ me := by rw [e4, ← e]; exact hne
        simp only [Bool.and_eq_true, bne, Bool.not_eq_true', Bool.or_true, Bool.and_true, beq_eq_false_iff_ne] at b ⊢
        exact ⟨hi, b.1.2, b.2⟩
      · unfold toB at b
        rw [hd] at b
        simp only [Bool.and_eq_true, Bool.false_or] at b
        obtain ⟨j, hj, e5⟩ := pb_of b.2.2.2
        exact ⟨j, hj, e5.trans e⟩)
    refine ⟨hz.1.symm.trans u.1, fun j hj => ?_⟩
    rw [← hz.1] at hj
    exact (hz.2 j hj).symm.trans (u.2 j hj)
theorem to_RTz (me : Int) (nl : Bool) (n : Nat) (x : Nat → Ent) (h : (nl = true → n = 0) ∧ n < 20) : CallTo Try.prog 19 [AI me, .one (.f (.fs nl 5 n (entE x)))] [] 0 (out0 (.v (.one (.f (.fs (Nat.beq (tzL me x n) 0) 1 (tzL me x n) (intE (tzE me x n))))))) := by
  obtain ⟨hnl, hn⟩ := h
  by_cases h1 : me < 0
  · refine tz_nil (by unfold tzL; rw [if_neg (by omega)]) (evCallZ_ok GORP3 GKRP3 (T.over_eq _ (tree_RTz me nl n x) ?_))
    simp only [T.res_br, T.res_ret, decide_eq_true h1, reduceIte]
  by_cases h2 : me ≥ (n : Int)
  · refine tz_nil (by unfold tzL; rw [if_neg (by omega)]) (evCallZ_ok GORP3 GKRP3 (T.over_eq _ (tree_RTz me nl n x) ?_))
    simp only [T.res_br, T.res_ret, decide_eq_false h1, decide_eq_true h2, Bool.false_eq_true, reduceIte]
  have h3 : (0 : Int) ≤ me ∧ me < (n : Int) := by omega
  have hf := rt_ok me x n h3
  have a1 := (tgA_ok (-1) x n).1
  have b1 : (Nat.ble (tgA (-1) x n).1 (tgA (-1) x n).1 && (!Nat.beq (tgA (-1) x n).1 0 || Nat.beq (tgA (-1) x n).1 0)) = true := by rw [ble_tt (Nat.le_refl _), Bool.or_comm, beq_or]; rfl
  have b4 : (Nat.ble (rtA me x n).1 (rtA me x n).1 && (!Nat.beq (rtA me x n).1 0 || Nat.beq (rtA me x n).1 0)) = true := by rw [ble_tt (Nat.le_refl _), Bool.or_comm, beq_or]; rfl
  have a3 : (tgA (-1) x n).1 ≤ 1048576 := by omega
  have a5 : n ≤ 1048576 := by omega
  have a6 : n < 1048576 := by omega
  have a7 : (nl = true → n = 0) = True := eq_true hnl
  have a8 : nzL me (tgA (-1) x n).2 (tgA (-1) x n).1 ≤ 1048576 := by
    unfold nzL
    split
    · omega
    · split <;> omega
  have a9 : (nzN me (tgA (-1) x n).2 (tgA (-1) x n).1 = true → nzL me (tgA (-1) x n).2 (tgA (-1) x n).1 = 0) = True := eq_true fun h => by
    have := Nat.eq_of_beq_eq_true h
    simp only [nzL, this, reduceIte]
  have b3 : (Nat.beq (tgA (-1) x n).1 0 = true → (tgA (-1) x n).1 = 0) = True := eq_true Nat.eq_of_beq_eq_true
  have hr : (tgt_RTz me nl n x).res = some (out0 (.v (.one (.f (.fs (Nat.beq (rtA me x n).1 0) 1 (rtA me x n).1 fun a => [.lit (.int .i64 ((rtA me x n).2 a))]))))) := T.over_eq _ (tree_RTz me nl n x) (by
    simp only [T.res_br, T.res_ret, T.res_bad, decide_eq_false h1, decide_eq_false h2, h3, b1, b4, a3, a5, a6, a7, a8, a9, b3, IntE_ok, EntE_ok, eq_self, and_self, pb_tt, Bool.false_eq_true, reduceIte])
  rw [← hf.1]
  refine (evCallZ_ok GORP3 GKRP3 hr).less (Nat.le_refl 0) (.inr (.inr ⟨_, _, rfl, rfl, CV.le.f (FV.le_fs fun i hi => ?_)⟩)) (fun b => .inl rfl) rfl rfl
  rw [hf.2 i (by rw [← hf.1]; exact hi)]

noncomputable def F_RTz : SumF
  | [.one (.f (.lit (.int .i64 me))), .one (.f (.fs nl 5 n e))], [], 0 => .need (pb (EntE e ∧ (nl = true → n = 0) ∧ n < 20)) (.ret (out0 (.v (.one (.f (.fs (Nat.beq (tzL me (entOf e) n) 0) 1 (tzL me (entOf e) n) (intE (tzE me (entOf e) n))))))))
  | _, _, _ => .bad
theorem sum_RTz : SumOk Try.prog 19 F_RTz := by
  refine ⟨fun args H nx r hr => ?_, fun args H nx => ?_⟩
  · unfold F_RTz at hr
    split at hr
    · rename_i me nl n e
      obtain ⟨h0, hr⟩ := T.need_some hr
      have := T.ret_some hr
      subst this
      have h := pb_of h0
      obtain ⟨⟨x, rfl⟩, h1⟩ := h
      exact to_RTz me nl n x h1
    · exact (T.bad_some hr).elim
  · unfold F_RTz
    split
    · exact T.Every.need ⟨Nat.zero_le _, fun b hb hw => absurd hb (Nat.not_lt_zero b)⟩
    · trivial
noncomputable def sm_RTz : SumF := orSum (nilSum 5 ((entE fun _ => default)) (canonSum F_RTz)) (frzSum (nilSum 5 ((entE fun _ => default)) (canonSum F_RTz)))
theorem sm_RTz_ok : SumOk Try.prog 19 sm_RTz := orSum_ok (nilSum_ok (canonSum_ok sum_RTz)) (frzSum_ok (nilSum_ok (canonSum_ok sum_RTz)))
noncomputable def ss_RTz : List (Nat × SumF) := (19, sm_RTz) :: ss_has
theorem ss_RTz_ok : ∀ x ∈ ss_RTz, SumOk Try.prog x.1 x.2 := List.forall_mem_cons.2 ⟨sm_RTz_ok, ss_has_ok⟩
end Go.Proofs.Ytggneleipimijaa.En
/- RingTells. -/
namespace Go.Proofs.Ytggneleipimijaa.En
open Go
set_option linter.unusedVariables false
set_option linter.unusedSimpArgs false
set_option maxRecDepth 20000
set_option maxHeartbeats 1000000
noncomputable def GRR1 : Ctx := GS.with ss_Table ll_tb
noncomputable def tgt_known  : T CallOut := evCallW [] GRR1 300 13 [] [] 0
theorem GKRR1 : KnownOk Try.prog GRR1 := KnownOk.lists ss_Table_ok ll_tb_ok
theorem GORR1 : CtxOk Try.prog GRR1 := GS_ok.with _ _
theorem tree_known  : (tgt_known ).over (.ff (.tt (.ff (.ff (.tt (.tt (.tt (.tt (.tt (.tt (.tt (.ff (.tt (.tt (.tt (.ff (.tt (.tt (.tt (.tt (.tt (.tt (.tt (.tt (.ff (.ff (.tt (.tt (.tt (.tt (.ff (.tt (.tt (.tt (.tt (.ff (.ff (.ff (.tt (.tt (.tt (.tt (.ff (.ff (.tt (.ff (.tt (.ff (.tt (.ff (.tt (.tt (.ff (.tt (.ff (.ff (.ff (.ff (.ff (.ff (.tt (.tt (.tt (.tt (.tt (.tt (.tt (.tt (.ff (.tt (.tt (.tt (.tt (.tt (.tt (.tt (.tt (.tt (.tt (.tt (.ff (.ff (.ff (.ff (.ff (.ff (.ff (.ff (.tt (.ff (.tt (.tt (.tt (.tt (.tt (.tt (.ff (.ff (.tt (.tt (.tt (.tt (.tt (.tt (.tt (.tt (.ff (.tt (.tt (.tt (.ff (.ff (.ff (.ff (.ff (.ff (.ff (.ff (.tt (.ff (.ff (.tt (.ff (.tt (.tt (.ff (.tt (.ff (.ff (.ff (.ff (.ff (.ff (.ff (.ff (.ff (.tt (.ff (.tt (.tt (.tt (.ff (.ff (.ff (.ff (.ff (.ff (.ff (.ff (.ff (.ff (.tt (.tt (.tt (.tt (.tt (.tt (.tt (.tt (.tt (.tt (.ff (.ff (.ff (.tt (.tt (.tt (.ff (.ff (.ff (.ff (.ff (.ff (.ff (.tt (.ff (.tt (.ff (.tt (.tt (.tt (.ff (.tt (.tt (.ff (.ff (.tt (.ff (.ff (.ff (.ff (.tt (.tt (.tt (.tt (.tt (.tt (.tt (.tt (.ff (.tt (.tt (.tt (.tt (.tt (.tt (.tt (.tt (.tt (.tt (.tt (.ff (.ff (.ff (.ff (.ff (.ff (.ff (.ff (.tt (.ff (.ff (.ff (.tt (.tt (.tt (.ff (.tt (.tt (.tt (.tt (.ff (.ff (.tt (.tt (.ff (.tt (.ff (.tt (.tt (.tt (.tt (.tt (.tt (.tt (.ff (.tt (.tt (.tt (.ff (.tt (.tt (.tt (.ff (.tt (.ff (.ff (.tt (.tt (.ff (.tt (.ff (.ff (.tt (.tt (.tt (.tt (.tt (.tt (.ff (.tt (.tt (.tt (.ff (.tt (.tt (.ff (.ff (.tt (.ff (.tt (.ff (.tt (.tt (.ff (.tt (.ff (.ff (.ff (.ff (.ff (.ff (.tt (.tt (.ff (.tt (.ff (.tt (.tt (.tt (.ff (.ff (.ff (.ff (.ff (.ff (.ff (.ff (.tt (.ff (.ff (.ff (.ff (.ff (.ff (.ff (.ff (.ff (.ff (.ff (.tt (.tt (.tt (.ff (.tt (.tt (.tt (.ff (.ff (.ff (.ff (.tt (.tt (.tt (.tt (.tt (.tt (.tt (.tt (.ff (.tt (.tt (.tt (.tt (.tt (.tt (.tt (.tt (.tt (.tt (.tt (.ff (.ff (.ff (.ff (.ff (.ff (.ff (.ff (.tt (.ff (.ff (.ff (.tt (.tt (.tt (.ff (.tt (.tt (.tt (.tt (.tt (.tt (.ff (.tt (.ff (.ff (.tt (.ff (.tt (.ff (.tt (.tt (.ff (.tt (.ff (.tt (.tt (.ff (.tt (.tt (.tt (.ff (.tt (.tt (.tt (.tt (.tt (.tt (.tt (.ff (.ff (.tt (.tt (.tt (.ff (.tt (.ff (.ff (.tt (.tt (.tt (.tt (.tt (.tt (.tt (.ff (.ff (.tt (.ff (.tt (.ff (.tt (.tt (.ff (.tt (.ff (.tt (.tt (.tt (.tt .leaf))))))))))))))))))))))))))))))))))))))))))))))))))))))))))))))))))))))))))))))))))))))))))))))))))))))))))))))))))))))))))))))))))))))))))))))))))))))))))))))))))))))))))))))))))))))))))))))))))))))))))))))))))))))))))))))))))))))))))))))))))))))))))))))))))))))))))))))))))))))))))))))))))))))))))))))))))))))))))))))))))))))))))))))))))))))))))))))))))))))))))))))))))))))))))))))))))))))))))))))))))))))))))))))))))))))))))))))) =
  T.ret (out0 (SV.v (AB true))) := by kernel_rfl
theorem res_known  : (tgt_known ).res = some (out0 (.v (AB true))) := by
  refine T.over_eq _ (tree_known ) ?_
  simp only [T.res_br, T.res_ret, T.res_bad]

noncomputable def F_known : SumF
  | [], [], 0 => .ret (out0 (.v (AB true)))
  | _, _, _ => .bad
theorem sum_known : SumOk Try.prog 13 F_known := by
  refine ⟨fun args H nx r hr => ?_, fun args H nx => ?_⟩
  · unfold F_known at hr
    split at hr
    · have := T.ret_some hr
      subst this
      exact evCallW_ok GORR1 GKRR1 res_known
    · exact (T.bad_some hr).elim
  · unfold F_known
    split
    · exact ⟨Nat.zero_le _, fun b hb hw => absurd hb (Nat.not_lt_zero b)⟩
    · trivial
noncomputable def sm_known : SumF := canonSum F_known
theorem sm_known_ok : SumOk Try.prog 13 sm_known := canonSum_ok sum_known
noncomputable def ss_known : List (Nat × SumF) := (13, sm_known) :: ss_RTz
theorem ss_known_ok : ∀ x ∈ ss_known, SumOk Try.prog x.1 x.2 := List.forall_mem_cons.2 ⟨sm_known_ok, ss_RTz_ok⟩
noncomputable def L_nn : LoopF := mkLoopF [0, 1, 3, 9, 10, 16, 17, 18] (loopOf Try.f5 4) Try.f5.ntmps fun sl H nx => match keyed [0, 1, 3, 9, 10, 16, 17, 18] sl, keyed [] H with
  | some [.v (.one (.f (.lit (.int .i64 me)))), .v (.one (.f (.fs nl1 k1 n1 e1))), .v (.one (.f (.lit (.int .i64 q)))), .v (.one (.f (.fs l2 k2 n2 e2))), .v (.one (.f (.lit (.slice none z1 z2)))), .v (.one (.f (.fs nl k n e))), .v (.one (.f (.lit (.int .i64 m)))), .v (.one (.f (.lit (.int .i64 i))))], some [] => onlyB (Nat.beq nx 0 && (Nat.beq z1 0 && (Nat.beq z2 0))) (onlyB (Nat.beq k 1 && (Nat.beq k1 1 && Nat.beq k2 5)) (.need (pb (nl1 = nl ∧ n1 = n ∧ e1 = e ∧ IntE e ∧ (nl = true → n = 0) ∧ n ≤ 1048576 ∧ m = n ∧ i = 0)) (.ret (.exit 0, (St.mk [(0, .v (AI me)), (1, .v (.one (.f (.fs nl 1 n e)))), (3, .v (AI q)), (9, .v (.one (.f (.fs l2 5 n2 e2)))), (10, .v (.one (.sl (Nat.beq n 0) 0 1 0 0 n n false 1)))] [(0, .arr (!(Nat.beq n 0)) 1 n (intE fun j => intOf e j % 9 - 2))] 1 false 0 []).sl, (St.mk [(0, .v (AI me)), (1, .v (.one (.f (.fs nl 1 n e)))), (3, .v (AI q)), (9, .v (.one (.f (.fs l2 5 n2 e2)))), (10, .v (.one (.sl (Nat.beq n 0) 0 1 0 0 n n false 1)))] [(0, .arr (!(Nat.beq n 0)) 1 n (intE fun j => intOf e j % 9 - 2))] 1 false 0 []).H, 1, false))))
  | _, _ => .bad
theorem L_nn_ok : LoopOk Try.prog L_nn := by
  refine mkLoopF_ok fun sl H nx e sl' H' nx' esc' h => ?_
  split at h
  · rename_i me nl1 k1 n1 e1 q l2 k2 n2 e2 z1 z2 nl k n e m i hsl hH
    have hsl := keyed_eq hsl
    have hH := keyed_eq hH
    subst hsl hH
    have h5 := onlyB_some h
    clear h
    obtain ⟨hck, h⟩ := h5
    simp only [Bool.and_eq_true, nbeq_iff] at hck
    obtain ⟨rfl, rfl, rfl⟩ := hck
    have h5 := onlyB_some h
    clear h
    have hw := h5.1
    have h := h5.2
    clear h5
    obtain ⟨hp, hret⟩ := T.need_some h
    have hp := pb_of hp
    have := T.ret_some hret
    simp only [Prod.mk.injEq] at this
    obtain ⟨rfl, rfl, rfl, rfl, rfl⟩ := this
    clear hret h
    obtain ⟨rfl, rfl, rfl, ⟨x, rfl⟩, h1, h2, rfl, rfl⟩ := hp
    obtain ⟨hw1, hw⟩ := Bool.and_eq_true_iff.1 hw
    obtain ⟨hw2, hw3⟩ := Bool.and_eq_true_iff.1 hw
    obtain rfl := Nat.eq_of_beq_eq_true hw1
    obtain rfl := Nat.eq_of_beq_eq_true hw2
    obtain rfl := Nat.eq_of_beq_eq_true hw3
    refine loop_nn nl1 n1 x me q l2 n2 e2 h2 h1 0 () (Nat.zero_le _) trivial (StLe.row (Nat.le_refl 0) (fun t => ?_) (fun b hb => ?_) (fun h => by cases h)) rfl
    · by_cases h5 : 10 = t
      · subst h5
        exact .inr (.inr ⟨rfl, _, _, _, rfl⟩)
      · left
        simp only [S_nn, List.zip_cons_cons, List.zip_nil_right, Slots.get_cons, h5, if_false]
        rfl
    · rcases b with _ | b
      · exact absurd rfl hb
      · rfl
  · exact (T.bad_some h).elim
noncomputable def ll_nn : List (Nat × Nat × LoopF) := (5, 4, L_nn) :: ll_ot
theorem ll_nn_ok : ∀ x ∈ ll_nn, LoopOk Try.prog x.2.2 := List.forall_mem_cons.2 ⟨L_nn_ok, ll_ot_ok⟩
noncomputable def ss_Nz2 : List (Nat × SumF) := (14, sm_Nz) :: ss_known
theorem ss_Nz2_ok : ∀ x ∈ ss_Nz2, SumOk Try.prog x.1 x.2 := List.forall_mem_cons.2 ⟨sm_Nz_ok, ss_known_ok⟩

noncomputable def GRR2 : Ctx := GS.withP ss_Nz2 ll_nn [(5, 8, [10])]
noncomputable def tgt_RTells (me : Int) (nl : Bool) (n : Nat) (l : Nat → Int) (nl2 : Bool) (n2 : Nat) (x : Nat → Ent) (k : Int) : T CallOut := evCallW [] GRR2 300 5 [AI me, .one (.f (.fs nl 1 n (intE l))), .one (.f (.fs nl2 5 n2 (entE x))), AI k] [] 0
theorem GKRR2 : KnownOk Try.prog GRR2 := KnownOk.listsP ss_Nz2_ok ll_nn_ok
theorem GORR2 : CtxOk Try.prog GRR2 := GS_ok.withP _ _ _
theorem tree_RTells (me : Int) (nl : Bool) (n : Nat) (l : Nat → Int) (nl2 : Bool) (n2 : Nat) (x : Nat → Ent) (k : Int) : (tgt_RTells me nl n l nl2 n2 x k).over (.br (.br (.br (.br (.tt (.tt (.tt (.tt (.tt (.br (.tt (.tt (.tt (.br (.tt (.br (.tt (.tt (.tt (.tt (.br (.tt (.tt (.tt (.br (.tt (.br (.tt (.tt (.tt (.tt (.br (.tt (.tt (.tt (.br (.tt (.br (.tt .leaf) .skip)) .skip)))) .skip))))) .skip)) .skip)))) .skip))))) .skip)) .skip)))) .skip)))))) .skip) .skip) .skip) .skip) =
  T.br (pb (EntL nl2 n2 (entE x) ∧ (0 : Int) ≤ (7 : Int) ∧ (7 : Int) ≤ (1000 : Int))) (T.br (pb (loopOf Proofs.Try.f5 (4 : Nat) = loopOf Proofs.Try.f5 (4 : Nat) ∧ (63 : Nat) = (63 : Nat))) (T.br (pb (nl = nl ∧ n = n ∧ intE l = intE l ∧ IntE (intE l) ∧ (nl = true → n = (0 : Nat)) ∧ n ≤ (1048576 : Nat) ∧ (↑n : Int) = (↑n : Int) ∧ (0 : Int) = (0 : Int))) (T.br (Nat.ble n n && (!Nat.beq n (0 : Nat) || Nat.beq n (0 : Nat))) (T.br (pb (IntE (intE fun j => intOf (intE l) j % (9 : Int) - (2 : Int)) ∧ (Nat.beq n (0 : Nat) = true → n = (0 : Nat)) ∧ n ≤ (1048576 : Nat))) (T.br (pb (IntE (intE fun j => intOf (intE l) j % (9 : Int) - (2 : Int)) ∧ (Nat.beq n (0 : Nat) = true → n = (0 : Nat)) ∧ n ≤ (1048576 : Nat))) (T.br (pb (IntE (intE (nzE (IntKind.wrap IntKind.i64 (me % (11 : Int) - (3 : Int))) (fun j => intOf (intE l) j % (9 : Int) - (2 : Int)) n)) ∧ intE (nzE (IntKind.wrap IntKind.i64 (me % (11 : Int) - (3 : Int))) (fun j => intOf (intE l) j % (9 : Int) - (2 : Int)) n) = intE (nzE (IntKind.wrap IntKind.i64 (me % (11 : Int) - (3 : Int))) (fun j => intOf (intE l) j % (9 : Int) - (2 : Int)) n) ∧ nzL (IntKind.wrap IntKind.i64 (me % (11 : Int) - (3 : Int))) (fun j => intOf (intE l) j % (9 : Int) - (2 : Int)) n = nzL (IntKind.wrap IntKind.i64 (me % (11 : Int) - (3 : Int))) (fun j => intOf (intE l) j % (9 : Int) - (2 : Int)) n ∧ (nzN (IntKind.wrap IntKind.i64 (me % (11 : Int) - (3 : Int))) (fun j => intOf (intE l) j % (9 : Int) - (2 : Int)) n = true → nzL (IntKind.wrap IntKind.i64 (me % (11 : Int) - (3 : Int))) (fun j => intOf (intE l) j % (9 : Int) - (2 : Int)) n = (0 : Nat)) ∧ (nzN (IntKind.wrap IntKind.i64 (me % (11 : Int) - (3 : Int))) (fun j => intOf (intE l) j % (9 : Int) - (2 : Int)) n = true → nzL (IntKind.wrap IntKind.i64 (me % (11 : Int) - (3 : Int))) (fun j => intOf (intE l) j % (9 : Int) - (2 : Int)) n = (0 : Nat)) ∧ nzL (IntKind.wrap IntKind.i64 (me % (11 : Int) - (3 : Int))) (fun j => intOf (intE l) j % (9 : Int) - (2 : Int)) n ≤ (1048576 : Nat))) (T.br (pb (IntE (intE l) ∧ (nl = true → n = (0 : Nat)) ∧ n ≤ (1048576 : Nat))) (T.br (pb (IntE (intE l) ∧ (nl = true → n = (0 : Nat)) ∧ n ≤ (1048576 : Nat))) (T.br (pb (IntE (intE (nzE me l n)) ∧ intE (nzE me l n) = intE (nzE me l n) ∧ nzL me l n = nzL me l n ∧ (nzN me l n = true → nzL me l n = (0 : Nat)) ∧ (nzN me l n = true → nzL me l n = (0 : Nat)) ∧ nzL me l n ≤ (1048576 : Nat))) (T.br (pb (EntE (entE fun j => entR (entOf (entE x) j)) ∧ (Nat.beq (min n2 (7 : Nat)) (0 : Nat) = true → min n2 (7 : Nat) = (0 : Nat)) ∧ min n2 (7 : Nat) < (20 : Nat))) (T.br (pb (EntE (entE fun j => entR (entOf (entE x) j)) ∧ (Nat.beq (min n2 (7 : Nat)) (0 : Nat) = true → min n2 (7 : Nat) = (0 : Nat)) ∧ min n2 (7 : Nat) < (20 : Nat))) (T.br (pb (IntE (intE (tzE (IntKind.wrap IntKind.i64 (k % (9 : Int) - (1 : Int))) (fun j => entR (entOf (entE x) j)) (min n2 (7 : Nat)))) ∧ intE (tzE (IntKind.wrap IntKind.i64 (k % (9 : Int) - (1 : Int))) (fun j => entR (entOf (entE x) j)) (min n2 (7 : Nat))) = intE (tzE (IntKind.wrap IntKind.i64 (k % (9 : Int) - (1 : Int))) (fun j => entR (entOf (entE x) j)) (min n2 (7 : Nat))) ∧ tzL (IntKind.wrap IntKind.i64 (k % (9 : Int) - (1 : Int))) (fun j => entR (entOf (entE x) j)) (min n2 (7 : Nat)) = tzL (IntKind.wrap IntKind.i64 (k % (9 : Int) - (1 : Int))) (fun j => entR (entOf (entE x) j)) (min n2 (7 : Nat)) ∧ (Nat.beq (tzL (IntKind.wrap IntKind.i64 (k % (9 : Int) - (1 : Int))) (fun j => entR (entOf (entE x) j)) (min n2 (7 : Nat))) (0 : Nat) = true → tzL (IntKind.wrap IntKind.i64 (k % (9 : Int) - (1 : Int))) (fun j => entR (entOf (entE x) j)) (min n2 (7 : Nat)) = (0 : Nat)) ∧ (Nat.beq (tzL (IntKind.wrap IntKind.i64 (k % (9 : Int) - (1 : Int))) (fun j => entR (entOf (entE x) j)) (min n2 (7 : Nat))) (0 : Nat) = true → tzL (IntKind.wrap IntKind.i64 (k % (9 : Int) - (1 : Int))) (fun j => entR (entOf (entE x) j)) (min n2 (7 : Nat)) = (0 : Nat)) ∧ tzL (IntKind.wrap IntKind.i64 (k % (9 : Int) - (1 : Int))) (fun j => entR (entOf (entE x) j)) (min n2 (7 : Nat)) ≤ (1048576 : Nat))) (T.ret (out0 (SV.v (AB true)))) T.bad) T.bad) T.bad) T.bad) T.bad) T.bad) T.bad) T.bad) T.bad) T.bad) T.bad) T.bad) T.bad := by kernel_rfl
theorem nz_nil (me : Int) (x : Nat → Int) (n : Nat) : nzN me x n = true → nzL me x n = 0 := fun h => by
  have := Nat.eq_of_beq_eq_true h
  simp only [nzL, this, reduceIte]
theorem nz_two (me : Int) (x : Nat → Int) (n : Nat) : nzL me x n ≤ 2 := by
  unfold nzL
  split
  · omega
  · split <;> omega
theorem insA_len : True := trivial
theorem tz_nil0 (me : Int) (x : Nat → Ent) (n : Nat) : Nat.beq (tzL me x n) 0 = true → tzL me x n = 0 := Nat.eq_of_beq_eq_true
theorem tz_le (me : Int) (x : Nat → Ent) (n : Nat) : tzL me x n ≤ n + 2 := by
  unfold tzL
  split
  · unfold tgR
    cases (x me.toNat).dr
    · have := nz_two me (tgA me x n).2 (tgA me x n).1
      dsimp only; omega
    · have := (tgA_ok me x n).1
      dsimp only; omega
  · omega
theorem res_RTells (me : Int) (nl : Bool) (n : Nat) (l : Nat → Int) (nl2 : Bool) (n2 : Nat) (x : Nat → Ent) (k : Int) (h1 : nl = true → n = 0) (h2 : n ≤ 1048576) (h3 : LnOk nl2 n2) : (tgt_RTells me nl n l nl2 n2 x k).res = some (out0 (.v (AB true))) := by
  refine T.over_eq _ (tree_RTells me nl n l nl2 n2 x k) ?_
  have a1 : EntL nl2 n2 (entE x) := ⟨entN _ _, h3⟩
  have a2 : (nl = true → n = 0) = True := eq_true h1
  have a3 : (Nat.beq n 0 = true → n = 0) = True := eq_true Nat.eq_of_beq_eq_true
  have a4 : (Nat.ble n n && (!Nat.beq n 0 || Nat.beq n 0)) = true := by rw [ble_tt (Nat.le_refl _), Bool.or_comm, beq_or]; rfl
  have a5 : ∀ me x n, (nzN me x n = true → nzL me x n = 0) = True := fun me x n => eq_true (nz_nil me x n)
  have a6 : ∀ me x n, (Nat.beq (tzL me x n) 0 = true → tzL me x n = 0) = True := fun me x n => eq_true (tz_nil0 me x n)
  have a7 : ∀ me x n, nzL me x n ≤ 1048576 := fun me x n => by have := nz_two me x n; omega
  have a8 : (Nat.beq (min n2 7) 0 = true → min n2 7 = 0) = True := eq_true Nat.eq_of_beq_eq_true
  have a9 : min n2 7 < 20 := by omega
  have b1 : ∀ me x, tzL me x (min n2 7) ≤ 1048576 := fun me x => by have := tz_le me x (min n2 7); omega
  have b2 : (0 : Int) ≤ 7 ∧ (7 : Int) ≤ 1000 := by decide
  simp only [T.res_br, T.res_ret, T.res_bad, a1, a2, a3, a4, a5, a6, a7, a8, a9, b1, b2, h2, IntE_ok, EntE_ok, eq_self, and_self, pb_tt, reduceIte]

end Go.Proofs.Ytggneleipimijaa.En
