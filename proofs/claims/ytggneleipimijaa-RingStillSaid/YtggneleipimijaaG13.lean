/- Texts put together: RQ, RS. -/
import Derived.Test.YtggneleipimijaaG12
/- Both Targets tell the same. -/
namespace Go.Proofs.Ytggneleipimijaa.En
open Go
set_option linter.unusedVariables false
set_option linter.unusedSimpArgs false
set_option maxRecDepth 20000
set_option maxHeartbeats 1000000
def filF (p : Nat → Bool) (i : Nat) (a : Nat × (Nat → Int)) : Nat × (Nat → Int) := match p i with | true => (a.1 + 1, appI a.2 a.1 i) | false => a
def filA (p : Nat → Bool) (n : Nat) : Nat × (Nat → Int) := foldF (filF p) n 0 (0, fun _ => 0)
def insStep (x : Nat → Ent) (p : Nat → Bool) (i : Nat) (a : Nat × (Nat → Int)) : Nat × (Nat → Int) := match p i with | true => (a.1 + 1, insK x (x i).load i a.1 a.1 0 (appI a.2 a.1 i)) | false => a
theorem filA_succ (p : Nat → Bool) (n : Nat) : filA p (n + 1) = filF p n (filA p n) := by
  have := foldF_succ (filF p) n 0 (0, fun _ => 0)
  rwa [Nat.zero_add] at this
theorem tgA_fil (me : Int) (x : Nat → Ent) (n : Nat) : tgA me x n = filA (tgB me x) n := rfl
def Agree (c : Nat) (y z : Nat → Int) : Prop := ∀ j, j < c → y j = z j
theorem insG_congr (x : Nat → Ent) {i c : Nat} (hi : i < c) : ∀ (f r : Nat) (y z : Nat → Int), Agree c y z → Agree c (insG x i f r y) (insG x i f r z)
  | 0, _, _, _, h => h
  | f + 1, r, y, z, h => by
    simp only [insG]
    rw [h (i - r) (by omega), h (i - r - 1) (by omega)]
    cases lessI x (z (i - r)) (z (i - r - 1))
    · exact h
    · refine insG_congr x hi f (r + 1) _ _ fun j hj => ?_
      unfold swI
      rw [h (i - r) (by omega), h (i - r - 1) (by omega), h j hj]
theorem insG_out (x : Nat → Ent) {i : Nat} : ∀ (f r : Nat) (y : Nat → Int) (j : Nat), i < j → insG x i f r y j = y j
  | 0, _, _, _, _ => rfl
  | f + 1, r, y, j, hj => by
    simp only [insG]
    cases lessI x (y (i - r)) (y (i - r - 1))
    · rfl
    · refine (insG_out x f (r + 1) _ j hj).trans ?_
      unfold swI
      rw [beq_ff (show j ≠ i - r - 1 by omega), beq_ff (show j ≠ i - r by omega)]
      rfl
theorem insA_succ (x : Nat → Ent) (c : Nat) (y : Nat → Int) : insA x (c + 1) y = insG x c c 0 (insA x c y) := by
  cases c with
  | zero => rfl
  | succ c =>
    unfold insA
    have := foldF_succ (fun (i : Nat) (a : Nat → Int) => insG x (i + 1) (i + 1) 0 a) c 0 y
    simp only [Nat.zero_add] at this
    exact this
theorem insA_out (x : Nat → Ent) : ∀ (c : Nat) (y : Nat → Int) (j : Nat), c ≤ j → insA x c y j = y j
  | 0, _, _, _ => rfl
  | c + 1, y, j, h => by
    rw [insA_succ, insG_out x _ _ _ j (by omega)]
    exact insA_out x c y j (by omega)
theorem insA_congr (x : Nat → Ent) : ∀ (c : Nat) (y z : Nat → Int), Agree c y z → Agree c (insA x c y) (insA x c z)
  | 0, _, _, h => fun j hj => absurd hj (Nat.not_lt_zero j)
  | c + 1, y, z, h => by
    rw [insA_succ, insA_succ]
    refine insG_congr x (Nat.lt_succ_self c) _ _ _ _ fun j hj => ?_
    rcases Nat.lt_or_ge j c with h1 | h1
    · exact insA_congr x c y z (fun k hk => h k (by omega)) j h1
    · rw [insA_out x c y j h1, insA_out x c z j h1]; exact h j hj
theorem less_gt (x : Nat → Ent) (a b : Int) : lessI x a b = decide (ldI x b > ldI x a) := by
  unfold lessI
  rw [decide_eq_decide]
  unfold cmpI
  split
  · omega
  · split <;> omega
theorem insK_eq (x : Nat → Ent) (k : Int) (c : Nat) : ∀ (f r : Nat) (z : Nat → Int), z (c - r) = k → insG x c f r z = insK x (ldI x k) k c f r z
  | 0, _, _, _ => rfl
  | f + 1, r, z, h => by
    simp only [insG, insK]
    rw [less_gt, h]
    cases decide (ldI x (z (c - r - 1)) > ldI x k)
    · rfl
    · have e : swI z (c - r) = fun p => bif Nat.beq p (c - r - 1) then k else bif Nat.beq p (c - r) then z (c - r - 1) else z p := by
        funext p
        unfold swI
        rw [h]
      dsimp only
      rw [e]
      refine insK_eq x k c f (r + 1) _ ?_
      rw [show c - (r + 1) = c - r - 1 by omega, Nat.beq_refl]
      rfl
theorem ldI_nat (x : Nat → Ent) (i : Nat) : ldI x (i : Int) = (x i).load := by
  unfold ldI
  rw [Int.toNat_natCast]
/-- one after another, or all of them at once -/
theorem ins_fil (x : Nat → Ent) (p : Nat → Bool) : ∀ (n : Nat), (foldF (insStep x p) n 0 (0, fun _ => 0)).1 = (filA p n).1 ∧ Agree (filA p n).1 (foldF (insStep x p) n 0 (0, fun _ => 0)).2 (insA x (filA p n).1 (filA p n).2)
  | 0 => ⟨rfl, fun j hj => absurd hj (Nat.not_lt_zero j)⟩
  | n + 1 => by
    have ih := ins_fil x p n
    have hs := foldF_succ (insStep x p) n 0 (0, fun _ => 0)
    rw [Nat.zero_add] at hs
    rw [hs, filA_succ]
    clear hs
    generalize foldF (insStep x p) n 0 (0, fun _ => 0) = t at ih ⊢
    generalize filA p n = r at ih ⊢
    obtain ⟨h1, h2⟩ := ih
    unfold insStep filF
    cases p n
    · exact ⟨h1, h2⟩
    · obtain ⟨c, y⟩ := t
      obtain ⟨d, z⟩ := r
      dsimp only at h1 h2 ⊢
      subst h1
      refine ⟨rfl, fun j hj => ?_⟩
      have e : appI y c n (c - 0) = (n : Int) := by
        unfold appI
        rw [ble_false (by omega)]; rfl
      rw [← ldI_nat, ← insK_eq x n c c 0 _ e, insA_succ]
      refine insG_congr x (Nat.lt_succ_self c) _ _ _ _ (fun j hj => ?_) j hj
      rcases Nat.lt_or_ge j c with h3 | h3
      · have e1 : appI y c n j = y j := by unfold appI; rw [ble_tt (by omega)]; rfl
        rw [e1, h2 j h3]
        exact insA_congr x c _ _ (fun k hk => by unfold appI; rw [ble_tt (by omega)]; rfl) j h3
      · rw [insA_out x c _ j h3]
        unfold appI
        rw [ble_false (by omega)]; rfl
/-- what a row of indexes holds -/
theorem fil_ok (p : Nat → Bool) : ∀ n, (∀ v : Int, (∃ j, j < (filA p n).1 ∧ (filA p n).2 j = v) ↔ ∃ i : Nat, i < n ∧ p i = true ∧ (i : Int) = v) ∧ (∀ j k, j < k → k < (filA p n).1 → (filA p n).2 j < (filA p n).2 k)
  | 0 => ⟨fun v => ⟨fun ⟨j, hj, _⟩ => absurd hj (Nat.not_lt_zero j), fun ⟨j, hj, _⟩ => absurd hj (Nat.not_lt_zero j)⟩, fun j k _ hk => absurd hk (Nat.not_lt_zero k)⟩
  | n + 1 => by
    have ih := fil_ok p n
    rw [filA_succ]
    generalize filA p n = r at ih ⊢
    obtain ⟨c, y⟩ := r
    unfold filF
    obtain ⟨h1, h2⟩ := ih
    dsimp only at h1 h2
    cases hp : p n
    · refine ⟨fun v => (h1 v).trans ⟨fun ⟨i, a, b, e⟩ => ⟨i, by omega, b, e⟩, fun ⟨i, a, b, e⟩ => ⟨i, ?_, b, e⟩⟩, h2⟩
      rcases Nat.lt_or_ge i n with h | h
      · exact h
      · obtain rfl : i = n := by omega
        rw [hp] at b; cases b
    · dsimp only
      have a1 : ∀ j, j < c → appI y c n j = y j := fun j hj => by unfold appI; rw [ble_tt (by omega)]; rfl
      have a2 : appI y c n c = n := by unfold appI; rw [ble_false (by omega)]; rfl
      refine ⟨fun v => ⟨fun ⟨j, a, e⟩ => ?_, fun ⟨i, a, b, e⟩ => ?_⟩, fun j k hjk hk => ?_⟩
      · rcases Nat.lt_or_ge j c with h | h
        · rw [a1 j h] at e
          obtain ⟨i, a, b, e⟩ := (h1 v).1 ⟨j, h, e⟩
          exact ⟨i, by omega, b, e⟩
        · obtain rfl : j = c := by omega
          rw [a2] at e
          exact ⟨n, by omega, hp, e⟩
      · rcases Nat.lt_or_ge i n with h | h
        · obtain ⟨j, g, e⟩ := (h1 v).2 ⟨i, h, b, e⟩
          exact ⟨j, by omega, by rw [a1 j g]; exact e⟩
        · obtain rfl : i = n := by omega
          exact ⟨c, by omega, by rw [a2]; exact e⟩
      · rw [a1 j (by omega)]
        rcases Nat.lt_or_ge k c with h | h
        · rw [a1 k h]; exact h2 j k hjk h
        · obtain rfl : k = c := by omega
          rw [a2]
          obtain ⟨i, a, _, e⟩ := (h1 _).1 ⟨j, hjk, rfl⟩
          omega
/-- rows that rise, and hold the same, are the same -/
theorem asc_uniq {c d : Nat} {f g : Nat → Int} (hf : ∀ j k, j < k → k < c → f j < f k) (hg : ∀ j k, j < k → k < d → g j < g k) (h : ∀ v : Int, (∃ j, j < c ∧ f j = v) ↔ ∃ j, j < d ∧ g j = v) : c = d ∧ Agree c f g := by
  have key : ∀ j, j < c → j < d → f j = g j := fun j => by
    induction j using Nat.strongRecOn with
    | _ j ih =>
      intro h1 h2
      rcases Int.lt_trichotomy (f j) (g j) with hlt | he | hgt
      · obtain ⟨k, hk, e⟩ := (h _).1 ⟨j, h1, rfl⟩
        rcases Nat.lt_or_ge k j with h3 | h3
        · have := ih k h3 (by omega) hk
          have := hf k j h3 h1
          omega
        · rcases Nat.lt_or_ge j k with h4 | h4
          · have := hg j k h4 hk; omega
          · obtain rfl : k = j := by omega
            omega
      · exact he
      · obtain ⟨k, hk, e⟩ := (h _).2 ⟨j, h2, rfl⟩
        rcases Nat.lt_or_ge k j with h3 | h3
        · have := ih k h3 hk (by omega)
          have := hg k j h3 h2
          omega
        · rcases Nat.lt_or_ge j k with h4 | h4
          · have := hf j k h4 hk; omega
          · obtain rfl : k = j := by omega
            omega
  have hcd : c = d := by
    rcases Nat.lt_trichotomy c d with hlt | he | hgt
    · obtain ⟨k, hk, e⟩ := (h _).2 ⟨c, hlt, rfl⟩
      have := key k hk (by omega)
      have := hg k c hk hlt
      omega
    · exact he
    · obtain ⟨k, hk, e⟩ := (h _).1 ⟨d, hgt, rfl⟩
      have := key k (by omega) hk
      have := hf k d hk hgt
      omega
  subst hcd
  exact ⟨rfl, fun j hj => key j hj hj⟩
/-- who is next hangs on the others alone -/
def SameBut (me : Int) (x : Nat → Int) (n : Nat) (y : Nat → Int) (m : Nat) : Prop := ∀ v : Int, v ≠ me → ((∃ j, j < n ∧ x j = v) ↔ ∃ j, j < m ∧ y j = v)
theorem SameBut.symm {me : Int} {x : Nat → Int} {n : Nat} {y : Nat → Int} {m : Nat} (h : SameBut me x n y m) : SameBut me y m x n := fun v hv => (h v hv).symm
theorem SameBut.least {me : Int} {x : Nat → Int} {n : Nat} {y : Nat → Int} {m : Nat} (h : SameBut me x n y m) {p : Int → Prop} (hp : ∀ v, p v → v ≠ me) {v : Int} (hl : LeastI p x n v) : LeastI p y m v := by
  obtain ⟨⟨j, h1, h2, rfl⟩, h4⟩ := hl
  refine ⟨?_, fun k hk hpk => ?_⟩
  · obtain ⟨k, hk, e⟩ := (h _ (hp _ h2)).1 ⟨j, h1, rfl⟩
    exact ⟨k, hk, by rw [e]; exact h2, e⟩
  · obtain ⟨i, hi, e⟩ := (h _ (hp _ hpk)).2 ⟨k, hk, rfl⟩
    have := h4 i hi (by rw [e]; exact hpk)
    omega
theorem SameBut.most {me : Int} {x : Nat → Int} {n : Nat} {y : Nat → Int} {m : Nat} (h : SameBut me x n y m) {p : Int → Prop} (hp : ∀ v, p v → v ≠ me) {v : Int} (hl : MostI p x n v) : MostI p y m v := by
  obtain ⟨⟨j, h1, h2, rfl⟩, h4⟩ := hl
  refine ⟨?_, fun k hk hpk => ?_⟩
  · obtain ⟨k, hk, e⟩ := (h _ (hp _ h2)).1 ⟨j, h1, rfl⟩
    exact ⟨k, hk, by rw [e]; exact h2, e⟩
  · obtain ⟨i, hi, e⟩ := (h _ (hp _ hpk)).2 ⟨k, hk, rfl⟩
    have := h4 i hi (by rw [e]; exact hpk)
    omega
theorem SameBut.none {me : Int} {x : Nat → Int} {n : Nat} {y : Nat → Int} {m : Nat} (h : SameBut me x n y m) {p : Int → Prop} (hp : ∀ v, p v → v ≠ me) (hl : ∀ j, j < n → ¬ p (x j)) : ∀ j, j < m → ¬ p (y j) := fun j hj hpj => by
  obtain ⟨i, hi, e⟩ := (h _ (hp _ hpj)).2 ⟨j, hj, rfl⟩
  exact hl i hi (by rw [e]; exact hpj)
theorem SameBut.isB {me : Int} {x : Nat → Int} {n : Nat} {y : Nat → Int} {m : Nat} (h : SameBut me x n y m) {v : Int} (hb : IsB me x n v) : IsB me y m v := by
  rcases hb with hb | ⟨hb, hc⟩
  · exact .inl (h.least (fun v hv => by omega) hb)
  · exact .inr ⟨h.none (p := fun v => me < v) (fun v hv => by omega) hb, h.least (fun v hv => hv) hc⟩
theorem SameBut.isA {me : Int} {x : Nat → Int} {n : Nat} {y : Nat → Int} {m : Nat} (h : SameBut me x n y m) {v : Int} (hb : IsA me x n v) : IsA me y m v := by
  rcases hb with hb | ⟨hb, hc⟩
  · exact .inl (h.most (fun v hv => by omega) hb)
  · exact .inr ⟨h.none (p := fun v => v < me) (fun v hv => by omega) hb, h.most (fun v hv => hv) hc⟩
theorem SameBut.nz {me : Int} {x : Nat → Int} {n : Nat} {y : Nat → Int} {m : Nat} (h : SameBut me x n y m) : nzL me x n = nzL me y m ∧ Agree (nzL me x n) (nzE me x n) (nzE me y m) := by
  by_cases h0 : nxD me x n = 0
  · have h1 : nxD me y m = 0 := (nxD_none me y m).2 fun j hj => by
      have := h.none (p := fun v => v ≠ me) (fun v hv => hv) (fun j hj hn => hn ((nxD_none me x n).1 h0 j hj)) j hj
      simpa using this
    exact ⟨by simp only [nzL, h0, h1, reduceIte], fun j hj => by simp only [nzL, h0, reduceIte] at hj; omega⟩
  · have h1 : nxD me y m ≠ 0 := fun h1 => h0 ((nxD_none me x n).2 fun j hj => by
      have := h.symm.none (p := fun v => v ≠ me) (fun v hv => hv) (fun j hj hn => hn ((nxD_none me y m).1 h1 j hj)) j hj
      simpa using this)
    have eb : nxB me x n = nxB me y m := IsB.uniq (h.isB (nxB_ok h0)) (nxB_ok h1)
    have ea : nxA me x n = nxA me y m := IsA.uniq (h.isA (nxA_ok h0)) (nxA_ok h1)
    refine ⟨by simp only [nzL, h0, h1, eb, ea], fun j hj => by simp only [nzE, eb, ea]⟩
theorem nz_asc (me : Int) (x : Nat → Int) (n : Nat) : ∀ j k, j < k → k < nzL me x n → nzE me x n j < nzE me x n k := fun j k hjk hk => by
  unfold nzL at hk
  split at hk
  · omega
  · split at hk
    · omega
    · obtain rfl : j = 0 := by omega
      obtain rfl : k = 1 := by omega
      show min (nxB me x n) (nxA me x n) < max (nxB me x n) (nxA me x n)
      omega
theorem nz_mem {me : Int} {x : Nat → Int} {n : Nat} {j : Nat} (hj : j < nzL me x n) : (∃ i, i < n ∧ x i = nzE me x n j) ∧ nzE me x n j ≠ me := by
  have h0 : nxD me x n ≠ 0 := fun h0 => by simp only [nzL, h0, reduceIte] at hj; omega
  have hb := (nxS_mem me x n (nxB me x n)).1 ⟨nxK me x n % nxD me x n, Nat.mod_lt _ (by omega), rfl⟩
  have ha := (nxS_mem me x n (nxA me x n)).1 ⟨(nxK me x n + nxD me x n - 1) % nxD me x n, Nat.mod_lt _ (by omega), rfl⟩
  have : nzE me x n j = nxB me x n ∨ nzE me x n j = nxA me x n := by
    unfold nzE
    cases Nat.beq j 0 <;> simp only [cond_true, cond_false] <;> omega
  rcases this with e | e <;> rw [e] <;> assumption

noncomputable abbrev rtA (me : Int) (x : Nat → Ent) (n : Nat) : Nat × (Nat → Int) := toA me x n (nzL me (tgA (-1) x n).2 (tgA (-1) x n).1) (nzE me (tgA (-1) x n).2 (tgA (-1) x n).1)
theorem tg_same (me : Int) (x : Nat → Ent) (n : Nat) : SameBut me (tgA (-1) x n).2 (tgA (-1) x n).1 (tgA me x n).2 (tgA me x n).1 := fun v hv => by
  rw [tgA_fil, tgA_fil]
  refine ((fil_ok _ n).1 v).trans (Iff.trans ?_ ((fil_ok _ n).1 v).symm)
  refine ⟨fun ⟨i, a, b, e⟩ => ⟨i, a, ?_, e⟩, fun ⟨i, a, b, e⟩ => ⟨i, a, ?_, e⟩⟩
  · unfold tgB at b ⊢
    simp only [Bool.and_eq_true, bne_iff_ne, ne_eq] at b ⊢
    exact ⟨⟨by omega, b.1.2⟩, b.2⟩
  · unfold tgB at b ⊢
    simp only [Bool.and_eq_true, bne_iff_ne, ne_eq] at b ⊢
    exact ⟨⟨by omega, b.1.2⟩, b.2⟩
theorem rt_ok (me : Int) (x : Nat → Ent) (n : Nat) (h : 0 ≤ me ∧ me < (n : Int)) : (rtA me x n).1 = tzL me x n ∧ Agree (tzL me x n) (rtA me x n).2 (tzE me x n) := by
  have hA : rtA me x n = foldF (insStep x (toB me x (nzL me (tgA (-1) x n).2 (tgA (-1) x n).1) (nzE me (tgA (-1) x n).2 (tgA (-1) x n).1))) n 0 (0, fun _ => 0) := rfl
  have hL : tzL me x n = (tgR me x n).1 := if_pos h
  have hE : tzE me x n = insA x (tgR me x n).1 (tgR me x n).2 := by unfold tzE; rw [hL]
  have h1 := (ins_fil x (toB me x (nzL me (tgA (-1) x n).2 (tgA (-1) x n).1) (nzE me (tgA (-1) x n).2 (tgA (-1) x n).1)) n).1
  have h2 := (ins_fil x (toB me x (nzL me (tgA (-1) x n).2 (tgA (-1) x n).1) (nzE me (tgA (-1) x n).2 (tgA (-1) x n).1)) n).2
  rw [← hA] at h1 h2
  suffices hs : (tgR me x n).1 = (filA (toB me x (nzL me (tgA (-1) x n).2 (tgA (-1) x n).1) (nzE me (tgA (-1) x n).2 (tgA (-1) x n).1)) n).1 ∧ Agree (tgR me x n).1 (tgR me x n).2 (filA (toB me x (nzL me (tgA (-1) x n).2 (tgA (-1) x n).1) (nzE me (tgA (-1) x n).2 (tgA (-1) x n).1)) n).2 by
    rw [hL, hE, h1]
    refine ⟨hs.1.symm, fun j hj => ?_⟩
    rw [h2 j (by rw [← hs.1]; exact hj), hs.1]
    exact (insA_congr x _ _ _ (by rw [← hs.1]; exact hs.2) j (by rw [← hs.1]; exact hj)).symm
  cases hd : (x me.toNat).dr with
  | true =>
    have e : toB me x (nzL me (tgA (-1) x n).2 (tgA (-1) x n).1) (nzE me (tgA (-1) x n).2 (tgA (-1) x n).1) = tgB me x := funext fun i => by
      unfold toB tgB
      rw [hd]
      simp only [Bool.true_or, Bool.and_true, bne, Bool.and_assoc]
    have e2 : tgR me x n = tgA me x n := by unfold tgR; rw [hd]
    rw [e, e2, tgA_fil]
    exact ⟨rfl, fun j hj => rfl⟩
  | false =>
    have e2 : tgR me x n = (nzL me (tgA me x n).2 (tgA me x n).1, nzE me (tgA me x n).2 (tgA me x n).1) := by unfold tgR; rw [hd]
    have hz := (tg_same me x n).nz
    rw [e2]
    have f := fil_ok (toB me x (nzL me (tgA (-1) x n).2 (tgA (-1) x n).1) (nzE me (tgA (-1) x n).2 (tgA (-1) x n).1)) n
    have u := asc_uniq (nz_asc me (tgA (-1) x n).2 (tgA (-1) x n).1) f.2 (fun v => by
      refine Iff.trans ?_ (f.1 v).symm
      refine ⟨fun ⟨j, hj, e⟩ => ?_, fun ⟨i, a, b, e⟩ => ?_⟩
      · obtain ⟨⟨k, hk, e3⟩, hne⟩ := nz_mem hj
        obtain ⟨i, a, b, e4⟩ := ((fil_ok (tgB (-1) x) n).1 v).1 ⟨k, hk, e3.trans e⟩
        refine ⟨i, a, ?_, e4⟩
        have hh : hasB (nzE me (tgA (-1) x n).2 (tgA (-1) x n).1) (nzL me (tgA (-1) x n).2 (tgA (-1) x n).1) i = true := pb_true ⟨j, hj, by rw [e4]; exact e⟩
        unfold toB
        unfold tgB at b
        rw [hh]
        have hi : (i : Int) ≠ me := by rw [e4, ← e]; exact hne
        simp only [Bool.and_eq_true, bne, Bool.not_eq_true', Bool.or_true, Bool.and_true, beq_eq_false_iff_ne] at b ⊢
        exact ⟨hi, b.1.2, b.2⟩
      · unfold toB at b
        rw [hd] at b
        simp only [Bool.and_eq_true, Bool.false_or] at b
        obtain ⟨j, hj, e5⟩ := pb_of b.2.2.2
        exact ⟨j, hj, e5.trans e⟩)
    refine ⟨hz.1.symm.trans u.1, fun j hj => ?_⟩
    rw [← hz.1] at hj
    exact (hz.2 j hj).symm.trans (u.2 j hj)
theorem to_RTz (me : Int) (nl : Bool) (n : Nat) (x : Nat → Ent) (h : (nl = true → n = 0) ∧ n < 20) : CallTo Try.prog 19 [AI me, .one (.f (.fs nl 5 n (entE x)))] [] 0 (out0 (.v (.one (.f (.fs (Nat.beq (tzL me x n) 0) 1 (tzL me x n) (intE (tzE me x n))))))) := by
  obtain ⟨hnl, hn⟩ := h
  by_cases h1 : me < 0
  · refine tz_nil (by unfold tzL; rw [if_neg (by omega)]) (evCallZ_ok GORP3 GKRP3 (T.over_eq _ (tree_RTz me nl n x) ?_))
    simp only [T.res_br, T.res_ret, decide_eq_true h1, reduceIte]
  by_cases h2 : me ≥ (n : Int)
  · refine tz_nil (by unfold tzL; rw [if_neg (by omega)]) (evCallZ_ok GORP3 GKRP3 (T.over_eq _ (tree_RTz me nl n x) ?_))
    simp only [T.res_br, T.res_ret, decide_eq_false h1, decide_eq_true h2, Bool.false_eq_true, reduceIte]
  have h3 : (0 : Int) ≤ me ∧ me < (n : Int) := by omega
  have hf := rt_ok me x n h3
  have a1 := (tgA_ok (-1) x n).1
  have b1 : (Nat.ble (tgA (-1) x n).1 (tgA (-1) x n).1 && (!Nat.beq (tgA (-1) x n).1 0 || Nat.beq (tgA (-1) x n).1 0)) = true := by rw [ble_tt (Nat.le_refl _), Bool.or_comm, beq_or]; rfl
  have b4 : (Nat.ble (rtA me x n).1 (rtA me x n).1 && (!Nat.beq (rtA me x n).1 0 || Nat.beq (rtA me x n).1 0)) = true := by rw [ble_tt (Nat.le_refl _), Bool.or_comm, beq_or]; rfl
  have a3 : (tgA (-1) x n).1 ≤ 1048576 := by omega
  have a5 : n ≤ 1048576 := by omega
  have a6 : n < 1048576 := by omega
  have a7 : (nl = true → n = 0) = True := eq_true hnl
  have a8 : nzL me (tgA (-1) x n).2 (tgA (-1) x n).1 ≤ 1048576 := by
    unfold nzL
    split
    · omega
    · split <;> omega
  have a9 : (nzN me (tgA (-1) x n).2 (tgA (-1) x n).1 = true → nzL me (tgA (-1) x n).2 (tgA (-1) x n).1 = 0) = True := eq_true fun h => by
    have := Nat.eq_of_beq_eq_true h
    simp only [nzL, this, reduceIte]
  have b3 : (Nat.beq (tgA (-1) x n).1 0 = true → (tgA (-1) x n).1 = 0) = True := eq_true Nat.eq_of_beq_eq_true
  have hr : (tgt_RTz me nl n x).res = some (out0 (.v (.one (.f (.fs (Nat.beq (rtA me x n).1 0) 1 (rtA me x n).1 fun a => [.lit (.int .i64 ((rtA me x n).2 a))]))))) := T.over_eq _ (tree_RTz me nl n x) (by
    simp only [T.res_br, T.res_ret, T.res_bad, decide_eq_false h1, decide_eq_false h2, h3, b1, b4, a3, a5, a6, a7, a8, a9, b3, IntE_ok, EntE_ok, eq_self, and_self, pb_tt, Bool.false_eq_true, reduceIte])
  rw [← hf.1]
  refine (evCallZ_ok GORP3 GKRP3 hr).less (Nat.le_refl 0) (.inr (.inr ⟨_, _, rfl, rfl, CV.le.f (FV.le_fs fun i hi => ?_)⟩)) (fun b => .inl rfl) rfl rfl
  rw [hf.2 i (by rw [← hf.1]; exact hi)]

noncomputable def F_RTz : SumF
  | [.one (.f (.lit (.int .i64 me))), .one (.f (.fs nl 5 n e))], [], 0 => .need (pb (EntE e ∧ (nl = true → n = 0) ∧ n < 20)) (.ret (out0 (.v (.one (.f (.fs (Nat.beq (tzL me (entOf e) n) 0) 1 (tzL me (entOf e) n) (intE (tzE me (entOf e) n))))))))
  | _, _, _ => .bad
theorem sum_RTz : SumOk Try.prog 19 F_RTz := by
  refine ⟨fun args H nx r hr => ?_, fun args H nx => ?_⟩
  · unfold F_RTz at hr
    split at hr
    · rename_i me nl n e
      obtain ⟨h0, hr⟩ := T.need_some hr
      have := T.ret_some hr
      subst this
      have h := pb_of h0
      obtain ⟨⟨x, rfl⟩, h1⟩ := h
      exact to_RTz me nl n x h1
    · exact (T.bad_some hr).elim
  · unfold F_RTz
    split
    · exact T.Every.need ⟨Nat.zero_le _, fun b hb hw => absurd hb (Nat.not_lt_zero b)⟩
    · trivial
noncomputable def sm_RTz : SumF := orSum (nilSum 5 ((entE fun _ => default)) (canonSum F_RTz)) (frzSum (nilSum 5 ((entE fun _ => default)) (canonSum F_RTz)))
theorem sm_RTz_ok : SumOk Try.prog 19 sm_RTz := orSum_ok (nilSum_ok (canonSum_ok sum_RTz)) (frzSum_ok (nilSum_ok (canonSum_ok sum_RTz)))
noncomputable def ss_RTz : List (Nat × SumF) := (19, sm_RTz) :: ss_has
theorem ss_RTz_ok : ∀ x ∈ ss_RTz, SumOk Try.prog x.1 x.2 := List.forall_mem_cons.2 ⟨sm_RTz_ok, ss_has_ok⟩
end Go.Proofs.Ytggneleipimijaa.En
/- What the answer of Targets is like. -/
namespace Go.Proofs.Ytggneleipimijaa.En
open Go
set_option linter.unusedVariables false
set_option linter.unusedSimpArgs false
set_option maxRecDepth 20000
set_option maxHeartbeats 1000000
noncomputable def GRS1 : Ctx := GS.with ss_Table ll_tb
noncomputable def tgt_known  : T CallOut := evCallW [] GRS1 300 13 [] [] 0
theorem GKRS1 : KnownOk Try.prog GRS1 := KnownOk.lists ss_Table_ok ll_tb_ok
theorem GORS1 : CtxOk Try.prog GRS1 := GS_ok.with _ _
theorem tree_known  : (tgt_known ).over (.ff (.tt (.ff (.ff (.tt (.tt (.tt (.tt (.tt (.tt (.tt (.ff (.tt (.tt (.tt (.ff (.tt (.tt (.tt (.tt (.tt (.tt (.tt (.tt (.ff (.ff (.tt (.tt (.tt (.tt (.ff (.tt (.tt (.tt (.tt (.ff (.ff (.ff (.tt (.tt (.tt (.tt (.ff (.ff (.tt (.ff (.tt (.ff (.tt (.ff (.tt (.tt (.ff (.tt (.ff (.ff (.ff (.ff (.ff (.ff (.tt (.tt (.tt (.tt (.tt (.tt (.tt (.tt (.ff (.tt (.tt (.tt (.tt (.tt (.tt (.tt (.tt (.tt (.tt (.tt (.ff (.ff (.ff (.ff (.ff (.ff (.ff (.ff (.tt (.ff (.tt (.tt (.tt (.tt (.tt (.tt (.ff (.ff (.tt (.tt (.tt (.tt (.tt (.tt (.tt (.tt (.ff (.tt (.tt (.tt (.ff (.ff (.ff (.ff (.ff (.ff (.ff (.ff (.tt (.ff (.ff (.tt (.ff (.tt (.tt (.ff (.tt (.ff (.ff (.ff (.ff (.ff (.ff (.ff (.ff (.ff (.tt (.ff (.tt (.tt (.tt (.ff (.ff (.ff (.ff (.ff (.ff (.ff (.ff (.ff (.ff (.tt (.tt (.tt (.tt (.tt (.tt (.tt (.tt (.tt (.tt (.ff (.ff (.ff (.tt (.tt (.tt (.ff (.ff (.ff (.ff (.ff (.ff (.ff (.tt (.ff (.tt (.ff (.tt (.tt (.tt (.ff (.tt (.tt (.ff (.ff (.tt (.ff (.ff (.ff (.ff (.tt (.tt (.tt (.tt (.tt (.tt (.tt (.tt (.ff (.tt (.tt (.tt (.tt (.tt (.tt (.tt (.tt (.tt (.tt (.tt (.ff (.ff (.ff (.ff (.ff (.ff (.ff (.ff (.tt (.ff (.ff (.ff (.tt (.tt (.tt (.ff (.tt (.tt (.tt (.tt (.ff (.ff (.tt (.tt (.ff (.tt (.ff (.tt (.tt (.tt (.tt (.tt (.tt (.tt (.ff (.tt (.tt (.tt (.ff (.tt (.tt (.tt (.ff (.tt (.ff (.ff (.tt (.tt (.ff (.tt (.ff (.ff (.tt (.tt (.tt (.tt (.tt (.tt (.ff (.tt (.tt (.tt (.ff (.tt (.tt (.ff (.ff (.tt (.ff (.tt (.ff (.tt (.tt (.ff (.tt (.ff (.ff (.ff (.ff (.ff (.ff (.tt (.tt (.ff (.tt (.ff (.tt (.tt (.tt (.ff (.ff (.ff (.ff (.ff (.ff (.ff (.ff (.tt (.ff (.ff (.ff (.ff (.ff (.ff (.ff (.ff (.ff (.ff (.ff (.tt (.tt (.tt (.ff (.tt (.tt (.tt (.ff (.ff (.ff (.ff (.tt (.tt (.tt (.tt (.tt (.tt (.tt (.tt (.ff (.tt (.tt (.tt (.tt (.tt (.tt (.tt (.tt (.tt (.tt (.tt (.ff (.ff (.ff (.ff (.ff (.ff (.ff (.ff (.tt (.ff (.ff (.ff (.tt (.tt (.tt (.ff (.tt (.tt (.tt (.tt (.tt (.tt (.ff (.tt (.ff (.ff (.tt (.ff (.tt (.ff (.tt (.tt (.ff (.tt (.ff (.tt (.tt (.ff (.tt (.tt (.tt (.ff (.tt (.tt (.tt (.tt (.tt (.tt (.tt (.ff (.ff (.tt (.tt (.tt (.ff (.tt (.ff (.ff (.tt (.tt (.tt (.tt (.tt (.tt (.tt (.ff (.ff (.tt (.ff (.tt (.ff (.tt (.tt (.ff (.tt (.ff (.tt (.tt (.tt (.tt .leaf))))))))))))))))))))))))))))))))))))))))))))))))))))))))))))))))))))))))))))))))))))))))))))))))))))))))))))))))))))))))))))))))))))))))))))))))))))))))))))))))))))))))))))))))))))))))))))))))))))))))))))))))))))))))))))))))))))))))))))))))))))))))))))))))))))))))))))))))))))))))))))))))))))))))))))))))))))))))))))))))))))))))))))))))))))))))))))))))))))))))))))))))))))))))))))))))))))))))))))))))))))))))))))))))))))))))))))))) =
  T.ret (out0 (SV.v (AB true))) := by kernel_rfl
theorem res_known  : (tgt_known ).res = some (out0 (.v (AB true))) := by
  refine T.over_eq _ (tree_known ) ?_
  simp only [T.res_br, T.res_ret, T.res_bad]

noncomputable def F_known : SumF
  | [], [], 0 => .ret (out0 (.v (AB true)))
  | _, _, _ => .bad
theorem sum_known : SumOk Try.prog 13 F_known := by
  refine ⟨fun args H nx r hr => ?_, fun args H nx => ?_⟩
  · unfold F_known at hr
    split at hr
    · have := T.ret_some hr
      subst this
      exact evCallW_ok GORS1 GKRS1 res_known
    · exact (T.bad_some hr).elim
  · unfold F_known
    split
    · exact ⟨Nat.zero_le _, fun b hb hw => absurd hb (Nat.not_lt_zero b)⟩
    · trivial
noncomputable def sm_known : SumF := canonSum F_known
theorem sm_known_ok : SumOk Try.prog 13 sm_known := canonSum_ok sum_known
noncomputable def ss_known : List (Nat × SumF) := (13, sm_known) :: ss_RTz
theorem ss_known_ok : ∀ x ∈ ss_known, SumOk Try.prog x.1 x.2 := List.forall_mem_cons.2 ⟨sm_known_ok, ss_RTz_ok⟩
/-- s with k at place q -/
def putAt (s : Nat → Int) (k : Int) (q : Nat) : Nat → Int := fun p => if p < q then s p else if p = q then k else s (p - 1)
theorem insK_form (x : Nat → Ent) (ld k : Int) (c : Nat) (s : Nat → Int) : ∀ (f r : Nat) (u : Nat → Int), f + r = c → Agree (c + 1) u (putAt s k (c - r)) → (∀ p, c - r ≤ p → p < c → ldI x (s p) > ld) →
    ∃ q, q ≤ c ∧ Agree (c + 1) (insK x ld k c f r u) (putAt s k q) ∧ (q = 0 ∨ ldI x (s (q - 1)) ≤ ld) ∧ ∀ p, q ≤ p → p < c → ldI x (s p) > ld
  | 0, r, u, h, hu, hg => ⟨c - r, by omega, hu, .inl (by omega), hg⟩
  | f + 1, r, u, h, hu, hg => by
    simp only [insK]
    have e1 : u (c - r - 1) = s (c - r - 1) := by
      rw [hu _ (by omega)]
      unfold putAt
      rw [if_pos (by omega)]
    cases hq : decide (ldI x (u (c - r - 1)) > ld)
    · exact ⟨c - r, by omega, hu, .inr (by have := of_decide_eq_false hq; rw [e1] at this; omega), hg⟩
    · have hq := of_decide_eq_true hq
      rw [e1] at hq
      refine insK_form x ld k c s f (r + 1) _ (by omega) (fun p hp => ?_) (fun p h1 h2 => ?_)
      · rw [e1]
        by_cases h1 : p = c - r - 1
        · subst h1
          rw [Nat.beq_refl]
          unfold putAt
          rw [if_neg (by omega), if_pos (by omega)]; rfl
        · rw [beq_ff h1]
          by_cases h2 : p = c - r
          · subst h2
            rw [Nat.beq_refl]
            unfold putAt
            rw [if_neg (by omega), if_neg (by omega)]; rfl
          · rw [beq_ff h2]
            simp only [cond_false]
            rw [hu p hp]
            unfold putAt
            by_cases h3 : p < c - (r + 1)
            · rw [if_pos (by omega), if_pos h3]
            · rw [if_neg (by omega), if_neg (by omega), if_neg (by omega), if_neg (by omega)]
      · by_cases h3 : p = c - r - 1
        · rw [h3]; exact hq
        · exact hg p (by omega) h2
/-- less by load, then by number -/
def lexI (x : Nat → Ent) (a b : Int) : Prop := ldI x a < ldI x b ∨ (ldI x a = ldI x b ∧ a < b)
def Holds (c : Nat) (y z : Nat → Int) : Prop := ∀ v : Int, (∃ j, j < c ∧ y j = v) ↔ ∃ j, j < c ∧ z j = v
theorem putAt_mem (s : Nat → Int) (k : Int) (c q : Nat) (hq : q ≤ c) (v : Int) : (∃ j, j < c + 1 ∧ putAt s k q j = v) ↔ v = k ∨ ∃ j, j < c ∧ s j = v := by
  constructor
  · rintro ⟨j, hj, e⟩
    unfold putAt at e
    split at e
    · exact .inr ⟨j, by omega, e⟩
    · split at e
      · exact .inl e.symm
      · exact .inr ⟨j - 1, by omega, e⟩
  · rintro (e | ⟨j, hj, e⟩)
    · refine ⟨q, by omega, ?_⟩
      unfold putAt
      rw [if_neg (by omega), if_pos rfl, e]
    · by_cases h : j < q
      · refine ⟨j, by omega, ?_⟩
        unfold putAt
        rw [if_pos h, e]
      · refine ⟨j + 1, by omega, ?_⟩
        unfold putAt
        rw [if_neg (by omega), if_neg (by omega)]
        exact e
theorem insA_ok (x : Nat → Ent) (z : Nat → Int) : ∀ c, (∀ j k, j < k → k < c → z j < z k) → Holds c (insA x c z) z ∧ ∀ i, i + 1 < c → lexI x (insA x c z i) (insA x c z (i + 1))
  | 0, _ => ⟨fun v => ⟨fun ⟨j, hj, _⟩ => absurd hj (Nat.not_lt_zero j), fun ⟨j, hj, _⟩ => absurd hj (Nat.not_lt_zero j)⟩, fun i hi => absurd hi (Nat.not_lt_zero _)⟩
  | c + 1, hz => by
    obtain ⟨i1, i2⟩ := insA_ok x z c (fun j k h1 h2 => hz j k h1 (by omega))
    have ek : insA x c z (c - 0) = z c := insA_out x c z c (Nat.le_refl c)
    rw [insA_succ, insK_eq x (z c) c c 0 _ ek]
    generalize insA x c z = s at i1 i2 ek
    have hlt : ∀ j, j < c → s j < z c := fun j hj => by
      obtain ⟨i, hi, e⟩ := (i1 _).1 ⟨j, hj, rfl⟩
      rw [← e]; exact hz i c hi (Nat.lt_succ_self c)
    obtain ⟨q, q1, q2, q3, q4⟩ := insK_form x (ldI x (z c)) (z c) c s c 0 s (by omega) (fun p hp => by
      unfold putAt
      by_cases h : p < c
      · rw [if_pos (by omega)]
      · obtain rfl : p = c := by omega
        rw [if_neg (by omega), if_pos (by omega)]; exact ek) (fun p h1 h2 => by omega)
    generalize insK x (ldI x (z c)) (z c) c c 0 s = w at q2
    refine ⟨fun v => ?_, fun i hi => ?_⟩
    · have h1 : (∃ j, j < c + 1 ∧ w j = v) ↔ ∃ j, j < c + 1 ∧ putAt s (z c) q j = v :=
        ⟨fun ⟨j, hj, e⟩ => ⟨j, hj, by rw [← q2 j hj]; exact e⟩, fun ⟨j, hj, e⟩ => ⟨j, hj, by rw [q2 j hj]; exact e⟩⟩
      rw [h1, putAt_mem s (z c) c q q1, i1 v]
      exact ⟨fun h => by
        rcases h with h | ⟨j, hj, e⟩
        · exact ⟨c, by omega, h.symm⟩
        · exact ⟨j, by omega, e⟩, fun ⟨j, hj, e⟩ => by
        by_cases h : j < c
        · exact .inr ⟨j, h, e⟩
        · obtain rfl : j = c := by omega
          exact .inl e.symm⟩
    · rw [q2 i (by omega), q2 (i + 1) hi]
      unfold putAt
      rcases Nat.lt_trichotomy (i + 1) q with h | h | h
      · rw [if_pos (by omega), if_pos h]
        exact i2 i (by omega)
      · rw [if_pos (by omega), if_neg (by omega), if_pos h]
        rcases q3 with h0 | h0
        · omega
        · have e : q - 1 = i := by omega
          rw [e] at h0
          rcases Int.lt_or_eq_of_le h0 with h1 | h1
          · exact .inl h1
          · exact .inr ⟨h1, hlt i (by omega)⟩
      · rw [if_neg (by omega), if_neg (show ¬ i + 1 < q by omega), if_neg (show ¬ i + 1 = q by omega)]
        by_cases h1 : i = q
        · rw [if_pos h1]
          have := q4 i (by omega) (by omega)
          exact .inl (by rw [Nat.add_sub_cancel]; omega)
        · rw [if_neg h1, Nat.add_sub_cancel]
          have := i2 (i - 1) (by omega)
          rwa [show i - 1 + 1 = i by omega] at this
theorem tgA_asc (me : Int) (x : Nat → Ent) (n : Nat) : ∀ j k, j < k → k < (tgA me x n).1 → (tgA me x n).2 j < (tgA me x n).2 k := (fil_ok (tgB me x) n).2
theorem tgR_asc (me : Int) (x : Nat → Ent) (n : Nat) : ∀ j k, j < k → k < (tgR me x n).1 → (tgR me x n).2 j < (tgR me x n).2 k := by
  unfold tgR
  cases (x me.toNat).dr
  · exact nz_asc me _ _
  · exact tgA_asc me x n
theorem tgR_mem {me : Int} {x : Nat → Ent} {n j : Nat} (hj : j < (tgR me x n).1) : ∃ i : Nat, i < n ∧ tgB me x i = true ∧ (i : Int) = (tgR me x n).2 j := by
  have key : ∀ v, (∃ j, j < (tgA me x n).1 ∧ (tgA me x n).2 j = v) → ∃ i : Nat, i < n ∧ tgB me x i = true ∧ (i : Int) = v := fun v => ((fil_ok (tgB me x) n).1 v).1
  unfold tgR at hj ⊢
  cases hd : (x me.toNat).dr
  · rw [hd] at hj
    exact key _ (nz_mem hj).1
  · rw [hd] at hj
    exact key _ ⟨j, hj, rfl⟩
/-- what is told of each of them -/
def TgOk (me : Int) (x : Nat → Ent) (n : Nat) (v : Int) : Prop := (0 ≤ v ∧ v < (n : Int)) ∧ v ≠ me ∧ (x v.toNat).st ≠ 2 ∧ (x v.toNat).dr = false
theorem TgOk_of {me : Int} {x : Nat → Ent} {n i : Nat} (hi : i < n) (hb : tgB me x i = true) : TgOk me x n i := by
  unfold tgB at hb
  simp only [Bool.and_eq_true, bne_iff_ne, ne_eq, Bool.not_eq_true'] at hb
  refine ⟨by omega, hb.1.1, ?_, ?_⟩
  · rw [Int.toNat_natCast]; exact hb.1.2
  · rw [Int.toNat_natCast]; exact hb.2
theorem tz_in {me : Int} {n : Nat} (h : 0 ≤ me ∧ me < (n : Int)) (x : Nat → Ent) : tzL me x n = (tgR me x n).1 := if_pos h
theorem tz_ok {me : Int} {n : Nat} (h : 0 ≤ me ∧ me < (n : Int)) (x : Nat → Ent) {i : Nat} (hi : i < tzL me x n) : TgOk me x n (tzE me x n i) := by
  have hL := tz_in h x
  have hm := (insA_ok x (tgR me x n).2 (tgR me x n).1 (tgR_asc me x n)).1
  unfold tzE
  rw [hL] at hi ⊢
  obtain ⟨j, hj, e⟩ := (hm _).1 ⟨i, hi, rfl⟩
  obtain ⟨k, hk, hb, e2⟩ := tgR_mem hj
  rw [← e, ← e2]
  exact TgOk_of hk hb
theorem tz_lex {me : Int} {n : Nat} (h : 0 ≤ me ∧ me < (n : Int)) (x : Nat → Ent) {i : Nat} (hi : i + 1 < tzL me x n) : lexI x (tzE me x n i) (tzE me x n (i + 1)) := by
  have hL := tz_in h x
  have hm := (insA_ok x (tgR me x n).2 (tgR me x n).1 (tgR_asc me x n)).2
  unfold tzE
  rw [hL] at hi ⊢
  exact hm i hi
theorem nz_count {me : Int} {y : Nat → Int} {d : Nat} (ha : ∀ j k, j < k → k < d → y j < y k) (hn : ∀ j, j < d → y j ≠ me) : nzL me y d = min d 2 := by
  unfold nzL
  by_cases h0 : nxD me y d = 0
  · rw [if_pos h0]
    rcases Nat.eq_zero_or_pos d with h | h
    · omega
    · exact absurd ((nxD_none me y d).1 h0 0 h) (hn 0 h)
  · rw [if_neg h0]
    have hd : 0 < d := by
      rcases Nat.eq_zero_or_pos d with h | h
      · subst h
        exact absurd ((nxD_none me y 0).2 fun j hj => absurd hj (Nat.not_lt_zero j)) h0
      · exact h
    have hB := nxB_ok h0
    have hA := nxA_ok h0
    generalize nxB me y d = b at hB
    generalize nxA me y d = a at hA
    split
    · rename_i hm
      obtain rfl : b = a := by omega
      by_cases h2 : d < 2
      · omega
      · exfalso
        have h01 := ha 0 1 (by omega) (by omega)
        have n0 := hn 0 hd
        have n1 := hn 1 (by omega)
        rcases hB with ⟨⟨j, j1, j2, j3⟩, j4⟩ | ⟨g1, ⟨j, j1, j2, j3⟩, j4⟩
        · rcases hA with ⟨⟨k, k1, k2, k3⟩, k4⟩ | ⟨f1, _, k4⟩
          · omega
          · have := f1 0 hd
            have := j4 0 hd (by omega)
            have := k4 1 (by omega) n1
            omega
        · rcases hA with ⟨⟨k, k1, k2, k3⟩, k4⟩ | ⟨f1, _, k4⟩
          · have := g1 1 (by omega)
            have := k4 1 (by omega) (by omega)
            have := j4 0 hd n0
            omega
          · have := f1 0 hd
            have := g1 0 hd
            omega
    · rename_i hm
      by_cases h2 : d < 2
      · obtain rfl : d = 1 := by omega
        have : ∀ {v : Int}, (∃ j, j < 1 ∧ y j = v) → v = y 0 := fun ⟨j, hj, e⟩ => by
          obtain rfl : j = 0 := by omega
          exact e.symm
        have eb : b = y 0 := by
          rcases hB with ⟨⟨j, j1, j2, j3⟩, j4⟩ | ⟨g1, ⟨j, j1, j2, j3⟩, j4⟩ <;> exact this ⟨j, j1, j3⟩
        have ea : a = y 0 := by
          rcases hA with ⟨⟨j, j1, j2, j3⟩, j4⟩ | ⟨g1, ⟨j, j1, j2, j3⟩, j4⟩ <;> exact this ⟨j, j1, j3⟩
        omega
      · omega
theorem tz_count {me : Int} {n : Nat} (h : 0 ≤ me ∧ me < (n : Int)) (x : Nat → Ent) : tzL me x n = match (x me.toNat).dr with | true => (tgA me x n).1 | false => min (tgA me x n).1 2 := by
  rw [tz_in h x]
  unfold tgR
  cases hd : (x me.toNat).dr
  · refine nz_count (tgA_asc me x n) fun j hj => ?_
    obtain ⟨i, hi, hb, e⟩ := ((fil_ok (tgB me x) n).1 ((tgA me x n).2 j)).1 ⟨j, hj, rfl⟩
    rw [← e]
    exact (TgOk_of hi hb).2.1
  · rfl

end Go.Proofs.Ytggneleipimijaa.En
