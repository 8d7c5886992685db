/- Texts put together: RV. -/
import Derived.Test.YtggneleipimijaaG14
/- RingStill: its law. -/
namespace Go.Proofs.Ytggneleipimijaa.En
open Go
set_option linter.unusedVariables false
set_option linter.unusedSimpArgs false
set_option maxRecDepth 20000
set_option maxHeartbeats 1000000
theorem iteL_one (b : Bool) (p q : Int) : iteL b [.lit (.int .i64 p)] [.lit (.int .i64 q)] = [.lit (.int .i64 (bif b then p else q))] := rfl
theorem iteL_ff (x : FV) : iteL false [] [x] = [x] := rfl
theorem sel_one (x : FV) (j : Nat) : selL (chunks 1 1 [x]) j = [x] := rfl
theorem sel_nil (sz : Nat) (l : List FV) (j : Nat) : selL (chunks sz 0 l) j = [] := rfl
theorem sel_oneF (x : FV) : selL (chunks 1 1 [x]) = fun _ => [x] := rfl
theorem intE_ap (x : Nat → Int) (j : Nat) : intE x j = [.lit (.int .i64 (x j))] := rfl
theorem ble_s0 (j : Nat) : Nat.ble (j + 1) 0 = false := rfl
theorem IntE_fun (f : Nat → Int) : IntE (fun i => [.lit (.int .i64 (f i))]) := ⟨f, rfl⟩
theorem intOf_fun (f : Nat → Int) : intOf (fun i => [.lit (.int .i64 (f i))]) = f := rfl
theorem iteL_ffE (x : Nat → Ent) (j : Nat) : iteL false [] (entE x j) = entE x j := rfl
theorem entE_fun (x : Nat → Ent) : EntE (fun j => entE x j) := ⟨x, rfl⟩
theorem entOf_fun (x : Nat → Ent) : entOf (fun j => entE x j) = x := rfl
/-- what same asks of both answers -/
theorem still_same {me : Int} {x y : Nat → Int} {n m : Nat} (h : SameBut me x n y m) : nzL me x n = nzL me y m ∧ (nzN me x n = true → nzL me x n = 0) ∧ (nzN me y m = true → nzL me x n = 0) ∧ nzL me x n ≤ 1048576 ∧ Agree (nzL me x n) (nzE me x n) (nzE me y m) := by
  have h1 := h.nz
  have hn : ∀ (x : Nat → Int) (n : Nat), nzN me x n = true → nzL me x n = 0 := fun x n h => by
    have := Nat.eq_of_beq_eq_true h
    simp only [nzL, this, reduceIte]
  refine ⟨h1.1, hn x n, fun h => by rw [h1.1]; exact hn y m h, ?_, h1.2⟩
  unfold nzL
  split
  · omega
  · split <;> omega
theorem same_of {me : Int} {x y : Nat → Int} {n m : Nat} (h1 : ∀ i, i < n → ∃ j, j < m ∧ y j = x i) (h2 : ∀ j, j < m → y j = me ∨ ∃ i, i < n ∧ x i = y j) : SameBut me x n y m := fun v hv => by
  constructor
  · rintro ⟨i, hi, e⟩
    obtain ⟨j, hj, e2⟩ := h1 i hi
    exact ⟨j, hj, e2.trans e⟩
  · rintro ⟨j, hj, e⟩
    rcases h2 j hj with h | ⟨i, hi, e2⟩
    · exact absurd (e.symm.trans h) hv
    · exact ⟨i, hi, e2.trans e⟩
theorem tg_reL (load : Int) (x : Nat → Ent) (me : Int) (m n : Nat) : tgR me (reL load m x) n = tgR me x n := by
  have h1 : ∀ me, tgB me (reL load m x) = tgB me x := fun me => funext fun i => by
    unfold tgB reL
    rw [(reL_ok load i m 0 x).1, (reL_ok load i m 0 x).2]
  have h2 : ∀ me, tgA me (reL load m x) n = tgA me x n := fun me => by rw [tgA_fil, tgA_fil, h1]
  have h3 : ∀ j, (reL load m x j).dr = (x j).dr := fun j => (reL_ok load j m 0 x).2
  unfold tgR
  rw [h3, h2]
theorem tz_reL (load : Int) (x : Nat → Ent) (me : Int) (m n : Nat) : tzL me (reL load m x) n = tzL me x n := by
  unfold tzL
  rw [tg_reL]
theorem tz_holds (load : Int) (x : Nat → Ent) (me : Int) (m n : Nat) : ∀ j, j < tzL me x n → orB (tzE me x n j) (tzE me (reL load m x) n) (tzL me (reL load m x) n) = true := fun j hj => by
  rw [tz_reL]
  have hi : 0 ≤ me ∧ me < (n : Int) := by
    unfold tzL at hj
    split at hj
    · assumption
    · omega
  have hL := tz_in hi x
  have hL2 := tz_in hi (reL load m x)
  have m1 := (insA_ok x (tgR me x n).2 (tgR me x n).1 (tgR_asc me x n)).1
  have m2 := (insA_ok (reL load m x) (tgR me (reL load m x) n).2 (tgR me (reL load m x) n).1 (tgR_asc me (reL load m x) n)).1
  rw [tg_reL] at m2
  have e2 : tzE me (reL load m x) n = insA (reL load m x) (tgR me x n).1 (tgR me x n).2 := by
    unfold tzE
    rw [hL2, tg_reL]
  have e1 : tzE me x n = insA x (tgR me x n).1 (tgR me x n).2 := by
    unfold tzE
    rw [hL]
  rw [e1, e2, hL]
  rw [hL] at hj
  obtain ⟨i, h1, h2⟩ := (m2 _).2 ((m1 _).1 ⟨j, hj, rfl⟩)
  exact foldF_or _ _ _ (.inr ⟨i, Nat.zero_le i, by omega, by simpa using h2.symm⟩)
theorem bifle (a b : Nat) (p q : Int) : (bif Nat.ble a b then p else q) = if a ≤ b then p else q := by
  by_cases h : a ≤ b
  · rw [ble_tt h, if_pos h]; rfl
  · rw [ble_false h, if_neg h]; rfl
theorem ble_self (a : Nat) : Nat.ble a a = true := ble_tt (Nat.le_refl a)
theorem ble_succ (a : Nat) : Nat.ble (a + 1) a = false := ble_false (by omega)
theorem tz_le2 (me : Int) (x : Nat → Ent) (n : Nat) : tzL me x n ≤ n + 2 := by
  unfold tzL
  split
  · unfold tgR
    cases (x me.toNat).dr
    · have : nzL me (tgA me x n).2 (tgA me x n).1 ≤ 2 := by
        unfold nzL
        split
        · omega
        · split <;> omega
      dsimp only; omega
    · have := (tgA_ok me x n).1
      dsimp only; omega
  · omega
theorem res_RStill (nl : Bool) (n : Nat) (l : Nat → Int) (me turn : Int) (nl3 : Bool) (n3 : Nat) (x : Nat → Ent) (load : Int) (h1 : nl = true → n = 0) (h3 : LnOk nl3 n3) : (tgt_RStill nl n l me turn nl3 n3 x load).res = some (out0 (.v (AB true))) := by
  refine T.over_eq _ (tree_RStill nl n l me turn nl3 n3 x load) ?_
  have hc : min n 8 ≤ 8 := Nat.min_le_right _ _
  have ht : min n3 5 ≤ 5 := Nat.min_le_right _ _
  have a0 : (nl = true → n = 0) = True := eq_true h1
  have a1 : EntL nl3 n3 (entE x) := ⟨entN _ _, h3⟩
  have b2 : (0 : Int) ≤ 5 ∧ (5 : Int) ≤ 1000 := by decide
  simp only [T.res_br, T.res_ret, T.res_bad, a0, a1, b2, IntE_ok, EntE_ok, eq_self, and_self, pb_tt, reduceIte, intOf_intE, entOf_entE]
  clear a0 a1
  generalize min n 8 = c at hc ⊢
  generalize min n3 5 = t at ht ⊢
  have w1 : IntKind.wrap .i64 ((c : Int) + 1) = ((c + 1 : Nat) : Int) := by rw [wrapI (by omega)]; rfl
  have w2 : (0 : Int) < ((c + 1 : Nat) : Int) ∧ ((c + 1 : Nat) : Int) ≤ 9223372036854775807 := by omega
  obtain ⟨k, hk, hkc⟩ : ∃ k : Nat, turn % ((c + 1 : Nat) : Int) = k ∧ k ≤ c := ⟨(turn % ((c + 1 : Nat) : Int)).toNat, by
    have := Int.emod_nonneg turn (show ((c + 1 : Nat) : Int) ≠ 0 by omega)
    omega, by
    have := Int.emod_lt_of_pos turn (show (0 : Int) < ((c + 1 : Nat) : Int) by omega)
    omega⟩
  have w3 : (0 : Int) ≤ (k : Int) ∧ (k : Int) ≤ (c : Int) := by omega
  have b1 : (Nat.ble c c && (!Nat.beq c 0 || Nat.beq c 0)) = true := by rw [ble_tt (Nat.le_refl _), Bool.or_comm, beq_or]; rfl
  have b3 : (Nat.beq c 0 = true → c = 0) = True := eq_true Nat.eq_of_beq_eq_true
  have b4 : c ≤ 1048576 := by omega
  generalize hM : me % 12 = M
  generalize hLf : (fun j => l j % 12) = L
  simp only [w1, hk, decide_eq_true w2, decide_eq_true w3, b1, b3, b4, Int.toNat_natCast, Nat.zero_add, Nat.sub_zero, iteL_one, iteL_ff, sel_one, sel_nil, sel_oneF, intE_ap, IntE_fun, intOf_fun, ble_s0, iteL_ffE, entE_fun, entOf_fun, EntE_ok, IntE_ok, eq_self, and_self, true_and, pb_tt, reduceIte]
  generalize (fun j => entR (x j)) = X
  have n1 : ∀ (t : Nat) (x : Nat → Ent), EntN t (entE x) := fun t x => entN _ _
  have n0 : ∀ e, EntN 0 e := fun e i hi => absurd hi (Nat.not_lt_zero i)
  have s1 : Agree (nzL M L c) (nzE M L c) (nzE M L c) := fun _ _ => rfl
  have cA : c = 0 → pb (nzL M L c = nzL M (fun i => M) 1 ∧ (nzN M L c = true → nzL M L c = 0) ∧ (nzN M (fun i => M) 1 = true → nzL M L c = 0) ∧ nzL M L c ≤ 1048576 ∧ Agree (nzL M L c) (nzE M L c) (nzE M (fun i => M) 1)) = true := fun h => pb_true (still_same (same_of (fun i hi => by omega) (fun j hj => .inl rfl)))
  have hS : ∀ (R : Nat → Int) (N : Nat), (∀ i, i < c → ∃ j, j < N ∧ R j = L i) → (∀ j, j < N → R j = M ∨ ∃ i, i < c ∧ L i = R j) → pb (nzL M L c = nzL M R N ∧ (nzN M L c = true → nzL M L c = 0) ∧ (nzN M R N = true → nzL M L c = 0) ∧ nzL M L c ≤ 1048576 ∧ Agree (nzL M L c) (nzE M L c) (nzE M R N)) = true := fun R N g1 g2 => pb_true (still_same (same_of g1 g2))
  rcases Nat.eq_zero_or_pos t with rfl | htp
  · have z0 : ∀ X, tzL 0 X 0 = 0 := fun X => if_neg (by omega)
    simp only [z0, n0, show Nat.beq 0 0 = true from rfl, show ((0 : Nat) != 0) = false from rfl, bne_self_eq_false, Int.natCast_zero, Nat.not_lt_zero, false_implies, implies_true, show (0 : Nat) < 20 from by decide, show (0 : Nat) ≤ 1048576 from by decide, Bool.false_eq_true, and_self, pb_tt, reduceIte]
    have sm : ∀ e, e ≤ 100 → smallB e 8 = true := fun e he => smallB_le (by omega) (by omega)
    have big : ∀ e, e ≤ 100 → (e ≤ 1048576) = True := fun e he => eq_true (by omega)
    by_cases hc0 : c = 0
    · have e : Nat.beq c 0 = true := by rw [hc0]; rfl
      simp only [e, cA hc0, big 1 (by decide), true_and, and_self, pb_tt, reduceIte]
    have e : Nat.beq c 0 = false := beq_ff hc0
    have ec : Nat.ble c 0 = false := ble_false (by omega)
    by_cases hck : c - k = 0
    · have e2 : Nat.beq (c - k) 0 = true := by rw [hck]; rfl
      have e3 : Nat.beq k 0 = false := beq_ff (by omega)
      have e4 : Nat.ble k 0 = false := ble_false (by omega)
      have e5 : Nat.ble (k + c) k = false := ble_false (by omega)
      have hR := hS (fun i => bif Nat.ble (i + 1) (k + c) then bif Nat.ble (i + 1) k then L i else L (i - k) else M) (k + c + 1) (fun i hi => ⟨k + i, by omega, by
        simp only [bifle]
        rw [if_pos (by omega), if_neg (by omega), Nat.add_sub_cancel_left]⟩) (fun j hj => by
        simp only [bifle]
        split
        · split
          · exact .inr ⟨j, by omega, rfl⟩
          · exact .inr ⟨j - k, by omega, rfl⟩
        · exact .inl rfl)
      simp only [e, ec, e2, e3, e4, e5, hR, ble_self, ble_succ, sm k (by omega), sm (k + c) (by omega), sm (k + c + 1) (by omega), big (k + c + 1) (by omega), Bool.and_true, Bool.false_eq_true, true_and, and_self, pb_tt, reduceIte]
    have e2 : Nat.beq (c - k) 0 = false := beq_ff hck
    have e2' : Nat.ble (c - k) 0 = false := ble_false (by omega)
    by_cases hk0 : k = 0
    · have e3 : Nat.beq k 0 = true := by rw [hk0]; rfl
      have e5 : Nat.ble (c - k + c) (c - k) = false := ble_false (by omega)
      have hR := hS (fun i => bif Nat.ble (i + 1) (c - k + c) then bif Nat.ble (i + 1) (c - k) then L (k + i) else L (i - (c - k)) else M) (c - k + c + 1) (fun i hi => ⟨c - k + i, by omega, by
        simp only [bifle]
        rw [if_pos (by omega), if_neg (by omega), Nat.add_sub_cancel_left]⟩) (fun j hj => by
        simp only [bifle]
        split
        · split
          · exact .inr ⟨k + j, by omega, rfl⟩
          · exact .inr ⟨j - (c - k), by omega, rfl⟩
        · exact .inl rfl)
      simp only [e, ec, e2, e2', e3, e5, hR, ble_self, ble_succ, sm (c - k) (by omega), sm (c - k + c) (by omega), sm (c - k + c + 1) (by omega), big (c - k + c + 1) (by omega), Bool.and_true, Bool.false_eq_true, true_and, and_self, pb_tt, reduceIte]
    · have e3 : Nat.beq k 0 = false := beq_ff hk0
      have e5 : Nat.ble (c - k + k) (c - k) = false := ble_false (by omega)
      have e6 : Nat.ble (c - k + k + c) (c - k + k) = false := ble_false (by omega)
      have hR := hS (fun i => bif Nat.ble (i + 1) (c - k + k + c) then bif Nat.ble (i + 1) (c - k + k) then bif Nat.ble (i + 1) (c - k) then L (k + i) else L (i - (c - k)) else L (i - (c - k + k)) else M) (c - k + k + c + 1) (fun i hi => ⟨c - k + k + i, by omega, by
        simp only [bifle]
        rw [if_pos (by omega), if_neg (by omega), Nat.add_sub_cancel_left]⟩) (fun j hj => by
        simp only [bifle]
        split
        · split
          · split
            · exact .inr ⟨k + j, by omega, rfl⟩
            · exact .inr ⟨j - (c - k), by omega, rfl⟩
          · exact .inr ⟨j - (c - k + k), by omega, rfl⟩
        · exact .inl rfl)
      simp only [e, ec, e2, e2', e3, e5, e6, hR, ble_self, ble_succ, sm (c - k) (by omega), sm (c - k + k) (by omega), sm (c - k + k + c) (by omega), sm (c - k + k + c + 1) (by omega), big (c - k + k + c + 1) (by omega), Bool.and_true, Bool.false_eq_true, true_and, and_self, pb_tt, reduceIte]
  · have y1 : Nat.beq t 0 = false := beq_ff (by omega)
    have y2 : Nat.ble t 0 = false := ble_false (by omega)
    have y3 : smallB t 40 = true := smallB_le (by omega) (by omega)
    have y4 : t ≤ 1048576 := by omega
    have y5 : t < 20 := by omega
    have y6 : tzL 0 X t ≤ 1048576 := by have := tz_le2 0 X t; omega
    have y7 : (Nat.beq (tzL 0 X t) 0 = true → tzL 0 X t = 0) = True := eq_true Nat.eq_of_beq_eq_true
    have y8 := tz_holds load X 0 t t
    rw [tz_reL] at y8
    simp only [y1, y2, y3, y4, y5, y6, y7, eq_true y8, n1, ble_self, tz_reL, bne_self_eq_false, Bool.and_self, Bool.and_true, false_implies, implies_true, Bool.false_eq_true, and_self, pb_tt, reduceIte]
    have sm : ∀ e, e ≤ 100 → smallB e 8 = true := fun e he => smallB_le (by omega) (by omega)
    have big : ∀ e, e ≤ 100 → (e ≤ 1048576) = True := fun e he => eq_true (by omega)
    by_cases hc0 : c = 0
    · have e : Nat.beq c 0 = true := by rw [hc0]; rfl
      simp only [e, cA hc0, big 1 (by decide), true_and, and_self, pb_tt, reduceIte]
    have e : Nat.beq c 0 = false := beq_ff hc0
    have ec : Nat.ble c 0 = false := ble_false (by omega)
    by_cases hck : c - k = 0
    · have e2 : Nat.beq (c - k) 0 = true := by rw [hck]; rfl
      have e3 : Nat.beq k 0 = false := beq_ff (by omega)
      have e4 : Nat.ble k 0 = false := ble_false (by omega)
      have e5 : Nat.ble (k + c) k = false := ble_false (by omega)
      have hR := hS (fun i => bif Nat.ble (i + 1) (k + c) then bif Nat.ble (i + 1) k then L i else L (i - k) else M) (k + c + 1) (fun i hi => ⟨k + i, by omega, by
        simp only [bifle]
        rw [if_pos (by omega), if_neg (by omega), Nat.add_sub_cancel_left]⟩) (fun j hj => by
        simp only [bifle]
        split
        · split
          · exact .inr ⟨j, by omega, rfl⟩
          · exact .inr ⟨j - k, by omega, rfl⟩
        · exact .inl rfl)
      simp only [e, ec, e2, e3, e4, e5, hR, ble_self, ble_succ, sm k (by omega), sm (k + c) (by omega), sm (k + c + 1) (by omega), big (k + c + 1) (by omega), Bool.and_true, Bool.false_eq_true, true_and, and_self, pb_tt, reduceIte]
    have e2 : Nat.beq (c - k) 0 = false := beq_ff hck
    have e2' : Nat.ble (c - k) 0 = false := ble_false (by omega)
    by_cases hk0 : k = 0
    · have e3 : Nat.beq k 0 = true := by rw [hk0]; rfl
      have e5 : Nat.ble (c - k + c) (c - k) = false := ble_false (by omega)
      have hR := hS (fun i => bif Nat.ble (i + 1) (c - k + c) then bif Nat.ble (i + 1) (c - k) then L (k + i) else L (i - (c - k)) else M) (c - k + c + 1) (fun i hi => ⟨c - k + i, by omega, by
        simp only [bifle]
        rw [if_pos (by omega), if_neg (by omega), Nat.add_sub_cancel_left]⟩) (fun j hj => by
        simp only [bifle]
        split
        · split
          · exact .inr ⟨k + j, by omega, rfl⟩
          · exact .inr ⟨j - (c - k), by omega, rfl⟩
        · exact .inl rfl)
      simp only [e, ec, e2, e2', e3, e5, hR, ble_self, ble_succ, sm (c - k) (by omega), sm (c - k + c) (by omega), sm (c - k + c + 1) (by omega), big (c - k + c + 1) (by omega), Bool.and_true, Bool.false_eq_true, true_and, and_self, pb_tt, reduceIte]
    · have e3 : Nat.beq k 0 = false := beq_ff hk0
      have e5 : Nat.ble (c - k + k) (c - k) = false := ble_false (by omega)
      have e6 : Nat.ble (c - k + k + c) (c - k + k) = false := ble_false (by omega)
      have hR := hS (fun i => bif Nat.ble (i + 1) (c - k + k + c) then bif Nat.ble (i + 1) (c - k + k) then bif Nat.ble (i + 1) (c - k) then L (k + i) else L (i - (c - k)) else L (i - (c - k + k)) else M) (c - k + k + c + 1) (fun i hi => ⟨c - k + k + i, by omega, by
        simp only [bifle]
        rw [if_pos (by omega), if_neg (by omega), Nat.add_sub_cancel_left]⟩) (fun j hj => by
        simp only [bifle]
        split
        · split
          · split
            · exact .inr ⟨k + j, by omega, rfl⟩
            · exact .inr ⟨j - (c - k), by omega, rfl⟩
          · exact .inr ⟨j - (c - k + k), by omega, rfl⟩
        · exact .inl rfl)
      simp only [e, ec, e2, e2', e3, e5, e6, hR, ble_self, ble_succ, sm (c - k) (by omega), sm (c - k + k) (by omega), sm (c - k + k + c) (by omega), sm (c - k + k + c + 1) (by omega), big (c - k + k + c + 1) (by omega), Bool.and_true, Bool.false_eq_true, true_and, and_self, pb_tt, reduceIte]

end Go.Proofs.Ytggneleipimijaa.En
