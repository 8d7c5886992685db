/- PointsRise: a round, told by epochs alone. -/
import Derived.Test.YtabmkefbceepmaaPK
namespace Go.Proofs.Ytabmkefbceepmaa.En
open Go
set_option linter.unusedVariables false
set_option linter.unusedSimpArgs false
set_option maxRecDepth 20000
abbrev yR (c : Raw17) : Int := c.epoch % 50
abbrev zR (c : Raw17) : Int := Int.tmod (IntKind.wrap .i64 (c.epoch % 50 * 3)) 4
theorem zR_eq (c : Raw17) : zR c = Int.tmod (yR c * 3) 4 := by
  show Int.tmod (IntKind.wrap .i64 (c.epoch % 50 * 3)) 4 = _
  rw [wrapI (by omega)]
theorem learn_R (c : Raw17) (e : Nat → Int) (si : Int) (s : Nat) (h : si = s) (h3 : s < 3) : learnB 4 3 e si (yR c) (zR c) = decide (e s < yR c) := by
  subst h
  have h1 : 0 ≤ yR c ∧ yR c < 50 := by show 0 ≤ c.epoch % 50 ∧ c.epoch % 50 < 50; omega
  have h2 : 0 ≤ zR c ∧ zR c < 4 := by
    rw [zR_eq]
    have : Int.tmod (yR c * 3) 4 = (yR c * 3) % 4 := Int.tmod_eq_emod_of_nonneg (by omega)
    omega
  unfold learnB
  rw [Bool.eq_iff_iff, decide_eq_true_iff, decide_eq_true_iff]
  simp only [Int.toNat_natCast]
  omega
theorem upd_R (c : Raw17) (e : Nat → Int) (s : Nat) (hs : c.shard % 3 = s) : updP (decide (e s < yR c)) e s (yR c) = stR c e := by
  funext j
  simp only [updP, stR, hs]
  by_cases hj : j = s
  · subst hj
    rw [if_pos rfl]
    by_cases h : e j < yR c
    · simp only [h, decide_true, Nat.beq_refl, Bool.and_self, cond_true]; show c.epoch % 50 = _; have : e j < c.epoch % 50 := h; omega
    · simp only [h, decide_false, Bool.false_and, cond_false]; have : ¬ e j < c.epoch % 50 := h; omega
  · have h1 : Nat.beq j s = false := by cases e : Nat.beq j s with
      | false => rfl
      | true => exact absurd (Nat.eq_of_beq_eq_true e) hj
    rw [if_neg (by omega), h1]
    simp only [Bool.and_false, cond_false]
theorem updH_R (c : Raw17) (e : Nat → Int) (s : Nat) (hs : c.shard % 3 = s) (he : ∀ j, 1 ≤ e j) : updP (decide (e s < yR c)) (hofF e) s (zR c) = hofF (stR c e) := by
  funext j
  simp only [updP, stR, hs, hofF]
  by_cases hj : j = s
  · subst hj
    rw [if_pos rfl]
    by_cases h : e j < yR c
    · simp only [h, decide_true, Nat.beq_refl, Bool.and_self, cond_true, zR_eq]
      have h2 : max (e j) (c.epoch % 50) = yR c := by have : e j < c.epoch % 50 := h; show _ = c.epoch % 50; omega
      have h3 := he j
      rw [h2, hof, if_neg (by omega)]
    · simp only [h, decide_false, Bool.false_and, cond_false]
      have h2 : max (e j) (c.epoch % 50) = e j := by have : ¬ e j < c.epoch % 50 := h; omega
      rw [h2]
  · have h1 : Nat.beq j s = false := by cases e : Nat.beq j s with
      | false => rfl
      | true => exact absurd (Nat.eq_of_beq_eq_true e) hj
    rw [if_neg (by omega), h1]
    simp only [Bool.and_false, cond_false]
theorem stR_pos (c : Raw17) (e : Nat → Int) (he : ∀ j, 1 ≤ e j) : ∀ j, 1 ≤ stR c e j := fun j => by
  have := he j
  simp only [stR]
  split <;> omega

theorem stR_at (c : Raw17) (b : Nat → Int) (s : Nat) (hs : c.shard % 3 = s) : stR c b s = if b s < c.epoch % 50 then c.epoch % 50 else b s := by
  simp only [stR, hs, if_true]
  split <;> omega
theorem stR_not (c : Raw17) (b : Nat → Int) (s : Nat) (hs : c.shard % 3 ≠ s) : stR c b s = b s := by
  simp only [stR]
  rw [if_neg (fun h => hs h.symm)]
theorem ptN3 (a b : Nat → Int) : PtN (ptE a b) false 3 := ⟨⟨_, _, rfl⟩, by decide, by decide⟩
theorem round_R (n : Nat) (x : Nat → Raw17) (k i : Nat) (e q b : Nat → Int) (hi : i < n) (hn : (n : Int) ≤ 4611686018427387903) (hk : k ≤ n) (he : ∀ j, 1 ≤ e j) (hq : ∀ j, 1 ≤ q j) :
    ∃ s, (tgt_rise17 false n x k i e (hofF e) q (hofF q) (b 0) (b 1) (b 2)).res = some (.normal, s) ∧
      StLe 4 s (SR17 false n x k (i + 1) (stR (x i) e) (hofF (stR (x i) e)) (stR (x ((i + k) % n)) q) (hofF (stR (x ((i + k) % n)) q)) (stR (x i) b 0) (stR (x i) b 1) (stR (x i) b 2)) := by
  refine T.over_exP (g := fun s => (Ex.normal, s)) (tree_rise17 false n x k i e (hofF e) q (hofF q) (b 0) (b 1) (b 2)) ?_
  have e1 : (0 : Int) ≤ (i : Int) ∧ (i : Int) < (n : Int) := by omega
  have e2 : (i : Int) < (n : Int) := by omega
  have e3 : IntKind.wrap .i64 ((i : Int) + 1) = ((i + 1 : Nat) : Int) := by rw [wrapI (by omega)]; rfl
  have e4 : ¬ (n : Int) = 0 := by omega
  have e5 : Int.tmod (IntKind.wrap .i64 ((i : Int) + (k : Int))) (n : Int) = (((i + k) % n : Nat) : Int) := by rw [wrapI (by omega)]; rfl
  have e6 : (0 : Int) ≤ (((i + k) % n : Nat) : Int) ∧ (((i + k) % n : Nat) : Int) < (n : Int) := by
    have := Nat.mod_lt (i + k) (show n > 0 by omega)
    omega
  have h50 : (0 : Int) < 50 ∧ (50 : Int) ≤ 4611686018427387904 := by omega
  have hP : ∀ a b, pb (PtN (ptE a b) false 3) = true := fun a b => pb_true (ptN3 a b)
  have ee : ∀ a b, epOf (ptE a b) = a := fun _ _ => rfl
  have eh : ∀ a b, hoOf (ptE a b) = b := fun _ _ => rfl
  have d10 : ((1 : Int) == 0) = false := rfl
  have d20 : ((2 : Int) == 0) = false := rfl
  have d21 : ((2 : Int) == 1) = false := rfl
  have i0 : inB 3 0 = true := rfl
  have i1 : inB 3 1 = true := rfl
  have i2 : inB 3 2 = true := rfl
  simp only [T.res_br, T.res_ret, T.res_bad, decide_eq_true_eq, e1, e2, e3, e4, e5, e6, Int.toNat_natCast, pb_true h50, hP, ee, eh, Bool.not_false, and_self, reduceIte]
  have hs3 : (x i).shard % 3 = 0 ∨ (x i).shard % 3 = 1 ∨ (x i).shard % 3 = 2 := by omega
  have ht3 : (x ((i + k) % n)).shard % 3 = 0 ∨ (x ((i + k) % n)).shard % 3 = 1 ∨ (x ((i + k) % n)).shard % 3 = 2 := by omega
  rcases hs3 with hs | hs | hs <;> rcases ht3 with ht | ht | ht
  · have hb0 : stR (x i) b 0 = if b 0 < (x i).epoch % 50 then (x i).epoch % 50 else b 0 := stR_at (x i) b 0 hs
    have hb1 : stR (x i) b 1 = b 1 := stR_not (x i) b 1 (by omega)
    have hb2 : stR (x i) b 2 = b 2 := stR_not (x i) b 2 (by omega)
    simp only [hs, ht, d10, d20, d21, beq_self_eq_true, learn_R (x i) e 0 0 rfl (by decide), learn_R (x ((i + k) % n)) q 0 0 rfl (by decide), upd_R (x i) e 0 hs, upd_R (x ((i + k) % n)) q 0 ht, updH_R (x i) e 0 hs he, updH_R (x ((i + k) % n)) q 0 ht hq, i0, cond_true, reduceIte, gt_iff_lt, Bool.not_true, Bool.false_eq_true, hb0, hb1, hb2, stR_at (x i) e 0 hs, bne_self_eq_false]
    exact ⟨_, rfl, StLe.same (Nat.le_refl 4) rfl rfl rfl fun b => by rcases b with _ | _ | _ | _ | b <;> rfl⟩
  · have hb0 : stR (x i) b 0 = if b 0 < (x i).epoch % 50 then (x i).epoch % 50 else b 0 := stR_at (x i) b 0 hs
    have hb1 : stR (x i) b 1 = b 1 := stR_not (x i) b 1 (by omega)
    have hb2 : stR (x i) b 2 = b 2 := stR_not (x i) b 2 (by omega)
    simp only [hs, ht, d10, d20, d21, beq_self_eq_true, learn_R (x i) e 0 0 rfl (by decide), learn_R (x ((i + k) % n)) q 1 1 rfl (by decide), upd_R (x i) e 0 hs, upd_R (x ((i + k) % n)) q 1 ht, updH_R (x i) e 0 hs he, updH_R (x ((i + k) % n)) q 1 ht hq, i0, cond_true, reduceIte, gt_iff_lt, Bool.not_true, Bool.false_eq_true, hb0, hb1, hb2, stR_at (x i) e 0 hs, bne_self_eq_false]
    exact ⟨_, rfl, StLe.same (Nat.le_refl 4) rfl rfl rfl fun b => by rcases b with _ | _ | _ | _ | b <;> rfl⟩
  · have hb0 : stR (x i) b 0 = if b 0 < (x i).epoch % 50 then (x i).epoch % 50 else b 0 := stR_at (x i) b 0 hs
    have hb1 : stR (x i) b 1 = b 1 := stR_not (x i) b 1 (by omega)
    have hb2 : stR (x i) b 2 = b 2 := stR_not (x i) b 2 (by omega)
    simp only [hs, ht, d10, d20, d21, beq_self_eq_true, learn_R (x i) e 0 0 rfl (by decide), learn_R (x ((i + k) % n)) q 2 2 rfl (by decide), upd_R (x i) e 0 hs, upd_R (x ((i + k) % n)) q 2 ht, updH_R (x i) e 0 hs he, updH_R (x ((i + k) % n)) q 2 ht hq, i0, cond_true, reduceIte, gt_iff_lt, Bool.not_true, Bool.false_eq_true, hb0, hb1, hb2, stR_at (x i) e 0 hs, bne_self_eq_false]
    exact ⟨_, rfl, StLe.same (Nat.le_refl 4) rfl rfl rfl fun b => by rcases b with _ | _ | _ | _ | b <;> rfl⟩
  · have hb0 : stR (x i) b 0 = b 0 := stR_not (x i) b 0 (by omega)
    have hb1 : stR (x i) b 1 = if b 1 < (x i).epoch % 50 then (x i).epoch % 50 else b 1 := stR_at (x i) b 1 hs
    have hb2 : stR (x i) b 2 = b 2 := stR_not (x i) b 2 (by omega)
    simp only [hs, ht, d10, d20, d21, beq_self_eq_true, learn_R (x i) e 1 1 rfl (by decide), learn_R (x ((i + k) % n)) q 0 0 rfl (by decide), upd_R (x i) e 1 hs, upd_R (x ((i + k) % n)) q 0 ht, updH_R (x i) e 1 hs he, updH_R (x ((i + k) % n)) q 0 ht hq, i1, cond_true, reduceIte, gt_iff_lt, Bool.not_true, Bool.false_eq_true, hb0, hb1, hb2, stR_at (x i) e 1 hs, bne_self_eq_false]
    exact ⟨_, rfl, StLe.same (Nat.le_refl 4) rfl rfl rfl fun b => by rcases b with _ | _ | _ | _ | b <;> rfl⟩
  · have hb0 : stR (x i) b 0 = b 0 := stR_not (x i) b 0 (by omega)
    have hb1 : stR (x i) b 1 = if b 1 < (x i).epoch % 50 then (x i).epoch % 50 else b 1 := stR_at (x i) b 1 hs
    have hb2 : stR (x i) b 2 = b 2 := stR_not (x i) b 2 (by omega)
    simp only [hs, ht, d10, d20, d21, beq_self_eq_true, learn_R (x i) e 1 1 rfl (by decide), learn_R (x ((i + k) % n)) q 1 1 rfl (by decide), upd_R (x i) e 1 hs, upd_R (x ((i + k) % n)) q 1 ht, updH_R (x i) e 1 hs he, updH_R (x ((i + k) % n)) q 1 ht hq, i1, cond_true, reduceIte, gt_iff_lt, Bool.not_true, Bool.false_eq_true, hb0, hb1, hb2, stR_at (x i) e 1 hs, bne_self_eq_false]
    exact ⟨_, rfl, StLe.same (Nat.le_refl 4) rfl rfl rfl fun b => by rcases b with _ | _ | _ | _ | b <;> rfl⟩
  · have hb0 : stR (x i) b 0 = b 0 := stR_not (x i) b 0 (by omega)
    have hb1 : stR (x i) b 1 = if b 1 < (x i).epoch % 50 then (x i).epoch % 50 else b 1 := stR_at (x i) b 1 hs
    have hb2 : stR (x i) b 2 = b 2 := stR_not (x i) b 2 (by omega)
    simp only [hs, ht, d10, d20, d21, beq_self_eq_true, learn_R (x i) e 1 1 rfl (by decide), learn_R (x ((i + k) % n)) q 2 2 rfl (by decide), upd_R (x i) e 1 hs, upd_R (x ((i + k) % n)) q 2 ht, updH_R (x i) e 1 hs he, updH_R (x ((i + k) % n)) q 2 ht hq, i1, cond_true, reduceIte, gt_iff_lt, Bool.not_true, Bool.false_eq_true, hb0, hb1, hb2, stR_at (x i) e 1 hs, bne_self_eq_false]
    exact ⟨_, rfl, StLe.same (Nat.le_refl 4) rfl rfl rfl fun b => by rcases b with _ | _ | _ | _ | b <;> rfl⟩
  · have hb0 : stR (x i) b 0 = b 0 := stR_not (x i) b 0 (by omega)
    have hb1 : stR (x i) b 1 = b 1 := stR_not (x i) b 1 (by omega)
    have hb2 : stR (x i) b 2 = if b 2 < (x i).epoch % 50 then (x i).epoch % 50 else b 2 := stR_at (x i) b 2 hs
    simp only [hs, ht, d10, d20, d21, beq_self_eq_true, learn_R (x i) e 2 2 rfl (by decide), learn_R (x ((i + k) % n)) q 0 0 rfl (by decide), upd_R (x i) e 2 hs, upd_R (x ((i + k) % n)) q 0 ht, updH_R (x i) e 2 hs he, updH_R (x ((i + k) % n)) q 0 ht hq, i2, cond_true, reduceIte, gt_iff_lt, Bool.not_true, Bool.false_eq_true, hb0, hb1, hb2, stR_at (x i) e 2 hs, bne_self_eq_false]
    exact ⟨_, rfl, StLe.same (Nat.le_refl 4) rfl rfl rfl fun b => by rcases b with _ | _ | _ | _ | b <;> rfl⟩
  · have hb0 : stR (x i) b 0 = b 0 := stR_not (x i) b 0 (by omega)
    have hb1 : stR (x i) b 1 = b 1 := stR_not (x i) b 1 (by omega)
    have hb2 : stR (x i) b 2 = if b 2 < (x i).epoch % 50 then (x i).epoch % 50 else b 2 := stR_at (x i) b 2 hs
    simp only [hs, ht, d10, d20, d21, beq_self_eq_true, learn_R (x i) e 2 2 rfl (by decide), learn_R (x ((i + k) % n)) q 1 1 rfl (by decide), upd_R (x i) e 2 hs, upd_R (x ((i + k) % n)) q 1 ht, updH_R (x i) e 2 hs he, updH_R (x ((i + k) % n)) q 1 ht hq, i2, cond_true, reduceIte, gt_iff_lt, Bool.not_true, Bool.false_eq_true, hb0, hb1, hb2, stR_at (x i) e 2 hs, bne_self_eq_false]
    exact ⟨_, rfl, StLe.same (Nat.le_refl 4) rfl rfl rfl fun b => by rcases b with _ | _ | _ | _ | b <;> rfl⟩
  · have hb0 : stR (x i) b 0 = b 0 := stR_not (x i) b 0 (by omega)
    have hb1 : stR (x i) b 1 = b 1 := stR_not (x i) b 1 (by omega)
    have hb2 : stR (x i) b 2 = if b 2 < (x i).epoch % 50 then (x i).epoch % 50 else b 2 := stR_at (x i) b 2 hs
    simp only [hs, ht, d10, d20, d21, beq_self_eq_true, learn_R (x i) e 2 2 rfl (by decide), learn_R (x ((i + k) % n)) q 2 2 rfl (by decide), upd_R (x i) e 2 hs, upd_R (x ((i + k) % n)) q 2 ht, updH_R (x i) e 2 hs he, updH_R (x ((i + k) % n)) q 2 ht hq, i2, cond_true, reduceIte, gt_iff_lt, Bool.not_true, Bool.false_eq_true, hb0, hb1, hb2, stR_at (x i) e 2 hs, bne_self_eq_false]
    exact ⟨_, rfl, StLe.same (Nat.le_refl 4) rfl rfl rfl fun b => by rcases b with _ | _ | _ | _ | b <;> rfl⟩

end Go.Proofs.Ytabmkefbceepmaa.En
