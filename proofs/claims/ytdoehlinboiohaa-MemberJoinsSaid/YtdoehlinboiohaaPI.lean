/- MemberJoins. -/
import Derived.Test.YtdoehlinboiohaaPH
namespace Go.Proofs.Ytdoehlinboiohaa.En
open Go
set_option linter.unusedVariables false
set_option linter.unusedSimpArgs false
set_option maxRecDepth 20000
set_option maxHeartbeats 1000000
def vals (n : Nat) (x : Nat → Ent) (t : Nat) : Option Ent := if t < n then some (x t) else none
def omax : Option Ent → Option Ent → Option Ent
  | none, b => b
  | a, none => a
  | some a, some b => some (mxE a b)
theorem mxE_comm (a b : Ent) : mxE a b = mxE b a := by
  rw [mxE_eq, mxE_eq]
  rcases less_tri a b with ⟨h1, h2, _⟩ | ⟨h1, h2, _⟩ | ⟨h1, h2, h3⟩
  · simp [h1, h2]
  · simp [h1, h2]
  · rw [h1, h2, (eqE_iff a b).1 h3]
theorem omax_none (a : Option Ent) : omax a none = a := by cases a <;> rfl
theorem none_omax (a : Option Ent) : omax none a = a := rfl
theorem omax_comm (a b : Option Ent) : omax a b = omax b a := by cases a <;> cases b <;> simp [omax, mxE_comm]
theorem omax_assoc (a b c : Option Ent) : omax (omax a b) c = omax a (omax b c) := by cases a <;> cases b <;> cases c <;> simp [omax, mxE_assoc]
theorem omax_self (a : Option Ent) : omax a a = a := by cases a <;> simp [omax, mxE_self]
theorem omax_left (a b c : Option Ent) : omax a (omax b c) = omax b (omax a c) := by rw [← omax_assoc, omax_comm a b, omax_assoc]
theorem omax_self2 (a b : Option Ent) : omax a (omax a b) = omax a b := by rw [← omax_assoc, omax_self]
theorem vals_merge (x : Nat → Ent) (n : Nat) (a : Acc) (t : Nat) : vals (mergeL x n a).1 (mergeL x n a).2 t = omax (vals a.1 a.2 t) (vals n x t) := by
  unfold vals
  rw [mergeL_fst]
  by_cases h : t < max a.1 n
  · rw [if_pos h, mergeL_snd x a t n h]
    by_cases h1 : t < a.1 <;> by_cases h2 : t < n <;> simp [h1, h2, omax]
    omega
  · rw [if_neg h, if_neg (by omega), if_neg (by omega)]
    rfl
theorem vals_acc0 (t : Nat) : vals acc0.1 acc0.2 t = none := if_neg (Nat.not_lt_zero t)
theorem same_of {n m : Nat} {x y : Nat → Ent} (h : ∀ t, vals n x t = vals m y t) : sameE n x m y = true := by
  have h1 : n = m := by
    rcases Nat.lt_trichotomy n m with h1 | h1 | h1
    · have := h n
      simp only [vals, Nat.lt_irrefl, if_false, h1, if_true] at this
      cases this
    · exact h1
    · have := h m
      simp only [vals, Nat.lt_irrefl, if_false, h1, if_true] at this
      cases this
  refine pb_true ⟨h1, fun i hi => ?_⟩
  have := h i
  rw [vals, vals, if_pos hi, if_pos (by omega)] at this
  rw [eqE_iff]
  exact Option.some.inj this
/-- a list that was told, and what it is told as -/
abbrev lst (n : Nat) (x : Nat → Ent) : Lst := ⟨Nat.beq n 0, n, x⟩
def mrg (l : List Acc) : Acc := l.foldl (fun a b => mergeL b.2 b.1 a) acc0
theorem vals_some {n : Nat} {x : Nat → Ent} {t : Nat} {a : Ent} (h : vals n x t = some a) : t < n ∧ x t = a := by
  unfold vals at h
  split at h
  · rename_i h1; exact ⟨h1, Option.some.inj h⟩
  · cases h
theorem omax_some {a b : Option Ent} {c : Ent} (h : omax a b = some c) : (a = some c ∨ b = some c) ∧ (∀ d, a = some d → lessB c d = false) ∧ (∀ d, b = some d → lessB c d = false) := by
  cases a with
  | none => cases b with
    | none => cases h
    | some b => cases h; exact ⟨.inr rfl, fun d hd => (by cases hd), fun d hd => (by cases hd; exact less_irr _)⟩
  | some a => cases b with
    | none => cases h; exact ⟨.inl rfl, fun d hd => (by cases hd; exact less_irr _), fun d hd => (by cases hd)⟩
    | some b =>
      cases h
      refine ⟨?_, fun d hd => (by cases hd; exact mxE_left _ _), fun d hd => (by cases hd; exact mxE_right _ _)⟩
      rw [mxE_eq]
      split
      · exact .inr rfl
      · exact .inl rfl
/-- each entry was told; none told is greater -/
theorem told_of (N : Nat) (R : Nat → Ent) (n1 : Nat) (x1 : Nat → Ent) (n2 : Nat) (x2 : Nat → Ent) (n3 : Nat) (x3 : Nat → Ent)
    (hv : ∀ t, vals N R t = omax (omax (vals n1 x1 t) (vals n2 x2 t)) (vals n3 x3 t)) (t : Nat) (ht : t < N) :
    ((t < n1 ∧ eqE (x1 t) (R t) = true) ∨ (t < n2 ∧ eqE (x2 t) (R t) = true) ∨ (t < n3 ∧ eqE (x3 t) (R t) = true)) ∧
    (t < n1 → lessB (R t) (x1 t) = false) ∧ (t < n2 → lessB (R t) (x2 t) = false) ∧ (t < n3 → lessB (R t) (x3 t) = false) := by
  have h0 := hv t
  rw [show vals N R t = some (R t) from if_pos ht] at h0
  obtain ⟨h1, h2, h3⟩ := omax_some h0.symm
  have hin : ∀ (n : Nat) (x : Nat → Ent), vals n x t = some (R t) → t < n ∧ eqE (x t) (R t) = true := fun n x h => by
    obtain ⟨k1, k2⟩ := vals_some h
    exact ⟨k1, by rw [k2]; exact eqE_refl _⟩
  have hle : ∀ c, omax (vals n1 x1 t) (vals n2 x2 t) = some c → (t < n1 → lessB (R t) (x1 t) = false) ∧ (t < n2 → lessB (R t) (x2 t) = false) := fun c hc => by
    obtain ⟨_, k2, k3⟩ := omax_some hc
    exact ⟨fun h => ge_trans (h2 c hc) (k2 _ (if_pos h)), fun h => ge_trans (h2 c hc) (k3 _ (if_pos h))⟩
  refine ⟨?_, ?_, ?_, fun h => h3 _ (if_pos h)⟩
  · rcases h1 with h1 | h1
    · obtain ⟨k1, _⟩ := omax_some h1
      rcases k1 with k1 | k1
      · exact .inl (hin n1 x1 k1)
      · exact .inr (.inl (hin n2 x2 k1))
    · exact .inr (.inr (hin n3 x3 h1))
  all_goals
    intro h
    cases hc : omax (vals n1 x1 t) (vals n2 x2 t) with
    | some c => first | exact (hle c hc).1 h | exact (hle c hc).2 h
    | none =>
      exfalso
      unfold vals at hc
      simp only [h, if_true] at hc
      first
      | cases hc
      | (split at hc <;> cases hc)
theorem MQ1 (n1 : Nat) (x1 : Nat → Ent) : mergeQ (lstOf (selL (chunks 1 1 [.fs (Nat.beq n1 0) 5 n1 (entE x1)]))) 1 = (mergeL x1 n1 acc0) := rfl
theorem LL1 {n1 : Nat} {x1 : Nat → Ent} (h1 : n1 ≤ 1000) : LstL false 1 (selL (chunks 1 1 [.fs (Nat.beq n1 0) 5 n1 (entE x1)])) := by
  refine ⟨fun i hi => ?_, by decide, by simp, fun i hi => ?_⟩
  all_goals rcases i with _ | i
  · exact ⟨_, rfl, FV.le.refl _⟩
  · omega
  · exact ⟨h1, fun h => Nat.eq_of_beq_eq_true h⟩
  · omega
theorem MQ2 (n1 : Nat) (x1 : Nat → Ent) (n2 : Nat) (x2 : Nat → Ent) : mergeQ (lstOf (selL (chunks 1 2 [.fs (Nat.beq n1 0) 5 n1 (entE x1), .fs (Nat.beq n2 0) 5 n2 (entE x2)]))) 2 = (mergeL x2 n2 (mergeL x1 n1 acc0)) := rfl
theorem LL2 {n1 : Nat} {x1 : Nat → Ent} {n2 : Nat} {x2 : Nat → Ent} (h1 : n1 ≤ 1000) (h2 : n2 ≤ 1000) : LstL false 2 (selL (chunks 1 2 [.fs (Nat.beq n1 0) 5 n1 (entE x1), .fs (Nat.beq n2 0) 5 n2 (entE x2)])) := by
  refine ⟨fun i hi => ?_, by decide, by simp, fun i hi => ?_⟩
  all_goals rcases i with _ | _ | i
  · exact ⟨_, rfl, FV.le.refl _⟩
  · exact ⟨_, rfl, FV.le.refl _⟩
  · omega
  · exact ⟨h1, fun h => Nat.eq_of_beq_eq_true h⟩
  · exact ⟨h2, fun h => Nat.eq_of_beq_eq_true h⟩
  · omega
theorem MQ3 (n1 : Nat) (x1 : Nat → Ent) (n2 : Nat) (x2 : Nat → Ent) (n3 : Nat) (x3 : Nat → Ent) : mergeQ (lstOf (selL (chunks 1 3 [.fs (Nat.beq n1 0) 5 n1 (entE x1), .fs (Nat.beq n2 0) 5 n2 (entE x2), .fs (Nat.beq n3 0) 5 n3 (entE x3)]))) 3 = (mergeL x3 n3 (mergeL x2 n2 (mergeL x1 n1 acc0))) := rfl
theorem LL3 {n1 : Nat} {x1 : Nat → Ent} {n2 : Nat} {x2 : Nat → Ent} {n3 : Nat} {x3 : Nat → Ent} (h1 : n1 ≤ 1000) (h2 : n2 ≤ 1000) (h3 : n3 ≤ 1000) : LstL false 3 (selL (chunks 1 3 [.fs (Nat.beq n1 0) 5 n1 (entE x1), .fs (Nat.beq n2 0) 5 n2 (entE x2), .fs (Nat.beq n3 0) 5 n3 (entE x3)])) := by
  refine ⟨fun i hi => ?_, by decide, by simp, fun i hi => ?_⟩
  all_goals rcases i with _ | _ | _ | i
  · exact ⟨_, rfl, FV.le.refl _⟩
  · exact ⟨_, rfl, FV.le.refl _⟩
  · exact ⟨_, rfl, FV.le.refl _⟩
  · omega
  · exact ⟨h1, fun h => Nat.eq_of_beq_eq_true h⟩
  · exact ⟨h2, fun h => Nat.eq_of_beq_eq_true h⟩
  · exact ⟨h3, fun h => Nat.eq_of_beq_eq_true h⟩
  · omega
theorem MQ5 (n1 : Nat) (x1 : Nat → Ent) (n2 : Nat) (x2 : Nat → Ent) (n3 : Nat) (x3 : Nat → Ent) (n4 : Nat) (x4 : Nat → Ent) (n5 : Nat) (x5 : Nat → Ent) : mergeQ (lstOf (selL (chunks 1 5 [.fs (Nat.beq n1 0) 5 n1 (entE x1), .fs (Nat.beq n2 0) 5 n2 (entE x2), .fs (Nat.beq n3 0) 5 n3 (entE x3), .fs (Nat.beq n4 0) 5 n4 (entE x4), .fs (Nat.beq n5 0) 5 n5 (entE x5)]))) 5 = (mergeL x5 n5 (mergeL x4 n4 (mergeL x3 n3 (mergeL x2 n2 (mergeL x1 n1 acc0))))) := rfl
theorem LL5 {n1 : Nat} {x1 : Nat → Ent} {n2 : Nat} {x2 : Nat → Ent} {n3 : Nat} {x3 : Nat → Ent} {n4 : Nat} {x4 : Nat → Ent} {n5 : Nat} {x5 : Nat → Ent} (h1 : n1 ≤ 1000) (h2 : n2 ≤ 1000) (h3 : n3 ≤ 1000) (h4 : n4 ≤ 1000) (h5 : n5 ≤ 1000) : LstL false 5 (selL (chunks 1 5 [.fs (Nat.beq n1 0) 5 n1 (entE x1), .fs (Nat.beq n2 0) 5 n2 (entE x2), .fs (Nat.beq n3 0) 5 n3 (entE x3), .fs (Nat.beq n4 0) 5 n4 (entE x4), .fs (Nat.beq n5 0) 5 n5 (entE x5)])) := by
  refine ⟨fun i hi => ?_, by decide, by simp, fun i hi => ?_⟩
  all_goals rcases i with _ | _ | _ | _ | _ | i
  · exact ⟨_, rfl, FV.le.refl _⟩
  · exact ⟨_, rfl, FV.le.refl _⟩
  · exact ⟨_, rfl, FV.le.refl _⟩
  · exact ⟨_, rfl, FV.le.refl _⟩
  · exact ⟨_, rfl, FV.le.refl _⟩
  · omega
  · exact ⟨h1, fun h => Nat.eq_of_beq_eq_true h⟩
  · exact ⟨h2, fun h => Nat.eq_of_beq_eq_true h⟩
  · exact ⟨h3, fun h => Nat.eq_of_beq_eq_true h⟩
  · exact ⟨h4, fun h => Nat.eq_of_beq_eq_true h⟩
  · exact ⟨h5, fun h => Nat.eq_of_beq_eq_true h⟩
  · omega
theorem MQ0 (n1 : Nat) (x1 : Nat → Ent) (n2 : Nat) (x2 : Nat → Ent) : mergeQ (lstOf (selL (chunks 1 3 [.fs (Nat.beq n1 0) 5 n1 (entE x1), .fs (Nat.beq n2 0) 5 n2 (entE x2), .lit (.slice none 0 0)]))) 3 = mergeL x2 n2 (mergeL x1 n1 acc0) := rfl
theorem LL0 {n1 : Nat} {x1 : Nat → Ent} {n2 : Nat} {x2 : Nat → Ent} (h1 : n1 ≤ 1000) (h2 : n2 ≤ 1000) : LstL false 3 (selL (chunks 1 3 [.fs (Nat.beq n1 0) 5 n1 (entE x1), .fs (Nat.beq n2 0) 5 n2 (entE x2), .lit (.slice none 0 0)])) := by
  refine ⟨fun i hi => ?_, by decide, by simp, fun i hi => ?_⟩
  all_goals rcases i with _ | _ | _ | i
  · exact ⟨_, rfl, FV.le.refl _⟩
  · exact ⟨_, rfl, FV.le.refl _⟩
  · exact ⟨_, rfl, FV.le_nil⟩
  · omega
  · exact ⟨h1, fun h => Nat.eq_of_beq_eq_true h⟩
  · exact ⟨h2, fun h => Nat.eq_of_beq_eq_true h⟩
  · exact ⟨Nat.zero_le _, fun _ => rfl⟩
  · omega
theorem entL_beq {n : Nat} {x : Nat → Ent} (h : n ≤ 1000) : EntL (Nat.beq n 0) n (entE x) := ⟨entN _ _, by omega, fun h => Nat.eq_of_beq_eq_true h⟩
theorem vals2 (x1 : Nat → Ent) (n1 : Nat) (t : Nat) : vals (mergeL x1 n1 acc0).1 (mergeL x1 n1 acc0).2 t = vals n1 x1 t := by rw [vals_merge, vals_acc0]; rfl
def S_mj (n1 : Nat) (x1 : Nat → Ent) (n2 : Nat) (x2 : Nat → Ent) (n3 : Nat) (x3 : Nat → Ent) (N : Nat) (R : Nat → Ent) (i : Nat) (a : Unit) : St :=
  ⟨[(77, .v (.one (.f (.fs (Nat.beq N 0) 5 N (entE R))))), (78, .v (AI N)), (79, .v (AI i)), (7, .v (.one (.f (.fs (Nat.beq n1 0) 5 n1 (entE x1))))), (8, .v (.one (.f (.fs (Nat.beq n2 0) 5 n2 (entE x2))))), (9, .v (.one (.f (.fs (Nat.beq n3 0) 5 n3 (entE x3))))), (10, .v (.one (.f (.fs (Nat.beq N 0) 5 N (entE R)))))], [], 0, false, 0, []⟩

noncomputable def GPI1 : Ctx := GS.with ss_same ll_sm
noncomputable def tgt_mj (n1 : Nat) (x1 : Nat → Ent) (n2 : Nat) (x2 : Nat → Ent) (n3 : Nat) (x3 : Nat → Ent) (N : Nat) (R : Nat → Ent) (i : Nat) (a : Unit) : T (Ex × St) := evRound GPI1 300 7 Try.f7.ntmps (loopOf Try.f7 8) 0 [77, 78, 79, 7, 8, 9, 10] [7, 8, 9, 10] (S_mj n1 x1 n2 x2 n3 x3 N R i a)
theorem GKPI1 : KnownOk Try.prog GPI1 := KnownOk.lists ss_same_ok ll_sm_ok
theorem GOPI1 : CtxOk Try.prog GPI1 := GS_ok.with _ _
theorem tree_mj (n1 : Nat) (x1 : Nat → Ent) (n2 : Nat) (x2 : Nat → Ent) (n3 : Nat) (x3 : Nat → Ent) (N : Nat) (R : Nat → Ent) (i : Nat) (a : Unit) : (tgt_mj n1 x1 n2 x2 n3 x3 N R i a).over (.br (.tt (.tt (.br (.ff (.ff (.ff (.br (.br (.ff (.ff (.ff (.ff (.br (.br (.ff (.ff (.ff (.br (.br (.br (.br (.br .skip (.tt (.tt (.br (.br (.br (.br (.br (.br (.br (.br (.br (.br (.br (.br (.br (.br (.br (.br .skip (.tt (.tt (.br (.tt (.tt (.tt (.tt (.tt (.tt (.tt (.tt (.tt (.tt (.br (.br (.br (.br (.br .skip (.ff (.ff .leaf))) .skip) .skip) .skip) .skip))))))))))) (.ff (.ff .leaf)))))) .skip) .skip) .skip) .skip) .skip) .skip) .skip) .skip) .skip) .skip) .skip) .skip) .skip) (.br .skip (.br .skip (.br (.br (.br .skip (.br .skip (.br .skip (.br .skip (.br (.br (.br .skip (.br .skip (.br .skip (.br (.br (.br (.br (.br .skip (.tt (.tt (.br (.br (.br (.br (.br (.br (.br (.br (.br (.br (.br (.br (.br (.br (.br (.br .skip (.ff (.ff .leaf))) .skip) .skip) .skip) .skip) .skip) .skip) .skip) .skip) .skip) .skip) .skip) .skip) .skip) (.br .skip (.br .skip (.br (.br (.br .skip (.br .skip (.br .skip (.br .skip (.br (.br (.br .skip (.br .skip (.br .skip (.br (.br (.br (.br (.br .skip (.ff (.br .skip .leaf))) .skip) .skip) .skip) .skip)))) .skip) .skip))))) .skip) .skip)))) (.ff (.br .skip .leaf)))))) .skip) .skip) .skip) .skip)))) .skip) .skip))))) .skip) .skip)))) (.tt (.tt (.br (.br (.br (.br (.br (.br (.br (.br (.br (.br (.br (.br (.br (.br (.br (.br .skip (.ff (.ff .leaf))) .skip) .skip) .skip) .skip) .skip) .skip) .skip) .skip) .skip) .skip) .skip) .skip) .skip) (.br .skip (.br .skip (.br (.br (.br .skip (.br .skip (.br .skip (.br .skip (.br (.br (.br .skip (.br .skip (.br .skip (.br (.br (.br (.br (.br .skip (.ff (.br .skip .leaf))) .skip) .skip) .skip) .skip)))) .skip) .skip))))) .skip) .skip)))) (.ff (.br .skip .leaf))))))))) .skip) .skip) .skip) .skip)))) .skip) .skip))))) .skip) .skip)))) (.tt (.tt (.br (.ff (.ff (.ff (.br (.br (.ff (.ff (.ff (.ff (.br (.br (.ff (.ff (.ff (.br (.br (.br (.br (.br .skip (.tt (.tt (.br (.br (.br (.br (.br (.br (.br (.br (.br (.br (.br (.br (.br (.br (.br (.br .skip (.ff (.ff .leaf))) .skip) .skip) .skip) .skip) .skip) .skip) .skip) .skip) .skip) .skip) .skip) .skip) .skip) (.br .skip (.br .skip (.br (.br (.br .skip (.br .skip (.br .skip (.br .skip (.br (.br (.br .skip (.br .skip (.br .skip (.br (.br (.br (.br (.br .skip (.ff (.br .skip .leaf))) .skip) .skip) .skip) .skip)))) .skip) .skip))))) .skip) .skip)))) (.ff (.br .skip .leaf)))))) .skip) .skip) .skip) .skip)))) .skip) .skip))))) .skip) .skip)))) (.tt (.tt (.br (.ff (.ff (.ff (.br (.br (.ff (.ff (.ff (.ff (.br (.br (.ff (.ff (.ff (.br (.br (.br (.br (.br .skip (.ff (.br .skip .leaf))) .skip) .skip) .skip) .skip)))) .skip) .skip))))) .skip) .skip)))) (.ff (.tt .skip))))))))))) .leaf) =
  T.br (decide ((↑i : Int) < (↑N : Int)))
    (T.br (decide ((↑i : Int) < (↑n1 : Int)))
      (T.br (!Nat.beq n1 (0 : Nat))
        (T.br (decide ((0 : Int) ≤ (↑i : Int) ∧ (↑i : Int) < (↑n1 : Int)))
          (T.br (!Nat.beq N (0 : Nat))
            (T.br (decide ((0 : Int) ≤ (↑i : Int) ∧ (↑i : Int) < (↑N : Int)))
              (T.br (!Nat.beq N (0 : Nat))
                (T.br (decide ((0 : Int) ≤ (↑i : Int) ∧ (↑i : Int) < (↑N : Int)))
                  (T.br (!Nat.beq n1 (0 : Nat))
                    (T.br (decide ((0 : Int) ≤ (↑i : Int) ∧ (↑i : Int) < (↑n1 : Int)))
                      (T.br (lessB (R i) (x1 i)) T.bad
                        (T.br (decide ((↑i : Int) < (↑n2 : Int)))
                          (T.br (Ent.inc (x1 i) == Ent.inc (R i) && (Ent.st (x1 i) == Ent.st (R i) && (Ent.stamp (x1 i) == Ent.stamp (R i) && (Ent.load (x1 i) == Ent.load (R i) && (Ent.dr (x1 i) == Ent.dr (R i) && true)))))
                            (T.br (Ent.inc (x1 i) == Ent.inc (R i) && (Ent.st (x1 i) == Ent.st (R i) && (Ent.stamp (x1 i) == Ent.stamp (R i) && (Ent.load (x1 i) == Ent.load (R i) && (Ent.dr (x1 i) == Ent.dr (R i) && true)))))
                              (T.br (Ent.inc (x1 i) == Ent.inc (R i) && (Ent.st (x1 i) == Ent.st (R i) && (Ent.stamp (x1 i) == Ent.stamp (R i) && (Ent.load (x1 i) == Ent.load (R i) && (Ent.dr (x1 i) == Ent.dr (R i) && true)))))
                                (T.br (Ent.inc (x1 i) == Ent.inc (R i) && (Ent.st (x1 i) == Ent.st (R i) && (Ent.stamp (x1 i) == Ent.stamp (R i) && (Ent.load (x1 i) == Ent.load (R i) && (Ent.dr (x1 i) == Ent.dr (R i) && true)))))
                                  (T.br (Ent.inc (x1 i) == Ent.inc (R i) && (Ent.st (x1 i) == Ent.st (R i) && (Ent.stamp (x1 i) == Ent.stamp (R i) && (Ent.load (x1 i) == Ent.load (R i) && (Ent.dr (x1 i) == Ent.dr (R i) && true)))))
                                    (T.br (Ent.inc (x1 i) == Ent.inc (R i) && (Ent.st (x1 i) == Ent.st (R i) && (Ent.stamp (x1 i) == Ent.stamp (R i) && (Ent.load (x1 i) == Ent.load (R i) && (Ent.dr (x1 i) == Ent.dr (R i) && true)))))
                                      (T.br (Ent.inc (x1 i) == Ent.inc (R i) && (Ent.st (x1 i) == Ent.st (R i) && (Ent.stamp (x1 i) == Ent.stamp (R i) && (Ent.load (x1 i) == Ent.load (R i) && (Ent.dr (x1 i) == Ent.dr (R i) && true)))))
                                        (T.br (Ent.inc (x1 i) == Ent.inc (R i) && (Ent.st (x1 i) == Ent.st (R i) && (Ent.stamp (x1 i) == Ent.stamp (R i) && (Ent.load (x1 i) == Ent.load (R i) && (Ent.dr (x1 i) == Ent.dr (R i) && true)))))
                                          (T.br (Ent.inc (x1 i) == Ent.inc (R i) && (Ent.st (x1 i) == Ent.st (R i) && (Ent.stamp (x1 i) == Ent.stamp (R i) && (Ent.load (x1 i) == Ent.load (R i) && (Ent.dr (x1 i) == Ent.dr (R i) && true)))))
                                            (T.br (Ent.inc (x1 i) == Ent.inc (R i) && (Ent.st (x1 i) == Ent.st (R i) && (Ent.stamp (x1 i) == Ent.stamp (R i) && (Ent.load (x1 i) == Ent.load (R i) && (Ent.dr (x1 i) == Ent.dr (R i) && true)))))
                                              (T.br (!Nat.beq N (0 : Nat))
                                                (T.br (decide ((0 : Int) ≤ (↑i : Int) ∧ (↑i : Int) < (↑N : Int)))
                                                  (T.br (!Nat.beq n2 (0 : Nat))
                                                    (T.br (decide ((0 : Int) ≤ (↑i : Int) ∧ (↑i : Int) < (↑n2 : Int)))
                                                      (T.br (lessB (R i) (x2 i)) T.bad
                                                        (T.br (decide ((↑i : Int) < (↑n3 : Int)))
                                                          (T.br (!Nat.beq N (0 : Nat))
                                                            (T.br (decide ((0 : Int) ≤ (↑i : Int) ∧ (↑i : Int) < (↑N : Int)))
                                                              (T.br (!Nat.beq n3 (0 : Nat))
                                                                (T.br (decide ((0 : Int) ≤ (↑i : Int) ∧ (↑i : Int) < (↑n3 : Int)))
                                                                  (T.br (lessB (R i) (x3 i)) T.bad
                                                                    (T.ret
                                                                      (Ex.normal,
                                                                        {
                                                                          sl :=
                                                                            [((77 : Nat),
                                                                                SV.v
                                                                                  (AV.one
                                                                                    (CV.f
                                                                                      (FV.fs (Nat.beq N (0 : Nat)) (5 : Nat) N fun a =>
                                                                                        [FV.lit (Value.int IntKind.i64 (Ent.inc (R a))), FV.lit (Value.int IntKind.i64 (Ent.st (R a))), FV.lit (Value.int IntKind.i64 (Ent.stamp (R a))),
                                                                                          FV.lit (Value.int IntKind.i64 (Ent.load (R a))), FV.lit (Value.bool (Ent.dr (R a)))])))),
                                                                              ((78 : Nat), SV.v (AI (↑N : Int))), ((79 : Nat), SV.v (AI (IntKind.wrap IntKind.i64 ((↑i : Int) + (1 : Int))))),
                                                                              ((7 : Nat),
                                                                                SV.v
                                                                                  (AV.one
                                                                                    (CV.f
                                                                                      (FV.fs (Nat.beq n1 (0 : Nat)) (5 : Nat) n1 fun a =>
                                                                                        [FV.lit (Value.int IntKind.i64 (Ent.inc (x1 a))), FV.lit (Value.int IntKind.i64 (Ent.st (x1 a))), FV.lit (Value.int IntKind.i64 (Ent.stamp (x1 a))),
                                                                                          FV.lit (Value.int IntKind.i64 (Ent.load (x1 a))), FV.lit (Value.bool (Ent.dr (x1 a)))])))),
                                                                              ((8 : Nat),
                                                                                SV.v
                                                                                  (AV.one
                                                                                    (CV.f
                                                                                      (FV.fs (Nat.beq n2 (0 : Nat)) (5 : Nat) n2 fun a =>
                                                                                        [FV.lit (Value.int IntKind.i64 (Ent.inc (x2 a))), FV.lit (Value.int IntKind.i64 (Ent.st (x2 a))), FV.lit (Value.int IntKind.i64 (Ent.stamp (x2 a))),
                                                                                          FV.lit (Value.int IntKind.i64 (Ent.load (x2 a))), FV.lit (Value.bool (Ent.dr (x2 a)))])))),
                                                                              ((9 : Nat),
                                                                                SV.v
                                                                                  (AV.one
                                                                                    (CV.f
                                                                                      (FV.fs (Nat.beq n3 (0 : Nat)) (5 : Nat) n3 fun a =>
                                                                                        [FV.lit (Value.int IntKind.i64 (Ent.inc (x3 a))), FV.lit (Value.int IntKind.i64 (Ent.st (x3 a))), FV.lit (Value.int IntKind.i64 (Ent.stamp (x3 a))),
                                                                                          FV.lit (Value.int IntKind.i64 (Ent.load (x3 a))), FV.lit (Value.bool (Ent.dr (x3 a)))])))),
                                                                              ((10 : Nat),
                                                                                SV.v
                                                                                  (AV.one
                                                                                    (CV.f
                                                                                      (FV.fs (Nat.beq N (0 : Nat)) (5 : Nat) N fun a =>
                                                                                        [FV.lit (Value.int IntKind.i64 (Ent.inc (R a))), FV.lit (Value.int IntKind.i64 (Ent.st (R a))), FV.lit (Value.int IntKind.i64 (Ent.stamp (R a))),
                                                                                          FV.lit (Value.int IntKind.i64 (Ent.load (R a))), FV.lit (Value.bool (Ent.dr (R a)))]))))],
                                                                          H := [], nx := (0 : Nat), esc := false, base := (0 : Nat), wr := [] : St })))
                                                                  T.bad)
                                                                T.bad)
                                                              T.bad)
                                                            T.bad)
                                                          (T.ret
                                                            (Ex.normal,
                                                              {
                                                                sl :=
                                                                  [((77 : Nat),
                                                                      SV.v
                                                                        (AV.one
                                                                          (CV.f
                                                                            (FV.fs (Nat.beq N (0 : Nat)) (5 : Nat) N fun a =>
                                                                              [FV.lit (Value.int IntKind.i64 (Ent.inc (R a))), FV.lit (Value.int IntKind.i64 (Ent.st (R a))), FV.lit (Value.int IntKind.i64 (Ent.stamp (R a))),
                                                                                FV.lit (Value.int IntKind.i64 (Ent.load (R a))), FV.lit (Value.bool (Ent.dr (R a)))])))),
                                                                    ((78 : Nat), SV.v (AI (↑N : Int))), ((79 : Nat), SV.v (AI (IntKind.wrap IntKind.i64 ((↑i : Int) + (1 : Int))))),
                                                                    ((7 : Nat),
                                                                      SV.v
                                                                        (AV.one
                                                                          (CV.f
                                                                            (FV.fs (Nat.beq n1 (0 : Nat)) (5 : Nat) n1 fun a =>
                                                                              [FV.lit (Value.int IntKind.i64 (Ent.inc (x1 a))), FV.lit (Value.int IntKind.i64 (Ent.st (x1 a))), FV.lit (Value.int IntKind.i64 (Ent.stamp (x1 a))),
                                                                                FV.lit (Value.int IntKind.i64 (Ent.load (x1 a))), FV.lit (Value.bool (Ent.dr (x1 a)))])))),
                                                                    ((8 : Nat),
                                                                      SV.v
                                                                        (AV.one
                                                                          (CV.f
                                                                            (FV.fs (Nat.beq n2 (0 : Nat)) (5 : Nat) n2 fun a =>
                                                                              [FV.lit (Value.int IntKind.i64 (Ent.inc (x2 a))), FV.lit (Value.int IntKind.i64 (Ent.st (x2 a))), FV.lit (Value.int IntKind.i64 (Ent.stamp (x2 a))),
                                                                                FV.lit (Value.int IntKind.i64 (Ent.load (x2 a))), FV.lit (Value.bool (Ent.dr (x2 a)))])))),
                                                                    ((9 : Nat),
                                                                      SV.v
                                                                        (AV.one
                                                                          (CV.f
                                                                            (FV.fs (Nat.beq n3 (0 : Nat)) (5 : Nat) n3 fun a =>
                                                                              [FV.lit (Value.int IntKind.i64 (Ent.inc (x3 a))), FV.lit (Value.int IntKind.i64 (Ent.st (x3 a))), FV.lit (Value.int IntKind.i64 (Ent.stamp (x3 a))),
                                                                                FV.lit (Value.int IntKind.i64 (Ent.load (x3 a))), FV.lit (Value.bool (Ent.dr (x3 a)))])))),
                                                                    ((10 : Nat),
                                                                      SV.v
                                                                        (AV.one
                                                                          (CV.f
                                                                            (FV.fs (Nat.beq N (0 : Nat)) (5 : Nat) N fun a =>
                                                                              [FV.lit (Value.int IntKind.i64 (Ent.inc (R a))), FV.lit (Value.int IntKind.i64 (Ent.st (R a))), FV.lit (Value.int IntKind.i64 (Ent.stamp (R a))),
                                                                                FV.lit (Value.int IntKind.i64 (Ent.load (R a))), FV.lit (Value.bool (Ent.dr (R a)))]))))],
                                                                H := [], nx := (0 : Nat), esc := false, base := (0 : Nat), wr := [] : St }))))
                                                      T.bad)
                                                    T.bad)
                                                  T.bad)
                                                T.bad)
                                              T.bad)
                                            T.bad)
                                          T.bad)
                                        T.bad)
                                      T.bad)
                                    T.bad)
                                  T.bad)
                                T.bad)
                              T.bad)
                            (T.br (Ent.inc (x1 i) == Ent.inc (R i) && (Ent.st (x1 i) == Ent.st (R i) && (Ent.stamp (x1 i) == Ent.stamp (R i) && (Ent.load (x1 i) == Ent.load (R i) && (Ent.dr (x1 i) == Ent.dr (R i) && true))))) T.bad
                              (T.br (Ent.inc (x1 i) == Ent.inc (R i) && (Ent.st (x1 i) == Ent.st (R i) && (Ent.stamp (x1 i) == Ent.stamp (R i) && (Ent.load (x1 i) == Ent.load (R i) && (Ent.dr (x1 i) == Ent.dr (R i) && true))))) T.bad
                                (T.br (!Nat.beq n2 (0 : Nat))
                                  (T.br (decide ((0 : Int) ≤ (↑i : Int) ∧ (↑i : Int) < (↑n2 : Int)))
                                    (T.br (Ent.inc (x1 i) == Ent.inc (R i) && (Ent.st (x1 i) == Ent.st (R i) && (Ent.stamp (x1 i) == Ent.stamp (R i) && (Ent.load (x1 i) == Ent.load (R i) && (Ent.dr (x1 i) == Ent.dr (R i) && true))))) T.bad
                                      (T.br (Ent.inc (x1 i) == Ent.inc (R i) && (Ent.st (x1 i) == Ent.st (R i) && (Ent.stamp (x1 i) == Ent.stamp (R i) && (Ent.load (x1 i) == Ent.load (R i) && (Ent.dr (x1 i) == Ent.dr (R i) && true))))) T.bad
                                        (T.br (Ent.inc (x1 i) == Ent.inc (R i) && (Ent.st (x1 i) == Ent.st (R i) && (Ent.stamp (x1 i) == Ent.stamp (R i) && (Ent.load (x1 i) == Ent.load (R i) && (Ent.dr (x1 i) == Ent.dr (R i) && true)))))
                                          T.bad
                                          (T.br (Ent.inc (x1 i) == Ent.inc (R i) && (Ent.st (x1 i) == Ent.st (R i) && (Ent.stamp (x1 i) == Ent.stamp (R i) && (Ent.load (x1 i) == Ent.load (R i) && (Ent.dr (x1 i) == Ent.dr (R i) && true)))))
                                            T.bad
                                            (T.br (!Nat.beq N (0 : Nat))
                                              (T.br (decide ((0 : Int) ≤ (↑i : Int) ∧ (↑i : Int) < (↑N : Int)))
                                                (T.br
                                                  (Ent.inc (x1 i) == Ent.inc (R i) && (Ent.st (x1 i) == Ent.st (R i) && (Ent.stamp (x1 i) == Ent.stamp (R i) && (Ent.load (x1 i) == Ent.load (R i) && (Ent.dr (x1 i) == Ent.dr (R i) && true)))))
                                                  T.bad
                                                  (T.br
                                                    (Ent.inc (x1 i) == Ent.inc (R i) &&
                                                      (Ent.st (x1 i) == Ent.st (R i) && (Ent.stamp (x1 i) == Ent.stamp (R i) && (Ent.load (x1 i) == Ent.load (R i) && (Ent.dr (x1 i) == Ent.dr (R i) && true)))))
                                                    T.bad
                                                    (T.br
                                                      (Ent.inc (x1 i) == Ent.inc (R i) &&
                                                        (Ent.st (x1 i) == Ent.st (R i) && (Ent.stamp (x1 i) == Ent.stamp (R i) && (Ent.load (x1 i) == Ent.load (R i) && (Ent.dr (x1 i) == Ent.dr (R i) && true)))))
                                                      T.bad
                                                      (T.br (!Nat.beq N (0 : Nat))
                                                        (T.br (decide ((0 : Int) ≤ (↑i : Int) ∧ (↑i : Int) < (↑N : Int)))
                                                          (T.br (!Nat.beq n2 (0 : Nat))
                                                            (T.br (decide ((0 : Int) ≤ (↑i : Int) ∧ (↑i : Int) < (↑n2 : Int)))
                                                              (T.br (lessB (R i) (x2 i)) T.bad
                                                                (T.br (decide ((↑i : Int) < (↑n3 : Int)))
                                                                  (T.br
                                                                    (Ent.inc (x2 i) == Ent.inc (R i) &&
                                                                      (Ent.st (x2 i) == Ent.st (R i) && (Ent.stamp (x2 i) == Ent.stamp (R i) && (Ent.load (x2 i) == Ent.load (R i) && (Ent.dr (x2 i) == Ent.dr (R i) && true)))))
                                                                    (T.br
                                                                      (Ent.inc (x2 i) == Ent.inc (R i) &&
                                                                        (Ent.st (x2 i) == Ent.st (R i) && (Ent.stamp (x2 i) == Ent.stamp (R i) && (Ent.load (x2 i) == Ent.load (R i) && (Ent.dr (x2 i) == Ent.dr (R i) && true)))))
                                                                      (T.br
                                                                        (Ent.inc (x2 i) == Ent.inc (R i) &&
                                                                          (Ent.st (x2 i) == Ent.st (R i) && (Ent.stamp (x2 i) == Ent.stamp (R i) && (Ent.load (x2 i) == Ent.load (R i) && (Ent.dr (x2 i) == Ent.dr (R i) && true)))))
                                                                        (T.br
                                                                          (Ent.inc (x2 i) == Ent.inc (R i) &&
                                                                            (Ent.st (x2 i) == Ent.st (R i) && (Ent.stamp (x2 i) == Ent.stamp (R i) && (Ent.load (x2 i) == Ent.load (R i) && (Ent.dr (x2 i) == Ent.dr (R i) && true)))))
                                                                          (T.br
                                                                            (Ent.inc (x2 i) == Ent.inc (R i) &&
                                                                              (Ent.st (x2 i) == Ent.st (R i) && (Ent.stamp (x2 i) == Ent.stamp (R i) && (Ent.load (x2 i) == Ent.load (R i) && (Ent.dr (x2 i) == Ent.dr (R i) && true)))))
                                                                            (T.br
                                                                              (Ent.inc (x2 i) == Ent.inc (R i) &&
                                                                                (Ent.st (x2 i) == Ent.st (R i) && (Ent.stamp (x2 i) == Ent.stamp (R i) && (Ent.load (x2 i) == Ent.load (R i) && (Ent.dr (x2 i) == Ent.dr (R i) && true)))))
                                                                              (T.br
                                                                                (Ent.inc (x2 i) == Ent.inc (R i) &&
                                                                                  (Ent.st (x2 i) == Ent.st (R i) && (Ent.stamp (x2 i) == Ent.stamp (R i) && (Ent.load (x2 i) == Ent.load (R i) && (Ent.dr (x2 i) == Ent.dr (R i) && true)))))
                                                                                (T.br
                                                                                  (Ent.inc (x2 i) == Ent.inc (R i) &&
                                                                                    (Ent.st (x2 i) == Ent.st (R i) && (Ent.stamp (x2 i) == Ent.stamp (R i) && (Ent.load (x2 i) == Ent.load (R i) && (Ent.dr (x2 i) == Ent.dr (R i) && true)))))
                                                                                  (T.br
                                                                                    (Ent.inc (x2 i) == Ent.inc (R i) &&
                                                                                      (Ent.st (x2 i) == Ent.st (R i) && (Ent.stamp (x2 i) == Ent.stamp (R i) && (Ent.load (x2 i) == Ent.load (R i) && (Ent.dr (x2 i) == Ent.dr (R i) && true)))))
                                                                                    (T.br
                                                                                      (Ent.inc (x2 i) == Ent.inc (R i) &&
                                                                                        (Ent.st (x2 i) == Ent.st (R i) &&
                                                                                          (Ent.stamp (x2 i) == Ent.stamp (R i) && (Ent.load (x2 i) == Ent.load (R i) && (Ent.dr (x2 i) == Ent.dr (R i) && true)))))
                                                                                      (T.br (!Nat.beq N (0 : Nat))
                                                                                        (T.br (decide ((0 : Int) ≤ (↑i : Int) ∧ (↑i : Int) < (↑N : Int)))
                                                                                          (T.br (!Nat.beq n3 (0 : Nat))
                                                                                            (T.br (decide ((0 : Int) ≤ (↑i : Int) ∧ (↑i : Int) < (↑n3 : Int)))
                                                                                              (T.br (lessB (R i) (x3 i)) T.bad
                                                                                                (T.ret
                                                                                                  (Ex.normal,
                                                                                                    {
                                                                                                      sl :=
                                                                                                        [((77 : Nat),
                                                                                                            SV.v
                                                                                                              (AV.one
                                                                                                                (CV.f
                                                                                                                  (FV.fs (Nat.beq N (0 : Nat)) (5 : Nat) N fun a =>
                                                                                                                    [FV.lit (Value.int IntKind.i64 (Ent.inc (R a))), FV.lit (Value.int IntKind.i64 (Ent.st (R a))),
                                                                                                                      FV.lit (Value.int IntKind.i64 (Ent.stamp (R a))), FV.lit (Value.int IntKind.i64 (Ent.load (R a))),
                                                                                                                      FV.lit (Value.bool (Ent.dr (R a)))])))),
                                                                                                          ((78 : Nat), SV.v (AI (↑N : Int))), ((79 : Nat), SV.v (AI (IntKind.wrap IntKind.i64 ((↑i : Int) + (1 : Int))))),
                                                                                                          ((7 : Nat),
                                                                                                            SV.v
                                                                                                              (AV.one
                                                                                                                (CV.f
                                                                                                                  (FV.fs (Nat.beq n1 (0 : Nat)) (5 : Nat) n1 fun a =>
                                                                                                                    [FV.lit (Value.int IntKind.i64 (Ent.inc (x1 a))), FV.lit (Value.int IntKind.i64 (Ent.st (x1 a))),
                                                                                                                      FV.lit (Value.int IntKind.i64 (Ent.stamp (x1 a))), FV.lit (Value.int IntKind.i64 (Ent.load (x1 a))),
                                                                                                                      FV.lit (Value.bool (Ent.dr (x1 a)))])))),
                                                                                                          ((8 : Nat),
                                                                                                            SV.v
                                                                                                              (AV.one
                                                                                                                (CV.f
                                                                                                                  (FV.fs (Nat.beq n2 (0 : Nat)) (5 : Nat) n2 fun a =>
                                                                                                                    [FV.lit (Value.int IntKind.i64 (Ent.inc (x2 a))), FV.lit (Value.int IntKind.i64 (Ent.st (x2 a))),
                                                                                                                      FV.lit (Value.int IntKind.i64 (Ent.stamp (x2 a))), FV.lit (Value.int IntKind.i64 (Ent.load (x2 a))),
                                                                                                                      FV.lit (Value.bool (Ent.dr (x2 a)))])))),
                                                                                                          ((9 : Nat),
                                                                                                            SV.v
                                                                                                              (AV.one
                                                                                                                (CV.f
                                                                                                                  (FV.fs (Nat.beq n3 (0 : Nat)) (5 : Nat) n3 fun a =>
                                                                                                                    [FV.lit (Value.int IntKind.i64 (Ent.inc (x3 a))), FV.lit (Value.int IntKind.i64 (Ent.st (x3 a))),
                                                                                                                      FV.lit (Value.int IntKind.i64 (Ent.stamp (x3 a))), FV.lit (Value.int IntKind.i64 (Ent.load (x3 a))),
                                                                                                                      FV.lit (Value.bool (Ent.dr (x3 a)))])))),
                                                                                                          ((10 : Nat),
                                                                                                            SV.v
                                                                                                              (AV.one
                                                                                                                (CV.f
                                                                                                                  (FV.fs (Nat.beq N (0 : Nat)) (5 : Nat) N fun a =>
                                                                                                                    [FV.lit (Value.int IntKind.i64 (Ent.inc (R a))), FV.lit (Value.int IntKind.i64 (Ent.st (R a))),
                                                                                                                      FV.lit (Value.int IntKind.i64 (Ent.stamp (R a))), FV.lit (Value.int IntKind.i64 (Ent.load (R a))),
                                                                                                                      FV.lit (Value.bool (Ent.dr (R a)))]))))],
                                                                                                      H := [], nx := (0 : Nat), esc := false, base := (0 : Nat), wr := [] : St })))
                                                                                              T.bad)
                                                                                            T.bad)
                                                                                          T.bad)
                                                                                        T.bad)
                                                                                      T.bad)
                                                                                    T.bad)
                                                                                  T.bad)
                                                                                T.bad)
                                                                              T.bad)
                                                                            T.bad)
                                                                          T.bad)
                                                                        T.bad)
                                                                      T.bad)
                                                                    (T.br
                                                                      (Ent.inc (x2 i) == Ent.inc (R i) &&
                                                                        (Ent.st (x2 i) == Ent.st (R i) && (Ent.stamp (x2 i) == Ent.stamp (R i) && (Ent.load (x2 i) == Ent.load (R i) && (Ent.dr (x2 i) == Ent.dr (R i) && true)))))
                                                                      T.bad
                                                                      (T.br
                                                                        (Ent.inc (x2 i) == Ent.inc (R i) &&
                                                                          (Ent.st (x2 i) == Ent.st (R i) && (Ent.stamp (x2 i) == Ent.stamp (R i) && (Ent.load (x2 i) == Ent.load (R i) && (Ent.dr (x2 i) == Ent.dr (R i) && true)))))
                                                                        T.bad
                                                                        (T.br (!Nat.beq n3 (0 : Nat))
                                                                          (T.br (decide ((0 : Int) ≤ (↑i : Int) ∧ (↑i : Int) < (↑n3 : Int)))
                                                                            (T.br
                                                                              (Ent.inc (x2 i) == Ent.inc (R i) &&
                                                                                (Ent.st (x2 i) == Ent.st (R i) && (Ent.stamp (x2 i) == Ent.stamp (R i) && (Ent.load (x2 i) == Ent.load (R i) && (Ent.dr (x2 i) == Ent.dr (R i) && true)))))
                                                                              T.bad
                                                                              (T.br
                                                                                (Ent.inc (x2 i) == Ent.inc (R i) &&
                                                                                  (Ent.st (x2 i) == Ent.st (R i) && (Ent.stamp (x2 i) == Ent.stamp (R i) && (Ent.load (x2 i) == Ent.load (R i) && (Ent.dr (x2 i) == Ent.dr (R i) && true)))))
                                                                                T.bad
                                                                                (T.br
                                                                                  (Ent.inc (x2 i) == Ent.inc (R i) &&
                                                                                    (Ent.st (x2 i) == Ent.st (R i) && (Ent.stamp (x2 i) == Ent.stamp (R i) && (Ent.load (x2 i) == Ent.load (R i) && (Ent.dr (x2 i) == Ent.dr (R i) && true)))))
                                                                                  T.bad
                                                                                  (T.br
                                                                                    (Ent.inc (x2 i) == Ent.inc (R i) &&
                                                                                      (Ent.st (x2 i) == Ent.st (R i) && (Ent.stamp (x2 i) == Ent.stamp (R i) && (Ent.load (x2 i) == Ent.load (R i) && (Ent.dr (x2 i) == Ent.dr (R i) && true)))))
                                                                                    T.bad
                                                                                    (T.br (!Nat.beq N (0 : Nat))
                                                                                      (T.br (decide ((0 : Int) ≤ (↑i : Int) ∧ (↑i : Int) < (↑N : Int)))
                                                                                        (T.br
                                                                                          (Ent.inc (x2 i) == Ent.inc (R i) &&
                                                                                            (Ent.st (x2 i) == Ent.st (R i) &&
                                                                                              (Ent.stamp (x2 i) == Ent.stamp (R i) && (Ent.load (x2 i) == Ent.load (R i) && (Ent.dr (x2 i) == Ent.dr (R i) && true)))))
                                                                                          T.bad
                                                                                          (T.br
                                                                                            (Ent.inc (x2 i) == Ent.inc (R i) &&
                                                                                              (Ent.st (x2 i) == Ent.st (R i) &&
                                                                                                (Ent.stamp (x2 i) == Ent.stamp (R i) && (Ent.load (x2 i) == Ent.load (R i) && (Ent.dr (x2 i) == Ent.dr (R i) && true)))))
                                                                                            T.bad
                                                                                            (T.br
                                                                                              (Ent.inc (x2 i) == Ent.inc (R i) &&
                                                                                                (Ent.st (x2 i) == Ent.st (R i) &&
                                                                                                  (Ent.stamp (x2 i) == Ent.stamp (R i) && (Ent.load (x2 i) == Ent.load (R i) && (Ent.dr (x2 i) == Ent.dr (R i) && true)))))
                                                                                              T.bad
                                                                                              (T.br (!Nat.beq N (0 : Nat))
                                                                                                (T.br (decide ((0 : Int) ≤ (↑i : Int) ∧ (↑i : Int) < (↑N : Int)))
                                                                                                  (T.br (!Nat.beq n3 (0 : Nat))
                                                                                                    (T.br (decide ((0 : Int) ≤ (↑i : Int) ∧ (↑i : Int) < (↑n3 : Int)))
                                                                                                      (T.br (lessB (R i) (x3 i)) T.bad
                                                                                                        (T.br
                                                                                                          (!(Ent.inc (x3 i) == Ent.inc (R i) &&
                                                                                                              (Ent.st (x3 i) == Ent.st (R i) &&
                                                                                                                (Ent.stamp (x3 i) == Ent.stamp (R i) && (Ent.load (x3 i) == Ent.load (R i) && (Ent.dr (x3 i) == Ent.dr (R i) && true))))))
                                                                                                          T.bad
                                                                                                          (T.ret
                                                                                                            (Ex.normal,
                                                                                                              {
                                                                                                                sl :=
                                                                                                                  [((77 : Nat),
                                                                                                                      SV.v
                                                                                                                        (AV.one
                                                                                                                          (CV.f
                                                                                                                            (FV.fs (Nat.beq N (0 : Nat)) (5 : Nat) N fun a =>
                                                                                                                              [FV.lit (Value.int IntKind.i64 (Ent.inc (R a))), FV.lit (Value.int IntKind.i64 (Ent.st (R a))),
                                                                                                                                FV.lit (Value.int IntKind.i64 (Ent.stamp (R a))), FV.lit (Value.int IntKind.i64 (Ent.load (R a))),
                                                                                                                                FV.lit (Value.bool (Ent.dr (R a)))])))),
                                                                                                                    ((78 : Nat), SV.v (AI (↑N : Int))), ((79 : Nat), SV.v (AI (IntKind.wrap IntKind.i64 ((↑i : Int) + (1 : Int))))),
                                                                                                                    ((7 : Nat),
                                                                                                                      SV.v
                                                                                                                        (AV.one
                                                                                                                          (CV.f
                                                                                                                            (FV.fs (Nat.beq n1 (0 : Nat)) (5 : Nat) n1 fun a =>
                                                                                                                              [FV.lit (Value.int IntKind.i64 (Ent.inc (x1 a))), FV.lit (Value.int IntKind.i64 (Ent.st (x1 a))),
                                                                                                                                FV.lit (Value.int IntKind.i64 (Ent.stamp (x1 a))), FV.lit (Value.int IntKind.i64 (Ent.load (x1 a))),
                                                                                                                                FV.lit (Value.bool (Ent.dr (x1 a)))])))),
                                                                                                                    ((8 : Nat),
                                                                                                                      SV.v
                                                                                                                        (AV.one
                                                                                                                          (CV.f
                                                                                                                            (FV.fs (Nat.beq n2 (0 : Nat)) (5 : Nat) n2 fun a =>
                                                                                                                              [FV.lit (Value.int IntKind.i64 (Ent.inc (x2 a))), FV.lit (Value.int IntKind.i64 (Ent.st (x2 a))),
                                                                                                                                FV.lit (Value.int IntKind.i64 (Ent.stamp (x2 a))), FV.lit (Value.int IntKind.i64 (Ent.load (x2 a))),
                                                                                                                                FV.lit (Value.bool (Ent.dr (x2 a)))])))),
                                                                                                                    ((9 : Nat),
                                                                                                                      SV.v
                                                                                                                        (AV.one
                                                                                                                          (CV.f
                                                                                                                            (FV.fs (Nat.beq n3 (0 : Nat)) (5 : Nat) n3 fun a =>
                                                                                                                              [FV.lit (Value.int IntKind.i64 (Ent.inc (x3 a))), FV.lit (Value.int IntKind.i64 (Ent.st (x3 a))),
                                                                                                                                FV.lit (Value.int IntKind.i64 (Ent.stamp (x3 a))), FV.lit (Value.int IntKind.i64 (Ent.load (x3 a))),
                                                                                                                                FV.lit (Value.bool (Ent.dr (x3 a)))])))),
                                                                                                                    ((10 : Nat),
                                                                                                                      SV.v
                                                                                                                        (AV.one
                                                                                                                          (CV.f
                                                                                                                            (FV.fs (Nat.beq N (0 : Nat)) (5 : Nat) N fun a =>
                                                                                                                              [FV.lit (Value.int IntKind.i64 (Ent.inc (R a))), FV.lit (Value.int IntKind.i64 (Ent.st (R a))),
                                                                                                                                FV.lit (Value.int IntKind.i64 (Ent.stamp (R a))), FV.lit (Value.int IntKind.i64 (Ent.load (R a))),
                                                                                                                                FV.lit (Value.bool (Ent.dr (R a)))]))))],
                                                                                                                H := [], nx := (0 : Nat), esc := false, base := (0 : Nat), wr := [] : St }))))
                                                                                                      T.bad)
                                                                                                    T.bad)
                                                                                                  T.bad)
                                                                                                T.bad))))
                                                                                        T.bad)
                                                                                      T.bad)))))
                                                                            T.bad)
                                                                          T.bad))))
                                                                  (T.br
                                                                    (!(Ent.inc (x2 i) == Ent.inc (R i) &&
                                                                        (Ent.st (x2 i) == Ent.st (R i) && (Ent.stamp (x2 i) == Ent.stamp (R i) && (Ent.load (x2 i) == Ent.load (R i) && (Ent.dr (x2 i) == Ent.dr (R i) && true))))))
                                                                    T.bad
                                                                    (T.ret
                                                                      (Ex.normal,
                                                                        {
                                                                          sl :=
                                                                            [((77 : Nat),
                                                                                SV.v
                                                                                  (AV.one
                                                                                    (CV.f
                                                                                      (FV.fs (Nat.beq N (0 : Nat)) (5 : Nat) N fun a =>
                                                                                        [FV.lit (Value.int IntKind.i64 (Ent.inc (R a))), FV.lit (Value.int IntKind.i64 (Ent.st (R a))), FV.lit (Value.int IntKind.i64 (Ent.stamp (R a))),
                                                                                          FV.lit (Value.int IntKind.i64 (Ent.load (R a))), FV.lit (Value.bool (Ent.dr (R a)))])))),
                                                                              ((78 : Nat), SV.v (AI (↑N : Int))), ((79 : Nat), SV.v (AI (IntKind.wrap IntKind.i64 ((↑i : Int) + (1 : Int))))),
                                                                              ((7 : Nat),
                                                                                SV.v
                                                                                  (AV.one
                                                                                    (CV.f
                                                                                      (FV.fs (Nat.beq n1 (0 : Nat)) (5 : Nat) n1 fun a =>
                                                                                        [FV.lit (Value.int IntKind.i64 (Ent.inc (x1 a))), FV.lit (Value.int IntKind.i64 (Ent.st (x1 a))), FV.lit (Value.int IntKind.i64 (Ent.stamp (x1 a))),
                                                                                          FV.lit (Value.int IntKind.i64 (Ent.load (x1 a))), FV.lit (Value.bool (Ent.dr (x1 a)))])))),
                                                                              ((8 : Nat),
                                                                                SV.v
                                                                                  (AV.one
                                                                                    (CV.f
                                                                                      (FV.fs (Nat.beq n2 (0 : Nat)) (5 : Nat) n2 fun a =>
                                                                                        [FV.lit (Value.int IntKind.i64 (Ent.inc (x2 a))), FV.lit (Value.int IntKind.i64 (Ent.st (x2 a))), FV.lit (Value.int IntKind.i64 (Ent.stamp (x2 a))),
                                                                                          FV.lit (Value.int IntKind.i64 (Ent.load (x2 a))), FV.lit (Value.bool (Ent.dr (x2 a)))])))),
                                                                              ((9 : Nat),
                                                                                SV.v
                                                                                  (AV.one
                                                                                    (CV.f
                                                                                      (FV.fs (Nat.beq n3 (0 : Nat)) (5 : Nat) n3 fun a =>
                                                                                        [FV.lit (Value.int IntKind.i64 (Ent.inc (x3 a))), FV.lit (Value.int IntKind.i64 (Ent.st (x3 a))), FV.lit (Value.int IntKind.i64 (Ent.stamp (x3 a))),
                                                                                          FV.lit (Value.int IntKind.i64 (Ent.load (x3 a))), FV.lit (Value.bool (Ent.dr (x3 a)))])))),
                                                                              ((10 : Nat),
                                                                                SV.v
                                                                                  (AV.one
                                                                                    (CV.f
                                                                                      (FV.fs (Nat.beq N (0 : Nat)) (5 : Nat) N fun a =>
                                                                                        [FV.lit (Value.int IntKind.i64 (Ent.inc (R a))), FV.lit (Value.int IntKind.i64 (Ent.st (R a))), FV.lit (Value.int IntKind.i64 (Ent.stamp (R a))),
                                                                                          FV.lit (Value.int IntKind.i64 (Ent.load (R a))), FV.lit (Value.bool (Ent.dr (R a)))]))))],
                                                                          H := [], nx := (0 : Nat), esc := false, base := (0 : Nat), wr := [] : St })))))
                                                              T.bad)
                                                            T.bad)
                                                          T.bad)
                                                        T.bad))))
                                                T.bad)
                                              T.bad)))))
                                    T.bad)
                                  T.bad))))
                          (T.br (decide ((↑i : Int) < (↑n3 : Int)))
                            (T.br (Ent.inc (x1 i) == Ent.inc (R i) && (Ent.st (x1 i) == Ent.st (R i) && (Ent.stamp (x1 i) == Ent.stamp (R i) && (Ent.load (x1 i) == Ent.load (R i) && (Ent.dr (x1 i) == Ent.dr (R i) && true)))))
                              (T.br (Ent.inc (x1 i) == Ent.inc (R i) && (Ent.st (x1 i) == Ent.st (R i) && (Ent.stamp (x1 i) == Ent.stamp (R i) && (Ent.load (x1 i) == Ent.load (R i) && (Ent.dr (x1 i) == Ent.dr (R i) && true)))))
                                (T.br (Ent.inc (x1 i) == Ent.inc (R i) && (Ent.st (x1 i) == Ent.st (R i) && (Ent.stamp (x1 i) == Ent.stamp (R i) && (Ent.load (x1 i) == Ent.load (R i) && (Ent.dr (x1 i) == Ent.dr (R i) && true)))))
                                  (T.br (Ent.inc (x1 i) == Ent.inc (R i) && (Ent.st (x1 i) == Ent.st (R i) && (Ent.stamp (x1 i) == Ent.stamp (R i) && (Ent.load (x1 i) == Ent.load (R i) && (Ent.dr (x1 i) == Ent.dr (R i) && true)))))
                                    (T.br (Ent.inc (x1 i) == Ent.inc (R i) && (Ent.st (x1 i) == Ent.st (R i) && (Ent.stamp (x1 i) == Ent.stamp (R i) && (Ent.load (x1 i) == Ent.load (R i) && (Ent.dr (x1 i) == Ent.dr (R i) && true)))))
                                      (T.br (Ent.inc (x1 i) == Ent.inc (R i) && (Ent.st (x1 i) == Ent.st (R i) && (Ent.stamp (x1 i) == Ent.stamp (R i) && (Ent.load (x1 i) == Ent.load (R i) && (Ent.dr (x1 i) == Ent.dr (R i) && true)))))
                                        (T.br (Ent.inc (x1 i) == Ent.inc (R i) && (Ent.st (x1 i) == Ent.st (R i) && (Ent.stamp (x1 i) == Ent.stamp (R i) && (Ent.load (x1 i) == Ent.load (R i) && (Ent.dr (x1 i) == Ent.dr (R i) && true)))))
                                          (T.br (Ent.inc (x1 i) == Ent.inc (R i) && (Ent.st (x1 i) == Ent.st (R i) && (Ent.stamp (x1 i) == Ent.stamp (R i) && (Ent.load (x1 i) == Ent.load (R i) && (Ent.dr (x1 i) == Ent.dr (R i) && true)))))
                                            (T.br (Ent.inc (x1 i) == Ent.inc (R i) && (Ent.st (x1 i) == Ent.st (R i) && (Ent.stamp (x1 i) == Ent.stamp (R i) && (Ent.load (x1 i) == Ent.load (R i) && (Ent.dr (x1 i) == Ent.dr (R i) && true)))))
                                              (T.br
                                                (Ent.inc (x1 i) == Ent.inc (R i) && (Ent.st (x1 i) == Ent.st (R i) && (Ent.stamp (x1 i) == Ent.stamp (R i) && (Ent.load (x1 i) == Ent.load (R i) && (Ent.dr (x1 i) == Ent.dr (R i) && true)))))
                                                (T.br (!Nat.beq N (0 : Nat))
                                                  (T.br (decide ((0 : Int) ≤ (↑i : Int) ∧ (↑i : Int) < (↑N : Int)))
                                                    (T.br (!Nat.beq n3 (0 : Nat))
                                                      (T.br (decide ((0 : Int) ≤ (↑i : Int) ∧ (↑i : Int) < (↑n3 : Int)))
                                                        (T.br (lessB (R i) (x3 i)) T.bad
                                                          (T.ret
                                                            (Ex.normal,
                                                              {
                                                                sl :=
                                                                  [((77 : Nat),
                                                                      SV.v
                                                                        (AV.one
                                                                          (CV.f
                                                                            (FV.fs (Nat.beq N (0 : Nat)) (5 : Nat) N fun a =>
                                                                              [FV.lit (Value.int IntKind.i64 (Ent.inc (R a))), FV.lit (Value.int IntKind.i64 (Ent.st (R a))), FV.lit (Value.int IntKind.i64 (Ent.stamp (R a))),
                                                                                FV.lit (Value.int IntKind.i64 (Ent.load (R a))), FV.lit (Value.bool (Ent.dr (R a)))])))),
                                                                    ((78 : Nat), SV.v (AI (↑N : Int))), ((79 : Nat), SV.v (AI (IntKind.wrap IntKind.i64 ((↑i : Int) + (1 : Int))))),
                                                                    ((7 : Nat),
                                                                      SV.v
                                                                        (AV.one
                                                                          (CV.f
                                                                            (FV.fs (Nat.beq n1 (0 : Nat)) (5 : Nat) n1 fun a =>
                                                                              [FV.lit (Value.int IntKind.i64 (Ent.inc (x1 a))), FV.lit (Value.int IntKind.i64 (Ent.st (x1 a))), FV.lit (Value.int IntKind.i64 (Ent.stamp (x1 a))),
                                                                                FV.lit (Value.int IntKind.i64 (Ent.load (x1 a))), FV.lit (Value.bool (Ent.dr (x1 a)))])))),
                                                                    ((8 : Nat),
                                                                      SV.v
                                                                        (AV.one
                                                                          (CV.f
                                                                            (FV.fs (Nat.beq n2 (0 : Nat)) (5 : Nat) n2 fun a =>
                                                                              [FV.lit (Value.int IntKind.i64 (Ent.inc (x2 a))), FV.lit (Value.int IntKind.i64 (Ent.st (x2 a))), FV.lit (Value.int IntKind.i64 (Ent.stamp (x2 a))),
                                                                                FV.lit (Value.int IntKind.i64 (Ent.load (x2 a))), FV.lit (Value.bool (Ent.dr (x2 a)))])))),
                                                                    ((9 : Nat),
                                                                      SV.v
                                                                        (AV.one
                                                                          (CV.f
                                                                            (FV.fs (Nat.beq n3 (0 : Nat)) (5 : Nat) n3 fun a =>
                                                                              [FV.lit (Value.int IntKind.i64 (Ent.inc (x3 a))), FV.lit (Value.int IntKind.i64 (Ent.st (x3 a))), FV.lit (Value.int IntKind.i64 (Ent.stamp (x3 a))),
                                                                                FV.lit (Value.int IntKind.i64 (Ent.load (x3 a))), FV.lit (Value.bool (Ent.dr (x3 a)))])))),
                                                                    ((10 : Nat),
                                                                      SV.v
                                                                        (AV.one
                                                                          (CV.f
                                                                            (FV.fs (Nat.beq N (0 : Nat)) (5 : Nat) N fun a =>
                                                                              [FV.lit (Value.int IntKind.i64 (Ent.inc (R a))), FV.lit (Value.int IntKind.i64 (Ent.st (R a))), FV.lit (Value.int IntKind.i64 (Ent.stamp (R a))),
                                                                                FV.lit (Value.int IntKind.i64 (Ent.load (R a))), FV.lit (Value.bool (Ent.dr (R a)))]))))],
                                                                H := [], nx := (0 : Nat), esc := false, base := (0 : Nat), wr := [] : St })))
                                                        T.bad)
                                                      T.bad)
                                                    T.bad)
                                                  T.bad)
                                                T.bad)
                                              T.bad)
                                            T.bad)
                                          T.bad)
                                        T.bad)
                                      T.bad)
                                    T.bad)
                                  T.bad)
                                T.bad)
                              (T.br (Ent.inc (x1 i) == Ent.inc (R i) && (Ent.st (x1 i) == Ent.st (R i) && (Ent.stamp (x1 i) == Ent.stamp (R i) && (Ent.load (x1 i) == Ent.load (R i) && (Ent.dr (x1 i) == Ent.dr (R i) && true))))) T.bad
                                (T.br (Ent.inc (x1 i) == Ent.inc (R i) && (Ent.st (x1 i) == Ent.st (R i) && (Ent.stamp (x1 i) == Ent.stamp (R i) && (Ent.load (x1 i) == Ent.load (R i) && (Ent.dr (x1 i) == Ent.dr (R i) && true))))) T.bad
                                  (T.br (!Nat.beq n3 (0 : Nat))
                                    (T.br (decide ((0 : Int) ≤ (↑i : Int) ∧ (↑i : Int) < (↑n3 : Int)))
                                      (T.br (Ent.inc (x1 i) == Ent.inc (R i) && (Ent.st (x1 i) == Ent.st (R i) && (Ent.stamp (x1 i) == Ent.stamp (R i) && (Ent.load (x1 i) == Ent.load (R i) && (Ent.dr (x1 i) == Ent.dr (R i) && true))))) T.bad
                                        (T.br (Ent.inc (x1 i) == Ent.inc (R i) && (Ent.st (x1 i) == Ent.st (R i) && (Ent.stamp (x1 i) == Ent.stamp (R i) && (Ent.load (x1 i) == Ent.load (R i) && (Ent.dr (x1 i) == Ent.dr (R i) && true)))))
                                          T.bad
                                          (T.br (Ent.inc (x1 i) == Ent.inc (R i) && (Ent.st (x1 i) == Ent.st (R i) && (Ent.stamp (x1 i) == Ent.stamp (R i) && (Ent.load (x1 i) == Ent.load (R i) && (Ent.dr (x1 i) == Ent.dr (R i) && true)))))
                                            T.bad
                                            (T.br (Ent.inc (x1 i) == Ent.inc (R i) && (Ent.st (x1 i) == Ent.st (R i) && (Ent.stamp (x1 i) == Ent.stamp (R i) && (Ent.load (x1 i) == Ent.load (R i) && (Ent.dr (x1 i) == Ent.dr (R i) && true)))))
                                              T.bad
                                              (T.br (!Nat.beq N (0 : Nat))
                                                (T.br (decide ((0 : Int) ≤ (↑i : Int) ∧ (↑i : Int) < (↑N : Int)))
                                                  (T.br
                                                    (Ent.inc (x1 i) == Ent.inc (R i) &&
                                                      (Ent.st (x1 i) == Ent.st (R i) && (Ent.stamp (x1 i) == Ent.stamp (R i) && (Ent.load (x1 i) == Ent.load (R i) && (Ent.dr (x1 i) == Ent.dr (R i) && true)))))
                                                    T.bad
                                                    (T.br
                                                      (Ent.inc (x1 i) == Ent.inc (R i) &&
                                                        (Ent.st (x1 i) == Ent.st (R i) && (Ent.stamp (x1 i) == Ent.stamp (R i) && (Ent.load (x1 i) == Ent.load (R i) && (Ent.dr (x1 i) == Ent.dr (R i) && true)))))
                                                      T.bad
                                                      (T.br
                                                        (Ent.inc (x1 i) == Ent.inc (R i) &&
                                                          (Ent.st (x1 i) == Ent.st (R i) && (Ent.stamp (x1 i) == Ent.stamp (R i) && (Ent.load (x1 i) == Ent.load (R i) && (Ent.dr (x1 i) == Ent.dr (R i) && true)))))
                                                        T.bad
                                                        (T.br (!Nat.beq N (0 : Nat))
                                                          (T.br (decide ((0 : Int) ≤ (↑i : Int) ∧ (↑i : Int) < (↑N : Int)))
                                                            (T.br (!Nat.beq n3 (0 : Nat))
                                                              (T.br (decide ((0 : Int) ≤ (↑i : Int) ∧ (↑i : Int) < (↑n3 : Int)))
                                                                (T.br (lessB (R i) (x3 i)) T.bad
                                                                  (T.br
                                                                    (!(Ent.inc (x3 i) == Ent.inc (R i) &&
                                                                        (Ent.st (x3 i) == Ent.st (R i) && (Ent.stamp (x3 i) == Ent.stamp (R i) && (Ent.load (x3 i) == Ent.load (R i) && (Ent.dr (x3 i) == Ent.dr (R i) && true))))))
                                                                    T.bad
                                                                    (T.ret
                                                                      (Ex.normal,
                                                                        {
                                                                          sl :=
                                                                            [((77 : Nat),
                                                                                SV.v
                                                                                  (AV.one
                                                                                    (CV.f
                                                                                      (FV.fs (Nat.beq N (0 : Nat)) (5 : Nat) N fun a =>
                                                                                        [FV.lit (Value.int IntKind.i64 (Ent.inc (R a))), FV.lit (Value.int IntKind.i64 (Ent.st (R a))), FV.lit (Value.int IntKind.i64 (Ent.stamp (R a))),
                                                                                          FV.lit (Value.int IntKind.i64 (Ent.load (R a))), FV.lit (Value.bool (Ent.dr (R a)))])))),
                                                                              ((78 : Nat), SV.v (AI (↑N : Int))), ((79 : Nat), SV.v (AI (IntKind.wrap IntKind.i64 ((↑i : Int) + (1 : Int))))),
                                                                              ((7 : Nat),
                                                                                SV.v
                                                                                  (AV.one
                                                                                    (CV.f
                                                                                      (FV.fs (Nat.beq n1 (0 : Nat)) (5 : Nat) n1 fun a =>
                                                                                        [FV.lit (Value.int IntKind.i64 (Ent.inc (x1 a))), FV.lit (Value.int IntKind.i64 (Ent.st (x1 a))), FV.lit (Value.int IntKind.i64 (Ent.stamp (x1 a))),
                                                                                          FV.lit (Value.int IntKind.i64 (Ent.load (x1 a))), FV.lit (Value.bool (Ent.dr (x1 a)))])))),
                                                                              ((8 : Nat),
                                                                                SV.v
                                                                                  (AV.one
                                                                                    (CV.f
                                                                                      (FV.fs (Nat.beq n2 (0 : Nat)) (5 : Nat) n2 fun a =>
                                                                                        [FV.lit (Value.int IntKind.i64 (Ent.inc (x2 a))), FV.lit (Value.int IntKind.i64 (Ent.st (x2 a))), FV.lit (Value.int IntKind.i64 (Ent.stamp (x2 a))),
                                                                                          FV.lit (Value.int IntKind.i64 (Ent.load (x2 a))), FV.lit (Value.bool (Ent.dr (x2 a)))])))),
                                                                              ((9 : Nat),
                                                                                SV.v
                                                                                  (AV.one
                                                                                    (CV.f
                                                                                      (FV.fs (Nat.beq n3 (0 : Nat)) (5 : Nat) n3 fun a =>
                                                                                        [FV.lit (Value.int IntKind.i64 (Ent.inc (x3 a))), FV.lit (Value.int IntKind.i64 (Ent.st (x3 a))), FV.lit (Value.int IntKind.i64 (Ent.stamp (x3 a))),
                                                                                          FV.lit (Value.int IntKind.i64 (Ent.load (x3 a))), FV.lit (Value.bool (Ent.dr (x3 a)))])))),
                                                                              ((10 : Nat),
                                                                                SV.v
                                                                                  (AV.one
                                                                                    (CV.f
                                                                                      (FV.fs (Nat.beq N (0 : Nat)) (5 : Nat) N fun a =>
                                                                                        [FV.lit (Value.int IntKind.i64 (Ent.inc (R a))), FV.lit (Value.int IntKind.i64 (Ent.st (R a))), FV.lit (Value.int IntKind.i64 (Ent.stamp (R a))),
                                                                                          FV.lit (Value.int IntKind.i64 (Ent.load (R a))), FV.lit (Value.bool (Ent.dr (R a)))]))))],
                                                                          H := [], nx := (0 : Nat), esc := false, base := (0 : Nat), wr := [] : St }))))
                                                                T.bad)
                                                              T.bad)
                                                            T.bad)
                                                          T.bad))))
                                                  T.bad)
                                                T.bad)))))
                                      T.bad)
                                    T.bad))))
                            (T.br (!(Ent.inc (x1 i) == Ent.inc (R i) && (Ent.st (x1 i) == Ent.st (R i) && (Ent.stamp (x1 i) == Ent.stamp (R i) && (Ent.load (x1 i) == Ent.load (R i) && (Ent.dr (x1 i) == Ent.dr (R i) && true)))))) T.bad
                              (T.ret
                                (Ex.normal,
                                  {
                                    sl :=
                                      [((77 : Nat),
                                          SV.v
                                            (AV.one
                                              (CV.f
                                                (FV.fs (Nat.beq N (0 : Nat)) (5 : Nat) N fun a =>
                                                  [FV.lit (Value.int IntKind.i64 (Ent.inc (R a))), FV.lit (Value.int IntKind.i64 (Ent.st (R a))), FV.lit (Value.int IntKind.i64 (Ent.stamp (R a))),
                                                    FV.lit (Value.int IntKind.i64 (Ent.load (R a))), FV.lit (Value.bool (Ent.dr (R a)))])))),
                                        ((78 : Nat), SV.v (AI (↑N : Int))), ((79 : Nat), SV.v (AI (IntKind.wrap IntKind.i64 ((↑i : Int) + (1 : Int))))),
                                        ((7 : Nat),
                                          SV.v
                                            (AV.one
                                              (CV.f
                                                (FV.fs (Nat.beq n1 (0 : Nat)) (5 : Nat) n1 fun a =>
                                                  [FV.lit (Value.int IntKind.i64 (Ent.inc (x1 a))), FV.lit (Value.int IntKind.i64 (Ent.st (x1 a))), FV.lit (Value.int IntKind.i64 (Ent.stamp (x1 a))),
                                                    FV.lit (Value.int IntKind.i64 (Ent.load (x1 a))), FV.lit (Value.bool (Ent.dr (x1 a)))])))),
                                        ((8 : Nat),
                                          SV.v
                                            (AV.one
                                              (CV.f
                                                (FV.fs (Nat.beq n2 (0 : Nat)) (5 : Nat) n2 fun a =>
                                                  [FV.lit (Value.int IntKind.i64 (Ent.inc (x2 a))), FV.lit (Value.int IntKind.i64 (Ent.st (x2 a))), FV.lit (Value.int IntKind.i64 (Ent.stamp (x2 a))),
                                                    FV.lit (Value.int IntKind.i64 (Ent.load (x2 a))), FV.lit (Value.bool (Ent.dr (x2 a)))])))),
                                        ((9 : Nat),
                                          SV.v
                                            (AV.one
                                              (CV.f
                                                (FV.fs (Nat.beq n3 (0 : Nat)) (5 : Nat) n3 fun a =>
                                                  [FV.lit (Value.int IntKind.i64 (Ent.inc (x3 a))), FV.lit (Value.int IntKind.i64 (Ent.st (x3 a))), FV.lit (Value.int IntKind.i64 (Ent.stamp (x3 a))),
                                                    FV.lit (Value.int IntKind.i64 (Ent.load (x3 a))), FV.lit (Value.bool (Ent.dr (x3 a)))])))),
                                        ((10 : Nat),
                                          SV.v
                                            (AV.one
                                              (CV.f
                                                (FV.fs (Nat.beq N (0 : Nat)) (5 : Nat) N fun a =>
                                                  [FV.lit (Value.int IntKind.i64 (Ent.inc (R a))), FV.lit (Value.int IntKind.i64 (Ent.st (R a))), FV.lit (Value.int IntKind.i64 (Ent.stamp (R a))),
                                                    FV.lit (Value.int IntKind.i64 (Ent.load (R a))), FV.lit (Value.bool (Ent.dr (R a)))]))))],
                                    H := [], nx := (0 : Nat), esc := false, base := (0 : Nat), wr := [] : St }))))))
                      T.bad)
                    T.bad)
                  T.bad)
                T.bad)
              T.bad)
            T.bad)
          T.bad)
        T.bad)
      (T.br (decide ((↑i : Int) < (↑n2 : Int)))
        (T.br (!Nat.beq n2 (0 : Nat))
          (T.br (decide ((0 : Int) ≤ (↑i : Int) ∧ (↑i : Int) < (↑n2 : Int)))
            (T.br (!Nat.beq N (0 : Nat))
              (T.br (decide ((0 : Int) ≤ (↑i : Int) ∧ (↑i : Int) < (↑N : Int)))
                (T.br (!Nat.beq N (0 : Nat))
                  (T.br (decide ((0 : Int) ≤ (↑i : Int) ∧ (↑i : Int) < (↑N : Int)))
                    (T.br (!Nat.beq n2 (0 : Nat))
                      (T.br (decide ((0 : Int) ≤ (↑i : Int) ∧ (↑i : Int) < (↑n2 : Int)))
                        (T.br (lessB (R i) (x2 i)) T.bad
                          (T.br (decide ((↑i : Int) < (↑n3 : Int)))
                            (T.br (Ent.inc (x2 i) == Ent.inc (R i) && (Ent.st (x2 i) == Ent.st (R i) && (Ent.stamp (x2 i) == Ent.stamp (R i) && (Ent.load (x2 i) == Ent.load (R i) && (Ent.dr (x2 i) == Ent.dr (R i) && true)))))
                              (T.br (Ent.inc (x2 i) == Ent.inc (R i) && (Ent.st (x2 i) == Ent.st (R i) && (Ent.stamp (x2 i) == Ent.stamp (R i) && (Ent.load (x2 i) == Ent.load (R i) && (Ent.dr (x2 i) == Ent.dr (R i) && true)))))
                                (T.br (Ent.inc (x2 i) == Ent.inc (R i) && (Ent.st (x2 i) == Ent.st (R i) && (Ent.stamp (x2 i) == Ent.stamp (R i) && (Ent.load (x2 i) == Ent.load (R i) && (Ent.dr (x2 i) == Ent.dr (R i) && true)))))
                                  (T.br (Ent.inc (x2 i) == Ent.inc (R i) && (Ent.st (x2 i) == Ent.st (R i) && (Ent.stamp (x2 i) == Ent.stamp (R i) && (Ent.load (x2 i) == Ent.load (R i) && (Ent.dr (x2 i) == Ent.dr (R i) && true)))))
                                    (T.br (Ent.inc (x2 i) == Ent.inc (R i) && (Ent.st (x2 i) == Ent.st (R i) && (Ent.stamp (x2 i) == Ent.stamp (R i) && (Ent.load (x2 i) == Ent.load (R i) && (Ent.dr (x2 i) == Ent.dr (R i) && true)))))
                                      (T.br (Ent.inc (x2 i) == Ent.inc (R i) && (Ent.st (x2 i) == Ent.st (R i) && (Ent.stamp (x2 i) == Ent.stamp (R i) && (Ent.load (x2 i) == Ent.load (R i) && (Ent.dr (x2 i) == Ent.dr (R i) && true)))))
                                        (T.br (Ent.inc (x2 i) == Ent.inc (R i) && (Ent.st (x2 i) == Ent.st (R i) && (Ent.stamp (x2 i) == Ent.stamp (R i) && (Ent.load (x2 i) == Ent.load (R i) && (Ent.dr (x2 i) == Ent.dr (R i) && true)))))
                                          (T.br (Ent.inc (x2 i) == Ent.inc (R i) && (Ent.st (x2 i) == Ent.st (R i) && (Ent.stamp (x2 i) == Ent.stamp (R i) && (Ent.load (x2 i) == Ent.load (R i) && (Ent.dr (x2 i) == Ent.dr (R i) && true)))))
                                            (T.br (Ent.inc (x2 i) == Ent.inc (R i) && (Ent.st (x2 i) == Ent.st (R i) && (Ent.stamp (x2 i) == Ent.stamp (R i) && (Ent.load (x2 i) == Ent.load (R i) && (Ent.dr (x2 i) == Ent.dr (R i) && true)))))
                                              (T.br
                                                (Ent.inc (x2 i) == Ent.inc (R i) && (Ent.st (x2 i) == Ent.st (R i) && (Ent.stamp (x2 i) == Ent.stamp (R i) && (Ent.load (x2 i) == Ent.load (R i) && (Ent.dr (x2 i) == Ent.dr (R i) && true)))))
                                                (T.br (!Nat.beq N (0 : Nat))
                                                  (T.br (decide ((0 : Int) ≤ (↑i : Int) ∧ (↑i : Int) < (↑N : Int)))
                                                    (T.br (!Nat.beq n3 (0 : Nat))
                                                      (T.br (decide ((0 : Int) ≤ (↑i : Int) ∧ (↑i : Int) < (↑n3 : Int)))
                                                        (T.br (lessB (R i) (x3 i)) T.bad
                                                          (T.ret
                                                            (Ex.normal,
                                                              {
                                                                sl :=
                                                                  [((77 : Nat),
                                                                      SV.v
                                                                        (AV.one
                                                                          (CV.f
                                                                            (FV.fs (Nat.beq N (0 : Nat)) (5 : Nat) N fun a =>
                                                                              [FV.lit (Value.int IntKind.i64 (Ent.inc (R a))), FV.lit (Value.int IntKind.i64 (Ent.st (R a))), FV.lit (Value.int IntKind.i64 (Ent.stamp (R a))),
                                                                                FV.lit (Value.int IntKind.i64 (Ent.load (R a))), FV.lit (Value.bool (Ent.dr (R a)))])))),
                                                                    ((78 : Nat), SV.v (AI (↑N : Int))), ((79 : Nat), SV.v (AI (IntKind.wrap IntKind.i64 ((↑i : Int) + (1 : Int))))),
                                                                    ((7 : Nat),
                                                                      SV.v
                                                                        (AV.one
                                                                          (CV.f
                                                                            (FV.fs (Nat.beq n1 (0 : Nat)) (5 : Nat) n1 fun a =>
                                                                              [FV.lit (Value.int IntKind.i64 (Ent.inc (x1 a))), FV.lit (Value.int IntKind.i64 (Ent.st (x1 a))), FV.lit (Value.int IntKind.i64 (Ent.stamp (x1 a))),
                                                                                FV.lit (Value.int IntKind.i64 (Ent.load (x1 a))), FV.lit (Value.bool (Ent.dr (x1 a)))])))),
                                                                    ((8 : Nat),
                                                                      SV.v
                                                                        (AV.one
                                                                          (CV.f
                                                                            (FV.fs (Nat.beq n2 (0 : Nat)) (5 : Nat) n2 fun a =>
                                                                              [FV.lit (Value.int IntKind.i64 (Ent.inc (x2 a))), FV.lit (Value.int IntKind.i64 (Ent.st (x2 a))), FV.lit (Value.int IntKind.i64 (Ent.stamp (x2 a))),
                                                                                FV.lit (Value.int IntKind.i64 (Ent.load (x2 a))), FV.lit (Value.bool (Ent.dr (x2 a)))])))),
                                                                    ((9 : Nat),
                                                                      SV.v
                                                                        (AV.one
                                                                          (CV.f
                                                                            (FV.fs (Nat.beq n3 (0 : Nat)) (5 : Nat) n3 fun a =>
                                                                              [FV.lit (Value.int IntKind.i64 (Ent.inc (x3 a))), FV.lit (Value.int IntKind.i64 (Ent.st (x3 a))), FV.lit (Value.int IntKind.i64 (Ent.stamp (x3 a))),
                                                                                FV.lit (Value.int IntKind.i64 (Ent.load (x3 a))), FV.lit (Value.bool (Ent.dr (x3 a)))])))),
                                                                    ((10 : Nat),
                                                                      SV.v
                                                                        (AV.one
                                                                          (CV.f
                                                                            (FV.fs (Nat.beq N (0 : Nat)) (5 : Nat) N fun a =>
                                                                              [FV.lit (Value.int IntKind.i64 (Ent.inc (R a))), FV.lit (Value.int IntKind.i64 (Ent.st (R a))), FV.lit (Value.int IntKind.i64 (Ent.stamp (R a))),
                                                                                FV.lit (Value.int IntKind.i64 (Ent.load (R a))), FV.lit (Value.bool (Ent.dr (R a)))]))))],
                                                                H := [], nx := (0 : Nat), esc := false, base := (0 : Nat), wr := [] : St })))
                                                        T.bad)
                                                      T.bad)
                                                    T.bad)
                                                  T.bad)
                                                T.bad)
                                              T.bad)
                                            T.bad)
                                          T.bad)
                                        T.bad)
                                      T.bad)
                                    T.bad)
                                  T.bad)
                                T.bad)
                              (T.br (Ent.inc (x2 i) == Ent.inc (R i) && (Ent.st (x2 i) == Ent.st (R i) && (Ent.stamp (x2 i) == Ent.stamp (R i) && (Ent.load (x2 i) == Ent.load (R i) && (Ent.dr (x2 i) == Ent.dr (R i) && true))))) T.bad
                                (T.br (Ent.inc (x2 i) == Ent.inc (R i) && (Ent.st (x2 i) == Ent.st (R i) && (Ent.stamp (x2 i) == Ent.stamp (R i) && (Ent.load (x2 i) == Ent.load (R i) && (Ent.dr (x2 i) == Ent.dr (R i) && true))))) T.bad
                                  (T.br (!Nat.beq n3 (0 : Nat))
                                    (T.br (decide ((0 : Int) ≤ (↑i : Int) ∧ (↑i : Int) < (↑n3 : Int)))
                                      (T.br (Ent.inc (x2 i) == Ent.inc (R i) && (Ent.st (x2 i) == Ent.st (R i) && (Ent.stamp (x2 i) == Ent.stamp (R i) && (Ent.load (x2 i) == Ent.load (R i) && (Ent.dr (x2 i) == Ent.dr (R i) && true))))) T.bad
                                        (T.br (Ent.inc (x2 i) == Ent.inc (R i) && (Ent.st (x2 i) == Ent.st (R i) && (Ent.stamp (x2 i) == Ent.stamp (R i) && (Ent.load (x2 i) == Ent.load (R i) && (Ent.dr (x2 i) == Ent.dr (R i) && true)))))
                                          T.bad
                                          (T.br (Ent.inc (x2 i) == Ent.inc (R i) && (Ent.st (x2 i) == Ent.st (R i) && (Ent.stamp (x2 i) == Ent.stamp (R i) && (Ent.load (x2 i) == Ent.load (R i) && (Ent.dr (x2 i) == Ent.dr (R i) && true)))))
                                            T.bad
                                            (T.br (Ent.inc (x2 i) == Ent.inc (R i) && (Ent.st (x2 i) == Ent.st (R i) && (Ent.stamp (x2 i) == Ent.stamp (R i) && (Ent.load (x2 i) == Ent.load (R i) && (Ent.dr (x2 i) == Ent.dr (R i) && true)))))
                                              T.bad
                                              (T.br (!Nat.beq N (0 : Nat))
                                                (T.br (decide ((0 : Int) ≤ (↑i : Int) ∧ (↑i : Int) < (↑N : Int)))
                                                  (T.br
                                                    (Ent.inc (x2 i) == Ent.inc (R i) &&
                                                      (Ent.st (x2 i) == Ent.st (R i) && (Ent.stamp (x2 i) == Ent.stamp (R i) && (Ent.load (x2 i) == Ent.load (R i) && (Ent.dr (x2 i) == Ent.dr (R i) && true)))))
                                                    T.bad
                                                    (T.br
                                                      (Ent.inc (x2 i) == Ent.inc (R i) &&
                                                        (Ent.st (x2 i) == Ent.st (R i) && (Ent.stamp (x2 i) == Ent.stamp (R i) && (Ent.load (x2 i) == Ent.load (R i) && (Ent.dr (x2 i) == Ent.dr (R i) && true)))))
                                                      T.bad
                                                      (T.br
                                                        (Ent.inc (x2 i) == Ent.inc (R i) &&
                                                          (Ent.st (x2 i) == Ent.st (R i) && (Ent.stamp (x2 i) == Ent.stamp (R i) && (Ent.load (x2 i) == Ent.load (R i) && (Ent.dr (x2 i) == Ent.dr (R i) && true)))))
                                                        T.bad
                                                        (T.br (!Nat.beq N (0 : Nat))
                                                          (T.br (decide ((0 : Int) ≤ (↑i : Int) ∧ (↑i : Int) < (↑N : Int)))
                                                            (T.br (!Nat.beq n3 (0 : Nat))
                                                              (T.br (decide ((0 : Int) ≤ (↑i : Int) ∧ (↑i : Int) < (↑n3 : Int)))
                                                                (T.br (lessB (R i) (x3 i)) T.bad
                                                                  (T.br
                                                                    (!(Ent.inc (x3 i) == Ent.inc (R i) &&
                                                                        (Ent.st (x3 i) == Ent.st (R i) && (Ent.stamp (x3 i) == Ent.stamp (R i) && (Ent.load (x3 i) == Ent.load (R i) && (Ent.dr (x3 i) == Ent.dr (R i) && true))))))
                                                                    T.bad
                                                                    (T.ret
                                                                      (Ex.normal,
                                                                        {
                                                                          sl :=
                                                                            [((77 : Nat),
                                                                                SV.v
                                                                                  (AV.one
                                                                                    (CV.f
                                                                                      (FV.fs (Nat.beq N (0 : Nat)) (5 : Nat) N fun a =>
                                                                                        [FV.lit (Value.int IntKind.i64 (Ent.inc (R a))), FV.lit (Value.int IntKind.i64 (Ent.st (R a))), FV.lit (Value.int IntKind.i64 (Ent.stamp (R a))),
                                                                                          FV.lit (Value.int IntKind.i64 (Ent.load (R a))), FV.lit (Value.bool (Ent.dr (R a)))])))),
                                                                              ((78 : Nat), SV.v (AI (↑N : Int))), ((79 : Nat), SV.v (AI (IntKind.wrap IntKind.i64 ((↑i : Int) + (1 : Int))))),
                                                                              ((7 : Nat),
                                                                                SV.v
                                                                                  (AV.one
                                                                                    (CV.f
                                                                                      (FV.fs (Nat.beq n1 (0 : Nat)) (5 : Nat) n1 fun a =>
                                                                                        [FV.lit (Value.int IntKind.i64 (Ent.inc (x1 a))), FV.lit (Value.int IntKind.i64 (Ent.st (x1 a))), FV.lit (Value.int IntKind.i64 (Ent.stamp (x1 a))),
                                                                                          FV.lit (Value.int IntKind.i64 (Ent.load (x1 a))), FV.lit (Value.bool (Ent.dr (x1 a)))])))),
                                                                              ((8 : Nat),
                                                                                SV.v
                                                                                  (AV.one
                                                                                    (CV.f
                                                                                      (FV.fs (Nat.beq n2 (0 : Nat)) (5 : Nat) n2 fun a =>
                                                                                        [FV.lit (Value.int IntKind.i64 (Ent.inc (x2 a))), FV.lit (Value.int IntKind.i64 (Ent.st (x2 a))), FV.lit (Value.int IntKind.i64 (Ent.stamp (x2 a))),
                                                                                          FV.lit (Value.int IntKind.i64 (Ent.load (x2 a))), FV.lit (Value.bool (Ent.dr (x2 a)))])))),
                                                                              ((9 : Nat),
                                                                                SV.v
                                                                                  (AV.one
                                                                                    (CV.f
                                                                                      (FV.fs (Nat.beq n3 (0 : Nat)) (5 : Nat) n3 fun a =>
                                                                                        [FV.lit (Value.int IntKind.i64 (Ent.inc (x3 a))), FV.lit (Value.int IntKind.i64 (Ent.st (x3 a))), FV.lit (Value.int IntKind.i64 (Ent.stamp (x3 a))),
                                                                                          FV.lit (Value.int IntKind.i64 (Ent.load (x3 a))), FV.lit (Value.bool (Ent.dr (x3 a)))])))),
                                                                              ((10 : Nat),
                                                                                SV.v
                                                                                  (AV.one
                                                                                    (CV.f
                                                                                      (FV.fs (Nat.beq N (0 : Nat)) (5 : Nat) N fun a =>
                                                                                        [FV.lit (Value.int IntKind.i64 (Ent.inc (R a))), FV.lit (Value.int IntKind.i64 (Ent.st (R a))), FV.lit (Value.int IntKind.i64 (Ent.stamp (R a))),
                                                                                          FV.lit (Value.int IntKind.i64 (Ent.load (R a))), FV.lit (Value.bool (Ent.dr (R a)))]))))],
                                                                          H := [], nx := (0 : Nat), esc := false, base := (0 : Nat), wr := [] : St }))))
                                                                T.bad)
                                                              T.bad)
                                                            T.bad)
                                                          T.bad))))
                                                  T.bad)
                                                T.bad)))))
                                      T.bad)
                                    T.bad))))
                            (T.br (!(Ent.inc (x2 i) == Ent.inc (R i) && (Ent.st (x2 i) == Ent.st (R i) && (Ent.stamp (x2 i) == Ent.stamp (R i) && (Ent.load (x2 i) == Ent.load (R i) && (Ent.dr (x2 i) == Ent.dr (R i) && true)))))) T.bad
                              (T.ret
                                (Ex.normal,
                                  {
                                    sl :=
                                      [((77 : Nat),
                                          SV.v
                                            (AV.one
                                              (CV.f
                                                (FV.fs (Nat.beq N (0 : Nat)) (5 : Nat) N fun a =>
                                                  [FV.lit (Value.int IntKind.i64 (Ent.inc (R a))), FV.lit (Value.int IntKind.i64 (Ent.st (R a))), FV.lit (Value.int IntKind.i64 (Ent.stamp (R a))),
                                                    FV.lit (Value.int IntKind.i64 (Ent.load (R a))), FV.lit (Value.bool (Ent.dr (R a)))])))),
                                        ((78 : Nat), SV.v (AI (↑N : Int))), ((79 : Nat), SV.v (AI (IntKind.wrap IntKind.i64 ((↑i : Int) + (1 : Int))))),
                                        ((7 : Nat),
                                          SV.v
                                            (AV.one
                                              (CV.f
                                                (FV.fs (Nat.beq n1 (0 : Nat)) (5 : Nat) n1 fun a =>
                                                  [FV.lit (Value.int IntKind.i64 (Ent.inc (x1 a))), FV.lit (Value.int IntKind.i64 (Ent.st (x1 a))), FV.lit (Value.int IntKind.i64 (Ent.stamp (x1 a))),
                                                    FV.lit (Value.int IntKind.i64 (Ent.load (x1 a))), FV.lit (Value.bool (Ent.dr (x1 a)))])))),
                                        ((8 : Nat),
                                          SV.v
                                            (AV.one
                                              (CV.f
                                                (FV.fs (Nat.beq n2 (0 : Nat)) (5 : Nat) n2 fun a =>
                                                  [FV.lit (Value.int IntKind.i64 (Ent.inc (x2 a))), FV.lit (Value.int IntKind.i64 (Ent.st (x2 a))), FV.lit (Value.int IntKind.i64 (Ent.stamp (x2 a))),
                                                    FV.lit (Value.int IntKind.i64 (Ent.load (x2 a))), FV.lit (Value.bool (Ent.dr (x2 a)))])))),
                                        ((9 : Nat),
                                          SV.v
                                            (AV.one
                                              (CV.f
                                                (FV.fs (Nat.beq n3 (0 : Nat)) (5 : Nat) n3 fun a =>
                                                  [FV.lit (Value.int IntKind.i64 (Ent.inc (x3 a))), FV.lit (Value.int IntKind.i64 (Ent.st (x3 a))), FV.lit (Value.int IntKind.i64 (Ent.stamp (x3 a))),
                                                    FV.lit (Value.int IntKind.i64 (Ent.load (x3 a))), FV.lit (Value.bool (Ent.dr (x3 a)))])))),
                                        ((10 : Nat),
                                          SV.v
                                            (AV.one
                                              (CV.f
                                                (FV.fs (Nat.beq N (0 : Nat)) (5 : Nat) N fun a =>
                                                  [FV.lit (Value.int IntKind.i64 (Ent.inc (R a))), FV.lit (Value.int IntKind.i64 (Ent.st (R a))), FV.lit (Value.int IntKind.i64 (Ent.stamp (R a))),
                                                    FV.lit (Value.int IntKind.i64 (Ent.load (R a))), FV.lit (Value.bool (Ent.dr (R a)))]))))],
                                    H := [], nx := (0 : Nat), esc := false, base := (0 : Nat), wr := [] : St })))))
                        T.bad)
                      T.bad)
                    T.bad)
                  T.bad)
                T.bad)
              T.bad)
            T.bad)
          T.bad)
        (T.br (decide ((↑i : Int) < (↑n3 : Int)))
          (T.br (!Nat.beq n3 (0 : Nat))
            (T.br (decide ((0 : Int) ≤ (↑i : Int) ∧ (↑i : Int) < (↑n3 : Int)))
              (T.br (!Nat.beq N (0 : Nat))
                (T.br (decide ((0 : Int) ≤ (↑i : Int) ∧ (↑i : Int) < (↑N : Int)))
                  (T.br (!Nat.beq N (0 : Nat))
                    (T.br (decide ((0 : Int) ≤ (↑i : Int) ∧ (↑i : Int) < (↑N : Int)))
                      (T.br (!Nat.beq n3 (0 : Nat))
                        (T.br (decide ((0 : Int) ≤ (↑i : Int) ∧ (↑i : Int) < (↑n3 : Int)))
                          (T.br (lessB (R i) (x3 i)) T.bad
                            (T.br (!(Ent.inc (x3 i) == Ent.inc (R i) && (Ent.st (x3 i) == Ent.st (R i) && (Ent.stamp (x3 i) == Ent.stamp (R i) && (Ent.load (x3 i) == Ent.load (R i) && (Ent.dr (x3 i) == Ent.dr (R i) && true)))))) T.bad
                              (T.ret
                                (Ex.normal,
                                  {
                                    sl :=
                                      [((77 : Nat),
                                          SV.v
                                            (AV.one
                                              (CV.f
                                                (FV.fs (Nat.beq N (0 : Nat)) (5 : Nat) N fun a =>
                                                  [FV.lit (Value.int IntKind.i64 (Ent.inc (R a))), FV.lit (Value.int IntKind.i64 (Ent.st (R a))), FV.lit (Value.int IntKind.i64 (Ent.stamp (R a))),
                                                    FV.lit (Value.int IntKind.i64 (Ent.load (R a))), FV.lit (Value.bool (Ent.dr (R a)))])))),
                                        ((78 : Nat), SV.v (AI (↑N : Int))), ((79 : Nat), SV.v (AI (IntKind.wrap IntKind.i64 ((↑i : Int) + (1 : Int))))),
                                        ((7 : Nat),
                                          SV.v
                                            (AV.one
                                              (CV.f
                                                (FV.fs (Nat.beq n1 (0 : Nat)) (5 : Nat) n1 fun a =>
                                                  [FV.lit (Value.int IntKind.i64 (Ent.inc (x1 a))), FV.lit (Value.int IntKind.i64 (Ent.st (x1 a))), FV.lit (Value.int IntKind.i64 (Ent.stamp (x1 a))),
                                                    FV.lit (Value.int IntKind.i64 (Ent.load (x1 a))), FV.lit (Value.bool (Ent.dr (x1 a)))])))),
                                        ((8 : Nat),
                                          SV.v
                                            (AV.one
                                              (CV.f
                                                (FV.fs (Nat.beq n2 (0 : Nat)) (5 : Nat) n2 fun a =>
                                                  [FV.lit (Value.int IntKind.i64 (Ent.inc (x2 a))), FV.lit (Value.int IntKind.i64 (Ent.st (x2 a))), FV.lit (Value.int IntKind.i64 (Ent.stamp (x2 a))),
                                                    FV.lit (Value.int IntKind.i64 (Ent.load (x2 a))), FV.lit (Value.bool (Ent.dr (x2 a)))])))),
                                        ((9 : Nat),
                                          SV.v
                                            (AV.one
                                              (CV.f
                                                (FV.fs (Nat.beq n3 (0 : Nat)) (5 : Nat) n3 fun a =>
                                                  [FV.lit (Value.int IntKind.i64 (Ent.inc (x3 a))), FV.lit (Value.int IntKind.i64 (Ent.st (x3 a))), FV.lit (Value.int IntKind.i64 (Ent.stamp (x3 a))),
                                                    FV.lit (Value.int IntKind.i64 (Ent.load (x3 a))), FV.lit (Value.bool (Ent.dr (x3 a)))])))),
                                        ((10 : Nat),
                                          SV.v
                                            (AV.one
                                              (CV.f
                                                (FV.fs (Nat.beq N (0 : Nat)) (5 : Nat) N fun a =>
                                                  [FV.lit (Value.int IntKind.i64 (Ent.inc (R a))), FV.lit (Value.int IntKind.i64 (Ent.st (R a))), FV.lit (Value.int IntKind.i64 (Ent.stamp (R a))),
                                                    FV.lit (Value.int IntKind.i64 (Ent.load (R a))), FV.lit (Value.bool (Ent.dr (R a)))]))))],
                                    H := [], nx := (0 : Nat), esc := false, base := (0 : Nat), wr := [] : St }))))
                          T.bad)
                        T.bad)
                      T.bad)
                    T.bad)
                  T.bad)
                T.bad)
              T.bad)
            T.bad)
          T.bad)))
    (T.ret
      (Ex.exit (0 : Nat),
        {
          sl :=
            [((7 : Nat),
                SV.v
                  (AV.one
                    (CV.f
                      (FV.fs (Nat.beq n1 (0 : Nat)) (5 : Nat) n1 fun a =>
                        [FV.lit (Value.int IntKind.i64 (Ent.inc (x1 a))), FV.lit (Value.int IntKind.i64 (Ent.st (x1 a))), FV.lit (Value.int IntKind.i64 (Ent.stamp (x1 a))), FV.lit (Value.int IntKind.i64 (Ent.load (x1 a))),
                          FV.lit (Value.bool (Ent.dr (x1 a)))])))),
              ((8 : Nat),
                SV.v
                  (AV.one
                    (CV.f
                      (FV.fs (Nat.beq n2 (0 : Nat)) (5 : Nat) n2 fun a =>
                        [FV.lit (Value.int IntKind.i64 (Ent.inc (x2 a))), FV.lit (Value.int IntKind.i64 (Ent.st (x2 a))), FV.lit (Value.int IntKind.i64 (Ent.stamp (x2 a))), FV.lit (Value.int IntKind.i64 (Ent.load (x2 a))),
                          FV.lit (Value.bool (Ent.dr (x2 a)))])))),
              ((9 : Nat),
                SV.v
                  (AV.one
                    (CV.f
                      (FV.fs (Nat.beq n3 (0 : Nat)) (5 : Nat) n3 fun a =>
                        [FV.lit (Value.int IntKind.i64 (Ent.inc (x3 a))), FV.lit (Value.int IntKind.i64 (Ent.st (x3 a))), FV.lit (Value.int IntKind.i64 (Ent.stamp (x3 a))), FV.lit (Value.int IntKind.i64 (Ent.load (x3 a))),
                          FV.lit (Value.bool (Ent.dr (x3 a)))])))),
              ((10 : Nat),
                SV.v
                  (AV.one
                    (CV.f
                      (FV.fs (Nat.beq N (0 : Nat)) (5 : Nat) N fun a =>
                        [FV.lit (Value.int IntKind.i64 (Ent.inc (R a))), FV.lit (Value.int IntKind.i64 (Ent.st (R a))), FV.lit (Value.int IntKind.i64 (Ent.stamp (R a))), FV.lit (Value.int IntKind.i64 (Ent.load (R a))),
                          FV.lit (Value.bool (Ent.dr (R a)))]))))],
          H := [], nx := (0 : Nat), esc := false, base := (0 : Nat), wr := [] : St })) := by kernel_rfl
theorem round_mj (n1 : Nat) (x1 : Nat → Ent) (n2 : Nat) (x2 : Nat → Ent) (n3 : Nat) (x3 : Nat → Ent) (N : Nat) (R : Nat → Ent) (hb : N ≤ 1000) (hv : ∀ t, vals N R t = omax (omax (vals n1 x1 t) (vals n2 x2 t)) (vals n3 x3 t)) (i : Nat) (a : Unit) (hi : i < N) (hI : (fun (i : Nat) (a : Unit) => (True : Prop)) i a) : ∃ s, (tgt_mj n1 x1 n2 x2 n3 x3 N R i a).res = some (.normal, s) ∧ StLe 0 s (S_mj n1 x1 n2 x2 n3 x3 N R (i + 1) ((fun (i : Nat) (a : Unit) => (())) i a)) ∧ (fun (i : Nat) (a : Unit) => (True : Prop)) (i + 1) ((fun (i : Nat) (a : Unit) => (())) i a) := by
  refine T.over_exP (g := fun s => (Ex.normal, s)) (tree_mj n1 x1 n2 x2 n3 x3 N R i a) ?_
  obtain ⟨t1, l1, l2, l3⟩ := told_of N R n1 x1 n2 x2 n3 x3 hv i hi
  have e1 : ((i : Int) < (N : Int)) := by omega
  have e2 : (0 : Int) ≤ (i : Int) ∧ (i : Int) < (N : Int) := by omega
  have e3 : IntKind.wrap .i64 ((i : Int) + 1) = ((i + 1 : Nat) : Int) := by rw [wrapI (by omega)]; rfl
  have e4 : (!Nat.beq N 0) = true := by rw [beq_ff (by omega)]; rfl
  have ee : ∀ a b : Ent, (Ent.inc a == Ent.inc b && (Ent.st a == Ent.st b && (Ent.stamp a == Ent.stamp b && (Ent.load a == Ent.load b && (Ent.dr a == Ent.dr b && true))))) = eqE a b := fun _ _ => rfl
  have go : ∀ (n : Nat) (x : Nat → Ent), (i < n → lessB (R i) (x i) = false) → (i < n ∧ ((i : Int) < (n : Int)) ∧ ((0 : Int) ≤ (i : Int) ∧ (i : Int) < (n : Int)) ∧ (!Nat.beq n 0) = true ∧ lessB (R i) (x i) = false) ∨ (¬ i < n ∧ ¬ ((i : Int) < (n : Int))) := fun n x h => by
    by_cases h1 : i < n
    · exact .inl ⟨h1, by omega, by omega, (by rw [beq_ff (by omega)]; rfl), h h1⟩
    · exact .inr ⟨h1, by omega⟩
  refine ⟨⟨(S_mj n1 x1 n2 x2 n3 x3 N R (i + 1) ()).sl, [], 0, false, 0, []⟩, ?_, StLe.refl (Nat.zero_le _), trivial⟩
  simp only [T.res_br, T.res_ret, T.res_bad, decide_eq_true_eq, e1, e2, e3, e4, ee, Bool.not_false, reduceIte, and_self]
  rcases go n1 x1 l1 with ⟨a1, a2, a3, a4, a5⟩ | ⟨a1, a2⟩ <;> rcases go n2 x2 l2 with ⟨b1, b2, b3, b4, b5⟩ | ⟨b1, b2⟩ <;> rcases go n3 x3 l3 with ⟨c1, c2, c3, c4, c5⟩ | ⟨c1, c2⟩
  · cases q1 : eqE (x1 i) (R i) <;> cases q2 : eqE (x2 i) (R i) <;> cases q3 : eqE (x3 i) (R i) <;> simp only [a2, a3, a4, a5, b2, b3, b4, b5, c2, c3, c4, c5, and_self, q1, q2, q3, Bool.not_false, Bool.not_true, Bool.false_eq_true, reduceIte, and_false, or_self, and_true, or_false, false_or, a1, b1, c1] at t1 ⊢ <;> rfl
  · cases q1 : eqE (x1 i) (R i) <;> cases q2 : eqE (x2 i) (R i) <;> cases q3 : eqE (x3 i) (R i) <;> simp only [a2, a3, a4, a5, b2, b3, b4, b5, c2, and_self, q1, q2, q3, Bool.not_false, Bool.not_true, Bool.false_eq_true, reduceIte, and_false, or_self, and_true, or_false, false_or, a1, b1, c1] at t1 ⊢ <;> rfl
  · cases q1 : eqE (x1 i) (R i) <;> cases q2 : eqE (x2 i) (R i) <;> cases q3 : eqE (x3 i) (R i) <;> simp only [a2, a3, a4, a5, b2, c2, c3, c4, c5, and_self, q1, q2, q3, Bool.not_false, Bool.not_true, Bool.false_eq_true, reduceIte, and_false, or_self, and_true, or_false, false_or, a1, b1, c1] at t1 ⊢ <;> rfl
  · cases q1 : eqE (x1 i) (R i) <;> cases q2 : eqE (x2 i) (R i) <;> cases q3 : eqE (x3 i) (R i) <;> simp only [a2, a3, a4, a5, b2, c2, and_self, q1, q2, q3, Bool.not_false, Bool.not_true, Bool.false_eq_true, reduceIte, and_false, or_self, and_true, or_false, false_or, a1, b1, c1] at t1 ⊢ <;> rfl
  · cases q1 : eqE (x1 i) (R i) <;> cases q2 : eqE (x2 i) (R i) <;> cases q3 : eqE (x3 i) (R i) <;> simp only [a2, b2, b3, b4, b5, c2, c3, c4, c5, and_self, q1, q2, q3, Bool.not_false, Bool.not_true, Bool.false_eq_true, reduceIte, and_false, or_self, and_true, or_false, false_or, a1, b1, c1] at t1 ⊢ <;> rfl
  · cases q1 : eqE (x1 i) (R i) <;> cases q2 : eqE (x2 i) (R i) <;> cases q3 : eqE (x3 i) (R i) <;> simp only [a2, b2, b3, b4, b5, c2, and_self, q1, q2, q3, Bool.not_false, Bool.not_true, Bool.false_eq_true, reduceIte, and_false, or_self, and_true, or_false, false_or, a1, b1, c1] at t1 ⊢ <;> rfl
  · cases q1 : eqE (x1 i) (R i) <;> cases q2 : eqE (x2 i) (R i) <;> cases q3 : eqE (x3 i) (R i) <;> simp only [a2, b2, c2, c3, c4, c5, and_self, q1, q2, q3, Bool.not_false, Bool.not_true, Bool.false_eq_true, reduceIte, and_false, or_self, and_true, or_false, false_or, a1, b1, c1] at t1 ⊢ <;> rfl
  · cases q1 : eqE (x1 i) (R i) <;> cases q2 : eqE (x2 i) (R i) <;> cases q3 : eqE (x3 i) (R i) <;> simp only [a2, b2, c2, and_self, q1, q2, q3, Bool.not_false, Bool.not_true, Bool.false_eq_true, reduceIte, and_false, or_self, and_true, or_false, false_or, a1, b1, c1] at t1 ⊢ <;> rfl
theorem end_mj (n1 : Nat) (x1 : Nat → Ent) (n2 : Nat) (x2 : Nat → Ent) (n3 : Nat) (x3 : Nat → Ent) (N : Nat) (R : Nat → Ent) (hb : N ≤ 1000) (hv : ∀ t, vals N R t = omax (omax (vals n1 x1 t) (vals n2 x2 t)) (vals n3 x3 t)) (a : Unit) (hI : (fun (i : Nat) (a : Unit) => (True : Prop)) (N) a) : ∃ s, (tgt_mj n1 x1 n2 x2 n3 x3 N R (N) a).res = some (.exit 0, s) ∧ StLe 0 s (⟨[(7, .v (.one (.f (.fs (Nat.beq n1 0) 5 n1 (entE x1))))), (8, .v (.one (.f (.fs (Nat.beq n2 0) 5 n2 (entE x2))))), (9, .v (.one (.f (.fs (Nat.beq n3 0) 5 n3 (entE x3))))), (10, .v (.one (.f (.fs (Nat.beq N 0) 5 N (entE R)))))], [], 0, false, 0, []⟩) := by
  refine T.over_exP (g := fun s => (.exit 0, s)) (tree_mj n1 x1 n2 x2 n3 x3 N R (N) a) ?_
  simp only [T.res_br, T.res_ret, T.res_bad, decide_eq_true_eq, Int.lt_irrefl, reduceIte]
  exact ⟨_, rfl, StLe.refl (Nat.zero_le _)⟩
theorem loop_mj (n1 : Nat) (x1 : Nat → Ent) (n2 : Nat) (x2 : Nat → Ent) (n3 : Nat) (x3 : Nat → Ent) (N : Nat) (R : Nat → Ent) (hb : N ≤ 1000) (hv : ∀ t, vals N R t = omax (omax (vals n1 x1 t) (vals n2 x2 t)) (vals n3 x3 t)) (i : Nat) (a : Unit) (hi : i ≤ N) (hI : (fun (i : Nat) (a : Unit) => (True : Prop)) i a) {st0 : St} (h0 : StLe 0 st0 (S_mj n1 x1 n2 x2 n3 x3 N R i a)) (hnx : st0.nx = 0) :
    CodeOk Try.prog Try.f7.ntmps (.loop (loopOf Try.f7 8)) st0 (.exit 0) ((fun (a : Unit) => ⟨[(7, .v (.one (.f (.fs (Nat.beq n1 0) 5 n1 (entE x1))))), (8, .v (.one (.f (.fs (Nat.beq n2 0) 5 n2 (entE x2))))), (9, .v (.one (.f (.fs (Nat.beq n3 0) 5 n3 (entE x3))))), (10, .v (.one (.f (.fs (Nat.beq N 0) 5 N (entE R)))))], [], 0, false, 0, []⟩) (foldF (fun (i : Nat) (a : Unit) => (())) (N - i) i a)) := by
  have := for_loop GOPI1 GKPI1 (K := 300) (F := 7) (N := Try.f7.ntmps) (c := loopOf Try.f7 8) (m := 0) (live := [77, 78, 79, 7, 8, 9, 10]) (after := [7, 8, 9, 10]) (S_mj n1 x1 n2 x2 n3 x3 N R) (N) (fun (i : Nat) (a : Unit) => .inl (())) (fun (a : Unit) => (.exit 0, ⟨[(7, .v (.one (.f (.fs (Nat.beq n1 0) 5 n1 (entE x1))))), (8, .v (.one (.f (.fs (Nat.beq n2 0) 5 n2 (entE x2))))), (9, .v (.one (.f (.fs (Nat.beq n3 0) 5 n3 (entE x3))))), (10, .v (.one (.f (.fs (Nat.beq N 0) 5 N (entE R)))))], [], 0, false, 0, []⟩)) (fun (i : Nat) (a : Unit) => (True : Prop))
    (fun i a hi hI => by obtain ⟨s, h1, h2, h3⟩ := round_mj n1 x1 n2 x2 n3 x3 N R hb hv i a hi hI; exact ⟨_, s, h1, rfl, h2, h3⟩)
    (fun a hI => by obtain ⟨s, h1, h2⟩ := end_mj n1 x1 n2 x2 n3 x3 N R hb hv a hI; exact ⟨_, s, h1, by simp, rfl, h2⟩)
    (fun i a => by first | exact Nat.le_refl _ | (show 0 ≤ _; decide) | (simp only [S_mj]; omega)) hi hI h0 hnx
  rw [foldX_inl] at this
  exact this
noncomputable def L_mj : LoopF := mkLoopF [77, 78, 79, 7, 8, 9, 10] (loopOf Try.f7 8) Try.f7.ntmps fun sl H nx => match sl, H, nx with
  | [(77, .v (.one (.f (.fs nl 5 N e)))), (78, .v (.one (.f (.lit (.int .i64 k))))), (79, .v (.one (.f (.lit (.int .i64 i))))), (7, .v (.one (.f (.fs b1 5 n1 e1)))), (8, .v (.one (.f (.fs b2 5 n2 e2)))), (9, .v (.one (.f (.fs b3 5 n3 e3)))), (10, .v (.one (.f (.fs nl0 5 N0 e0))))], [], 0 => .need (pb (EntE e ∧ EntE e1 ∧ EntE e2 ∧ EntE e3 ∧ nl = Nat.beq N 0 ∧ b1 = Nat.beq n1 0 ∧ b2 = Nat.beq n2 0 ∧ b3 = Nat.beq n3 0 ∧ k = N ∧ i = 0 ∧ nl0 = nl ∧ N0 = N ∧ e0 = e ∧ N ≤ 1000 ∧ ∀ t, vals N (entOf e) t = omax (omax (vals n1 (entOf e1) t) (vals n2 (entOf e2) t)) (vals n3 (entOf e3) t))) (.ret (.exit 0, (St.mk [(7, .v (.one (.f (.fs b1 5 n1 e1)))), (8, .v (.one (.f (.fs b2 5 n2 e2)))), (9, .v (.one (.f (.fs b3 5 n3 e3)))), (10, .v (.one (.f (.fs nl0 5 N0 e0))))] [] 0 false 0 []).sl, (St.mk [(7, .v (.one (.f (.fs b1 5 n1 e1)))), (8, .v (.one (.f (.fs b2 5 n2 e2)))), (9, .v (.one (.f (.fs b3 5 n3 e3)))), (10, .v (.one (.f (.fs nl0 5 N0 e0))))] [] 0 false 0 []).H, 0, false))
  | _, _, _ => .bad
theorem L_mj_ok : LoopOk Try.prog L_mj := by
  refine mkLoopF_ok fun sl H nx e sl' H' nx' esc' h => ?_
  split at h
  · rename_i nl N e k i b1 n1 e1 b2 n2 e2 b3 n3 e3 nl0 N0 e0
    obtain ⟨hp, hret⟩ := T.need_some h
    have hp := pb_of hp
    have := T.ret_some hret
    simp only [Prod.mk.injEq] at this
    obtain ⟨rfl, rfl, rfl, rfl, rfl⟩ := this
    clear hret h
    obtain ⟨⟨x, rfl⟩, ⟨x1, rfl⟩, ⟨x2, rfl⟩, ⟨x3, rfl⟩, rfl, rfl, rfl, rfl, rfl, rfl, rfl, rfl, rfl, h1, h2⟩ := hp
    exact loop_mj _ x1 _ x2 _ x3 _ x h1 h2 0 () (Nat.zero_le _) trivial (StLe.refl (Nat.zero_le _)) rfl
  · exact (T.bad_some h).elim
noncomputable def ll_mj : List (Nat × Nat × LoopF) := (7, 8, L_mj) :: ll_sm
theorem ll_mj_ok : ∀ x ∈ ll_mj, LoopOk Try.prog x.2.2 := List.forall_mem_cons.2 ⟨L_mj_ok, ll_sm_ok⟩
noncomputable def GPI2 : Ctx := GS.with ss_same ll_mj
noncomputable def tgt_MJoins (c1 : Bool) (m1 : Nat) (y1 : Nat → Ent) (c2 : Bool) (m2 : Nat) (y2 : Nat → Ent) (c3 : Bool) (m3 : Nat) (y3 : Nat → Ent) : T CallOut := evCallW [] GPI2 300 7 [.one (.f (.fs c1 5 m1 (entE y1))), .one (.f (.fs c2 5 m2 (entE y2))), .one (.f (.fs c3 5 m3 (entE y3)))] [] 0
theorem GKPI2 : KnownOk Try.prog GPI2 := KnownOk.lists ss_same_ok ll_mj_ok
theorem GOPI2 : CtxOk Try.prog GPI2 := GS_ok.with _ _
theorem tree_MJoins (c1 : Bool) (m1 : Nat) (y1 : Nat → Ent) (c2 : Bool) (m2 : Nat) (y2 : Nat → Ent) (c3 : Bool) (m3 : Nat) (y3 : Nat → Ent) : (tgt_MJoins c1 m1 y1 c2 m2 y2 c3 m3 y3).over (.br (.br (.br (.br (.br (.br (.br (.tt (.tt (.tt (.tt (.tt (.tt (.tt (.tt (.tt (.tt (.tt (.tt (.tt (.tt (.tt (.tt (.tt (.tt (.tt (.tt (.tt (.tt (.tt (.tt (.tt (.tt (.tt (.tt (.tt (.tt (.tt (.tt (.tt (.tt (.tt (.tt (.tt .leaf))))))))))))))))))))))))))))))))))))) (.ff (.ff (.ff (.ff (.br (.ff (.ff (.ff (.br (.ff (.br (.ff (.ff (.br (.tt (.tt (.tt (.tt (.tt (.tt (.tt (.tt (.tt (.tt (.tt (.tt (.tt (.tt (.tt (.tt (.tt (.tt (.tt (.tt (.tt (.tt (.tt (.tt (.tt (.tt .leaf)))))))))))))))))))))))))) (.ff (.ff (.ff (.ff (.ff (.br (.ff (.ff (.br (.ff (.br (.ff (.ff (.br (.tt (.tt (.tt (.tt (.tt (.tt (.tt (.tt (.tt (.tt (.tt (.tt (.tt (.tt (.tt .leaf))))))))))))))) (.ff (.ff (.ff (.br (.ff (.br (.ff (.ff (.br (.tt (.tt (.tt (.tt (.tt (.tt (.tt (.tt .leaf)))))))) (.ff (.ff (.ff (.ff (.br (.ff (.br (.ff (.ff (.br .leaf (.br (.br (.tt (.tt (.tt (.tt (.tt (.tt (.tt (.tt (.tt (.tt (.tt .leaf))))))))))) .skip) .skip)))) .skip)) .skip)))))))) .skip)) .skip))))))) .skip)) .skip))) .skip))))))))) .skip)) .skip)))) .skip)))))) .skip) .skip) .skip) .skip) .skip) .skip) =
  T.br (pb (EntL c1 m1 (entE y1) ∧ (0 : Int) ≤ (5 : Int) ∧ (5 : Int) ≤ (1000 : Int)))
    (T.br (pb (EntL c2 m2 (entE y2) ∧ (0 : Int) ≤ (5 : Int) ∧ (5 : Int) ≤ (1000 : Int)))
      (T.br (pb (EntL c3 m3 (entE y3) ∧ (0 : Int) ≤ (5 : Int) ∧ (5 : Int) ≤ (1000 : Int)))
        (T.br
          (pb
            (LstL false (3 : Nat)
              (selL
                (chunks (1 : Nat) (3 : Nat)
                  [FV.fs (Nat.beq (min m1 (5 : Nat)) (0 : Nat)) (5 : Nat) (min m1 (5 : Nat)) (entE fun j => entR (entOf (entE y1) j)),
                    FV.fs (Nat.beq (min m2 (5 : Nat)) (0 : Nat)) (5 : Nat) (min m2 (5 : Nat)) (entE fun j => entR (entOf (entE y2) j)),
                    FV.fs (Nat.beq (min m3 (5 : Nat)) (0 : Nat)) (5 : Nat) (min m3 (5 : Nat)) (entE fun j => entR (entOf (entE y3) j))]))))
          (T.br
            (pb
              (LstL false (5 : Nat)
                (selL
                  (chunks (1 : Nat) (5 : Nat)
                    [FV.fs (Nat.beq (min m3 (5 : Nat)) (0 : Nat)) (5 : Nat) (min m3 (5 : Nat)) (entE fun j => entR (entOf (entE y3) j)),
                      FV.fs (Nat.beq (min m1 (5 : Nat)) (0 : Nat)) (5 : Nat) (min m1 (5 : Nat)) (entE fun j => entR (entOf (entE y1) j)),
                      FV.fs (Nat.beq (min m2 (5 : Nat)) (0 : Nat)) (5 : Nat) (min m2 (5 : Nat)) (entE fun j => entR (entOf (entE y2) j)),
                      FV.fs (Nat.beq (min m1 (5 : Nat)) (0 : Nat)) (5 : Nat) (min m1 (5 : Nat)) (entE fun j => entR (entOf (entE y1) j)),
                      FV.fs
                        (Nat.beq
                          (Prod.fst
                            (mergeQ
                              (lstOf
                                (selL
                                  (chunks (1 : Nat) (3 : Nat)
                                    [FV.fs (Nat.beq (min m1 (5 : Nat)) (0 : Nat)) (5 : Nat) (min m1 (5 : Nat)) (entE fun j => entR (entOf (entE y1) j)),
                                      FV.fs (Nat.beq (min m2 (5 : Nat)) (0 : Nat)) (5 : Nat) (min m2 (5 : Nat)) (entE fun j => entR (entOf (entE y2) j)),
                                      FV.fs (Nat.beq (min m3 (5 : Nat)) (0 : Nat)) (5 : Nat) (min m3 (5 : Nat)) (entE fun j => entR (entOf (entE y3) j))])))
                              (3 : Nat)))
                          (0 : Nat))
                        (5 : Nat)
                        (Prod.fst
                          (mergeQ
                            (lstOf
                              (selL
                                (chunks (1 : Nat) (3 : Nat)
                                  [FV.fs (Nat.beq (min m1 (5 : Nat)) (0 : Nat)) (5 : Nat) (min m1 (5 : Nat)) (entE fun j => entR (entOf (entE y1) j)),
                                    FV.fs (Nat.beq (min m2 (5 : Nat)) (0 : Nat)) (5 : Nat) (min m2 (5 : Nat)) (entE fun j => entR (entOf (entE y2) j)),
                                    FV.fs (Nat.beq (min m3 (5 : Nat)) (0 : Nat)) (5 : Nat) (min m3 (5 : Nat)) (entE fun j => entR (entOf (entE y3) j))])))
                            (3 : Nat)))
                        (entE
                          (Prod.snd
                            (mergeQ
                              (lstOf
                                (selL
                                  (chunks (1 : Nat) (3 : Nat)
                                    [FV.fs (Nat.beq (min m1 (5 : Nat)) (0 : Nat)) (5 : Nat) (min m1 (5 : Nat)) (entE fun j => entR (entOf (entE y1) j)),
                                      FV.fs (Nat.beq (min m2 (5 : Nat)) (0 : Nat)) (5 : Nat) (min m2 (5 : Nat)) (entE fun j => entR (entOf (entE y2) j)),
                                      FV.fs (Nat.beq (min m3 (5 : Nat)) (0 : Nat)) (5 : Nat) (min m3 (5 : Nat)) (entE fun j => entR (entOf (entE y3) j))])))
                              (3 : Nat))))]))))
            (T.br
              (pb
                (EntL
                    (Nat.beq
                      (Prod.fst
                        (mergeQ
                          (lstOf
                            (selL
                              (chunks (1 : Nat) (3 : Nat)
                                [FV.fs (Nat.beq (min m1 (5 : Nat)) (0 : Nat)) (5 : Nat) (min m1 (5 : Nat)) (entE fun j => entR (entOf (entE y1) j)),
                                  FV.fs (Nat.beq (min m2 (5 : Nat)) (0 : Nat)) (5 : Nat) (min m2 (5 : Nat)) (entE fun j => entR (entOf (entE y2) j)),
                                  FV.fs (Nat.beq (min m3 (5 : Nat)) (0 : Nat)) (5 : Nat) (min m3 (5 : Nat)) (entE fun j => entR (entOf (entE y3) j))])))
                          (3 : Nat)))
                      (0 : Nat))
                    (Prod.fst
                      (mergeQ
                        (lstOf
                          (selL
                            (chunks (1 : Nat) (3 : Nat)
                              [FV.fs (Nat.beq (min m1 (5 : Nat)) (0 : Nat)) (5 : Nat) (min m1 (5 : Nat)) (entE fun j => entR (entOf (entE y1) j)),
                                FV.fs (Nat.beq (min m2 (5 : Nat)) (0 : Nat)) (5 : Nat) (min m2 (5 : Nat)) (entE fun j => entR (entOf (entE y2) j)),
                                FV.fs (Nat.beq (min m3 (5 : Nat)) (0 : Nat)) (5 : Nat) (min m3 (5 : Nat)) (entE fun j => entR (entOf (entE y3) j))])))
                        (3 : Nat)))
                    (entE
                      (Prod.snd
                        (mergeQ
                          (lstOf
                            (selL
                              (chunks (1 : Nat) (3 : Nat)
                                [FV.fs (Nat.beq (min m1 (5 : Nat)) (0 : Nat)) (5 : Nat) (min m1 (5 : Nat)) (entE fun j => entR (entOf (entE y1) j)),
                                  FV.fs (Nat.beq (min m2 (5 : Nat)) (0 : Nat)) (5 : Nat) (min m2 (5 : Nat)) (entE fun j => entR (entOf (entE y2) j)),
                                  FV.fs (Nat.beq (min m3 (5 : Nat)) (0 : Nat)) (5 : Nat) (min m3 (5 : Nat)) (entE fun j => entR (entOf (entE y3) j))])))
                          (3 : Nat)))) ∧
                  EntL
                    (Nat.beq
                      (Prod.fst
                        (mergeQ
                          (lstOf
                            (selL
                              (chunks (1 : Nat) (5 : Nat)
                                [FV.fs (Nat.beq (min m3 (5 : Nat)) (0 : Nat)) (5 : Nat) (min m3 (5 : Nat)) (entE fun j => entR (entOf (entE y3) j)),
                                  FV.fs (Nat.beq (min m1 (5 : Nat)) (0 : Nat)) (5 : Nat) (min m1 (5 : Nat)) (entE fun j => entR (entOf (entE y1) j)),
                                  FV.fs (Nat.beq (min m2 (5 : Nat)) (0 : Nat)) (5 : Nat) (min m2 (5 : Nat)) (entE fun j => entR (entOf (entE y2) j)),
                                  FV.fs (Nat.beq (min m1 (5 : Nat)) (0 : Nat)) (5 : Nat) (min m1 (5 : Nat)) (entE fun j => entR (entOf (entE y1) j)),
                                  FV.fs
                                    (Nat.beq
                                      (Prod.fst
                                        (mergeQ
                                          (lstOf
                                            (selL
                                              (chunks (1 : Nat) (3 : Nat)
                                                [FV.fs (Nat.beq (min m1 (5 : Nat)) (0 : Nat)) (5 : Nat) (min m1 (5 : Nat)) (entE fun j => entR (entOf (entE y1) j)),
                                                  FV.fs (Nat.beq (min m2 (5 : Nat)) (0 : Nat)) (5 : Nat) (min m2 (5 : Nat)) (entE fun j => entR (entOf (entE y2) j)),
                                                  FV.fs (Nat.beq (min m3 (5 : Nat)) (0 : Nat)) (5 : Nat) (min m3 (5 : Nat)) (entE fun j => entR (entOf (entE y3) j))])))
                                          (3 : Nat)))
                                      (0 : Nat))
                                    (5 : Nat)
                                    (Prod.fst
                                      (mergeQ
                                        (lstOf
                                          (selL
                                            (chunks (1 : Nat) (3 : Nat)
                                              [FV.fs (Nat.beq (min m1 (5 : Nat)) (0 : Nat)) (5 : Nat) (min m1 (5 : Nat)) (entE fun j => entR (entOf (entE y1) j)),
                                                FV.fs (Nat.beq (min m2 (5 : Nat)) (0 : Nat)) (5 : Nat) (min m2 (5 : Nat)) (entE fun j => entR (entOf (entE y2) j)),
                                                FV.fs (Nat.beq (min m3 (5 : Nat)) (0 : Nat)) (5 : Nat) (min m3 (5 : Nat)) (entE fun j => entR (entOf (entE y3) j))])))
                                        (3 : Nat)))
                                    (entE
                                      (Prod.snd
                                        (mergeQ
                                          (lstOf
                                            (selL
                                              (chunks (1 : Nat) (3 : Nat)
                                                [FV.fs (Nat.beq (min m1 (5 : Nat)) (0 : Nat)) (5 : Nat) (min m1 (5 : Nat)) (entE fun j => entR (entOf (entE y1) j)),
                                                  FV.fs (Nat.beq (min m2 (5 : Nat)) (0 : Nat)) (5 : Nat) (min m2 (5 : Nat)) (entE fun j => entR (entOf (entE y2) j)),
                                                  FV.fs (Nat.beq (min m3 (5 : Nat)) (0 : Nat)) (5 : Nat) (min m3 (5 : Nat)) (entE fun j => entR (entOf (entE y3) j))])))
                                          (3 : Nat))))])))
                          (5 : Nat)))
                      (0 : Nat))
                    (Prod.fst
                      (mergeQ
                        (lstOf
                          (selL
                            (chunks (1 : Nat) (5 : Nat)
                              [FV.fs (Nat.beq (min m3 (5 : Nat)) (0 : Nat)) (5 : Nat) (min m3 (5 : Nat)) (entE fun j => entR (entOf (entE y3) j)),
                                FV.fs (Nat.beq (min m1 (5 : Nat)) (0 : Nat)) (5 : Nat) (min m1 (5 : Nat)) (entE fun j => entR (entOf (entE y1) j)),
                                FV.fs (Nat.beq (min m2 (5 : Nat)) (0 : Nat)) (5 : Nat) (min m2 (5 : Nat)) (entE fun j => entR (entOf (entE y2) j)),
                                FV.fs (Nat.beq (min m1 (5 : Nat)) (0 : Nat)) (5 : Nat) (min m1 (5 : Nat)) (entE fun j => entR (entOf (entE y1) j)),
                                FV.fs
                                  (Nat.beq
                                    (Prod.fst
                                      (mergeQ
                                        (lstOf
                                          (selL
                                            (chunks (1 : Nat) (3 : Nat)
                                              [FV.fs (Nat.beq (min m1 (5 : Nat)) (0 : Nat)) (5 : Nat) (min m1 (5 : Nat)) (entE fun j => entR (entOf (entE y1) j)),
                                                FV.fs (Nat.beq (min m2 (5 : Nat)) (0 : Nat)) (5 : Nat) (min m2 (5 : Nat)) (entE fun j => entR (entOf (entE y2) j)),
                                                FV.fs (Nat.beq (min m3 (5 : Nat)) (0 : Nat)) (5 : Nat) (min m3 (5 : Nat)) (entE fun j => entR (entOf (entE y3) j))])))
                                        (3 : Nat)))
                                    (0 : Nat))
                                  (5 : Nat)
                                  (Prod.fst
                                    (mergeQ
                                      (lstOf
                                        (selL
                                          (chunks (1 : Nat) (3 : Nat)
                                            [FV.fs (Nat.beq (min m1 (5 : Nat)) (0 : Nat)) (5 : Nat) (min m1 (5 : Nat)) (entE fun j => entR (entOf (entE y1) j)),
                                              FV.fs (Nat.beq (min m2 (5 : Nat)) (0 : Nat)) (5 : Nat) (min m2 (5 : Nat)) (entE fun j => entR (entOf (entE y2) j)),
                                              FV.fs (Nat.beq (min m3 (5 : Nat)) (0 : Nat)) (5 : Nat) (min m3 (5 : Nat)) (entE fun j => entR (entOf (entE y3) j))])))
                                      (3 : Nat)))
                                  (entE
                                    (Prod.snd
                                      (mergeQ
                                        (lstOf
                                          (selL
                                            (chunks (1 : Nat) (3 : Nat)
                                              [FV.fs (Nat.beq (min m1 (5 : Nat)) (0 : Nat)) (5 : Nat) (min m1 (5 : Nat)) (entE fun j => entR (entOf (entE y1) j)),
                                                FV.fs (Nat.beq (min m2 (5 : Nat)) (0 : Nat)) (5 : Nat) (min m2 (5 : Nat)) (entE fun j => entR (entOf (entE y2) j)),
                                                FV.fs (Nat.beq (min m3 (5 : Nat)) (0 : Nat)) (5 : Nat) (min m3 (5 : Nat)) (entE fun j => entR (entOf (entE y3) j))])))
                                        (3 : Nat))))])))
                        (5 : Nat)))
                    (entE
                      (Prod.snd
                        (mergeQ
                          (lstOf
                            (selL
                              (chunks (1 : Nat) (5 : Nat)
                                [FV.fs (Nat.beq (min m3 (5 : Nat)) (0 : Nat)) (5 : Nat) (min m3 (5 : Nat)) (entE fun j => entR (entOf (entE y3) j)),
                                  FV.fs (Nat.beq (min m1 (5 : Nat)) (0 : Nat)) (5 : Nat) (min m1 (5 : Nat)) (entE fun j => entR (entOf (entE y1) j)),
                                  FV.fs (Nat.beq (min m2 (5 : Nat)) (0 : Nat)) (5 : Nat) (min m2 (5 : Nat)) (entE fun j => entR (entOf (entE y2) j)),
                                  FV.fs (Nat.beq (min m1 (5 : Nat)) (0 : Nat)) (5 : Nat) (min m1 (5 : Nat)) (entE fun j => entR (entOf (entE y1) j)),
                                  FV.fs
                                    (Nat.beq
                                      (Prod.fst
                                        (mergeQ
                                          (lstOf
                                            (selL
                                              (chunks (1 : Nat) (3 : Nat)
                                                [FV.fs (Nat.beq (min m1 (5 : Nat)) (0 : Nat)) (5 : Nat) (min m1 (5 : Nat)) (entE fun j => entR (entOf (entE y1) j)),
                                                  FV.fs (Nat.beq (min m2 (5 : Nat)) (0 : Nat)) (5 : Nat) (min m2 (5 : Nat)) (entE fun j => entR (entOf (entE y2) j)),
                                                  FV.fs (Nat.beq (min m3 (5 : Nat)) (0 : Nat)) (5 : Nat) (min m3 (5 : Nat)) (entE fun j => entR (entOf (entE y3) j))])))
                                          (3 : Nat)))
                                      (0 : Nat))
                                    (5 : Nat)
                                    (Prod.fst
                                      (mergeQ
                                        (lstOf
                                          (selL
                                            (chunks (1 : Nat) (3 : Nat)
                                              [FV.fs (Nat.beq (min m1 (5 : Nat)) (0 : Nat)) (5 : Nat) (min m1 (5 : Nat)) (entE fun j => entR (entOf (entE y1) j)),
                                                FV.fs (Nat.beq (min m2 (5 : Nat)) (0 : Nat)) (5 : Nat) (min m2 (5 : Nat)) (entE fun j => entR (entOf (entE y2) j)),
                                                FV.fs (Nat.beq (min m3 (5 : Nat)) (0 : Nat)) (5 : Nat) (min m3 (5 : Nat)) (entE fun j => entR (entOf (entE y3) j))])))
                                        (3 : Nat)))
                                    (entE
                                      (Prod.snd
                                        (mergeQ
                                          (lstOf
                                            (selL
                                              (chunks (1 : Nat) (3 : Nat)
                                                [FV.fs (Nat.beq (min m1 (5 : Nat)) (0 : Nat)) (5 : Nat) (min m1 (5 : Nat)) (entE fun j => entR (entOf (entE y1) j)),
                                                  FV.fs (Nat.beq (min m2 (5 : Nat)) (0 : Nat)) (5 : Nat) (min m2 (5 : Nat)) (entE fun j => entR (entOf (entE y2) j)),
                                                  FV.fs (Nat.beq (min m3 (5 : Nat)) (0 : Nat)) (5 : Nat) (min m3 (5 : Nat)) (entE fun j => entR (entOf (entE y3) j))])))
                                          (3 : Nat))))])))
                          (5 : Nat))))))
              (T.br
                (!sameE
                    (Prod.fst
                      (mergeQ
                        (lstOf
                          (selL
                            (chunks (1 : Nat) (3 : Nat)
                              [FV.fs (Nat.beq (min m1 (5 : Nat)) (0 : Nat)) (5 : Nat) (min m1 (5 : Nat)) (entE fun j => entR (entOf (entE y1) j)),
                                FV.fs (Nat.beq (min m2 (5 : Nat)) (0 : Nat)) (5 : Nat) (min m2 (5 : Nat)) (entE fun j => entR (entOf (entE y2) j)),
                                FV.fs (Nat.beq (min m3 (5 : Nat)) (0 : Nat)) (5 : Nat) (min m3 (5 : Nat)) (entE fun j => entR (entOf (entE y3) j))])))
                        (3 : Nat)))
                    (Prod.snd
                      (mergeQ
                        (lstOf
                          (selL
                            (chunks (1 : Nat) (3 : Nat)
                              [FV.fs (Nat.beq (min m1 (5 : Nat)) (0 : Nat)) (5 : Nat) (min m1 (5 : Nat)) (entE fun j => entR (entOf (entE y1) j)),
                                FV.fs (Nat.beq (min m2 (5 : Nat)) (0 : Nat)) (5 : Nat) (min m2 (5 : Nat)) (entE fun j => entR (entOf (entE y2) j)),
                                FV.fs (Nat.beq (min m3 (5 : Nat)) (0 : Nat)) (5 : Nat) (min m3 (5 : Nat)) (entE fun j => entR (entOf (entE y3) j))])))
                        (3 : Nat)))
                    (Prod.fst
                      (mergeQ
                        (lstOf
                          (selL
                            (chunks (1 : Nat) (5 : Nat)
                              [FV.fs (Nat.beq (min m3 (5 : Nat)) (0 : Nat)) (5 : Nat) (min m3 (5 : Nat)) (entE fun j => entR (entOf (entE y3) j)),
                                FV.fs (Nat.beq (min m1 (5 : Nat)) (0 : Nat)) (5 : Nat) (min m1 (5 : Nat)) (entE fun j => entR (entOf (entE y1) j)),
                                FV.fs (Nat.beq (min m2 (5 : Nat)) (0 : Nat)) (5 : Nat) (min m2 (5 : Nat)) (entE fun j => entR (entOf (entE y2) j)),
                                FV.fs (Nat.beq (min m1 (5 : Nat)) (0 : Nat)) (5 : Nat) (min m1 (5 : Nat)) (entE fun j => entR (entOf (entE y1) j)),
                                FV.fs
                                  (Nat.beq
                                    (Prod.fst
                                      (mergeQ
                                        (lstOf
                                          (selL
                                            (chunks (1 : Nat) (3 : Nat)
                                              [FV.fs (Nat.beq (min m1 (5 : Nat)) (0 : Nat)) (5 : Nat) (min m1 (5 : Nat)) (entE fun j => entR (entOf (entE y1) j)),
                                                FV.fs (Nat.beq (min m2 (5 : Nat)) (0 : Nat)) (5 : Nat) (min m2 (5 : Nat)) (entE fun j => entR (entOf (entE y2) j)),
                                                FV.fs (Nat.beq (min m3 (5 : Nat)) (0 : Nat)) (5 : Nat) (min m3 (5 : Nat)) (entE fun j => entR (entOf (entE y3) j))])))
                                        (3 : Nat)))
                                    (0 : Nat))
                                  (5 : Nat)
                                  (Prod.fst
                                    (mergeQ
                                      (lstOf
                                        (selL
                                          (chunks (1 : Nat) (3 : Nat)
                                            [FV.fs (Nat.beq (min m1 (5 : Nat)) (0 : Nat)) (5 : Nat) (min m1 (5 : Nat)) (entE fun j => entR (entOf (entE y1) j)),
                                              FV.fs (Nat.beq (min m2 (5 : Nat)) (0 : Nat)) (5 : Nat) (min m2 (5 : Nat)) (entE fun j => entR (entOf (entE y2) j)),
                                              FV.fs (Nat.beq (min m3 (5 : Nat)) (0 : Nat)) (5 : Nat) (min m3 (5 : Nat)) (entE fun j => entR (entOf (entE y3) j))])))
                                      (3 : Nat)))
                                  (entE
                                    (Prod.snd
                                      (mergeQ
                                        (lstOf
                                          (selL
                                            (chunks (1 : Nat) (3 : Nat)
                                              [FV.fs (Nat.beq (min m1 (5 : Nat)) (0 : Nat)) (5 : Nat) (min m1 (5 : Nat)) (entE fun j => entR (entOf (entE y1) j)),
                                                FV.fs (Nat.beq (min m2 (5 : Nat)) (0 : Nat)) (5 : Nat) (min m2 (5 : Nat)) (entE fun j => entR (entOf (entE y2) j)),
                                                FV.fs (Nat.beq (min m3 (5 : Nat)) (0 : Nat)) (5 : Nat) (min m3 (5 : Nat)) (entE fun j => entR (entOf (entE y3) j))])))
                                        (3 : Nat))))])))
                        (5 : Nat)))
                    (Prod.snd
                      (mergeQ
                        (lstOf
                          (selL
                            (chunks (1 : Nat) (5 : Nat)
                              [FV.fs (Nat.beq (min m3 (5 : Nat)) (0 : Nat)) (5 : Nat) (min m3 (5 : Nat)) (entE fun j => entR (entOf (entE y3) j)),
                                FV.fs (Nat.beq (min m1 (5 : Nat)) (0 : Nat)) (5 : Nat) (min m1 (5 : Nat)) (entE fun j => entR (entOf (entE y1) j)),
                                FV.fs (Nat.beq (min m2 (5 : Nat)) (0 : Nat)) (5 : Nat) (min m2 (5 : Nat)) (entE fun j => entR (entOf (entE y2) j)),
                                FV.fs (Nat.beq (min m1 (5 : Nat)) (0 : Nat)) (5 : Nat) (min m1 (5 : Nat)) (entE fun j => entR (entOf (entE y1) j)),
                                FV.fs
                                  (Nat.beq
                                    (Prod.fst
                                      (mergeQ
                                        (lstOf
                                          (selL
                                            (chunks (1 : Nat) (3 : Nat)
                                              [FV.fs (Nat.beq (min m1 (5 : Nat)) (0 : Nat)) (5 : Nat) (min m1 (5 : Nat)) (entE fun j => entR (entOf (entE y1) j)),
                                                FV.fs (Nat.beq (min m2 (5 : Nat)) (0 : Nat)) (5 : Nat) (min m2 (5 : Nat)) (entE fun j => entR (entOf (entE y2) j)),
                                                FV.fs (Nat.beq (min m3 (5 : Nat)) (0 : Nat)) (5 : Nat) (min m3 (5 : Nat)) (entE fun j => entR (entOf (entE y3) j))])))
                                        (3 : Nat)))
                                    (0 : Nat))
                                  (5 : Nat)
                                  (Prod.fst
                                    (mergeQ
                                      (lstOf
                                        (selL
                                          (chunks (1 : Nat) (3 : Nat)
                                            [FV.fs (Nat.beq (min m1 (5 : Nat)) (0 : Nat)) (5 : Nat) (min m1 (5 : Nat)) (entE fun j => entR (entOf (entE y1) j)),
                                              FV.fs (Nat.beq (min m2 (5 : Nat)) (0 : Nat)) (5 : Nat) (min m2 (5 : Nat)) (entE fun j => entR (entOf (entE y2) j)),
                                              FV.fs (Nat.beq (min m3 (5 : Nat)) (0 : Nat)) (5 : Nat) (min m3 (5 : Nat)) (entE fun j => entR (entOf (entE y3) j))])))
                                      (3 : Nat)))
                                  (entE
                                    (Prod.snd
                                      (mergeQ
                                        (lstOf
                                          (selL
                                            (chunks (1 : Nat) (3 : Nat)
                                              [FV.fs (Nat.beq (min m1 (5 : Nat)) (0 : Nat)) (5 : Nat) (min m1 (5 : Nat)) (entE fun j => entR (entOf (entE y1) j)),
                                                FV.fs (Nat.beq (min m2 (5 : Nat)) (0 : Nat)) (5 : Nat) (min m2 (5 : Nat)) (entE fun j => entR (entOf (entE y2) j)),
                                                FV.fs (Nat.beq (min m3 (5 : Nat)) (0 : Nat)) (5 : Nat) (min m3 (5 : Nat)) (entE fun j => entR (entOf (entE y3) j))])))
                                        (3 : Nat))))])))
                        (5 : Nat))))
                (T.ret (out0 (SV.v (AB false))))
                (T.br
                  (pb
                    (LstL false (2 : Nat)
                      (selL
                        (chunks (1 : Nat) (2 : Nat)
                          [FV.fs (Nat.beq (min m1 (5 : Nat)) (0 : Nat)) (5 : Nat) (min m1 (5 : Nat)) (entE fun j => entR (entOf (entE y1) j)),
                            FV.fs (Nat.beq (min m2 (5 : Nat)) (0 : Nat)) (5 : Nat) (min m2 (5 : Nat)) (entE fun j => entR (entOf (entE y2) j))]))))
                  (T.br
                    (pb
                      (LstL false (2 : Nat)
                        (selL
                          (chunks (1 : Nat) (2 : Nat)
                            [FV.fs
                                (Nat.beq
                                  (Prod.fst
                                    (mergeQ
                                      (lstOf
                                        (selL
                                          (chunks (1 : Nat) (2 : Nat)
                                            [FV.fs (Nat.beq (min m1 (5 : Nat)) (0 : Nat)) (5 : Nat) (min m1 (5 : Nat)) (entE fun j => entR (entOf (entE y1) j)),
                                              FV.fs (Nat.beq (min m2 (5 : Nat)) (0 : Nat)) (5 : Nat) (min m2 (5 : Nat)) (entE fun j => entR (entOf (entE y2) j))])))
                                      (2 : Nat)))
                                  (0 : Nat))
                                (5 : Nat)
                                (Prod.fst
                                  (mergeQ
                                    (lstOf
                                      (selL
                                        (chunks (1 : Nat) (2 : Nat)
                                          [FV.fs (Nat.beq (min m1 (5 : Nat)) (0 : Nat)) (5 : Nat) (min m1 (5 : Nat)) (entE fun j => entR (entOf (entE y1) j)),
                                            FV.fs (Nat.beq (min m2 (5 : Nat)) (0 : Nat)) (5 : Nat) (min m2 (5 : Nat)) (entE fun j => entR (entOf (entE y2) j))])))
                                    (2 : Nat)))
                                (entE
                                  (Prod.snd
                                    (mergeQ
                                      (lstOf
                                        (selL
                                          (chunks (1 : Nat) (2 : Nat)
                                            [FV.fs (Nat.beq (min m1 (5 : Nat)) (0 : Nat)) (5 : Nat) (min m1 (5 : Nat)) (entE fun j => entR (entOf (entE y1) j)),
                                              FV.fs (Nat.beq (min m2 (5 : Nat)) (0 : Nat)) (5 : Nat) (min m2 (5 : Nat)) (entE fun j => entR (entOf (entE y2) j))])))
                                      (2 : Nat)))),
                              FV.fs (Nat.beq (min m3 (5 : Nat)) (0 : Nat)) (5 : Nat) (min m3 (5 : Nat)) (entE fun j => entR (entOf (entE y3) j))]))))
                    (T.br
                      (pb
                        (EntL
                            (Nat.beq
                              (Prod.fst
                                (mergeQ
                                  (lstOf
                                    (selL
                                      (chunks (1 : Nat) (3 : Nat)
                                        [FV.fs (Nat.beq (min m1 (5 : Nat)) (0 : Nat)) (5 : Nat) (min m1 (5 : Nat)) (entE fun j => entR (entOf (entE y1) j)),
                                          FV.fs (Nat.beq (min m2 (5 : Nat)) (0 : Nat)) (5 : Nat) (min m2 (5 : Nat)) (entE fun j => entR (entOf (entE y2) j)),
                                          FV.fs (Nat.beq (min m3 (5 : Nat)) (0 : Nat)) (5 : Nat) (min m3 (5 : Nat)) (entE fun j => entR (entOf (entE y3) j))])))
                                  (3 : Nat)))
                              (0 : Nat))
                            (Prod.fst
                              (mergeQ
                                (lstOf
                                  (selL
                                    (chunks (1 : Nat) (3 : Nat)
                                      [FV.fs (Nat.beq (min m1 (5 : Nat)) (0 : Nat)) (5 : Nat) (min m1 (5 : Nat)) (entE fun j => entR (entOf (entE y1) j)),
                                        FV.fs (Nat.beq (min m2 (5 : Nat)) (0 : Nat)) (5 : Nat) (min m2 (5 : Nat)) (entE fun j => entR (entOf (entE y2) j)),
                                        FV.fs (Nat.beq (min m3 (5 : Nat)) (0 : Nat)) (5 : Nat) (min m3 (5 : Nat)) (entE fun j => entR (entOf (entE y3) j))])))
                                (3 : Nat)))
                            (entE
                              (Prod.snd
                                (mergeQ
                                  (lstOf
                                    (selL
                                      (chunks (1 : Nat) (3 : Nat)
                                        [FV.fs (Nat.beq (min m1 (5 : Nat)) (0 : Nat)) (5 : Nat) (min m1 (5 : Nat)) (entE fun j => entR (entOf (entE y1) j)),
                                          FV.fs (Nat.beq (min m2 (5 : Nat)) (0 : Nat)) (5 : Nat) (min m2 (5 : Nat)) (entE fun j => entR (entOf (entE y2) j)),
                                          FV.fs (Nat.beq (min m3 (5 : Nat)) (0 : Nat)) (5 : Nat) (min m3 (5 : Nat)) (entE fun j => entR (entOf (entE y3) j))])))
                                  (3 : Nat)))) ∧
                          EntL
                            (Nat.beq
                              (Prod.fst
                                (mergeQ
                                  (lstOf
                                    (selL
                                      (chunks (1 : Nat) (2 : Nat)
                                        [FV.fs
                                            (Nat.beq
                                              (Prod.fst
                                                (mergeQ
                                                  (lstOf
                                                    (selL
                                                      (chunks (1 : Nat) (2 : Nat)
                                                        [FV.fs (Nat.beq (min m1 (5 : Nat)) (0 : Nat)) (5 : Nat) (min m1 (5 : Nat)) (entE fun j => entR (entOf (entE y1) j)),
                                                          FV.fs (Nat.beq (min m2 (5 : Nat)) (0 : Nat)) (5 : Nat) (min m2 (5 : Nat)) (entE fun j => entR (entOf (entE y2) j))])))
                                                  (2 : Nat)))
                                              (0 : Nat))
                                            (5 : Nat)
                                            (Prod.fst
                                              (mergeQ
                                                (lstOf
                                                  (selL
                                                    (chunks (1 : Nat) (2 : Nat)
                                                      [FV.fs (Nat.beq (min m1 (5 : Nat)) (0 : Nat)) (5 : Nat) (min m1 (5 : Nat)) (entE fun j => entR (entOf (entE y1) j)),
                                                        FV.fs (Nat.beq (min m2 (5 : Nat)) (0 : Nat)) (5 : Nat) (min m2 (5 : Nat)) (entE fun j => entR (entOf (entE y2) j))])))
                                                (2 : Nat)))
                                            (entE
                                              (Prod.snd
                                                (mergeQ
                                                  (lstOf
                                                    (selL
                                                      (chunks (1 : Nat) (2 : Nat)
                                                        [FV.fs (Nat.beq (min m1 (5 : Nat)) (0 : Nat)) (5 : Nat) (min m1 (5 : Nat)) (entE fun j => entR (entOf (entE y1) j)),
                                                          FV.fs (Nat.beq (min m2 (5 : Nat)) (0 : Nat)) (5 : Nat) (min m2 (5 : Nat)) (entE fun j => entR (entOf (entE y2) j))])))
                                                  (2 : Nat)))),
                                          FV.fs (Nat.beq (min m3 (5 : Nat)) (0 : Nat)) (5 : Nat) (min m3 (5 : Nat)) (entE fun j => entR (entOf (entE y3) j))])))
                                  (2 : Nat)))
                              (0 : Nat))
                            (Prod.fst
                              (mergeQ
                                (lstOf
                                  (selL
                                    (chunks (1 : Nat) (2 : Nat)
                                      [FV.fs
                                          (Nat.beq
                                            (Prod.fst
                                              (mergeQ
                                                (lstOf
                                                  (selL
                                                    (chunks (1 : Nat) (2 : Nat)
                                                      [FV.fs (Nat.beq (min m1 (5 : Nat)) (0 : Nat)) (5 : Nat) (min m1 (5 : Nat)) (entE fun j => entR (entOf (entE y1) j)),
                                                        FV.fs (Nat.beq (min m2 (5 : Nat)) (0 : Nat)) (5 : Nat) (min m2 (5 : Nat)) (entE fun j => entR (entOf (entE y2) j))])))
                                                (2 : Nat)))
                                            (0 : Nat))
                                          (5 : Nat)
                                          (Prod.fst
                                            (mergeQ
                                              (lstOf
                                                (selL
                                                  (chunks (1 : Nat) (2 : Nat)
                                                    [FV.fs (Nat.beq (min m1 (5 : Nat)) (0 : Nat)) (5 : Nat) (min m1 (5 : Nat)) (entE fun j => entR (entOf (entE y1) j)),
                                                      FV.fs (Nat.beq (min m2 (5 : Nat)) (0 : Nat)) (5 : Nat) (min m2 (5 : Nat)) (entE fun j => entR (entOf (entE y2) j))])))
                                              (2 : Nat)))
                                          (entE
                                            (Prod.snd
                                              (mergeQ
                                                (lstOf
                                                  (selL
                                                    (chunks (1 : Nat) (2 : Nat)
                                                      [FV.fs (Nat.beq (min m1 (5 : Nat)) (0 : Nat)) (5 : Nat) (min m1 (5 : Nat)) (entE fun j => entR (entOf (entE y1) j)),
                                                        FV.fs (Nat.beq (min m2 (5 : Nat)) (0 : Nat)) (5 : Nat) (min m2 (5 : Nat)) (entE fun j => entR (entOf (entE y2) j))])))
                                                (2 : Nat)))),
                                        FV.fs (Nat.beq (min m3 (5 : Nat)) (0 : Nat)) (5 : Nat) (min m3 (5 : Nat)) (entE fun j => entR (entOf (entE y3) j))])))
                                (2 : Nat)))
                            (entE
                              (Prod.snd
                                (mergeQ
                                  (lstOf
                                    (selL
                                      (chunks (1 : Nat) (2 : Nat)
                                        [FV.fs
                                            (Nat.beq
                                              (Prod.fst
                                                (mergeQ
                                                  (lstOf
                                                    (selL
                                                      (chunks (1 : Nat) (2 : Nat)
                                                        [FV.fs (Nat.beq (min m1 (5 : Nat)) (0 : Nat)) (5 : Nat) (min m1 (5 : Nat)) (entE fun j => entR (entOf (entE y1) j)),
                                                          FV.fs (Nat.beq (min m2 (5 : Nat)) (0 : Nat)) (5 : Nat) (min m2 (5 : Nat)) (entE fun j => entR (entOf (entE y2) j))])))
                                                  (2 : Nat)))
                                              (0 : Nat))
                                            (5 : Nat)
                                            (Prod.fst
                                              (mergeQ
                                                (lstOf
                                                  (selL
                                                    (chunks (1 : Nat) (2 : Nat)
                                                      [FV.fs (Nat.beq (min m1 (5 : Nat)) (0 : Nat)) (5 : Nat) (min m1 (5 : Nat)) (entE fun j => entR (entOf (entE y1) j)),
                                                        FV.fs (Nat.beq (min m2 (5 : Nat)) (0 : Nat)) (5 : Nat) (min m2 (5 : Nat)) (entE fun j => entR (entOf (entE y2) j))])))
                                                (2 : Nat)))
                                            (entE
                                              (Prod.snd
                                                (mergeQ
                                                  (lstOf
                                                    (selL
                                                      (chunks (1 : Nat) (2 : Nat)
                                                        [FV.fs (Nat.beq (min m1 (5 : Nat)) (0 : Nat)) (5 : Nat) (min m1 (5 : Nat)) (entE fun j => entR (entOf (entE y1) j)),
                                                          FV.fs (Nat.beq (min m2 (5 : Nat)) (0 : Nat)) (5 : Nat) (min m2 (5 : Nat)) (entE fun j => entR (entOf (entE y2) j))])))
                                                  (2 : Nat)))),
                                          FV.fs (Nat.beq (min m3 (5 : Nat)) (0 : Nat)) (5 : Nat) (min m3 (5 : Nat)) (entE fun j => entR (entOf (entE y3) j))])))
                                  (2 : Nat))))))
                      (T.br
                        (!sameE
                            (Prod.fst
                              (mergeQ
                                (lstOf
                                  (selL
                                    (chunks (1 : Nat) (3 : Nat)
                                      [FV.fs (Nat.beq (min m1 (5 : Nat)) (0 : Nat)) (5 : Nat) (min m1 (5 : Nat)) (entE fun j => entR (entOf (entE y1) j)),
                                        FV.fs (Nat.beq (min m2 (5 : Nat)) (0 : Nat)) (5 : Nat) (min m2 (5 : Nat)) (entE fun j => entR (entOf (entE y2) j)),
                                        FV.fs (Nat.beq (min m3 (5 : Nat)) (0 : Nat)) (5 : Nat) (min m3 (5 : Nat)) (entE fun j => entR (entOf (entE y3) j))])))
                                (3 : Nat)))
                            (Prod.snd
                              (mergeQ
                                (lstOf
                                  (selL
                                    (chunks (1 : Nat) (3 : Nat)
                                      [FV.fs (Nat.beq (min m1 (5 : Nat)) (0 : Nat)) (5 : Nat) (min m1 (5 : Nat)) (entE fun j => entR (entOf (entE y1) j)),
                                        FV.fs (Nat.beq (min m2 (5 : Nat)) (0 : Nat)) (5 : Nat) (min m2 (5 : Nat)) (entE fun j => entR (entOf (entE y2) j)),
                                        FV.fs (Nat.beq (min m3 (5 : Nat)) (0 : Nat)) (5 : Nat) (min m3 (5 : Nat)) (entE fun j => entR (entOf (entE y3) j))])))
                                (3 : Nat)))
                            (Prod.fst
                              (mergeQ
                                (lstOf
                                  (selL
                                    (chunks (1 : Nat) (2 : Nat)
                                      [FV.fs
                                          (Nat.beq
                                            (Prod.fst
                                              (mergeQ
                                                (lstOf
                                                  (selL
                                                    (chunks (1 : Nat) (2 : Nat)
                                                      [FV.fs (Nat.beq (min m1 (5 : Nat)) (0 : Nat)) (5 : Nat) (min m1 (5 : Nat)) (entE fun j => entR (entOf (entE y1) j)),
                                                        FV.fs (Nat.beq (min m2 (5 : Nat)) (0 : Nat)) (5 : Nat) (min m2 (5 : Nat)) (entE fun j => entR (entOf (entE y2) j))])))
                                                (2 : Nat)))
                                            (0 : Nat))
                                          (5 : Nat)
                                          (Prod.fst
                                            (mergeQ
                                              (lstOf
                                                (selL
                                                  (chunks (1 : Nat) (2 : Nat)
                                                    [FV.fs (Nat.beq (min m1 (5 : Nat)) (0 : Nat)) (5 : Nat) (min m1 (5 : Nat)) (entE fun j => entR (entOf (entE y1) j)),
                                                      FV.fs (Nat.beq (min m2 (5 : Nat)) (0 : Nat)) (5 : Nat) (min m2 (5 : Nat)) (entE fun j => entR (entOf (entE y2) j))])))
                                              (2 : Nat)))
                                          (entE
                                            (Prod.snd
                                              (mergeQ
                                                (lstOf
                                                  (selL
                                                    (chunks (1 : Nat) (2 : Nat)
                                                      [FV.fs (Nat.beq (min m1 (5 : Nat)) (0 : Nat)) (5 : Nat) (min m1 (5 : Nat)) (entE fun j => entR (entOf (entE y1) j)),
                                                        FV.fs (Nat.beq (min m2 (5 : Nat)) (0 : Nat)) (5 : Nat) (min m2 (5 : Nat)) (entE fun j => entR (entOf (entE y2) j))])))
                                                (2 : Nat)))),
                                        FV.fs (Nat.beq (min m3 (5 : Nat)) (0 : Nat)) (5 : Nat) (min m3 (5 : Nat)) (entE fun j => entR (entOf (entE y3) j))])))
                                (2 : Nat)))
                            (Prod.snd
                              (mergeQ
                                (lstOf
                                  (selL
                                    (chunks (1 : Nat) (2 : Nat)
                                      [FV.fs
                                          (Nat.beq
                                            (Prod.fst
                                              (mergeQ
                                                (lstOf
                                                  (selL
                                                    (chunks (1 : Nat) (2 : Nat)
                                                      [FV.fs (Nat.beq (min m1 (5 : Nat)) (0 : Nat)) (5 : Nat) (min m1 (5 : Nat)) (entE fun j => entR (entOf (entE y1) j)),
                                                        FV.fs (Nat.beq (min m2 (5 : Nat)) (0 : Nat)) (5 : Nat) (min m2 (5 : Nat)) (entE fun j => entR (entOf (entE y2) j))])))
                                                (2 : Nat)))
                                            (0 : Nat))
                                          (5 : Nat)
                                          (Prod.fst
                                            (mergeQ
                                              (lstOf
                                                (selL
                                                  (chunks (1 : Nat) (2 : Nat)
                                                    [FV.fs (Nat.beq (min m1 (5 : Nat)) (0 : Nat)) (5 : Nat) (min m1 (5 : Nat)) (entE fun j => entR (entOf (entE y1) j)),
                                                      FV.fs (Nat.beq (min m2 (5 : Nat)) (0 : Nat)) (5 : Nat) (min m2 (5 : Nat)) (entE fun j => entR (entOf (entE y2) j))])))
                                              (2 : Nat)))
                                          (entE
                                            (Prod.snd
                                              (mergeQ
                                                (lstOf
                                                  (selL
                                                    (chunks (1 : Nat) (2 : Nat)
                                                      [FV.fs (Nat.beq (min m1 (5 : Nat)) (0 : Nat)) (5 : Nat) (min m1 (5 : Nat)) (entE fun j => entR (entOf (entE y1) j)),
                                                        FV.fs (Nat.beq (min m2 (5 : Nat)) (0 : Nat)) (5 : Nat) (min m2 (5 : Nat)) (entE fun j => entR (entOf (entE y2) j))])))
                                                (2 : Nat)))),
                                        FV.fs (Nat.beq (min m3 (5 : Nat)) (0 : Nat)) (5 : Nat) (min m3 (5 : Nat)) (entE fun j => entR (entOf (entE y3) j))])))
                                (2 : Nat))))
                        (T.ret (out0 (SV.v (AB false))))
                        (T.br
                          (pb
                            (LstL false (2 : Nat)
                              (selL
                                (chunks (1 : Nat) (2 : Nat)
                                  [FV.fs (Nat.beq (min m2 (5 : Nat)) (0 : Nat)) (5 : Nat) (min m2 (5 : Nat)) (entE fun j => entR (entOf (entE y2) j)),
                                    FV.fs (Nat.beq (min m3 (5 : Nat)) (0 : Nat)) (5 : Nat) (min m3 (5 : Nat)) (entE fun j => entR (entOf (entE y3) j))]))))
                          (T.br
                            (pb
                              (LstL false (2 : Nat)
                                (selL
                                  (chunks (1 : Nat) (2 : Nat)
                                    [FV.fs (Nat.beq (min m1 (5 : Nat)) (0 : Nat)) (5 : Nat) (min m1 (5 : Nat)) (entE fun j => entR (entOf (entE y1) j)),
                                      FV.fs
                                        (Nat.beq
                                          (Prod.fst
                                            (mergeQ
                                              (lstOf
                                                (selL
                                                  (chunks (1 : Nat) (2 : Nat)
                                                    [FV.fs (Nat.beq (min m2 (5 : Nat)) (0 : Nat)) (5 : Nat) (min m2 (5 : Nat)) (entE fun j => entR (entOf (entE y2) j)),
                                                      FV.fs (Nat.beq (min m3 (5 : Nat)) (0 : Nat)) (5 : Nat) (min m3 (5 : Nat)) (entE fun j => entR (entOf (entE y3) j))])))
                                              (2 : Nat)))
                                          (0 : Nat))
                                        (5 : Nat)
                                        (Prod.fst
                                          (mergeQ
                                            (lstOf
                                              (selL
                                                (chunks (1 : Nat) (2 : Nat)
                                                  [FV.fs (Nat.beq (min m2 (5 : Nat)) (0 : Nat)) (5 : Nat) (min m2 (5 : Nat)) (entE fun j => entR (entOf (entE y2) j)),
                                                    FV.fs (Nat.beq (min m3 (5 : Nat)) (0 : Nat)) (5 : Nat) (min m3 (5 : Nat)) (entE fun j => entR (entOf (entE y3) j))])))
                                            (2 : Nat)))
                                        (entE
                                          (Prod.snd
                                            (mergeQ
                                              (lstOf
                                                (selL
                                                  (chunks (1 : Nat) (2 : Nat)
                                                    [FV.fs (Nat.beq (min m2 (5 : Nat)) (0 : Nat)) (5 : Nat) (min m2 (5 : Nat)) (entE fun j => entR (entOf (entE y2) j)),
                                                      FV.fs (Nat.beq (min m3 (5 : Nat)) (0 : Nat)) (5 : Nat) (min m3 (5 : Nat)) (entE fun j => entR (entOf (entE y3) j))])))
                                              (2 : Nat))))]))))
                            (T.br
                              (pb
                                (EntL
                                    (Nat.beq
                                      (Prod.fst
                                        (mergeQ
                                          (lstOf
                                            (selL
                                              (chunks (1 : Nat) (3 : Nat)
                                                [FV.fs (Nat.beq (min m1 (5 : Nat)) (0 : Nat)) (5 : Nat) (min m1 (5 : Nat)) (entE fun j => entR (entOf (entE y1) j)),
                                                  FV.fs (Nat.beq (min m2 (5 : Nat)) (0 : Nat)) (5 : Nat) (min m2 (5 : Nat)) (entE fun j => entR (entOf (entE y2) j)),
                                                  FV.fs (Nat.beq (min m3 (5 : Nat)) (0 : Nat)) (5 : Nat) (min m3 (5 : Nat)) (entE fun j => entR (entOf (entE y3) j))])))
                                          (3 : Nat)))
                                      (0 : Nat))
                                    (Prod.fst
                                      (mergeQ
                                        (lstOf
                                          (selL
                                            (chunks (1 : Nat) (3 : Nat)
                                              [FV.fs (Nat.beq (min m1 (5 : Nat)) (0 : Nat)) (5 : Nat) (min m1 (5 : Nat)) (entE fun j => entR (entOf (entE y1) j)),
                                                FV.fs (Nat.beq (min m2 (5 : Nat)) (0 : Nat)) (5 : Nat) (min m2 (5 : Nat)) (entE fun j => entR (entOf (entE y2) j)),
                                                FV.fs (Nat.beq (min m3 (5 : Nat)) (0 : Nat)) (5 : Nat) (min m3 (5 : Nat)) (entE fun j => entR (entOf (entE y3) j))])))
                                        (3 : Nat)))
                                    (entE
                                      (Prod.snd
                                        (mergeQ
                                          (lstOf
                                            (selL
                                              (chunks (1 : Nat) (3 : Nat)
                                                [FV.fs (Nat.beq (min m1 (5 : Nat)) (0 : Nat)) (5 : Nat) (min m1 (5 : Nat)) (entE fun j => entR (entOf (entE y1) j)),
                                                  FV.fs (Nat.beq (min m2 (5 : Nat)) (0 : Nat)) (5 : Nat) (min m2 (5 : Nat)) (entE fun j => entR (entOf (entE y2) j)),
                                                  FV.fs (Nat.beq (min m3 (5 : Nat)) (0 : Nat)) (5 : Nat) (min m3 (5 : Nat)) (entE fun j => entR (entOf (entE y3) j))])))
                                          (3 : Nat)))) ∧
                                  EntL
                                    (Nat.beq
                                      (Prod.fst
                                        (mergeQ
                                          (lstOf
                                            (selL
                                              (chunks (1 : Nat) (2 : Nat)
                                                [FV.fs (Nat.beq (min m1 (5 : Nat)) (0 : Nat)) (5 : Nat) (min m1 (5 : Nat)) (entE fun j => entR (entOf (entE y1) j)),
                                                  FV.fs
                                                    (Nat.beq
                                                      (Prod.fst
                                                        (mergeQ
                                                          (lstOf
                                                            (selL
                                                              (chunks (1 : Nat) (2 : Nat)
                                                                [FV.fs (Nat.beq (min m2 (5 : Nat)) (0 : Nat)) (5 : Nat) (min m2 (5 : Nat)) (entE fun j => entR (entOf (entE y2) j)),
                                                                  FV.fs (Nat.beq (min m3 (5 : Nat)) (0 : Nat)) (5 : Nat) (min m3 (5 : Nat)) (entE fun j => entR (entOf (entE y3) j))])))
                                                          (2 : Nat)))
                                                      (0 : Nat))
                                                    (5 : Nat)
                                                    (Prod.fst
                                                      (mergeQ
                                                        (lstOf
                                                          (selL
                                                            (chunks (1 : Nat) (2 : Nat)
                                                              [FV.fs (Nat.beq (min m2 (5 : Nat)) (0 : Nat)) (5 : Nat) (min m2 (5 : Nat)) (entE fun j => entR (entOf (entE y2) j)),
                                                                FV.fs (Nat.beq (min m3 (5 : Nat)) (0 : Nat)) (5 : Nat) (min m3 (5 : Nat)) (entE fun j => entR (entOf (entE y3) j))])))
                                                        (2 : Nat)))
                                                    (entE
                                                      (Prod.snd
                                                        (mergeQ
                                                          (lstOf
                                                            (selL
                                                              (chunks (1 : Nat) (2 : Nat)
                                                                [FV.fs (Nat.beq (min m2 (5 : Nat)) (0 : Nat)) (5 : Nat) (min m2 (5 : Nat)) (entE fun j => entR (entOf (entE y2) j)),
                                                                  FV.fs (Nat.beq (min m3 (5 : Nat)) (0 : Nat)) (5 : Nat) (min m3 (5 : Nat)) (entE fun j => entR (entOf (entE y3) j))])))
                                                          (2 : Nat))))])))
                                          (2 : Nat)))
                                      (0 : Nat))
                                    (Prod.fst
                                      (mergeQ
                                        (lstOf
                                          (selL
                                            (chunks (1 : Nat) (2 : Nat)
                                              [FV.fs (Nat.beq (min m1 (5 : Nat)) (0 : Nat)) (5 : Nat) (min m1 (5 : Nat)) (entE fun j => entR (entOf (entE y1) j)),
                                                FV.fs
                                                  (Nat.beq
                                                    (Prod.fst
                                                      (mergeQ
                                                        (lstOf
                                                          (selL
                                                            (chunks (1 : Nat) (2 : Nat)
                                                              [FV.fs (Nat.beq (min m2 (5 : Nat)) (0 : Nat)) (5 : Nat) (min m2 (5 : Nat)) (entE fun j => entR (entOf (entE y2) j)),
                                                                FV.fs (Nat.beq (min m3 (5 : Nat)) (0 : Nat)) (5 : Nat) (min m3 (5 : Nat)) (entE fun j => entR (entOf (entE y3) j))])))
                                                        (2 : Nat)))
                                                    (0 : Nat))
                                                  (5 : Nat)
                                                  (Prod.fst
                                                    (mergeQ
                                                      (lstOf
                                                        (selL
                                                          (chunks (1 : Nat) (2 : Nat)
                                                            [FV.fs (Nat.beq (min m2 (5 : Nat)) (0 : Nat)) (5 : Nat) (min m2 (5 : Nat)) (entE fun j => entR (entOf (entE y2) j)),
                                                              FV.fs (Nat.beq (min m3 (5 : Nat)) (0 : Nat)) (5 : Nat) (min m3 (5 : Nat)) (entE fun j => entR (entOf (entE y3) j))])))
                                                      (2 : Nat)))
                                                  (entE
                                                    (Prod.snd
                                                      (mergeQ
                                                        (lstOf
                                                          (selL
                                                            (chunks (1 : Nat) (2 : Nat)
                                                              [FV.fs (Nat.beq (min m2 (5 : Nat)) (0 : Nat)) (5 : Nat) (min m2 (5 : Nat)) (entE fun j => entR (entOf (entE y2) j)),
                                                                FV.fs (Nat.beq (min m3 (5 : Nat)) (0 : Nat)) (5 : Nat) (min m3 (5 : Nat)) (entE fun j => entR (entOf (entE y3) j))])))
                                                        (2 : Nat))))])))
                                        (2 : Nat)))
                                    (entE
                                      (Prod.snd
                                        (mergeQ
                                          (lstOf
                                            (selL
                                              (chunks (1 : Nat) (2 : Nat)
                                                [FV.fs (Nat.beq (min m1 (5 : Nat)) (0 : Nat)) (5 : Nat) (min m1 (5 : Nat)) (entE fun j => entR (entOf (entE y1) j)),
                                                  FV.fs
                                                    (Nat.beq
                                                      (Prod.fst
                                                        (mergeQ
                                                          (lstOf
                                                            (selL
                                                              (chunks (1 : Nat) (2 : Nat)
                                                                [FV.fs (Nat.beq (min m2 (5 : Nat)) (0 : Nat)) (5 : Nat) (min m2 (5 : Nat)) (entE fun j => entR (entOf (entE y2) j)),
                                                                  FV.fs (Nat.beq (min m3 (5 : Nat)) (0 : Nat)) (5 : Nat) (min m3 (5 : Nat)) (entE fun j => entR (entOf (entE y3) j))])))
                                                          (2 : Nat)))
                                                      (0 : Nat))
                                                    (5 : Nat)
                                                    (Prod.fst
                                                      (mergeQ
                                                        (lstOf
                                                          (selL
                                                            (chunks (1 : Nat) (2 : Nat)
                                                              [FV.fs (Nat.beq (min m2 (5 : Nat)) (0 : Nat)) (5 : Nat) (min m2 (5 : Nat)) (entE fun j => entR (entOf (entE y2) j)),
                                                                FV.fs (Nat.beq (min m3 (5 : Nat)) (0 : Nat)) (5 : Nat) (min m3 (5 : Nat)) (entE fun j => entR (entOf (entE y3) j))])))
                                                        (2 : Nat)))
                                                    (entE
                                                      (Prod.snd
                                                        (mergeQ
                                                          (lstOf
                                                            (selL
                                                              (chunks (1 : Nat) (2 : Nat)
                                                                [FV.fs (Nat.beq (min m2 (5 : Nat)) (0 : Nat)) (5 : Nat) (min m2 (5 : Nat)) (entE fun j => entR (entOf (entE y2) j)),
                                                                  FV.fs (Nat.beq (min m3 (5 : Nat)) (0 : Nat)) (5 : Nat) (min m3 (5 : Nat)) (entE fun j => entR (entOf (entE y3) j))])))
                                                          (2 : Nat))))])))
                                          (2 : Nat))))))
                              (T.br
                                (!sameE
                                    (Prod.fst
                                      (mergeQ
                                        (lstOf
                                          (selL
                                            (chunks (1 : Nat) (3 : Nat)
                                              [FV.fs (Nat.beq (min m1 (5 : Nat)) (0 : Nat)) (5 : Nat) (min m1 (5 : Nat)) (entE fun j => entR (entOf (entE y1) j)),
                                                FV.fs (Nat.beq (min m2 (5 : Nat)) (0 : Nat)) (5 : Nat) (min m2 (5 : Nat)) (entE fun j => entR (entOf (entE y2) j)),
                                                FV.fs (Nat.beq (min m3 (5 : Nat)) (0 : Nat)) (5 : Nat) (min m3 (5 : Nat)) (entE fun j => entR (entOf (entE y3) j))])))
                                        (3 : Nat)))
                                    (Prod.snd
                                      (mergeQ
                                        (lstOf
                                          (selL
                                            (chunks (1 : Nat) (3 : Nat)
                                              [FV.fs (Nat.beq (min m1 (5 : Nat)) (0 : Nat)) (5 : Nat) (min m1 (5 : Nat)) (entE fun j => entR (entOf (entE y1) j)),
                                                FV.fs (Nat.beq (min m2 (5 : Nat)) (0 : Nat)) (5 : Nat) (min m2 (5 : Nat)) (entE fun j => entR (entOf (entE y2) j)),
                                                FV.fs (Nat.beq (min m3 (5 : Nat)) (0 : Nat)) (5 : Nat) (min m3 (5 : Nat)) (entE fun j => entR (entOf (entE y3) j))])))
                                        (3 : Nat)))
                                    (Prod.fst
                                      (mergeQ
                                        (lstOf
                                          (selL
                                            (chunks (1 : Nat) (2 : Nat)
                                              [FV.fs (Nat.beq (min m1 (5 : Nat)) (0 : Nat)) (5 : Nat) (min m1 (5 : Nat)) (entE fun j => entR (entOf (entE y1) j)),
                                                FV.fs
                                                  (Nat.beq
                                                    (Prod.fst
                                                      (mergeQ
                                                        (lstOf
                                                          (selL
                                                            (chunks (1 : Nat) (2 : Nat)
                                                              [FV.fs (Nat.beq (min m2 (5 : Nat)) (0 : Nat)) (5 : Nat) (min m2 (5 : Nat)) (entE fun j => entR (entOf (entE y2) j)),
                                                                FV.fs (Nat.beq (min m3 (5 : Nat)) (0 : Nat)) (5 : Nat) (min m3 (5 : Nat)) (entE fun j => entR (entOf (entE y3) j))])))
                                                        (2 : Nat)))
                                                    (0 : Nat))
                                                  (5 : Nat)
                                                  (Prod.fst
                                                    (mergeQ
                                                      (lstOf
                                                        (selL
                                                          (chunks (1 : Nat) (2 : Nat)
                                                            [FV.fs (Nat.beq (min m2 (5 : Nat)) (0 : Nat)) (5 : Nat) (min m2 (5 : Nat)) (entE fun j => entR (entOf (entE y2) j)),
                                                              FV.fs (Nat.beq (min m3 (5 : Nat)) (0 : Nat)) (5 : Nat) (min m3 (5 : Nat)) (entE fun j => entR (entOf (entE y3) j))])))
                                                      (2 : Nat)))
                                                  (entE
                                                    (Prod.snd
                                                      (mergeQ
                                                        (lstOf
                                                          (selL
                                                            (chunks (1 : Nat) (2 : Nat)
                                                              [FV.fs (Nat.beq (min m2 (5 : Nat)) (0 : Nat)) (5 : Nat) (min m2 (5 : Nat)) (entE fun j => entR (entOf (entE y2) j)),
                                                                FV.fs (Nat.beq (min m3 (5 : Nat)) (0 : Nat)) (5 : Nat) (min m3 (5 : Nat)) (entE fun j => entR (entOf (entE y3) j))])))
                                                        (2 : Nat))))])))
                                        (2 : Nat)))
                                    (Prod.snd
                                      (mergeQ
                                        (lstOf
                                          (selL
                                            (chunks (1 : Nat) (2 : Nat)
                                              [FV.fs (Nat.beq (min m1 (5 : Nat)) (0 : Nat)) (5 : Nat) (min m1 (5 : Nat)) (entE fun j => entR (entOf (entE y1) j)),
                                                FV.fs
                                                  (Nat.beq
                                                    (Prod.fst
                                                      (mergeQ
                                                        (lstOf
                                                          (selL
                                                            (chunks (1 : Nat) (2 : Nat)
                                                              [FV.fs (Nat.beq (min m2 (5 : Nat)) (0 : Nat)) (5 : Nat) (min m2 (5 : Nat)) (entE fun j => entR (entOf (entE y2) j)),
                                                                FV.fs (Nat.beq (min m3 (5 : Nat)) (0 : Nat)) (5 : Nat) (min m3 (5 : Nat)) (entE fun j => entR (entOf (entE y3) j))])))
                                                        (2 : Nat)))
                                                    (0 : Nat))
                                                  (5 : Nat)
                                                  (Prod.fst
                                                    (mergeQ
                                                      (lstOf
                                                        (selL
                                                          (chunks (1 : Nat) (2 : Nat)
                                                            [FV.fs (Nat.beq (min m2 (5 : Nat)) (0 : Nat)) (5 : Nat) (min m2 (5 : Nat)) (entE fun j => entR (entOf (entE y2) j)),
                                                              FV.fs (Nat.beq (min m3 (5 : Nat)) (0 : Nat)) (5 : Nat) (min m3 (5 : Nat)) (entE fun j => entR (entOf (entE y3) j))])))
                                                      (2 : Nat)))
                                                  (entE
                                                    (Prod.snd
                                                      (mergeQ
                                                        (lstOf
                                                          (selL
                                                            (chunks (1 : Nat) (2 : Nat)
                                                              [FV.fs (Nat.beq (min m2 (5 : Nat)) (0 : Nat)) (5 : Nat) (min m2 (5 : Nat)) (entE fun j => entR (entOf (entE y2) j)),
                                                                FV.fs (Nat.beq (min m3 (5 : Nat)) (0 : Nat)) (5 : Nat) (min m3 (5 : Nat)) (entE fun j => entR (entOf (entE y3) j))])))
                                                        (2 : Nat))))])))
                                        (2 : Nat))))
                                (T.ret (out0 (SV.v (AB false))))
                                (T.br (pb (LstL false (1 : Nat) (selL (chunks (1 : Nat) (1 : Nat) [FV.fs (Nat.beq (min m1 (5 : Nat)) (0 : Nat)) (5 : Nat) (min m1 (5 : Nat)) (entE fun j => entR (entOf (entE y1) j))]))))
                                  (T.br
                                    (pb
                                      (EntL (Nat.beq (min m1 (5 : Nat)) (0 : Nat)) (min m1 (5 : Nat)) (entE fun j => entR (entOf (entE y1) j)) ∧
                                        EntL
                                          (Nat.beq (Prod.fst (mergeQ (lstOf (selL (chunks (1 : Nat) (1 : Nat) [FV.fs (Nat.beq (min m1 (5 : Nat)) (0 : Nat)) (5 : Nat) (min m1 (5 : Nat)) (entE fun j => entR (entOf (entE y1) j))]))) (1 : Nat)))
                                            (0 : Nat))
                                          (Prod.fst (mergeQ (lstOf (selL (chunks (1 : Nat) (1 : Nat) [FV.fs (Nat.beq (min m1 (5 : Nat)) (0 : Nat)) (5 : Nat) (min m1 (5 : Nat)) (entE fun j => entR (entOf (entE y1) j))]))) (1 : Nat)))
                                          (entE (Prod.snd (mergeQ (lstOf (selL (chunks (1 : Nat) (1 : Nat) [FV.fs (Nat.beq (min m1 (5 : Nat)) (0 : Nat)) (5 : Nat) (min m1 (5 : Nat)) (entE fun j => entR (entOf (entE y1) j))]))) (1 : Nat))))))
                                    (T.br
                                      (!sameE (min m1 (5 : Nat)) (fun j => entR (entOf (entE y1) j))
                                          (Prod.fst (mergeQ (lstOf (selL (chunks (1 : Nat) (1 : Nat) [FV.fs (Nat.beq (min m1 (5 : Nat)) (0 : Nat)) (5 : Nat) (min m1 (5 : Nat)) (entE fun j => entR (entOf (entE y1) j))]))) (1 : Nat)))
                                          (Prod.snd (mergeQ (lstOf (selL (chunks (1 : Nat) (1 : Nat) [FV.fs (Nat.beq (min m1 (5 : Nat)) (0 : Nat)) (5 : Nat) (min m1 (5 : Nat)) (entE fun j => entR (entOf (entE y1) j))]))) (1 : Nat))))
                                      (T.ret (out0 (SV.v (AB false))))
                                      (T.br
                                        (pb
                                          (LstL false (3 : Nat)
                                            (selL
                                              (chunks (1 : Nat) (3 : Nat)
                                                [FV.fs (Nat.beq (min m1 (5 : Nat)) (0 : Nat)) (5 : Nat) (min m1 (5 : Nat)) (entE fun j => entR (entOf (entE y1) j)),
                                                  FV.fs (Nat.beq (min m1 (5 : Nat)) (0 : Nat)) (5 : Nat) (min m1 (5 : Nat)) (entE fun j => entR (entOf (entE y1) j)), FV.lit (Value.slice none (0 : Nat) (0 : Nat))]))))
                                        (T.br
                                          (pb
                                            (EntL (Nat.beq (min m1 (5 : Nat)) (0 : Nat)) (min m1 (5 : Nat)) (entE fun j => entR (entOf (entE y1) j)) ∧
                                              EntL
                                                (Nat.beq
                                                  (Prod.fst
                                                    (mergeQ
                                                      (lstOf
                                                        (selL
                                                          (chunks (1 : Nat) (3 : Nat)
                                                            [FV.fs (Nat.beq (min m1 (5 : Nat)) (0 : Nat)) (5 : Nat) (min m1 (5 : Nat)) (entE fun j => entR (entOf (entE y1) j)),
                                                              FV.fs (Nat.beq (min m1 (5 : Nat)) (0 : Nat)) (5 : Nat) (min m1 (5 : Nat)) (entE fun j => entR (entOf (entE y1) j)), FV.lit (Value.slice none (0 : Nat) (0 : Nat))])))
                                                      (3 : Nat)))
                                                  (0 : Nat))
                                                (Prod.fst
                                                  (mergeQ
                                                    (lstOf
                                                      (selL
                                                        (chunks (1 : Nat) (3 : Nat)
                                                          [FV.fs (Nat.beq (min m1 (5 : Nat)) (0 : Nat)) (5 : Nat) (min m1 (5 : Nat)) (entE fun j => entR (entOf (entE y1) j)),
                                                            FV.fs (Nat.beq (min m1 (5 : Nat)) (0 : Nat)) (5 : Nat) (min m1 (5 : Nat)) (entE fun j => entR (entOf (entE y1) j)), FV.lit (Value.slice none (0 : Nat) (0 : Nat))])))
                                                    (3 : Nat)))
                                                (entE
                                                  (Prod.snd
                                                    (mergeQ
                                                      (lstOf
                                                        (selL
                                                          (chunks (1 : Nat) (3 : Nat)
                                                            [FV.fs (Nat.beq (min m1 (5 : Nat)) (0 : Nat)) (5 : Nat) (min m1 (5 : Nat)) (entE fun j => entR (entOf (entE y1) j)),
                                                              FV.fs (Nat.beq (min m1 (5 : Nat)) (0 : Nat)) (5 : Nat) (min m1 (5 : Nat)) (entE fun j => entR (entOf (entE y1) j)), FV.lit (Value.slice none (0 : Nat) (0 : Nat))])))
                                                      (3 : Nat))))))
                                          (T.br
                                            (!sameE (min m1 (5 : Nat)) (fun j => entR (entOf (entE y1) j))
                                                (Prod.fst
                                                  (mergeQ
                                                    (lstOf
                                                      (selL
                                                        (chunks (1 : Nat) (3 : Nat)
                                                          [FV.fs (Nat.beq (min m1 (5 : Nat)) (0 : Nat)) (5 : Nat) (min m1 (5 : Nat)) (entE fun j => entR (entOf (entE y1) j)),
                                                            FV.fs (Nat.beq (min m1 (5 : Nat)) (0 : Nat)) (5 : Nat) (min m1 (5 : Nat)) (entE fun j => entR (entOf (entE y1) j)), FV.lit (Value.slice none (0 : Nat) (0 : Nat))])))
                                                    (3 : Nat)))
                                                (Prod.snd
                                                  (mergeQ
                                                    (lstOf
                                                      (selL
                                                        (chunks (1 : Nat) (3 : Nat)
                                                          [FV.fs (Nat.beq (min m1 (5 : Nat)) (0 : Nat)) (5 : Nat) (min m1 (5 : Nat)) (entE fun j => entR (entOf (entE y1) j)),
                                                            FV.fs (Nat.beq (min m1 (5 : Nat)) (0 : Nat)) (5 : Nat) (min m1 (5 : Nat)) (entE fun j => entR (entOf (entE y1) j)), FV.lit (Value.slice none (0 : Nat) (0 : Nat))])))
                                                    (3 : Nat))))
                                            (T.ret (out0 (SV.v (AB false))))
                                            (T.br (pb (loopOf Proofs.Try.f7 (8 : Nat) = loopOf Proofs.Try.f7 (8 : Nat) ∧ (131 : Nat) = (131 : Nat)))
                                              (T.br
                                                (pb
                                                  (EntE
                                                      (entE
                                                        (Prod.snd
                                                          (mergeQ
                                                            (lstOf
                                                              (selL
                                                                (chunks (1 : Nat) (3 : Nat)
                                                                  [FV.fs (Nat.beq (min m1 (5 : Nat)) (0 : Nat)) (5 : Nat) (min m1 (5 : Nat)) (entE fun j => entR (entOf (entE y1) j)),
                                                                    FV.fs (Nat.beq (min m2 (5 : Nat)) (0 : Nat)) (5 : Nat) (min m2 (5 : Nat)) (entE fun j => entR (entOf (entE y2) j)),
                                                                    FV.fs (Nat.beq (min m3 (5 : Nat)) (0 : Nat)) (5 : Nat) (min m3 (5 : Nat)) (entE fun j => entR (entOf (entE y3) j))])))
                                                            (3 : Nat)))) ∧
                                                    EntE (entE fun j => entR (entOf (entE y1) j)) ∧
                                                      EntE (entE fun j => entR (entOf (entE y2) j)) ∧
                                                        EntE (entE fun j => entR (entOf (entE y3) j)) ∧
                                                          Nat.beq
                                                                (Prod.fst
                                                                  (mergeQ
                                                                    (lstOf
                                                                      (selL
                                                                        (chunks (1 : Nat) (3 : Nat)
                                                                          [FV.fs (Nat.beq (min m1 (5 : Nat)) (0 : Nat)) (5 : Nat) (min m1 (5 : Nat)) (entE fun j => entR (entOf (entE y1) j)),
                                                                            FV.fs (Nat.beq (min m2 (5 : Nat)) (0 : Nat)) (5 : Nat) (min m2 (5 : Nat)) (entE fun j => entR (entOf (entE y2) j)),
                                                                            FV.fs (Nat.beq (min m3 (5 : Nat)) (0 : Nat)) (5 : Nat) (min m3 (5 : Nat)) (entE fun j => entR (entOf (entE y3) j))])))
                                                                    (3 : Nat)))
                                                                (0 : Nat) =
                                                              Nat.beq
                                                                (Prod.fst
                                                                  (mergeQ
                                                                    (lstOf
                                                                      (selL
                                                                        (chunks (1 : Nat) (3 : Nat)
                                                                          [FV.fs (Nat.beq (min m1 (5 : Nat)) (0 : Nat)) (5 : Nat) (min m1 (5 : Nat)) (entE fun j => entR (entOf (entE y1) j)),
                                                                            FV.fs (Nat.beq (min m2 (5 : Nat)) (0 : Nat)) (5 : Nat) (min m2 (5 : Nat)) (entE fun j => entR (entOf (entE y2) j)),
                                                                            FV.fs (Nat.beq (min m3 (5 : Nat)) (0 : Nat)) (5 : Nat) (min m3 (5 : Nat)) (entE fun j => entR (entOf (entE y3) j))])))
                                                                    (3 : Nat)))
                                                                (0 : Nat) ∧
                                                            Nat.beq (min m1 (5 : Nat)) (0 : Nat) = Nat.beq (min m1 (5 : Nat)) (0 : Nat) ∧
                                                              Nat.beq (min m2 (5 : Nat)) (0 : Nat) = Nat.beq (min m2 (5 : Nat)) (0 : Nat) ∧
                                                                Nat.beq (min m3 (5 : Nat)) (0 : Nat) = Nat.beq (min m3 (5 : Nat)) (0 : Nat) ∧
                                                                  (↑(Prod.fst
                                                                            (mergeQ
                                                                              (lstOf
                                                                                (selL
                                                                                  (chunks (1 : Nat) (3 : Nat)
                                                                                    [FV.fs (Nat.beq (min m1 (5 : Nat)) (0 : Nat)) (5 : Nat) (min m1 (5 : Nat)) (entE fun j => entR (entOf (entE y1) j)),
                                                                                      FV.fs (Nat.beq (min m2 (5 : Nat)) (0 : Nat)) (5 : Nat) (min m2 (5 : Nat)) (entE fun j => entR (entOf (entE y2) j)),
                                                                                      FV.fs (Nat.beq (min m3 (5 : Nat)) (0 : Nat)) (5 : Nat) (min m3 (5 : Nat)) (entE fun j => entR (entOf (entE y3) j))])))
                                                                              (3 : Nat))) :
                                                                        Int) =
                                                                      (↑(Prod.fst
                                                                            (mergeQ
                                                                              (lstOf
                                                                                (selL
                                                                                  (chunks (1 : Nat) (3 : Nat)
                                                                                    [FV.fs (Nat.beq (min m1 (5 : Nat)) (0 : Nat)) (5 : Nat) (min m1 (5 : Nat)) (entE fun j => entR (entOf (entE y1) j)),
                                                                                      FV.fs (Nat.beq (min m2 (5 : Nat)) (0 : Nat)) (5 : Nat) (min m2 (5 : Nat)) (entE fun j => entR (entOf (entE y2) j)),
                                                                                      FV.fs (Nat.beq (min m3 (5 : Nat)) (0 : Nat)) (5 : Nat) (min m3 (5 : Nat)) (entE fun j => entR (entOf (entE y3) j))])))
                                                                              (3 : Nat))) :
                                                                        Int) ∧
                                                                    (0 : Int) = (0 : Int) ∧
                                                                      Nat.beq
                                                                            (Prod.fst
                                                                              (mergeQ
                                                                                (lstOf
                                                                                  (selL
                                                                                    (chunks (1 : Nat) (3 : Nat)
                                                                                      [FV.fs (Nat.beq (min m1 (5 : Nat)) (0 : Nat)) (5 : Nat) (min m1 (5 : Nat)) (entE fun j => entR (entOf (entE y1) j)),
                                                                                        FV.fs (Nat.beq (min m2 (5 : Nat)) (0 : Nat)) (5 : Nat) (min m2 (5 : Nat)) (entE fun j => entR (entOf (entE y2) j)),
                                                                                        FV.fs (Nat.beq (min m3 (5 : Nat)) (0 : Nat)) (5 : Nat) (min m3 (5 : Nat)) (entE fun j => entR (entOf (entE y3) j))])))
                                                                                (3 : Nat)))
                                                                            (0 : Nat) =
                                                                          Nat.beq
                                                                            (Prod.fst
                                                                              (mergeQ
                                                                                (lstOf
                                                                                  (selL
                                                                                    (chunks (1 : Nat) (3 : Nat)
                                                                                      [FV.fs (Nat.beq (min m1 (5 : Nat)) (0 : Nat)) (5 : Nat) (min m1 (5 : Nat)) (entE fun j => entR (entOf (entE y1) j)),
                                                                                        FV.fs (Nat.beq (min m2 (5 : Nat)) (0 : Nat)) (5 : Nat) (min m2 (5 : Nat)) (entE fun j => entR (entOf (entE y2) j)),
                                                                                        FV.fs (Nat.beq (min m3 (5 : Nat)) (0 : Nat)) (5 : Nat) (min m3 (5 : Nat)) (entE fun j => entR (entOf (entE y3) j))])))
                                                                                (3 : Nat)))
                                                                            (0 : Nat) ∧
                                                                        Prod.fst
                                                                              (mergeQ
                                                                                (lstOf
                                                                                  (selL
                                                                                    (chunks (1 : Nat) (3 : Nat)
                                                                                      [FV.fs (Nat.beq (min m1 (5 : Nat)) (0 : Nat)) (5 : Nat) (min m1 (5 : Nat)) (entE fun j => entR (entOf (entE y1) j)),
                                                                                        FV.fs (Nat.beq (min m2 (5 : Nat)) (0 : Nat)) (5 : Nat) (min m2 (5 : Nat)) (entE fun j => entR (entOf (entE y2) j)),
                                                                                        FV.fs (Nat.beq (min m3 (5 : Nat)) (0 : Nat)) (5 : Nat) (min m3 (5 : Nat)) (entE fun j => entR (entOf (entE y3) j))])))
                                                                                (3 : Nat)) =
                                                                            Prod.fst
                                                                              (mergeQ
                                                                                (lstOf
                                                                                  (selL
                                                                                    (chunks (1 : Nat) (3 : Nat)
                                                                                      [FV.fs (Nat.beq (min m1 (5 : Nat)) (0 : Nat)) (5 : Nat) (min m1 (5 : Nat)) (entE fun j => entR (entOf (entE y1) j)),
                                                                                        FV.fs (Nat.beq (min m2 (5 : Nat)) (0 : Nat)) (5 : Nat) (min m2 (5 : Nat)) (entE fun j => entR (entOf (entE y2) j)),
                                                                                        FV.fs (Nat.beq (min m3 (5 : Nat)) (0 : Nat)) (5 : Nat) (min m3 (5 : Nat)) (entE fun j => entR (entOf (entE y3) j))])))
                                                                                (3 : Nat)) ∧
                                                                          entE
                                                                                (Prod.snd
                                                                                  (mergeQ
                                                                                    (lstOf
                                                                                      (selL
                                                                                        (chunks (1 : Nat) (3 : Nat)
                                                                                          [FV.fs (Nat.beq (min m1 (5 : Nat)) (0 : Nat)) (5 : Nat) (min m1 (5 : Nat)) (entE fun j => entR (entOf (entE y1) j)),
                                                                                            FV.fs (Nat.beq (min m2 (5 : Nat)) (0 : Nat)) (5 : Nat) (min m2 (5 : Nat)) (entE fun j => entR (entOf (entE y2) j)),
                                                                                            FV.fs (Nat.beq (min m3 (5 : Nat)) (0 : Nat)) (5 : Nat) (min m3 (5 : Nat)) (entE fun j => entR (entOf (entE y3) j))])))
                                                                                    (3 : Nat))) =
                                                                              entE
                                                                                (Prod.snd
                                                                                  (mergeQ
                                                                                    (lstOf
                                                                                      (selL
                                                                                        (chunks (1 : Nat) (3 : Nat)
                                                                                          [FV.fs (Nat.beq (min m1 (5 : Nat)) (0 : Nat)) (5 : Nat) (min m1 (5 : Nat)) (entE fun j => entR (entOf (entE y1) j)),
                                                                                            FV.fs (Nat.beq (min m2 (5 : Nat)) (0 : Nat)) (5 : Nat) (min m2 (5 : Nat)) (entE fun j => entR (entOf (entE y2) j)),
                                                                                            FV.fs (Nat.beq (min m3 (5 : Nat)) (0 : Nat)) (5 : Nat) (min m3 (5 : Nat)) (entE fun j => entR (entOf (entE y3) j))])))
                                                                                    (3 : Nat))) ∧
                                                                            Prod.fst
                                                                                  (mergeQ
                                                                                    (lstOf
                                                                                      (selL
                                                                                        (chunks (1 : Nat) (3 : Nat)
                                                                                          [FV.fs (Nat.beq (min m1 (5 : Nat)) (0 : Nat)) (5 : Nat) (min m1 (5 : Nat)) (entE fun j => entR (entOf (entE y1) j)),
                                                                                            FV.fs (Nat.beq (min m2 (5 : Nat)) (0 : Nat)) (5 : Nat) (min m2 (5 : Nat)) (entE fun j => entR (entOf (entE y2) j)),
                                                                                            FV.fs (Nat.beq (min m3 (5 : Nat)) (0 : Nat)) (5 : Nat) (min m3 (5 : Nat)) (entE fun j => entR (entOf (entE y3) j))])))
                                                                                    (3 : Nat)) ≤
                                                                                (1000 : Nat) ∧
                                                                              ∀ (t : Nat),
                                                                                vals
                                                                                    (Prod.fst
                                                                                      (mergeQ
                                                                                        (lstOf
                                                                                          (selL
                                                                                            (chunks (1 : Nat) (3 : Nat)
                                                                                              [FV.fs (Nat.beq (min m1 (5 : Nat)) (0 : Nat)) (5 : Nat) (min m1 (5 : Nat)) (entE fun j => entR (entOf (entE y1) j)),
                                                                                                FV.fs (Nat.beq (min m2 (5 : Nat)) (0 : Nat)) (5 : Nat) (min m2 (5 : Nat)) (entE fun j => entR (entOf (entE y2) j)),
                                                                                                FV.fs (Nat.beq (min m3 (5 : Nat)) (0 : Nat)) (5 : Nat) (min m3 (5 : Nat)) (entE fun j => entR (entOf (entE y3) j))])))
                                                                                        (3 : Nat)))
                                                                                    (Prod.snd
                                                                                      (mergeQ
                                                                                        (lstOf
                                                                                          (selL
                                                                                            (chunks (1 : Nat) (3 : Nat)
                                                                                              [FV.fs (Nat.beq (min m1 (5 : Nat)) (0 : Nat)) (5 : Nat) (min m1 (5 : Nat)) (entE fun j => entR (entOf (entE y1) j)),
                                                                                                FV.fs (Nat.beq (min m2 (5 : Nat)) (0 : Nat)) (5 : Nat) (min m2 (5 : Nat)) (entE fun j => entR (entOf (entE y2) j)),
                                                                                                FV.fs (Nat.beq (min m3 (5 : Nat)) (0 : Nat)) (5 : Nat) (min m3 (5 : Nat)) (entE fun j => entR (entOf (entE y3) j))])))
                                                                                        (3 : Nat)))
                                                                                    t =
                                                                                  omax (omax (vals (min m1 (5 : Nat)) (fun j => entR (entOf (entE y1) j)) t) (vals (min m2 (5 : Nat)) (fun j => entR (entOf (entE y2) j)) t))
                                                                                    (vals (min m3 (5 : Nat)) (fun j => entR (entOf (entE y3) j)) t)))
                                                (T.ret
                                                  (out0
                                                    (SV.v
                                                      (AB
                                                        ((↑(Prod.fst
                                                                (mergeQ
                                                                  (lstOf
                                                                    (selL
                                                                      (chunks (1 : Nat) (3 : Nat)
                                                                        [FV.fs (Nat.beq (min m1 (5 : Nat)) (0 : Nat)) (5 : Nat) (min m1 (5 : Nat)) (entE fun j => entR (entOf (entE y1) j)),
                                                                          FV.fs (Nat.beq (min m2 (5 : Nat)) (0 : Nat)) (5 : Nat) (min m2 (5 : Nat)) (entE fun j => entR (entOf (entE y2) j)),
                                                                          FV.fs (Nat.beq (min m3 (5 : Nat)) (0 : Nat)) (5 : Nat) (min m3 (5 : Nat)) (entE fun j => entR (entOf (entE y3) j))])))
                                                                  (3 : Nat))) :
                                                            Int) ==
                                                          if (↑(min m3 (5 : Nat)) : Int) > if (↑(min m2 (5 : Nat)) : Int) > (↑(min m1 (5 : Nat)) : Int) then (↑(min m2 (5 : Nat)) : Int) else (↑(min m1 (5 : Nat)) : Int) then
                                                            (↑(min m3 (5 : Nat)) : Int)
                                                          else if (↑(min m2 (5 : Nat)) : Int) > (↑(min m1 (5 : Nat)) : Int) then (↑(min m2 (5 : Nat)) : Int) else (↑(min m1 (5 : Nat)) : Int))))))
                                                T.bad)
                                              T.bad))
                                          T.bad)
                                        T.bad))
                                    T.bad)
                                  T.bad))
                              T.bad)
                            T.bad)
                          T.bad))
                      T.bad)
                    T.bad)
                  T.bad))
              T.bad)
            T.bad)
          T.bad)
        T.bad)
      T.bad)
    T.bad := by kernel_rfl
theorem res_MJoins (c1 : Bool) (m1 : Nat) (y1 : Nat → Ent) (c2 : Bool) (m2 : Nat) (y2 : Nat → Ent) (c3 : Bool) (m3 : Nat) (y3 : Nat → Ent) (h : LnOk c1 m1 ∧ LnOk c2 m2 ∧ LnOk c3 m3) : (tgt_MJoins c1 m1 y1 c2 m2 y2 c3 m3 y3).res = some (out0 (.v (AB true))) := by
  refine T.over_eq _ (tree_MJoins c1 m1 y1 c2 m2 y2 c3 m3 y3) ?_
  simp only [T.res_br, T.res_ret, T.res_bad]
  obtain ⟨g1, g2, g3⟩ := h
  have k1 := Nat.le_trans (Nat.min_le_right m1 5) (by decide : 5 ≤ 1000)
  have k2 := Nat.le_trans (Nat.min_le_right m2 5) (by decide : 5 ≤ 1000)
  have k3 := Nat.le_trans (Nat.min_le_right m3 5) (by decide : 5 ≤ 1000)
  refine ite_tt (pb_true ⟨⟨entN _ y1, g1⟩, by decide, by decide⟩) (ite_tt (pb_true ⟨⟨entN _ y2, g2⟩, by decide, by decide⟩) (ite_tt (pb_true ⟨⟨entN _ y3, g3⟩, by decide, by decide⟩) ?_))
  simp only [entOf_entE, MQ0, MQ1, MQ2, MQ3, MQ5]
  generalize min m1 5 = N1 at k1 ⊢
  generalize min m2 5 = N2 at k2 ⊢
  generalize min m3 5 = N3 at k3 ⊢
  obtain ⟨A, hA⟩ : ∃ A, mergeL (fun j => entR (y3 j)) N3 (mergeL (fun j => entR (y2 j)) N2 (mergeL (fun j => entR (y1 j)) N1 acc0)) = A := ⟨_, rfl⟩
  simp only [hA]
  have hv : ∀ t, vals A.1 A.2 t = omax (omax (vals N1 (fun j => entR (y1 j)) t) (vals N2 (fun j => entR (y2 j)) t)) (vals N3 (fun j => entR (y3 j)) t) := fun t => by
    rw [← hA, vals_merge, vals_merge, vals2]
  have hN : A.1 = max (max N1 N2) N3 := by
    rw [← hA, mergeL_fst, mergeL_fst, mergeL_fst]
    show max (max (max 0 N1) N2) N3 = _
    omega
  have kA : A.1 ≤ 1000 := by omega
  have kM : ∀ x n (a : Acc), n ≤ 1000 → a.1 ≤ 1000 → (mergeL x n a).1 ≤ 1000 := fun x n a h1 h2 => by rw [mergeL_fst]; omega
  have k0 : acc0.1 ≤ 1000 := Nat.zero_le _
  have nt : ∀ b : Bool, b = true → (!b) = false := fun b h => by rw [h]; rfl
  refine ite_tt (pb_true (LL3 k1 k2 k3)) (ite_tt (pb_true (LL5 k3 k1 k2 k1 kA)) (ite_tt (pb_true ⟨entL_beq kA, entL_beq (by simp only [mergeL_fst]; show max (max (max (max (max 0 N3) N1) N2) N1) A.1 ≤ 1000; omega)⟩) (ite_ff (nt _ (same_of fun t => ?_)) ?_)))
  · simp only [vals_merge, vals_acc0, hv]
    simp only [omax_assoc, omax_comm, omax_left, omax_self, omax_self2, omax_none, none_omax]
  refine ite_tt (pb_true (LL2 k1 k2)) (ite_tt (pb_true (LL2 (kM _ _ _ k2 (kM _ _ _ k1 k0)) k3)) (ite_tt (pb_true ⟨entL_beq kA, entL_beq (kM _ _ _ k3 (kM _ _ _ (kM _ _ _ k2 (kM _ _ _ k1 k0)) k0))⟩) (ite_ff (nt _ (same_of fun t => ?_)) ?_)))
  · simp only [vals_merge, vals_acc0, hv]
    simp only [omax_assoc, omax_comm, omax_left, omax_self, omax_self2, omax_none, none_omax]
  refine ite_tt (pb_true (LL2 k2 k3)) (ite_tt (pb_true (LL2 k1 (kM _ _ _ k3 (kM _ _ _ k2 k0)))) (ite_tt (pb_true ⟨entL_beq kA, entL_beq (kM _ _ _ (kM _ _ _ k3 (kM _ _ _ k2 k0)) (kM _ _ _ k1 k0))⟩) (ite_ff (nt _ (same_of fun t => ?_)) ?_)))
  · simp only [vals_merge, vals_acc0, hv]
    simp only [omax_assoc, omax_comm, omax_left, omax_self, omax_self2, omax_none, none_omax]
  refine ite_tt (pb_true (LL1 k1)) (ite_tt (pb_true ⟨entL_beq k1, entL_beq (kM _ _ _ k1 k0)⟩) (ite_ff (nt _ (same_of fun t => ?_)) ?_))
  · simp only [vals_merge, vals_acc0, none_omax]
  refine ite_tt (pb_true (LL0 k1 k1)) (ite_tt (pb_true ⟨entL_beq k1, entL_beq (kM _ _ _ k1 (kM _ _ _ k1 k0))⟩) (ite_ff (nt _ (same_of fun t => ?_)) ?_))
  · simp only [vals_merge, vals_acc0]
    simp only [omax_assoc, omax_comm, omax_left, omax_self, omax_self2, omax_none, none_omax]
  refine ite_tt (pb_true (by simp)) (ite_tt (pb_true ⟨EntE_ok _, EntE_ok _, EntE_ok _, EntE_ok _, (by first | rfl | trivial), (by first | rfl | trivial), (by first | rfl | trivial), (by first | rfl | trivial), (by first | rfl | trivial), (by first | rfl | trivial), (by first | rfl | trivial), (by first | rfl | trivial), (by first | rfl | trivial), kA, hv⟩) ?_)
  refine congrArg (fun b => some (out0 (SV.v (AB b)))) ?_
  rw [hN]
  simp only [beq_iff_eq]
  repeat' split
  all_goals omega
end Go.Proofs.Ytdoehlinboiohaa.En
