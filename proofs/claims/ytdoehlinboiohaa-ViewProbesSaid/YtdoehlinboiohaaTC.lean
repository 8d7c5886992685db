/- Views: a table that is heard. -/
import Derived.Test.YtdoehlinboiohaaTB
namespace Go.Proofs.Ytdoehlinboiohaa.En
open Go
set_option linter.unusedVariables false
set_option linter.unusedSimpArgs false
set_option maxRecDepth 20000
set_option maxHeartbeats 1000000
structure HA where
  sp : Nat → Int
  tb : Nat → Ent
  rise : Int
instance : Inhabited HA := ⟨⟨fun _ => 0, fun _ => default, 0⟩⟩
def farB (n : Nat) (x : Nat → Ent) (i : Nat) (a : HA) : Bool := decide (n ≤ i) || (decide ((x i).inc ≥ 1099511627776) || (decide ((x i).stamp ≥ 1099511627776) || !(lessB (a.tb i) (x i))))
/-- one more entry that is heard -/
def hdA (n m : Nat) (now : Int) (x : Nat → Ent) (i : Nat) (a : HA) : HA :=
  bif farB n x i a then a else bif Nat.beq i m then ⟨a.sp, updT a.tb i ⟨IntKind.wrap .i64 ((x i).inc + 1), 0, (a.tb i).stamp, (a.tb i).load, (a.tb i).dr⟩, IntKind.wrap .i64 ((x i).inc + 1)⟩
  else ⟨updI (setB (x i) (a.tb i)) a.sp i now, updT a.tb i (x i), a.rise⟩
def S_hv (nl : Bool) (N : Nat) (x : Nat → Ent) (n m : Nat) (la pr si : Int) (now : Int) (i : Nat) (a : HA) : St :=
  ⟨[(0, .v (AP 0)), (25, .v (.one (.f (.fs nl 5 N (entE x))))), (26, .v (AI N)), (27, .v (AI i)), (1, .v (AI now)), (10, .v (AI a.rise))], hv n m la pr si a.sp a.tb, 3, false, 0, []⟩
def S_hr (nl : Bool) (N : Nat) (x : Nat → Ent) (n m : Nat) (la pr si : Int) (now : Int) (K : Nat) (i : Nat) (a : HA) : St :=
  ⟨[(0, .v (AP 0)), (4, .v (.one (.f (.fs nl 5 N (entE x))))), (12, .v (AI i)), (1, .v (AI now)), (11, .v (AI a.rise))], hr n m la pr si a.sp a.tb, 3, false, 0, []⟩

noncomputable def GTC1 : Ctx := GS.with ss_vtick ll_tk
noncomputable def tgt_hv (nl : Bool) (N : Nat) (x : Nat → Ent) (n m : Nat) (la pr si : Int) (now : Int) (i : Nat) (a : HA) : T (Ex × St) := evRound GTC1 300 27 Try.f27.ntmps (loopOf Try.f27 4) 3 [0, 25, 26, 27, 1, 10] [0, 10] (S_hv nl N x n m la pr si now i a)
theorem GKTC1 : KnownOk Try.prog GTC1 := KnownOk.lists ss_vtick_ok ll_tk_ok
theorem GOTC1 : CtxOk Try.prog GTC1 := GS_ok.with _ _
theorem tree_hv (nl : Bool) (N : Nat) (x : Nat → Ent) (n m : Nat) (la pr si : Int) (now : Int) (i : Nat) (a : HA) : (tgt_hv nl N x n m la pr si now i a).over (.br (.br (.br (.br (.tt .leaf) (.br (.tt .leaf) (.br (.tt .leaf) (.tt (.br (.tt (.br (.br .leaf (.br (.tt (.br (.tt (.br (.tt (.br (.tt (.br .leaf .skip)) .skip)) .skip)) .skip)) (.br .leaf .skip))) .skip)) .skip))))) .skip) .skip) .leaf) =
  T.br (decide ((↑i : Int) < (↑N : Int))) (T.br (!nl) (T.br (decide ((0 : Int) ≤ (↑i : Int) ∧ (↑i : Int) < (↑N : Int))) (T.br (decide ((↑i : Int) ≥ (↑n : Int))) (T.ret (Ex.normal, { sl := [((0 : Nat), SV.v (AP (0 : Nat))), ((25 : Nat), SV.v (AV.one (CV.f (FV.fs nl (5 : Nat) N fun a => [FV.lit (Value.int IntKind.i64 (Ent.inc (x a))), FV.lit (Value.int IntKind.i64 (Ent.st (x a))), FV.lit (Value.int IntKind.i64 (Ent.stamp (x a))), FV.lit (Value.int IntKind.i64 (Ent.load (x a))), FV.lit (Value.bool (Ent.dr (x a)))])))), ((26 : Nat), SV.v (AI (↑N : Int))), ((27 : Nat), SV.v (AI (IntKind.wrap IntKind.i64 ((↑i : Int) + (1 : Int))))), ((1 : Nat), SV.v (AI now)), ((10 : Nat), SV.v (AI (HA.rise a)))], H := [((0 : Nat), Ob.cells [I (↑m : Int), I la, I pr, I si, CV.sl false (1 : Nat) (1 : Nat) (0 : Nat) (0 : Nat) n n true (1 : Nat), CV.sl false (2 : Nat) (5 : Nat) (0 : Nat) (0 : Nat) n n true (5 : Nat)]), ((1 : Nat), Ob.arr true (1 : Nat) n fun a_1 => [FV.lit (Value.int IntKind.i64 (HA.sp a a_1))]), ((2 : Nat), Ob.arr true (5 : Nat) n fun a_1 => [FV.lit (Value.int IntKind.i64 (Ent.inc (HA.tb a a_1))), FV.lit (Value.int IntKind.i64 (Ent.st (HA.tb a a_1))), FV.lit (Value.int IntKind.i64 (Ent.stamp (HA.tb a a_1))), FV.lit (Value.int IntKind.i64 (Ent.load (HA.tb a a_1))), FV.lit (Value.bool (Ent.dr (HA.tb a a_1)))])], nx := (3 : Nat), esc := false, base := (0 : Nat), wr := [] : St })) (T.br (decide (Ent.inc (x i) ≥ (1099511627776 : Int))) (T.ret (Ex.normal, { sl := [((0 : Nat), SV.v (AP (0 : Nat))), ((25 : Nat), SV.v (AV.one (CV.f (FV.fs nl (5 : Nat) N fun a => [FV.lit (Value.int IntKind.i64 (Ent.inc (x a))), FV.lit (Value.int IntKind.i64 (Ent.st (x a))), FV.lit (Value.int IntKind.i64 (Ent.stamp (x a))), FV.lit (Value.int IntKind.i64 (Ent.load (x a))), FV.lit (Value.bool (Ent.dr (x a)))])))), ((26 : Nat), SV.v (AI (↑N : Int))), ((27 : Nat), SV.v (AI (IntKind.wrap IntKind.i64 ((↑i : Int) + (1 : Int))))), ((1 : Nat), SV.v (AI now)), ((10 : Nat), SV.v (AI (HA.rise a)))], H := [((0 : Nat), Ob.cells [I (↑m : Int), I la, I pr, I si, CV.sl false (1 : Nat) (1 : Nat) (0 : Nat) (0 : Nat) n n true (1 : Nat), CV.sl false (2 : Nat) (5 : Nat) (0 : Nat) (0 : Nat) n n true (5 : Nat)]), ((1 : Nat), Ob.arr true (1 : Nat) n fun a_1 => [FV.lit (Value.int IntKind.i64 (HA.sp a a_1))]), ((2 : Nat), Ob.arr true (5 : Nat) n fun a_1 => [FV.lit (Value.int IntKind.i64 (Ent.inc (HA.tb a a_1))), FV.lit (Value.int IntKind.i64 (Ent.st (HA.tb a a_1))), FV.lit (Value.int IntKind.i64 (Ent.stamp (HA.tb a a_1))), FV.lit (Value.int IntKind.i64 (Ent.load (HA.tb a a_1))), FV.lit (Value.bool (Ent.dr (HA.tb a a_1)))])], nx := (3 : Nat), esc := false, base := (0 : Nat), wr := [] : St })) (T.br (decide (Ent.stamp (x i) ≥ (1099511627776 : Int))) (T.ret (Ex.normal, { sl := [((0 : Nat), SV.v (AP (0 : Nat))), ((25 : Nat), SV.v (AV.one (CV.f (FV.fs nl (5 : Nat) N fun a => [FV.lit (Value.int IntKind.i64 (Ent.inc (x a))), FV.lit (Value.int IntKind.i64 (Ent.st (x a))), FV.lit (Value.int IntKind.i64 (Ent.stamp (x a))), FV.lit (Value.int IntKind.i64 (Ent.load (x a))), FV.lit (Value.bool (Ent.dr (x a)))])))), ((26 : Nat), SV.v (AI (↑N : Int))), ((27 : Nat), SV.v (AI (IntKind.wrap IntKind.i64 ((↑i : Int) + (1 : Int))))), ((1 : Nat), SV.v (AI now)), ((10 : Nat), SV.v (AI (HA.rise a)))], H := [((0 : Nat), Ob.cells [I (↑m : Int), I la, I pr, I si, CV.sl false (1 : Nat) (1 : Nat) (0 : Nat) (0 : Nat) n n true (1 : Nat), CV.sl false (2 : Nat) (5 : Nat) (0 : Nat) (0 : Nat) n n true (5 : Nat)]), ((1 : Nat), Ob.arr true (1 : Nat) n fun a_1 => [FV.lit (Value.int IntKind.i64 (HA.sp a a_1))]), ((2 : Nat), Ob.arr true (5 : Nat) n fun a_1 => [FV.lit (Value.int IntKind.i64 (Ent.inc (HA.tb a a_1))), FV.lit (Value.int IntKind.i64 (Ent.st (HA.tb a a_1))), FV.lit (Value.int IntKind.i64 (Ent.stamp (HA.tb a a_1))), FV.lit (Value.int IntKind.i64 (Ent.load (HA.tb a a_1))), FV.lit (Value.bool (Ent.dr (HA.tb a a_1)))])], nx := (3 : Nat), esc := false, base := (0 : Nat), wr := [] : St })) (T.br (decide ((0 : Int) ≤ (↑i : Int) ∧ (↑i : Int) < (↑n : Int))) (T.br (Nat.ble ((0 : Nat) + i + (1 : Nat)) n) (T.br (!lessB (HA.tb a ((0 : Nat) + i)) (x i)) (T.ret (Ex.normal, { sl := [((0 : Nat), SV.v (AP (0 : Nat))), ((25 : Nat), SV.v (AV.one (CV.f (FV.fs nl (5 : Nat) N fun a => [FV.lit (Value.int IntKind.i64 (Ent.inc (x a))), FV.lit (Value.int IntKind.i64 (Ent.st (x a))), FV.lit (Value.int IntKind.i64 (Ent.stamp (x a))), FV.lit (Value.int IntKind.i64 (Ent.load (x a))), FV.lit (Value.bool (Ent.dr (x a)))])))), ((26 : Nat), SV.v (AI (↑N : Int))), ((27 : Nat), SV.v (AI (IntKind.wrap IntKind.i64 ((↑i : Int) + (1 : Int))))), ((1 : Nat), SV.v (AI now)), ((10 : Nat), SV.v (AI (HA.rise a)))], H := [((0 : Nat), Ob.cells [I (↑m : Int), I la, I pr, I si, CV.sl false (1 : Nat) (1 : Nat) (0 : Nat) (0 : Nat) n n true (1 : Nat), CV.sl false (2 : Nat) (5 : Nat) (0 : Nat) (0 : Nat) n n true (5 : Nat)]), ((1 : Nat), Ob.arr true (1 : Nat) n fun a_1 => [FV.lit (Value.int IntKind.i64 (HA.sp a a_1))]), ((2 : Nat), Ob.arr true (5 : Nat) n fun a_1 => [FV.lit (Value.int IntKind.i64 (Ent.inc (HA.tb a a_1))), FV.lit (Value.int IntKind.i64 (Ent.st (HA.tb a a_1))), FV.lit (Value.int IntKind.i64 (Ent.stamp (HA.tb a a_1))), FV.lit (Value.int IntKind.i64 (Ent.load (HA.tb a a_1))), FV.lit (Value.bool (Ent.dr (HA.tb a a_1)))])], nx := (3 : Nat), esc := false, base := (0 : Nat), wr := [] : St })) (T.br ((↑i : Int) == (↑m : Int)) (T.br (decide ((0 : Int) ≤ (↑i : Int) ∧ (↑i : Int) < (↑n : Int))) (T.br (Nat.ble ((0 : Nat) + i + (1 : Nat)) n) (T.br (decide ((0 : Int) ≤ (↑i : Int) ∧ (↑i : Int) < (↑n : Int))) (T.br (Nat.ble ((0 : Nat) + i + (1 : Nat)) n) (T.ret (Ex.normal, { sl := [((0 : Nat), SV.v (AP (0 : Nat))), ((25 : Nat), SV.v (AV.one (CV.f (FV.fs nl (5 : Nat) N fun a => [FV.lit (Value.int IntKind.i64 (Ent.inc (x a))), FV.lit (Value.int IntKind.i64 (Ent.st (x a))), FV.lit (Value.int IntKind.i64 (Ent.stamp (x a))), FV.lit (Value.int IntKind.i64 (Ent.load (x a))), FV.lit (Value.bool (Ent.dr (x a)))])))), ((26 : Nat), SV.v (AI (↑N : Int))), ((27 : Nat), SV.v (AI (IntKind.wrap IntKind.i64 ((↑i : Int) + (1 : Int))))), ((1 : Nat), SV.v (AI now)), ((10 : Nat), SV.v (AI (IntKind.wrap IntKind.i64 (Ent.inc (x i) + (1 : Int)))))], H := [((0 : Nat), Ob.cells [I (↑m : Int), I la, I pr, I si, CV.sl false (1 : Nat) (1 : Nat) (0 : Nat) (0 : Nat) n n true (1 : Nat), CV.sl false (2 : Nat) (5 : Nat) (0 : Nat) (0 : Nat) n n true (5 : Nat)]), ((1 : Nat), Ob.arr true (1 : Nat) n fun a_1 => [FV.lit (Value.int IntKind.i64 (HA.sp a a_1))]), ((2 : Nat), Ob.arr true (5 : Nat) n fun i' => [FV.lit (Value.int IntKind.i64 (bif Nat.beq i' ((0 : Nat) + i) then bif Nat.beq i' ((0 : Nat) + i) then IntKind.wrap IntKind.i64 (Ent.inc (x i) + (1 : Int)) else Ent.inc (HA.tb a i') else bif Nat.beq i' ((0 : Nat) + i) then IntKind.wrap IntKind.i64 (Ent.inc (x i) + (1 : Int)) else Ent.inc (HA.tb a i'))), FV.lit (Value.int IntKind.i64 (bif Nat.beq i' ((0 : Nat) + i) then (0 : Int) else bif Nat.beq i' ((0 : Nat) + i) then Ent.st (HA.tb a i') else Ent.st (HA.tb a i'))), FV.lit (Value.int IntKind.i64 (bif Nat.beq i' ((0 : Nat) + i) then bif Nat.beq i' ((0 : Nat) + i) then Ent.stamp (HA.tb a i') else Ent.stamp (HA.tb a i') else bif Nat.beq i' ((0 : Nat) + i) then Ent.stamp (HA.tb a i') else Ent.stamp (HA.tb a i'))), FV.lit (Value.int IntKind.i64 (bif Nat.beq i' ((0 : Nat) + i) then bif Nat.beq i' ((0 : Nat) + i) then Ent.load (HA.tb a i') else Ent.load (HA.tb a i') else bif Nat.beq i' ((0 : Nat) + i) then Ent.load (HA.tb a i') else Ent.load (HA.tb a i'))), FV.lit (Value.bool (bif Nat.beq i' ((0 : Nat) + i) then bif Nat.beq i' ((0 : Nat) + i) then Ent.dr (HA.tb a i') else Ent.dr (HA.tb a i') else bif Nat.beq i' ((0 : Nat) + i) then Ent.dr (HA.tb a i') else Ent.dr (HA.tb a i')))])], nx := (3 : Nat), esc := false, base := (0 : Nat), wr := [] : St })) T.bad) T.bad) T.bad) T.bad) (T.br (pb (VPre n n n n n n (intE (HA.sp a)) (entE (HA.tb a)) ∧ (0 : Int) ≤ (↑i : Int) ∧ (↑i : Int) < (↑n : Int))) (T.ret (Ex.normal, { sl := [((0 : Nat), SV.v (AP (0 : Nat))), ((25 : Nat), SV.v (AV.one (CV.f (FV.fs nl (5 : Nat) N fun a => [FV.lit (Value.int IntKind.i64 (Ent.inc (x a))), FV.lit (Value.int IntKind.i64 (Ent.st (x a))), FV.lit (Value.int IntKind.i64 (Ent.stamp (x a))), FV.lit (Value.int IntKind.i64 (Ent.load (x a))), FV.lit (Value.bool (Ent.dr (x a)))])))), ((26 : Nat), SV.v (AI (↑N : Int))), ((27 : Nat), SV.v (AI (IntKind.wrap IntKind.i64 ((↑i : Int) + (1 : Int))))), ((1 : Nat), SV.v (AI now)), ((10 : Nat), SV.v (AI (HA.rise a)))], H := [((0 : Nat), Ob.cells [I (↑m : Int), I la, I pr, I si, CV.sl false (1 : Nat) (1 : Nat) (0 : Nat) (0 : Nat) n n true (1 : Nat), CV.sl false (2 : Nat) (5 : Nat) (0 : Nat) (0 : Nat) n n true (5 : Nat)]), ((1 : Nat), Ob.arr true (1 : Nat) n fun a_1 => [FV.lit (Value.int IntKind.i64 (updI (setB (x i) (entOf (entE (HA.tb a)) i)) (HA.sp a) i now a_1))]), ((2 : Nat), Ob.arr true (5 : Nat) n fun a_1 => [FV.lit (Value.int IntKind.i64 (Ent.inc (updT (HA.tb a) i (x i) a_1))), FV.lit (Value.int IntKind.i64 (Ent.st (updT (HA.tb a) i (x i) a_1))), FV.lit (Value.int IntKind.i64 (Ent.stamp (updT (HA.tb a) i (x i) a_1))), FV.lit (Value.int IntKind.i64 (Ent.load (updT (HA.tb a) i (x i) a_1))), FV.lit (Value.bool (Ent.dr (updT (HA.tb a) i (x i) a_1)))])], nx := (3 : Nat), esc := false, base := (0 : Nat), wr := [] : St })) T.bad))) T.bad) T.bad)))) T.bad) T.bad) (T.ret (Ex.exit (0 : Nat), { sl := [((0 : Nat), SV.v (AP (0 : Nat))), ((10 : Nat), SV.v (AI (HA.rise a)))], H := [((0 : Nat), Ob.cells [I (↑m : Int), I la, I pr, I si, CV.sl false (1 : Nat) (1 : Nat) (0 : Nat) (0 : Nat) n n true (1 : Nat), CV.sl false (2 : Nat) (5 : Nat) (0 : Nat) (0 : Nat) n n true (5 : Nat)]), ((1 : Nat), Ob.arr true (1 : Nat) n fun a_1 => [FV.lit (Value.int IntKind.i64 (HA.sp a a_1))]), ((2 : Nat), Ob.arr true (5 : Nat) n fun a_1 => [FV.lit (Value.int IntKind.i64 (Ent.inc (HA.tb a a_1))), FV.lit (Value.int IntKind.i64 (Ent.st (HA.tb a a_1))), FV.lit (Value.int IntKind.i64 (Ent.stamp (HA.tb a a_1))), FV.lit (Value.int IntKind.i64 (Ent.load (HA.tb a a_1))), FV.lit (Value.bool (Ent.dr (HA.tb a a_1)))])], nx := (3 : Nat), esc := false, base := (0 : Nat), wr := [] : St })) := by kernel_rfl
theorem round_hv (nl : Bool) (N : Nat) (x : Nat → Ent) (n m : Nat) (la pr si : Int) (now : Int) (hn : n ≤ 5) (hb : (N : Int) ≤ 9223372036854775807) (hnl : nl = true → N = 0) (i : Nat) (a : HA) (hi : i < N) (hI : (fun (i : Nat) (a : HA) => (True : Prop)) i a) : ∃ s, (tgt_hv nl N x n m la pr si now i a).res = some (.normal, s) ∧ StLe 3 s (S_hv nl N x n m la pr si now (i + 1) ((fun (i : Nat) (a : HA) => (hdA n m now x i a)) i a)) ∧ (fun (i : Nat) (a : HA) => (True : Prop)) (i + 1) ((fun (i : Nat) (a : HA) => (hdA n m now x i a)) i a) := by
  refine T.over_exP (g := fun s => (Ex.normal, s)) (tree_hv nl N x n m la pr si now i a) ?_
  have e1 : ((i : Int) < (N : Int)) := by omega
  have e2 : (0 : Int) ≤ (i : Int) ∧ (i : Int) < (N : Int) := by omega
  have e3 : IntKind.wrap .i64 ((i : Int) + 1) = ((i + 1 : Nat) : Int) := by rw [wrapI (by omega)]; rfl
  have e0 : nl = false := by
    cases hnle : nl
    · rfl
    · have := hnl hnle; omega
  subst e0
  by_cases hni : n ≤ i
  · have c3 : decide ((i : Int) ≥ (n : Int)) = true := decide_eq_true (by omega)
    have hF : farB n x i a = true := by simp [farB, hni]
    simp only [T.res_br, T.res_ret, T.res_bad, decide_eq_true e1, decide_eq_true e2, e3, Bool.not_false, Nat.zero_add, c3, hdA, hF, cond_true, reduceIte]
    exact ⟨_, rfl, StLe.less (Nat.le_refl 3) (fun t => .inr (.inl rfl)) (fun b => .inl rfl), trivial⟩
  · have c3 : decide ((i : Int) ≥ (n : Int)) = false := decide_eq_false (by omega)
    have e4 : Nat.ble (i + 1) n = true := ble_tt (by omega)
    have e5 : (0 : Int) ≤ (i : Int) ∧ (i : Int) < (n : Int) := by omega
    have hF : farB n x i a = (decide ((x i).inc ≥ 1099511627776) || (decide ((x i).stamp ≥ 1099511627776) || !(lessB (a.tb i) (x i)))) := by
      simp only [farB, decide_eq_false (show ¬ n ≤ i by omega), Bool.false_or]
    simp only [T.res_br, T.res_ret, T.res_bad, decide_eq_true e1, decide_eq_true e2, c3, e3, Bool.not_false, Nat.zero_add, decide_eq_true e5, e4, Bool.false_eq_true, reduceIte]
    cases g1 : decide ((x i).inc ≥ 1099511627776) <;> cases g2 : decide ((x i).stamp ≥ 1099511627776) <;> cases g3 : lessB (a.tb i) (x i) <;> rw [g1, g2, g3] at hF <;>
      simp only [Bool.or_true, Bool.or_false, Bool.not_true, Bool.not_false, Bool.true_or, Bool.false_or] at hF <;> simp only [hdA, hF, cond_true, cond_false, Bool.not_true, Bool.not_false, Bool.false_eq_true, reduceIte]
    all_goals first
      | exact ⟨_, rfl, StLe.less (Nat.le_refl 3) (fun t => .inr (.inl rfl)) (fun b => .inl rfl), hI⟩
      | skip
    by_cases hm : i = m
    · have c9 : ((i : Int) == (m : Int)) = true := by simp [hm]
      have c10 : Nat.beq i m = true := by rw [hm]; exact Nat.beq_refl m
      simp only [c9, c10, cond_true, reduceIte]
      refine ⟨_, rfl, StLe.less (Nat.le_refl 3) (fun t => .inr (.inl rfl)) (fun b => ?_), trivial⟩
      rcases b with _ | _ | _ | b
      · exact .inl rfl
      · exact .inl rfl
      · refine .arr fun j hj => ?_
        by_cases h1 : j = i
        · subst h1
          simp only [Nat.beq_refl, cond_true, updT, entE, Ent.fs]
        · simp only [beq_ff h1, cond_false, updT, entE, Ent.fs]
      · exact .inl rfl
    · have c9 : ((i : Int) == (m : Int)) = false := by simp; omega
      have c10 : Nat.beq i m = false := beq_ff hm
      simp only [c9, c10, cond_false, Bool.false_eq_true, reduceIte]
      refine ⟨_, if_pos (pb_true ⟨VPre_ok n a.sp a.tb, e5⟩), StLe.less (Nat.le_refl 3) (fun t => .inr (.inl rfl)) (fun b => .inl rfl), trivial⟩
theorem end_hv (nl : Bool) (N : Nat) (x : Nat → Ent) (n m : Nat) (la pr si : Int) (now : Int) (hn : n ≤ 5) (hb : (N : Int) ≤ 9223372036854775807) (hnl : nl = true → N = 0) (a : HA) (hI : (fun (i : Nat) (a : HA) => (True : Prop)) (N) a) : ∃ s, (tgt_hv nl N x n m la pr si now (N) a).res = some (.exit 0, s) ∧ StLe 3 s (⟨[(0, .v (AP 0)), (10, .v (AI a.rise))], hv n m la pr si a.sp a.tb, 3, false, 0, []⟩) := by
  refine T.over_exP (g := fun s => (.exit 0, s)) (tree_hv nl N x n m la pr si now (N) a) ?_
  simp only [T.res_br, T.res_ret, T.res_bad, decide_eq_true_eq, Int.lt_irrefl, reduceIte]
  exact ⟨_, rfl, StLe.refl (Nat.le_refl 3)⟩
theorem loop_hv (nl : Bool) (N : Nat) (x : Nat → Ent) (n m : Nat) (la pr si : Int) (now : Int) (hn : n ≤ 5) (hb : (N : Int) ≤ 9223372036854775807) (hnl : nl = true → N = 0) (i : Nat) (a : HA) (hi : i ≤ N) (hI : (fun (i : Nat) (a : HA) => (True : Prop)) i a) {st0 : St} (h0 : StLe 3 st0 (S_hv nl N x n m la pr si now i a)) (hnx : st0.nx = 3) :
    CodeOk Try.prog Try.f27.ntmps (.loop (loopOf Try.f27 4)) st0 (.exit 0) ((fun (a : HA) => ⟨[(0, .v (AP 0)), (10, .v (AI a.rise))], hv n m la pr si a.sp a.tb, 3, false, 0, []⟩) (foldF (fun (i : Nat) (a : HA) => (hdA n m now x i a)) (N - i) i a)) := by
  have := for_loop GOTC1 GKTC1 (K := 300) (F := 27) (N := Try.f27.ntmps) (c := loopOf Try.f27 4) (m := 3) (live := [0, 25, 26, 27, 1, 10]) (after := [0, 10]) (S_hv nl N x n m la pr si now) (N) (fun (i : Nat) (a : HA) => .inl (hdA n m now x i a)) (fun (a : HA) => (.exit 0, ⟨[(0, .v (AP 0)), (10, .v (AI a.rise))], hv n m la pr si a.sp a.tb, 3, false, 0, []⟩)) (fun (i : Nat) (a : HA) => (True : Prop))
    (fun i a hi hI => by obtain ⟨s, h1, h2, h3⟩ := round_hv nl N x n m la pr si now hn hb hnl i a hi hI; exact ⟨_, s, h1, rfl, h2, h3⟩)
    (fun a hI => by obtain ⟨s, h1, h2⟩ := end_hv nl N x n m la pr si now hn hb hnl a hI; exact ⟨_, s, h1, by simp, rfl, h2⟩)
    (fun i a => by first | exact Nat.le_refl _ | (show 3 ≤ _; decide) | (simp only [S_hv]; omega)) hi hI h0 hnx
  rw [foldX_inl] at this
  exact this
theorem foldF_stay {α : Type} (f : Nat → α → α) (k : Nat) (a : α) (h : ∀ i, k ≤ i → f i a = a) : ∀ (c i : Nat), k ≤ i → foldF f c i a = a
  | 0, _, _ => rfl
  | c + 1, i, hi => by
    show foldF f c (i + 1) (f i a) = a
    rw [h i hi]
    exact foldF_stay f k a h c (i + 1) (by omega)
theorem hd_cut (n m : Nat) (now : Int) (x : Nat → Ent) (N : Nat) (a : HA) : foldF (hdA n m now x) N 0 a = foldF (hdA n m now x) (min N n) 0 a := by
  by_cases h : N ≤ n
  · rw [Nat.min_eq_left h]
  · rw [Nat.min_eq_right (by omega)]
    obtain ⟨d, rfl⟩ : ∃ d, N = n + d := ⟨N - n, by omega⟩
    rw [foldF_add]
    refine foldF_stay _ n _ (fun i hi => ?_) d (0 + n) (by omega)
    have hF : farB n x i (foldF (hdA n m now x) n 0 a) = true := by simp [farB, hi]
    simp only [hdA, hF, cond_true]
def hdPr (pr fr : Int) (ack : Bool) : Int := bif ack && decide (fr = pr) then -1 else pr
def hdR (n m : Nat) (v : V) (now : Int) (x : Nat → Ent) (N : Nat) : HA := foldF (hdA n m now x) N 0 ⟨v.sp, v.tb, 0⟩
def heard1 (n m : Nat) (v : V) (now fr : Int) (ack : Bool) (x : Nat → Ent) (N : Nat) : V := ⟨v.la, hdPr v.pr fr ack, v.si, (hdR n m v now x N).sp, (hdR n m v now x N).tb⟩

noncomputable def L_hv : LoopF := mkLoopF [0, 25, 26, 27, 1, 10] (loopOf Try.f27 4) Try.f27.ntmps fun sl H nx => match sl, H, nx with
  | [(0, .v (.one (.ptr 0 0 0 0))), (25, .v (.one (.f (.fs nl 5 N ex)))), (26, .v (.one (.f (.lit (.int .i64 k))))), (27, .v (.one (.f (.lit (.int .i64 i))))), (1, .v (.one (.f (.lit (.int .i64 now))))), (10, .v (.one (.f (.lit (.int .i64 rs)))))], [(0, .cells [.f (.lit (.int .i64 me)), .f (.lit (.int .i64 la)), .f (.lit (.int .i64 pr)), .f (.lit (.int .i64 si)), .sl false 1 1 0 0 n c1 true 1, .sl false 2 5 0 0 n2 c2 true 5]), (1, .arr true 1 N1 e1), (2, .arr true 5 N2 e2)], 3 => .need (pb (VPre n c1 n2 c2 N1 N2 e1 e2 ∧ n ≤ 5 ∧ 0 ≤ me ∧ EntE ex ∧ LnOk nl N ∧ k = N ∧ i = 0)) (.ret (.exit 0, (St.mk [(0, .v (AP 0)), (10, .v (AI (foldF (hdA n me.toNat now (entOf ex)) N 0 ⟨intOf e1, entOf e2, rs⟩).rise))] (hv n me la pr si (foldF (hdA n me.toNat now (entOf ex)) N 0 ⟨intOf e1, entOf e2, rs⟩).sp (foldF (hdA n me.toNat now (entOf ex)) N 0 ⟨intOf e1, entOf e2, rs⟩).tb) 3 false 0 []).sl, (St.mk [(0, .v (AP 0)), (10, .v (AI (foldF (hdA n me.toNat now (entOf ex)) N 0 ⟨intOf e1, entOf e2, rs⟩).rise))] (hv n me la pr si (foldF (hdA n me.toNat now (entOf ex)) N 0 ⟨intOf e1, entOf e2, rs⟩).sp (foldF (hdA n me.toNat now (entOf ex)) N 0 ⟨intOf e1, entOf e2, rs⟩).tb) 3 false 0 []).H, 3, false))
  | _, _, _ => .bad
theorem L_hv_ok : LoopOk Try.prog L_hv := by
  refine mkLoopF_ok fun sl H nx e sl' H' nx' esc' h => ?_
  split at h
  · rename_i nl N ex k i now rs me la pr si n c1 n2 c2 N1 e1 N2 e2
    obtain ⟨hp, hret⟩ := T.need_some h
    have hp := pb_of hp
    have := T.ret_some hret
    simp only [Prod.mk.injEq] at this
    obtain ⟨rfl, rfl, rfl, rfl, rfl⟩ := this
    clear hret h
    obtain ⟨⟨rfl, rfl, rfl, rfl, rfl, ⟨su, rfl⟩, ⟨t, rfl⟩⟩, hn, hm, ⟨x, rfl⟩, hl, rfl, rfl⟩ := hp
    obtain ⟨m, rfl⟩ : ∃ m : Nat, me = m := ⟨me.toNat, by omega⟩
    exact loop_hv nl N x n m la pr si now hn hl.1 hl.2 0 ⟨su, t, rs⟩ (Nat.zero_le _) trivial (StLe.refl (Nat.le_refl 3)) rfl
  · exact (T.bad_some h).elim
noncomputable def ll_hv : List (Nat × Nat × LoopF) := (27, 4, L_hv) :: ll_tk
theorem ll_hv_ok : ∀ x ∈ ll_hv, LoopOk Try.prog x.2.2 := List.forall_mem_cons.2 ⟨L_hv_ok, ll_tk_ok⟩
noncomputable def GTC2 : Ctx := GS.with ss_vtick ll_hv
noncomputable def tgt_vheard (n m : Nat) (la pr si : Int) (su : Nat → Int) (t : Nat → Ent) (now fr : Int) (ack : Bool) (nl : Bool) (N : Nat) (x : Nat → Ent) : T CallOut := evCallW [0, 1, 2] GTC2 300 27 [AP 0, AI now, AI fr, AB ack, .one (.f (.fs nl 5 N (entE x)))] (hv n m la pr si su t) 3
theorem GKTC2 : KnownOk Try.prog GTC2 := KnownOk.lists ss_vtick_ok ll_hv_ok
theorem GOTC2 : CtxOk Try.prog GTC2 := GS_ok.with _ _
theorem tree_vheard (n m : Nat) (la pr si : Int) (su : Nat → Int) (t : Nat → Ent) (now fr : Int) (ack : Bool) (nl : Bool) (N : Nat) (x : Nat → Ent) : (tgt_vheard n m la pr si su t now fr ack nl N x).over (.br (.tt (.tt (.tt (.tt (.tt (.tt (.br (.br (.br .leaf .skip) .skip) (.br (.br .leaf .skip) .skip)))))))) (.ff (.ff (.ff (.ff (.ff (.ff (.ff (.br (.br .leaf .skip) .skip))))))))) =
  T.br ack (T.br (fr == pr) (T.br (pb (loopOf Proofs.Try.f27 (4 : Nat) = loopOf Proofs.Try.f27 (4 : Nat) ∧ (90 : Nat) = (90 : Nat))) (T.br (pb (VPre n n n n n n (intE su) (entE t) ∧ n ≤ (5 : Nat) ∧ (0 : Int) ≤ (↑m : Int) ∧ EntE (entE x) ∧ LnOk nl N ∧ (↑N : Int) = (↑N : Int) ∧ (0 : Int) = (0 : Int))) (T.ret { v := SV.v (AI (HA.rise (foldF (hdA n m now x) N (0 : Nat) { sp := su, tb := t, rise := (0 : Int) : HA }))), H := [((0 : Nat), Ob.cells [I (↑m : Int), I la, I (-1 : Int), I si, CV.sl false (1 : Nat) (1 : Nat) (0 : Nat) (0 : Nat) n n true (1 : Nat), CV.sl false (2 : Nat) (5 : Nat) (0 : Nat) (0 : Nat) n n true (5 : Nat)]), ((1 : Nat), Ob.arr true (1 : Nat) n fun a => [FV.lit (Value.int IntKind.i64 (HA.sp (foldF (hdA n m now x) N (0 : Nat) { sp := su, tb := t, rise := (0 : Int) : HA }) a))]), ((2 : Nat), Ob.arr true (5 : Nat) n fun a => [FV.lit (Value.int IntKind.i64 (Ent.inc (HA.tb (foldF (hdA n m now x) N (0 : Nat) { sp := su, tb := t, rise := (0 : Int) : HA }) a))), FV.lit (Value.int IntKind.i64 (Ent.st (HA.tb (foldF (hdA n m now x) N (0 : Nat) { sp := su, tb := t, rise := (0 : Int) : HA }) a))), FV.lit (Value.int IntKind.i64 (Ent.stamp (HA.tb (foldF (hdA n m now x) N (0 : Nat) { sp := su, tb := t, rise := (0 : Int) : HA }) a))), FV.lit (Value.int IntKind.i64 (Ent.load (HA.tb (foldF (hdA n m now x) N (0 : Nat) { sp := su, tb := t, rise := (0 : Int) : HA }) a))), FV.lit (Value.bool (Ent.dr (HA.tb (foldF (hdA n m now x) N (0 : Nat) { sp := su, tb := t, rise := (0 : Int) : HA }) a)))])], nx := (3 : Nat), esc := false, wr := [(0 : Nat), (1 : Nat), (2 : Nat)] : CallOut }) T.bad) T.bad) (T.br (pb (loopOf Proofs.Try.f27 (4 : Nat) = loopOf Proofs.Try.f27 (4 : Nat) ∧ (90 : Nat) = (90 : Nat))) (T.br (pb (VPre n n n n n n (intE su) (entE t) ∧ n ≤ (5 : Nat) ∧ (0 : Int) ≤ (↑m : Int) ∧ EntE (entE x) ∧ LnOk nl N ∧ (↑N : Int) = (↑N : Int) ∧ (0 : Int) = (0 : Int))) (T.ret { v := SV.v (AI (HA.rise (foldF (hdA n m now x) N (0 : Nat) { sp := su, tb := t, rise := (0 : Int) : HA }))), H := [((0 : Nat), Ob.cells [I (↑m : Int), I la, I pr, I si, CV.sl false (1 : Nat) (1 : Nat) (0 : Nat) (0 : Nat) n n true (1 : Nat), CV.sl false (2 : Nat) (5 : Nat) (0 : Nat) (0 : Nat) n n true (5 : Nat)]), ((1 : Nat), Ob.arr true (1 : Nat) n fun a => [FV.lit (Value.int IntKind.i64 (HA.sp (foldF (hdA n m now x) N (0 : Nat) { sp := su, tb := t, rise := (0 : Int) : HA }) a))]), ((2 : Nat), Ob.arr true (5 : Nat) n fun a => [FV.lit (Value.int IntKind.i64 (Ent.inc (HA.tb (foldF (hdA n m now x) N (0 : Nat) { sp := su, tb := t, rise := (0 : Int) : HA }) a))), FV.lit (Value.int IntKind.i64 (Ent.st (HA.tb (foldF (hdA n m now x) N (0 : Nat) { sp := su, tb := t, rise := (0 : Int) : HA }) a))), FV.lit (Value.int IntKind.i64 (Ent.stamp (HA.tb (foldF (hdA n m now x) N (0 : Nat) { sp := su, tb := t, rise := (0 : Int) : HA }) a))), FV.lit (Value.int IntKind.i64 (Ent.load (HA.tb (foldF (hdA n m now x) N (0 : Nat) { sp := su, tb := t, rise := (0 : Int) : HA }) a))), FV.lit (Value.bool (Ent.dr (HA.tb (foldF (hdA n m now x) N (0 : Nat) { sp := su, tb := t, rise := (0 : Int) : HA }) a)))])], nx := (3 : Nat), esc := false, wr := [(0 : Nat), (1 : Nat), (2 : Nat)] : CallOut }) T.bad) T.bad)) (T.br (pb (loopOf Proofs.Try.f27 (4 : Nat) = loopOf Proofs.Try.f27 (4 : Nat) ∧ (90 : Nat) = (90 : Nat))) (T.br (pb (VPre n n n n n n (intE su) (entE t) ∧ n ≤ (5 : Nat) ∧ (0 : Int) ≤ (↑m : Int) ∧ EntE (entE x) ∧ LnOk nl N ∧ (↑N : Int) = (↑N : Int) ∧ (0 : Int) = (0 : Int))) (T.ret { v := SV.v (AI (HA.rise (foldF (hdA n m now x) N (0 : Nat) { sp := su, tb := t, rise := (0 : Int) : HA }))), H := [((0 : Nat), Ob.cells [I (↑m : Int), I la, I pr, I si, CV.sl false (1 : Nat) (1 : Nat) (0 : Nat) (0 : Nat) n n true (1 : Nat), CV.sl false (2 : Nat) (5 : Nat) (0 : Nat) (0 : Nat) n n true (5 : Nat)]), ((1 : Nat), Ob.arr true (1 : Nat) n fun a => [FV.lit (Value.int IntKind.i64 (HA.sp (foldF (hdA n m now x) N (0 : Nat) { sp := su, tb := t, rise := (0 : Int) : HA }) a))]), ((2 : Nat), Ob.arr true (5 : Nat) n fun a => [FV.lit (Value.int IntKind.i64 (Ent.inc (HA.tb (foldF (hdA n m now x) N (0 : Nat) { sp := su, tb := t, rise := (0 : Int) : HA }) a))), FV.lit (Value.int IntKind.i64 (Ent.st (HA.tb (foldF (hdA n m now x) N (0 : Nat) { sp := su, tb := t, rise := (0 : Int) : HA }) a))), FV.lit (Value.int IntKind.i64 (Ent.stamp (HA.tb (foldF (hdA n m now x) N (0 : Nat) { sp := su, tb := t, rise := (0 : Int) : HA }) a))), FV.lit (Value.int IntKind.i64 (Ent.load (HA.tb (foldF (hdA n m now x) N (0 : Nat) { sp := su, tb := t, rise := (0 : Int) : HA }) a))), FV.lit (Value.bool (Ent.dr (HA.tb (foldF (hdA n m now x) N (0 : Nat) { sp := su, tb := t, rise := (0 : Int) : HA }) a)))])], nx := (3 : Nat), esc := false, wr := [(0 : Nat), (1 : Nat), (2 : Nat)] : CallOut }) T.bad) T.bad) := by kernel_rfl
theorem res_vheard (n m : Nat) (la pr si : Int) (su : Nat → Int) (t : Nat → Ent) (now fr : Int) (ack : Bool) (nl : Bool) (N : Nat) (x : Nat → Ent) (h : n ≤ 5 ∧ LnOk nl N) : (tgt_vheard n m la pr si su t now fr ack nl N x).res = some (⟨.v (AI (hdR n m ⟨la, pr, si, su, t⟩ now x N).rise), hv n m la (hdPr pr fr ack) si (hdR n m ⟨la, pr, si, su, t⟩ now x N).sp (hdR n m ⟨la, pr, si, su, t⟩ now x N).tb, 3, false, [0, 1, 2]⟩) := by
  refine T.over_eq _ (tree_vheard n m la pr si su t now fr ack nl N x) ?_
  simp only [T.res_br, T.res_ret, T.res_bad]
  obtain ⟨hn, hl⟩ := h
  have he : EntE (entE x) := ⟨x, rfl⟩
  cases hA : ack
  · refine ite_ff (by simp) ?_
    exact ite_tt (pb_true (by simp)) (ite_tt (pb_true (by simp [VPre_ok, IntE_ok, hn, he, hl])) rfl)
  · refine ite_tt rfl ?_
    by_cases hq : fr = pr
    · subst hq
      have hP : hdPr fr fr true = -1 := by simp [hdPr]
      rw [hP]
      refine ite_tt (by simp) ?_
      exact ite_tt (pb_true (by simp)) (ite_tt (pb_true (by simp [VPre_ok, IntE_ok, hn, he, hl])) rfl)
    · have hP : hdPr pr fr true = pr := by simp [hdPr, hq]
      rw [hP]
      refine ite_ff (by simp [hq]) ?_
      exact ite_tt (pb_true (by simp)) (ite_tt (pb_true (by simp [VPre_ok, IntE_ok, hn, he, hl])) rfl)
noncomputable def F_vheard : SumF
  | [.one (.ptr 0 0 0 0), .one (.f (.lit (.int .i64 now))), .one (.f (.lit (.int .i64 fr))), .one (.f (.lit (.bool ack))), .one (.f (.fs nl 5 N ex))], [(0, .cells [.f (.lit (.int .i64 me)), .f (.lit (.int .i64 la)), .f (.lit (.int .i64 pr)), .f (.lit (.int .i64 si)), .sl false 1 1 0 0 n c1 true 1, .sl false 2 5 0 0 n2 c2 true 5]), (1, .arr true 1 N1 e1), (2, .arr true 5 N2 e2)], 3 => .need (pb (VPre n c1 n2 c2 N1 N2 e1 e2 ∧ 0 ≤ me ∧ n ≤ 5 ∧ EntL nl N ex)) (.ret (⟨.v (AI (hdR n me.toNat ⟨la, pr, si, (intOf e1), (entOf e2)⟩ now (entOf ex) N).rise), hv n me la (hdPr pr fr ack) si (hdR n me.toNat ⟨la, pr, si, (intOf e1), (entOf e2)⟩ now (entOf ex) N).sp (hdR n me.toNat ⟨la, pr, si, (intOf e1), (entOf e2)⟩ now (entOf ex) N).tb, 3, false, [0, 1, 2]⟩))
  | _, _, _ => .bad
theorem sum_vheard : SumOk Try.prog 27 F_vheard := by
  refine ⟨fun args H nx r hr => ?_, fun args H nx => ?_⟩
  · unfold F_vheard at hr
    split at hr
    · rename_i now fr ack nl N ex me la pr si n c1 n2 c2 N1 e1 N2 e2
      obtain ⟨h0, hr⟩ := T.need_some hr
      have := T.ret_some hr
      subst this
      have h := pb_of h0
      obtain ⟨⟨rfl, rfl, rfl, rfl, rfl, ⟨su, rfl⟩, ⟨t, rfl⟩⟩, h⟩ := h
      exact by
        obtain ⟨m, rfl⟩ : ∃ m : Nat, me = m := ⟨me.toNat, by omega⟩
        obtain ⟨hm, hn, ⟨he, hl⟩⟩ := h
        exact (evCallW_ok GOTC2 GKTC2 (res_vheard n m la pr si su t now fr ack nl N (entOf ex) ⟨hn, hl⟩)).args (.cons (.refl _) (.cons (.refl _) (.cons (.refl _) (.cons (.refl _) (.cons (CV.le.f (FV.le_fs he)) (.refl _))))))
    · exact (T.bad_some hr).elim
  · unfold F_vheard
    split
    · exact T.Every.need ⟨by first | exact Nat.le_refl _ | (dsimp only; omega), fun b hb hw => by
        have : b = 0 ∨ b = 1 ∨ b = 2 := by omega
        rcases this with rfl | rfl | rfl <;> first | rfl | exact absurd (by dsimp only; decide) hw⟩
    · trivial
noncomputable def sm_vheard : SumF := orSum (nilSum 5 ((entE fun _ => default)) (canonSum F_vheard)) (lendSum (nilSum 5 ((entE fun _ => default)) (canonSum F_vheard)))
theorem sm_vheard_ok : SumOk Try.prog 27 sm_vheard := orSum_ok (nilSum_ok (canonSum_ok sum_vheard)) (lendSum_ok (nilSum_ok (canonSum_ok sum_vheard)))
noncomputable def ss_vheard : List (Nat × SumF) := (27, sm_vheard) :: ss_vtick
theorem ss_vheard_ok : ∀ x ∈ ss_vheard, SumOk Try.prog x.1 x.2 := List.forall_mem_cons.2 ⟨sm_vheard_ok, ss_vtick_ok⟩
end Go.Proofs.Ytdoehlinboiohaa.En
