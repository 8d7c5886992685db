/- Texts put together: RI, RJ, RK. -/
import Derived.Test.YtbobakclbdaepaaGreatG18
/- Targets: the loop that takes who may be given to. -/
namespace Go.Proofs.YtbobakclbdaepaaGreat.En
open Go
set_option linter.unusedVariables false
set_option linter.unusedSimpArgs false
set_option maxRecDepth 20000
set_option maxHeartbeats 1000000
def S_tg (nl : Bool) (n : Nat) (x : Nat → Ent) (me : Int) (i : Nat) (a : Nat × (Nat → Int)) : St :=
  ⟨[(0, .v (AI me)), (3, .v (AP 0)), (5, .v (.one (.sl (Nat.beq a.1 0) 1 1 0 0 a.1 a.1 false 1))), (16, .v (.one (.f (.fs nl 5 n (entE x))))), (17, .v (AI n)), (18, .v (AI i))], [(0, .cells [.f (.fs nl 5 n (entE x))]), (1, .arr (!(Nat.beq a.1 0)) 1 a.1 (intE a.2))], 2, false, 0, []⟩

noncomputable def GRI1 : Ctx := GS.with ss_Compare ll0
noncomputable def tgt_tg (nl : Bool) (n : Nat) (x : Nat → Ent) (me : Int) (i : Nat) (a : Nat × (Nat → Int)) : T (Ex × St) := evRound GRI1 300 75 Tryz.f75.ntmps (loopOf Tryz.f75 5) 1 [0, 3, 5, 16, 17, 18] [0, 3, 5] (S_tg nl n x me i a)
theorem GKRI1 : KnownOk Tryz.prog GRI1 := KnownOk.lists ss_Compare_ok ll0_ok
theorem GORI1 : CtxOk Tryz.prog GRI1 := GS_ok.with _ _
theorem tree_tg (nl : Bool) (n : Nat) (x : Nat → Ent) (me : Int) (i : Nat) (a : Nat × (Nat → Int)) : (tgt_tg nl n x me i a).over (.br (.br (.br (.br (.tt (.tt (.tt (.br (.tt (.tt (.tt (.br (.tt (.ff (.br (.br .skip .skip) (.br (.br .leaf .skip) .skip)))) .leaf)))) (.ff (.ff (.ff (.ff .leaf)))))))) (.ff (.ff (.ff (.ff (.ff (.ff (.ff (.ff .leaf))))))))) .skip) .skip) .leaf) = T.br (decide ((↑i : Int) < (↑n : Int))) (T.br (!nl) (T.br (decide ((0 : Int) ≤ (↑i : Int) ∧ (↑i : Int) < (↑n : Int))) (T.br ((↑i : Int) != me) (T.br (Ent.st (x i) != (2 : Int)) (T.br (!Ent.dr (x i)) (T.br (Nat.ble (Prod.fst a + 1) (Prod.fst a)) (T.br (!Nat.beq (Prod.fst a) 0) T.bad T.bad) (T.br (smallB (Prod.fst a + 1) 8) (T.br ((Nat.beq (Prod.fst a) 0 || !Nat.beq (Prod.fst a) 0) && Nat.ble (0 + Prod.fst a) (Prod.fst a)) (T.ret (Ex.normal, ⟨[(0, SV.v (AI me)), (3, SV.v (AP 0)), (5, SV.v (AV.one (CV.sl false 1 1 0 0 (Prod.fst a + 1) (Prod.fst a + 1) false 1))), (16, SV.v (AV.one (CV.f (FV.fs nl 5 n fun a => [FV.lit (.int .i64 (Ent.inc (x a))), FV.lit (.int .i64 (Ent.st (x a))), FV.lit (.int .i64 (Ent.stamp (x a))), FV.lit (.int .i64 (Ent.load (x a))), FV.lit (Value.bool (Ent.dr (x a)))])))), (17, SV.v (AI (↑n : Int))), (18, SV.v (AI (IntKind.wrap IntKind.i64 ((↑i : Int) + (1 : Int)))))], [(0, Ob.cells [CV.f (FV.fs nl 5 n fun a => [FV.lit (.int .i64 (Ent.inc (x a))), FV.lit (.int .i64 (Ent.st (x a))), FV.lit (.int .i64 (Ent.stamp (x a))), FV.lit (.int .i64 (Ent.load (x a))), FV.lit (Value.bool (Ent.dr (x a)))])]), (1, Ob.arr true 1 (Prod.fst a + 1) fun i_1 => [FV.lit (.int .i64 (bif Nat.ble (i_1 + 1) (Prod.fst a) then Prod.snd a (0 + i_1) else (↑i : Int)))])], 2, false, 0, []⟩)) T.bad) T.bad)) (T.ret (Ex.normal, ⟨[(0, SV.v (AI me)), (3, SV.v (AP 0)), (5, SV.v (AV.one (CV.sl (Nat.beq (Prod.fst a) 0) 1 1 0 0 (Prod.fst a) (Prod.fst a) false 1))), (16, SV.v (AV.one (CV.f (FV.fs nl 5 n fun a => [FV.lit (.int .i64 (Ent.inc (x a))), FV.lit (.int .i64 (Ent.st (x a))), FV.lit (.int .i64 (Ent.stamp (x a))), FV.lit (.int .i64 (Ent.load (x a))), FV.lit (Value.bool (Ent.dr (x a)))])))), (17, SV.v (AI (↑n : Int))), (18, SV.v (AI (IntKind.wrap IntKind.i64 ((↑i : Int) + (1 : Int)))))], [(0, Ob.cells [CV.f (FV.fs nl 5 n fun a => [FV.lit (.int .i64 (Ent.inc (x a))), FV.lit (.int .i64 (Ent.st (x a))), FV.lit (.int .i64 (Ent.stamp (x a))), FV.lit (.int .i64 (Ent.load (x a))), FV.lit (Value.bool (Ent.dr (x a)))])]), (1, Ob.arr (!Nat.beq (Prod.fst a) 0) 1 (Prod.fst a) fun a_1 => [FV.lit (.int .i64 (Prod.snd a a_1))])], 2, false, 0, []⟩))) (T.ret (Ex.normal, ⟨[(0, SV.v (AI me)), (3, SV.v (AP 0)), (5, SV.v (AV.one (CV.sl (Nat.beq (Prod.fst a) 0) 1 1 0 0 (Prod.fst a) (Prod.fst a) false 1))), (16, SV.v (AV.one (CV.f (FV.fs nl 5 n fun a => [FV.lit (.int .i64 (Ent.inc (x a))), FV.lit (.int .i64 (Ent.st (x a))), FV.lit (.int .i64 (Ent.stamp (x a))), FV.lit (.int .i64 (Ent.load (x a))), FV.lit (Value.bool (Ent.dr (x a)))])))), (17, SV.v (AI (↑n : Int))), (18, SV.v (AI (IntKind.wrap IntKind.i64 ((↑i : Int) + (1 : Int)))))], [(0, Ob.cells [CV.f (FV.fs nl 5 n fun a => [FV.lit (.int .i64 (Ent.inc (x a))), FV.lit (.int .i64 (Ent.st (x a))), FV.lit (.int .i64 (Ent.stamp (x a))), FV.lit (.int .i64 (Ent.load (x a))), FV.lit (Value.bool (Ent.dr (x a)))])]), (1, Ob.arr (!Nat.beq (Prod.fst a) 0) 1 (Prod.fst a) fun a_1 => [FV.lit (.int .i64 (Prod.snd a a_1))])], 2, false, 0, []⟩))) (T.ret (Ex.normal, ⟨[(0, SV.v (AI me)), (3, SV.v (AP 0)), (5, SV.v (AV.one (CV.sl (Nat.beq (Prod.fst a) 0) 1 1 0 0 (Prod.fst a) (Prod.fst a) false 1))), (16, SV.v (AV.one (CV.f (FV.fs nl 5 n fun a => [FV.lit (.int .i64 (Ent.inc (x a))), FV.lit (.int .i64 (Ent.st (x a))), FV.lit (.int .i64 (Ent.stamp (x a))), FV.lit (.int .i64 (Ent.load (x a))), FV.lit (Value.bool (Ent.dr (x a)))])))), (17, SV.v (AI (↑n : Int))), (18, SV.v (AI (IntKind.wrap IntKind.i64 ((↑i : Int) + (1 : Int)))))], [(0, Ob.cells [CV.f (FV.fs nl 5 n fun a => [FV.lit (.int .i64 (Ent.inc (x a))), FV.lit (.int .i64 (Ent.st (x a))), FV.lit (.int .i64 (Ent.stamp (x a))), FV.lit (.int .i64 (Ent.load (x a))), FV.lit (Value.bool (Ent.dr (x a)))])]), (1, Ob.arr (!Nat.beq (Prod.fst a) 0) 1 (Prod.fst a) fun a_1 => [FV.lit (.int .i64 (Prod.snd a a_1))])], 2, false, 0, []⟩))) T.bad) T.bad) (T.ret (Ex.exit 0, ⟨[(0, SV.v (AI me)), (3, SV.v (AP 0)), (5, SV.v (AV.one (CV.sl (Nat.beq (Prod.fst a) 0) 1 1 0 0 (Prod.fst a) (Prod.fst a) false 1)))], [(0, Ob.cells [CV.f (FV.fs nl 5 n fun a => [FV.lit (.int .i64 (Ent.inc (x a))), FV.lit (.int .i64 (Ent.st (x a))), FV.lit (.int .i64 (Ent.stamp (x a))), FV.lit (.int .i64 (Ent.load (x a))), FV.lit (Value.bool (Ent.dr (x a)))])]), (1, Ob.arr (!Nat.beq (Prod.fst a) 0) 1 (Prod.fst a) fun a_1 => [FV.lit (.int .i64 (Prod.snd a a_1))])], 2, false, 0, []⟩)) := by kernel_rfl
def tgB (me : Int) (x : Nat → Ent) (i : Nat) : Bool := ((i : Int) != me) && ((x i).st != 2) && !(x i).dr
def tgF (me : Int) (x : Nat → Ent) (i : Nat) (a : Nat × (Nat → Int)) : Nat × (Nat → Int) := match tgB me x i with | true => (a.1 + 1, fun k => bif Nat.ble (k + 1) a.1 then a.2 k else i) | false => a

theorem round_tg (nl : Bool) (n : Nat) (x : Nat → Ent) (me : Int) (hb : n ≤ 1048576) (hnl : nl = true → n = 0) (i : Nat) (a : Nat × (Nat → Int)) (hi : i < n) (hI : (fun (i : Nat) (a : Nat × (Nat → Int)) => (a.1 ≤ i : Prop)) i a) : ∃ st', (tgt_tg nl n x me i a).res = some (.normal, st') ∧ StLe 1 st' (S_tg nl n x me (i + 1) ((fun (i : Nat) (a : Nat × (Nat → Int)) => (tgF me x i a)) i a)) ∧ (fun (i : Nat) (a : Nat × (Nat → Int)) => (a.1 ≤ i : Prop)) (i + 1) ((fun (i : Nat) (a : Nat × (Nat → Int)) => (tgF me x i a)) i a) := by
  refine T.over_exP (g := fun s => (Ex.normal, s)) (tree_tg nl n x me i a) ?_
  obtain ⟨c, y⟩ := a
  have hI' : c ≤ i := hI
  clear hI
  have e1 : ((i : Int) < (n : Int)) := by omega
  have e2 : (0 : Int) ≤ (i : Int) ∧ (i : Int) < (n : Int) := by omega
  have e3 : IntKind.wrap .i64 ((i : Int) + 1) = ((i + 1 : Nat) : Int) := by rw [wrapI (by omega)]; rfl
  obtain rfl : nl = false := by cases nl <;> simp_all <;> omega
  have e4 : Nat.ble (c + 1) c = false := ble_false (by omega)
  have e5 : smallB (c + 1) 8 = true := smallB_le (by omega) (by omega)
  have e6 : Nat.ble (0 + c) c = true := ble_tt (by omega)
  cases q1 : ((i : Int) != me)
  · have es : tgF me x i (c, y) = (c, y) := by simp only [tgF, tgB, q1, Bool.false_and]
    simp only [es, T.res_br, T.res_ret, T.res_bad, decide_eq_true_eq, e1, e2, e3, q1, Bool.not_false, Bool.false_eq_true, reduceIte, and_self]
    exact ⟨_, rfl, StLe.less (Nat.le_succ 1) (fun t => .inr (.inl rfl)) (fun b => .inl rfl), Nat.le_succ_of_le hI'⟩
  · cases q2 : ((x i).st != 2)
    · have es : tgF me x i (c, y) = (c, y) := by simp only [tgF, tgB, q1, q2, Bool.false_and, Bool.and_false]
      simp only [es, T.res_br, T.res_ret, T.res_bad, decide_eq_true_eq, e1, e2, e3, q1, q2, Bool.not_false, Bool.false_eq_true, reduceIte, and_self]
      exact ⟨_, rfl, StLe.less (Nat.le_succ 1) (fun t => .inr (.inl rfl)) (fun b => .inl rfl), Nat.le_succ_of_le hI'⟩
    · cases q3 : (x i).dr
      · have es : tgF me x i (c, y) = (c + 1, fun k => bif Nat.ble (k + 1) c then y k else i) := by simp only [tgF, tgB, q1, q2, q3, Bool.not_false, Bool.and_self]
        simp only [es, T.res_br, T.res_ret, T.res_bad, decide_eq_true_eq, e1, e2, e3, q1, q2, q3, e4, e5, e6, beq_or, Bool.and_self, Bool.not_false, Bool.false_eq_true, reduceIte, and_self]
        refine ⟨_, rfl, StLe.less (Nat.le_succ 1) (fun t => .inr (.inl rfl)) (fun b => ?_), Nat.succ_le_succ hI'⟩
        rcases b with _ | _ | b
        · exact .inl rfl
        · refine Ob.le.arr fun j hj => ?_
          rcases Nat.lt_or_ge j c with h | h
          · simp only [intE, ble_tt (show j + 1 ≤ c by omega), cond_true, Nat.zero_add]
          · obtain rfl : j = c := by omega
            simp only [intE, ble_false (show ¬ j + 1 ≤ j by omega), cond_false]
        · exact .inl rfl
      · have es : tgF me x i (c, y) = (c, y) := by simp only [tgF, tgB, q1, q2, q3, Bool.not_true, Bool.and_false]
        simp only [es, T.res_br, T.res_ret, T.res_bad, decide_eq_true_eq, e1, e2, e3, q1, q2, q3, Bool.not_false, Bool.not_true, Bool.false_eq_true, reduceIte, and_self]
        exact ⟨_, rfl, StLe.less (Nat.le_succ 1) (fun t => .inr (.inl rfl)) (fun b => .inl rfl), Nat.le_succ_of_le hI'⟩
theorem end_tg (nl : Bool) (n : Nat) (x : Nat → Ent) (me : Int) (hb : n ≤ 1048576) (hnl : nl = true → n = 0) (a : Nat × (Nat → Int)) (hI : (fun (i : Nat) (a : Nat × (Nat → Int)) => (a.1 ≤ i : Prop)) (n) a) : ∃ st', (tgt_tg nl n x me (n) a).res = some (.exit 0, st') ∧ StLe 1 st' (⟨[(0, .v (AI me)), (3, .v (AP 0)), (5, .v (.one (.sl (Nat.beq a.1 0) 1 1 0 0 a.1 a.1 false 1)))], [(0, .cells [.f (.fs nl 5 n (entE x))]), (1, .arr (!(Nat.beq a.1 0)) 1 a.1 (intE a.2))], 2, false, 0, []⟩) := by
  refine T.over_exP (g := fun s => (.exit 0, s)) (tree_tg nl n x me (n) a) ?_
  obtain ⟨c, y⟩ := a
  simp only [T.res_br, T.res_ret, T.res_bad, decide_eq_true_eq, Int.lt_irrefl, reduceIte]
  exact ⟨_, rfl, StLe.refl (Nat.le_succ 1)⟩
theorem loop_tg (nl : Bool) (n : Nat) (x : Nat → Ent) (me : Int) (hb : n ≤ 1048576) (hnl : nl = true → n = 0) (i : Nat) (a : Nat × (Nat → Int)) (hi : i ≤ n) (hI : (fun (i : Nat) (a : Nat × (Nat → Int)) => (a.1 ≤ i : Prop)) i a) {st0 : St} (h0 : StLe 1 st0 (S_tg nl n x me i a)) (hnx : st0.nx = 1) :
    CodeOk Tryz.prog Tryz.f75.ntmps (.loop (loopOf Tryz.f75 5)) st0 (.exit 0) ((fun (a : Nat × (Nat → Int)) => ⟨[(0, .v (AI me)), (3, .v (AP 0)), (5, .v (.one (.sl (Nat.beq a.1 0) 1 1 0 0 a.1 a.1 false 1)))], [(0, .cells [.f (.fs nl 5 n (entE x))]), (1, .arr (!(Nat.beq a.1 0)) 1 a.1 (intE a.2))], 2, false, 0, []⟩) (foldF (fun (i : Nat) (a : Nat × (Nat → Int)) => (tgF me x i a)) (n - i) i a)) := by
  have := for_loop GORI1 GKRI1 (K := 300) (F := 75) (N := Tryz.f75.ntmps) (c := loopOf Tryz.f75 5) (m := 1) (live := [0, 3, 5, 16, 17, 18]) (after := [0, 3, 5]) (S_tg nl n x me) (n) (fun (i : Nat) (a : Nat × (Nat → Int)) => .inl (tgF me x i a)) (fun (a : Nat × (Nat → Int)) => (.exit 0, ⟨[(0, .v (AI me)), (3, .v (AP 0)), (5, .v (.one (.sl (Nat.beq a.1 0) 1 1 0 0 a.1 a.1 false 1)))], [(0, .cells [.f (.fs nl 5 n (entE x))]), (1, .arr (!(Nat.beq a.1 0)) 1 a.1 (intE a.2))], 2, false, 0, []⟩)) (fun (i : Nat) (a : Nat × (Nat → Int)) => (a.1 ≤ i : Prop))
    (fun i a hi hI => by obtain ⟨s, h1, h2, h3⟩ := round_tg nl n x me hb hnl i a hi hI; exact ⟨_, s, h1, rfl, h2, h3⟩)
    (fun a hI => by obtain ⟨s, h1, h2⟩ := end_tg nl n x me hb hnl a hI; exact ⟨_, s, h1, by simp, rfl, h2⟩)
    (fun i a => by first | exact Nat.le_refl _ | (show 1 ≤ _; decide) | (simp only [S_tg]; omega)) hi hI h0 hnx
  rw [foldX_inl] at this
  exact this
end Go.Proofs.YtbobakclbdaepaaGreat.En
/- insertionSortCmpFunc on a row of numbers, by the load of whom they name. -/
namespace Go.Proofs.YtbobakclbdaepaaGreat.En
open Go
set_option linter.unusedVariables false
set_option linter.unusedSimpArgs false
set_option maxRecDepth 20000
set_option maxHeartbeats 1000000
/-- the load of whom it names -/
def ldI (x : Nat → Ent) (a : Int) : Int := (x a.toNat).load
def S_is (nl : Bool) (n : Nat) (x : Nat → Ent) (d N cap : Nat) (i : Nat) (r : Nat) (y : Nat → Int) : St :=
  ⟨[(0, .v (.one (.sl false 0 1 0 0 d cap false 1))), (1, .v (AI 0)), (2, .v (AI d)), (3, .v (.one (.fn 83 [(1, 0, 0, 0)]))), (8, .v (AI i)), (9, .v (AI (i - r : Nat)))], [(0, .arr true 1 N (intE y)), (1, .cells [.f (.fs nl 5 n (entE x))])], 2, false, 0, []⟩

noncomputable def GRJ1 : Ctx := GS.with ss_Nz ll0
noncomputable def tgt_Tg1 (nl : Bool) (n : Nat) (x : Nat → Ent) (a b : Int) : T CallOut := evCallW [] GRJ1 300 83 [AI a, AI b, AP 0] [(0, .cells [.f (.fs nl 5 n (entE x))])] 1
theorem GKRJ1 : KnownOk Tryz.prog GRJ1 := KnownOk.lists ss_Nz_ok ll0_ok
theorem GORJ1 : CtxOk Tryz.prog GRJ1 := GS_ok.with _ _
theorem tree_Tg1 (nl : Bool) (n : Nat) (x : Nat → Ent) (a b : Int) : (tgt_Tg1 nl n x a b).over (.br (.br (.br (.br .leaf .skip) .skip) .skip) .skip) = T.br (!nl) (T.br (decide ((0 : Int) ≤ a ∧ a < (↑n : Int))) (T.br (!nl) (T.br (decide ((0 : Int) ≤ b ∧ b < (↑n : Int))) (T.ret ⟨SV.v (AI (cmpI (Ent.load (x (Int.toNat a))) (Ent.load (x (Int.toNat b))))), [(0, Ob.cells [CV.f (FV.fs nl 5 n fun a => [FV.lit (.int .i64 (Ent.inc (x a))), FV.lit (.int .i64 (Ent.st (x a))), FV.lit (.int .i64 (Ent.stamp (x a))), FV.lit (.int .i64 (Ent.load (x a))), FV.lit (Value.bool (Ent.dr (x a)))])])], 1, false, []⟩) T.bad) T.bad) T.bad) T.bad := by kernel_rfl
theorem res_Tg1 (nl : Bool) (n : Nat) (x : Nat → Ent) (a b : Int) (h : (0 ≤ a ∧ a < (n : Int)) ∧ (0 ≤ b ∧ b < (n : Int)) ∧ nl = false) : (tgt_Tg1 nl n x a b).res = some (⟨.v (AI (cmpI (ldI x a) (ldI x b))), [(0, .cells [.f (.fs nl 5 n (entE x))])], 1, false, []⟩) := by
  refine T.over_eq _ (tree_Tg1 nl n x a b) ?_
  simp only [T.res_br, T.res_ret, T.res_bad]
  obtain ⟨h1, h2, rfl⟩ := h
  simp only [decide_eq_true h1, decide_eq_true h2, Bool.not_false, reduceIte, ldI]
noncomputable def F_Tg1 : SumF
  | [.one (.f (.lit (.int .i64 a))), .one (.f (.lit (.int .i64 b))), .one (.ptr 0 0 0 0)], [(0, .cells [.f (.fs nl 5 n e)])], 1 => .need (pb (EntE e ∧ (0 ≤ a ∧ a < (n : Int)) ∧ (0 ≤ b ∧ b < (n : Int)) ∧ nl = false)) (.ret (⟨.v (AI (cmpI (ldI (entOf e) a) (ldI (entOf e) b))), [(0, .cells [.f (.fs nl 5 n e)])], 1, false, []⟩))
  | _, _, _ => .bad
theorem sum_Tg1 : SumOk Tryz.prog 83 F_Tg1 := by
  refine ⟨fun args H nx r hr => ?_, fun args H nx => ?_⟩
  · unfold F_Tg1 at hr
    split at hr
    · rename_i a b nl n e
      obtain ⟨h0, hr⟩ := T.need_some hr
      have := T.ret_some hr
      subst this
      have h := pb_of h0
      obtain ⟨⟨x, rfl⟩, h1⟩ := h
      exact evCallW_ok GORJ1 GKRJ1 (res_Tg1 nl n x a b h1)
    · exact (T.bad_some hr).elim
  · unfold F_Tg1
    split
    · exact T.Every.need ⟨by first | exact Nat.le_refl _ | (dsimp only; omega), fun b hb hw => by
        have : b = 0 := by omega
        subst this <;> first | rfl | exact absurd (by dsimp only; decide) hw⟩
    · trivial
noncomputable def sm_Tg1 : SumF := canonSum F_Tg1
theorem sm_Tg1_ok : SumOk Tryz.prog 83 sm_Tg1 := canonSum_ok sum_Tg1
noncomputable def ss_Tg1 : List (Nat × SumF) := (83, sm_Tg1) :: ss_Nz
theorem ss_Tg1_ok : ∀ x ∈ ss_Tg1, SumOk Tryz.prog x.1 x.2 := List.forall_mem_cons.2 ⟨sm_Tg1_ok, ss_Nz_ok⟩
noncomputable def GRJ2 : Ctx := GS.with ss_Tg1 ll0
noncomputable def tgt_is (nl : Bool) (n : Nat) (x : Nat → Ent) (d N cap : Nat) (i r : Nat) (y : Nat → Int) : T (Ex × St) := evRound GRJ2 300 106 Tryz.f106.ntmps (loopOf Tryz.f106 4) 2 [0, 1, 2, 3, 8, 9] [0, 1, 2, 3, 8] (S_is nl n x d N cap i r y)
theorem GKRJ2 : KnownOk Tryz.prog GRJ2 := KnownOk.lists ss_Tg1_ok ll0_ok
theorem GORJ2 : CtxOk Tryz.prog GRJ2 := GS_ok.with _ _
theorem tree_is (nl : Bool) (n : Nat) (x : Nat → Ent) (d N cap : Nat) (i r : Nat) (y : Nat → Int) : (tgt_is nl n x d N cap i r y).over (.br (.br (.br (.br (.tt (.br (.br (.tt (.br (.br (.br (.br (.br (.tt (.br (.br (.tt (.br (.br (.br (.br (.br (.br (.tt (.br (.tt (.br (.tt (.br (.tt (.br (.tt (.br (.tt (.br (.tt (.br (.tt (.br .leaf .skip)) .skip)) .skip)) .skip)) .skip)) .skip)) .skip)) .skip)) .leaf) .skip) .skip) .skip) .skip) .skip)) .skip) .skip)) .skip) .skip) .skip) .skip) .skip)) .skip) .skip)) .skip) .skip) .skip) (.br .skip (.br .skip (.br .skip (.br .skip (.br .skip (.br .skip (.br .skip (.br .skip (.br .skip (.br .skip (.br .skip (.br .skip (.ff .leaf)))))))))))))) = T.br (decide ((↑(i - r) : Int) > (0 : Int))) (T.br (decide ((↑(i - r) : Int) > (0 : Int))) (T.br (decide ((↑(i - r) : Int) > (0 : Int))) (T.br (decide ((↑(i - r) : Int) > (0 : Int))) (T.br (decide ((0 : Int) ≤ (↑(i - r) : Int) ∧ (↑(i - r) : Int) < (↑d : Int))) (T.br (decide ((↑(i - r) : Int) > (0 : Int))) (T.br (Nat.ble (0 + (i - r) + 1) N) (T.br (decide ((↑(i - r) : Int) > (0 : Int))) (T.br (decide ((↑(i - r) : Int) > (0 : Int))) (T.br (decide ((↑(i - r) : Int) > (0 : Int))) (T.br (decide ((↑(i - r) : Int) > (0 : Int))) (T.br (decide ((0 : Int) ≤ IntKind.wrap IntKind.i64 ((↑(i - r) : Int) - (1 : Int)) ∧ IntKind.wrap IntKind.i64 ((↑(i - r) : Int) - (1 : Int)) < (↑d : Int))) (T.br (decide ((↑(i - r) : Int) > (0 : Int))) (T.br (Nat.ble (0 + Int.toNat (IntKind.wrap IntKind.i64 ((↑(i - r) : Int) - (1 : Int))) + 1) N) (T.br (decide ((↑(i - r) : Int) > (0 : Int))) (T.br (pb (EntE (entE x) ∧ ((0 : Int) ≤ y (0 + (i - r)) ∧ y (0 + (i - r)) < (↑n : Int)) ∧ ((0 : Int) ≤ y (0 + Int.toNat (IntKind.wrap IntKind.i64 ((↑(i - r) : Int) - (1 : Int)))) ∧ y (0 + Int.toNat (IntKind.wrap IntKind.i64 ((↑(i - r) : Int) - (1 : Int)))) < (↑n : Int)) ∧ nl = false)) (T.br (decide ((↑(i - r) : Int) > (0 : Int))) (T.br (decide ((↑(i - r) : Int) > (0 : Int))) (T.br (decide (cmpI (ldI x (y (0 + (i - r)))) (ldI x (y (0 + Int.toNat (IntKind.wrap IntKind.i64 ((↑(i - r) : Int) - (1 : Int)))))) < (0 : Int))) (T.br (decide ((0 : Int) ≤ IntKind.wrap IntKind.i64 ((↑(i - r) : Int) - (1 : Int)) ∧ IntKind.wrap IntKind.i64 ((↑(i - r) : Int) - (1 : Int)) < (↑d : Int))) (T.br (Nat.ble (0 + Int.toNat (IntKind.wrap IntKind.i64 ((↑(i - r) : Int) - (1 : Int))) + 1) N) (T.br (decide ((0 : Int) ≤ (↑(i - r) : Int) ∧ (↑(i - r) : Int) < (↑d : Int))) (T.br (Nat.ble (0 + (i - r) + 1) N) (T.br (decide ((0 : Int) ≤ (↑(i - r) : Int) ∧ (↑(i - r) : Int) < (↑d : Int))) (T.br (Nat.ble (0 + (i - r) + 1) N) (T.br (decide ((0 : Int) ≤ IntKind.wrap IntKind.i64 ((↑(i - r) : Int) - (1 : Int)) ∧ IntKind.wrap IntKind.i64 ((↑(i - r) : Int) - (1 : Int)) < (↑d : Int))) (T.br (Nat.ble (0 + Int.toNat (IntKind.wrap IntKind.i64 ((↑(i - r) : Int) - (1 : Int))) + 1) N) (T.ret (Ex.normal, ⟨[(0, SV.v (AV.one (CV.sl false 0 1 0 0 d cap false 1))), (1, SV.v (AI (0 : Int))), (2, SV.v (AI (↑d : Int))), (3, SV.v (AV.one (CV.fn 83 [(1, 0, 0, 0)]))), (8, SV.v (AI (↑i : Int))), (9, SV.v (AI (IntKind.wrap IntKind.i64 ((↑(i - r) : Int) - (1 : Int)))))], [(1, Ob.cells [CV.f (FV.fs nl 5 n fun a => [FV.lit (.int .i64 (Ent.inc (x a))), FV.lit (.int .i64 (Ent.st (x a))), FV.lit (.int .i64 (Ent.stamp (x a))), FV.lit (.int .i64 (Ent.load (x a))), FV.lit (Value.bool (Ent.dr (x a)))])]), (0, Ob.arr true 1 N fun i' => [FV.lit (.int .i64 (bif Nat.beq i' (0 + Int.toNat (IntKind.wrap IntKind.i64 ((↑(i - r) : Int) - (1 : Int)))) then y (0 + (i - r)) else bif Nat.beq i' (0 + (i - r)) then y (0 + Int.toNat (IntKind.wrap IntKind.i64 ((↑(i - r) : Int) - (1 : Int)))) else y i'))])], 2, false, 0, []⟩)) T.bad) T.bad) T.bad) T.bad) T.bad) T.bad) T.bad) T.bad) (T.ret (Ex.exit 2, ⟨[(0, SV.v (AV.one (CV.sl false 0 1 0 0 d cap false 1))), (1, SV.v (AI (0 : Int))), (2, SV.v (AI (↑d : Int))), (3, SV.v (AV.one (CV.fn 83 [(1, 0, 0, 0)]))), (8, SV.v (AI (↑i : Int)))], [(1, Ob.cells [CV.f (FV.fs nl 5 n fun a => [FV.lit (.int .i64 (Ent.inc (x a))), FV.lit (.int .i64 (Ent.st (x a))), FV.lit (.int .i64 (Ent.stamp (x a))), FV.lit (.int .i64 (Ent.load (x a))), FV.lit (Value.bool (Ent.dr (x a)))])]), (0, Ob.arr true 1 N fun a => [FV.lit (.int .i64 (y a))])], 2, false, 0, []⟩))) T.bad) T.bad) T.bad) T.bad) T.bad) T.bad) T.bad) T.bad) T.bad) T.bad) T.bad) T.bad) T.bad) T.bad) T.bad) T.bad) T.bad) (T.br (decide ((↑(i - r) : Int) > (0 : Int))) T.bad (T.br (decide ((↑(i - r) : Int) > (0 : Int))) T.bad (T.br (decide ((↑(i - r) : Int) > (0 : Int))) T.bad (T.br (decide ((↑(i - r) : Int) > (0 : Int))) T.bad (T.br (decide ((↑(i - r) : Int) > (0 : Int))) T.bad (T.br (decide ((↑(i - r) : Int) > (0 : Int))) T.bad (T.br (decide ((↑(i - r) : Int) > (0 : Int))) T.bad (T.br (decide ((↑(i - r) : Int) > (0 : Int))) T.bad (T.br (decide ((↑(i - r) : Int) > (0 : Int))) T.bad (T.br (decide ((↑(i - r) : Int) > (0 : Int))) T.bad (T.br (decide ((↑(i - r) : Int) > (0 : Int))) T.bad (T.br (decide ((↑(i - r) : Int) > (0 : Int))) T.bad (T.ret (Ex.exit 2, ⟨[(0, SV.v (AV.one (CV.sl false 0 1 0 0 d cap false 1))), (1, SV.v (AI (0 : Int))), (2, SV.v (AI (↑d : Int))), (3, SV.v (AV.one (CV.fn 83 [(1, 0, 0, 0)]))), (8, SV.v (AI (↑i : Int)))], [(0, Ob.arr true 1 N fun a => [FV.lit (.int .i64 (y a))]), (1, Ob.cells [CV.f (FV.fs nl 5 n fun a => [FV.lit (.int .i64 (Ent.inc (x a))), FV.lit (.int .i64 (Ent.st (x a))), FV.lit (.int .i64 (Ent.stamp (x a))), FV.lit (.int .i64 (Ent.load (x a))), FV.lit (Value.bool (Ent.dr (x a)))])])], 2, false, 0, []⟩)))))))))))))) := by kernel_rfl
/-- two neighbours change places -/
def swI (y : Nat → Int) (j : Nat) : Nat → Int := fun k => bif Nat.beq k (j - 1) then y j else bif Nat.beq k j then y (j - 1) else y k
def lessI (x : Nat → Ent) (a b : Int) : Bool := decide (cmpI (ldI x a) (ldI x b) < 0)
def E_is (nl : Bool) (n : Nat) (x : Nat → Ent) (d N cap i : Nat) (y : Nat → Int) : St :=
  ⟨[(0, .v (.one (.sl false 0 1 0 0 d cap false 1))), (1, .v (AI 0)), (2, .v (AI d)), (3, .v (.one (.fn 83 [(1, 0, 0, 0)]))), (8, .v (AI i))], [(0, .arr true 1 N (intE y)), (1, .cells [.f (.fs nl 5 n (entE x))])], 2, false, 0, []⟩
def insF (nl : Bool) (n : Nat) (x : Nat → Ent) (d N cap i r : Nat) (y : Nat → Int) : (Nat → Int) ⊕ (Ex × St) := match lessI x (y (i - r)) (y (i - r - 1)) with | true => .inl (swI y (i - r)) | false => .inr (.exit 2, E_is nl n x d N cap i y)
/-- one is put where it belongs -/
def insG (x : Nat → Ent) (i : Nat) : Nat → Nat → (Nat → Int) → (Nat → Int)
  | 0, _, y => y
  | c + 1, r, y => match lessI x (y (i - r)) (y (i - r - 1)) with | true => insG x i c (r + 1) (swI y (i - r)) | false => y
theorem foldX_is (nl : Bool) (n : Nat) (x : Nat → Ent) (d N cap i : Nat) : ∀ (c r : Nat) (y : Nat → Int), foldX (insF nl n x d N cap i) (fun y => ((Ex.exit 2, E_is nl n x d N cap i y) : Ex × St)) c r y = (.exit 2, E_is nl n x d N cap i (insG x i c r y))
  | 0, _, _ => rfl
  | c + 1, r, y => by
    simp only [foldX, insF, insG]
    cases lessI x (y (i - r)) (y (i - r - 1))
    · rfl
    · exact foldX_is nl n x d N cap i c (r + 1) _
theorem swI_in {y : Nat → Int} {d n j : Nat} (h : ∀ k, k < d → 0 ≤ y k ∧ y k < (n : Int)) (hj : j < d) : ∀ k, k < d → 0 ≤ swI y j k ∧ swI y j k < (n : Int) := fun k hk => by
  unfold swI
  cases Nat.beq k (j - 1)
  · cases Nat.beq k j
    · exact h k hk
    · exact h (j - 1) (by omega)
  · exact h j hj
theorem loop_is (nl : Bool) (n : Nat) (x : Nat → Ent) (d N cap i : Nat) (hi : i < d) (hd : d ≤ N) (hb : d ≤ 1048576) (hnl : nl = false) (y : Nat → Int) (hy : ∀ k, k < d → 0 ≤ y k ∧ y k < (n : Int)) {st0 : St} (h0 : StLe 2 st0 (S_is nl n x d N cap i 0 y)) (hnx : st0.nx = 2) :
    CodeOk Tryz.prog Tryz.f106.ntmps (.loop (loopOf Tryz.f106 4)) st0 (.exit 2) (E_is nl n x d N cap i (insG x i i 0 y)) := by
  have hf := foldX_is nl n x d N cap i i 0 y
  rw [show (Ex.exit 2) = (foldX (insF nl n x d N cap i) (fun y => ((Ex.exit 2, E_is nl n x d N cap i y) : Ex × St)) i 0 y).1 by rw [hf], show E_is nl n x d N cap i (insG x i i 0 y) = (foldX (insF nl n x d N cap i) (fun y => ((Ex.exit 2, E_is nl n x d N cap i y) : Ex × St)) i 0 y).2 by rw [hf]]
  clear hf
  subst hnl
  refine for_loop GORJ2 GKRJ2 (K := 300) (F := 106) (m := 2) (live := [0, 1, 2, 3, 8, 9]) (after := [0, 1, 2, 3, 8]) (S_is false n x d N cap i) i _ _ (fun _ y => ∀ k, k < d → 0 ≤ y k ∧ y k < (n : Int)) (fun r y hr hI => ?_) (fun y _ => ?_) (fun i a => Nat.le_refl _) (Nat.zero_le _) hy h0 hnx
  · have e1 : ((i - r : Nat) : Int) > 0 := by omega
    have e2 : (0 : Int) ≤ ((i - r : Nat) : Int) ∧ ((i - r : Nat) : Int) < (d : Int) := by omega
    have e3 : IntKind.wrap .i64 (((i - r : Nat) : Int) - 1) = ((i - r - 1 : Nat) : Int) := by rw [wrapI (by omega)]; omega
    have e4 : Nat.ble (i - r + 1) N = true := ble_tt (by omega)
    have e5 : (0 : Int) ≤ ((i - r - 1 : Nat) : Int) ∧ ((i - r - 1 : Nat) : Int) < (d : Int) := by omega
    have e6 : Nat.ble (i - r - 1 + 1) N = true := ble_tt (by omega)
    have e7 := hI (i - r) (by omega)
    have e8 := hI (i - r - 1) (by omega)
    have e9 : EntE (entE x) := EntE_ok x
    have bb : ∀ (p q : Ob) (b : Nat), Heap.get [(1, p), (0, q)] b = Heap.get [(0, q), (1, p)] b := fun p q b => by rcases b with _ | _ | b <;> rfl
    cases hq : lessI x (y (i - r)) (y (i - r - 1)) with
    | true =>
      have hq' := hq
      unfold lessI at hq'
      refine ⟨.normal, ⟨(S_is false n x d N cap i (r + 1) y).sl, [(1, .cells [.f (.fs false 5 n (entE x))]), (0, .arr true 1 N (intE (swI y (i - r))))], 2, false, 0, []⟩, T.over_eq _ (tree_is false n x d N cap i r y) ?_, by simp only [insF, hq]; exact ⟨trivial, StLe.less (Nat.le_refl 2) (fun t => .inr (.inl rfl)) (fun b => .inl (bb _ _ b)), swI_in hI (by omega)⟩⟩
      simp only [T.res_br, T.res_ret, T.res_bad, Nat.zero_add, decide_eq_true e1, decide_eq_true e2, e3, e4, decide_eq_true e5, Int.toNat_natCast, e6, e7, e8, e9, and_self, pb_tt, hq', reduceIte]
      rfl
    | false =>
      have hq' := hq
      unfold lessI at hq'
      refine ⟨.exit 2, ⟨(E_is false n x d N cap i y).sl, [(1, .cells [.f (.fs false 5 n (entE x))]), (0, .arr true 1 N (intE y))], 2, false, 0, []⟩, T.over_eq _ (tree_is false n x d N cap i r y) ?_, by simp only [insF, hq]; exact ⟨by simp, trivial, StLe.less (Nat.le_refl 2) (fun t => .inr (.inl rfl)) (fun b => .inl (bb _ _ b))⟩⟩
      simp only [T.res_br, T.res_ret, T.res_bad, Nat.zero_add, decide_eq_true e1, decide_eq_true e2, e3, e4, decide_eq_true e5, Int.toNat_natCast, e6, e7, e8, e9, and_self, pb_tt, hq', Bool.false_eq_true, reduceIte]
      rfl
  · have e1 : ¬ ((i - i : Nat) : Int) > 0 := by omega
    refine ⟨.exit 2, _, T.over_eq _ (tree_is false n x d N cap i i y) ?_, by simp, rfl, StLe.refl (Nat.le_refl _)⟩
    simp only [T.res_br, T.res_ret, T.res_bad, decide_eq_false e1, Bool.false_eq_true, reduceIte]
    rfl

end Go.Proofs.YtbobakclbdaepaaGreat.En
/- insertionSortCmpFunc is known. -/
namespace Go.Proofs.YtbobakclbdaepaaGreat.En
open Go
set_option linter.unusedVariables false
set_option linter.unusedSimpArgs false
set_option maxRecDepth 20000
set_option maxHeartbeats 1000000
def InI (y : Nat → Int) (d n : Nat) : Prop := ∀ k, k < d → 0 ≤ y k ∧ y k < (n : Int)
theorem insG_in (x : Nat → Ent) {i d n : Nat} (hi : i < d) : ∀ (c r : Nat) (y : Nat → Int), InI y d n → InI (insG x i c r y) d n
  | 0, _, _, h => h
  | c + 1, r, y, h => by
    simp only [insG]
    cases lessI x (y (i - r)) (y (i - r - 1))
    · exact h
    · exact insG_in x hi c (r + 1) _ (swI_in h (by omega))

noncomputable def L_is : LoopF := mkLoopF [0, 1, 2, 3, 8, 9] (loopOf Tryz.f106 4) Tryz.f106.ntmps fun sl H nx => match keyed [0, 1, 2, 3, 8, 9] sl, keyed [0, 1] H with
  | some [.v (.one (.sl false z1 z2 z3 z4 d cap false z5)), .v (.one (.f (.lit (.int .i64 z)))), .v (.one (.f (.lit (.int .i64 q)))), .v (.one (.fn g [(z6, z7, z8, z9)])), .v (.one (.f (.lit (.int .i64 i)))), .v (.one (.f (.lit (.int .i64 j))))], some [.arr true z10 N e, .cells [.f (.fs nl k n e2)]] => onlyB (Nat.beq nx 2 && (Nat.beq z1 0 && (Nat.beq z2 1 && (Nat.beq z3 0 && (Nat.beq z4 0 && (Nat.beq z5 1 && (Nat.beq z6 1 && (Nat.beq z7 0 && (Nat.beq z8 0 && (Nat.beq z9 0 && (Nat.beq z10 1))))))))))) (onlyB (Nat.beq g 83 && Nat.beq k 5) (.need (pb (IntE e ∧ EntE e2 ∧ z = 0 ∧ q = d ∧ 0 ≤ i ∧ i < (d : Int) ∧ j = i ∧ d ≤ N ∧ d ≤ 1048576 ∧ nl = false ∧ InI (intOf e) d n)) (.ret (.exit 2, (St.mk [(0, .v (.one (.sl false 0 1 0 0 d cap false 1))), (1, .v (AI 0)), (2, .v (AI d)), (3, .v (.one (.fn 83 [(1, 0, 0, 0)]))), (8, .v (AI i))] [(0, .arr true 1 N (intE (insG (entOf e2) i.toNat i.toNat 0 (intOf e)))), (1, .cells [.f (.fs nl 5 n e2)])] 2 false 0 []).sl, (St.mk [(0, .v (.one (.sl false 0 1 0 0 d cap false 1))), (1, .v (AI 0)), (2, .v (AI d)), (3, .v (.one (.fn 83 [(1, 0, 0, 0)]))), (8, .v (AI i))] [(0, .arr true 1 N (intE (insG (entOf e2) i.toNat i.toNat 0 (intOf e)))), (1, .cells [.f (.fs nl 5 n e2)])] 2 false 0 []).H, 2, false))))
  | _, _ => .bad
theorem L_is_ok : LoopOk Tryz.prog L_is := by
  refine mkLoopF_ok fun sl H nx e sl' H' nx' esc' h => ?_
  split at h
  · rename_i z1 z2 z3 z4 d cap z5 z q g z6 z7 z8 z9 i j z10 N e nl k n e2 hsl hH
    have hsl := keyed_eq hsl
    have hH := keyed_eq hH
    subst hsl hH
    have h5 := onlyB_some h
    clear h
    obtain ⟨hck, h⟩ := h5
    simp only [Bool.and_eq_true, nbeq_iff] at hck
    obtain ⟨rfl, rfl, rfl, rfl, rfl, rfl, rfl, rfl, rfl, rfl, rfl⟩ := hck
    have h5 := onlyB_some h
    clear h
    have hw := h5.1
    have h := h5.2
    clear h5
    obtain ⟨hp, hret⟩ := T.need_some h
    have hp := pb_of hp
    have := T.ret_some hret
    simp only [Prod.mk.injEq] at this
    obtain ⟨rfl, rfl, rfl, rfl, rfl⟩ := this
    clear hret h
    obtain ⟨⟨y, rfl⟩, ⟨x, rfl⟩, rfl, rfl, h0, h1, rfl, h2, h3, h4, h5⟩ := hp
    obtain ⟨hw1, hw2⟩ := Bool.and_eq_true_iff.1 hw
    obtain rfl := Nat.eq_of_beq_eq_true hw1
    obtain rfl := Nat.eq_of_beq_eq_true hw2
    obtain ⟨i, rfl⟩ : ∃ i' : Nat, j = i' := ⟨j.toNat, by omega⟩
    exact loop_is nl n x d N cap i (by omega) h2 h3 h4 y h5 (StLe.refl (Nat.le_refl 2)) rfl
  · exact (T.bad_some h).elim
noncomputable def ll_is : List (Nat × Nat × LoopF) := (106, 4, L_is) :: ll0
theorem ll_is_ok : ∀ x ∈ ll_is, LoopOk Tryz.prog x.2.2 := List.forall_mem_cons.2 ⟨L_is_ok, ll0_ok⟩
def S_io (nl : Bool) (n : Nat) (x : Nat → Ent) (d N cap : Nat) (r : Nat) (y : Nat → Int) : St := ⟨[(0, .v (.one (.sl false 0 1 0 0 d cap false 1))), (1, .v (AI 0)), (2, .v (AI d)), (3, .v (.one (.fn 83 [(1, 0, 0, 0)]))), (8, .v (AI (r + 1 : Nat)))], [(0, .arr true 1 N (intE y)), (1, .cells [.f (.fs nl 5 n (entE x))])], 2, false, 0, []⟩

noncomputable def GRK1 : Ctx := GS.with ss_Tg1 ll_is
noncomputable def tgt_io (nl : Bool) (n : Nat) (x : Nat → Ent) (d N cap : Nat) (r : Nat) (y : Nat → Int) : T (Ex × St) := evRound GRK1 300 106 Tryz.f106.ntmps (loopOf Tryz.f106 1) 2 [0, 1, 2, 3, 8] [] (S_io nl n x d N cap r y)
theorem GKRK1 : KnownOk Tryz.prog GRK1 := KnownOk.lists ss_Tg1_ok ll_is_ok
theorem GORK1 : CtxOk Tryz.prog GRK1 := GS_ok.with _ _
theorem tree_io (nl : Bool) (n : Nat) (x : Nat → Ent) (d N cap : Nat) (r : Nat) (y : Nat → Int) : (tgt_io nl n x d N cap r y).over (.br (.br (.br .leaf .skip) .skip) .leaf) = T.br (decide ((↑(r + 1) : Int) < (↑d : Int))) (T.br (pb (Code.loop (loopOf Proofs.Tryz.f106 4) = Code.loop (loopOf Proofs.Tryz.f106 4) ∧ 53 = 53)) (T.br (pb (IntE (intE y) ∧ EntE (entE x) ∧ (0 : Int) = (0 : Int) ∧ (↑d : Int) = (↑d : Int) ∧ (0 : Int) ≤ (↑(r + 1) : Int) ∧ (↑(r + 1) : Int) < (↑d : Int) ∧ (↑(r + 1) : Int) = (↑(r + 1) : Int) ∧ d ≤ N ∧ d ≤ 1048576 ∧ nl = false ∧ InI y d n)) (T.ret (Ex.normal, ⟨[(0, SV.v (AV.one (CV.sl false 0 1 0 0 d cap false 1))), (1, SV.v (AI (0 : Int))), (2, SV.v (AI (↑d : Int))), (3, SV.v (AV.one (CV.fn 83 [(1, 0, 0, 0)]))), (8, SV.v (AI (IntKind.wrap IntKind.i64 ((↑(r + 1) : Int) + (1 : Int)))))], [(0, Ob.arr true 1 N fun a => [FV.lit (.int .i64 (insG x (r + 1) (r + 1) 0 y a))]), (1, Ob.cells [CV.f (FV.fs nl 5 n fun a => [FV.lit (.int .i64 (Ent.inc (x a))), FV.lit (.int .i64 (Ent.st (x a))), FV.lit (.int .i64 (Ent.stamp (x a))), FV.lit (.int .i64 (Ent.load (x a))), FV.lit (Value.bool (Ent.dr (x a)))])])], 2, false, 0, [0, 1]⟩)) T.bad) T.bad) (T.ret (Ex.exit 0, ⟨[], [(0, Ob.arr true 1 N fun a => [FV.lit (.int .i64 (y a))]), (1, Ob.cells [CV.f (FV.fs nl 5 n fun a => [FV.lit (.int .i64 (Ent.inc (x a))), FV.lit (.int .i64 (Ent.st (x a))), FV.lit (.int .i64 (Ent.stamp (x a))), FV.lit (.int .i64 (Ent.load (x a))), FV.lit (Value.bool (Ent.dr (x a)))])])], 2, false, 0, []⟩)) := by kernel_rfl
theorem round_io (nl : Bool) (n : Nat) (x : Nat → Ent) (d N cap : Nat) (hd1 : 1 ≤ d) (hd : d ≤ N) (hb : d ≤ 1048576) (hnl : nl = false) (i : Nat) (a : Nat → Int) (hi : i < d - 1) (hI : (fun (i : Nat) (a : Nat → Int) => (InI a d n : Prop)) i a) : ∃ st', (tgt_io nl n x d N cap i a).res = some (.normal, st') ∧ StLe 2 st' (S_io nl n x d N cap (i + 1) ((fun (i : Nat) (a : Nat → Int) => (insG x (i + 1) (i + 1) 0 a)) i a)) ∧ (fun (i : Nat) (a : Nat → Int) => (InI a d n : Prop)) (i + 1) ((fun (i : Nat) (a : Nat → Int) => (insG x (i + 1) (i + 1) 0 a)) i a) := by
  refine T.over_exP (g := fun s => (Ex.normal, s)) (tree_io nl n x d N cap i a) ?_
  have hI' : InI a d n := hI
  clear hI
  have e1 : (((i + 1 : Nat) : Int) < (d : Int)) := by omega
  have e1' : (0 : Int) ≤ ((i + 1 : Nat) : Int) := by omega
  have e3 : IntKind.wrap .i64 (((i + 1 : Nat) : Int) + 1) = ((i + 1 + 1 : Nat) : Int) := by rw [wrapI (by omega)]; rfl
  have e9 : EntE (entE x) := EntE_ok x
  simp only [T.res_br, T.res_ret, T.res_bad, decide_eq_true e1, e1, e1', e3, IntE_ok, e9, hd, hb, hnl, hI', eq_self, and_self, pb_tt, reduceIte]
  exact ⟨_, rfl, StLe.less (Nat.le_refl 2) (fun t => .inr (.inl rfl)) (fun b => .inl rfl), insG_in x (by omega) _ _ _ hI'⟩
theorem end_io (nl : Bool) (n : Nat) (x : Nat → Ent) (d N cap : Nat) (hd1 : 1 ≤ d) (hd : d ≤ N) (hb : d ≤ 1048576) (hnl : nl = false) (a : Nat → Int) (hI : (fun (i : Nat) (a : Nat → Int) => (InI a d n : Prop)) (d - 1) a) : ∃ st', (tgt_io nl n x d N cap (d - 1) a).res = some (.exit 0, st') ∧ StLe 2 st' (⟨[], [(0, .arr true 1 N (intE a)), (1, .cells [.f (.fs nl 5 n (entE x))])], 2, false, 0, []⟩) := by
  refine T.over_exP (g := fun s => (.exit 0, s)) (tree_io nl n x d N cap (d - 1) a) ?_
  have e1 : ¬ (((d - 1 + 1 : Nat) : Int) < (d : Int)) := by omega
  simp only [T.res_br, T.res_ret, T.res_bad, decide_eq_false e1, Bool.false_eq_true, reduceIte]
  exact ⟨_, rfl, StLe.refl (Nat.le_refl 2)⟩
theorem loop_io (nl : Bool) (n : Nat) (x : Nat → Ent) (d N cap : Nat) (hd1 : 1 ≤ d) (hd : d ≤ N) (hb : d ≤ 1048576) (hnl : nl = false) (i : Nat) (a : Nat → Int) (hi : i ≤ d - 1) (hI : (fun (i : Nat) (a : Nat → Int) => (InI a d n : Prop)) i a) {st0 : St} (h0 : StLe 2 st0 (S_io nl n x d N cap i a)) (hnx : st0.nx = 2) :
    CodeOk Tryz.prog Tryz.f106.ntmps (.loop (loopOf Tryz.f106 1)) st0 (.exit 0) ((fun (a : Nat → Int) => ⟨[], [(0, .arr true 1 N (intE a)), (1, .cells [.f (.fs nl 5 n (entE x))])], 2, false, 0, []⟩) (foldF (fun (i : Nat) (a : Nat → Int) => (insG x (i + 1) (i + 1) 0 a)) (d - 1 - i) i a)) := by
  have := for_loop GORK1 GKRK1 (K := 300) (F := 106) (N := Tryz.f106.ntmps) (c := loopOf Tryz.f106 1) (m := 2) (live := [0, 1, 2, 3, 8]) (after := []) (S_io nl n x d N cap) (d - 1) (fun (i : Nat) (a : Nat → Int) => .inl (insG x (i + 1) (i + 1) 0 a)) (fun (a : Nat → Int) => (.exit 0, ⟨[], [(0, .arr true 1 N (intE a)), (1, .cells [.f (.fs nl 5 n (entE x))])], 2, false, 0, []⟩)) (fun (i : Nat) (a : Nat → Int) => (InI a d n : Prop))
    (fun i a hi hI => by obtain ⟨s, h1, h2, h3⟩ := round_io nl n x d N cap hd1 hd hb hnl i a hi hI; exact ⟨_, s, h1, rfl, h2, h3⟩)
    (fun a hI => by obtain ⟨s, h1, h2⟩ := end_io nl n x d N cap hd1 hd hb hnl a hI; exact ⟨_, s, h1, by simp, rfl, h2⟩)
    (fun i a => by first | exact Nat.le_refl _ | (show 2 ≤ _; decide) | (simp only [S_io]; omega)) hi hI h0 hnx
  rw [foldX_inl] at this
  exact this
/-- a row, put in order -/
def insA (x : Nat → Ent) (d : Nat) (y : Nat → Int) : Nat → Int := foldF (fun (i : Nat) (a : Nat → Int) => insG x (i + 1) (i + 1) 0 a) (d - 1) 0 y

noncomputable def L_io : LoopF := mkLoopF [0, 1, 2, 3, 8] (loopOf Tryz.f106 1) Tryz.f106.ntmps fun sl H nx => match keyed [0, 1, 2, 3, 8] sl, keyed [0, 1] H with
  | some [.v (.one (.sl false z1 z2 z3 z4 d cap false z5)), .v (.one (.f (.lit (.int .i64 z)))), .v (.one (.f (.lit (.int .i64 q)))), .v (.one (.fn g [(z6, z7, z8, z9)])), .v (.one (.f (.lit (.int .i64 i))))], some [.arr true z10 N e, .cells [.f (.fs nl k n e2)]] => onlyB (Nat.beq nx 2 && (Nat.beq z1 0 && (Nat.beq z2 1 && (Nat.beq z3 0 && (Nat.beq z4 0 && (Nat.beq z5 1 && (Nat.beq z6 1 && (Nat.beq z7 0 && (Nat.beq z8 0 && (Nat.beq z9 0 && (Nat.beq z10 1))))))))))) (onlyB (Nat.beq g 83 && Nat.beq k 5) (.need (pb (IntE e ∧ EntE e2 ∧ z = 0 ∧ q = d ∧ i = 1 ∧ 1 ≤ d ∧ d ≤ N ∧ d ≤ 1048576 ∧ nl = false ∧ InI (intOf e) d n)) (.ret (.exit 0, (St.mk [] [(0, .arr true 1 N (intE (insA (entOf e2) d (intOf e)))), (1, .cells [.f (.fs nl 5 n e2)])] 2 false 0 []).sl, (St.mk [] [(0, .arr true 1 N (intE (insA (entOf e2) d (intOf e)))), (1, .cells [.f (.fs nl 5 n e2)])] 2 false 0 []).H, 2, false))))
  | _, _ => .bad
theorem L_io_ok : LoopOk Tryz.prog L_io := by
  refine mkLoopF_ok fun sl H nx e sl' H' nx' esc' h => ?_
  split at h
  · rename_i z1 z2 z3 z4 d cap z5 z q g z6 z7 z8 z9 i z10 N e nl k n e2 hsl hH
    have hsl := keyed_eq hsl
    have hH := keyed_eq hH
    subst hsl hH
    have h5 := onlyB_some h
    clear h
    obtain ⟨hck, h⟩ := h5
    simp only [Bool.and_eq_true, nbeq_iff] at hck
    obtain ⟨rfl, rfl, rfl, rfl, rfl, rfl, rfl, rfl, rfl, rfl, rfl⟩ := hck
    have h5 := onlyB_some h
    clear h
    have hw := h5.1
    have h := h5.2
    clear h5
    obtain ⟨hp, hret⟩ := T.need_some h
    have hp := pb_of hp
    have := T.ret_some hret
    simp only [Prod.mk.injEq] at this
    obtain ⟨rfl, rfl, rfl, rfl, rfl⟩ := this
    clear hret h
    obtain ⟨⟨y, rfl⟩, ⟨x, rfl⟩, rfl, rfl, rfl, h1, h2, h3, h4, h5⟩ := hp
    obtain ⟨hw1, hw2⟩ := Bool.and_eq_true_iff.1 hw
    obtain rfl := Nat.eq_of_beq_eq_true hw1
    obtain rfl := Nat.eq_of_beq_eq_true hw2
    exact loop_io nl n x d N cap h1 h2 h3 h4 0 y (Nat.zero_le _) h5 (StLe.refl (Nat.le_refl 2)) rfl
  · exact (T.bad_some h).elim
noncomputable def ll_io : List (Nat × Nat × LoopF) := (106, 1, L_io) :: ll_is
theorem ll_io_ok : ∀ x ∈ ll_io, LoopOk Tryz.prog x.2.2 := List.forall_mem_cons.2 ⟨L_io_ok, ll_is_ok⟩
noncomputable def GRK2 : Ctx := GS.with ss_Tg1 ll_io
noncomputable def tgt_Ins (nl : Bool) (n : Nat) (x : Nat → Ent) (d N cap : Nat) (y : Nat → Int) : T CallOut := evCallW [] GRK2 300 106 [.one (.sl false 0 1 0 0 d cap false 1), AI 0, AI d, .one (.fn 83 [(1, 0, 0, 0)])] [(0, .arr true 1 N (intE y)), (1, .cells [.f (.fs nl 5 n (entE x))])] 2
theorem GKRK2 : KnownOk Tryz.prog GRK2 := KnownOk.lists ss_Tg1_ok ll_io_ok
theorem GORK2 : CtxOk Tryz.prog GRK2 := GS_ok.with _ _
theorem tree_Ins (nl : Bool) (n : Nat) (x : Nat → Ent) (d N cap : Nat) (y : Nat → Int) : (tgt_Ins nl n x d N cap y).over (.br (.br .leaf .skip) .skip) = T.br (pb (Code.loop (loopOf Proofs.Tryz.f106 1) = Code.loop (loopOf Proofs.Tryz.f106 1) ∧ 53 = 53)) (T.br (pb (IntE (intE y) ∧ EntE (entE x) ∧ (0 : Int) = (0 : Int) ∧ (↑d : Int) = (↑d : Int) ∧ (1 : Int) = (1 : Int) ∧ 1 ≤ d ∧ d ≤ N ∧ d ≤ 1048576 ∧ nl = false ∧ InI y d n)) (T.ret ⟨SV.tup [], [(0, Ob.arr true 1 N fun a => [FV.lit (.int .i64 (insA x d y a))]), (1, Ob.cells [CV.f (FV.fs nl 5 n fun a => [FV.lit (.int .i64 (Ent.inc (x a))), FV.lit (.int .i64 (Ent.st (x a))), FV.lit (.int .i64 (Ent.stamp (x a))), FV.lit (.int .i64 (Ent.load (x a))), FV.lit (Value.bool (Ent.dr (x a)))])])], 2, false, []⟩) T.bad) T.bad := by kernel_rfl
theorem res_Ins (nl : Bool) (n : Nat) (x : Nat → Ent) (d N cap : Nat) (y : Nat → Int) (h : nl = false ∧ 1 ≤ d ∧ d ≤ N ∧ d ≤ 1048576 ∧ InI y d n) : (tgt_Ins nl n x d N cap y).res = some ⟨.tup [], [(0, .arr true 1 N (intE (insA x d y))), (1, .cells [.f (.fs nl 5 n (entE x))])], 2, false, []⟩ := by
  refine T.over_eq _ (tree_Ins nl n x d N cap y) ?_
  obtain ⟨h1, h2, h3, h4, h5⟩ := h
  have e9 : EntE (entE x) := EntE_ok x
  simp only [T.res_br, T.res_ret, T.res_bad, IntE_ok, e9, h1, h2, h3, h4, h5, eq_self, and_self, pb_tt, reduceIte]

noncomputable def F_Ins : SumF
  | [.one (.sl false 0 1 0 0 d cap false 1), .one (.f (.lit (.int .i64 z))), .one (.f (.lit (.int .i64 q))), .one (.fn g [(1, 0, 0, 0)])], [(0, .arr true 1 N e), (1, .cells [.f (.fs nl 5 n e2)])], 2 => .need (pb (IntE e ∧ EntE e2 ∧ z = 0 ∧ q = d ∧ g = 83 ∧ nl = false ∧ 1 ≤ d ∧ d ≤ N ∧ d ≤ 1048576 ∧ InI (intOf e) d n)) (.ret (⟨.tup [], [(0, .arr true 1 N (intE (insA (entOf e2) d (intOf e)))), (1, .cells [.f (.fs nl 5 n e2)])], 2, false, [0]⟩))
  | _, _, _ => .bad
theorem sum_Ins : SumOk Tryz.prog 106 F_Ins := by
  refine ⟨fun args H nx r hr => ?_, fun args H nx => ?_⟩
  · unfold F_Ins at hr
    split at hr
    · rename_i d cap z q g N e nl n e2
      obtain ⟨h0, hr⟩ := T.need_some hr
      have := T.ret_some hr
      subst this
      have h := pb_of h0
      obtain ⟨⟨y, rfl⟩, ⟨x, rfl⟩, rfl, rfl, rfl, h1⟩ := h
      exact by have h9 := evCallW_ok GORK2 GKRK2 (res_Ins nl n x d N cap y h1); exact h9
    · exact (T.bad_some hr).elim
  · unfold F_Ins
    split
    · exact T.Every.need ⟨by first | exact Nat.le_refl _ | (dsimp only; omega), fun b hb hw => by
        have : b = 0 ∨ b = 1 := by omega
        rcases this with rfl | rfl <;> first | rfl | exact absurd (by dsimp only; decide) hw⟩
    · trivial
noncomputable def sm_Ins : SumF := canonSum F_Ins
theorem sm_Ins_ok : SumOk Tryz.prog 106 sm_Ins := canonSum_ok sum_Ins
noncomputable def ss_Ins : List (Nat × SumF) := (106, sm_Ins) :: ss_Tg1
theorem ss_Ins_ok : ∀ x ∈ ss_Ins, SumOk Tryz.prog x.1 x.2 := List.forall_mem_cons.2 ⟨sm_Ins_ok, ss_Tg1_ok⟩
end Go.Proofs.YtbobakclbdaepaaGreat.En
