/- A round of PointsRise. -/
import Derived.Test.YtabmkefbceepmaaPJ
namespace Go.Proofs.Ytabmkefbceepmaa.En
open Go
set_option linter.unusedVariables false
set_option linter.unusedSimpArgs false
set_option maxRecDepth 20000
noncomputable def F_Pick3 : SumF
  | [.one (.f (.lit (.int .i64 n))), .one (.f (.lit (.int .i64 m)))], [], 0 => match decide (m = 3) with
    | true => .br (n % 3 == 0) (.ret (out0 (.v (AI 0)))) (.br (n % 3 == 1) (.ret (out0 (.v (AI 1)))) (.ret (out0 (.v (AI 2)))))
    | false => .need (pb (0 < m ∧ m ≤ 4611686018427387904)) (.ret (out0 (.v (AI (n % m)))))
  | _, _, _ => .bad
theorem sum_Pick3 : SumOk Try.prog 12 F_Pick3 := by
  refine ⟨fun args H nx r hr => ?_, fun args H nx => ?_⟩
  · unfold F_Pick3 at hr
    split at hr
    · rename_i n m
      split at hr
      · rename_i hm
        have hm := of_decide_eq_true hm
        subst hm
        have key := evCallW_ok (GS_ok.with _ _) GKPA1 (res_Pick n 3 (by omega))
        simp only [T.res_br, T.res_ret, beq_iff_eq] at hr
        have h3 : n % 3 = 0 ∨ n % 3 = 1 ∨ n % 3 = 2 := by omega
        rcases h3 with h3 | h3 | h3 <;> rw [h3] at hr key <;> simp at hr <;> subst hr <;> exact key
      · obtain ⟨h, hr⟩ := T.need_some hr
        have := T.ret_some hr
        subst this
        exact evCallW_ok (GS_ok.with _ _) GKPA1 (res_Pick _ _ (pb_of h))
    · exact (T.bad_some hr).elim
  · unfold F_Pick3
    split
    · split
      · exact ⟨⟨Nat.zero_le _, fun b hb hw => absurd hb (Nat.not_lt_zero b)⟩, ⟨Nat.zero_le _, fun b hb hw => absurd hb (Nat.not_lt_zero b)⟩, ⟨Nat.zero_le _, fun b hb hw => absurd hb (Nat.not_lt_zero b)⟩⟩
      · exact T.Every.need ⟨Nat.zero_le _, fun b hb hw => absurd hb (Nat.not_lt_zero b)⟩
    · trivial
noncomputable def ss_Pick3 : List (Nat × SumF) := (12, canonSum F_Pick3) :: ss_Known17
theorem ss_Pick3_ok : ∀ x ∈ ss_Pick3, SumOk Try.prog x.1 x.2 := List.forall_mem_cons.2 ⟨canonSum_ok sum_Pick3, ss_Known17_ok⟩
def SR17 (nl : Bool) (n : Nat) (x : Nat → Raw17) (k : Int) (i : Nat) (eP hP eQ hQ : Nat → Int) (b0 b1 b2 : Int) : St :=
  ⟨[(35, .v (.one (.f (.fs nl 3 n fun i => (x i).fs)))), (36, .v (AI n)), (37, .v (AI i)), (6, .v (AP 1)), (7, .v (AP 2)), (8, .v (AI k)), (9, .v (AP 3)), (0, .v (.one (.f (.fs nl 3 n fun i => (x i).fs))))],
    [(3, .cells [I b0, I b1, I b2]), (2, .cells [I 4, .f (.fs false 2 3 (ptE eQ hQ))]), (1, .cells [I 4, .f (.fs false 2 3 (ptE eP hP))]), (0, .cells [I 4, I 3])], 4, false, 0, []⟩

noncomputable def GPK1 : Ctx := GS.with ss_Pick3 ll_T17
noncomputable def tgt_rise17 (nl : Bool) (n : Nat) (x : Nat → Raw17) (k : Int) (i : Nat) (eP hP eQ hQ : Nat → Int) (b0 b1 b2 : Int) : T (Ex × St) := evRoundZ GPK1 300 10 Try.f10.ntmps (loopOf Try.f10 7) 4 [35, 36, 37, 6, 7, 8, 9, 0] [6, 7, 9] (SR17 nl n x k i eP hP eQ hQ b0 b1 b2)
theorem GKPK1 : KnownOk Try.prog GPK1 := KnownOk.lists ss_Pick3_ok ll_T17_ok
theorem tree_rise17 (nl : Bool) (n : Nat) (x : Nat → Raw17) (k : Int) (i : Nat) (eP hP eQ hQ : Nat → Int) (b0 b1 b2 : Int) : (tgt_rise17 nl n x k i eP hP eQ hQ b0 b1 b2).over (.br (.br (.br (.br (.br (.br (.ff (.br .skip (.br (.br (.br (.br (.br (.br (.tt (.tt (.tt (.tt (.tt (.tt (.tt (.tt (.tt .skip))))))))) (.ff (.ff (.ff (.ff (.ff (.ff (.ff (.ff (.br .skip (.tt (.tt (.tt (.tt (.br (.br (.br (.ff (.br .leaf .skip)) .skip) .skip) (.br (.br (.br (.ff (.br .leaf .skip)) .skip) .skip) (.br (.br (.ff (.br .leaf .skip)) .skip) .skip))))))))))))))))) .skip) .skip) .skip) .skip) .skip))) .skip) .skip) (.br (.br (.br (.ff (.br .skip (.br (.br (.br (.br (.br (.br (.tt (.tt (.tt (.tt (.tt (.tt (.tt (.tt (.tt .skip))))))))) (.ff (.ff (.ff (.ff (.ff (.ff (.ff (.ff (.br .skip (.tt (.ff (.tt (.tt (.ff (.tt (.br (.br (.br (.ff (.br .leaf .skip)) .skip) .skip) (.br (.br (.br (.ff (.br .leaf .skip)) .skip) .skip) (.br (.br (.ff (.br .leaf .skip)) .skip) .skip))))))))))))))))))) .skip) .skip) .skip) .skip) .skip))) .skip) .skip) (.br (.br (.ff (.br .skip (.br (.br (.br (.br (.br (.br (.tt (.tt (.tt (.tt (.tt (.tt (.tt (.tt (.tt .skip))))))))) (.ff (.ff (.ff (.ff (.ff (.ff (.ff (.ff (.br .skip (.tt (.ff (.ff (.tt (.tt (.ff (.ff (.tt (.br (.br (.br (.ff (.br .leaf .skip)) .skip) .skip) (.br (.br (.br (.ff (.br .leaf .skip)) .skip) .skip) (.br (.br (.ff (.br .leaf .skip)) .skip) .skip))))))))))))))))))))) .skip) .skip) .skip) .skip) .skip))) .skip) .skip))) .skip) .skip) .leaf) =
  T.br (decide ((↑i : Int) < (↑n : Int)))
    (T.br (!nl)
      (T.br (decide ((0 : Int) ≤ (↑i : Int) ∧ (↑i : Int) < (↑n : Int)))
        (T.br (Raw17.shard (x i) % (3 : Int) == (0 : Int))
          (T.br (pb ((0 : Int) < (50 : Int) ∧ (50 : Int) ≤ (4611686018427387904 : Int)))
            (T.br (pb ((0 : Int) < (50 : Int) ∧ (50 : Int) ≤ (4611686018427387904 : Int)))
              (T.br (decide ((↑n : Int) = (0 : Int))) T.bad
                (T.br (!nl)
                  (T.br (decide ((0 : Int) ≤ Int.tmod (IntKind.wrap IntKind.i64 ((↑i : Int) + k)) (↑n : Int) ∧ Int.tmod (IntKind.wrap IntKind.i64 ((↑i : Int) + k)) (↑n : Int) < (↑n : Int)))
                    (T.br (pb (PtN (ptE eP hP) false (3 : Nat)))
                      (T.br (pb (PtN (ptE eP hP) false (3 : Nat)))
                        (T.br
                          (pb
                            (PtN
                              (ptE
                                (updP (learnB (4 : Int) (3 : Nat) (epOf (ptE eP hP)) (0 : Int) (Raw17.epoch (x i) % (50 : Int)) (Int.tmod (IntKind.wrap IntKind.i64 (Raw17.epoch (x i) % (50 : Int) * (3 : Int))) (4 : Int))) (epOf (ptE eP hP))
                                  (0 : Nat) (Raw17.epoch (x i) % (50 : Int)))
                                (updP (learnB (4 : Int) (3 : Nat) (epOf (ptE eP hP)) (0 : Int) (Raw17.epoch (x i) % (50 : Int)) (Int.tmod (IntKind.wrap IntKind.i64 (Raw17.epoch (x i) % (50 : Int) * (3 : Int))) (4 : Int))) (hoOf (ptE eP hP))
                                  (0 : Nat) (Int.tmod (IntKind.wrap IntKind.i64 (Raw17.epoch (x i) % (50 : Int) * (3 : Int))) (4 : Int))))
                              false (3 : Nat)))
                          (T.br
                            (!learnB (4 : Int) (3 : Nat) (epOf (ptE eP hP)) (0 : Int) (Raw17.epoch (x i) % (50 : Int)) (Int.tmod (IntKind.wrap IntKind.i64 (Raw17.epoch (x i) % (50 : Int) * (3 : Int))) (4 : Int)) ==
                                decide (Raw17.epoch (x i) % (50 : Int) > bif inB (3 : Nat) (0 : Int) then epOf (ptE eP hP) (0 : Nat) else (0 : Int)))
                            T.bad
                            (T.br
                              ((bif inB (3 : Nat) (0 : Int) then
                                  epOf
                                    (ptE
                                      (updP (learnB (4 : Int) (3 : Nat) (epOf (ptE eP hP)) (0 : Int) (Raw17.epoch (x i) % (50 : Int)) (Int.tmod (IntKind.wrap IntKind.i64 (Raw17.epoch (x i) % (50 : Int) * (3 : Int))) (4 : Int)))
                                        (epOf (ptE eP hP)) (0 : Nat) (Raw17.epoch (x i) % (50 : Int)))
                                      (updP (learnB (4 : Int) (3 : Nat) (epOf (ptE eP hP)) (0 : Int) (Raw17.epoch (x i) % (50 : Int)) (Int.tmod (IntKind.wrap IntKind.i64 (Raw17.epoch (x i) % (50 : Int) * (3 : Int))) (4 : Int)))
                                        (hoOf (ptE eP hP)) (0 : Nat) (Int.tmod (IntKind.wrap IntKind.i64 (Raw17.epoch (x i) % (50 : Int) * (3 : Int))) (4 : Int))))
                                    (0 : Nat)
                                else (0 : Int)) !=
                                if Raw17.epoch (x i) % (50 : Int) > bif inB (3 : Nat) (0 : Int) then epOf (ptE eP hP) (0 : Nat) else (0 : Int) then Raw17.epoch (x i) % (50 : Int)
                                else bif inB (3 : Nat) (0 : Int) then epOf (ptE eP hP) (0 : Nat) else (0 : Int))
                              T.bad
                              (T.br (Raw17.shard (x (Int.toNat (Int.tmod (IntKind.wrap IntKind.i64 ((↑i : Int) + k)) (↑n : Int)))) % (3 : Int) == (0 : Int))
                                (T.br (pb ((0 : Int) < (50 : Int) ∧ (50 : Int) ≤ (4611686018427387904 : Int)))
                                  (T.br (pb ((0 : Int) < (50 : Int) ∧ (50 : Int) ≤ (4611686018427387904 : Int)))
                                    (T.br (pb (PtN (ptE eQ hQ) false (3 : Nat)))
                                      (T.ret
                                        (Ex.normal,
                                          {
                                            sl :=
                                              [((35 : Nat),
                                                  SV.v
                                                    (AV.one
                                                      (CV.f
                                                        (FV.fs nl (3 : Nat) n fun i =>
                                                          [FV.lit (Value.int IntKind.i64 (Raw17.shard (x i))), FV.lit (Value.int IntKind.i64 (Raw17.epoch (x i))), FV.lit (Value.int IntKind.i64 (Raw17.host (x i)))])))),
                                                ((36 : Nat), SV.v (AI (↑n : Int))), ((37 : Nat), SV.v (AI (IntKind.wrap IntKind.i64 ((↑i : Int) + (1 : Int))))), ((6 : Nat), SV.v (AP (1 : Nat))), ((7 : Nat), SV.v (AP (2 : Nat))),
                                                ((8 : Nat), SV.v (AI k)), ((9 : Nat), SV.v (AP (3 : Nat))),
                                                ((0 : Nat),
                                                  SV.v
                                                    (AV.one
                                                      (CV.f
                                                        (FV.fs nl (3 : Nat) n fun i =>
                                                          [FV.lit (Value.int IntKind.i64 (Raw17.shard (x i))), FV.lit (Value.int IntKind.i64 (Raw17.epoch (x i))), FV.lit (Value.int IntKind.i64 (Raw17.host (x i)))]))))],
                                            H :=
                                              [((2 : Nat),
                                                  Ob.cells
                                                    [I (4 : Int),
                                                      CV.f
                                                        (FV.fs false (2 : Nat) (3 : Nat) fun a =>
                                                          [FV.lit
                                                              (Value.int IntKind.i64
                                                                (updP
                                                                  (learnB (4 : Int) (3 : Nat) (epOf (ptE eQ hQ)) (0 : Int) (Raw17.epoch (x (Int.toNat (Int.tmod (IntKind.wrap IntKind.i64 ((↑i : Int) + k)) (↑n : Int)))) % (50 : Int))
                                                                    (Int.tmod (IntKind.wrap IntKind.i64 (Raw17.epoch (x (Int.toNat (Int.tmod (IntKind.wrap IntKind.i64 ((↑i : Int) + k)) (↑n : Int)))) % (50 : Int) * (3 : Int))) (4 : Int)))
                                                                  (epOf (ptE eQ hQ)) (0 : Nat) (Raw17.epoch (x (Int.toNat (Int.tmod (IntKind.wrap IntKind.i64 ((↑i : Int) + k)) (↑n : Int)))) % (50 : Int)) a)),
                                                            FV.lit
                                                              (Value.int IntKind.i64
                                                                (updP
                                                                  (learnB (4 : Int) (3 : Nat) (epOf (ptE eQ hQ)) (0 : Int) (Raw17.epoch (x (Int.toNat (Int.tmod (IntKind.wrap IntKind.i64 ((↑i : Int) + k)) (↑n : Int)))) % (50 : Int))
                                                                    (Int.tmod (IntKind.wrap IntKind.i64 (Raw17.epoch (x (Int.toNat (Int.tmod (IntKind.wrap IntKind.i64 ((↑i : Int) + k)) (↑n : Int)))) % (50 : Int) * (3 : Int))) (4 : Int)))
                                                                  (hoOf (ptE eQ hQ)) (0 : Nat)
                                                                  (Int.tmod (IntKind.wrap IntKind.i64 (Raw17.epoch (x (Int.toNat (Int.tmod (IntKind.wrap IntKind.i64 ((↑i : Int) + k)) (↑n : Int)))) % (50 : Int) * (3 : Int))) (4 : Int))
                                                                  a))])]),
                                                ((1 : Nat),
                                                  Ob.cells
                                                    [I (4 : Int),
                                                      CV.f
                                                        (FV.fs false (2 : Nat) (3 : Nat) fun a =>
                                                          [FV.lit
                                                              (Value.int IntKind.i64
                                                                (updP
                                                                  (learnB (4 : Int) (3 : Nat) (epOf (ptE eP hP)) (0 : Int) (Raw17.epoch (x i) % (50 : Int))
                                                                    (Int.tmod (IntKind.wrap IntKind.i64 (Raw17.epoch (x i) % (50 : Int) * (3 : Int))) (4 : Int)))
                                                                  (epOf (ptE eP hP)) (0 : Nat) (Raw17.epoch (x i) % (50 : Int)) a)),
                                                            FV.lit
                                                              (Value.int IntKind.i64
                                                                (updP
                                                                  (learnB (4 : Int) (3 : Nat) (epOf (ptE eP hP)) (0 : Int) (Raw17.epoch (x i) % (50 : Int))
                                                                    (Int.tmod (IntKind.wrap IntKind.i64 (Raw17.epoch (x i) % (50 : Int) * (3 : Int))) (4 : Int)))
                                                                  (hoOf (ptE eP hP)) (0 : Nat) (Int.tmod (IntKind.wrap IntKind.i64 (Raw17.epoch (x i) % (50 : Int) * (3 : Int))) (4 : Int)) a))])]),
                                                ((3 : Nat), Ob.cells [I (if Raw17.epoch (x i) % (50 : Int) > b0 then Raw17.epoch (x i) % (50 : Int) else b0), I b1, I b2]), ((0 : Nat), Ob.cells [I (4 : Int), I (3 : Int)])],
                                            nx := (4 : Nat), esc := false, base := (0 : Nat), wr := [] : St }))
                                      T.bad)
                                    T.bad)
                                  T.bad)
                                (T.br (Raw17.shard (x (Int.toNat (Int.tmod (IntKind.wrap IntKind.i64 ((↑i : Int) + k)) (↑n : Int)))) % (3 : Int) == (1 : Int))
                                  (T.br (pb ((0 : Int) < (50 : Int) ∧ (50 : Int) ≤ (4611686018427387904 : Int)))
                                    (T.br (pb ((0 : Int) < (50 : Int) ∧ (50 : Int) ≤ (4611686018427387904 : Int)))
                                      (T.br (pb (PtN (ptE eQ hQ) false (3 : Nat)))
                                        (T.ret
                                          (Ex.normal,
                                            {
                                              sl :=
                                                [((35 : Nat),
                                                    SV.v
                                                      (AV.one
                                                        (CV.f
                                                          (FV.fs nl (3 : Nat) n fun i =>
                                                            [FV.lit (Value.int IntKind.i64 (Raw17.shard (x i))), FV.lit (Value.int IntKind.i64 (Raw17.epoch (x i))), FV.lit (Value.int IntKind.i64 (Raw17.host (x i)))])))),
                                                  ((36 : Nat), SV.v (AI (↑n : Int))), ((37 : Nat), SV.v (AI (IntKind.wrap IntKind.i64 ((↑i : Int) + (1 : Int))))), ((6 : Nat), SV.v (AP (1 : Nat))), ((7 : Nat), SV.v (AP (2 : Nat))),
                                                  ((8 : Nat), SV.v (AI k)), ((9 : Nat), SV.v (AP (3 : Nat))),
                                                  ((0 : Nat),
                                                    SV.v
                                                      (AV.one
                                                        (CV.f
                                                          (FV.fs nl (3 : Nat) n fun i =>
                                                            [FV.lit (Value.int IntKind.i64 (Raw17.shard (x i))), FV.lit (Value.int IntKind.i64 (Raw17.epoch (x i))), FV.lit (Value.int IntKind.i64 (Raw17.host (x i)))]))))],
                                              H :=
                                                [((2 : Nat),
                                                    Ob.cells
                                                      [I (4 : Int),
                                                        CV.f
                                                          (FV.fs false (2 : Nat) (3 : Nat) fun a =>
                                                            [FV.lit
                                                                (Value.int IntKind.i64
                                                                  (updP
                                                                    (learnB (4 : Int) (3 : Nat) (epOf (ptE eQ hQ)) (1 : Int) (Raw17.epoch (x (Int.toNat (Int.tmod (IntKind.wrap IntKind.i64 ((↑i : Int) + k)) (↑n : Int)))) % (50 : Int))
                                                                      (Int.tmod (IntKind.wrap IntKind.i64 (Raw17.epoch (x (Int.toNat (Int.tmod (IntKind.wrap IntKind.i64 ((↑i : Int) + k)) (↑n : Int)))) % (50 : Int) * (3 : Int))) (4 : Int)))
                                                                    (epOf (ptE eQ hQ)) (1 : Nat) (Raw17.epoch (x (Int.toNat (Int.tmod (IntKind.wrap IntKind.i64 ((↑i : Int) + k)) (↑n : Int)))) % (50 : Int)) a)),
                                                              FV.lit
                                                                (Value.int IntKind.i64
                                                                  (updP
                                                                    (learnB (4 : Int) (3 : Nat) (epOf (ptE eQ hQ)) (1 : Int) (Raw17.epoch (x (Int.toNat (Int.tmod (IntKind.wrap IntKind.i64 ((↑i : Int) + k)) (↑n : Int)))) % (50 : Int))
                                                                      (Int.tmod (IntKind.wrap IntKind.i64 (Raw17.epoch (x (Int.toNat (Int.tmod (IntKind.wrap IntKind.i64 ((↑i : Int) + k)) (↑n : Int)))) % (50 : Int) * (3 : Int))) (4 : Int)))
                                                                    (hoOf (ptE eQ hQ)) (1 : Nat)
                                                                    (Int.tmod (IntKind.wrap IntKind.i64 (Raw17.epoch (x (Int.toNat (Int.tmod (IntKind.wrap IntKind.i64 ((↑i : Int) + k)) (↑n : Int)))) % (50 : Int) * (3 : Int))) (4 : Int))
                                                                    a))])]),
                                                  ((1 : Nat),
                                                    Ob.cells
                                                      [I (4 : Int),
                                                        CV.f
                                                          (FV.fs false (2 : Nat) (3 : Nat) fun a =>
                                                            [FV.lit
                                                                (Value.int IntKind.i64
                                                                  (updP
                                                                    (learnB (4 : Int) (3 : Nat) (epOf (ptE eP hP)) (0 : Int) (Raw17.epoch (x i) % (50 : Int))
                                                                      (Int.tmod (IntKind.wrap IntKind.i64 (Raw17.epoch (x i) % (50 : Int) * (3 : Int))) (4 : Int)))
                                                                    (epOf (ptE eP hP)) (0 : Nat) (Raw17.epoch (x i) % (50 : Int)) a)),
                                                              FV.lit
                                                                (Value.int IntKind.i64
                                                                  (updP
                                                                    (learnB (4 : Int) (3 : Nat) (epOf (ptE eP hP)) (0 : Int) (Raw17.epoch (x i) % (50 : Int))
                                                                      (Int.tmod (IntKind.wrap IntKind.i64 (Raw17.epoch (x i) % (50 : Int) * (3 : Int))) (4 : Int)))
                                                                    (hoOf (ptE eP hP)) (0 : Nat) (Int.tmod (IntKind.wrap IntKind.i64 (Raw17.epoch (x i) % (50 : Int) * (3 : Int))) (4 : Int)) a))])]),
                                                  ((3 : Nat), Ob.cells [I (if Raw17.epoch (x i) % (50 : Int) > b0 then Raw17.epoch (x i) % (50 : Int) else b0), I b1, I b2]), ((0 : Nat), Ob.cells [I (4 : Int), I (3 : Int)])],
                                              nx := (4 : Nat), esc := false, base := (0 : Nat), wr := [] : St }))
                                        T.bad)
                                      T.bad)
                                    T.bad)
                                  (T.br (pb ((0 : Int) < (50 : Int) ∧ (50 : Int) ≤ (4611686018427387904 : Int)))
                                    (T.br (pb ((0 : Int) < (50 : Int) ∧ (50 : Int) ≤ (4611686018427387904 : Int)))
                                      (T.br (pb (PtN (ptE eQ hQ) false (3 : Nat)))
                                        (T.ret
                                          (Ex.normal,
                                            {
                                              sl :=
                                                [((35 : Nat),
                                                    SV.v
                                                      (AV.one
                                                        (CV.f
                                                          (FV.fs nl (3 : Nat) n fun i =>
                                                            [FV.lit (Value.int IntKind.i64 (Raw17.shard (x i))), FV.lit (Value.int IntKind.i64 (Raw17.epoch (x i))), FV.lit (Value.int IntKind.i64 (Raw17.host (x i)))])))),
                                                  ((36 : Nat), SV.v (AI (↑n : Int))), ((37 : Nat), SV.v (AI (IntKind.wrap IntKind.i64 ((↑i : Int) + (1 : Int))))), ((6 : Nat), SV.v (AP (1 : Nat))), ((7 : Nat), SV.v (AP (2 : Nat))),
                                                  ((8 : Nat), SV.v (AI k)), ((9 : Nat), SV.v (AP (3 : Nat))),
                                                  ((0 : Nat),
                                                    SV.v
                                                      (AV.one
                                                        (CV.f
                                                          (FV.fs nl (3 : Nat) n fun i =>
                                                            [FV.lit (Value.int IntKind.i64 (Raw17.shard (x i))), FV.lit (Value.int IntKind.i64 (Raw17.epoch (x i))), FV.lit (Value.int IntKind.i64 (Raw17.host (x i)))]))))],
                                              H :=
                                                [((2 : Nat),
                                                    Ob.cells
                                                      [I (4 : Int),
                                                        CV.f
                                                          (FV.fs false (2 : Nat) (3 : Nat) fun a =>
                                                            [FV.lit
                                                                (Value.int IntKind.i64
                                                                  (updP
                                                                    (learnB (4 : Int) (3 : Nat) (epOf (ptE eQ hQ)) (2 : Int) (Raw17.epoch (x (Int.toNat (Int.tmod (IntKind.wrap IntKind.i64 ((↑i : Int) + k)) (↑n : Int)))) % (50 : Int))
                                                                      (Int.tmod (IntKind.wrap IntKind.i64 (Raw17.epoch (x (Int.toNat (Int.tmod (IntKind.wrap IntKind.i64 ((↑i : Int) + k)) (↑n : Int)))) % (50 : Int) * (3 : Int))) (4 : Int)))
                                                                    (epOf (ptE eQ hQ)) (2 : Nat) (Raw17.epoch (x (Int.toNat (Int.tmod (IntKind.wrap IntKind.i64 ((↑i : Int) + k)) (↑n : Int)))) % (50 : Int)) a)),
                                                              FV.lit
                                                                (Value.int IntKind.i64
                                                                  (updP
                                                                    (learnB (4 : Int) (3 : Nat) (epOf (ptE eQ hQ)) (2 : Int) (Raw17.epoch (x (Int.toNat (Int.tmod (IntKind.wrap IntKind.i64 ((↑i : Int) + k)) (↑n : Int)))) % (50 : Int))
                                                                      (Int.tmod (IntKind.wrap IntKind.i64 (Raw17.epoch (x (Int.toNat (Int.tmod (IntKind.wrap IntKind.i64 ((↑i : Int) + k)) (↑n : Int)))) % (50 : Int) * (3 : Int))) (4 : Int)))
                                                                    (hoOf (ptE eQ hQ)) (2 : Nat)
                                                                    (Int.tmod (IntKind.wrap IntKind.i64 (Raw17.epoch (x (Int.toNat (Int.tmod (IntKind.wrap IntKind.i64 ((↑i : Int) + k)) (↑n : Int)))) % (50 : Int) * (3 : Int))) (4 : Int))
                                                                    a))])]),
                                                  ((1 : Nat),
                                                    Ob.cells
                                                      [I (4 : Int),
                                                        CV.f
                                                          (FV.fs false (2 : Nat) (3 : Nat) fun a =>
                                                            [FV.lit
                                                                (Value.int IntKind.i64
                                                                  (updP
                                                                    (learnB (4 : Int) (3 : Nat) (epOf (ptE eP hP)) (0 : Int) (Raw17.epoch (x i) % (50 : Int))
                                                                      (Int.tmod (IntKind.wrap IntKind.i64 (Raw17.epoch (x i) % (50 : Int) * (3 : Int))) (4 : Int)))
                                                                    (epOf (ptE eP hP)) (0 : Nat) (Raw17.epoch (x i) % (50 : Int)) a)),
                                                              FV.lit
                                                                (Value.int IntKind.i64
                                                                  (updP
                                                                    (learnB (4 : Int) (3 : Nat) (epOf (ptE eP hP)) (0 : Int) (Raw17.epoch (x i) % (50 : Int))
                                                                      (Int.tmod (IntKind.wrap IntKind.i64 (Raw17.epoch (x i) % (50 : Int) * (3 : Int))) (4 : Int)))
                                                                    (hoOf (ptE eP hP)) (0 : Nat) (Int.tmod (IntKind.wrap IntKind.i64 (Raw17.epoch (x i) % (50 : Int) * (3 : Int))) (4 : Int)) a))])]),
                                                  ((3 : Nat), Ob.cells [I (if Raw17.epoch (x i) % (50 : Int) > b0 then Raw17.epoch (x i) % (50 : Int) else b0), I b1, I b2]), ((0 : Nat), Ob.cells [I (4 : Int), I (3 : Int)])],
                                              nx := (4 : Nat), esc := false, base := (0 : Nat), wr := [] : St }))
                                        T.bad)
                                      T.bad)
                                    T.bad)))))
                          T.bad)
                        T.bad)
                      T.bad)
                    T.bad)
                  T.bad))
              T.bad)
            T.bad)
          (T.br (Raw17.shard (x i) % (3 : Int) == (1 : Int))
            (T.br (pb ((0 : Int) < (50 : Int) ∧ (50 : Int) ≤ (4611686018427387904 : Int)))
              (T.br (pb ((0 : Int) < (50 : Int) ∧ (50 : Int) ≤ (4611686018427387904 : Int)))
                (T.br (decide ((↑n : Int) = (0 : Int))) T.bad
                  (T.br (!nl)
                    (T.br (decide ((0 : Int) ≤ Int.tmod (IntKind.wrap IntKind.i64 ((↑i : Int) + k)) (↑n : Int) ∧ Int.tmod (IntKind.wrap IntKind.i64 ((↑i : Int) + k)) (↑n : Int) < (↑n : Int)))
                      (T.br (pb (PtN (ptE eP hP) false (3 : Nat)))
                        (T.br (pb (PtN (ptE eP hP) false (3 : Nat)))
                          (T.br
                            (pb
                              (PtN
                                (ptE
                                  (updP (learnB (4 : Int) (3 : Nat) (epOf (ptE eP hP)) (1 : Int) (Raw17.epoch (x i) % (50 : Int)) (Int.tmod (IntKind.wrap IntKind.i64 (Raw17.epoch (x i) % (50 : Int) * (3 : Int))) (4 : Int))) (epOf (ptE eP hP))
                                    (1 : Nat) (Raw17.epoch (x i) % (50 : Int)))
                                  (updP (learnB (4 : Int) (3 : Nat) (epOf (ptE eP hP)) (1 : Int) (Raw17.epoch (x i) % (50 : Int)) (Int.tmod (IntKind.wrap IntKind.i64 (Raw17.epoch (x i) % (50 : Int) * (3 : Int))) (4 : Int))) (hoOf (ptE eP hP))
                                    (1 : Nat) (Int.tmod (IntKind.wrap IntKind.i64 (Raw17.epoch (x i) % (50 : Int) * (3 : Int))) (4 : Int))))
                                false (3 : Nat)))
                            (T.br
                              (!learnB (4 : Int) (3 : Nat) (epOf (ptE eP hP)) (1 : Int) (Raw17.epoch (x i) % (50 : Int)) (Int.tmod (IntKind.wrap IntKind.i64 (Raw17.epoch (x i) % (50 : Int) * (3 : Int))) (4 : Int)) ==
                                  decide (Raw17.epoch (x i) % (50 : Int) > bif inB (3 : Nat) (1 : Int) then epOf (ptE eP hP) (1 : Nat) else (0 : Int)))
                              T.bad
                              (T.br
                                ((bif inB (3 : Nat) (1 : Int) then
                                    epOf
                                      (ptE
                                        (updP (learnB (4 : Int) (3 : Nat) (epOf (ptE eP hP)) (1 : Int) (Raw17.epoch (x i) % (50 : Int)) (Int.tmod (IntKind.wrap IntKind.i64 (Raw17.epoch (x i) % (50 : Int) * (3 : Int))) (4 : Int)))
                                          (epOf (ptE eP hP)) (1 : Nat) (Raw17.epoch (x i) % (50 : Int)))
                                        (updP (learnB (4 : Int) (3 : Nat) (epOf (ptE eP hP)) (1 : Int) (Raw17.epoch (x i) % (50 : Int)) (Int.tmod (IntKind.wrap IntKind.i64 (Raw17.epoch (x i) % (50 : Int) * (3 : Int))) (4 : Int)))
                                          (hoOf (ptE eP hP)) (1 : Nat) (Int.tmod (IntKind.wrap IntKind.i64 (Raw17.epoch (x i) % (50 : Int) * (3 : Int))) (4 : Int))))
                                      (1 : Nat)
                                  else (0 : Int)) !=
                                  if Raw17.epoch (x i) % (50 : Int) > bif inB (3 : Nat) (1 : Int) then epOf (ptE eP hP) (1 : Nat) else (0 : Int) then Raw17.epoch (x i) % (50 : Int)
                                  else bif inB (3 : Nat) (1 : Int) then epOf (ptE eP hP) (1 : Nat) else (0 : Int))
                                T.bad
                                (T.br (Raw17.shard (x (Int.toNat (Int.tmod (IntKind.wrap IntKind.i64 ((↑i : Int) + k)) (↑n : Int)))) % (3 : Int) == (0 : Int))
                                  (T.br (pb ((0 : Int) < (50 : Int) ∧ (50 : Int) ≤ (4611686018427387904 : Int)))
                                    (T.br (pb ((0 : Int) < (50 : Int) ∧ (50 : Int) ≤ (4611686018427387904 : Int)))
                                      (T.br (pb (PtN (ptE eQ hQ) false (3 : Nat)))
                                        (T.ret
                                          (Ex.normal,
                                            {
                                              sl :=
                                                [((35 : Nat),
                                                    SV.v
                                                      (AV.one
                                                        (CV.f
                                                          (FV.fs nl (3 : Nat) n fun i =>
                                                            [FV.lit (Value.int IntKind.i64 (Raw17.shard (x i))), FV.lit (Value.int IntKind.i64 (Raw17.epoch (x i))), FV.lit (Value.int IntKind.i64 (Raw17.host (x i)))])))),
                                                  ((36 : Nat), SV.v (AI (↑n : Int))), ((37 : Nat), SV.v (AI (IntKind.wrap IntKind.i64 ((↑i : Int) + (1 : Int))))), ((6 : Nat), SV.v (AP (1 : Nat))), ((7 : Nat), SV.v (AP (2 : Nat))),
                                                  ((8 : Nat), SV.v (AI k)), ((9 : Nat), SV.v (AP (3 : Nat))),
                                                  ((0 : Nat),
                                                    SV.v
                                                      (AV.one
                                                        (CV.f
                                                          (FV.fs nl (3 : Nat) n fun i =>
                                                            [FV.lit (Value.int IntKind.i64 (Raw17.shard (x i))), FV.lit (Value.int IntKind.i64 (Raw17.epoch (x i))), FV.lit (Value.int IntKind.i64 (Raw17.host (x i)))]))))],
                                              H :=
                                                [((2 : Nat),
                                                    Ob.cells
                                                      [I (4 : Int),
                                                        CV.f
                                                          (FV.fs false (2 : Nat) (3 : Nat) fun a =>
                                                            [FV.lit
                                                                (Value.int IntKind.i64
                                                                  (updP
                                                                    (learnB (4 : Int) (3 : Nat) (epOf (ptE eQ hQ)) (0 : Int) (Raw17.epoch (x (Int.toNat (Int.tmod (IntKind.wrap IntKind.i64 ((↑i : Int) + k)) (↑n : Int)))) % (50 : Int))
                                                                      (Int.tmod (IntKind.wrap IntKind.i64 (Raw17.epoch (x (Int.toNat (Int.tmod (IntKind.wrap IntKind.i64 ((↑i : Int) + k)) (↑n : Int)))) % (50 : Int) * (3 : Int))) (4 : Int)))
                                                                    (epOf (ptE eQ hQ)) (0 : Nat) (Raw17.epoch (x (Int.toNat (Int.tmod (IntKind.wrap IntKind.i64 ((↑i : Int) + k)) (↑n : Int)))) % (50 : Int)) a)),
                                                              FV.lit
                                                                (Value.int IntKind.i64
                                                                  (updP
                                                                    (learnB (4 : Int) (3 : Nat) (epOf (ptE eQ hQ)) (0 : Int) (Raw17.epoch (x (Int.toNat (Int.tmod (IntKind.wrap IntKind.i64 ((↑i : Int) + k)) (↑n : Int)))) % (50 : Int))
                                                                      (Int.tmod (IntKind.wrap IntKind.i64 (Raw17.epoch (x (Int.toNat (Int.tmod (IntKind.wrap IntKind.i64 ((↑i : Int) + k)) (↑n : Int)))) % (50 : Int) * (3 : Int))) (4 : Int)))
                                                                    (hoOf (ptE eQ hQ)) (0 : Nat)
                                                                    (Int.tmod (IntKind.wrap IntKind.i64 (Raw17.epoch (x (Int.toNat (Int.tmod (IntKind.wrap IntKind.i64 ((↑i : Int) + k)) (↑n : Int)))) % (50 : Int) * (3 : Int))) (4 : Int))
                                                                    a))])]),
                                                  ((1 : Nat),
                                                    Ob.cells
                                                      [I (4 : Int),
                                                        CV.f
                                                          (FV.fs false (2 : Nat) (3 : Nat) fun a =>
                                                            [FV.lit
                                                                (Value.int IntKind.i64
                                                                  (updP
                                                                    (learnB (4 : Int) (3 : Nat) (epOf (ptE eP hP)) (1 : Int) (Raw17.epoch (x i) % (50 : Int))
                                                                      (Int.tmod (IntKind.wrap IntKind.i64 (Raw17.epoch (x i) % (50 : Int) * (3 : Int))) (4 : Int)))
                                                                    (epOf (ptE eP hP)) (1 : Nat) (Raw17.epoch (x i) % (50 : Int)) a)),
                                                              FV.lit
                                                                (Value.int IntKind.i64
                                                                  (updP
                                                                    (learnB (4 : Int) (3 : Nat) (epOf (ptE eP hP)) (1 : Int) (Raw17.epoch (x i) % (50 : Int))
                                                                      (Int.tmod (IntKind.wrap IntKind.i64 (Raw17.epoch (x i) % (50 : Int) * (3 : Int))) (4 : Int)))
                                                                    (hoOf (ptE eP hP)) (1 : Nat) (Int.tmod (IntKind.wrap IntKind.i64 (Raw17.epoch (x i) % (50 : Int) * (3 : Int))) (4 : Int)) a))])]),
                                                  ((3 : Nat), Ob.cells [I b0, I (if Raw17.epoch (x i) % (50 : Int) > b1 then Raw17.epoch (x i) % (50 : Int) else b1), I b2]), ((0 : Nat), Ob.cells [I (4 : Int), I (3 : Int)])],
                                              nx := (4 : Nat), esc := false, base := (0 : Nat), wr := [] : St }))
                                        T.bad)
                                      T.bad)
                                    T.bad)
                                  (T.br (Raw17.shard (x (Int.toNat (Int.tmod (IntKind.wrap IntKind.i64 ((↑i : Int) + k)) (↑n : Int)))) % (3 : Int) == (1 : Int))
                                    (T.br (pb ((0 : Int) < (50 : Int) ∧ (50 : Int) ≤ (4611686018427387904 : Int)))
                                      (T.br (pb ((0 : Int) < (50 : Int) ∧ (50 : Int) ≤ (4611686018427387904 : Int)))
                                        (T.br (pb (PtN (ptE eQ hQ) false (3 : Nat)))
                                          (T.ret
                                            (Ex.normal,
                                              {
                                                sl :=
                                                  [((35 : Nat),
                                                      SV.v
                                                        (AV.one
                                                          (CV.f
                                                            (FV.fs nl (3 : Nat) n fun i =>
                                                              [FV.lit (Value.int IntKind.i64 (Raw17.shard (x i))), FV.lit (Value.int IntKind.i64 (Raw17.epoch (x i))), FV.lit (Value.int IntKind.i64 (Raw17.host (x i)))])))),
                                                    ((36 : Nat), SV.v (AI (↑n : Int))), ((37 : Nat), SV.v (AI (IntKind.wrap IntKind.i64 ((↑i : Int) + (1 : Int))))), ((6 : Nat), SV.v (AP (1 : Nat))), ((7 : Nat), SV.v (AP (2 : Nat))),
                                                    ((8 : Nat), SV.v (AI k)), ((9 : Nat), SV.v (AP (3 : Nat))),
                                                    ((0 : Nat),
                                                      SV.v
                                                        (AV.one
                                                          (CV.f
                                                            (FV.fs nl (3 : Nat) n fun i =>
                                                              [FV.lit (Value.int IntKind.i64 (Raw17.shard (x i))), FV.lit (Value.int IntKind.i64 (Raw17.epoch (x i))), FV.lit (Value.int IntKind.i64 (Raw17.host (x i)))]))))],
                                                H :=
                                                  [((2 : Nat),
                                                      Ob.cells
                                                        [I (4 : Int),
                                                          CV.f
                                                            (FV.fs false (2 : Nat) (3 : Nat) fun a =>
                                                              [FV.lit
                                                                  (Value.int IntKind.i64
                                                                    (updP
                                                                      (learnB (4 : Int) (3 : Nat) (epOf (ptE eQ hQ)) (1 : Int) (Raw17.epoch (x (Int.toNat (Int.tmod (IntKind.wrap IntKind.i64 ((↑i : Int) + k)) (↑n : Int)))) % (50 : Int))
                                                                        (Int.tmod (IntKind.wrap IntKind.i64 (Raw17.epoch (x (Int.toNat (Int.tmod (IntKind.wrap IntKind.i64 ((↑i : Int) + k)) (↑n : Int)))) % (50 : Int) * (3 : Int))) (4 : Int)))
                                                                      (epOf (ptE eQ hQ)) (1 : Nat) (Raw17.epoch (x (Int.toNat (Int.tmod (IntKind.wrap IntKind.i64 ((↑i : Int) + k)) (↑n : Int)))) % (50 : Int)) a)),
                                                                FV.lit
                                                                  (Value.int IntKind.i64
                                                                    (updP
                                                                      (learnB (4 : Int) (3 : Nat) (epOf (ptE eQ hQ)) (1 : Int) (Raw17.epoch (x (Int.toNat (Int.tmod (IntKind.wrap IntKind.i64 ((↑i : Int) + k)) (↑n : Int)))) % (50 : Int))
                                                                        (Int.tmod (IntKind.wrap IntKind.i64 (Raw17.epoch (x (Int.toNat (Int.tmod (IntKind.wrap IntKind.i64 ((↑i : Int) + k)) (↑n : Int)))) % (50 : Int) * (3 : Int))) (4 : Int)))
                                                                      (hoOf (ptE eQ hQ)) (1 : Nat)
                                                                      (Int.tmod (IntKind.wrap IntKind.i64 (Raw17.epoch (x (Int.toNat (Int.tmod (IntKind.wrap IntKind.i64 ((↑i : Int) + k)) (↑n : Int)))) % (50 : Int) * (3 : Int))) (4 : Int))
                                                                      a))])]),
                                                    ((1 : Nat),
                                                      Ob.cells
                                                        [I (4 : Int),
                                                          CV.f
                                                            (FV.fs false (2 : Nat) (3 : Nat) fun a =>
                                                              [FV.lit
                                                                  (Value.int IntKind.i64
                                                                    (updP
                                                                      (learnB (4 : Int) (3 : Nat) (epOf (ptE eP hP)) (1 : Int) (Raw17.epoch (x i) % (50 : Int))
                                                                        (Int.tmod (IntKind.wrap IntKind.i64 (Raw17.epoch (x i) % (50 : Int) * (3 : Int))) (4 : Int)))
                                                                      (epOf (ptE eP hP)) (1 : Nat) (Raw17.epoch (x i) % (50 : Int)) a)),
                                                                FV.lit
                                                                  (Value.int IntKind.i64
                                                                    (updP
                                                                      (learnB (4 : Int) (3 : Nat) (epOf (ptE eP hP)) (1 : Int) (Raw17.epoch (x i) % (50 : Int))
                                                                        (Int.tmod (IntKind.wrap IntKind.i64 (Raw17.epoch (x i) % (50 : Int) * (3 : Int))) (4 : Int)))
                                                                      (hoOf (ptE eP hP)) (1 : Nat) (Int.tmod (IntKind.wrap IntKind.i64 (Raw17.epoch (x i) % (50 : Int) * (3 : Int))) (4 : Int)) a))])]),
                                                    ((3 : Nat), Ob.cells [I b0, I (if Raw17.epoch (x i) % (50 : Int) > b1 then Raw17.epoch (x i) % (50 : Int) else b1), I b2]), ((0 : Nat), Ob.cells [I (4 : Int), I (3 : Int)])],
                                                nx := (4 : Nat), esc := false, base := (0 : Nat), wr := [] : St }))
                                          T.bad)
                                        T.bad)
                                      T.bad)
                                    (T.br (pb ((0 : Int) < (50 : Int) ∧ (50 : Int) ≤ (4611686018427387904 : Int)))
                                      (T.br (pb ((0 : Int) < (50 : Int) ∧ (50 : Int) ≤ (4611686018427387904 : Int)))
                                        (T.br (pb (PtN (ptE eQ hQ) false (3 : Nat)))
                                          (T.ret
                                            (Ex.normal,
                                              {
                                                sl :=
                                                  [((35 : Nat),
                                                      SV.v
                                                        (AV.one
                                                          (CV.f
                                                            (FV.fs nl (3 : Nat) n fun i =>
                                                              [FV.lit (Value.int IntKind.i64 (Raw17.shard (x i))), FV.lit (Value.int IntKind.i64 (Raw17.epoch (x i))), FV.lit (Value.int IntKind.i64 (Raw17.host (x i)))])))),
                                                    ((36 : Nat), SV.v (AI (↑n : Int))), ((37 : Nat), SV.v (AI (IntKind.wrap IntKind.i64 ((↑i : Int) + (1 : Int))))), ((6 : Nat), SV.v (AP (1 : Nat))), ((7 : Nat), SV.v (AP (2 : Nat))),
                                                    ((8 : Nat), SV.v (AI k)), ((9 : Nat), SV.v (AP (3 : Nat))),
                                                    ((0 : Nat),
                                                      SV.v
                                                        (AV.one
                                                          (CV.f
                                                            (FV.fs nl (3 : Nat) n fun i =>
                                                              [FV.lit (Value.int IntKind.i64 (Raw17.shard (x i))), FV.lit (Value.int IntKind.i64 (Raw17.epoch (x i))), FV.lit (Value.int IntKind.i64 (Raw17.host (x i)))]))))],
                                                H :=
                                                  [((2 : Nat),
                                                      Ob.cells
                                                        [I (4 : Int),
                                                          CV.f
                                                            (FV.fs false (2 : Nat) (3 : Nat) fun a =>
                                                              [FV.lit
                                                                  (Value.int IntKind.i64
                                                                    (updP
                                                                      (learnB (4 : Int) (3 : Nat) (epOf (ptE eQ hQ)) (2 : Int) (Raw17.epoch (x (Int.toNat (Int.tmod (IntKind.wrap IntKind.i64 ((↑i : Int) + k)) (↑n : Int)))) % (50 : Int))
                                                                        (Int.tmod (IntKind.wrap IntKind.i64 (Raw17.epoch (x (Int.toNat (Int.tmod (IntKind.wrap IntKind.i64 ((↑i : Int) + k)) (↑n : Int)))) % (50 : Int) * (3 : Int))) (4 : Int)))
                                                                      (epOf (ptE eQ hQ)) (2 : Nat) (Raw17.epoch (x (Int.toNat (Int.tmod (IntKind.wrap IntKind.i64 ((↑i : Int) + k)) (↑n : Int)))) % (50 : Int)) a)),
                                                                FV.lit
                                                                  (Value.int IntKind.i64
                                                                    (updP
                                                                      (learnB (4 : Int) (3 : Nat) (epOf (ptE eQ hQ)) (2 : Int) (Raw17.epoch (x (Int.toNat (Int.tmod (IntKind.wrap IntKind.i64 ((↑i : Int) + k)) (↑n : Int)))) % (50 : Int))
                                                                        (Int.tmod (IntKind.wrap IntKind.i64 (Raw17.epoch (x (Int.toNat (Int.tmod (IntKind.wrap IntKind.i64 ((↑i : Int) + k)) (↑n : Int)))) % (50 : Int) * (3 : Int))) (4 : Int)))
                                                                      (hoOf (ptE eQ hQ)) (2 : Nat)
                                                                      (Int.tmod (IntKind.wrap IntKind.i64 (Raw17.epoch (x (Int.toNat (Int.tmod (IntKind.wrap IntKind.i64 ((↑i : Int) + k)) (↑n : Int)))) % (50 : Int) * (3 : Int))) (4 : Int))
                                                                      a))])]),
                                                    ((1 : Nat),
                                                      Ob.cells
                                                        [I (4 : Int),
                                                          CV.f
                                                            (FV.fs false (2 : Nat) (3 : Nat) fun a =>
                                                              [FV.lit
                                                                  (Value.int IntKind.i64
                                                                    (updP
                                                                      (learnB (4 : Int) (3 : Nat) (epOf (ptE eP hP)) (1 : Int) (Raw17.epoch (x i) % (50 : Int))
                                                                        (Int.tmod (IntKind.wrap IntKind.i64 (Raw17.epoch (x i) % (50 : Int) * (3 : Int))) (4 : Int)))
                                                                      (epOf (ptE eP hP)) (1 : Nat) (Raw17.epoch (x i) % (50 : Int)) a)),
                                                                FV.lit
                                                                  (Value.int IntKind.i64
                                                                    (updP
                                                                      (learnB (4 : Int) (3 : Nat) (epOf (ptE eP hP)) (1 : Int) (Raw17.epoch (x i) % (50 : Int))
                                                                        (Int.tmod (IntKind.wrap IntKind.i64 (Raw17.epoch (x i) % (50 : Int) * (3 : Int))) (4 : Int)))
                                                                      (hoOf (ptE eP hP)) (1 : Nat) (Int.tmod (IntKind.wrap IntKind.i64 (Raw17.epoch (x i) % (50 : Int) * (3 : Int))) (4 : Int)) a))])]),
                                                    ((3 : Nat), Ob.cells [I b0, I (if Raw17.epoch (x i) % (50 : Int) > b1 then Raw17.epoch (x i) % (50 : Int) else b1), I b2]), ((0 : Nat), Ob.cells [I (4 : Int), I (3 : Int)])],
                                                nx := (4 : Nat), esc := false, base := (0 : Nat), wr := [] : St }))
                                          T.bad)
                                        T.bad)
                                      T.bad)))))
                            T.bad)
                          T.bad)
                        T.bad)
                      T.bad)
                    T.bad))
                T.bad)
              T.bad)
            (T.br (pb ((0 : Int) < (50 : Int) ∧ (50 : Int) ≤ (4611686018427387904 : Int)))
              (T.br (pb ((0 : Int) < (50 : Int) ∧ (50 : Int) ≤ (4611686018427387904 : Int)))
                (T.br (decide ((↑n : Int) = (0 : Int))) T.bad
                  (T.br (!nl)
                    (T.br (decide ((0 : Int) ≤ Int.tmod (IntKind.wrap IntKind.i64 ((↑i : Int) + k)) (↑n : Int) ∧ Int.tmod (IntKind.wrap IntKind.i64 ((↑i : Int) + k)) (↑n : Int) < (↑n : Int)))
                      (T.br (pb (PtN (ptE eP hP) false (3 : Nat)))
                        (T.br (pb (PtN (ptE eP hP) false (3 : Nat)))
                          (T.br
                            (pb
                              (PtN
                                (ptE
                                  (updP (learnB (4 : Int) (3 : Nat) (epOf (ptE eP hP)) (2 : Int) (Raw17.epoch (x i) % (50 : Int)) (Int.tmod (IntKind.wrap IntKind.i64 (Raw17.epoch (x i) % (50 : Int) * (3 : Int))) (4 : Int))) (epOf (ptE eP hP))
                                    (2 : Nat) (Raw17.epoch (x i) % (50 : Int)))
                                  (updP (learnB (4 : Int) (3 : Nat) (epOf (ptE eP hP)) (2 : Int) (Raw17.epoch (x i) % (50 : Int)) (Int.tmod (IntKind.wrap IntKind.i64 (Raw17.epoch (x i) % (50 : Int) * (3 : Int))) (4 : Int))) (hoOf (ptE eP hP))
                                    (2 : Nat) (Int.tmod (IntKind.wrap IntKind.i64 (Raw17.epoch (x i) % (50 : Int) * (3 : Int))) (4 : Int))))
                                false (3 : Nat)))
                            (T.br
                              (!learnB (4 : Int) (3 : Nat) (epOf (ptE eP hP)) (2 : Int) (Raw17.epoch (x i) % (50 : Int)) (Int.tmod (IntKind.wrap IntKind.i64 (Raw17.epoch (x i) % (50 : Int) * (3 : Int))) (4 : Int)) ==
                                  decide (Raw17.epoch (x i) % (50 : Int) > bif inB (3 : Nat) (2 : Int) then epOf (ptE eP hP) (2 : Nat) else (0 : Int)))
                              T.bad
                              (T.br
                                ((bif inB (3 : Nat) (2 : Int) then
                                    epOf
                                      (ptE
                                        (updP (learnB (4 : Int) (3 : Nat) (epOf (ptE eP hP)) (2 : Int) (Raw17.epoch (x i) % (50 : Int)) (Int.tmod (IntKind.wrap IntKind.i64 (Raw17.epoch (x i) % (50 : Int) * (3 : Int))) (4 : Int)))
                                          (epOf (ptE eP hP)) (2 : Nat) (Raw17.epoch (x i) % (50 : Int)))
                                        (updP (learnB (4 : Int) (3 : Nat) (epOf (ptE eP hP)) (2 : Int) (Raw17.epoch (x i) % (50 : Int)) (Int.tmod (IntKind.wrap IntKind.i64 (Raw17.epoch (x i) % (50 : Int) * (3 : Int))) (4 : Int)))
                                          (hoOf (ptE eP hP)) (2 : Nat) (Int.tmod (IntKind.wrap IntKind.i64 (Raw17.epoch (x i) % (50 : Int) * (3 : Int))) (4 : Int))))
                                      (2 : Nat)
                                  else (0 : Int)) !=
                                  if Raw17.epoch (x i) % (50 : Int) > bif inB (3 : Nat) (2 : Int) then epOf (ptE eP hP) (2 : Nat) else (0 : Int) then Raw17.epoch (x i) % (50 : Int)
                                  else bif inB (3 : Nat) (2 : Int) then epOf (ptE eP hP) (2 : Nat) else (0 : Int))
                                T.bad
                                (T.br (Raw17.shard (x (Int.toNat (Int.tmod (IntKind.wrap IntKind.i64 ((↑i : Int) + k)) (↑n : Int)))) % (3 : Int) == (0 : Int))
                                  (T.br (pb ((0 : Int) < (50 : Int) ∧ (50 : Int) ≤ (4611686018427387904 : Int)))
                                    (T.br (pb ((0 : Int) < (50 : Int) ∧ (50 : Int) ≤ (4611686018427387904 : Int)))
                                      (T.br (pb (PtN (ptE eQ hQ) false (3 : Nat)))
                                        (T.ret
                                          (Ex.normal,
                                            {
                                              sl :=
                                                [((35 : Nat),
                                                    SV.v
                                                      (AV.one
                                                        (CV.f
                                                          (FV.fs nl (3 : Nat) n fun i =>
                                                            [FV.lit (Value.int IntKind.i64 (Raw17.shard (x i))), FV.lit (Value.int IntKind.i64 (Raw17.epoch (x i))), FV.lit (Value.int IntKind.i64 (Raw17.host (x i)))])))),
                                                  ((36 : Nat), SV.v (AI (↑n : Int))), ((37 : Nat), SV.v (AI (IntKind.wrap IntKind.i64 ((↑i : Int) + (1 : Int))))), ((6 : Nat), SV.v (AP (1 : Nat))), ((7 : Nat), SV.v (AP (2 : Nat))),
                                                  ((8 : Nat), SV.v (AI k)), ((9 : Nat), SV.v (AP (3 : Nat))),
                                                  ((0 : Nat),
                                                    SV.v
                                                      (AV.one
                                                        (CV.f
                                                          (FV.fs nl (3 : Nat) n fun i =>
                                                            [FV.lit (Value.int IntKind.i64 (Raw17.shard (x i))), FV.lit (Value.int IntKind.i64 (Raw17.epoch (x i))), FV.lit (Value.int IntKind.i64 (Raw17.host (x i)))]))))],
                                              H :=
                                                [((2 : Nat),
                                                    Ob.cells
                                                      [I (4 : Int),
                                                        CV.f
                                                          (FV.fs false (2 : Nat) (3 : Nat) fun a =>
                                                            [FV.lit
                                                                (Value.int IntKind.i64
                                                                  (updP
                                                                    (learnB (4 : Int) (3 : Nat) (epOf (ptE eQ hQ)) (0 : Int) (Raw17.epoch (x (Int.toNat (Int.tmod (IntKind.wrap IntKind.i64 ((↑i : Int) + k)) (↑n : Int)))) % (50 : Int))
                                                                      (Int.tmod (IntKind.wrap IntKind.i64 (Raw17.epoch (x (Int.toNat (Int.tmod (IntKind.wrap IntKind.i64 ((↑i : Int) + k)) (↑n : Int)))) % (50 : Int) * (3 : Int))) (4 : Int)))
                                                                    (epOf (ptE eQ hQ)) (0 : Nat) (Raw17.epoch (x (Int.toNat (Int.tmod (IntKind.wrap IntKind.i64 ((↑i : Int) + k)) (↑n : Int)))) % (50 : Int)) a)),
                                                              FV.lit
                                                                (Value.int IntKind.i64
                                                                  (updP
                                                                    (learnB (4 : Int) (3 : Nat) (epOf (ptE eQ hQ)) (0 : Int) (Raw17.epoch (x (Int.toNat (Int.tmod (IntKind.wrap IntKind.i64 ((↑i : Int) + k)) (↑n : Int)))) % (50 : Int))
                                                                      (Int.tmod (IntKind.wrap IntKind.i64 (Raw17.epoch (x (Int.toNat (Int.tmod (IntKind.wrap IntKind.i64 ((↑i : Int) + k)) (↑n : Int)))) % (50 : Int) * (3 : Int))) (4 : Int)))
                                                                    (hoOf (ptE eQ hQ)) (0 : Nat)
                                                                    (Int.tmod (IntKind.wrap IntKind.i64 (Raw17.epoch (x (Int.toNat (Int.tmod (IntKind.wrap IntKind.i64 ((↑i : Int) + k)) (↑n : Int)))) % (50 : Int) * (3 : Int))) (4 : Int))
                                                                    a))])]),
                                                  ((1 : Nat),
                                                    Ob.cells
                                                      [I (4 : Int),
                                                        CV.f
                                                          (FV.fs false (2 : Nat) (3 : Nat) fun a =>
                                                            [FV.lit
                                                                (Value.int IntKind.i64
                                                                  (updP
                                                                    (learnB (4 : Int) (3 : Nat) (epOf (ptE eP hP)) (2 : Int) (Raw17.epoch (x i) % (50 : Int))
                                                                      (Int.tmod (IntKind.wrap IntKind.i64 (Raw17.epoch (x i) % (50 : Int) * (3 : Int))) (4 : Int)))
                                                                    (epOf (ptE eP hP)) (2 : Nat) (Raw17.epoch (x i) % (50 : Int)) a)),
                                                              FV.lit
                                                                (Value.int IntKind.i64
                                                                  (updP
                                                                    (learnB (4 : Int) (3 : Nat) (epOf (ptE eP hP)) (2 : Int) (Raw17.epoch (x i) % (50 : Int))
                                                                      (Int.tmod (IntKind.wrap IntKind.i64 (Raw17.epoch (x i) % (50 : Int) * (3 : Int))) (4 : Int)))
                                                                    (hoOf (ptE eP hP)) (2 : Nat) (Int.tmod (IntKind.wrap IntKind.i64 (Raw17.epoch (x i) % (50 : Int) * (3 : Int))) (4 : Int)) a))])]),
                                                  ((3 : Nat), Ob.cells [I b0, I b1, I (if Raw17.epoch (x i) % (50 : Int) > b2 then Raw17.epoch (x i) % (50 : Int) else b2)]), ((0 : Nat), Ob.cells [I (4 : Int), I (3 : Int)])],
                                              nx := (4 : Nat), esc := false, base := (0 : Nat), wr := [] : St }))
                                        T.bad)
                                      T.bad)
                                    T.bad)
                                  (T.br (Raw17.shard (x (Int.toNat (Int.tmod (IntKind.wrap IntKind.i64 ((↑i : Int) + k)) (↑n : Int)))) % (3 : Int) == (1 : Int))
                                    (T.br (pb ((0 : Int) < (50 : Int) ∧ (50 : Int) ≤ (4611686018427387904 : Int)))
                                      (T.br (pb ((0 : Int) < (50 : Int) ∧ (50 : Int) ≤ (4611686018427387904 : Int)))
                                        (T.br (pb (PtN (ptE eQ hQ) false (3 : Nat)))
                                          (T.ret
                                            (Ex.normal,
                                              {
                                                sl :=
                                                  [((35 : Nat),
                                                      SV.v
                                                        (AV.one
                                                          (CV.f
                                                            (FV.fs nl (3 : Nat) n fun i =>
                                                              [FV.lit (Value.int IntKind.i64 (Raw17.shard (x i))), FV.lit (Value.int IntKind.i64 (Raw17.epoch (x i))), FV.lit (Value.int IntKind.i64 (Raw17.host (x i)))])))),
                                                    ((36 : Nat), SV.v (AI (↑n : Int))), ((37 : Nat), SV.v (AI (IntKind.wrap IntKind.i64 ((↑i : Int) + (1 : Int))))), ((6 : Nat), SV.v (AP (1 : Nat))), ((7 : Nat), SV.v (AP (2 : Nat))),
                                                    ((8 : Nat), SV.v (AI k)), ((9 : Nat), SV.v (AP (3 : Nat))),
                                                    ((0 : Nat),
                                                      SV.v
                                                        (AV.one
                                                          (CV.f
                                                            (FV.fs nl (3 : Nat) n fun i =>
                                                              [FV.lit (Value.int IntKind.i64 (Raw17.shard (x i))), FV.lit (Value.int IntKind.i64 (Raw17.epoch (x i))), FV.lit (Value.int IntKind.i64 (Raw17.host (x i)))]))))],
                                                H :=
                                                  [((2 : Nat),
                                                      Ob.cells
                                                        [I (4 : Int),
                                                          CV.f
                                                            (FV.fs false (2 : Nat) (3 : Nat) fun a =>
                                                              [FV.lit
                                                                  (Value.int IntKind.i64
                                                                    (updP
                                                                      (learnB (4 : Int) (3 : Nat) (epOf (ptE eQ hQ)) (1 : Int) (Raw17.epoch (x (Int.toNat (Int.tmod (IntKind.wrap IntKind.i64 ((↑i : Int) + k)) (↑n : Int)))) % (50 : Int))
                                                                        (Int.tmod (IntKind.wrap IntKind.i64 (Raw17.epoch (x (Int.toNat (Int.tmod (IntKind.wrap IntKind.i64 ((↑i : Int) + k)) (↑n : Int)))) % (50 : Int) * (3 : Int))) (4 : Int)))
                                                                      (epOf (ptE eQ hQ)) (1 : Nat) (Raw17.epoch (x (Int.toNat (Int.tmod (IntKind.wrap IntKind.i64 ((↑i : Int) + k)) (↑n : Int)))) % (50 : Int)) a)),
                                                                FV.lit
                                                                  (Value.int IntKind.i64
                                                                    (updP
                                                                      (learnB (4 : Int) (3 : Nat) (epOf (ptE eQ hQ)) (1 : Int) (Raw17.epoch (x (Int.toNat (Int.tmod (IntKind.wrap IntKind.i64 ((↑i : Int) + k)) (↑n : Int)))) % (50 : Int))
                                                                        (Int.tmod (IntKind.wrap IntKind.i64 (Raw17.epoch (x (Int.toNat (Int.tmod (IntKind.wrap IntKind.i64 ((↑i : Int) + k)) (↑n : Int)))) % (50 : Int) * (3 : Int))) (4 : Int)))
                                                                      (hoOf (ptE eQ hQ)) (1 : Nat)
                                                                      (Int.tmod (IntKind.wrap IntKind.i64 (Raw17.epoch (x (Int.toNat (Int.tmod (IntKind.wrap IntKind.i64 ((↑i : Int) + k)) (↑n : Int)))) % (50 : Int) * (3 : Int))) (4 : Int))
                                                                      a))])]),
                                                    ((1 : Nat),
                                                      Ob.cells
                                                        [I (4 : Int),
                                                          CV.f
                                                            (FV.fs false (2 : Nat) (3 : Nat) fun a =>
                                                              [FV.lit
                                                                  (Value.int IntKind.i64
                                                                    (updP
                                                                      (learnB (4 : Int) (3 : Nat) (epOf (ptE eP hP)) (2 : Int) (Raw17.epoch (x i) % (50 : Int))
                                                                        (Int.tmod (IntKind.wrap IntKind.i64 (Raw17.epoch (x i) % (50 : Int) * (3 : Int))) (4 : Int)))
                                                                      (epOf (ptE eP hP)) (2 : Nat) (Raw17.epoch (x i) % (50 : Int)) a)),
                                                                FV.lit
                                                                  (Value.int IntKind.i64
                                                                    (updP
                                                                      (learnB (4 : Int) (3 : Nat) (epOf (ptE eP hP)) (2 : Int) (Raw17.epoch (x i) % (50 : Int))
                                                                        (Int.tmod (IntKind.wrap IntKind.i64 (Raw17.epoch (x i) % (50 : Int) * (3 : Int))) (4 : Int)))
                                                                      (hoOf (ptE eP hP)) (2 : Nat) (Int.tmod (IntKind.wrap IntKind.i64 (Raw17.epoch (x i) % (50 : Int) * (3 : Int))) (4 : Int)) a))])]),
                                                    ((3 : Nat), Ob.cells [I b0, I b1, I (if Raw17.epoch (x i) % (50 : Int) > b2 then Raw17.epoch (x i) % (50 : Int) else b2)]), ((0 : Nat), Ob.cells [I (4 : Int), I (3 : Int)])],
                                                nx := (4 : Nat), esc := false, base := (0 : Nat), wr := [] : St }))
                                          T.bad)
                                        T.bad)
                                      T.bad)
                                    (T.br (pb ((0 : Int) < (50 : Int) ∧ (50 : Int) ≤ (4611686018427387904 : Int)))
                                      (T.br (pb ((0 : Int) < (50 : Int) ∧ (50 : Int) ≤ (4611686018427387904 : Int)))
                                        (T.br (pb (PtN (ptE eQ hQ) false (3 : Nat)))
                                          (T.ret
                                            (Ex.normal,
                                              {
                                                sl :=
                                                  [((35 : Nat),
                                                      SV.v
                                                        (AV.one
                                                          (CV.f
                                                            (FV.fs nl (3 : Nat) n fun i =>
                                                              [FV.lit (Value.int IntKind.i64 (Raw17.shard (x i))), FV.lit (Value.int IntKind.i64 (Raw17.epoch (x i))), FV.lit (Value.int IntKind.i64 (Raw17.host (x i)))])))),
                                                    ((36 : Nat), SV.v (AI (↑n : Int))), ((37 : Nat), SV.v (AI (IntKind.wrap IntKind.i64 ((↑i : Int) + (1 : Int))))), ((6 : Nat), SV.v (AP (1 : Nat))), ((7 : Nat), SV.v (AP (2 : Nat))),
                                                    ((8 : Nat), SV.v (AI k)), ((9 : Nat), SV.v (AP (3 : Nat))),
                                                    ((0 : Nat),
                                                      SV.v
                                                        (AV.one
                                                          (CV.f
                                                            (FV.fs nl (3 : Nat) n fun i =>
                                                              [FV.lit (Value.int IntKind.i64 (Raw17.shard (x i))), FV.lit (Value.int IntKind.i64 (Raw17.epoch (x i))), FV.lit (Value.int IntKind.i64 (Raw17.host (x i)))]))))],
                                                H :=
                                                  [((2 : Nat),
                                                      Ob.cells
                                                        [I (4 : Int),
                                                          CV.f
                                                            (FV.fs false (2 : Nat) (3 : Nat) fun a =>
                                                              [FV.lit
                                                                  (Value.int IntKind.i64
                                                                    (updP
                                                                      (learnB (4 : Int) (3 : Nat) (epOf (ptE eQ hQ)) (2 : Int) (Raw17.epoch (x (Int.toNat (Int.tmod (IntKind.wrap IntKind.i64 ((↑i : Int) + k)) (↑n : Int)))) % (50 : Int))
                                                                        (Int.tmod (IntKind.wrap IntKind.i64 (Raw17.epoch (x (Int.toNat (Int.tmod (IntKind.wrap IntKind.i64 ((↑i : Int) + k)) (↑n : Int)))) % (50 : Int) * (3 : Int))) (4 : Int)))
                                                                      (epOf (ptE eQ hQ)) (2 : Nat) (Raw17.epoch (x (Int.toNat (Int.tmod (IntKind.wrap IntKind.i64 ((↑i : Int) + k)) (↑n : Int)))) % (50 : Int)) a)),
                                                                FV.lit
                                                                  (Value.int IntKind.i64
                                                                    (updP
                                                                      (learnB (4 : Int) (3 : Nat) (epOf (ptE eQ hQ)) (2 : Int) (Raw17.epoch (x (Int.toNat (Int.tmod (IntKind.wrap IntKind.i64 ((↑i : Int) + k)) (↑n : Int)))) % (50 : Int))
                                                                        (Int.tmod (IntKind.wrap IntKind.i64 (Raw17.epoch (x (Int.toNat (Int.tmod (IntKind.wrap IntKind.i64 ((↑i : Int) + k)) (↑n : Int)))) % (50 : Int) * (3 : Int))) (4 : Int)))
                                                                      (hoOf (ptE eQ hQ)) (2 : Nat)
                                                                      (Int.tmod (IntKind.wrap IntKind.i64 (Raw17.epoch (x (Int.toNat (Int.tmod (IntKind.wrap IntKind.i64 ((↑i : Int) + k)) (↑n : Int)))) % (50 : Int) * (3 : Int))) (4 : Int))
                                                                      a))])]),
                                                    ((1 : Nat),
                                                      Ob.cells
                                                        [I (4 : Int),
                                                          CV.f
                                                            (FV.fs false (2 : Nat) (3 : Nat) fun a =>
                                                              [FV.lit
                                                                  (Value.int IntKind.i64
                                                                    (updP
                                                                      (learnB (4 : Int) (3 : Nat) (epOf (ptE eP hP)) (2 : Int) (Raw17.epoch (x i) % (50 : Int))
                                                                        (Int.tmod (IntKind.wrap IntKind.i64 (Raw17.epoch (x i) % (50 : Int) * (3 : Int))) (4 : Int)))
                                                                      (epOf (ptE eP hP)) (2 : Nat) (Raw17.epoch (x i) % (50 : Int)) a)),
                                                                FV.lit
                                                                  (Value.int IntKind.i64
                                                                    (updP
                                                                      (learnB (4 : Int) (3 : Nat) (epOf (ptE eP hP)) (2 : Int) (Raw17.epoch (x i) % (50 : Int))
                                                                        (Int.tmod (IntKind.wrap IntKind.i64 (Raw17.epoch (x i) % (50 : Int) * (3 : Int))) (4 : Int)))
                                                                      (hoOf (ptE eP hP)) (2 : Nat) (Int.tmod (IntKind.wrap IntKind.i64 (Raw17.epoch (x i) % (50 : Int) * (3 : Int))) (4 : Int)) a))])]),
                                                    ((3 : Nat), Ob.cells [I b0, I b1, I (if Raw17.epoch (x i) % (50 : Int) > b2 then Raw17.epoch (x i) % (50 : Int) else b2)]), ((0 : Nat), Ob.cells [I (4 : Int), I (3 : Int)])],
                                                nx := (4 : Nat), esc := false, base := (0 : Nat), wr := [] : St }))
                                          T.bad)
                                        T.bad)
                                      T.bad)))))
                            T.bad)
                          T.bad)
                        T.bad)
                      T.bad)
                    T.bad))
                T.bad)
              T.bad)))
        T.bad)
      T.bad)
    (T.ret
      (Ex.exit (0 : Nat),
        { sl := [((6 : Nat), SV.v (AP (1 : Nat))), ((7 : Nat), SV.v (AP (2 : Nat))), ((9 : Nat), SV.v (AP (3 : Nat)))],
          H :=
            [((3 : Nat), Ob.cells [I b0, I b1, I b2]), ((2 : Nat), Ob.cells [I (4 : Int), CV.f (FV.fs false (2 : Nat) (3 : Nat) fun a => [FV.lit (Value.int IntKind.i64 (eQ a)), FV.lit (Value.int IntKind.i64 (hQ a))])]),
              ((1 : Nat), Ob.cells [I (4 : Int), CV.f (FV.fs false (2 : Nat) (3 : Nat) fun a => [FV.lit (Value.int IntKind.i64 (eP a)), FV.lit (Value.int IntKind.i64 (hP a))])]), ((0 : Nat), Ob.cells [I (4 : Int), I (3 : Int)])],
          nx := (4 : Nat), esc := false, base := (0 : Nat), wr := [] : St })) := by kernel_rfl
def hof (e : Int) (j : Nat) : Int := if e ≤ 1 then Int.tmod j 4 else Int.tmod (e * 3) 4
def stR (c : Raw17) (e : Nat → Int) : Nat → Int := fun j => if (j : Int) = c.shard % 3 then max (e j) (c.epoch % 50) else e j
def hofF (e : Nat → Int) : Nat → Int := fun j => hof (e j) j
def runR (x : Nat → Raw17) : Nat → (Nat → Int) → (Nat → Int)
  | 0, e => e
  | n + 1, e => stR (x n) (runR x n e)
theorem runR_le (x : Nat → Raw17) (j : Nat) (e : Nat → Int) (v : Int) : ∀ n, runR x n e j ≤ v ↔ e j ≤ v ∧ ∀ i, i < n → (j : Int) = (x i).shard % 3 → (x i).epoch % 50 ≤ v
  | 0 => ⟨fun h => ⟨h, fun i hi => absurd hi (Nat.not_lt_zero i)⟩, fun h => h.1⟩
  | n + 1 => by
    simp only [runR, stR]
    have ih := runR_le x j e v n
    constructor
    · intro h
      split at h
      · rename_i hs
        obtain ⟨h1, h2⟩ := ih.1 (by omega)
        refine ⟨h1, fun i hi hj => ?_⟩
        rcases Nat.lt_or_ge i n with hl | hl
        · exact h2 i hl hj
        · obtain rfl : i = n := by omega
          omega
      · rename_i hs
        obtain ⟨h1, h2⟩ := ih.1 h
        refine ⟨h1, fun i hi hj => ?_⟩
        rcases Nat.lt_or_ge i n with hl | hl
        · exact h2 i hl hj
        · obtain rfl : i = n := by omega
          exact absurd hj hs
    · rintro ⟨h1, h2⟩
      have h3 := ih.2 ⟨h1, fun i hi => h2 i (by omega)⟩
      split
      · rename_i hs
        have := h2 n (by omega) hs
        omega
      · exact h3
theorem le_eq {a b : Int} (h : ∀ v, a ≤ v ↔ b ≤ v) : a = b := Int.le_antisymm ((h b).2 (Int.le_refl b)) ((h a).1 (Int.le_refl a))
theorem runR_turn (x : Nat → Raw17) (n k : Nat) (hk : k ≤ n) (e : Nat → Int) (j : Nat) : runR (fun i => x ((i + k) % n)) n e j = runR x n e j := by
  refine le_eq fun v => ?_
  rw [runR_le, runR_le]
  refine and_congr_right fun _ => ⟨fun h i hi hj => ?_, fun h i hi hj => h _ (Nat.mod_lt _ (by omega)) hj⟩
  have key : ((i + (n - k)) % n + k) % n = i := by
    rcases Nat.lt_or_ge (i + (n - k)) n with h1 | h1
    · rw [Nat.mod_eq_of_lt h1, show i + (n - k) + k = i + n by omega, Nat.add_mod_right, Nat.mod_eq_of_lt hi]
    · rw [Nat.mod_eq_sub_mod h1]
      by_cases h0 : k = 0
      · subst h0
        rw [show i + (n - 0) - n = i by omega, Nat.mod_eq_of_lt hi, Nat.add_zero, Nat.mod_eq_of_lt hi]
      · rw [Nat.mod_eq_of_lt (show i + (n - k) - n < n by omega), show i + (n - k) - n + k = i by omega, Nat.mod_eq_of_lt hi]
  have := h ((i + (n - k)) % n) (Nat.mod_lt _ (by omega))
  simp only [key] at this
  exact this hj
theorem runR_best (x : Nat → Raw17) (n j : Nat) : runR x n (fun _ => 1) j = max 1 (runR x n (fun _ => 0) j) := by
  refine le_eq fun v => ?_
  rw [Int.max_le, runR_le, runR_le]
  constructor
  · rintro ⟨h1, h2⟩
    exact ⟨h1, by omega, h2⟩
  · rintro ⟨h1, _, h2⟩
    exact ⟨h1, h2⟩

end Go.Proofs.Ytabmkefbceepmaa.En
