/- Num and Req of the statements' hand. -/
import Derived.Test.YtabmkefbceepmaaPD
namespace Go.Proofs.Ytabmkefbceepmaa.En
open Go
set_option linter.unusedVariables false
set_option linter.unusedSimpArgs false
set_option maxRecDepth 20000
theorem wrapU (x : Int) : IntKind.wrap .u64 x = x % 18446744073709551616 := by
  simp [IntKind.wrap, IntKind.signed, IntKind.bits]
def numM (n : Int) : Int :=
  if n % 7 = 0 ∨ n % 7 = 1 ∨ n % 7 = 2 then IntKind.wrap .i64 (n.tdiv 7) % 40
  else if n % 7 = 3 then IntKind.wrap .i64 (IntKind.wrap .i64 (1 * 2 ^ min (IntKind.wrap .u64 (IntKind.wrap .i64 (n.tdiv 7) % 63)).toNat (IntKind.bits .i64)) - IntKind.wrap .i64 (n.tdiv 441) % 3)
  else if n % 7 = 4 then IntKind.wrap .i64 (4611686018427387903 - IntKind.wrap .i64 (n.tdiv 7) % 3)
  else if n % 7 = 5 then IntKind.wrap .i64 (n.tdiv 7) % 1000 else n
def textM (s : ByteArray) (n : Int) : ByteArray := if (s.size : Int) > n then s.extract 0 n.toNat else s
def reqC (c b : Int) : Int := if b % 16 = 15 then 0 else if b % 16 = 13 then IntKind.wrap .i64 (IntKind.wrap .i64 (b.tdiv 16) % 9 - 2) else c % 4
def reqS (s b : Int) : Int := if b % 16 = 15 then 0 else if b % 16 = 14 then numM (IntKind.wrap .i64 (b.tdiv 16)) else IntKind.wrap .i64 (1 + s % 9)
def reqK (k b : Int) : Int := if b % 16 = 15 then 0 else if b % 16 = 12 then IntKind.wrap .i64 (IntKind.wrap .i64 (b.tdiv 16) % 8 - 1) else 1 + k % 4
def reqY (y b : Int) (t : ByteArray) : ByteArray := if b % 16 = 15 then ⟨#[]⟩ else if b % 16 = 10 then textM t 12 else keyS (y % 16)
def reqV (k v b : Int) (t : ByteArray) : ByteArray := if b % 16 = 15 then ⟨#[]⟩ else if b % 16 = 11 then textM t 20 else opV k v
def reqO (k o b : Int) : ByteArray := if b % 16 = 15 then ⟨#[]⟩ else opO k o
theorem mod7 (n : Int) : n % 7 = 0 ∨ n % 7 = 1 ∨ n % 7 = 2 ∨ n % 7 = 3 ∨ n % 7 = 4 ∨ n % 7 = 5 ∨ n % 7 = 6 := by omega

noncomputable def GPE1 : Ctx := GS.with ss_known23 ll_one
noncomputable def tgt_Num (n : Int) : T CallOut := evCallW [] GPE1 300 37 [AI n] [] 0
theorem GKPE1 : KnownOk Try.prog GPE1 := KnownOk.lists ss_known23_ok ll_one_ok
theorem tree_Num (n : Int) : (tgt_Num n).over (.br (.br (.tt (.ff (.br .leaf .skip))) (.br (.tt (.ff (.br .leaf .skip))) (.br (.ff (.br .leaf .skip)) (.br (.ff (.br (.br .skip (.ff (.br .leaf .skip))) .skip)) (.br (.ff (.br .leaf .skip)) (.br (.ff (.br .leaf .skip)) .leaf)))))) .skip) =
  T.br (pb ((0 : Int) < (7 : Int) ∧ (7 : Int) ≤ (4611686018427387904 : Int)))
    (T.br (n % (7 : Int) == (0 : Int)) (T.br (pb ((0 : Int) < (40 : Int) ∧ (40 : Int) ≤ (4611686018427387904 : Int))) (T.ret (out0 (SV.v (AI (IntKind.wrap IntKind.i64 (Int.tdiv n (7 : Int)) % (40 : Int)))))) T.bad)
      (T.br (n % (7 : Int) == (1 : Int)) (T.br (pb ((0 : Int) < (40 : Int) ∧ (40 : Int) ≤ (4611686018427387904 : Int))) (T.ret (out0 (SV.v (AI (IntKind.wrap IntKind.i64 (Int.tdiv n (7 : Int)) % (40 : Int)))))) T.bad)
        (T.br (n % (7 : Int) == (2 : Int)) (T.br (pb ((0 : Int) < (40 : Int) ∧ (40 : Int) ≤ (4611686018427387904 : Int))) (T.ret (out0 (SV.v (AI (IntKind.wrap IntKind.i64 (Int.tdiv n (7 : Int)) % (40 : Int)))))) T.bad)
          (T.br (n % (7 : Int) == (3 : Int))
            (T.br (pb ((0 : Int) < (63 : Int) ∧ (63 : Int) ≤ (4611686018427387904 : Int)))
              (T.br (decide (IntKind.wrap IntKind.u64 (IntKind.wrap IntKind.i64 (Int.tdiv n (7 : Int)) % (63 : Int)) < (0 : Int))) T.bad
                (T.br (pb ((0 : Int) < (3 : Int) ∧ (3 : Int) ≤ (4611686018427387904 : Int)))
                  (T.ret
                    (out0
                      (SV.v
                        (AI
                          (IntKind.wrap IntKind.i64
                            (IntKind.wrap IntKind.i64 ((1 : Int) * (2 : Int) ^ min (Int.toNat (IntKind.wrap IntKind.u64 (IntKind.wrap IntKind.i64 (Int.tdiv n (7 : Int)) % (63 : Int)))) (64 : Nat)) -
                              IntKind.wrap IntKind.i64 (Int.tdiv n (441 : Int)) % (3 : Int)))))))
                  T.bad))
              T.bad)
            (T.br (n % (7 : Int) == (4 : Int))
              (T.br (pb ((0 : Int) < (3 : Int) ∧ (3 : Int) ≤ (4611686018427387904 : Int))) (T.ret (out0 (SV.v (AI (IntKind.wrap IntKind.i64 ((4611686018427387903 : Int) - IntKind.wrap IntKind.i64 (Int.tdiv n (7 : Int)) % (3 : Int)))))))
                T.bad)
              (T.br (n % (7 : Int) == (5 : Int)) (T.br (pb ((0 : Int) < (1000 : Int) ∧ (1000 : Int) ≤ (4611686018427387904 : Int))) (T.ret (out0 (SV.v (AI (IntKind.wrap IntKind.i64 (Int.tdiv n (7 : Int)) % (1000 : Int)))))) T.bad)
                (T.ret (out0 (SV.v (AI n))))))))))
    T.bad := by kernel_rfl
theorem res_Num (n : Int) : (tgt_Num n).res = some (out0 (.v (AI (numM n)))) := by
  refine T.over_eq _ (tree_Num n) ?_
  simp only [T.res_br, T.res_ret, T.res_bad]
  have e : decide (IntKind.wrap IntKind.u64 (IntKind.wrap IntKind.i64 (Int.tdiv n 7) % 63) < 0) = false := by
    rw [wrapU]; simp only [decide_eq_false_iff_not]; omega
  simp only [pb_true (show (0 : Int) < 7 ∧ (7 : Int) ≤ 4611686018427387904 by omega), pb_true (show (0 : Int) < 40 ∧ (40 : Int) ≤ 4611686018427387904 by omega), pb_true (show (0 : Int) < 63 ∧ (63 : Int) ≤ 4611686018427387904 by omega), pb_true (show (0 : Int) < 3 ∧ (3 : Int) ≤ 4611686018427387904 by omega), pb_true (show (0 : Int) < 1000 ∧ (1000 : Int) ≤ 4611686018427387904 by omega), if_true, e, numM]
  rcases mod7 n with h | h | h | h | h | h | h <;> rw [h] <;> rfl
noncomputable def F_Num : SumF
  | [.one (.f (.lit (.int .i64 n)))], [], 0 => .ret (out0 (.v (AI (numM n))))
  | _, _, _ => .bad
theorem sum_Num : SumOk Try.prog 37 F_Num := by
  refine ⟨fun args H nx r hr => ?_, fun args H nx => ?_⟩
  · unfold F_Num at hr
    split at hr
    · have := T.ret_some hr
      subst this
      exact evCallW_ok (GS_ok.with _ _) GKPE1 (res_Num _)
    · exact (T.bad_some hr).elim
  · unfold F_Num
    split
    · exact ⟨Nat.zero_le _, fun b hb hw => absurd hb (Nat.not_lt_zero b)⟩
    · trivial
noncomputable def ss_Num : List (Nat × SumF) := (37, canonSum F_Num) :: ss_known23
theorem ss_Num_ok : ∀ x ∈ ss_Num, SumOk Try.prog x.1 x.2 := List.forall_mem_cons.2 ⟨canonSum_ok sum_Num, ss_known23_ok⟩
noncomputable def GPE2 : Ctx := GS.with ss_Num ll_one
noncomputable def tgt_Req (k y v o c s b : Int) (t : ByteArray) : T CallOut := evCallW [] GPE2 300 25 [.agg [I k, I y, I v, I o, I c, I s, I b, Sg t]] [] 0
theorem GKPE2 : KnownOk Try.prog GPE2 := KnownOk.lists ss_Num_ok ll_one_ok
theorem tree_Req (k y v o c s b : Int) (t : ByteArray) : (tgt_Req k y v o c s b t).over (.br (.br (.br (.br (.br .leaf .skip) (.br (.br .leaf .skip) (.br (.ff (.br .leaf .skip)) (.br (.ff (.br .leaf .skip)) (.br (.ff .leaf) (.br .leaf .leaf)))))) .skip) .skip) .skip) =
  T.br (pb ((0 : Int) < (4 : Int) ∧ (4 : Int) ≤ (4611686018427387904 : Int)))
    (T.br (pb ((0 : Int) < (9 : Int) ∧ (9 : Int) ≤ (4611686018427387904 : Int)))
      (T.br (pb ((0 : Int) < (16 : Int) ∧ (16 : Int) ≤ (4611686018427387904 : Int)))
        (T.br (b % (16 : Int) == (10 : Int))
          (T.br (pb ((0 : Int) ≤ (12 : Int)))
            (T.ret
              (out0
                (SV.v
                  (AV.agg
                    [I (c % (4 : Int)), I (IntKind.wrap IntKind.i64 ((1 : Int) + s % (9 : Int))), I ((1 : Int) + k % (4 : Int)), Sg (if (↑(ByteArray.size t) : Int) > (12 : Int) then ByteArray.extract t (0 : Nat) (12 : Nat) else t),
                      Sg (opV k v), Sg (opO k o)]))))
            T.bad)
          (T.br (b % (16 : Int) == (11 : Int))
            (T.br (pb ((0 : Int) ≤ (20 : Int)))
              (T.ret
                (out0
                  (SV.v
                    (AV.agg
                      [I (c % (4 : Int)), I (IntKind.wrap IntKind.i64 ((1 : Int) + s % (9 : Int))), I ((1 : Int) + k % (4 : Int)), Sg (keyS (y % (16 : Int))),
                        Sg (if (↑(ByteArray.size t) : Int) > (20 : Int) then ByteArray.extract t (0 : Nat) (20 : Nat) else t), Sg (opO k o)]))))
              T.bad)
            (T.br (b % (16 : Int) == (12 : Int))
              (T.br (pb ((0 : Int) < (8 : Int) ∧ (8 : Int) ≤ (4611686018427387904 : Int)))
                (T.ret
                  (out0
                    (SV.v
                      (AV.agg
                        [I (c % (4 : Int)), I (IntKind.wrap IntKind.i64 ((1 : Int) + s % (9 : Int))), I (IntKind.wrap IntKind.i64 (IntKind.wrap IntKind.i64 (Int.tdiv b (16 : Int)) % (8 : Int) - (1 : Int))), Sg (keyS (y % (16 : Int))),
                          Sg (opV k v), Sg (opO k o)]))))
                T.bad)
              (T.br (b % (16 : Int) == (13 : Int))
                (T.br (pb ((0 : Int) < (9 : Int) ∧ (9 : Int) ≤ (4611686018427387904 : Int)))
                  (T.ret
                    (out0
                      (SV.v
                        (AV.agg
                          [I (IntKind.wrap IntKind.i64 (IntKind.wrap IntKind.i64 (Int.tdiv b (16 : Int)) % (9 : Int) - (2 : Int))), I (IntKind.wrap IntKind.i64 ((1 : Int) + s % (9 : Int))), I ((1 : Int) + k % (4 : Int)),
                            Sg (keyS (y % (16 : Int))), Sg (opV k v), Sg (opO k o)]))))
                  T.bad)
                (T.br (b % (16 : Int) == (14 : Int))
                  (T.ret (out0 (SV.v (AV.agg [I (c % (4 : Int)), I (numM (IntKind.wrap IntKind.i64 (Int.tdiv b (16 : Int)))), I ((1 : Int) + k % (4 : Int)), Sg (keyS (y % (16 : Int))), Sg (opV k v), Sg (opO k o)]))))
                  (T.br (b % (16 : Int) == (15 : Int)) (T.ret (out0 (SV.v (AV.agg [I (0 : Int), I (0 : Int), I (0 : Int), Sg { data := #[] }, Sg { data := #[] }, Sg { data := #[] }]))))
                    (T.ret (out0 (SV.v (AV.agg [I (c % (4 : Int)), I (IntKind.wrap IntKind.i64 ((1 : Int) + s % (9 : Int))), I ((1 : Int) + k % (4 : Int)), Sg (keyS (y % (16 : Int))), Sg (opV k v), Sg (opO k o)]))))))))))
        T.bad)
      T.bad)
    T.bad := by kernel_rfl
theorem res_Req (k y v o c s b : Int) (t : ByteArray) : (tgt_Req k y v o c s b t).res = some (out0 (.v (.agg [I (reqC c b), I (reqS s b), I (reqK k b), Sg (reqY y b t), Sg (reqV k v b t), Sg (reqO k o b)]))) := by
  refine T.over_eq _ (tree_Req k y v o c s b t) ?_
  simp only [T.res_br, T.res_ret, T.res_bad]
  simp only [pb_true (show (0 : Int) < 4 ∧ (4 : Int) ≤ 4611686018427387904 by omega), pb_true (show (0 : Int) < 9 ∧ (9 : Int) ≤ 4611686018427387904 by omega), pb_true (show (0 : Int) < 16 ∧ (16 : Int) ≤ 4611686018427387904 by omega), pb_true (show (0 : Int) < 8 ∧ (8 : Int) ≤ 4611686018427387904 by omega), pb_true (show (0 : Int) ≤ 12 by omega), pb_true (show (0 : Int) ≤ 20 by omega), if_true, reqC, reqS, reqK, reqY, reqV, reqO, textM]
  have e : IntKind.wrap .i64 (1 + s % 9) = 1 + s % 9 := wrapI (by omega)
  rcases mod16 b with h | h | h | h | h | h | h | h | h | h | h | h | h | h | h | h <;> rw [h] <;> rfl
noncomputable def F_Req : SumF
  | [.agg [.f (.lit (.int .i64 k)), .f (.lit (.int .i64 y)), .f (.lit (.int .i64 v)), .f (.lit (.int .i64 o)), .f (.lit (.int .i64 c)), .f (.lit (.int .i64 s)), .f (.lit (.int .i64 b)), .f (.lit (.string t))]], [], 0 => .ret (out0 (.v (.agg [I (reqC c b), I (reqS s b), I (reqK k b), Sg (reqY y b t), Sg (reqV k v b t), Sg (reqO k o b)])))
  | _, _, _ => .bad
theorem sum_Req : SumOk Try.prog 25 F_Req := by
  refine ⟨fun args H nx r hr => ?_, fun args H nx => ?_⟩
  · unfold F_Req at hr
    split at hr
    · have := T.ret_some hr
      subst this
      exact evCallW_ok (GS_ok.with _ _) GKPE2 (res_Req _ _ _ _ _ _ _ _)
    · exact (T.bad_some hr).elim
  · unfold F_Req
    split
    · exact ⟨Nat.zero_le _, fun b hb hw => absurd hb (Nat.not_lt_zero b)⟩
    · trivial
noncomputable def ss_Req : List (Nat × SumF) := (25, canonSum F_Req) :: ss_Num
theorem ss_Req_ok : ∀ x ∈ ss_Req, SumOk Try.prog x.1 x.2 := List.forall_mem_cons.2 ⟨canonSum_ok sum_Req, ss_Num_ok⟩
end Go.Proofs.Ytabmkefbceepmaa.En
