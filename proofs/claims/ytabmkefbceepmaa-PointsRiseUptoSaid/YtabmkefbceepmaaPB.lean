/- What the client, and the document's client, come to. -/
import Derived.Test.YtabmkefbceepmaaPA
namespace Go.Proofs.Ytabmkefbceepmaa.En
open Go
set_option linter.unusedVariables false
set_option linter.unusedSimpArgs false
set_option maxRecDepth 20000
def opV (k v : Int) : ByteArray := if 1 + k % 4 = 2 ∨ 1 + k % 4 = 4 then valS (v % 6) else ⟨#[]⟩
def opO (k o : Int) : ByteArray := if 1 + k % 4 = 4 then valS (o % 6) else ⟨#[]⟩
def clampI (n : Int) : Int := max 0 (min n 3)
def hearB (wt : Bool) (ccl csq kd cl sq why : Int) : Bool := decide (wt = true ∧ kd = 9 ∧ cl = ccl ∧ sq = csq ∧ why ≠ 7 ∧ why ≠ 8)

noncomputable def GPB1 : Ctx := GS.with ss_RightOp ll0
noncomputable def tgt_Op (k y v o : Int) : T CallOut := evCallW [] GPB1 300 17 [AI k, AI y, AI v, AI o] [] 0
noncomputable def tgt_New (n : Int) : T CallOut := evCallW [0] GPB1 300 15 [AI n] [] 0
noncomputable def tgt_Waiting (ccl csq ckd : Int) (cky cvl cod : ByteArray) (wt : Bool) : T CallOut := evCallW [] GPB1 300 19 [AP 0] [(0, .cells [I ccl, I csq, I ckd, Sg cky, Sg cvl, Sg cod, Bo wt])] 1
noncomputable def tgt_Begin (ccl csq ckd : Int) (cky cvl cod : ByteArray) (wt : Bool) (k : Int) (a b c : ByteArray) : T CallOut := evCallW [0] GPB1 300 18 [AP 0, .agg [I k, Sg a, Sg b, Sg c]] [(0, .cells [I ccl, I csq, I ckd, Sg cky, Sg cvl, Sg cod, Bo wt])] 1
noncomputable def tgt_Hear (ccl csq ckd : Int) (cky cvl cod : ByteArray) (wt : Bool) (kd fr tt sh ep we lo no : Int) (dr : Bool) (cl sq ok : Int) (oky ov oo : ByteArray) (why : Int) (val : ByteArray) (ish iep : Int) : T CallOut := evCallW [0] GPB1 300 21 [AP 0, .agg [I kd, I fr, I tt, I sh, I ep, I we, I lo, I no, Bo dr, I cl, I sq, I ok, Sg oky, Sg ov, Sg oo, I why, Sg val, Nil, Nil, I ish, I iep, Nil, Nil]] [(0, .cells [I ccl, I csq, I ckd, Sg cky, Sg cvl, Sg cod, Bo wt])] 1
noncomputable def tgt_Again (ccl csq ckd : Int) (cky cvl cod : ByteArray) (wt : Bool) : T CallOut := evCallW [] GPB1 300 22 [AP 0] [(0, .cells [I ccl, I csq, I ckd, Sg cky, Sg cvl, Sg cod, Bo wt])] 1
noncomputable def tgt_NewClient (n : Int) : T CallOut := evCallW [0] GPB1 300 24 [AI n] [] 0
noncomputable def tgt_RBegin (ccl csq ckd : Int) (cky cvl cod : ByteArray) (wt : Bool) (k : Int) (a b c : ByteArray) : T CallOut := evCallW [0] GPB1 300 26 [AP 0, .agg [I k, Sg a, Sg b, Sg c]] [(0, .cells [I ccl, I csq, Bo wt, I ckd, Sg cky, Sg cvl, Sg cod])] 1
noncomputable def tgt_RHear (ccl csq ckd : Int) (cky cvl cod : ByteArray) (wt : Bool) (kd fr tt sh ep we lo no : Int) (dr : Bool) (cl sq ok : Int) (oky ov oo : ByteArray) (why : Int) (val : ByteArray) (ish iep : Int) : T CallOut := evCallW [0] GPB1 300 28 [AP 0, .agg [I kd, I fr, I tt, I sh, I ep, I we, I lo, I no, Bo dr, I cl, I sq, I ok, Sg oky, Sg ov, Sg oo, I why, Sg val, Nil, Nil, I ish, I iep, Nil, Nil]] [(0, .cells [I ccl, I csq, Bo wt, I ckd, Sg cky, Sg cvl, Sg cod])] 1
noncomputable def tgt_RAgain (ccl csq ckd : Int) (cky cvl cod : ByteArray) (wt : Bool) : T CallOut := evCallW [] GPB1 300 27 [AP 0] [(0, .cells [I ccl, I csq, Bo wt, I ckd, Sg cky, Sg cvl, Sg cod])] 1
theorem GKPB1 : KnownOk Try.prog GPB1 := KnownOk.lists ss_RightOp_ok ll0_ok
theorem tree_Op (k y v o : Int) : (tgt_Op k y v o).over (.br (.br (.tt (.tt (.tt (.tt (.br .leaf .leaf))))) (.ff (.ff (.ff (.br (.br .leaf .skip) (.br .skip .leaf)))))) .skip) =
  T.br (pb ((0 : Int) < (4 : Int) ∧ (4 : Int) ≤ (4611686018427387904 : Int)))
    (T.br (IntKind.wrap IntKind.i64 ((1 : Int) + k % (4 : Int)) == (2 : Int))
      (T.br (IntKind.wrap IntKind.i64 ((1 : Int) + k % (4 : Int)) == (4 : Int))
        (T.ret (out0 (SV.v (AV.agg [I (IntKind.wrap IntKind.i64 ((1 : Int) + k % (4 : Int))), Sg (keyS (y % (16 : Int))), Sg (valS (v % (6 : Int))), Sg (valS (o % (6 : Int)))]))))
        (T.ret (out0 (SV.v (AV.agg [I (IntKind.wrap IntKind.i64 ((1 : Int) + k % (4 : Int))), Sg (keyS (y % (16 : Int))), Sg (valS (v % (6 : Int))), Sg { data := #[] }])))))
      (T.br (IntKind.wrap IntKind.i64 ((1 : Int) + k % (4 : Int)) == (4 : Int))
        (T.br (IntKind.wrap IntKind.i64 ((1 : Int) + k % (4 : Int)) == (4 : Int))
          (T.ret (out0 (SV.v (AV.agg [I (IntKind.wrap IntKind.i64 ((1 : Int) + k % (4 : Int))), Sg (keyS (y % (16 : Int))), Sg (valS (v % (6 : Int))), Sg (valS (o % (6 : Int)))])))) T.bad)
        (T.br (IntKind.wrap IntKind.i64 ((1 : Int) + k % (4 : Int)) == (4 : Int)) T.bad
          (T.ret (out0 (SV.v (AV.agg [I (IntKind.wrap IntKind.i64 ((1 : Int) + k % (4 : Int))), Sg (keyS (y % (16 : Int))), Sg { data := #[] }, Sg { data := #[] }])))))))
    T.bad := by kernel_rfl
theorem res_Op (k y v o : Int) : (tgt_Op k y v o).res = some (out0 (.v (.agg [I (1 + k % 4), Sg (keyS (y % 16)), Sg (opV k v), Sg (opO k o)]))) := by
  refine T.over_eq _ (tree_Op k y v o) ?_
  simp only [T.res_br, T.res_ret, T.res_bad]
  have h : IntKind.wrap .i64 (1 + k % 4) = 1 + k % 4 := wrapI (by omega)
  rw [pb_true (by omega), h]
  simp only [if_true, beq_iff_eq, opV, opO]
  repeat' split
  all_goals first
    | omega
    | rfl
noncomputable def F_Op : SumF
  | [.one (.f (.lit (.int .i64 k))), .one (.f (.lit (.int .i64 y))), .one (.f (.lit (.int .i64 v))), .one (.f (.lit (.int .i64 o)))], [], 0 => .ret (out0 (.v (.agg [I (1 + k % 4), Sg (keyS (y % 16)), Sg (opV k v), Sg (opO k o)])))
  | _, _, _ => .bad
theorem sum_Op : SumOk Try.prog 17 F_Op := by
  refine ⟨fun args H nx r hr => ?_, fun args H nx => ?_⟩
  · unfold F_Op at hr
    split at hr
    · have := T.ret_some hr
      subst this
      exact evCallW_ok (GS_ok.with _ _) GKPB1 (res_Op _ _ _ _)
    · exact (T.bad_some hr).elim
  · unfold F_Op
    split
    · exact ⟨Nat.zero_le _, fun b hb hw => absurd hb (Nat.not_lt_zero b)⟩
    · trivial
noncomputable def ss_Op : List (Nat × SumF) := (17, canonSum F_Op) :: ss_RightOp
theorem ss_Op_ok : ∀ x ∈ ss_Op, SumOk Try.prog x.1 x.2 := List.forall_mem_cons.2 ⟨canonSum_ok sum_Op, ss_RightOp_ok⟩
theorem tree_New (n : Int) : (tgt_New n).over .leaf =
  T.ret
    { v := SV.v (AP (0 : Nat)),
      H :=
        [((0 : Nat),
            Ob.cells [I (if (if (3 : Int) < n then (3 : Int) else n) > (0 : Int) then if (3 : Int) < n then (3 : Int) else n else (0 : Int)), I (0 : Int), I (0 : Int), Sg { data := #[] }, Sg { data := #[] }, Sg { data := #[] }, Bo false])],
      nx := (1 : Nat), esc := false, wr := [(0 : Nat)] } := by kernel_rfl
theorem res_New (n : Int) : (tgt_New n).res = some (⟨.v (AP 0), [(0, .cells [I (clampI n), I 0, I 0, Sg ⟨#[]⟩, Sg ⟨#[]⟩, Sg ⟨#[]⟩, Bo false])], 1, false, [0]⟩) := by
  refine T.over_eq _ (tree_New n) ?_
  simp only [T.res_br, T.res_ret, T.res_bad]
  have h : (if (if (3 : Int) < n then (3 : Int) else n) > (0 : Int) then if (3 : Int) < n then (3 : Int) else n else (0 : Int)) = clampI n := by
    unfold clampI; repeat' split
    all_goals omega
  rw [h]
noncomputable def F_New : SumF
  | [.one (.f (.lit (.int .i64 n)))], [], 0 => .ret (⟨.v (AP 0), [(0, .cells [I (clampI n), I 0, I 0, Sg ⟨#[]⟩, Sg ⟨#[]⟩, Sg ⟨#[]⟩, Bo false])], 1, false, [0]⟩)
  | _, _, _ => .bad
theorem sum_New : SumOk Try.prog 15 F_New := by
  refine ⟨fun args H nx r hr => ?_, fun args H nx => ?_⟩
  · unfold F_New at hr
    split at hr
    · have := T.ret_some hr
      subst this
      exact evCallW_ok (GS_ok.with _ _) GKPB1 (res_New _)
    · exact (T.bad_some hr).elim
  · unfold F_New
    split
    · exact ⟨Nat.zero_le _, fun b hb hw => absurd hb (Nat.not_lt_zero b)⟩
    · trivial
noncomputable def ss_New : List (Nat × SumF) := (15, canonSum F_New) :: ss_Op
theorem ss_New_ok : ∀ x ∈ ss_New, SumOk Try.prog x.1 x.2 := List.forall_mem_cons.2 ⟨canonSum_ok sum_New, ss_Op_ok⟩
theorem tree_Waiting (ccl csq ckd : Int) (cky cvl cod : ByteArray) (wt : Bool) : (tgt_Waiting ccl csq ckd cky cvl cod wt).over .leaf =
  T.ret { v := SV.v (AB wt), H := [((0 : Nat), Ob.cells [I ccl, I csq, I ckd, Sg cky, Sg cvl, Sg cod, Bo wt])], nx := (1 : Nat), esc := false, wr := [] } := by kernel_rfl
theorem res_Waiting (ccl csq ckd : Int) (cky cvl cod : ByteArray) (wt : Bool) : (tgt_Waiting ccl csq ckd cky cvl cod wt).res = some (⟨.v (AB wt), [(0, .cells [I ccl, I csq, I ckd, Sg cky, Sg cvl, Sg cod, Bo wt])], 1, false, []⟩) := by
  refine T.over_eq _ (tree_Waiting ccl csq ckd cky cvl cod wt) ?_
  simp only [T.res_br, T.res_ret, T.res_bad]

noncomputable def F_Waiting : SumF
  | [.one (.ptr 0 0 0 0)], [(0, .cells [.f (.lit (.int .i64 ccl)), .f (.lit (.int .i64 csq)), .f (.lit (.int .i64 ckd)), .f (.lit (.string cky)), .f (.lit (.string cvl)), .f (.lit (.string cod)), .f (.lit (.bool wt))])], 1 => .ret (⟨.v (AB wt), [(0, .cells [I ccl, I csq, I ckd, Sg cky, Sg cvl, Sg cod, Bo wt])], 1, false, []⟩)
  | _, _, _ => .bad
theorem sum_Waiting : SumOk Try.prog 19 F_Waiting := by
  refine ⟨fun args H nx r hr => ?_, fun args H nx => ?_⟩
  · unfold F_Waiting at hr
    split at hr
    · have := T.ret_some hr
      subst this
      exact evCallW_ok (GS_ok.with _ _) GKPB1 (res_Waiting _ _ _ _ _ _ _)
    · exact (T.bad_some hr).elim
  · unfold F_Waiting
    split
    · exact ⟨by first | exact Nat.le_refl _ | (dsimp only; omega), fun b hb hw => by
        have : b = 0 := by omega
        rcases this with rfl <;> first | rfl | exact absurd (by dsimp only; decide) hw⟩
    · trivial
noncomputable def ss_Waiting : List (Nat × SumF) := (19, canonSum F_Waiting) :: ss_New
theorem ss_Waiting_ok : ∀ x ∈ ss_Waiting, SumOk Try.prog x.1 x.2 := List.forall_mem_cons.2 ⟨canonSum_ok sum_Waiting, ss_New_ok⟩
theorem tree_Begin (ccl csq ckd : Int) (cky cvl cod : ByteArray) (wt : Bool) (k : Int) (a b c : ByteArray) : (tgt_Begin ccl csq ckd cky cvl cod wt k a b c).over (.br .leaf (.br .leaf .leaf)) =
  T.br wt
    (T.ret
      { v := SV.tup [AV.agg [I (0 : Int), I (0 : Int), I (0 : Int), Sg { data := #[] }, Sg { data := #[] }, Sg { data := #[] }], AI (7 : Int)], H := [((0 : Nat), Ob.cells [I ccl, I csq, I ckd, Sg cky, Sg cvl, Sg cod, Bo wt])],
        nx := (1 : Nat), esc := false, wr := [(0 : Nat)] })
    (T.br (!rightB k a b c)
      (T.ret
        { v := SV.tup [AV.agg [I (0 : Int), I (0 : Int), I (0 : Int), Sg { data := #[] }, Sg { data := #[] }, Sg { data := #[] }], AI (1 : Int)], H := [((0 : Nat), Ob.cells [I ccl, I csq, I ckd, Sg cky, Sg cvl, Sg cod, Bo wt])],
          nx := (1 : Nat), esc := false, wr := [(0 : Nat)] })
      (T.ret
        { v := SV.tup [AV.agg [I ccl, I (IntKind.wrap IntKind.i64 (csq + (1 : Int))), I k, Sg a, Sg b, Sg c], AI (0 : Int)], H := [((0 : Nat), Ob.cells [I ccl, I (IntKind.wrap IntKind.i64 (csq + (1 : Int))), I k, Sg a, Sg b, Sg c, Bo true])],
          nx := (1 : Nat), esc := false, wr := [(0 : Nat)] })) := by kernel_rfl
theorem res_Begin (ccl csq ckd : Int) (cky cvl cod : ByteArray) (wt : Bool) (k : Int) (a b c : ByteArray) : (tgt_Begin ccl csq ckd cky cvl cod wt k a b c).res = some (⟨.tup [.agg [I (bif !wt && rightB k a b c then ccl else 0), I (bif !wt && rightB k a b c then IntKind.wrap .i64 (csq + 1) else 0), I (bif !wt && rightB k a b c then k else 0), Sg (bif !wt && rightB k a b c then a else ⟨#[]⟩), Sg (bif !wt && rightB k a b c then b else ⟨#[]⟩), Sg (bif !wt && rightB k a b c then c else ⟨#[]⟩)], AI (bif wt then 7 else bif rightB k a b c then 0 else 1)], [(0, .cells [I ccl, I (bif !wt && rightB k a b c then IntKind.wrap .i64 (csq + 1) else csq), I (bif !wt && rightB k a b c then k else ckd), Sg (bif !wt && rightB k a b c then a else cky), Sg (bif !wt && rightB k a b c then b else cvl), Sg (bif !wt && rightB k a b c then c else cod), Bo (wt || rightB k a b c)])], 1, false, [0]⟩) := by
  refine T.over_eq _ (tree_Begin ccl csq ckd cky cvl cod wt k a b c) ?_
  simp only [T.res_br, T.res_ret, T.res_bad]
  cases wt <;> cases rightB k a b c <;> rfl
noncomputable def F_Begin : SumF
  | [.one (.ptr 0 0 0 0), .agg [.f (.lit (.int .i64 k)), .f (.lit (.string a)), .f (.lit (.string b)), .f (.lit (.string c))]], [(0, .cells [.f (.lit (.int .i64 ccl)), .f (.lit (.int .i64 csq)), .f (.lit (.int .i64 ckd)), .f (.lit (.string cky)), .f (.lit (.string cvl)), .f (.lit (.string cod)), .f (.lit (.bool wt))])], 1 => .ret (⟨.tup [.agg [I (bif !wt && rightB k a b c then ccl else 0), I (bif !wt && rightB k a b c then IntKind.wrap .i64 (csq + 1) else 0), I (bif !wt && rightB k a b c then k else 0), Sg (bif !wt && rightB k a b c then a else ⟨#[]⟩), Sg (bif !wt && rightB k a b c then b else ⟨#[]⟩), Sg (bif !wt && rightB k a b c then c else ⟨#[]⟩)], AI (bif wt then 7 else bif rightB k a b c then 0 else 1)], [(0, .cells [I ccl, I (bif !wt && rightB k a b c then IntKind.wrap .i64 (csq + 1) else csq), I (bif !wt && rightB k a b c then k else ckd), Sg (bif !wt && rightB k a b c then a else cky), Sg (bif !wt && rightB k a b c then b else cvl), Sg (bif !wt && rightB k a b c then c else cod), Bo (wt || rightB k a b c)])], 1, false, [0]⟩)
  | _, _, _ => .bad
theorem sum_Begin : SumOk Try.prog 18 F_Begin := by
  refine ⟨fun args H nx r hr => ?_, fun args H nx => ?_⟩
  · unfold F_Begin at hr
    split at hr
    · have := T.ret_some hr
      subst this
      exact evCallW_ok (GS_ok.with _ _) GKPB1 (res_Begin _ _ _ _ _ _ _ _ _ _ _)
    · exact (T.bad_some hr).elim
  · unfold F_Begin
    split
    · exact ⟨by first | exact Nat.le_refl _ | (dsimp only; omega), fun b hb hw => by
        have : b = 0 := by omega
        rcases this with rfl <;> first | rfl | exact absurd (by dsimp only; decide) hw⟩
    · trivial
noncomputable def ss_Begin : List (Nat × SumF) := (18, canonSum F_Begin) :: ss_Waiting
theorem ss_Begin_ok : ∀ x ∈ ss_Begin, SumOk Try.prog x.1 x.2 := List.forall_mem_cons.2 ⟨canonSum_ok sum_Begin, ss_Waiting_ok⟩
theorem tree_Hear (ccl csq ckd : Int) (cky cvl cod : ByteArray) (wt : Bool) (kd fr tt sh ep we lo no : Int) (dr : Bool) (cl sq ok : Int) (oky ov oo : ByteArray) (why : Int) (val : ByteArray) (ish iep : Int) : (tgt_Hear ccl csq ckd cky cvl cod wt kd fr tt sh ep we lo no dr cl sq ok oky ov oo why val ish iep).over (.br (.br (.br (.br (.br (.br (.br (.br (.br (.br (.br (.br (.br (.br (.br (.br (.br (.br (.br (.br (.br (.tt (.tt (.tt (.tt (.tt (.tt (.tt (.tt (.tt (.tt (.tt (.tt (.tt .leaf))))))))))))) (.ff (.ff (.br (.tt (.tt (.tt (.tt (.tt (.tt (.tt (.tt (.tt (.tt .leaf)))))))))) (.ff (.ff (.ff (.ff (.br (.tt (.tt (.tt (.tt (.tt .leaf))))) (.ff (.ff (.ff (.ff (.br .leaf .leaf)))))))))))))) .skip) .skip) .skip) .skip) .skip) .skip) .skip) .skip) .skip) (.br .skip (.br .skip (.br .skip (.br .skip (.br .skip (.br .skip (.br .skip (.br .skip (.br .skip (.br (.tt (.tt (.tt (.tt (.tt (.tt (.tt (.tt (.tt (.tt (.tt (.tt (.tt .leaf))))))))))))) (.ff (.ff (.tt (.tt (.tt (.tt (.tt (.tt (.tt (.tt (.tt (.tt (.tt .leaf)))))))))))))))))))))))) .skip) .skip) .skip) .skip) .skip) .skip) .skip) .skip) .skip) (.br .skip (.br .skip (.br .skip (.br .skip (.br .skip (.br .skip (.br .skip (.br .skip (.br .skip (.ff (.ff (.ff (.ff (.ff (.ff (.ff (.ff (.ff (.ff (.br (.tt (.tt (.tt (.tt (.tt (.tt (.tt (.tt (.tt (.tt (.tt (.tt (.tt .leaf))))))))))))) (.ff (.ff (.tt (.tt (.tt (.tt (.tt (.tt (.tt (.tt (.tt (.tt (.tt .leaf)))))))))))))))))))))))))))))))))) =
  T.br (kd == (9 : Int))
    (T.br (kd == (9 : Int))
      (T.br (kd == (9 : Int))
        (T.br (kd == (9 : Int))
          (T.br (kd == (9 : Int))
            (T.br (kd == (9 : Int))
              (T.br (kd == (9 : Int))
                (T.br (kd == (9 : Int))
                  (T.br (kd == (9 : Int))
                    (T.br (kd == (9 : Int))
                      (T.br (cl == ccl)
                        (T.br (cl == ccl)
                          (T.br (cl == ccl)
                            (T.br (cl == ccl)
                              (T.br (cl == ccl)
                                (T.br (cl == ccl)
                                  (T.br (cl == ccl)
                                    (T.br (cl == ccl)
                                      (T.br (cl == ccl)
                                        (T.br (cl == ccl)
                                          (T.br (!wt)
                                            (T.ret
                                              { v := SV.tup [AV.agg [I (0 : Int), Sg { data := #[] }], AB false], H := [((0 : Nat), Ob.cells [I ccl, I csq, I ckd, Sg cky, Sg cvl, Sg cod, Bo wt])], nx := (1 : Nat), esc := false,
                                                wr := [(0 : Nat)] })
                                            (T.br (!sq == csq)
                                              (T.ret
                                                { v := SV.tup [AV.agg [I (0 : Int), Sg { data := #[] }], AB false], H := [((0 : Nat), Ob.cells [I ccl, I csq, I ckd, Sg cky, Sg cvl, Sg cod, Bo wt])], nx := (1 : Nat), esc := false,
                                                  wr := [(0 : Nat)] })
                                              (T.br (why == (7 : Int))
                                                (T.ret
                                                  { v := SV.tup [AV.agg [I (0 : Int), Sg { data := #[] }], AB false], H := [((0 : Nat), Ob.cells [I ccl, I csq, I ckd, Sg cky, Sg cvl, Sg cod, Bo wt])], nx := (1 : Nat), esc := false,
                                                    wr := [(0 : Nat)] })
                                                (T.br (why == (8 : Int))
                                                  (T.ret
                                                    { v := SV.tup [AV.agg [I (0 : Int), Sg { data := #[] }], AB false], H := [((0 : Nat), Ob.cells [I ccl, I csq, I ckd, Sg cky, Sg cvl, Sg cod, Bo wt])], nx := (1 : Nat), esc := false,
                                                      wr := [(0 : Nat)] })
                                                  (T.ret
                                                    { v := SV.tup [AV.agg [I why, Sg val], AB true], H := [((0 : Nat), Ob.cells [I ccl, I csq, I ckd, Sg cky, Sg cvl, Sg cod, Bo false])], nx := (1 : Nat), esc := false, wr := [(0 : Nat)] })))))
                                          T.bad)
                                        T.bad)
                                      T.bad)
                                    T.bad)
                                  T.bad)
                                T.bad)
                              T.bad)
                            T.bad)
                          T.bad)
                        (T.br (cl == ccl) T.bad
                          (T.br (cl == ccl) T.bad
                            (T.br (cl == ccl) T.bad
                              (T.br (cl == ccl) T.bad
                                (T.br (cl == ccl) T.bad
                                  (T.br (cl == ccl) T.bad
                                    (T.br (cl == ccl) T.bad
                                      (T.br (cl == ccl) T.bad
                                        (T.br (cl == ccl) T.bad
                                          (T.br (!wt)
                                            (T.ret
                                              { v := SV.tup [AV.agg [I (0 : Int), Sg { data := #[] }], AB false], H := [((0 : Nat), Ob.cells [I ccl, I csq, I ckd, Sg cky, Sg cvl, Sg cod, Bo wt])], nx := (1 : Nat), esc := false,
                                                wr := [(0 : Nat)] })
                                            (T.ret
                                              { v := SV.tup [AV.agg [I (0 : Int), Sg { data := #[] }], AB false], H := [((0 : Nat), Ob.cells [I ccl, I csq, I ckd, Sg cky, Sg cvl, Sg cod, Bo wt])], nx := (1 : Nat), esc := false,
                                                wr := [(0 : Nat)] }))))))))))))
                      T.bad)
                    T.bad)
                  T.bad)
                T.bad)
              T.bad)
            T.bad)
          T.bad)
        T.bad)
      T.bad)
    (T.br (kd == (9 : Int)) T.bad
      (T.br (kd == (9 : Int)) T.bad
        (T.br (kd == (9 : Int)) T.bad
          (T.br (kd == (9 : Int)) T.bad
            (T.br (kd == (9 : Int)) T.bad
              (T.br (kd == (9 : Int)) T.bad
                (T.br (kd == (9 : Int)) T.bad
                  (T.br (kd == (9 : Int)) T.bad
                    (T.br (kd == (9 : Int)) T.bad
                      (T.br (!wt)
                        (T.ret { v := SV.tup [AV.agg [I (0 : Int), Sg { data := #[] }], AB false], H := [((0 : Nat), Ob.cells [I ccl, I csq, I ckd, Sg cky, Sg cvl, Sg cod, Bo wt])], nx := (1 : Nat), esc := false, wr := [(0 : Nat)] })
                        (T.ret
                          { v := SV.tup [AV.agg [I (0 : Int), Sg { data := #[] }], AB false], H := [((0 : Nat), Ob.cells [I ccl, I csq, I ckd, Sg cky, Sg cvl, Sg cod, Bo wt])], nx := (1 : Nat), esc := false, wr := [(0 : Nat)] }))))))))))) := by kernel_rfl
theorem res_Hear (ccl csq ckd : Int) (cky cvl cod : ByteArray) (wt : Bool) (kd fr tt sh ep we lo no : Int) (dr : Bool) (cl sq ok : Int) (oky ov oo : ByteArray) (why : Int) (val : ByteArray) (ish iep : Int) : (tgt_Hear ccl csq ckd cky cvl cod wt kd fr tt sh ep we lo no dr cl sq ok oky ov oo why val ish iep).res = some (⟨.tup [.agg [I (bif hearB wt ccl csq kd cl sq why then why else 0), Sg (bif hearB wt ccl csq kd cl sq why then val else ⟨#[]⟩)], AB (hearB wt ccl csq kd cl sq why)], [(0, .cells [I ccl, I csq, I ckd, Sg cky, Sg cvl, Sg cod, Bo (wt && !(hearB wt ccl csq kd cl sq why))])], 1, false, [0]⟩) := by
  refine T.over_eq _ (tree_Hear ccl csq ckd cky cvl cod wt kd fr tt sh ep we lo no dr cl sq ok oky ov oo why val ish iep) ?_
  simp only [T.res_br, T.res_ret, T.res_bad]
  simp only [hearB, bne]
  by_cases h1 : kd = 9 <;> cases wt <;> by_cases h2 : cl = ccl <;> by_cases h3 : sq = csq <;> by_cases h4 : why = 7 <;> by_cases h5 : why = 8 <;> simp [h1, h2, h3, h4, h5]
noncomputable def F_Hear : SumF
  | [.one (.ptr 0 0 0 0), .agg [.f (.lit (.int .i64 kd)), .f (.lit (.int .i64 fr)), .f (.lit (.int .i64 tt)), .f (.lit (.int .i64 sh)), .f (.lit (.int .i64 ep)), .f (.lit (.int .i64 we)), .f (.lit (.int .i64 lo)), .f (.lit (.int .i64 no)), .f (.lit (.bool dr)), .f (.lit (.int .i64 cl)), .f (.lit (.int .i64 sq)), .f (.lit (.int .i64 ok)), .f (.lit (.string oky)), .f (.lit (.string ov)), .f (.lit (.string oo)), .f (.lit (.int .i64 why)), .f (.lit (.string val)), .f (.lit (.slice none 0 0)), .f (.lit (.slice none 0 0)), .f (.lit (.int .i64 ish)), .f (.lit (.int .i64 iep)), .f (.lit (.slice none 0 0)), .f (.lit (.slice none 0 0))]], [(0, .cells [.f (.lit (.int .i64 ccl)), .f (.lit (.int .i64 csq)), .f (.lit (.int .i64 ckd)), .f (.lit (.string cky)), .f (.lit (.string cvl)), .f (.lit (.string cod)), .f (.lit (.bool wt))])], 1 => .ret (⟨.tup [.agg [I (bif hearB wt ccl csq kd cl sq why then why else 0), Sg (bif hearB wt ccl csq kd cl sq why then val else ⟨#[]⟩)], AB (hearB wt ccl csq kd cl sq why)], [(0, .cells [I ccl, I csq, I ckd, Sg cky, Sg cvl, Sg cod, Bo (wt && !(hearB wt ccl csq kd cl sq why))])], 1, false, [0]⟩)
  | _, _, _ => .bad
theorem sum_Hear : SumOk Try.prog 21 F_Hear := by
  refine ⟨fun args H nx r hr => ?_, fun args H nx => ?_⟩
  · unfold F_Hear at hr
    split at hr
    · have := T.ret_some hr
      subst this
      exact evCallW_ok (GS_ok.with _ _) GKPB1 (res_Hear _ _ _ _ _ _ _ _ _ _ _ _ _ _ _ _ _ _ _ _ _ _ _ _ _ _)
    · exact (T.bad_some hr).elim
  · unfold F_Hear
    split
    · exact ⟨by first | exact Nat.le_refl _ | (dsimp only; omega), fun b hb hw => by
        have : b = 0 := by omega
        rcases this with rfl <;> first | rfl | exact absurd (by dsimp only; decide) hw⟩
    · trivial
noncomputable def ss_Hear : List (Nat × SumF) := (21, canonSum F_Hear) :: ss_Begin
theorem ss_Hear_ok : ∀ x ∈ ss_Hear, SumOk Try.prog x.1 x.2 := List.forall_mem_cons.2 ⟨canonSum_ok sum_Hear, ss_Begin_ok⟩
theorem tree_Again (ccl csq ckd : Int) (cky cvl cod : ByteArray) (wt : Bool) : (tgt_Again ccl csq ckd cky cvl cod wt).over (.br .leaf .leaf) =
  T.br (!wt)
    (T.ret
      { v := SV.tup [AV.agg [I (0 : Int), I (0 : Int), I (0 : Int), Sg { data := #[] }, Sg { data := #[] }, Sg { data := #[] }], AB false], H := [((0 : Nat), Ob.cells [I ccl, I csq, I ckd, Sg cky, Sg cvl, Sg cod, Bo wt])], nx := (1 : Nat),
        esc := false, wr := [] })
    (T.ret { v := SV.tup [AV.agg [I ccl, I csq, I ckd, Sg cky, Sg cvl, Sg cod], AB true], H := [((0 : Nat), Ob.cells [I ccl, I csq, I ckd, Sg cky, Sg cvl, Sg cod, Bo wt])], nx := (1 : Nat), esc := false, wr := [] }) := by kernel_rfl
theorem res_Again (ccl csq ckd : Int) (cky cvl cod : ByteArray) (wt : Bool) : (tgt_Again ccl csq ckd cky cvl cod wt).res = some (⟨.tup [.agg [I (bif wt then ccl else 0), I (bif wt then csq else 0), I (bif wt then ckd else 0), Sg (bif wt then cky else ⟨#[]⟩), Sg (bif wt then cvl else ⟨#[]⟩), Sg (bif wt then cod else ⟨#[]⟩)], AB wt], [(0, .cells [I ccl, I csq, I ckd, Sg cky, Sg cvl, Sg cod, Bo wt])], 1, false, []⟩) := by
  refine T.over_eq _ (tree_Again ccl csq ckd cky cvl cod wt) ?_
  simp only [T.res_br, T.res_ret, T.res_bad]
  cases wt <;> rfl
noncomputable def F_Again : SumF
  | [.one (.ptr 0 0 0 0)], [(0, .cells [.f (.lit (.int .i64 ccl)), .f (.lit (.int .i64 csq)), .f (.lit (.int .i64 ckd)), .f (.lit (.string cky)), .f (.lit (.string cvl)), .f (.lit (.string cod)), .f (.lit (.bool wt))])], 1 => .ret (⟨.tup [.agg [I (bif wt then ccl else 0), I (bif wt then csq else 0), I (bif wt then ckd else 0), Sg (bif wt then cky else ⟨#[]⟩), Sg (bif wt then cvl else ⟨#[]⟩), Sg (bif wt then cod else ⟨#[]⟩)], AB wt], [(0, .cells [I ccl, I csq, I ckd, Sg cky, Sg cvl, Sg cod, Bo wt])], 1, false, []⟩)
  | _, _, _ => .bad
theorem sum_Again : SumOk Try.prog 22 F_Again := by
  refine ⟨fun args H nx r hr => ?_, fun args H nx => ?_⟩
  · unfold F_Again at hr
    split at hr
    · have := T.ret_some hr
      subst this
      exact evCallW_ok (GS_ok.with _ _) GKPB1 (res_Again _ _ _ _ _ _ _)
    · exact (T.bad_some hr).elim
  · unfold F_Again
    split
    · exact ⟨by first | exact Nat.le_refl _ | (dsimp only; omega), fun b hb hw => by
        have : b = 0 := by omega
        rcases this with rfl <;> first | rfl | exact absurd (by dsimp only; decide) hw⟩
    · trivial
noncomputable def ss_Again : List (Nat × SumF) := (22, canonSum F_Again) :: ss_Hear
theorem ss_Again_ok : ∀ x ∈ ss_Again, SumOk Try.prog x.1 x.2 := List.forall_mem_cons.2 ⟨canonSum_ok sum_Again, ss_Hear_ok⟩
theorem tree_NewClient (n : Int) : (tgt_NewClient n).over .leaf =
  T.ret
    { v := SV.v (AP (0 : Nat)),
      H :=
        [((0 : Nat),
            Ob.cells [I (if (if n < (3 : Int) then n else (3 : Int)) > (0 : Int) then if n < (3 : Int) then n else (3 : Int) else (0 : Int)), I (0 : Int), Bo false, I (0 : Int), Sg { data := #[] }, Sg { data := #[] }, Sg { data := #[] }])],
      nx := (1 : Nat), esc := false, wr := [(0 : Nat)] } := by kernel_rfl
theorem res_NewClient (n : Int) : (tgt_NewClient n).res = some (⟨.v (AP 0), [(0, .cells [I (clampI n), I 0, Bo false, I 0, Sg ⟨#[]⟩, Sg ⟨#[]⟩, Sg ⟨#[]⟩])], 1, false, [0]⟩) := by
  refine T.over_eq _ (tree_NewClient n) ?_
  simp only [T.res_br, T.res_ret, T.res_bad]
  have h : (if (if n < (3 : Int) then n else (3 : Int)) > (0 : Int) then if n < (3 : Int) then n else (3 : Int) else (0 : Int)) = clampI n := by
    unfold clampI; repeat' split
    all_goals omega
  rw [h]
noncomputable def F_NewClient : SumF
  | [.one (.f (.lit (.int .i64 n)))], [], 0 => .ret (⟨.v (AP 0), [(0, .cells [I (clampI n), I 0, Bo false, I 0, Sg ⟨#[]⟩, Sg ⟨#[]⟩, Sg ⟨#[]⟩])], 1, false, [0]⟩)
  | _, _, _ => .bad
theorem sum_NewClient : SumOk Try.prog 24 F_NewClient := by
  refine ⟨fun args H nx r hr => ?_, fun args H nx => ?_⟩
  · unfold F_NewClient at hr
    split at hr
    · have := T.ret_some hr
      subst this
      exact evCallW_ok (GS_ok.with _ _) GKPB1 (res_NewClient _)
    · exact (T.bad_some hr).elim
  · unfold F_NewClient
    split
    · exact ⟨Nat.zero_le _, fun b hb hw => absurd hb (Nat.not_lt_zero b)⟩
    · trivial
noncomputable def ss_NewClient : List (Nat × SumF) := (24, canonSum F_NewClient) :: ss_Again
theorem ss_NewClient_ok : ∀ x ∈ ss_NewClient, SumOk Try.prog x.1 x.2 := List.forall_mem_cons.2 ⟨canonSum_ok sum_NewClient, ss_Again_ok⟩
theorem tree_RBegin (ccl csq ckd : Int) (cky cvl cod : ByteArray) (wt : Bool) (k : Int) (a b c : ByteArray) : (tgt_RBegin ccl csq ckd cky cvl cod wt k a b c).over (.br .leaf (.br .leaf .leaf)) =
  T.br wt
    (T.ret
      { v := SV.tup [AV.agg [I (0 : Int), I (0 : Int), I (0 : Int), Sg { data := #[] }, Sg { data := #[] }, Sg { data := #[] }], AI (7 : Int)], H := [((0 : Nat), Ob.cells [I ccl, I csq, Bo wt, I ckd, Sg cky, Sg cvl, Sg cod])],
        nx := (1 : Nat), esc := false, wr := [(0 : Nat)] })
    (T.br (!rightB k a b c)
      (T.ret
        { v := SV.tup [AV.agg [I (0 : Int), I (0 : Int), I (0 : Int), Sg { data := #[] }, Sg { data := #[] }, Sg { data := #[] }], AI (1 : Int)], H := [((0 : Nat), Ob.cells [I ccl, I csq, Bo wt, I ckd, Sg cky, Sg cvl, Sg cod])],
          nx := (1 : Nat), esc := false, wr := [(0 : Nat)] })
      (T.ret
        { v := SV.tup [AV.agg [I ccl, I (IntKind.wrap IntKind.i64 (csq + (1 : Int))), I k, Sg a, Sg b, Sg c], AI (0 : Int)], H := [((0 : Nat), Ob.cells [I ccl, I (IntKind.wrap IntKind.i64 (csq + (1 : Int))), Bo true, I k, Sg a, Sg b, Sg c])],
          nx := (1 : Nat), esc := false, wr := [(0 : Nat)] })) := by kernel_rfl
theorem res_RBegin (ccl csq ckd : Int) (cky cvl cod : ByteArray) (wt : Bool) (k : Int) (a b c : ByteArray) : (tgt_RBegin ccl csq ckd cky cvl cod wt k a b c).res = some (⟨.tup [.agg [I (bif !wt && rightB k a b c then ccl else 0), I (bif !wt && rightB k a b c then IntKind.wrap .i64 (csq + 1) else 0), I (bif !wt && rightB k a b c then k else 0), Sg (bif !wt && rightB k a b c then a else ⟨#[]⟩), Sg (bif !wt && rightB k a b c then b else ⟨#[]⟩), Sg (bif !wt && rightB k a b c then c else ⟨#[]⟩)], AI (bif wt then 7 else bif rightB k a b c then 0 else 1)], [(0, .cells [I ccl, I (bif !wt && rightB k a b c then IntKind.wrap .i64 (csq + 1) else csq), Bo (wt || rightB k a b c), I (bif !wt && rightB k a b c then k else ckd), Sg (bif !wt && rightB k a b c then a else cky), Sg (bif !wt && rightB k a b c then b else cvl), Sg (bif !wt && rightB k a b c then c else cod)])], 1, false, [0]⟩) := by
  refine T.over_eq _ (tree_RBegin ccl csq ckd cky cvl cod wt k a b c) ?_
  simp only [T.res_br, T.res_ret, T.res_bad]
  cases wt <;> cases rightB k a b c <;> rfl
noncomputable def F_RBegin : SumF
  | [.one (.ptr 0 0 0 0), .agg [.f (.lit (.int .i64 k)), .f (.lit (.string a)), .f (.lit (.string b)), .f (.lit (.string c))]], [(0, .cells [.f (.lit (.int .i64 ccl)), .f (.lit (.int .i64 csq)), .f (.lit (.bool wt)), .f (.lit (.int .i64 ckd)), .f (.lit (.string cky)), .f (.lit (.string cvl)), .f (.lit (.string cod))])], 1 => .ret (⟨.tup [.agg [I (bif !wt && rightB k a b c then ccl else 0), I (bif !wt && rightB k a b c then IntKind.wrap .i64 (csq + 1) else 0), I (bif !wt && rightB k a b c then k else 0), Sg (bif !wt && rightB k a b c then a else ⟨#[]⟩), Sg (bif !wt && rightB k a b c then b else ⟨#[]⟩), Sg (bif !wt && rightB k a b c then c else ⟨#[]⟩)], AI (bif wt then 7 else bif rightB k a b c then 0 else 1)], [(0, .cells [I ccl, I (bif !wt && rightB k a b c then IntKind.wrap .i64 (csq + 1) else csq), Bo (wt || rightB k a b c), I (bif !wt && rightB k a b c then k else ckd), Sg (bif !wt && rightB k a b c then a else cky), Sg (bif !wt && rightB k a b c then b else cvl), Sg (bif !wt && rightB k a b c then c else cod)])], 1, false, [0]⟩)
  | _, _, _ => .bad
theorem sum_RBegin : SumOk Try.prog 26 F_RBegin := by
  refine ⟨fun args H nx r hr => ?_, fun args H nx => ?_⟩
  · unfold F_RBegin at hr
    split at hr
    · have := T.ret_some hr
      subst this
      exact evCallW_ok (GS_ok.with _ _) GKPB1 (res_RBegin _ _ _ _ _ _ _ _ _ _ _)
    · exact (T.bad_some hr).elim
  · unfold F_RBegin
    split
    · exact ⟨by first | exact Nat.le_refl _ | (dsimp only; omega), fun b hb hw => by
        have : b = 0 := by omega
        rcases this with rfl <;> first | rfl | exact absurd (by dsimp only; decide) hw⟩
    · trivial
noncomputable def ss_RBegin : List (Nat × SumF) := (26, canonSum F_RBegin) :: ss_NewClient
theorem ss_RBegin_ok : ∀ x ∈ ss_RBegin, SumOk Try.prog x.1 x.2 := List.forall_mem_cons.2 ⟨canonSum_ok sum_RBegin, ss_NewClient_ok⟩
theorem tree_RHear (ccl csq ckd : Int) (cky cvl cod : ByteArray) (wt : Bool) (kd fr tt sh ep we lo no : Int) (dr : Bool) (cl sq ok : Int) (oky ov oo : ByteArray) (why : Int) (val : ByteArray) (ish iep : Int) : (tgt_RHear ccl csq ckd cky cvl cod wt kd fr tt sh ep we lo no dr cl sq ok oky ov oo why val ish iep).over (.br (.br (.br (.br (.br (.br (.tt (.tt (.tt (.tt (.tt (.tt (.tt (.tt (.tt (.tt (.tt (.tt (.tt (.tt (.tt (.tt (.tt (.tt (.tt (.tt (.tt (.tt (.tt (.tt (.tt (.tt (.tt (.tt (.tt .leaf))))))))))))))))))))))))))))) .skip) .skip) .skip) .skip) .skip) (.br .skip (.br .skip (.br .skip (.br .skip (.br .skip (.br (.br (.br (.br (.br (.br (.br (.br (.br (.tt (.tt (.tt (.tt (.tt (.tt (.tt (.tt (.tt (.tt (.tt (.tt (.tt (.tt (.tt (.tt (.tt (.tt (.tt (.tt .leaf)))))))))))))))))))) .skip) .skip) .skip) .skip) .skip) .skip) .skip) .skip) (.br .skip (.br .skip (.br .skip (.br .skip (.br .skip (.br .skip (.br .skip (.br .skip (.br (.br (.br (.br (.br (.br (.br (.br (.br (.tt (.tt (.tt (.tt (.tt (.tt (.tt (.tt (.tt (.tt (.tt .leaf))))))))))) .skip) .skip) .skip) .skip) .skip) .skip) .skip) .skip) (.br .skip (.br .skip (.br .skip (.br .skip (.br .skip (.br .skip (.br .skip (.br .skip (.br (.br (.br (.br (.br (.tt (.tt (.tt (.tt (.tt (.tt .leaf)))))) .skip) .skip) .skip) .skip) (.br .skip (.br .skip (.br .skip (.br .skip (.br (.br (.br (.br (.br (.tt .leaf) .skip) .skip) .skip) .skip) (.br .skip (.br .skip (.br .skip (.br .skip (.br .leaf .leaf))))))))))))))))))))))))))))))))))) =
  T.br (kd != (9 : Int))
    (T.br (kd != (9 : Int))
      (T.br (kd != (9 : Int))
        (T.br (kd != (9 : Int))
          (T.br (kd != (9 : Int))
            (T.br (kd != (9 : Int))
              (T.ret { v := SV.tup [AV.agg [I (0 : Int), Sg { data := #[] }], AB false], H := [((0 : Nat), Ob.cells [I ccl, I csq, Bo wt, I ckd, Sg cky, Sg cvl, Sg cod])], nx := (1 : Nat), esc := false, wr := [(0 : Nat)] }) T.bad)
            T.bad)
          T.bad)
        T.bad)
      T.bad)
    (T.br (kd != (9 : Int)) T.bad
      (T.br (kd != (9 : Int)) T.bad
        (T.br (kd != (9 : Int)) T.bad
          (T.br (kd != (9 : Int)) T.bad
            (T.br (kd != (9 : Int)) T.bad
              (T.br (!wt)
                (T.br (!wt)
                  (T.br (!wt)
                    (T.br (!wt)
                      (T.br (!wt)
                        (T.br (!wt)
                          (T.br (!wt)
                            (T.br (!wt)
                              (T.br (!wt)
                                (T.ret { v := SV.tup [AV.agg [I (0 : Int), Sg { data := #[] }], AB false], H := [((0 : Nat), Ob.cells [I ccl, I csq, Bo wt, I ckd, Sg cky, Sg cvl, Sg cod])], nx := (1 : Nat), esc := false, wr := [(0 : Nat)] })
                                T.bad)
                              T.bad)
                            T.bad)
                          T.bad)
                        T.bad)
                      T.bad)
                    T.bad)
                  T.bad)
                (T.br (!wt) T.bad
                  (T.br (!wt) T.bad
                    (T.br (!wt) T.bad
                      (T.br (!wt) T.bad
                        (T.br (!wt) T.bad
                          (T.br (!wt) T.bad
                            (T.br (!wt) T.bad
                              (T.br (!wt) T.bad
                                (T.br (cl != ccl)
                                  (T.br (cl != ccl)
                                    (T.br (cl != ccl)
                                      (T.br (cl != ccl)
                                        (T.br (cl != ccl)
                                          (T.br (cl != ccl)
                                            (T.br (cl != ccl)
                                              (T.br (cl != ccl)
                                                (T.br (cl != ccl)
                                                  (T.ret
                                                    { v := SV.tup [AV.agg [I (0 : Int), Sg { data := #[] }], AB false], H := [((0 : Nat), Ob.cells [I ccl, I csq, Bo wt, I ckd, Sg cky, Sg cvl, Sg cod])], nx := (1 : Nat), esc := false,
                                                      wr := [(0 : Nat)] })
                                                  T.bad)
                                                T.bad)
                                              T.bad)
                                            T.bad)
                                          T.bad)
                                        T.bad)
                                      T.bad)
                                    T.bad)
                                  (T.br (cl != ccl) T.bad
                                    (T.br (cl != ccl) T.bad
                                      (T.br (cl != ccl) T.bad
                                        (T.br (cl != ccl) T.bad
                                          (T.br (cl != ccl) T.bad
                                            (T.br (cl != ccl) T.bad
                                              (T.br (cl != ccl) T.bad
                                                (T.br (cl != ccl) T.bad
                                                  (T.br (sq != csq)
                                                    (T.br (sq != csq)
                                                      (T.br (sq != csq)
                                                        (T.br (sq != csq)
                                                          (T.br (sq != csq)
                                                            (T.ret
                                                              { v := SV.tup [AV.agg [I (0 : Int), Sg { data := #[] }], AB false], H := [((0 : Nat), Ob.cells [I ccl, I csq, Bo wt, I ckd, Sg cky, Sg cvl, Sg cod])], nx := (1 : Nat),
                                                                esc := false, wr := [(0 : Nat)] })
                                                            T.bad)
                                                          T.bad)
                                                        T.bad)
                                                      T.bad)
                                                    (T.br (sq != csq) T.bad
                                                      (T.br (sq != csq) T.bad
                                                        (T.br (sq != csq) T.bad
                                                          (T.br (sq != csq) T.bad
                                                            (T.br (why == (7 : Int))
                                                              (T.br (why == (7 : Int))
                                                                (T.br (why == (7 : Int))
                                                                  (T.br (why == (7 : Int))
                                                                    (T.br (why == (7 : Int))
                                                                      (T.ret
                                                                        { v := SV.tup [AV.agg [I (0 : Int), Sg { data := #[] }], AB false], H := [((0 : Nat), Ob.cells [I ccl, I csq, Bo wt, I ckd, Sg cky, Sg cvl, Sg cod])], nx := (1 : Nat),
                                                                          esc := false, wr := [(0 : Nat)] })
                                                                      T.bad)
                                                                    T.bad)
                                                                  T.bad)
                                                                T.bad)
                                                              (T.br (why == (7 : Int)) T.bad
                                                                (T.br (why == (7 : Int)) T.bad
                                                                  (T.br (why == (7 : Int)) T.bad
                                                                    (T.br (why == (7 : Int)) T.bad
                                                                      (T.br (why == (8 : Int))
                                                                        (T.ret
                                                                          { v := SV.tup [AV.agg [I (0 : Int), Sg { data := #[] }], AB false], H := [((0 : Nat), Ob.cells [I ccl, I csq, Bo wt, I ckd, Sg cky, Sg cvl, Sg cod])], nx := (1 : Nat),
                                                                            esc := false, wr := [(0 : Nat)] })
                                                                        (T.ret
                                                                          { v := SV.tup [AV.agg [I why, Sg val], AB true], H := [((0 : Nat), Ob.cells [I ccl, I csq, Bo false, I ckd, Sg cky, Sg cvl, Sg cod])], nx := (1 : Nat), esc := false,
                                                                            wr := [(0 : Nat)] }))))))))))))))))))))))))))))))))))) := by kernel_rfl
theorem res_RHear (ccl csq ckd : Int) (cky cvl cod : ByteArray) (wt : Bool) (kd fr tt sh ep we lo no : Int) (dr : Bool) (cl sq ok : Int) (oky ov oo : ByteArray) (why : Int) (val : ByteArray) (ish iep : Int) : (tgt_RHear ccl csq ckd cky cvl cod wt kd fr tt sh ep we lo no dr cl sq ok oky ov oo why val ish iep).res = some (⟨.tup [.agg [I (bif hearB wt ccl csq kd cl sq why then why else 0), Sg (bif hearB wt ccl csq kd cl sq why then val else ⟨#[]⟩)], AB (hearB wt ccl csq kd cl sq why)], [(0, .cells [I ccl, I csq, Bo (wt && !(hearB wt ccl csq kd cl sq why)), I ckd, Sg cky, Sg cvl, Sg cod])], 1, false, [0]⟩) := by
  refine T.over_eq _ (tree_RHear ccl csq ckd cky cvl cod wt kd fr tt sh ep we lo no dr cl sq ok oky ov oo why val ish iep) ?_
  simp only [T.res_br, T.res_ret, T.res_bad]
  simp only [hearB, bne]
  by_cases h1 : kd = 9 <;> cases wt <;> by_cases h2 : cl = ccl <;> by_cases h3 : sq = csq <;> by_cases h4 : why = 7 <;> by_cases h5 : why = 8 <;> simp [h1, h2, h3, h4, h5]
noncomputable def F_RHear : SumF
  | [.one (.ptr 0 0 0 0), .agg [.f (.lit (.int .i64 kd)), .f (.lit (.int .i64 fr)), .f (.lit (.int .i64 tt)), .f (.lit (.int .i64 sh)), .f (.lit (.int .i64 ep)), .f (.lit (.int .i64 we)), .f (.lit (.int .i64 lo)), .f (.lit (.int .i64 no)), .f (.lit (.bool dr)), .f (.lit (.int .i64 cl)), .f (.lit (.int .i64 sq)), .f (.lit (.int .i64 ok)), .f (.lit (.string oky)), .f (.lit (.string ov)), .f (.lit (.string oo)), .f (.lit (.int .i64 why)), .f (.lit (.string val)), .f (.lit (.slice none 0 0)), .f (.lit (.slice none 0 0)), .f (.lit (.int .i64 ish)), .f (.lit (.int .i64 iep)), .f (.lit (.slice none 0 0)), .f (.lit (.slice none 0 0))]], [(0, .cells [.f (.lit (.int .i64 ccl)), .f (.lit (.int .i64 csq)), .f (.lit (.bool wt)), .f (.lit (.int .i64 ckd)), .f (.lit (.string cky)), .f (.lit (.string cvl)), .f (.lit (.string cod))])], 1 => .ret (⟨.tup [.agg [I (bif hearB wt ccl csq kd cl sq why then why else 0), Sg (bif hearB wt ccl csq kd cl sq why then val else ⟨#[]⟩)], AB (hearB wt ccl csq kd cl sq why)], [(0, .cells [I ccl, I csq, Bo (wt && !(hearB wt ccl csq kd cl sq why)), I ckd, Sg cky, Sg cvl, Sg cod])], 1, false, [0]⟩)
  | _, _, _ => .bad
theorem sum_RHear : SumOk Try.prog 28 F_RHear := by
  refine ⟨fun args H nx r hr => ?_, fun args H nx => ?_⟩
  · unfold F_RHear at hr
    split at hr
    · have := T.ret_some hr
      subst this
      exact evCallW_ok (GS_ok.with _ _) GKPB1 (res_RHear _ _ _ _ _ _ _ _ _ _ _ _ _ _ _ _ _ _ _ _ _ _ _ _ _ _)
    · exact (T.bad_some hr).elim
  · unfold F_RHear
    split
    · exact ⟨by first | exact Nat.le_refl _ | (dsimp only; omega), fun b hb hw => by
        have : b = 0 := by omega
        rcases this with rfl <;> first | rfl | exact absurd (by dsimp only; decide) hw⟩
    · trivial
noncomputable def ss_RHear : List (Nat × SumF) := (28, canonSum F_RHear) :: ss_RBegin
theorem ss_RHear_ok : ∀ x ∈ ss_RHear, SumOk Try.prog x.1 x.2 := List.forall_mem_cons.2 ⟨canonSum_ok sum_RHear, ss_RBegin_ok⟩
theorem tree_RAgain (ccl csq ckd : Int) (cky cvl cod : ByteArray) (wt : Bool) : (tgt_RAgain ccl csq ckd cky cvl cod wt).over (.br .leaf .leaf) =
  T.br (!wt)
    (T.ret
      { v := SV.tup [AV.agg [I (0 : Int), I (0 : Int), I (0 : Int), Sg { data := #[] }, Sg { data := #[] }, Sg { data := #[] }], AB false], H := [((0 : Nat), Ob.cells [I ccl, I csq, Bo wt, I ckd, Sg cky, Sg cvl, Sg cod])], nx := (1 : Nat),
        esc := false, wr := [] })
    (T.ret { v := SV.tup [AV.agg [I ccl, I csq, I ckd, Sg cky, Sg cvl, Sg cod], AB true], H := [((0 : Nat), Ob.cells [I ccl, I csq, Bo wt, I ckd, Sg cky, Sg cvl, Sg cod])], nx := (1 : Nat), esc := false, wr := [] }) := by kernel_rfl
theorem res_RAgain (ccl csq ckd : Int) (cky cvl cod : ByteArray) (wt : Bool) : (tgt_RAgain ccl csq ckd cky cvl cod wt).res = some (⟨.tup [.agg [I (bif wt then ccl else 0), I (bif wt then csq else 0), I (bif wt then ckd else 0), Sg (bif wt then cky else ⟨#[]⟩), Sg (bif wt then cvl else ⟨#[]⟩), Sg (bif wt then cod else ⟨#[]⟩)], AB wt], [(0, .cells [I ccl, I csq, Bo wt, I ckd, Sg cky, Sg cvl, Sg cod])], 1, false, []⟩) := by
  refine T.over_eq _ (tree_RAgain ccl csq ckd cky cvl cod wt) ?_
  simp only [T.res_br, T.res_ret, T.res_bad]
  cases wt <;> rfl
noncomputable def F_RAgain : SumF
  | [.one (.ptr 0 0 0 0)], [(0, .cells [.f (.lit (.int .i64 ccl)), .f (.lit (.int .i64 csq)), .f (.lit (.bool wt)), .f (.lit (.int .i64 ckd)), .f (.lit (.string cky)), .f (.lit (.string cvl)), .f (.lit (.string cod))])], 1 => .ret (⟨.tup [.agg [I (bif wt then ccl else 0), I (bif wt then csq else 0), I (bif wt then ckd else 0), Sg (bif wt then cky else ⟨#[]⟩), Sg (bif wt then cvl else ⟨#[]⟩), Sg (bif wt then cod else ⟨#[]⟩)], AB wt], [(0, .cells [I ccl, I csq, Bo wt, I ckd, Sg cky, Sg cvl, Sg cod])], 1, false, []⟩)
  | _, _, _ => .bad
theorem sum_RAgain : SumOk Try.prog 27 F_RAgain := by
  refine ⟨fun args H nx r hr => ?_, fun args H nx => ?_⟩
  · unfold F_RAgain at hr
    split at hr
    · have := T.ret_some hr
      subst this
      exact evCallW_ok (GS_ok.with _ _) GKPB1 (res_RAgain _ _ _ _ _ _ _)
    · exact (T.bad_some hr).elim
  · unfold F_RAgain
    split
    · exact ⟨by first | exact Nat.le_refl _ | (dsimp only; omega), fun b hb hw => by
        have : b = 0 := by omega
        rcases this with rfl <;> first | rfl | exact absurd (by dsimp only; decide) hw⟩
    · trivial
noncomputable def ss_RAgain : List (Nat × SumF) := (27, canonSum F_RAgain) :: ss_RHear
theorem ss_RAgain_ok : ∀ x ∈ ss_RAgain, SumOk Try.prog x.1 x.2 := List.forall_mem_cons.2 ⟨canonSum_ok sum_RAgain, ss_RHear_ok⟩
end Go.Proofs.Ytabmkefbceepmaa.En
