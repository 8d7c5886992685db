/- Views: tables that are the same. -/
import Derived.Test.YtdoehlinboiohaaUD
import Derived.Test.YtdoehlinboiohaaPD
namespace Go.Proofs.Ytdoehlinboiohaa.En
open Go
set_option linter.unusedVariables false
set_option linter.unusedSimpArgs false
set_option maxRecDepth 20000
set_option maxHeartbeats 1000000
noncomputable def sameE (n : Nat) (x : Nat → Ent) (m : Nat) (y : Nat → Ent) : Bool := pb (n = m ∧ ∀ i, i < n → eqE (x i) (y i) = true)
theorem ite_AB (b : Bool) : (if b = true then some (out0 (.v (AB true))) else some (out0 (.v (AB false)))) = some (out0 (.v (AB b))) := by cases b <;> rfl
def S_sm (nl : Bool) (n : Nat) (x : Nat → Ent) (nl2 : Bool) (n2 : Nat) (y : Nat → Ent) (i : Nat) (a : Unit) : St :=
  ⟨[(11, .v (.one (.f (.fs nl 5 n (entE x))))), (12, .v (AI n)), (13, .v (AI i)), (0, .v (.one (.f (.fs nl 5 n (entE x))))), (1, .v (.one (.f (.fs nl2 5 n2 (entE y)))))], [], 0, false, 0, []⟩

noncomputable def GUE1 : Ctx := GS.with ss_vhere ll_hi
noncomputable def tgt_sm (nl : Bool) (n : Nat) (x : Nat → Ent) (nl2 : Bool) (n2 : Nat) (y : Nat → Ent) (i : Nat) (a : Unit) : T (Ex × St) := evRound GUE1 300 34 Try.f34.ntmps (loopOf Try.f34 4) 0 [11, 12, 13, 0, 1] [4] (S_sm nl n x nl2 n2 y i a)
theorem GKUE1 : KnownOk Try.prog GUE1 := KnownOk.lists ss_vhere_ok ll_hi_ok
theorem GOUE1 : CtxOk Try.prog GUE1 := GS_ok.with _ _
theorem tree_sm (nl : Bool) (n : Nat) (x : Nat → Ent) (nl2 : Bool) (n2 : Nat) (y : Nat → Ent) (i : Nat) (a : Unit) : (tgt_sm nl n x nl2 n2 y i a).over (.br (.br (.br (.br (.br (.br .leaf .leaf) .skip) .skip) .skip) .skip) .leaf) =
  T.br (decide ((↑i : Int) < (↑n : Int))) (T.br (!nl) (T.br (decide ((0 : Int) ≤ (↑i : Int) ∧ (↑i : Int) < (↑n : Int))) (T.br (!nl2) (T.br (decide ((0 : Int) ≤ (↑i : Int) ∧ (↑i : Int) < (↑n2 : Int))) (T.br (!(Ent.inc (x i) == Ent.inc (y i) && (Ent.st (x i) == Ent.st (y i) && (Ent.stamp (x i) == Ent.stamp (y i) && (Ent.load (x i) == Ent.load (y i) && (Ent.dr (x i) == Ent.dr (y i) && true)))))) (T.ret (Ex.ret, { sl := [((4 : Nat), SV.v (AB false))], H := [], nx := (0 : Nat), esc := false, base := (0 : Nat), wr := [] : St })) (T.ret (Ex.normal, { sl := [((11 : Nat), SV.v (AV.one (CV.f (FV.fs nl (5 : Nat) n fun a => [FV.lit (Value.int IntKind.i64 (Ent.inc (x a))), FV.lit (Value.int IntKind.i64 (Ent.st (x a))), FV.lit (Value.int IntKind.i64 (Ent.stamp (x a))), FV.lit (Value.int IntKind.i64 (Ent.load (x a))), FV.lit (Value.bool (Ent.dr (x a)))])))), ((12 : Nat), SV.v (AI (↑n : Int))), ((13 : Nat), SV.v (AI (IntKind.wrap IntKind.i64 ((↑i : Int) + (1 : Int))))), ((0 : Nat), SV.v (AV.one (CV.f (FV.fs nl (5 : Nat) n fun a => [FV.lit (Value.int IntKind.i64 (Ent.inc (x a))), FV.lit (Value.int IntKind.i64 (Ent.st (x a))), FV.lit (Value.int IntKind.i64 (Ent.stamp (x a))), FV.lit (Value.int IntKind.i64 (Ent.load (x a))), FV.lit (Value.bool (Ent.dr (x a)))])))), ((1 : Nat), SV.v (AV.one (CV.f (FV.fs nl2 (5 : Nat) n2 fun a => [FV.lit (Value.int IntKind.i64 (Ent.inc (y a))), FV.lit (Value.int IntKind.i64 (Ent.st (y a))), FV.lit (Value.int IntKind.i64 (Ent.stamp (y a))), FV.lit (Value.int IntKind.i64 (Ent.load (y a))), FV.lit (Value.bool (Ent.dr (y a)))]))))], H := [], nx := (0 : Nat), esc := false, base := (0 : Nat), wr := [] : St }))) T.bad) T.bad) T.bad) T.bad) (T.ret (Ex.exit (0 : Nat), { sl := [], H := [], nx := (0 : Nat), esc := false, base := (0 : Nat), wr := [] : St })) := by kernel_rfl
theorem loop_sm (nl : Bool) (n : Nat) (x : Nat → Ent) (nl2 : Bool) (n2 : Nat) (y : Nat → Ent) (hb : (n : Int) ≤ 9223372036854775807) (hnl : nl = true → n = 0) (hn : n2 = n) (hnl2 : nl2 = true → n2 = 0) {st0 : St} (h0 : StLe 0 st0 (S_sm nl n x nl2 n2 y 0 ())) (hnx : st0.nx = 0) :
    CodeOk Try.prog Try.f34.ntmps (.loop (loopOf Try.f34 4)) st0 (foldX (allF (fun i => eqE (x i) (y i)) (Ex.ret, (⟨[(4, .v (AB false))], [], 0, false, 0, []⟩ : St))) (fun _ => (Ex.exit 0, ⟨[], [], 0, false, 0, []⟩)) n 0 ()).1
      (foldX (allF (fun i => eqE (x i) (y i)) (Ex.ret, (⟨[(4, .v (AB false))], [], 0, false, 0, []⟩ : St))) (fun _ => (Ex.exit 0, ⟨[], [], 0, false, 0, []⟩)) n 0 ()).2 := by
  refine for_loop GOUE1 GKUE1 (K := 300) (F := 34) (m := 0) (live := [11, 12, 13, 0, 1]) (after := [4]) (S_sm nl n x nl2 n2 y) n _ _ (fun _ _ => True) (fun i a hi _ => ?_) (fun a _ => ?_) (fun i a => Nat.zero_le _) (Nat.zero_le _) trivial h0 hnx
  · have e1 : ((i : Int) < (n : Int)) := by omega
    have e2 : (0 : Int) ≤ (i : Int) ∧ (i : Int) < (n : Int) := by omega
    have e2' : (0 : Int) ≤ (i : Int) ∧ (i : Int) < (n2 : Int) := by omega
    have e3 : IntKind.wrap .i64 ((i : Int) + 1) = ((i + 1 : Nat) : Int) := by rw [wrapI (by omega)]; rfl
    obtain rfl : nl = false := by cases nl <;> simp_all <;> omega
    obtain rfl : nl2 = false := by cases nl2 <;> simp_all <;> omega
    have ee : (Ent.inc (x i) == Ent.inc (y i) && (Ent.st (x i) == Ent.st (y i) && (Ent.stamp (x i) == Ent.stamp (y i) && (Ent.load (x i) == Ent.load (y i) && (Ent.dr (x i) == Ent.dr (y i) && true))))) = eqE (x i) (y i) := rfl
    cases hq : eqE (x i) (y i) with
    | true =>
      refine ⟨.normal, _, T.over_eq _ (tree_sm false n x false n2 y i a) ?_, by simp only [allF, hq]; exact ⟨trivial, StLe.refl (Nat.zero_le _), trivial⟩⟩
      simp only [T.res_br, T.res_ret, T.res_bad, decide_eq_true_eq, e1, e2, e2', e3, ee, hq, Bool.not_false, Bool.not_true, Bool.false_eq_true, reduceIte, and_self]
      rfl
    | false =>
      refine ⟨.ret, _, T.over_eq _ (tree_sm false n x false n2 y i a) ?_, by simp only [allF, hq]; exact ⟨by simp, trivial, StLe.refl (Nat.zero_le _)⟩⟩
      simp only [T.res_br, T.res_ret, T.res_bad, decide_eq_true_eq, e1, e2, e2', e3, ee, hq, Bool.not_false, Bool.not_true, Bool.false_eq_true, reduceIte, and_self]
  · refine ⟨.exit 0, _, T.over_eq _ (tree_sm nl n x nl2 n2 y n a) ?_, by simp, rfl, StLe.refl (Nat.zero_le _)⟩
    simp only [T.res_br, T.res_ret, T.res_bad, decide_eq_true_eq, Int.lt_irrefl, reduceIte]
noncomputable def L_sm : LoopF := mkLoopF [11, 12, 13, 0, 1] (loopOf Try.f34 4) Try.f34.ntmps fun sl H nx => match sl, H, nx with
  | [(11, .v (.one (.f (.fs nl 5 n e)))), (12, .v (.one (.f (.lit (.int .i64 k))))), (13, .v (.one (.f (.lit (.int .i64 i))))), (0, .v (.one (.f (.fs nl0 5 n0 e0)))), (1, .v (.one (.f (.fs nl2 5 n2 e2))))], [], 0 =>
    .need (pb (EntS nl n e ∧ EntS nl2 n2 e2 ∧ k = n ∧ i = 0 ∧ n2 = n ∧ nl = nl0 ∧ n = n0 ∧ e = e0))
      (.br (pb (∀ i, i < n → eqE (entOf e i) (entOf e2 i) = true)) (.ret (.exit 0, [], [], 0, false)) (.ret (.ret, [(4, .v (AB false))], [], 0, false)))
  | _, _, _ => .bad
theorem L_sm_ok : LoopOk Try.prog L_sm := by
  refine mkLoopF_ok fun sl H nx e sl' H' nx' esc' h => ?_
  split at h
  · rename_i nl n e k i nl0 n0 e0 nl2 n2 e2
    obtain ⟨hp, hr⟩ := T.need_some h
    obtain ⟨⟨⟨x, rfl⟩, h1, h2⟩, ⟨⟨y, rfl⟩, h3, h4⟩, rfl, rfl, hn, rfl, rfl, rfl⟩ := pb_of hp
    have key := loop_sm _ _ x _ _ y h1 h2 hn h4 (st0 := S_sm nl n x nl2 n2 y 0 ()) (StLe.refl (Nat.zero_le _)) rfl
    rcases T.br_some hr with ⟨hc, hr⟩ | ⟨hc, hr⟩
    · have := T.ret_some hr
      simp only [Prod.mk.injEq] at this
      obtain ⟨rfl, rfl, rfl, rfl, rfl⟩ := this
      rw [foldX_yes (p := fun i => eqE (x i) (y i)) n 0 fun j _ hj => pb_of hc j (by omega)] at key
      exact key
    · have := T.ret_some hr
      simp only [Prod.mk.injEq] at this
      obtain ⟨rfl, rfl, rfl, rfl, rfl⟩ := this
      have hno : ∃ j, 0 ≤ j ∧ j < 0 + n ∧ eqE (x j) (y j) = false := by
        refine Classical.byContradiction fun hne => ?_
        rw [pb_true fun i hi => ?_] at hc
        · cases hc
        · cases hq : eqE (x i) (y i) with
          | true => exact hq
          | false => exact absurd ⟨i, Nat.zero_le _, by omega, hq⟩ hne
      rw [foldX_no (p := fun i => eqE (x i) (y i)) n 0 hno] at key
      exact key
  · exact (T.bad_some h).elim
noncomputable def ll_sm : List (Nat × Nat × LoopF) := (34, 4, L_sm) :: ll_hi
theorem ll_sm_ok : ∀ x ∈ ll_sm, LoopOk Try.prog x.2.2 := List.forall_mem_cons.2 ⟨L_sm_ok, ll_hi_ok⟩

noncomputable def GUE2 : Ctx := GS.with ss_vhere ll_sm
noncomputable def tgt_same (nl : Bool) (n : Nat) (x : Nat → Ent) (nl2 : Bool) (n2 : Nat) (y : Nat → Ent) : T CallOut := evCallW [] GUE2 300 34 [.one (.f (.fs nl 5 n (entE x))), .one (.f (.fs nl2 5 n2 (entE y)))] [] 0
theorem GKUE2 : KnownOk Try.prog GUE2 := KnownOk.lists ss_vhere_ok ll_sm_ok
theorem GOUE2 : CtxOk Try.prog GUE2 := GS_ok.with _ _
theorem tree_same (nl : Bool) (n : Nat) (x : Nat → Ent) (nl2 : Bool) (n2 : Nat) (y : Nat → Ent) : (tgt_same nl n x nl2 n2 y).over (.br .leaf (.br (.br (.br .leaf .leaf) .skip) .skip)) =
  T.br ((↑n : Int) != (↑n2 : Int)) (T.ret (out0 (SV.v (AB false))))
    (T.br (pb (loopOf Proofs.Try.f34 (4 : Nat) = loopOf Proofs.Try.f34 (4 : Nat) ∧ (26 : Nat) = (26 : Nat)))
      (T.br (pb (EntS nl n (entE x) ∧ EntS nl2 n2 (entE y) ∧ (↑n : Int) = (↑n : Int) ∧ (0 : Int) = (0 : Int) ∧ n2 = n ∧ nl = nl ∧ n = n ∧ entE x = entE x))
        (T.br (pb (∀ (i : Nat), i < n → eqE (entOf (entE x) i) (entOf (entE y) i) = true)) (T.ret (out0 (SV.v (AB true)))) (T.ret (out0 (SV.v (AB false))))) T.bad)
      T.bad) := by kernel_rfl
theorem res_same (nl : Bool) (n : Nat) (x : Nat → Ent) (nl2 : Bool) (n2 : Nat) (y : Nat → Ent) (h : LnOk nl n ∧ LnOk nl2 n2) : (tgt_same nl n x nl2 n2 y).res = some (out0 (.v (AB (sameE n x n2 y)))) := by
  refine T.over_eq _ (tree_same nl n x nl2 n2 y) ?_
  simp only [T.res_br, T.res_ret, T.res_bad]
  obtain ⟨h1, h2⟩ := h
  have hc : sameE n x n2 y = pb (n = n2 ∧ ∀ i, i < n → eqE (x i) (y i) = true) := rfl
  by_cases hn : n = n2
  · subst hn
    have e0 : ((n : Int) != (n : Int)) = false := by simp
    simp only [e0, Bool.false_eq_true, reduceIte, eq_self, and_self, pb_tt]
    rw [if_pos (pb_true (by exact ⟨⟨EntE_ok x, h1⟩, ⟨EntE_ok y, h2⟩, trivial⟩)), hc]
    simp only [entOf_entE, eq_self, true_and]
    exact ite_AB _
  · have e0 : ((n : Int) != (n2 : Int)) = true := by simp; omega
    simp only [e0, reduceIte]
    rw [hc, pb_false fun h => hn h.1]
noncomputable def F_same : SumF
  | [.one (.f (.fs nl 5 n e)), .one (.f (.fs nl2 5 n2 e2))], [], 0 => .need (pb (EntL nl n e ∧ EntL nl2 n2 e2)) (.ret (out0 (.v (AB (sameE n (entOf e) n2 (entOf e2))))))
  | _, _, _ => .bad
theorem sum_same : SumOk Try.prog 34 F_same := by
  refine ⟨fun args H nx r hr => ?_, fun args H nx => ?_⟩
  · unfold F_same at hr
    split at hr
    · rename_i nl n e nl2 n2 e2
      obtain ⟨h0, hr⟩ := T.need_some hr
      have := T.ret_some hr
      subst this
      have h := pb_of h0
      obtain ⟨⟨he, h1⟩, ⟨he2, h2⟩⟩ := h
      exact (evCallW_ok GOUE2 GKUE2 (res_same _ _ (entOf e) _ _ (entOf e2) ⟨h1, h2⟩)).args (.cons (CV.le.f (FV.le_fs he)) (.cons (CV.le.f (FV.le_fs he2)) (.refl _)))
    · exact (T.bad_some hr).elim
  · unfold F_same
    split
    · exact T.Every.need ⟨Nat.zero_le _, fun b hb hw => absurd hb (Nat.not_lt_zero b)⟩
    · trivial
noncomputable def sm_same : SumF := orSum (nilSum 5 ((entE fun _ => default)) (canonSum F_same)) (lendSum (nilSum 5 ((entE fun _ => default)) (canonSum F_same)))
theorem sm_same_ok : SumOk Try.prog 34 sm_same := orSum_ok (nilSum_ok (canonSum_ok sum_same)) (lendSum_ok (nilSum_ok (canonSum_ok sum_same)))
noncomputable def ss_same : List (Nat × SumF) := (34, sm_same) :: ss_vhere
theorem ss_same_ok : ∀ x ∈ ss_same, SumOk Try.prog x.1 x.2 := List.forall_mem_cons.2 ⟨sm_same_ok, ss_vhere_ok⟩
noncomputable def GUE3 : Ctx := GS.with ss_Table ll_tb
noncomputable def tgt_Known13  : T CallOut := evCallW [] GUE3 300 25 [] [] 0
theorem GKUE3 : KnownOk Try.prog GUE3 := KnownOk.lists ss_Table_ok ll_tb_ok
theorem GOUE3 : CtxOk Try.prog GUE3 := GS_ok.with _ _
theorem tree_Known13  : (tgt_Known13 ).over (.tt (.tt (.tt (.tt (.tt (.tt (.ff (.tt (.tt (.tt (.tt (.tt (.tt (.tt (.tt (.tt (.tt (.tt (.tt (.tt (.tt (.tt (.ff (.ff (.ff (.ff (.ff (.ff (.ff (.ff (.ff (.ff (.ff (.ff (.ff (.ff (.ff (.ff (.tt (.tt (.tt (.tt (.tt (.tt (.tt (.tt (.tt (.ff (.ff (.ff (.ff (.ff (.ff (.ff (.ff (.ff (.ff (.ff (.ff (.tt (.tt (.tt (.tt (.tt (.tt (.tt (.tt (.tt (.ff (.ff (.ff (.ff (.ff (.ff (.ff (.ff (.ff (.ff (.ff (.ff (.ff (.ff (.ff (.ff (.ff (.ff (.ff (.ff (.ff (.ff (.ff (.ff (.ff (.ff (.ff (.ff (.ff (.ff (.ff (.ff (.tt (.tt (.tt (.tt (.tt (.ff (.ff (.ff (.ff (.ff (.ff (.ff (.ff (.ff (.tt (.tt (.tt (.tt (.tt (.tt (.tt (.tt (.tt (.tt (.tt (.tt (.tt (.tt (.tt (.tt (.ff (.tt (.tt (.tt (.tt (.tt (.tt (.tt (.tt (.ff (.ff (.tt (.tt (.tt (.tt (.tt (.tt (.tt (.tt (.tt (.ff (.ff (.tt (.tt (.ff (.tt (.tt (.ff (.tt (.tt (.tt (.tt .leaf)))))))))))))))))))))))))))))))))))))))))))))))))))))))))))))))))))))))))))))))))))))))))))))))))))))))))))))))))))))))))))))))))))))))))))))))))))))))))))))))))) =
  T.ret (out0 (SV.v (AB true))) := by kernel_rfl
theorem res_Known13  : (tgt_Known13 ).res = some (out0 (.v (AB true))) := by
  refine T.over_eq _ (tree_Known13 ) ?_
  simp only [T.res_br, T.res_ret, T.res_bad]
  skip
noncomputable def F_Known13 : SumF
  | [], [], 0 => .ret (out0 (.v (AB true)))
  | _, _, _ => .bad
theorem sum_Known13 : SumOk Try.prog 25 F_Known13 := by
  refine ⟨fun args H nx r hr => ?_, fun args H nx => ?_⟩
  · unfold F_Known13 at hr
    split at hr
    · have := T.ret_some hr
      subst this
      exact evCallW_ok GOUE3 GKUE3 (res_Known13 )
    · exact (T.bad_some hr).elim
  · unfold F_Known13
    split
    · exact ⟨Nat.zero_le _, fun b hb hw => absurd hb (Nat.not_lt_zero b)⟩
    · trivial
noncomputable def sm_Known13 : SumF := canonSum F_Known13
theorem sm_Known13_ok : SumOk Try.prog 25 sm_Known13 := canonSum_ok sum_Known13
noncomputable def ss_Known13 : List (Nat × SumF) := (25, sm_Known13) :: ss_Table
theorem ss_Known13_ok : ∀ x ∈ ss_Known13, SumOk Try.prog x.1 x.2 := List.forall_mem_cons.2 ⟨sm_Known13_ok, ss_Table_ok⟩
noncomputable def ss_view : List (Nat × SumF) := (25, sm_Known13) :: ss_same
theorem ss_view_ok : ∀ x ∈ ss_view, SumOk Try.prog x.1 x.2 := List.forall_mem_cons.2 ⟨sm_Known13_ok, ss_same_ok⟩
end Go.Proofs.Ytdoehlinboiohaa.En
