/- Lists of entries: Max, Table. -/
import Derived.Test.YtdoehlinboiohaaPA
namespace Go.Proofs.Ytdoehlinboiohaa.En
open Go
set_option linter.unusedVariables false
set_option linter.unusedSimpArgs false
set_option maxRecDepth 20000
set_option maxHeartbeats 1000000
instance : Inhabited Ent := ⟨⟨0, 0, 0, 0, false⟩⟩
abbrev entE (x : Nat → Ent) : Nat → List FV := fun i => (x i).fs
def EntE (e : Nat → List FV) : Prop := ∃ x, e = entE x
def entOf (e : Nat → List FV) : Nat → Ent := fun i => match e i with | [.lit (.int _ a), .lit (.int _ b), .lit (.int _ c), .lit (.int _ d), .lit (.bool f)] => ⟨a, b, c, d, f⟩ | _ => default
theorem entOf_entE (x : Nat → Ent) : entOf (entE x) = x := rfl
theorem EntE_ok (x : Nat → Ent) : EntE (entE x) := ⟨x, rfl⟩
/-- the greater of two; the first, if they are alike -/
def mxE (a b : Ent) : Ent := if 0 < compI b a then b else a
def maxE (x : Nat → Ent) (n : Nat) : Ent := match n with | 0 => default | n + 1 => foldF (fun i a => mxE a (x i)) n 1 (x 0)
theorem less_mx (a b : Ent) : lessB a b = decide (0 < compI b a) := by
  have key : ∀ a b : Int, cmpI b a = - cmpI a b := fun a b => by
    unfold cmpI
    repeat' split
    all_goals omega
  rw [lessB, decide_eq_decide]
  have : compI b a = - compI a b := by
    unfold compI orI
    rw [key a.inc, key a.st, key a.stamp, key a.load, key (cond a.dr 1 0)]
    repeat' split
    all_goals omega
  omega
def S_rm (nl : Bool) (n : Nat) (x : Nat → Ent) (i : Nat) (a : Ent) : St :=
  ⟨[(0, .v (.one (.f (.fs nl 5 n (entE x))))), (2, .v (AP 0)), (3, .v (AP 1)), (4, .v (AI i))], [(0, .cells (default : Ent).cv), (1, .cells a.cv)], 2, false, 0, []⟩
def S_mf (nl : Bool) (n : Nat) (x : Nat → Ent) (i : Nat) (a : Ent) : St :=
  ⟨[(0, .v (.one (.f (.fs nl 5 n (entE x))))), (1, .v (.one (.fn 36 []))), (4, .v (AP 0)), (5, .v (AP 1)), (6, .v (AI i))], [(0, .cells (default : Ent).cv), (1, .cells a.cv)], 2, false, 0, []⟩

noncomputable def GPB1 : Ctx := GS.with ss_Entry ll0
noncomputable def tgt_Max2 (a b : Ent) : T CallOut := evCallW [] GPB1 300 17 [.one (.sl false 0 0 0 0 2 2 true 5)] [(0, .cells [I a.inc, I a.st, I a.stamp, I a.load, Bo a.dr, I b.inc, I b.st, I b.stamp, I b.load, Bo b.dr])] 1
noncomputable def tgt_RMax2 (a b : Ent) : T CallOut := evCallW [] GPB1 300 21 [.one (.sl false 0 0 0 0 2 2 true 5)] [(0, .cells [I a.inc, I a.st, I a.stamp, I a.load, Bo a.dr, I b.inc, I b.st, I b.stamp, I b.load, Bo b.dr])] 1
noncomputable def tgt_mf (nl : Bool) (n : Nat) (x : Nat → Ent) (i : Nat) (a : Ent) : T (Ex × St) := evRound GPB1 300 38 Try.f38.ntmps (loopOf Try.f38 5) 2 [0, 1, 4, 5, 6] [4, 5] (S_mf nl n x i a)
noncomputable def tgt_rm (nl : Bool) (n : Nat) (x : Nat → Ent) (i : Nat) (a : Ent) : T (Ex × St) := evRound GPB1 300 21 Try.f21.ntmps (loopOf Try.f21 5) 2 [0, 2, 3, 4] [2, 3] (S_rm nl n x i a)
theorem GKPB1 : KnownOk Try.prog GPB1 := KnownOk.lists ss_Entry_ok ll0_ok
theorem GOPB1 : CtxOk Try.prog GPB1 := GS_ok.with _ _
theorem tree_Max2 (a b : Ent) : (tgt_Max2 a b).over (.ff (.ff (.tt (.tt (.tt (.tt (.tt (.tt (.ff (.tt (.br (.tt (.tt (.ff (.tt (.ff .leaf))))) (.ff .leaf)))))))))))) =
  T.br (decide (compI b a > (0 : Int)))
    (T.ret
      { v := SV.v (AV.agg [I (Ent.inc b), I (Ent.st b), I (Ent.stamp b), I (Ent.load b), Bo (Ent.dr b)]),
        H := [((0 : Nat), Ob.cells [I (Ent.inc a), I (Ent.st a), I (Ent.stamp a), I (Ent.load a), Bo (Ent.dr a), I (Ent.inc b), I (Ent.st b), I (Ent.stamp b), I (Ent.load b), Bo (Ent.dr b)])], nx := (1 : Nat), esc := false, wr := [] :
        CallOut })
    (T.ret
      { v := SV.v (AV.agg [I (Ent.inc a), I (Ent.st a), I (Ent.stamp a), I (Ent.load a), Bo (Ent.dr a)]),
        H := [((0 : Nat), Ob.cells [I (Ent.inc a), I (Ent.st a), I (Ent.stamp a), I (Ent.load a), Bo (Ent.dr a), I (Ent.inc b), I (Ent.st b), I (Ent.stamp b), I (Ent.load b), Bo (Ent.dr b)])], nx := (1 : Nat), esc := false, wr := [] :
        CallOut }) := by kernel_rfl
theorem res_Max2 (a b : Ent) : (tgt_Max2 a b).res = some (⟨.v (.agg [I (mxE a b).inc, I (mxE a b).st, I (mxE a b).stamp, I (mxE a b).load, Bo (mxE a b).dr]), [(0, .cells [I a.inc, I a.st, I a.stamp, I a.load, Bo a.dr, I b.inc, I b.st, I b.stamp, I b.load, Bo b.dr])], 1, false, []⟩) := by
  refine T.over_eq _ (tree_Max2 a b) ?_
  simp only [T.res_br, T.res_ret, T.res_bad]
  simp only [mxE, decide_eq_true_eq, gt_iff_lt]
  split <;> rfl
noncomputable def F_Max2 : SumF
  | [.one (.sl false 0 0 0 0 2 2 true 5)], [(0, .cells [.f (.lit (.int .i64 a_0)), .f (.lit (.int .i64 a_1)), .f (.lit (.int .i64 a_2)), .f (.lit (.int .i64 a_3)), .f (.lit (.bool a_4)), .f (.lit (.int .i64 b_0)), .f (.lit (.int .i64 b_1)), .f (.lit (.int .i64 b_2)), .f (.lit (.int .i64 b_3)), .f (.lit (.bool b_4))])], 1 => .ret (⟨.v (.agg [I (mxE (⟨a_0, a_1, a_2, a_3, a_4⟩ : Ent) (⟨b_0, b_1, b_2, b_3, b_4⟩ : Ent)).inc, I (mxE (⟨a_0, a_1, a_2, a_3, a_4⟩ : Ent) (⟨b_0, b_1, b_2, b_3, b_4⟩ : Ent)).st, I (mxE (⟨a_0, a_1, a_2, a_3, a_4⟩ : Ent) (⟨b_0, b_1, b_2, b_3, b_4⟩ : Ent)).stamp, I (mxE (⟨a_0, a_1, a_2, a_3, a_4⟩ : Ent) (⟨b_0, b_1, b_2, b_3, b_4⟩ : Ent)).load, Bo (mxE (⟨a_0, a_1, a_2, a_3, a_4⟩ : Ent) (⟨b_0, b_1, b_2, b_3, b_4⟩ : Ent)).dr]), [(0, .cells [I (⟨a_0, a_1, a_2, a_3, a_4⟩ : Ent).inc, I (⟨a_0, a_1, a_2, a_3, a_4⟩ : Ent).st, I (⟨a_0, a_1, a_2, a_3, a_4⟩ : Ent).stamp, I (⟨a_0, a_1, a_2, a_3, a_4⟩ : Ent).load, Bo (⟨a_0, a_1, a_2, a_3, a_4⟩ : Ent).dr, I (⟨b_0, b_1, b_2, b_3, b_4⟩ : Ent).inc, I (⟨b_0, b_1, b_2, b_3, b_4⟩ : Ent).st, I (⟨b_0, b_1, b_2, b_3, b_4⟩ : Ent).stamp, I (⟨b_0, b_1, b_2, b_3, b_4⟩ : Ent).load, Bo (⟨b_0, b_1, b_2, b_3, b_4⟩ : Ent).dr])], 1, false, []⟩)
  | _, _, _ => .bad
theorem sum_Max2 : SumOk Try.prog 17 F_Max2 := by
  refine ⟨fun args H nx r hr => ?_, fun args H nx => ?_⟩
  · unfold F_Max2 at hr
    split at hr
    · rename_i a_0 a_1 a_2 a_3 a_4 b_0 b_1 b_2 b_3 b_4
      have := T.ret_some hr
      subst this
      exact evCallW_ok GOPB1 GKPB1 (res_Max2 (⟨a_0, a_1, a_2, a_3, a_4⟩ : Ent) (⟨b_0, b_1, b_2, b_3, b_4⟩ : Ent))
    · exact (T.bad_some hr).elim
  · unfold F_Max2
    split
    · exact ⟨by first | exact Nat.le_refl _ | (dsimp only; omega), fun b hb hw => by
        have : b = 0 := by omega
        rcases this with rfl <;> first | rfl | exact absurd (by dsimp only; decide) hw⟩
    · trivial
noncomputable def sm_Max2 : SumF := canonSum F_Max2
theorem sm_Max2_ok : SumOk Try.prog 17 sm_Max2 := canonSum_ok sum_Max2
noncomputable def ss_Max2 : List (Nat × SumF) := (17, sm_Max2) :: ss_Entry
theorem ss_Max2_ok : ∀ x ∈ ss_Max2, SumOk Try.prog x.1 x.2 := List.forall_mem_cons.2 ⟨sm_Max2_ok, ss_Entry_ok⟩
theorem tree_RMax2 (a b : Ent) : (tgt_RMax2 a b).over (.ff (.tt (.tt (.tt (.tt (.tt (.tt (.ff (.tt (.br (.tt (.tt (.ff (.tt (.ff .leaf))))) (.ff .leaf))))))))))) =
  T.br (lessB a b)
    (T.ret
      { v := SV.v (AV.agg [I (Ent.inc b), I (Ent.st b), I (Ent.stamp b), I (Ent.load b), Bo (Ent.dr b)]),
        H := [((0 : Nat), Ob.cells [I (Ent.inc a), I (Ent.st a), I (Ent.stamp a), I (Ent.load a), Bo (Ent.dr a), I (Ent.inc b), I (Ent.st b), I (Ent.stamp b), I (Ent.load b), Bo (Ent.dr b)])], nx := (1 : Nat), esc := false, wr := [] :
        CallOut })
    (T.ret
      { v := SV.v (AV.agg [I (Ent.inc a), I (Ent.st a), I (Ent.stamp a), I (Ent.load a), Bo (Ent.dr a)]),
        H := [((0 : Nat), Ob.cells [I (Ent.inc a), I (Ent.st a), I (Ent.stamp a), I (Ent.load a), Bo (Ent.dr a), I (Ent.inc b), I (Ent.st b), I (Ent.stamp b), I (Ent.load b), Bo (Ent.dr b)])], nx := (1 : Nat), esc := false, wr := [] :
        CallOut }) := by kernel_rfl
theorem res_RMax2 (a b : Ent) : (tgt_RMax2 a b).res = some (⟨.v (.agg [I (mxE a b).inc, I (mxE a b).st, I (mxE a b).stamp, I (mxE a b).load, Bo (mxE a b).dr]), [(0, .cells [I a.inc, I a.st, I a.stamp, I a.load, Bo a.dr, I b.inc, I b.st, I b.stamp, I b.load, Bo b.dr])], 1, false, []⟩) := by
  refine T.over_eq _ (tree_RMax2 a b) ?_
  simp only [T.res_br, T.res_ret, T.res_bad]
  have e := less_mx a b
  simp only [mxE]
  by_cases h : 0 < compI b a
  · rw [decide_eq_true h] at e
    simp only [h, if_true]
    exact if_pos e
  · rw [decide_eq_false h] at e
    simp only [h, if_false]
    exact if_neg (by rw [show lessB _ _ = false from e]; simp)
noncomputable def F_RMax2 : SumF
  | [.one (.sl false 0 0 0 0 2 2 true 5)], [(0, .cells [.f (.lit (.int .i64 a_0)), .f (.lit (.int .i64 a_1)), .f (.lit (.int .i64 a_2)), .f (.lit (.int .i64 a_3)), .f (.lit (.bool a_4)), .f (.lit (.int .i64 b_0)), .f (.lit (.int .i64 b_1)), .f (.lit (.int .i64 b_2)), .f (.lit (.int .i64 b_3)), .f (.lit (.bool b_4))])], 1 => .ret (⟨.v (.agg [I (mxE (⟨a_0, a_1, a_2, a_3, a_4⟩ : Ent) (⟨b_0, b_1, b_2, b_3, b_4⟩ : Ent)).inc, I (mxE (⟨a_0, a_1, a_2, a_3, a_4⟩ : Ent) (⟨b_0, b_1, b_2, b_3, b_4⟩ : Ent)).st, I (mxE (⟨a_0, a_1, a_2, a_3, a_4⟩ : Ent) (⟨b_0, b_1, b_2, b_3, b_4⟩ : Ent)).stamp, I (mxE (⟨a_0, a_1, a_2, a_3, a_4⟩ : Ent) (⟨b_0, b_1, b_2, b_3, b_4⟩ : Ent)).load, Bo (mxE (⟨a_0, a_1, a_2, a_3, a_4⟩ : Ent) (⟨b_0, b_1, b_2, b_3, b_4⟩ : Ent)).dr]), [(0, .cells [I (⟨a_0, a_1, a_2, a_3, a_4⟩ : Ent).inc, I (⟨a_0, a_1, a_2, a_3, a_4⟩ : Ent).st, I (⟨a_0, a_1, a_2, a_3, a_4⟩ : Ent).stamp, I (⟨a_0, a_1, a_2, a_3, a_4⟩ : Ent).load, Bo (⟨a_0, a_1, a_2, a_3, a_4⟩ : Ent).dr, I (⟨b_0, b_1, b_2, b_3, b_4⟩ : Ent).inc, I (⟨b_0, b_1, b_2, b_3, b_4⟩ : Ent).st, I (⟨b_0, b_1, b_2, b_3, b_4⟩ : Ent).stamp, I (⟨b_0, b_1, b_2, b_3, b_4⟩ : Ent).load, Bo (⟨b_0, b_1, b_2, b_3, b_4⟩ : Ent).dr])], 1, false, []⟩)
  | _, _, _ => .bad
theorem sum_RMax2 : SumOk Try.prog 21 F_RMax2 := by
  refine ⟨fun args H nx r hr => ?_, fun args H nx => ?_⟩
  · unfold F_RMax2 at hr
    split at hr
    · rename_i a_0 a_1 a_2 a_3 a_4 b_0 b_1 b_2 b_3 b_4
      have := T.ret_some hr
      subst this
      exact evCallW_ok GOPB1 GKPB1 (res_RMax2 (⟨a_0, a_1, a_2, a_3, a_4⟩ : Ent) (⟨b_0, b_1, b_2, b_3, b_4⟩ : Ent))
    · exact (T.bad_some hr).elim
  · unfold F_RMax2
    split
    · exact ⟨by first | exact Nat.le_refl _ | (dsimp only; omega), fun b hb hw => by
        have : b = 0 := by omega
        rcases this with rfl <;> first | rfl | exact absurd (by dsimp only; decide) hw⟩
    · trivial
noncomputable def sm_RMax2 : SumF := canonSum F_RMax2
theorem sm_RMax2_ok : SumOk Try.prog 21 sm_RMax2 := canonSum_ok sum_RMax2
noncomputable def ss_RMax2 : List (Nat × SumF) := (21, sm_RMax2) :: ss_Max2
theorem ss_RMax2_ok : ∀ x ∈ ss_RMax2, SumOk Try.prog x.1 x.2 := List.forall_mem_cons.2 ⟨sm_RMax2_ok, ss_Max2_ok⟩
theorem tree_mf (nl : Bool) (n : Nat) (x : Nat → Ent) (i : Nat) (a : Ent) : (tgt_mf nl n x i a).over (.br (.br (.br (.br (.br (.br .leaf .skip) .skip) .leaf) .skip) .skip) .leaf) =
  T.br (decide ((↑i : Int) < (↑n : Int))) (T.br (!nl) (T.br (decide ((0 : Int) ≤ (↑i : Int) ∧ (↑i : Int) < (↑n : Int))) (T.br (decide (compI (x i) a > (0 : Int))) (T.br (!nl) (T.br (decide ((0 : Int) ≤ (↑i : Int) ∧ (↑i : Int) < (↑n : Int))) (T.ret (Ex.normal, { sl := [((0 : Nat), SV.v (AV.one (CV.f (FV.fs nl (5 : Nat) n fun a => [FV.lit (Value.int IntKind.i64 (Ent.inc (x a))), FV.lit (Value.int IntKind.i64 (Ent.st (x a))), FV.lit (Value.int IntKind.i64 (Ent.stamp (x a))), FV.lit (Value.int IntKind.i64 (Ent.load (x a))), FV.lit (Value.bool (Ent.dr (x a)))])))), ((1 : Nat), SV.v (AV.one (CV.fn (36 : Nat) []))), ((4 : Nat), SV.v (AP (0 : Nat))), ((5 : Nat), SV.v (AP (1 : Nat))), ((6 : Nat), SV.v (AI (IntKind.wrap IntKind.i64 ((↑i : Int) + (1 : Int)))))], H := [((0 : Nat), Ob.cells [I (0 : Int), I (0 : Int), I (0 : Int), I (0 : Int), Bo false]), ((1 : Nat), Ob.cells [I (Ent.inc (x i)), I (Ent.st (x i)), I (Ent.stamp (x i)), I (Ent.load (x i)), Bo (Ent.dr (x i))])], nx := (2 : Nat), esc := false, base := (0 : Nat), wr := [] : St })) T.bad) T.bad) (T.ret (Ex.normal, { sl := [((0 : Nat), SV.v (AV.one (CV.f (FV.fs nl (5 : Nat) n fun a => [FV.lit (Value.int IntKind.i64 (Ent.inc (x a))), FV.lit (Value.int IntKind.i64 (Ent.st (x a))), FV.lit (Value.int IntKind.i64 (Ent.stamp (x a))), FV.lit (Value.int IntKind.i64 (Ent.load (x a))), FV.lit (Value.bool (Ent.dr (x a)))])))), ((1 : Nat), SV.v (AV.one (CV.fn (36 : Nat) []))), ((4 : Nat), SV.v (AP (0 : Nat))), ((5 : Nat), SV.v (AP (1 : Nat))), ((6 : Nat), SV.v (AI (IntKind.wrap IntKind.i64 ((↑i : Int) + (1 : Int)))))], H := [((0 : Nat), Ob.cells [I (0 : Int), I (0 : Int), I (0 : Int), I (0 : Int), Bo false]), ((1 : Nat), Ob.cells [I (Ent.inc a), I (Ent.st a), I (Ent.stamp a), I (Ent.load a), Bo (Ent.dr a)])], nx := (2 : Nat), esc := false, base := (0 : Nat), wr := [] : St }))) T.bad) T.bad) (T.ret (Ex.exit (0 : Nat), { sl := [((4 : Nat), SV.v (AP (0 : Nat))), ((5 : Nat), SV.v (AP (1 : Nat)))], H := [((0 : Nat), Ob.cells [I (0 : Int), I (0 : Int), I (0 : Int), I (0 : Int), Bo false]), ((1 : Nat), Ob.cells [I (Ent.inc a), I (Ent.st a), I (Ent.stamp a), I (Ent.load a), Bo (Ent.dr a)])], nx := (2 : Nat), esc := false, base := (0 : Nat), wr := [] : St })) := by kernel_rfl
theorem tree_rm (nl : Bool) (n : Nat) (x : Nat → Ent) (i : Nat) (a : Ent) : (tgt_rm nl n x i a).over (.br (.br (.br (.br (.br (.br .leaf .skip) .skip) .leaf) .skip) .skip) .leaf) =
  T.br (decide ((↑i : Int) < (↑n : Int))) (T.br (!nl) (T.br (decide ((0 : Int) ≤ (↑i : Int) ∧ (↑i : Int) < (↑n : Int))) (T.br (lessB a (x i)) (T.br (!nl) (T.br (decide ((0 : Int) ≤ (↑i : Int) ∧ (↑i : Int) < (↑n : Int))) (T.ret (Ex.normal, { sl := [((0 : Nat), SV.v (AV.one (CV.f (FV.fs nl (5 : Nat) n fun a => [FV.lit (Value.int IntKind.i64 (Ent.inc (x a))), FV.lit (Value.int IntKind.i64 (Ent.st (x a))), FV.lit (Value.int IntKind.i64 (Ent.stamp (x a))), FV.lit (Value.int IntKind.i64 (Ent.load (x a))), FV.lit (Value.bool (Ent.dr (x a)))])))), ((2 : Nat), SV.v (AP (0 : Nat))), ((3 : Nat), SV.v (AP (1 : Nat))), ((4 : Nat), SV.v (AI (IntKind.wrap IntKind.i64 ((↑i : Int) + (1 : Int)))))], H := [((0 : Nat), Ob.cells [I (0 : Int), I (0 : Int), I (0 : Int), I (0 : Int), Bo false]), ((1 : Nat), Ob.cells [I (Ent.inc (x i)), I (Ent.st (x i)), I (Ent.stamp (x i)), I (Ent.load (x i)), Bo (Ent.dr (x i))])], nx := (2 : Nat), esc := false, base := (0 : Nat), wr := [] : St })) T.bad) T.bad) (T.ret (Ex.normal, { sl := [((0 : Nat), SV.v (AV.one (CV.f (FV.fs nl (5 : Nat) n fun a => [FV.lit (Value.int IntKind.i64 (Ent.inc (x a))), FV.lit (Value.int IntKind.i64 (Ent.st (x a))), FV.lit (Value.int IntKind.i64 (Ent.stamp (x a))), FV.lit (Value.int IntKind.i64 (Ent.load (x a))), FV.lit (Value.bool (Ent.dr (x a)))])))), ((2 : Nat), SV.v (AP (0 : Nat))), ((3 : Nat), SV.v (AP (1 : Nat))), ((4 : Nat), SV.v (AI (IntKind.wrap IntKind.i64 ((↑i : Int) + (1 : Int)))))], H := [((0 : Nat), Ob.cells [I (0 : Int), I (0 : Int), I (0 : Int), I (0 : Int), Bo false]), ((1 : Nat), Ob.cells [I (Ent.inc a), I (Ent.st a), I (Ent.stamp a), I (Ent.load a), Bo (Ent.dr a)])], nx := (2 : Nat), esc := false, base := (0 : Nat), wr := [] : St }))) T.bad) T.bad) (T.ret (Ex.exit (0 : Nat), { sl := [((2 : Nat), SV.v (AP (0 : Nat))), ((3 : Nat), SV.v (AP (1 : Nat)))], H := [((0 : Nat), Ob.cells [I (0 : Int), I (0 : Int), I (0 : Int), I (0 : Int), Bo false]), ((1 : Nat), Ob.cells [I (Ent.inc a), I (Ent.st a), I (Ent.stamp a), I (Ent.load a), Bo (Ent.dr a)])], nx := (2 : Nat), esc := false, base := (0 : Nat), wr := [] : St })) := by kernel_rfl
theorem round_mf (nl : Bool) (n : Nat) (x : Nat → Ent) (hb : (n : Int) ≤ 9223372036854775807) (hnl : nl = true → n = 0) (i : Nat) (a : Ent) (hi : i < n) (hI : (fun (i : Nat) (a : Ent) => (True : Prop)) i a) : ∃ s, (tgt_mf nl n x i a).res = some (.normal, s) ∧ StLe 2 s (S_mf nl n x (i + 1) ((fun (i : Nat) (a : Ent) => (mxE a (x i))) i a)) ∧ (fun (i : Nat) (a : Ent) => (True : Prop)) (i + 1) ((fun (i : Nat) (a : Ent) => (mxE a (x i))) i a) := by
  refine T.over_exP (g := fun s => (Ex.normal, s)) (tree_mf nl n x i a) ?_
  have e1 : ((i : Int) < (n : Int)) := by omega
  have e2 : (0 : Int) ≤ (i : Int) ∧ (i : Int) < (n : Int) := by omega
  have e3 : IntKind.wrap .i64 ((i : Int) + 1) = ((i + 1 : Nat) : Int) := by rw [wrapI (by omega)]; rfl
  obtain rfl : nl = false := by cases nl <;> simp_all <;> omega
  simp only [T.res_br, T.res_ret, T.res_bad, decide_eq_true_eq, e1, e2, e3, Bool.not_false, reduceIte, and_self, gt_iff_lt]
  split
  · rename_i h
    have e4 : mxE a (x i) = x i := by rw [mxE]; exact if_pos h
    exact ⟨_, rfl, by rw [e4]; exact StLe.refl (Nat.le_refl 2), trivial⟩
  · rename_i h
    have e4 : mxE a (x i) = a := by rw [mxE]; exact if_neg h
    exact ⟨_, rfl, by rw [e4]; exact StLe.refl (Nat.le_refl 2), trivial⟩
theorem end_mf (nl : Bool) (n : Nat) (x : Nat → Ent) (hb : (n : Int) ≤ 9223372036854775807) (hnl : nl = true → n = 0) (a : Ent) (hI : (fun (i : Nat) (a : Ent) => (True : Prop)) (n) a) : ∃ s, (tgt_mf nl n x (n) a).res = some (.exit 0, s) ∧ StLe 2 s (⟨[(4, .v (AP 0)), (5, .v (AP 1))], [(0, .cells (default : Ent).cv), (1, .cells a.cv)], 2, false, 0, []⟩) := by
  refine T.over_exP (g := fun s => (.exit 0, s)) (tree_mf nl n x (n) a) ?_
  simp only [T.res_br, T.res_ret, T.res_bad, decide_eq_true_eq, Int.lt_irrefl, reduceIte]
  exact ⟨_, rfl, StLe.refl (Nat.le_refl 2)⟩
theorem loop_mf (nl : Bool) (n : Nat) (x : Nat → Ent) (hb : (n : Int) ≤ 9223372036854775807) (hnl : nl = true → n = 0) (i : Nat) (a : Ent) (hi : i ≤ n) (hI : (fun (i : Nat) (a : Ent) => (True : Prop)) i a) {st0 : St} (h0 : StLe 2 st0 (S_mf nl n x i a)) (hnx : st0.nx = 2) :
    CodeOk Try.prog Try.f38.ntmps (.loop (loopOf Try.f38 5)) st0 (.exit 0) ((fun (a : Ent) => ⟨[(4, .v (AP 0)), (5, .v (AP 1))], [(0, .cells (default : Ent).cv), (1, .cells a.cv)], 2, false, 0, []⟩) (foldF (fun (i : Nat) (a : Ent) => (mxE a (x i))) (n - i) i a)) := by
  have := for_loop GOPB1 GKPB1 (K := 300) (F := 38) (N := Try.f38.ntmps) (c := loopOf Try.f38 5) (m := 2) (live := [0, 1, 4, 5, 6]) (after := [4, 5]) (S_mf nl n x) (n) (fun (i : Nat) (a : Ent) => .inl (mxE a (x i))) (fun (a : Ent) => (.exit 0, ⟨[(4, .v (AP 0)), (5, .v (AP 1))], [(0, .cells (default : Ent).cv), (1, .cells a.cv)], 2, false, 0, []⟩)) (fun (i : Nat) (a : Ent) => (True : Prop))
    (fun i a hi hI => by obtain ⟨s, h1, h2, h3⟩ := round_mf nl n x hb hnl i a hi hI; exact ⟨_, s, h1, rfl, h2, h3⟩)
    (fun a hI => by obtain ⟨s, h1, h2⟩ := end_mf nl n x hb hnl a hI; exact ⟨_, s, h1, by simp, rfl, h2⟩)
    (fun i a => by first | exact Nat.le_refl _ | (show 2 ≤ _; decide) | (simp only [S_mf]; omega)) hi hI h0 hnx
  rw [foldX_inl] at this
  exact this
noncomputable def L_mf : LoopF := mkLoopF [0, 1, 4, 5, 6] (loopOf Try.f38 5) Try.f38.ntmps fun sl H nx => match sl, H, nx with
  | [(0, .v (.one (.f (.fs nl 5 n e)))), (1, .v (.one (.fn g []))), (4, .v (.one (.ptr 0 0 0 0))), (5, .v (.one (.ptr 1 0 0 0))), (6, .v (.one (.f (.lit (.int .i64 i)))))], [(0, .cells [.f (.lit (.int .i64 z1)), .f (.lit (.int .i64 z2)), .f (.lit (.int .i64 z3)), .f (.lit (.int .i64 z4)), .f (.lit (.bool z5))]), (1, .cells [.f (.lit (.int .i64 a1)), .f (.lit (.int .i64 a2)), .f (.lit (.int .i64 a3)), .f (.lit (.int .i64 a4)), .f (.lit (.bool a5))])], 2 => .need (pb (EntE e ∧ g = 36 ∧ i = 1 ∧ (⟨z1, z2, z3, z4, z5⟩ : Ent) = default ∧ 1 ≤ n ∧ (n : Int) ≤ 9223372036854775807 ∧ (nl = true → n = 0))) (.ret (.exit 0, (St.mk [(4, .v (AP 0)), (5, .v (AP 1))] [(0, .cells (default : Ent).cv), (1, .cells (foldF (fun i a => mxE a (entOf e i)) (n - 1) 1 ⟨a1, a2, a3, a4, a5⟩).cv)] 2 false 0 []).sl, (St.mk [(4, .v (AP 0)), (5, .v (AP 1))] [(0, .cells (default : Ent).cv), (1, .cells (foldF (fun i a => mxE a (entOf e i)) (n - 1) 1 ⟨a1, a2, a3, a4, a5⟩).cv)] 2 false 0 []).H, 2, false))
  | _, _, _ => .bad
theorem L_mf_ok : LoopOk Try.prog L_mf := by
  refine mkLoopF_ok fun sl H nx e sl' H' nx' esc' h => ?_
  split at h
  · rename_i nl n e g i z1 z2 z3 z4 z5 a1 a2 a3 a4 a5
    obtain ⟨hp, hret⟩ := T.need_some h
    have hp := pb_of hp
    have := T.ret_some hret
    simp only [Prod.mk.injEq] at this
    obtain ⟨rfl, rfl, rfl, rfl, rfl⟩ := this
    clear hret h
    obtain ⟨⟨x, rfl⟩, rfl, rfl, hz, h3, h4, h5⟩ := hp
    cases hz
    exact loop_mf _ _ x h4 h5 1 _ h3 trivial (StLe.refl (Nat.le_refl 2)) rfl
  · exact (T.bad_some h).elim
noncomputable def ll_mf : List (Nat × Nat × LoopF) := (38, 5, L_mf) :: ll0
theorem ll_mf_ok : ∀ x ∈ ll_mf, LoopOk Try.prog x.2.2 := List.forall_mem_cons.2 ⟨L_mf_ok, ll0_ok⟩
theorem round_rm (nl : Bool) (n : Nat) (x : Nat → Ent) (hb : (n : Int) ≤ 9223372036854775807) (hnl : nl = true → n = 0) (i : Nat) (a : Ent) (hi : i < n) (hI : (fun (i : Nat) (a : Ent) => (True : Prop)) i a) : ∃ s, (tgt_rm nl n x i a).res = some (.normal, s) ∧ StLe 2 s (S_rm nl n x (i + 1) ((fun (i : Nat) (a : Ent) => (mxE a (x i))) i a)) ∧ (fun (i : Nat) (a : Ent) => (True : Prop)) (i + 1) ((fun (i : Nat) (a : Ent) => (mxE a (x i))) i a) := by
  refine T.over_exP (g := fun s => (Ex.normal, s)) (tree_rm nl n x i a) ?_
  have e1 : ((i : Int) < (n : Int)) := by omega
  have e2 : (0 : Int) ≤ (i : Int) ∧ (i : Int) < (n : Int) := by omega
  have e3 : IntKind.wrap .i64 ((i : Int) + 1) = ((i + 1 : Nat) : Int) := by rw [wrapI (by omega)]; rfl
  obtain rfl : nl = false := by cases nl <;> simp_all <;> omega
  have e := less_mx a (x i)
  by_cases h : 0 < compI (x i) a
  · rw [decide_eq_true h] at e
    have e4 : mxE a (x i) = x i := by rw [mxE]; exact if_pos h
    simp only [T.res_br, T.res_ret, T.res_bad, decide_eq_true_eq, e1, e2, e3, Bool.not_false, reduceIte, and_self]
    refine ⟨_, if_pos e, by rw [e4]; exact StLe.refl (Nat.le_refl 2), trivial⟩
  · rw [decide_eq_false h] at e
    have e4 : mxE a (x i) = a := by rw [mxE]; exact if_neg h
    simp only [T.res_br, T.res_ret, T.res_bad, decide_eq_true_eq, e1, e2, e3, Bool.not_false, reduceIte, and_self]
    refine ⟨_, if_neg (by rw [show lessB _ _ = false from e]; simp), by rw [e4]; exact StLe.refl (Nat.le_refl 2), trivial⟩
theorem end_rm (nl : Bool) (n : Nat) (x : Nat → Ent) (hb : (n : Int) ≤ 9223372036854775807) (hnl : nl = true → n = 0) (a : Ent) (hI : (fun (i : Nat) (a : Ent) => (True : Prop)) (n) a) : ∃ s, (tgt_rm nl n x (n) a).res = some (.exit 0, s) ∧ StLe 2 s (⟨[(2, .v (AP 0)), (3, .v (AP 1))], [(0, .cells (default : Ent).cv), (1, .cells a.cv)], 2, false, 0, []⟩) := by
  refine T.over_exP (g := fun s => (.exit 0, s)) (tree_rm nl n x (n) a) ?_
  simp only [T.res_br, T.res_ret, T.res_bad, decide_eq_true_eq, Int.lt_irrefl, reduceIte]
  exact ⟨_, rfl, StLe.refl (Nat.le_refl 2)⟩
theorem loop_rm (nl : Bool) (n : Nat) (x : Nat → Ent) (hb : (n : Int) ≤ 9223372036854775807) (hnl : nl = true → n = 0) (i : Nat) (a : Ent) (hi : i ≤ n) (hI : (fun (i : Nat) (a : Ent) => (True : Prop)) i a) {st0 : St} (h0 : StLe 2 st0 (S_rm nl n x i a)) (hnx : st0.nx = 2) :
    CodeOk Try.prog Try.f21.ntmps (.loop (loopOf Try.f21 5)) st0 (.exit 0) ((fun (a : Ent) => ⟨[(2, .v (AP 0)), (3, .v (AP 1))], [(0, .cells (default : Ent).cv), (1, .cells a.cv)], 2, false, 0, []⟩) (foldF (fun (i : Nat) (a : Ent) => (mxE a (x i))) (n - i) i a)) := by
  have := for_loop GOPB1 GKPB1 (K := 300) (F := 21) (N := Try.f21.ntmps) (c := loopOf Try.f21 5) (m := 2) (live := [0, 2, 3, 4]) (after := [2, 3]) (S_rm nl n x) (n) (fun (i : Nat) (a : Ent) => .inl (mxE a (x i))) (fun (a : Ent) => (.exit 0, ⟨[(2, .v (AP 0)), (3, .v (AP 1))], [(0, .cells (default : Ent).cv), (1, .cells a.cv)], 2, false, 0, []⟩)) (fun (i : Nat) (a : Ent) => (True : Prop))
    (fun i a hi hI => by obtain ⟨s, h1, h2, h3⟩ := round_rm nl n x hb hnl i a hi hI; exact ⟨_, s, h1, rfl, h2, h3⟩)
    (fun a hI => by obtain ⟨s, h1, h2⟩ := end_rm nl n x hb hnl a hI; exact ⟨_, s, h1, by simp, rfl, h2⟩)
    (fun i a => by first | exact Nat.le_refl _ | (show 2 ≤ _; decide) | (simp only [S_rm]; omega)) hi hI h0 hnx
  rw [foldX_inl] at this
  exact this
noncomputable def L_rm : LoopF := mkLoopF [0, 2, 3, 4] (loopOf Try.f21 5) Try.f21.ntmps fun sl H nx => match sl, H, nx with
  | [(0, .v (.one (.f (.fs nl 5 n e)))), (2, .v (.one (.ptr 0 0 0 0))), (3, .v (.one (.ptr 1 0 0 0))), (4, .v (.one (.f (.lit (.int .i64 i)))))], [(0, .cells [.f (.lit (.int .i64 z1)), .f (.lit (.int .i64 z2)), .f (.lit (.int .i64 z3)), .f (.lit (.int .i64 z4)), .f (.lit (.bool z5))]), (1, .cells [.f (.lit (.int .i64 a1)), .f (.lit (.int .i64 a2)), .f (.lit (.int .i64 a3)), .f (.lit (.int .i64 a4)), .f (.lit (.bool a5))])], 2 => .need (pb (EntE e ∧ i = 1 ∧ (⟨z1, z2, z3, z4, z5⟩ : Ent) = default ∧ 1 ≤ n ∧ (n : Int) ≤ 9223372036854775807 ∧ (nl = true → n = 0))) (.ret (.exit 0, (St.mk [(2, .v (AP 0)), (3, .v (AP 1))] [(0, .cells (default : Ent).cv), (1, .cells (foldF (fun i a => mxE a (entOf e i)) (n - 1) 1 ⟨a1, a2, a3, a4, a5⟩).cv)] 2 false 0 []).sl, (St.mk [(2, .v (AP 0)), (3, .v (AP 1))] [(0, .cells (default : Ent).cv), (1, .cells (foldF (fun i a => mxE a (entOf e i)) (n - 1) 1 ⟨a1, a2, a3, a4, a5⟩).cv)] 2 false 0 []).H, 2, false))
  | _, _, _ => .bad
theorem L_rm_ok : LoopOk Try.prog L_rm := by
  refine mkLoopF_ok fun sl H nx e sl' H' nx' esc' h => ?_
  split at h
  · rename_i nl n e i z1 z2 z3 z4 z5 a1 a2 a3 a4 a5
    obtain ⟨hp, hret⟩ := T.need_some h
    have hp := pb_of hp
    have := T.ret_some hret
    simp only [Prod.mk.injEq] at this
    obtain ⟨rfl, rfl, rfl, rfl, rfl⟩ := this
    clear hret h
    obtain ⟨⟨x, rfl⟩, rfl, hz, h3, h4, h5⟩ := hp
    cases hz
    exact loop_rm _ _ x h4 h5 1 _ h3 trivial (StLe.refl (Nat.le_refl 2)) rfl
  · exact (T.bad_some h).elim
noncomputable def ll_rm : List (Nat × Nat × LoopF) := (21, 5, L_rm) :: ll_mf
theorem ll_rm_ok : ∀ x ∈ ll_rm, LoopOk Try.prog x.2.2 := List.forall_mem_cons.2 ⟨L_rm_ok, ll_mf_ok⟩
/-- a list that may be there -/
def LnOk (nl : Bool) (n : Nat) : Prop := (n : Int) ≤ 9223372036854775807 ∧ (nl = true → n = 0)
def EntN (n : Nat) (e : Nat → List FV) : Prop := ∀ i, i < n → e i = (entOf e i).fs
def EntL (nl : Bool) (n : Nat) (e : Nat → List FV) : Prop := EntN n e ∧ LnOk nl n
def EntS (nl : Bool) (n : Nat) (e : Nat → List FV) : Prop := EntE e ∧ LnOk nl n
theorem entN (n : Nat) (x : Nat → Ent) : EntN n (entE x) := fun _ _ => rfl

noncomputable def GPB2 : Ctx := GS.with ss_RMax2 ll_rm
noncomputable def tgt_MaxFunc (nl : Bool) (n : Nat) (x : Nat → Ent) : T CallOut := evCallW [] GPB2 300 38 [.one (.f (.fs nl 5 n (entE x))), .one (.fn 36 [])] [] 0
noncomputable def tgt_RMax (nl : Bool) (n : Nat) (x : Nat → Ent) : T CallOut := evCallW [] GPB2 300 21 [.one (.f (.fs nl 5 n (entE x)))] [] 0
theorem GKPB2 : KnownOk Try.prog GPB2 := KnownOk.lists ss_RMax2_ok ll_rm_ok
theorem GOPB2 : CtxOk Try.prog GPB2 := GS_ok.with _ _
theorem tree_MaxFunc (nl : Bool) (n : Nat) (x : Nat → Ent) : (tgt_MaxFunc nl n x).over (.br .skip (.br (.br (.br (.br .leaf .skip) .skip) .skip) .skip)) =
  T.br (decide ((↑n : Int) < (1 : Int))) T.bad
    (T.br (!nl)
      (T.br (decide ((0 : Int) ≤ (0 : Int) ∧ (0 : Int) < (↑n : Int)))
        (T.br (pb (loopOf Proofs.Try.f38 (5 : Nat) = loopOf Proofs.Try.f38 (5 : Nat) ∧ (33 : Nat) = (33 : Nat)))
          (T.br
            (pb
              (EntE (entE x) ∧
                (36 : Nat) = (36 : Nat) ∧
                  (1 : Int) = (1 : Int) ∧ { inc := (0 : Int), st := (0 : Int), stamp := (0 : Int), load := (0 : Int), dr := false : Ent } = default ∧ (1 : Nat) ≤ n ∧ (↑n : Int) ≤ (9223372036854775807 : Int) ∧ (nl = true → n = (0 : Nat))))
            (T.ret
              (out0
                (SV.v
                  (AV.agg
                    [I (Ent.inc (foldF (fun i a => mxE a (entOf (entE x) i)) (n - (1 : Nat)) (1 : Nat) (x (0 : Nat)))), I (Ent.st (foldF (fun i a => mxE a (entOf (entE x) i)) (n - (1 : Nat)) (1 : Nat) (x (0 : Nat)))),
                      I (Ent.stamp (foldF (fun i a => mxE a (entOf (entE x) i)) (n - (1 : Nat)) (1 : Nat) (x (0 : Nat)))), I (Ent.load (foldF (fun i a => mxE a (entOf (entE x) i)) (n - (1 : Nat)) (1 : Nat) (x (0 : Nat)))),
                      Bo (Ent.dr (foldF (fun i a => mxE a (entOf (entE x) i)) (n - (1 : Nat)) (1 : Nat) (x (0 : Nat))))]))))
            T.bad)
          T.bad)
        T.bad)
      T.bad) := by kernel_rfl
theorem res_MaxFunc (nl : Bool) (n : Nat) (x : Nat → Ent) (h : LnOk nl n ∧ 1 ≤ n) : (tgt_MaxFunc nl n x).res = some (out0 (.v (.agg (maxE x n).cv))) := by
  refine T.over_eq _ (tree_MaxFunc nl n x) ?_
  simp only [T.res_br, T.res_ret, T.res_bad]
  obtain ⟨⟨h1, h2⟩, h3⟩ := h
  obtain rfl : nl = false := by cases nl <;> simp_all <;> omega
  have e1 : ¬ (n : Int) < 1 := by omega
  have e2 : (0 : Int) ≤ 0 ∧ (0 : Int) < (n : Int) := by omega
  simp only [decide_eq_true_eq, e1, e2, Bool.not_false, if_true, if_false, eq_self, and_self, pb_tt]
  rw [if_pos (pb_true ⟨EntE_ok x, trivial, trivial, rfl, h3, h1, h2⟩)]
  obtain ⟨k, rfl⟩ : ∃ k, n = k + 1 := ⟨n - 1, by omega⟩
  rfl
theorem tree_RMax (nl : Bool) (n : Nat) (x : Nat → Ent) : (tgt_RMax nl n x).over (.br .leaf (.br (.br (.br (.br .leaf .skip) .skip) .skip) .skip)) =
  T.br ((↑n : Int) == (0 : Int)) (T.ret (out0 (SV.v (AV.agg [I (0 : Int), I (0 : Int), I (0 : Int), I (0 : Int), Bo false]))))
    (T.br (!nl)
      (T.br (decide ((0 : Int) ≤ (0 : Int) ∧ (0 : Int) < (↑n : Int)))
        (T.br (pb (loopOf Proofs.Try.f21 (5 : Nat) = loopOf Proofs.Try.f21 (5 : Nat) ∧ (29 : Nat) = (29 : Nat)))
          (T.br
            (pb
              (EntE (entE x) ∧
                (1 : Int) = (1 : Int) ∧ { inc := (0 : Int), st := (0 : Int), stamp := (0 : Int), load := (0 : Int), dr := false : Ent } = default ∧ (1 : Nat) ≤ n ∧ (↑n : Int) ≤ (9223372036854775807 : Int) ∧ (nl = true → n = (0 : Nat))))
            (T.ret
              (out0
                (SV.v
                  (AV.agg
                    [I (Ent.inc (foldF (fun i a => mxE a (entOf (entE x) i)) (n - (1 : Nat)) (1 : Nat) (x (0 : Nat)))), I (Ent.st (foldF (fun i a => mxE a (entOf (entE x) i)) (n - (1 : Nat)) (1 : Nat) (x (0 : Nat)))),
                      I (Ent.stamp (foldF (fun i a => mxE a (entOf (entE x) i)) (n - (1 : Nat)) (1 : Nat) (x (0 : Nat)))), I (Ent.load (foldF (fun i a => mxE a (entOf (entE x) i)) (n - (1 : Nat)) (1 : Nat) (x (0 : Nat)))),
                      Bo (Ent.dr (foldF (fun i a => mxE a (entOf (entE x) i)) (n - (1 : Nat)) (1 : Nat) (x (0 : Nat))))]))))
            T.bad)
          T.bad)
        T.bad)
      T.bad) := by kernel_rfl
theorem res_RMax (nl : Bool) (n : Nat) (x : Nat → Ent) (h : LnOk nl n) : (tgt_RMax nl n x).res = some (out0 (.v (.agg (maxE x n).cv))) := by
  refine T.over_eq _ (tree_RMax nl n x) ?_
  simp only [T.res_br, T.res_ret, T.res_bad]
  obtain ⟨h1, h2⟩ := h
  by_cases h0 : n = 0
  · subst h0
    rfl
  · obtain rfl : nl = false := by cases nl <;> simp_all
    have e0 : ¬ (n : Int) = 0 := by omega
    have e2 : (0 : Int) ≤ 0 ∧ (0 : Int) < (n : Int) := by omega
    have h3 : 1 ≤ n := by omega
    simp only [beq_iff_eq, decide_eq_true_eq, e0, e2, Bool.not_false, if_true, if_false, eq_self, and_self, pb_tt]
    rw [if_pos (pb_true (by exact ⟨EntE_ok x, trivial, rfl, h3, h1, h2⟩))]
    obtain ⟨k, rfl⟩ : ∃ k, n = k + 1 := ⟨n - 1, by omega⟩
    rfl
noncomputable def F_MaxFunc : SumF
  | [.one (.f (.fs nl 5 n e)), .one (.fn g [])], [], 0 => .need (pb (EntL nl n e ∧ 1 ≤ n ∧ g = 36)) (.ret (out0 (.v (.agg (maxE (entOf e) n).cv))))
  | _, _, _ => .bad
theorem sum_MaxFunc : SumOk Try.prog 38 F_MaxFunc := by
  refine ⟨fun args H nx r hr => ?_, fun args H nx => ?_⟩
  · unfold F_MaxFunc at hr
    split at hr
    · rename_i nl n e g
      obtain ⟨h0, hr⟩ := T.need_some hr
      have := T.ret_some hr
      subst this
      have h := pb_of h0
      obtain ⟨⟨he, h1⟩, h2, rfl⟩ := h
      exact (evCallW_ok GOPB2 GKPB2 (res_MaxFunc _ _ (entOf e) ⟨h1, h2⟩)).args (.cons (CV.le.f (FV.le_fs he)) (.refl _))
    · exact (T.bad_some hr).elim
  · unfold F_MaxFunc
    split
    · exact T.Every.need ⟨Nat.zero_le _, fun b hb hw => absurd hb (Nat.not_lt_zero b)⟩
    · trivial
noncomputable def sm_MaxFunc : SumF := canonSum F_MaxFunc
theorem sm_MaxFunc_ok : SumOk Try.prog 38 sm_MaxFunc := canonSum_ok sum_MaxFunc
noncomputable def ss_MaxFunc : List (Nat × SumF) := (38, sm_MaxFunc) :: ss_RMax2
theorem ss_MaxFunc_ok : ∀ x ∈ ss_MaxFunc, SumOk Try.prog x.1 x.2 := List.forall_mem_cons.2 ⟨sm_MaxFunc_ok, ss_RMax2_ok⟩
noncomputable def F_RMax : SumF
  | [.one (.f (.fs nl 5 n e))], [], 0 => .need (pb (EntL nl n e)) (.ret (out0 (.v (.agg (maxE (entOf e) n).cv))))
  | _, _, _ => .bad
theorem sum_RMax : SumOk Try.prog 21 F_RMax := by
  refine ⟨fun args H nx r hr => ?_, fun args H nx => ?_⟩
  · unfold F_RMax at hr
    split at hr
    · rename_i nl n e
      obtain ⟨h0, hr⟩ := T.need_some hr
      have := T.ret_some hr
      subst this
      have h := pb_of h0
      obtain ⟨he, h1⟩ := h
      exact (evCallW_ok GOPB2 GKPB2 (res_RMax _ _ (entOf e) h1)).args (.cons (CV.le.f (FV.le_fs he)) (.refl _))
    · exact (T.bad_some hr).elim
  · unfold F_RMax
    split
    · exact T.Every.need ⟨Nat.zero_le _, fun b hb hw => absurd hb (Nat.not_lt_zero b)⟩
    · trivial
noncomputable def sm_RMax : SumF := orSum sm_RMax2 (orSum (nilSum 5 ((entE fun _ => default)) (canonSum F_RMax)) (lendSum (nilSum 5 ((entE fun _ => default)) (canonSum F_RMax))))
theorem sm_RMax_ok : SumOk Try.prog 21 sm_RMax := orSum_ok sm_RMax2_ok (orSum_ok (nilSum_ok (canonSum_ok sum_RMax)) (lendSum_ok (nilSum_ok (canonSum_ok sum_RMax))))
noncomputable def ss_RMax : List (Nat × SumF) := (21, sm_RMax) :: ss_MaxFunc
theorem ss_RMax_ok : ∀ x ∈ ss_RMax, SumOk Try.prog x.1 x.2 := List.forall_mem_cons.2 ⟨sm_RMax_ok, ss_MaxFunc_ok⟩
noncomputable def GPB3 : Ctx := GS.with ss_RMax ll_rm
noncomputable def tgt_Max (nl : Bool) (n : Nat) (x : Nat → Ent) : T CallOut := evCallW [] GPB3 300 17 [.one (.f (.fs nl 5 n (entE x)))] [] 0
theorem GKPB3 : KnownOk Try.prog GPB3 := KnownOk.lists ss_RMax_ok ll_rm_ok
theorem GOPB3 : CtxOk Try.prog GPB3 := GS_ok.with _ _
theorem tree_Max (nl : Bool) (n : Nat) (x : Nat → Ent) : (tgt_Max nl n x).over (.br .leaf (.br .leaf .skip)) =
  T.br ((↑n : Int) == (0 : Int)) (T.ret (out0 (SV.v (AV.agg [I (0 : Int), I (0 : Int), I (0 : Int), I (0 : Int), Bo false]))))
    (T.br (pb (EntL nl n (entE x) ∧ (1 : Nat) ≤ n ∧ (36 : Nat) = (36 : Nat))) (T.ret (out0 (SV.v (AV.agg [I (Ent.inc (maxE x n)), I (Ent.st (maxE x n)), I (Ent.stamp (maxE x n)), I (Ent.load (maxE x n)), Bo (Ent.dr (maxE x n))])))) T.bad) := by kernel_rfl
theorem res_Max (nl : Bool) (n : Nat) (x : Nat → Ent) (h : LnOk nl n) : (tgt_Max nl n x).res = some (out0 (.v (.agg (maxE x n).cv))) := by
  refine T.over_eq _ (tree_Max nl n x) ?_
  simp only [T.res_br, T.res_ret, T.res_bad]
  obtain ⟨h1, h2⟩ := h
  by_cases h0 : n = 0
  · subst h0
    rfl
  · have e0 : ¬ (n : Int) = 0 := by omega
    simp only [beq_iff_eq, e0, if_false]
    rw [if_pos (pb_true ⟨⟨entN _ x, h1, h2⟩, by omega, trivial⟩)]
noncomputable def F_Max : SumF
  | [.one (.f (.fs nl 5 n e))], [], 0 => .need (pb (EntL nl n e)) (.ret (out0 (.v (.agg (maxE (entOf e) n).cv))))
  | _, _, _ => .bad
theorem sum_Max : SumOk Try.prog 17 F_Max := by
  refine ⟨fun args H nx r hr => ?_, fun args H nx => ?_⟩
  · unfold F_Max at hr
    split at hr
    · rename_i nl n e
      obtain ⟨h0, hr⟩ := T.need_some hr
      have := T.ret_some hr
      subst this
      have h := pb_of h0
      obtain ⟨he, h1⟩ := h
      exact (evCallW_ok GOPB3 GKPB3 (res_Max _ _ (entOf e) h1)).args (.cons (CV.le.f (FV.le_fs he)) (.refl _))
    · exact (T.bad_some hr).elim
  · unfold F_Max
    split
    · exact T.Every.need ⟨Nat.zero_le _, fun b hb hw => absurd hb (Nat.not_lt_zero b)⟩
    · trivial
noncomputable def sm_Max : SumF := orSum sm_Max2 (orSum (nilSum 5 ((entE fun _ => default)) (canonSum F_Max)) (lendSum (nilSum 5 ((entE fun _ => default)) (canonSum F_Max))))
theorem sm_Max_ok : SumOk Try.prog 17 sm_Max := orSum_ok sm_Max2_ok (orSum_ok (nilSum_ok (canonSum_ok sum_Max)) (lendSum_ok (nilSum_ok (canonSum_ok sum_Max))))
noncomputable def ss_Max : List (Nat × SumF) := (17, sm_Max) :: ss_RMax
theorem ss_Max_ok : ∀ x ∈ ss_Max, SumOk Try.prog x.1 x.2 := List.forall_mem_cons.2 ⟨sm_Max_ok, ss_RMax_ok⟩
end Go.Proofs.Ytdoehlinboiohaa.En
