/- What the points come to. -/
import Derived.Test.YtabmkefbceepmaaPF
import Derived.Test.YtabmkefbceepmaaF8
namespace Go.Proofs.Ytabmkefbceepmaa.En
open Go
set_option linter.unusedVariables false
set_option linter.unusedSimpArgs false
set_option maxRecDepth 20000
/-- a list of points -/
def ptE (ep ho : Nat → Int) : Nat → List FV := fun i => [.lit (.int .i64 (ep i)), .lit (.int .i64 (ho i))]
def PtE (e : Nat → List FV) : Prop := ∃ ep ho, e = ptE ep ho
def epOf (e : Nat → List FV) : Nat → Int := fun i => match e i with | [.lit (.int _ x), _] => x | _ => 0
def hoOf (e : Nat → List FV) : Nat → Int := fun i => match e i with | [_, .lit (.int _ x)] => x | _ => 0
theorem ptE_ok (ep ho : Nat → Int) : PtE fun a => [.lit (.int .i64 (ep a)), .lit (.int .i64 (ho a))] := ⟨ep, ho, rfl⟩
def rtB (h s : Int) : Bool := decide (1 ≤ h ∧ h ≤ 5 ∧ 1 ≤ s ∧ s ≤ 6)
def inB (n : Nat) (s : Int) : Bool := decide (0 ≤ s ∧ s < (n : Int))
def learnB (hs : Int) (n : Nat) (ep : Nat → Int) (s x y : Int) : Bool := decide (0 ≤ s ∧ s < (n : Int) ∧ 0 ≤ y ∧ y < hs ∧ ep s.toNat < x ∧ x ≤ 1099511627776)
def updP (b : Bool) (f : Nat → Int) (k : Nat) (x : Int) : Nat → Int := fun i => bif b && Nat.beq i k then x else f i
def NlN (nl : Bool) (n : Nat) : Prop := n ≤ 6 ∧ (nl = true ↔ n = 0)
def PtN (e : Nat → List FV) (nl : Bool) (n : Nat) : Prop := PtE e ∧ NlN nl n

noncomputable def GPG1 : Ctx := GS.with ss_Req ll_tell
noncomputable def tgt_PRight (h s : Int) : T CallOut := evCallZ [] GPG1 300 34 [.agg [I h, I s]] [] 0
noncomputable def tgt_RRight (h s : Int) : T CallOut := evCallZ [] GPG1 300 36 [.agg [I h, I s]] [] 0
noncomputable def tgt_Point (hs : Int) (nl : Bool) (n : Nat) (ep ho : Nat → Int) (s : Int) : T CallOut := evCallZ [] GPG1 300 31 [AP 0, AI s] [(0, .cells [I hs, .f (.fs nl 2 n (ptE ep ho))])] 1
noncomputable def tgt_RPoint (hs : Int) (nl : Bool) (n : Nat) (ep ho : Nat → Int) (s : Int) : T CallOut := evCallZ [] GPG1 300 39 [AP 0, AI s] [(0, .cells [I hs, .f (.fs nl 2 n (ptE ep ho))])] 1
noncomputable def tgt_All (hs : Int) (nl : Bool) (n : Nat) (ep ho : Nat → Int) : T CallOut := evCallZ [] GPG1 300 32 [AP 0] [(0, .cells [I hs, .f (.fs nl 2 n (ptE ep ho))])] 1
theorem GKPG1 : KnownOk Try.prog GPG1 := KnownOk.lists ss_Req_ok ll_tell_ok
theorem tree_PRight (h s : Int) : (tgt_PRight h s).over (.br (.tt (.tt (.tt (.br (.tt (.tt (.tt (.br (.tt (.tt (.tt .leaf))) (.ff (.ff (.ff .leaf))))))) (.ff (.ff (.ff (.ff (.ff (.ff (.ff .leaf))))))))))) (.ff (.ff (.ff (.ff (.ff (.ff (.ff (.ff (.ff (.ff (.ff .leaf)))))))))))) =
  T.br (decide (h ≥ (1 : Int))) (T.br (decide (h ≤ (5 : Int))) (T.br (decide (s ≥ (1 : Int))) (T.ret (out0 (SV.v (AB (decide (s ≤ (6 : Int))))))) (T.ret (out0 (SV.v (AB false))))) (T.ret (out0 (SV.v (AB false)))))
    (T.ret (out0 (SV.v (AB false)))) := by kernel_rfl
theorem res_PRight (h s : Int) : (tgt_PRight h s).res = some (out0 (.v (AB (rtB h s)))) := by
  refine T.over_eq _ (tree_PRight h s) ?_
  simp only [T.res_br, T.res_ret, T.res_bad]
  have key : ∀ a b : Bool, a = b → some (out0 (.v (AB a))) = some (out0 (.v (AB b))) := fun a b e => by rw [e]
  unfold rtB
  repeat' split
  all_goals
    refine key _ _ ?_
    simp only [decide_eq_true_eq, ge_iff_le] at *
    rw [Bool.eq_iff_iff]
    simp only [decide_eq_true_eq, Bool.false_eq_true]
    constructor <;> intro hh <;> first | omega | exact hh.elim
noncomputable def F_PRight : SumF
  | [.agg [.f (.lit (.int .i64 h)), .f (.lit (.int .i64 s))]], [], 0 => .ret (out0 (.v (AB (rtB h s))))
  | _, _, _ => .bad
theorem sum_PRight : SumOk Try.prog 34 F_PRight := by
  refine ⟨fun args H nx r hr => ?_, fun args H nx => ?_⟩
  · unfold F_PRight at hr
    split at hr
    · have := T.ret_some hr
      subst this
      exact evCallZ_ok (GS_ok.with _ _) GKPG1 (res_PRight _ _)
    · exact (T.bad_some hr).elim
  · unfold F_PRight
    split
    · exact ⟨Nat.zero_le _, fun b hb hw => absurd hb (Nat.not_lt_zero b)⟩
    · trivial
noncomputable def ss_PRight : List (Nat × SumF) := (34, canonSum F_PRight) :: ss_Req
theorem ss_PRight_ok : ∀ x ∈ ss_PRight, SumOk Try.prog x.1 x.2 := List.forall_mem_cons.2 ⟨canonSum_ok sum_PRight, ss_Req_ok⟩
theorem tree_RRight (h s : Int) : (tgt_RRight h s).over (.br (.tt (.tt (.tt (.br (.tt (.tt (.tt (.br (.tt (.tt (.tt .leaf))) (.ff (.ff (.ff .leaf))))))) (.ff (.ff (.ff (.ff (.ff (.ff (.ff .leaf))))))))))) (.ff (.ff (.ff (.ff (.ff (.ff (.ff (.ff (.ff (.ff (.ff .leaf)))))))))))) =
  T.br (decide (h ≥ (1 : Int))) (T.br (decide (h ≤ (5 : Int))) (T.br (decide (s ≥ (1 : Int))) (T.ret (out0 (SV.v (AB (decide (s ≤ (6 : Int))))))) (T.ret (out0 (SV.v (AB false))))) (T.ret (out0 (SV.v (AB false)))))
    (T.ret (out0 (SV.v (AB false)))) := by kernel_rfl
theorem res_RRight (h s : Int) : (tgt_RRight h s).res = some (out0 (.v (AB (rtB h s)))) := by
  refine T.over_eq _ (tree_RRight h s) ?_
  simp only [T.res_br, T.res_ret, T.res_bad]
  have key : ∀ a b : Bool, a = b → some (out0 (.v (AB a))) = some (out0 (.v (AB b))) := fun a b e => by rw [e]
  unfold rtB
  repeat' split
  all_goals
    refine key _ _ ?_
    simp only [decide_eq_true_eq, ge_iff_le] at *
    rw [Bool.eq_iff_iff]
    simp only [decide_eq_true_eq, Bool.false_eq_true]
    constructor <;> intro hh <;> first | omega | exact hh.elim
noncomputable def F_RRight : SumF
  | [.agg [.f (.lit (.int .i64 h)), .f (.lit (.int .i64 s))]], [], 0 => .ret (out0 (.v (AB (rtB h s))))
  | _, _, _ => .bad
theorem sum_RRight : SumOk Try.prog 36 F_RRight := by
  refine ⟨fun args H nx r hr => ?_, fun args H nx => ?_⟩
  · unfold F_RRight at hr
    split at hr
    · have := T.ret_some hr
      subst this
      exact evCallZ_ok (GS_ok.with _ _) GKPG1 (res_RRight _ _)
    · exact (T.bad_some hr).elim
  · unfold F_RRight
    split
    · exact ⟨Nat.zero_le _, fun b hb hw => absurd hb (Nat.not_lt_zero b)⟩
    · trivial
noncomputable def ss_RRight : List (Nat × SumF) := (36, canonSum F_RRight) :: ss_PRight
theorem ss_RRight_ok : ∀ x ∈ ss_RRight, SumOk Try.prog x.1 x.2 := List.forall_mem_cons.2 ⟨canonSum_ok sum_RRight, ss_PRight_ok⟩
theorem tree_Point (hs : Int) (nl : Bool) (n : Nat) (ep ho : Nat → Int) (s : Int) : (tgt_Point hs nl n ep ho s).over (.br (.tt (.tt (.tt (.tt (.tt (.tt (.tt (.tt .leaf)))))))) (.ff (.ff (.ff (.ff (.ff (.ff (.ff (.br .leaf (.br (.br .leaf .skip) .skip)))))))))) =
  T.br (decide (s < (0 : Int)))
    (T.ret
      { v := SV.tup [AV.agg [I (0 : Int), I (0 : Int)], AB false], H := [((0 : Nat), Ob.cells [I hs, CV.f (FV.fs nl (2 : Nat) n fun a => [FV.lit (Value.int IntKind.i64 (ep a)), FV.lit (Value.int IntKind.i64 (ho a))])])], nx := (1 : Nat),
        esc := false, wr := [] : CallOut })
    (T.br (decide (s ≥ (↑n : Int)))
      (T.ret
        { v := SV.tup [AV.agg [I (0 : Int), I (0 : Int)], AB false], H := [((0 : Nat), Ob.cells [I hs, CV.f (FV.fs nl (2 : Nat) n fun a => [FV.lit (Value.int IntKind.i64 (ep a)), FV.lit (Value.int IntKind.i64 (ho a))])])], nx := (1 : Nat),
          esc := false, wr := [] : CallOut })
      (T.br (!nl)
        (T.br (decide ((0 : Int) ≤ s ∧ s < (↑n : Int)))
          (T.ret
            { v := SV.tup [AV.agg [I (ep (Int.toNat s)), I (ho (Int.toNat s))], AB true],
              H := [((0 : Nat), Ob.cells [I hs, CV.f (FV.fs nl (2 : Nat) n fun a => [FV.lit (Value.int IntKind.i64 (ep a)), FV.lit (Value.int IntKind.i64 (ho a))])])], nx := (1 : Nat), esc := false, wr := [] : CallOut })
          T.bad)
        T.bad)) := by kernel_rfl
theorem res_Point (hs : Int) (nl : Bool) (n : Nat) (ep ho : Nat → Int) (s : Int) (h : NlN nl n) : (tgt_Point hs nl n ep ho s).res = some (⟨.tup [.agg [I (bif inB n s then ep s.toNat else 0), I (bif inB n s then ho s.toNat else 0)], AB (inB n s)], [(0, .cells [I hs, .f (.fs nl 2 n (ptE ep ho))])], 1, false, []⟩) := by
  refine T.over_eq _ (tree_Point hs nl n ep ho s) ?_
  simp only [T.res_br, T.res_ret, T.res_bad]
  by_cases hb : 0 ≤ s ∧ s < (n : Int)
  · obtain rfl : nl = false := by
      cases nl with
      | false => rfl
      | true => have h0 : n = 0 := h.2.1 rfl; omega
    rw [inB, decide_eq_true hb]
    simp only [decide_eq_true_eq, ge_iff_le, Bool.not_false, cond_true, reduceIte]
    repeat' split
    all_goals first
      | rfl
      | (exfalso; omega)
  · rw [inB, decide_eq_false hb]
    simp only [decide_eq_true_eq, ge_iff_le, cond_false]
    repeat' split
    all_goals first
      | rfl
      | (exfalso; omega)
theorem tree_RPoint (hs : Int) (nl : Bool) (n : Nat) (ep ho : Nat → Int) (s : Int) : (tgt_RPoint hs nl n ep ho s).over (.br (.tt (.tt (.tt (.tt (.tt (.tt (.tt (.tt .leaf)))))))) (.ff (.ff (.ff (.ff (.ff (.ff (.ff (.br .leaf (.br (.br .leaf .skip) .skip)))))))))) =
  T.br (decide (s < (0 : Int)))
    (T.ret
      { v := SV.tup [AV.agg [I (0 : Int), I (0 : Int)], AB false], H := [((0 : Nat), Ob.cells [I hs, CV.f (FV.fs nl (2 : Nat) n fun a => [FV.lit (Value.int IntKind.i64 (ep a)), FV.lit (Value.int IntKind.i64 (ho a))])])], nx := (1 : Nat),
        esc := false, wr := [] : CallOut })
    (T.br (decide (s ≥ (↑n : Int)))
      (T.ret
        { v := SV.tup [AV.agg [I (0 : Int), I (0 : Int)], AB false], H := [((0 : Nat), Ob.cells [I hs, CV.f (FV.fs nl (2 : Nat) n fun a => [FV.lit (Value.int IntKind.i64 (ep a)), FV.lit (Value.int IntKind.i64 (ho a))])])], nx := (1 : Nat),
          esc := false, wr := [] : CallOut })
      (T.br (!nl)
        (T.br (decide ((0 : Int) ≤ s ∧ s < (↑n : Int)))
          (T.ret
            { v := SV.tup [AV.agg [I (ep (Int.toNat s)), I (ho (Int.toNat s))], AB true],
              H := [((0 : Nat), Ob.cells [I hs, CV.f (FV.fs nl (2 : Nat) n fun a => [FV.lit (Value.int IntKind.i64 (ep a)), FV.lit (Value.int IntKind.i64 (ho a))])])], nx := (1 : Nat), esc := false, wr := [] : CallOut })
          T.bad)
        T.bad)) := by kernel_rfl
theorem res_RPoint (hs : Int) (nl : Bool) (n : Nat) (ep ho : Nat → Int) (s : Int) (h : NlN nl n) : (tgt_RPoint hs nl n ep ho s).res = some (⟨.tup [.agg [I (bif inB n s then ep s.toNat else 0), I (bif inB n s then ho s.toNat else 0)], AB (inB n s)], [(0, .cells [I hs, .f (.fs nl 2 n (ptE ep ho))])], 1, false, []⟩) := by
  refine T.over_eq _ (tree_RPoint hs nl n ep ho s) ?_
  simp only [T.res_br, T.res_ret, T.res_bad]
  by_cases hb : 0 ≤ s ∧ s < (n : Int)
  · obtain rfl : nl = false := by
      cases nl with
      | false => rfl
      | true => have h0 : n = 0 := h.2.1 rfl; omega
    rw [inB, decide_eq_true hb]
    simp only [decide_eq_true_eq, ge_iff_le, Bool.not_false, cond_true, reduceIte]
    repeat' split
    all_goals first
      | rfl
      | (exfalso; omega)
  · rw [inB, decide_eq_false hb]
    simp only [decide_eq_true_eq, ge_iff_le, cond_false]
    repeat' split
    all_goals first
      | rfl
      | (exfalso; omega)
theorem tree_All (hs : Int) (nl : Bool) (n : Nat) (ep ho : Nat → Int) : (tgt_All hs nl n ep ho).over (.br (.tt (.tt .leaf)) (.br (.tt .skip) (.br (.tt (.br (.br (.br .leaf (.tt (.br .leaf .skip))) .skip) .skip)) .skip))) =
  T.br nl
    (T.ret
      { v := SV.v (AV.one Nil), H := [((0 : Nat), Ob.cells [I hs, CV.f (FV.fs nl (2 : Nat) n fun a => [FV.lit (Value.int IntKind.i64 (ep a)), FV.lit (Value.int IntKind.i64 (ho a))])])], nx := (1 : Nat), esc := false, wr := [] : CallOut })
    (T.br (Nat.ble ((0 : Nat) + Src.n (Src.fn n (ptE ep ho))) (0 : Nat)) T.bad
      (T.br (decide (((2 : Nat) * ((0 : Nat) + Src.n (Src.fn n (ptE ep ho))) + (512 : Nat)) * (16 : Nat) ≤ (281474976710656 : Nat)))
        (T.br (decide ((0 : Int) ≤ (↑((0 : Nat) + n) : Int) ∧ (↑((0 : Nat) + n) : Int) ≤ (↑((0 : Nat) + n) : Int)))
          (T.br (decide ((0 : Int) ≤ (↑((0 : Nat) + n) : Int) ∧ (↑((0 : Nat) + n) : Int) ≤ (↑((0 : Nat) + n) : Int)))
            (T.br (Nat.beq ((0 : Nat) + n) (0 : Nat))
              (T.ret
                { v := SV.v (AV.one (CV.f (FV.z0 false))), H := [((0 : Nat), Ob.cells [I hs, CV.f (FV.fs nl (2 : Nat) n fun a => [FV.lit (Value.int IntKind.i64 (ep a)), FV.lit (Value.int IntKind.i64 (ho a))])])], nx := (1 : Nat),
                  esc := false, wr := [] : CallOut })
              (T.br (Nat.ble ((0 : Nat) + n - (0 : Nat)) ((0 : Nat) + n) && true)
                (T.ret
                  { v := SV.v (AV.one (CV.f (FV.fs false (2 : Nat) ((0 : Nat) + n - (0 : Nat)) fun i => [FV.lit (Value.int IntKind.i64 (ep (i - (0 : Nat)))), FV.lit (Value.int IntKind.i64 (ho (i - (0 : Nat))))]))),
                    H := [((0 : Nat), Ob.cells [I hs, CV.f (FV.fs nl (2 : Nat) n fun a => [FV.lit (Value.int IntKind.i64 (ep a)), FV.lit (Value.int IntKind.i64 (ho a))])])], nx := (1 : Nat), esc := false, wr := [] : CallOut })
                T.bad))
            T.bad)
          T.bad)
        T.bad)) := by kernel_rfl
noncomputable def GPG2 : Ctx := GS.with ss_RRight ll_tell
noncomputable def tgt_Learn (hs : Int) (nl : Bool) (n : Nat) (ep ho : Nat → Int) (s x y : Int) : T CallOut := evCallZ [0] GPG2 300 30 [AP 0, AI s, .agg [I x, I y]] [(0, .cells [I hs, .f (.fs nl 2 n (ptE ep ho))])] 1
noncomputable def tgt_RLearn (hs : Int) (nl : Bool) (n : Nat) (ep ho : Nat → Int) (s x y : Int) : T CallOut := evCallZ [0] GPG2 300 38 [AP 0, AI s, .agg [I x, I y]] [(0, .cells [I hs, .f (.fs nl 2 n (ptE ep ho))])] 1
noncomputable def tgt_New1 (h : Int) : T CallOut := evCallZ [] GPG2 300 29 [.agg [I h, I 1]] [] 0
noncomputable def tgt_RNew1 (h : Int) : T CallOut := evCallZ [] GPG2 300 35 [.agg [I h, I 1]] [] 0
noncomputable def tgt_New2 (h : Int) : T CallOut := evCallZ [] GPG2 300 29 [.agg [I h, I 2]] [] 0
noncomputable def tgt_RNew2 (h : Int) : T CallOut := evCallZ [] GPG2 300 35 [.agg [I h, I 2]] [] 0
noncomputable def tgt_New3 (h : Int) : T CallOut := evCallZ [] GPG2 300 29 [.agg [I h, I 3]] [] 0
noncomputable def tgt_RNew3 (h : Int) : T CallOut := evCallZ [] GPG2 300 35 [.agg [I h, I 3]] [] 0
noncomputable def tgt_New4 (h : Int) : T CallOut := evCallZ [] GPG2 300 29 [.agg [I h, I 4]] [] 0
noncomputable def tgt_RNew4 (h : Int) : T CallOut := evCallZ [] GPG2 300 35 [.agg [I h, I 4]] [] 0
noncomputable def tgt_New5 (h : Int) : T CallOut := evCallZ [] GPG2 300 29 [.agg [I h, I 5]] [] 0
noncomputable def tgt_RNew5 (h : Int) : T CallOut := evCallZ [] GPG2 300 35 [.agg [I h, I 5]] [] 0
noncomputable def tgt_New6 (h : Int) : T CallOut := evCallZ [] GPG2 300 29 [.agg [I h, I 6]] [] 0
noncomputable def tgt_RNew6 (h : Int) : T CallOut := evCallZ [] GPG2 300 35 [.agg [I h, I 6]] [] 0
theorem GKPG2 : KnownOk Try.prog GPG2 := KnownOk.lists ss_RRight_ok ll_tell_ok
theorem tree_Learn (hs : Int) (nl : Bool) (n : Nat) (ep ho : Nat → Int) (s x y : Int) : (tgt_Learn hs nl n ep ho s x y).over (.br (.tt (.tt (.tt (.tt (.tt (.tt (.tt (.tt (.tt (.tt (.tt (.tt (.tt (.tt (.tt (.tt (.tt (.tt (.tt (.tt (.tt (.tt (.tt (.tt (.tt (.tt (.tt (.tt (.tt (.tt (.tt .leaf))))))))))))))))))))))))))))))) (.ff (.ff (.ff (.ff (.ff (.ff (.ff (.br (.tt (.tt (.tt (.tt (.tt (.tt (.tt (.tt (.tt (.tt (.tt (.tt (.tt (.tt (.tt (.tt (.tt (.tt (.tt (.tt (.tt (.tt (.tt .leaf))))))))))))))))))))))) (.br (.br (.ff (.ff (.ff (.ff (.br (.br (.br (.br (.br (.br (.br (.br (.tt (.tt (.tt (.tt (.tt (.tt (.tt (.tt (.tt (.tt (.tt .leaf))))))))))) .skip) .skip) .skip) .skip) .skip) .skip) .skip) (.br .skip (.br .skip (.br .skip (.br .skip (.br .skip (.br .skip (.br .skip (.br (.br (.br (.br (.br (.br (.tt (.tt (.tt (.tt (.tt .leaf))))) .skip) .skip) .skip) .skip) .skip) (.br .skip (.br .skip (.br .skip (.br .skip (.br .skip (.br (.br (.br (.br (.tt .leaf) .skip) .skip) .skip) (.br .skip (.br .skip (.br .skip (.br .leaf (.br .skip (.br (.tt .skip) (.br (.tt (.tt (.br (.tt (.br (.br .leaf .skip) .skip)) .skip))) .skip)))))))))))))))))))))))))) .skip) .skip)))))))))) =
  T.br (decide (s < (0 : Int)))
    (T.ret
      { v := SV.v (AB false), H := [((0 : Nat), Ob.cells [I hs, CV.f (FV.fs nl (2 : Nat) n fun a => [FV.lit (Value.int IntKind.i64 (ep a)), FV.lit (Value.int IntKind.i64 (ho a))])])], nx := (1 : Nat), esc := false, wr := [(0 : Nat)] :
        CallOut })
    (T.br (decide (s ≥ (↑n : Int)))
      (T.ret
        { v := SV.v (AB false), H := [((0 : Nat), Ob.cells [I hs, CV.f (FV.fs nl (2 : Nat) n fun a => [FV.lit (Value.int IntKind.i64 (ep a)), FV.lit (Value.int IntKind.i64 (ho a))])])], nx := (1 : Nat), esc := false, wr := [(0 : Nat)] :
          CallOut })
      (T.br (!nl)
        (T.br (decide ((0 : Int) ≤ s ∧ s < (↑n : Int)))
          (T.br (decide (y < (0 : Int)))
            (T.br (decide (y < (0 : Int)))
              (T.br (decide (y < (0 : Int)))
                (T.br (decide (y < (0 : Int)))
                  (T.br (decide (y < (0 : Int)))
                    (T.br (decide (y < (0 : Int)))
                      (T.br (decide (y < (0 : Int)))
                        (T.br (decide (y < (0 : Int)))
                          (T.ret
                            { v := SV.v (AB false), H := [((0 : Nat), Ob.cells [I hs, CV.f (FV.fs nl (2 : Nat) n fun a => [FV.lit (Value.int IntKind.i64 (ep a)), FV.lit (Value.int IntKind.i64 (ho a))])])], nx := (1 : Nat), esc := false,
                              wr := [(0 : Nat)] : CallOut })
                          T.bad)
                        T.bad)
                      T.bad)
                    T.bad)
                  T.bad)
                T.bad)
              T.bad)
            (T.br (decide (y < (0 : Int))) T.bad
              (T.br (decide (y < (0 : Int))) T.bad
                (T.br (decide (y < (0 : Int))) T.bad
                  (T.br (decide (y < (0 : Int))) T.bad
                    (T.br (decide (y < (0 : Int))) T.bad
                      (T.br (decide (y < (0 : Int))) T.bad
                        (T.br (decide (y < (0 : Int))) T.bad
                          (T.br (decide (y ≥ hs))
                            (T.br (decide (y ≥ hs))
                              (T.br (decide (y ≥ hs))
                                (T.br (decide (y ≥ hs))
                                  (T.br (decide (y ≥ hs))
                                    (T.br (decide (y ≥ hs))
                                      (T.ret
                                        { v := SV.v (AB false), H := [((0 : Nat), Ob.cells [I hs, CV.f (FV.fs nl (2 : Nat) n fun a => [FV.lit (Value.int IntKind.i64 (ep a)), FV.lit (Value.int IntKind.i64 (ho a))])])], nx := (1 : Nat),
                                          esc := false, wr := [(0 : Nat)] : CallOut })
                                      T.bad)
                                    T.bad)
                                  T.bad)
                                T.bad)
                              T.bad)
                            (T.br (decide (y ≥ hs)) T.bad
                              (T.br (decide (y ≥ hs)) T.bad
                                (T.br (decide (y ≥ hs)) T.bad
                                  (T.br (decide (y ≥ hs)) T.bad
                                    (T.br (decide (y ≥ hs)) T.bad
                                      (T.br (decide (x ≤ ep (Int.toNat s)))
                                        (T.br (decide (x ≤ ep (Int.toNat s)))
                                          (T.br (decide (x ≤ ep (Int.toNat s)))
                                            (T.br (decide (x ≤ ep (Int.toNat s)))
                                              (T.ret
                                                { v := SV.v (AB false), H := [((0 : Nat), Ob.cells [I hs, CV.f (FV.fs nl (2 : Nat) n fun a => [FV.lit (Value.int IntKind.i64 (ep a)), FV.lit (Value.int IntKind.i64 (ho a))])])], nx := (1 : Nat),
                                                  esc := false, wr := [(0 : Nat)] : CallOut })
                                              T.bad)
                                            T.bad)
                                          T.bad)
                                        (T.br (decide (x ≤ ep (Int.toNat s))) T.bad
                                          (T.br (decide (x ≤ ep (Int.toNat s))) T.bad
                                            (T.br (decide (x ≤ ep (Int.toNat s))) T.bad
                                              (T.br (decide (x > (1099511627776 : Int)))
                                                (T.ret
                                                  { v := SV.v (AB false), H := [((0 : Nat), Ob.cells [I hs, CV.f (FV.fs nl (2 : Nat) n fun a => [FV.lit (Value.int IntKind.i64 (ep a)), FV.lit (Value.int IntKind.i64 (ho a))])])],
                                                    nx := (1 : Nat), esc := false, wr := [(0 : Nat)] : CallOut })
                                                (T.br nl T.bad
                                                  (T.br (Nat.ble ((0 : Nat) + Src.n (Src.fn n (ptE ep ho))) (0 : Nat)) T.bad
                                                    (T.br (decide (((2 : Nat) * ((0 : Nat) + Src.n (Src.fn n (ptE ep ho))) + (512 : Nat)) * (16 : Nat) ≤ (281474976710656 : Nat)))
                                                      (T.br (decide ((0 : Int) ≤ s ∧ s < (↑((0 : Nat) + n) : Int)))
                                                        (T.br (Nat.ble ((0 : Nat) + Int.toNat s + (1 : Nat)) ((0 : Nat) + n))
                                                          (T.br (Nat.ble ((0 : Nat) + n) ((0 : Nat) + n) && true)
                                                            (T.ret
                                                              { v := SV.v (AB true),
                                                                H :=
                                                                  [((0 : Nat),
                                                                      Ob.cells
                                                                        [I hs,
                                                                          CV.f
                                                                            (FV.fs false (2 : Nat) ((0 : Nat) + n) fun i' =>
                                                                              [FV.lit (Value.int IntKind.i64 (bif Nat.beq i' ((0 : Nat) + Int.toNat s) then x else ep (i' - (0 : Nat)))),
                                                                                FV.lit (Value.int IntKind.i64 (bif Nat.beq i' ((0 : Nat) + Int.toNat s) then y else ho (i' - (0 : Nat))))])])],
                                                                nx := (1 : Nat), esc := true, wr := [(0 : Nat)] : CallOut })
                                                            T.bad)
                                                          T.bad)
                                                        T.bad)
                                                      T.bad))))))))))))))))))))))
          T.bad)
        T.bad)) := by kernel_rfl
theorem tree_RLearn (hs : Int) (nl : Bool) (n : Nat) (ep ho : Nat → Int) (s x y : Int) : (tgt_RLearn hs nl n ep ho s x y).over (.br (.br (.br (.br (.br (.br (.br (.br (.tt (.tt (.tt (.tt (.tt (.tt (.tt (.tt (.tt (.tt (.tt (.tt (.tt (.tt (.tt (.tt (.tt (.tt (.tt (.tt (.tt (.tt (.tt (.tt (.tt (.tt (.tt (.tt (.tt .leaf))))))))))))))))))))))))))))) .skip) .skip) .skip) .skip) .skip) .skip) .skip) (.br .skip (.br .skip (.br .skip (.br .skip (.br .skip (.br .skip (.br .skip (.br (.br (.br (.br (.tt (.tt (.tt (.tt (.tt (.tt (.tt (.tt (.tt (.tt (.tt (.tt (.tt (.tt (.tt (.tt (.tt (.tt (.tt (.tt (.tt (.tt (.tt (.tt (.tt .leaf))))))))))))))))))))))))) .skip) .skip) .skip) (.br .skip (.br .skip (.br .skip (.br (.br (.br (.br (.br (.br (.br (.br (.tt (.tt (.tt (.tt (.tt (.tt (.tt (.tt (.tt (.tt (.tt (.tt (.tt (.tt (.tt (.tt (.tt .leaf))))))))))))))))) .skip) .skip) .skip) .skip) .skip) .skip) .skip) (.br .skip (.br .skip (.br .skip (.br .skip (.br .skip (.br .skip (.br .skip (.br (.br (.br (.br (.br (.br (.br (.br (.br (.br (.br (.br (.tt (.tt (.tt (.tt (.tt .leaf))))) .skip) .skip) .skip) .skip) .skip) .skip) .skip) .skip) .skip) .skip) .skip) (.br .skip (.br .skip (.br .skip (.br .skip (.br .skip (.br .skip (.br .skip (.br (.br (.br .skip (.br .skip (.br .skip (.br .skip (.br (.br (.br (.br (.tt .leaf) .skip) .skip) .skip) (.br .skip (.br .skip (.br .skip (.br .leaf (.br (.tt .skip) (.br (.tt (.tt (.br (.tt (.br (.br .leaf .skip) .skip)) .skip))) .skip))))))))))) .skip) .skip))))))))))))))))))))))))))))) =
  T.br (decide (s < (0 : Int)))
    (T.br (decide (s < (0 : Int)))
      (T.br (decide (s < (0 : Int)))
        (T.br (decide (s < (0 : Int)))
          (T.br (decide (s < (0 : Int)))
            (T.br (decide (s < (0 : Int)))
              (T.br (decide (s < (0 : Int)))
                (T.br (decide (s < (0 : Int)))
                  (T.ret
                    { v := SV.v (AB false), H := [((0 : Nat), Ob.cells [I hs, CV.f (FV.fs nl (2 : Nat) n fun a => [FV.lit (Value.int IntKind.i64 (ep a)), FV.lit (Value.int IntKind.i64 (ho a))])])], nx := (1 : Nat), esc := false,
                      wr := [(0 : Nat)] : CallOut })
                  T.bad)
                T.bad)
              T.bad)
            T.bad)
          T.bad)
        T.bad)
      T.bad)
    (T.br (decide (s < (0 : Int))) T.bad
      (T.br (decide (s < (0 : Int))) T.bad
        (T.br (decide (s < (0 : Int))) T.bad
          (T.br (decide (s < (0 : Int))) T.bad
            (T.br (decide (s < (0 : Int))) T.bad
              (T.br (decide (s < (0 : Int))) T.bad
                (T.br (decide (s < (0 : Int))) T.bad
                  (T.br (decide (s ≥ (↑n : Int)))
                    (T.br (decide (s ≥ (↑n : Int)))
                      (T.br (decide (s ≥ (↑n : Int)))
                        (T.br (decide (s ≥ (↑n : Int)))
                          (T.ret
                            { v := SV.v (AB false), H := [((0 : Nat), Ob.cells [I hs, CV.f (FV.fs nl (2 : Nat) n fun a => [FV.lit (Value.int IntKind.i64 (ep a)), FV.lit (Value.int IntKind.i64 (ho a))])])], nx := (1 : Nat), esc := false,
                              wr := [(0 : Nat)] : CallOut })
                          T.bad)
                        T.bad)
                      T.bad)
                    (T.br (decide (s ≥ (↑n : Int))) T.bad
                      (T.br (decide (s ≥ (↑n : Int))) T.bad
                        (T.br (decide (s ≥ (↑n : Int))) T.bad
                          (T.br (decide (y < (0 : Int)))
                            (T.br (decide (y < (0 : Int)))
                              (T.br (decide (y < (0 : Int)))
                                (T.br (decide (y < (0 : Int)))
                                  (T.br (decide (y < (0 : Int)))
                                    (T.br (decide (y < (0 : Int)))
                                      (T.br (decide (y < (0 : Int)))
                                        (T.br (decide (y < (0 : Int)))
                                          (T.ret
                                            { v := SV.v (AB false), H := [((0 : Nat), Ob.cells [I hs, CV.f (FV.fs nl (2 : Nat) n fun a => [FV.lit (Value.int IntKind.i64 (ep a)), FV.lit (Value.int IntKind.i64 (ho a))])])], nx := (1 : Nat),
                                              esc := false, wr := [(0 : Nat)] : CallOut })
                                          T.bad)
                                        T.bad)
                                      T.bad)
                                    T.bad)
                                  T.bad)
                                T.bad)
                              T.bad)
                            (T.br (decide (y < (0 : Int))) T.bad
                              (T.br (decide (y < (0 : Int))) T.bad
                                (T.br (decide (y < (0 : Int))) T.bad
                                  (T.br (decide (y < (0 : Int))) T.bad
                                    (T.br (decide (y < (0 : Int))) T.bad
                                      (T.br (decide (y < (0 : Int))) T.bad
                                        (T.br (decide (y < (0 : Int))) T.bad
                                          (T.br (decide (y ≥ hs))
                                            (T.br (decide (y ≥ hs))
                                              (T.br (decide (y ≥ hs))
                                                (T.br (decide (y ≥ hs))
                                                  (T.br (decide (y ≥ hs))
                                                    (T.br (decide (y ≥ hs))
                                                      (T.br (decide (y ≥ hs))
                                                        (T.br (decide (y ≥ hs))
                                                          (T.br (decide (y ≥ hs))
                                                            (T.br (decide (y ≥ hs))
                                                              (T.br (decide (y ≥ hs))
                                                                (T.br (decide (y ≥ hs))
                                                                  (T.ret
                                                                    { v := SV.v (AB false),
                                                                      H := [((0 : Nat), Ob.cells [I hs, CV.f (FV.fs nl (2 : Nat) n fun a => [FV.lit (Value.int IntKind.i64 (ep a)), FV.lit (Value.int IntKind.i64 (ho a))])])], nx := (1 : Nat),
                                                                      esc := false, wr := [(0 : Nat)] : CallOut })
                                                                  T.bad)
                                                                T.bad)
                                                              T.bad)
                                                            T.bad)
                                                          T.bad)
                                                        T.bad)
                                                      T.bad)
                                                    T.bad)
                                                  T.bad)
                                                T.bad)
                                              T.bad)
                                            (T.br (decide (y ≥ hs)) T.bad
                                              (T.br (decide (y ≥ hs)) T.bad
                                                (T.br (decide (y ≥ hs)) T.bad
                                                  (T.br (decide (y ≥ hs)) T.bad
                                                    (T.br (decide (y ≥ hs)) T.bad
                                                      (T.br (decide (y ≥ hs)) T.bad
                                                        (T.br (decide (y ≥ hs)) T.bad
                                                          (T.br (!nl)
                                                            (T.br (decide ((0 : Int) ≤ s ∧ s < (↑n : Int)))
                                                              (T.br (decide (y ≥ hs)) T.bad
                                                                (T.br (decide (y ≥ hs)) T.bad
                                                                  (T.br (decide (y ≥ hs)) T.bad
                                                                    (T.br (decide (y ≥ hs)) T.bad
                                                                      (T.br (decide (x ≤ ep (Int.toNat s)))
                                                                        (T.br (decide (x ≤ ep (Int.toNat s)))
                                                                          (T.br (decide (x ≤ ep (Int.toNat s)))
                                                                            (T.br (decide (x ≤ ep (Int.toNat s)))
                                                                              (T.ret
                                                                                { v := SV.v (AB false),
                                                                                  H := [((0 : Nat), Ob.cells [I hs, CV.f (FV.fs nl (2 : Nat) n fun a => [FV.lit (Value.int IntKind.i64 (ep a)), FV.lit (Value.int IntKind.i64 (ho a))])])],
                                                                                  nx := (1 : Nat), esc := false, wr := [(0 : Nat)] : CallOut })
                                                                              T.bad)
                                                                            T.bad)
                                                                          T.bad)
                                                                        (T.br (decide (x ≤ ep (Int.toNat s))) T.bad
                                                                          (T.br (decide (x ≤ ep (Int.toNat s))) T.bad
                                                                            (T.br (decide (x ≤ ep (Int.toNat s))) T.bad
                                                                              (T.br (decide (x > (1099511627776 : Int)))
                                                                                (T.ret
                                                                                  { v := SV.v (AB false),
                                                                                    H := [((0 : Nat), Ob.cells [I hs, CV.f (FV.fs nl (2 : Nat) n fun a => [FV.lit (Value.int IntKind.i64 (ep a)), FV.lit (Value.int IntKind.i64 (ho a))])])],
                                                                                    nx := (1 : Nat), esc := false, wr := [(0 : Nat)] : CallOut })
                                                                                (T.br (Nat.ble ((0 : Nat) + Src.n (Src.fn n (ptE ep ho))) (0 : Nat)) T.bad
                                                                                  (T.br (decide (((2 : Nat) * ((0 : Nat) + Src.n (Src.fn n (ptE ep ho))) + (512 : Nat)) * (16 : Nat) ≤ (281474976710656 : Nat)))
                                                                                    (T.br (decide ((0 : Int) ≤ s ∧ s < (↑((0 : Nat) + n) : Int)))
                                                                                      (T.br (Nat.ble ((0 : Nat) + Int.toNat s + (1 : Nat)) ((0 : Nat) + n))
                                                                                        (T.br (Nat.ble ((0 : Nat) + n) ((0 : Nat) + n) && true)
                                                                                          (T.ret
                                                                                            { v := SV.v (AB true),
                                                                                              H :=
                                                                                                [((0 : Nat),
                                                                                                    Ob.cells
                                                                                                      [I hs,
                                                                                                        CV.f
                                                                                                          (FV.fs false (2 : Nat) ((0 : Nat) + n) fun i' =>
                                                                                                            [FV.lit (Value.int IntKind.i64 (bif Nat.beq i' ((0 : Nat) + Int.toNat s) then x else ep (i' - (0 : Nat)))),
                                                                                                              FV.lit (Value.int IntKind.i64 (bif Nat.beq i' ((0 : Nat) + Int.toNat s) then y else ho (i' - (0 : Nat))))])])],
                                                                                              nx := (1 : Nat), esc := true, wr := [(0 : Nat)] : CallOut })
                                                                                          T.bad)
                                                                                        T.bad)
                                                                                      T.bad)
                                                                                    T.bad)))))))))))
                                                              T.bad)
                                                            T.bad)))))))))))))))))))))))))))) := by kernel_rfl
theorem tree_New1 (h : Int) : (tgt_New1 h).over (.br .leaf (.tt (.br .skip (.tt (.ff (.tt (.ff .leaf))))))) =
  T.br (!rtB h (1 : Int)) (T.ret (out0 (SV.v (AV.agg [I (0 : Int), Nil]))))
    (T.br (decide (h = (0 : Int))) T.bad
      (T.ret
        { v := SV.v (AV.agg [I h, CV.f (FV.fs false (2 : Nat) (1 : Nat) fun a => [FV.lit (Value.int IntKind.i64 (1 : Int)), FV.lit (Value.int IntKind.i64 (Int.tmod (0 : Int) h))])]), H := [], nx := (0 : Nat), esc := true, wr := [] :
          CallOut })) := by kernel_rfl
theorem tree_RNew1 (h : Int) : (tgt_RNew1 h).over (.br .leaf (.tt (.br .skip (.tt (.ff (.tt (.ff .leaf))))))) =
  T.br (!rtB h (1 : Int)) (T.ret (out0 (SV.v (AV.agg [I (0 : Int), Nil]))))
    (T.br (decide (h = (0 : Int))) T.bad
      (T.ret
        { v := SV.v (AV.agg [I h, CV.f (FV.fs false (2 : Nat) (1 : Nat) fun a => [FV.lit (Value.int IntKind.i64 (1 : Int)), FV.lit (Value.int IntKind.i64 (Int.tmod (0 : Int) h))])]), H := [], nx := (0 : Nat), esc := true, wr := [] :
          CallOut })) := by kernel_rfl
theorem tree_New2 (h : Int) : (tgt_New2 h).over (.br .leaf (.tt (.br .skip (.tt (.ff (.tt (.tt (.br .skip (.tt (.ff (.tt (.tt (.ff .leaf))))))))))))) =
  T.br (!rtB h (2 : Int)) (T.ret (out0 (SV.v (AV.agg [I (0 : Int), Nil]))))
    (T.br (decide (h = (0 : Int))) T.bad
      (T.br (decide (h = (0 : Int))) T.bad
        (T.ret
          {
            v :=
              SV.v
                (AV.agg
                  [I h,
                    CV.f
                      (FV.fs false (2 : Nat) (2 : Nat) fun a =>
                        [FV.lit (Value.int IntKind.i64 (bif Nat.beq a (0 : Nat) then (1 : Int) else (1 : Int))), FV.lit (Value.int IntKind.i64 (bif Nat.beq a (0 : Nat) then Int.tmod (0 : Int) h else Int.tmod (1 : Int) h))])]),
            H := [], nx := (0 : Nat), esc := true, wr := [] : CallOut }))) := by kernel_rfl
theorem tree_RNew2 (h : Int) : (tgt_RNew2 h).over (.br .leaf (.tt (.br .skip (.tt (.ff (.tt (.tt (.br .skip (.tt (.ff (.tt (.tt (.ff .leaf))))))))))))) =
  T.br (!rtB h (2 : Int)) (T.ret (out0 (SV.v (AV.agg [I (0 : Int), Nil]))))
    (T.br (decide (h = (0 : Int))) T.bad
      (T.br (decide (h = (0 : Int))) T.bad
        (T.ret
          {
            v :=
              SV.v
                (AV.agg
                  [I h,
                    CV.f
                      (FV.fs false (2 : Nat) (2 : Nat) fun a =>
                        [FV.lit (Value.int IntKind.i64 (bif Nat.beq a (0 : Nat) then (1 : Int) else (1 : Int))), FV.lit (Value.int IntKind.i64 (bif Nat.beq a (0 : Nat) then Int.tmod (0 : Int) h else Int.tmod (1 : Int) h))])]),
            H := [], nx := (0 : Nat), esc := true, wr := [] : CallOut }))) := by kernel_rfl
theorem tree_New3 (h : Int) : (tgt_New3 h).over (.br .leaf (.tt (.br .skip (.tt (.ff (.tt (.tt (.br .skip (.tt (.ff (.tt (.tt (.tt (.br .skip (.tt (.ff (.tt (.tt (.ff .leaf))))))))))))))))))) =
  T.br (!rtB h (3 : Int)) (T.ret (out0 (SV.v (AV.agg [I (0 : Int), Nil]))))
    (T.br (decide (h = (0 : Int))) T.bad
      (T.br (decide (h = (0 : Int))) T.bad
        (T.br (decide (h = (0 : Int))) T.bad
          (T.ret
            {
              v :=
                SV.v
                  (AV.agg
                    [I h,
                      CV.f
                        (FV.fs false (2 : Nat) (3 : Nat) fun a =>
                          [FV.lit (Value.int IntKind.i64 (bif Nat.beq a (0 : Nat) then (1 : Int) else bif Nat.beq (a - (1 : Nat)) (0 : Nat) then (1 : Int) else (1 : Int))),
                            FV.lit (Value.int IntKind.i64 (bif Nat.beq a (0 : Nat) then Int.tmod (0 : Int) h else bif Nat.beq (a - (1 : Nat)) (0 : Nat) then Int.tmod (1 : Int) h else Int.tmod (2 : Int) h))])]),
              H := [], nx := (0 : Nat), esc := true, wr := [] : CallOut })))) := by kernel_rfl
theorem tree_RNew3 (h : Int) : (tgt_RNew3 h).over (.br .leaf (.tt (.br .skip (.tt (.ff (.tt (.tt (.br .skip (.tt (.ff (.tt (.tt (.tt (.br .skip (.tt (.ff (.tt (.tt (.ff .leaf))))))))))))))))))) =
  T.br (!rtB h (3 : Int)) (T.ret (out0 (SV.v (AV.agg [I (0 : Int), Nil]))))
    (T.br (decide (h = (0 : Int))) T.bad
      (T.br (decide (h = (0 : Int))) T.bad
        (T.br (decide (h = (0 : Int))) T.bad
          (T.ret
            {
              v :=
                SV.v
                  (AV.agg
                    [I h,
                      CV.f
                        (FV.fs false (2 : Nat) (3 : Nat) fun a =>
                          [FV.lit (Value.int IntKind.i64 (bif Nat.beq a (0 : Nat) then (1 : Int) else bif Nat.beq (a - (1 : Nat)) (0 : Nat) then (1 : Int) else (1 : Int))),
                            FV.lit (Value.int IntKind.i64 (bif Nat.beq a (0 : Nat) then Int.tmod (0 : Int) h else bif Nat.beq (a - (1 : Nat)) (0 : Nat) then Int.tmod (1 : Int) h else Int.tmod (2 : Int) h))])]),
              H := [], nx := (0 : Nat), esc := true, wr := [] : CallOut })))) := by kernel_rfl
theorem tree_New4 (h : Int) : (tgt_New4 h).over (.br .leaf (.tt (.br .skip (.tt (.ff (.tt (.tt (.br .skip (.tt (.ff (.tt (.tt (.tt (.br .skip (.tt (.ff (.tt (.tt (.tt (.br .skip (.tt (.ff (.tt (.tt (.ff .leaf))))))))))))))))))))))))) =
  T.br (!rtB h (4 : Int)) (T.ret (out0 (SV.v (AV.agg [I (0 : Int), Nil]))))
    (T.br (decide (h = (0 : Int))) T.bad
      (T.br (decide (h = (0 : Int))) T.bad
        (T.br (decide (h = (0 : Int))) T.bad
          (T.br (decide (h = (0 : Int))) T.bad
            (T.ret
              {
                v :=
                  SV.v
                    (AV.agg
                      [I h,
                        CV.f
                          (FV.fs false (2 : Nat) (4 : Nat) fun a =>
                            [FV.lit
                                (Value.int IntKind.i64 (bif Nat.beq a (0 : Nat) then (1 : Int) else bif Nat.beq (a - (1 : Nat)) (0 : Nat) then (1 : Int) else bif Nat.beq (a - (1 : Nat) - (1 : Nat)) (0 : Nat) then (1 : Int) else (1 : Int))),
                              FV.lit
                                (Value.int IntKind.i64
                                  (bif Nat.beq a (0 : Nat) then Int.tmod (0 : Int) h
                                  else bif Nat.beq (a - (1 : Nat)) (0 : Nat) then Int.tmod (1 : Int) h else bif Nat.beq (a - (1 : Nat) - (1 : Nat)) (0 : Nat) then Int.tmod (2 : Int) h else Int.tmod (3 : Int) h))])]),
                H := [], nx := (0 : Nat), esc := true, wr := [] : CallOut }))))) := by kernel_rfl
theorem tree_RNew4 (h : Int) : (tgt_RNew4 h).over (.br .leaf (.tt (.br .skip (.tt (.ff (.tt (.tt (.br .skip (.tt (.ff (.tt (.tt (.tt (.br .skip (.tt (.ff (.tt (.tt (.tt (.br .skip (.tt (.ff (.tt (.tt (.ff .leaf))))))))))))))))))))))))) =
  T.br (!rtB h (4 : Int)) (T.ret (out0 (SV.v (AV.agg [I (0 : Int), Nil]))))
    (T.br (decide (h = (0 : Int))) T.bad
      (T.br (decide (h = (0 : Int))) T.bad
        (T.br (decide (h = (0 : Int))) T.bad
          (T.br (decide (h = (0 : Int))) T.bad
            (T.ret
              {
                v :=
                  SV.v
                    (AV.agg
                      [I h,
                        CV.f
                          (FV.fs false (2 : Nat) (4 : Nat) fun a =>
                            [FV.lit
                                (Value.int IntKind.i64 (bif Nat.beq a (0 : Nat) then (1 : Int) else bif Nat.beq (a - (1 : Nat)) (0 : Nat) then (1 : Int) else bif Nat.beq (a - (1 : Nat) - (1 : Nat)) (0 : Nat) then (1 : Int) else (1 : Int))),
                              FV.lit
                                (Value.int IntKind.i64
                                  (bif Nat.beq a (0 : Nat) then Int.tmod (0 : Int) h
                                  else bif Nat.beq (a - (1 : Nat)) (0 : Nat) then Int.tmod (1 : Int) h else bif Nat.beq (a - (1 : Nat) - (1 : Nat)) (0 : Nat) then Int.tmod (2 : Int) h else Int.tmod (3 : Int) h))])]),
                H := [], nx := (0 : Nat), esc := true, wr := [] : CallOut }))))) := by kernel_rfl
theorem tree_New5 (h : Int) : (tgt_New5 h).over (.br .leaf (.tt (.br .skip (.tt (.ff (.tt (.tt (.br .skip (.tt (.ff (.tt (.tt (.tt (.br .skip (.tt (.ff (.tt (.tt (.tt (.br .skip (.tt (.ff (.tt (.tt (.tt (.br .skip (.tt (.ff (.tt (.tt (.ff .leaf))))))))))))))))))))))))))))))) =
  T.br (!rtB h (5 : Int)) (T.ret (out0 (SV.v (AV.agg [I (0 : Int), Nil]))))
    (T.br (decide (h = (0 : Int))) T.bad
      (T.br (decide (h = (0 : Int))) T.bad
        (T.br (decide (h = (0 : Int))) T.bad
          (T.br (decide (h = (0 : Int))) T.bad
            (T.br (decide (h = (0 : Int))) T.bad
              (T.ret
                {
                  v :=
                    SV.v
                      (AV.agg
                        [I h,
                          CV.f
                            (FV.fs false (2 : Nat) (5 : Nat) fun a =>
                              [FV.lit
                                  (Value.int IntKind.i64
                                    (bif Nat.beq a (0 : Nat) then (1 : Int)
                                    else
                                      bif Nat.beq (a - (1 : Nat)) (0 : Nat) then (1 : Int)
                                      else bif Nat.beq (a - (1 : Nat) - (1 : Nat)) (0 : Nat) then (1 : Int) else bif Nat.beq (a - (1 : Nat) - (1 : Nat) - (1 : Nat)) (0 : Nat) then (1 : Int) else (1 : Int))),
                                FV.lit
                                  (Value.int IntKind.i64
                                    (bif Nat.beq a (0 : Nat) then Int.tmod (0 : Int) h
                                    else
                                      bif Nat.beq (a - (1 : Nat)) (0 : Nat) then Int.tmod (1 : Int) h
                                      else
                                        bif Nat.beq (a - (1 : Nat) - (1 : Nat)) (0 : Nat) then Int.tmod (2 : Int) h else bif Nat.beq (a - (1 : Nat) - (1 : Nat) - (1 : Nat)) (0 : Nat) then Int.tmod (3 : Int) h else Int.tmod (4 : Int) h))])]),
                  H := [], nx := (0 : Nat), esc := true, wr := [] : CallOut })))))) := by kernel_rfl
theorem tree_RNew5 (h : Int) : (tgt_RNew5 h).over (.br .leaf (.tt (.br .skip (.tt (.ff (.tt (.tt (.br .skip (.tt (.ff (.tt (.tt (.tt (.br .skip (.tt (.ff (.tt (.tt (.tt (.br .skip (.tt (.ff (.tt (.tt (.tt (.br .skip (.tt (.ff (.tt (.tt (.ff .leaf))))))))))))))))))))))))))))))) =
  T.br (!rtB h (5 : Int)) (T.ret (out0 (SV.v (AV.agg [I (0 : Int), Nil]))))
    (T.br (decide (h = (0 : Int))) T.bad
      (T.br (decide (h = (0 : Int))) T.bad
        (T.br (decide (h = (0 : Int))) T.bad
          (T.br (decide (h = (0 : Int))) T.bad
            (T.br (decide (h = (0 : Int))) T.bad
              (T.ret
                {
                  v :=
                    SV.v
                      (AV.agg
                        [I h,
                          CV.f
                            (FV.fs false (2 : Nat) (5 : Nat) fun a =>
                              [FV.lit
                                  (Value.int IntKind.i64
                                    (bif Nat.beq a (0 : Nat) then (1 : Int)
                                    else
                                      bif Nat.beq (a - (1 : Nat)) (0 : Nat) then (1 : Int)
                                      else bif Nat.beq (a - (1 : Nat) - (1 : Nat)) (0 : Nat) then (1 : Int) else bif Nat.beq (a - (1 : Nat) - (1 : Nat) - (1 : Nat)) (0 : Nat) then (1 : Int) else (1 : Int))),
                                FV.lit
                                  (Value.int IntKind.i64
                                    (bif Nat.beq a (0 : Nat) then Int.tmod (0 : Int) h
                                    else
                                      bif Nat.beq (a - (1 : Nat)) (0 : Nat) then Int.tmod (1 : Int) h
                                      else
                                        bif Nat.beq (a - (1 : Nat) - (1 : Nat)) (0 : Nat) then Int.tmod (2 : Int) h else bif Nat.beq (a - (1 : Nat) - (1 : Nat) - (1 : Nat)) (0 : Nat) then Int.tmod (3 : Int) h else Int.tmod (4 : Int) h))])]),
                  H := [], nx := (0 : Nat), esc := true, wr := [] : CallOut })))))) := by kernel_rfl
theorem tree_New6 (h : Int) : (tgt_New6 h).over (.br .leaf (.tt (.br .skip (.tt (.ff (.tt (.tt (.br .skip (.tt (.ff (.tt (.tt (.tt (.br .skip (.tt (.ff (.tt (.tt (.tt (.br .skip (.tt (.ff (.tt (.tt (.tt (.br .skip (.tt (.ff (.tt (.tt (.tt (.br .skip (.tt (.ff (.tt (.tt (.ff .leaf))))))))))))))))))))))))))))))))))))) =
  T.br (!rtB h (6 : Int)) (T.ret (out0 (SV.v (AV.agg [I (0 : Int), Nil]))))
    (T.br (decide (h = (0 : Int))) T.bad
      (T.br (decide (h = (0 : Int))) T.bad
        (T.br (decide (h = (0 : Int))) T.bad
          (T.br (decide (h = (0 : Int))) T.bad
            (T.br (decide (h = (0 : Int))) T.bad
              (T.br (decide (h = (0 : Int))) T.bad
                (T.ret
                  {
                    v :=
                      SV.v
                        (AV.agg
                          [I h,
                            CV.f
                              (FV.fs false (2 : Nat) (6 : Nat) fun a =>
                                [FV.lit
                                    (Value.int IntKind.i64
                                      (bif Nat.beq a (0 : Nat) then (1 : Int)
                                      else
                                        bif Nat.beq (a - (1 : Nat)) (0 : Nat) then (1 : Int)
                                        else
                                          bif Nat.beq (a - (1 : Nat) - (1 : Nat)) (0 : Nat) then (1 : Int)
                                          else bif Nat.beq (a - (1 : Nat) - (1 : Nat) - (1 : Nat)) (0 : Nat) then (1 : Int) else bif Nat.beq (a - (1 : Nat) - (1 : Nat) - (1 : Nat) - (1 : Nat)) (0 : Nat) then (1 : Int) else (1 : Int))),
                                  FV.lit
                                    (Value.int IntKind.i64
                                      (bif Nat.beq a (0 : Nat) then Int.tmod (0 : Int) h
                                      else
                                        bif Nat.beq (a - (1 : Nat)) (0 : Nat) then Int.tmod (1 : Int) h
                                        else
                                          bif Nat.beq (a - (1 : Nat) - (1 : Nat)) (0 : Nat) then Int.tmod (2 : Int) h
                                          else
                                            bif Nat.beq (a - (1 : Nat) - (1 : Nat) - (1 : Nat)) (0 : Nat) then Int.tmod (3 : Int) h
                                            else bif Nat.beq (a - (1 : Nat) - (1 : Nat) - (1 : Nat) - (1 : Nat)) (0 : Nat) then Int.tmod (4 : Int) h else Int.tmod (5 : Int) h))])]),
                    H := [], nx := (0 : Nat), esc := true, wr := [] : CallOut }))))))) := by kernel_rfl
theorem tree_RNew6 (h : Int) : (tgt_RNew6 h).over (.br .leaf (.tt (.br .skip (.tt (.ff (.tt (.tt (.br .skip (.tt (.ff (.tt (.tt (.tt (.br .skip (.tt (.ff (.tt (.tt (.tt (.br .skip (.tt (.ff (.tt (.tt (.tt (.br .skip (.tt (.ff (.tt (.tt (.tt (.br .skip (.tt (.ff (.tt (.tt (.ff .leaf))))))))))))))))))))))))))))))))))))) =
  T.br (!rtB h (6 : Int)) (T.ret (out0 (SV.v (AV.agg [I (0 : Int), Nil]))))
    (T.br (decide (h = (0 : Int))) T.bad
      (T.br (decide (h = (0 : Int))) T.bad
        (T.br (decide (h = (0 : Int))) T.bad
          (T.br (decide (h = (0 : Int))) T.bad
            (T.br (decide (h = (0 : Int))) T.bad
              (T.br (decide (h = (0 : Int))) T.bad
                (T.ret
                  {
                    v :=
                      SV.v
                        (AV.agg
                          [I h,
                            CV.f
                              (FV.fs false (2 : Nat) (6 : Nat) fun a =>
                                [FV.lit
                                    (Value.int IntKind.i64
                                      (bif Nat.beq a (0 : Nat) then (1 : Int)
                                      else
                                        bif Nat.beq (a - (1 : Nat)) (0 : Nat) then (1 : Int)
                                        else
                                          bif Nat.beq (a - (1 : Nat) - (1 : Nat)) (0 : Nat) then (1 : Int)
                                          else bif Nat.beq (a - (1 : Nat) - (1 : Nat) - (1 : Nat)) (0 : Nat) then (1 : Int) else bif Nat.beq (a - (1 : Nat) - (1 : Nat) - (1 : Nat) - (1 : Nat)) (0 : Nat) then (1 : Int) else (1 : Int))),
                                  FV.lit
                                    (Value.int IntKind.i64
                                      (bif Nat.beq a (0 : Nat) then Int.tmod (0 : Int) h
                                      else
                                        bif Nat.beq (a - (1 : Nat)) (0 : Nat) then Int.tmod (1 : Int) h
                                        else
                                          bif Nat.beq (a - (1 : Nat) - (1 : Nat)) (0 : Nat) then Int.tmod (2 : Int) h
                                          else
                                            bif Nat.beq (a - (1 : Nat) - (1 : Nat) - (1 : Nat)) (0 : Nat) then Int.tmod (3 : Int) h
                                            else bif Nat.beq (a - (1 : Nat) - (1 : Nat) - (1 : Nat) - (1 : Nat)) (0 : Nat) then Int.tmod (4 : Int) h else Int.tmod (5 : Int) h))])]),
                    H := [], nx := (0 : Nat), esc := true, wr := [] : CallOut }))))))) := by kernel_rfl
noncomputable def L_bad : LoopF := fun _ _ _ => .bad
theorem L_bad_ok : LoopOk Try.prog L_bad := ⟨fun N c st e st' h => (T.bad_some h).elim, fun N c st => trivial⟩
noncomputable def ll_bad : List (Nat × Nat × LoopF) := (29, 5, L_bad) :: (35, 6, L_bad) :: ll_tell
theorem ll_bad_ok : ∀ x ∈ ll_bad, LoopOk Try.prog x.2.2 := List.forall_mem_cons.2 ⟨L_bad_ok, List.forall_mem_cons.2 ⟨L_bad_ok, ll_tell_ok⟩⟩

noncomputable def GPG3 : Ctx := GS.with ss_RRight ll_bad
noncomputable def tgt_New0 (h s : Int) : T CallOut := evCallZ [] GPG3 300 29 [.agg [I h, I s]] [] 0
noncomputable def tgt_RNew0 (h s : Int) : T CallOut := evCallZ [] GPG3 300 35 [.agg [I h, I s]] [] 0
theorem GKPG3 : KnownOk Try.prog GPG3 := KnownOk.lists ss_RRight_ok ll_bad_ok
theorem tree_New0 (h s : Int) : (tgt_New0 h s).over (.br .leaf .skip) =
  T.br (!rtB h s) (T.ret (out0 (SV.v (AV.agg [I (0 : Int), Nil])))) T.bad := by kernel_rfl
theorem tree_RNew0 (h s : Int) : (tgt_RNew0 h s).over (.br .leaf .skip) =
  T.br (!rtB h s) (T.ret (out0 (SV.v (AV.agg [I (0 : Int), Nil])))) T.bad := by kernel_rfl
theorem refs_pt (hs : Int) (nl : Bool) (n : Nat) (e : Nat → List FV) : ∀ b l, Heap.get [(0, .cells [I hs, .f (.fs nl 2 n e)])] b = .cells l → ∀ x ∈ l, x.refs = [] := by
  intro b l h x hx
  rw [Heap.get_cons] at h
  split at h
  · cases h
    simp only [List.mem_cons, List.not_mem_nil, or_false] at hx
    rcases hx with rfl | rfl <;> rfl
  · cases h
theorem to_All (hs : Int) (nl : Bool) (n : Nat) (ep ho : Nat → Int) (h : NlN nl n) : CallTo Try.prog 32 [AP 0] [(0, .cells [I hs, .f (.fs nl 2 n (ptE ep ho))])] 1 ⟨.v (.one (.f (.fs nl 2 n (ptE ep ho)))), [(0, .cells [I hs, .f (.fs nl 2 n (ptE ep ho))])], 1, false, []⟩ := by
  obtain ⟨q, h1, h2⟩ : ∃ q : FV, (tgt_All hs nl n ep ho).res = some (⟨.v (.one (.f q)), [(0, .cells [I hs, .f (.fs nl 2 n (ptE ep ho))])], 1, false, []⟩) ∧ q.le (.fs nl 2 n (ptE ep ho)) := by
    refine T.over_exP (tree_All hs nl n ep ho) ?_
    generalize hk : Src.n (Src.fn n (ptE ep ho)) = k
    obtain rfl : n = k := hk
    obtain ⟨h1, h2⟩ := h
    cases nl with
    | true =>
      obtain rfl : n = 0 := h2.1 rfl
      exact ⟨_, rfl, FV.le_nil⟩
    | false =>
      have h3 : n ≠ 0 := fun e => by cases h2.2 e
      refine ⟨.fs false 2 (0 + n - 0) (ptE ep ho), ?_, ?_⟩
      · simp only [T.res_br, T.res_ret, T.res_bad, Bool.false_eq_true, if_false]
        rw [if_neg (by simpa using h3), if_pos (by simp only [decide_eq_true_eq]; omega), if_pos (by simp), if_pos (by simp), if_neg (by simpa using h3), if_pos (by simp)]
        rfl
      · have e : 0 + n - 0 = n := by omega
        rw [e]
        exact .refl _
  refine (evCallZ_ok (GS_ok.with _ _) GKPG1 h1).less (Nat.le_refl 1) (.inr (.inr ⟨_, _, rfl, rfl, .f h2⟩)) (fun b => .inl rfl) rfl rfl

theorem to_Learn (hs : Int) (nl : Bool) (n : Nat) (ep ho : Nat → Int) (s x y : Int) (h : NlN nl n) : CallTo Try.prog 30 [AP 0, AI s, .agg [I x, I y]] [(0, .cells [I hs, .f (.fs nl 2 n (ptE ep ho))])] 1
    ⟨.v (AB (learnB hs n ep s x y)), [(0, .cells [I hs, .f (.fs nl 2 n (ptE (updP (learnB hs n ep s x y) ep s.toNat x) (updP (learnB hs n ep s x y) ho s.toNat y)))])], 1, false, [0]⟩ := by
  obtain ⟨esc, h1⟩ : ∃ esc, (tgt_Learn hs nl n ep ho s x y).res = some (⟨.v (AB (learnB hs n ep s x y)), [(0, .cells [I hs, .f (.fs nl 2 n (ptE (updP (learnB hs n ep s x y) ep s.toNat x) (updP (learnB hs n ep s x y) ho s.toNat y)))])], 1, esc, [0]⟩) := by
    refine T.over_ex (tree_Learn hs nl n ep ho s x y) ?_
    generalize hk : Src.n (Src.fn n (ptE ep ho)) = k
    obtain rfl : n = k := hk
    obtain ⟨h4, h5⟩ := h
    by_cases hb : 0 ≤ s ∧ s < (n : Int) ∧ 0 ≤ y ∧ y < hs ∧ ep s.toNat < x ∧ x ≤ 1099511627776
    · obtain rfl : nl = false := by
        cases nl with
        | false => rfl
        | true => have h0 : n = 0 := h5.1 rfl; omega
      rw [learnB, decide_eq_true hb]
      refine ⟨true, ?_⟩
      have f1 : ¬ s < 0 := by omega
      have f2 : ¬ (n : Int) ≤ s := by omega
      have f3 : ¬ y < 0 := by omega
      have f4 : ¬ hs ≤ y := by omega
      have f5 : ¬ x ≤ ep s.toNat := by omega
      have f6 : ¬ (1099511627776 : Int) < x := by omega
      have f7 : 0 ≤ s ∧ s < (n : Int) := by omega
      have f8 : (2 * n + 512) * 16 ≤ 281474976710656 := by omega
      have f9 : s.toNat + 1 ≤ n := by omega
      have f10 : ¬ n ≤ 0 := by omega
      simp only [T.res_br, T.res_ret, T.res_bad, decide_eq_true_eq, ge_iff_le, gt_iff_lt, Bool.not_false, cond_true, reduceIte, Nat.zero_add, Nat.sub_zero, Nat.ble_eq, Bool.and_true, f1, f2, f3, f4, f5, f6, f7, f8, f9, f10, and_self, Nat.le_refl, Bool.false_eq_true]
      rfl
    · rw [learnB, decide_eq_false hb]
      refine ⟨false, ?_⟩
      cases nl with
      | true =>
        obtain rfl : n = 0 := h5.1 rfl
        simp only [T.res_br, T.res_ret, T.res_bad, decide_eq_true_eq, ge_iff_le, gt_iff_lt, Bool.not_true, Bool.false_eq_true, reduceIte]
        by_cases f1 : s < 0
        · simp only [f1, reduceIte]; rfl
        · have f2 : ((0 : Nat) : Int) ≤ s := by omega
          simp only [f1, f2, reduceIte]; rfl
      | false =>
        simp only [T.res_br, T.res_ret, T.res_bad, decide_eq_true_eq, ge_iff_le, gt_iff_lt, Bool.not_false, Bool.false_eq_true, reduceIte]
        by_cases f1 : s < 0
        · simp only [f1, reduceIte]; rfl
        by_cases f2 : (n : Int) ≤ s
        · simp only [f1, f2, reduceIte]; rfl
        have f7 : 0 ≤ s ∧ s < (n : Int) := by omega
        by_cases f3 : y < 0
        · simp only [f1, f2, f3, f7, and_self, reduceIte]; rfl
        by_cases f4 : hs ≤ y
        · simp only [f1, f2, f3, f4, f7, and_self, reduceIte]; rfl
        by_cases f5 : x ≤ ep s.toNat
        · simp only [f1, f2, f3, f4, f5, f7, and_self, reduceIte]; rfl
        have f6 : (1099511627776 : Int) < x := by omega
        simp only [f1, f2, f3, f4, f5, f6, f7, and_self, reduceIte]; rfl
  exact (evCallZ_ok (GS_ok.with _ _) GKPG2 h1).noesc (refs_pt _ _ _ _)

theorem to_RLearn (hs : Int) (nl : Bool) (n : Nat) (ep ho : Nat → Int) (s x y : Int) (h : NlN nl n) : CallTo Try.prog 38 [AP 0, AI s, .agg [I x, I y]] [(0, .cells [I hs, .f (.fs nl 2 n (ptE ep ho))])] 1
    ⟨.v (AB (learnB hs n ep s x y)), [(0, .cells [I hs, .f (.fs nl 2 n (ptE (updP (learnB hs n ep s x y) ep s.toNat x) (updP (learnB hs n ep s x y) ho s.toNat y)))])], 1, false, [0]⟩ := by
  obtain ⟨esc, h1⟩ : ∃ esc, (tgt_RLearn hs nl n ep ho s x y).res = some (⟨.v (AB (learnB hs n ep s x y)), [(0, .cells [I hs, .f (.fs nl 2 n (ptE (updP (learnB hs n ep s x y) ep s.toNat x) (updP (learnB hs n ep s x y) ho s.toNat y)))])], 1, esc, [0]⟩) := by
    refine T.over_ex (tree_RLearn hs nl n ep ho s x y) ?_
    generalize hk : Src.n (Src.fn n (ptE ep ho)) = k
    obtain rfl : n = k := hk
    obtain ⟨h4, h5⟩ := h
    by_cases hb : 0 ≤ s ∧ s < (n : Int) ∧ 0 ≤ y ∧ y < hs ∧ ep s.toNat < x ∧ x ≤ 1099511627776
    · obtain rfl : nl = false := by
        cases nl with
        | false => rfl
        | true => have h0 : n = 0 := h5.1 rfl; omega
      rw [learnB, decide_eq_true hb]
      refine ⟨true, ?_⟩
      have f1 : ¬ s < 0 := by omega
      have f2 : ¬ (n : Int) ≤ s := by omega
      have f3 : ¬ y < 0 := by omega
      have f4 : ¬ hs ≤ y := by omega
      have f5 : ¬ x ≤ ep s.toNat := by omega
      have f6 : ¬ (1099511627776 : Int) < x := by omega
      have f7 : 0 ≤ s ∧ s < (n : Int) := by omega
      have f8 : (2 * n + 512) * 16 ≤ 281474976710656 := by omega
      have f9 : s.toNat + 1 ≤ n := by omega
      have f10 : ¬ n ≤ 0 := by omega
      simp only [T.res_br, T.res_ret, T.res_bad, decide_eq_true_eq, ge_iff_le, gt_iff_lt, Bool.not_false, cond_true, reduceIte, Nat.zero_add, Nat.sub_zero, Nat.ble_eq, Bool.and_true, f1, f2, f3, f4, f5, f6, f7, f8, f9, f10, and_self, Nat.le_refl, Bool.false_eq_true]
      rfl
    · rw [learnB, decide_eq_false hb]
      refine ⟨false, ?_⟩
      cases nl with
      | true =>
        obtain rfl : n = 0 := h5.1 rfl
        simp only [T.res_br, T.res_ret, T.res_bad, decide_eq_true_eq, ge_iff_le, gt_iff_lt, Bool.not_true, Bool.false_eq_true, reduceIte]
        by_cases f1 : s < 0
        · simp only [f1, reduceIte]; rfl
        · have f2 : ((0 : Nat) : Int) ≤ s := by omega
          simp only [f1, f2, reduceIte]; rfl
      | false =>
        simp only [T.res_br, T.res_ret, T.res_bad, decide_eq_true_eq, ge_iff_le, gt_iff_lt, Bool.not_false, Bool.false_eq_true, reduceIte]
        by_cases f1 : s < 0
        · simp only [f1, reduceIte]; rfl
        by_cases f2 : (n : Int) ≤ s
        · simp only [f1, f2, reduceIte]; rfl
        have f7 : 0 ≤ s ∧ s < (n : Int) := by omega
        by_cases f3 : y < 0
        · simp only [f1, f2, f3, f7, and_self, reduceIte]; rfl
        by_cases f4 : hs ≤ y
        · simp only [f1, f2, f3, f4, f7, and_self, reduceIte]; rfl
        by_cases f5 : x ≤ ep s.toNat
        · simp only [f1, f2, f3, f4, f5, f7, and_self, reduceIte]; rfl
        have f6 : (1099511627776 : Int) < x := by omega
        simp only [f1, f2, f3, f4, f5, f6, f7, and_self, reduceIte]; rfl
  exact (evCallZ_ok (GS_ok.with _ _) GKPG2 h1).noesc (refs_pt _ _ _ _)

noncomputable def F_Point : SumF
  | [.one (.ptr 0 0 0 0), .one (.f (.lit (.int .i64 s)))], [(0, .cells [.f (.lit (.int .i64 hs)), .f (.fs nl 2 n e)])], 1 => .need (pb (PtN e nl n)) (.ret (⟨.tup [.agg [I (bif inB n s then epOf e s.toNat else 0), I (bif inB n s then hoOf e s.toNat else 0)], AB (inB n s)], [(0, .cells [I hs, .f (.fs nl 2 n e)])], 1, false, []⟩))
  | _, _, _ => .bad
theorem sum_Point : SumOk Try.prog 31 F_Point := by
  refine ⟨fun args H nx r hr => ?_, fun args H nx => ?_⟩
  · unfold F_Point at hr
    split at hr
    · obtain ⟨h0, hr⟩ := T.need_some hr
      have := T.ret_some hr
      subst this
      have h := pb_of h0
      obtain ⟨⟨ep, ho, rfl⟩, h⟩ := h
      exact evCallZ_ok (GS_ok.with _ _) GKPG1 (res_Point _ _ _ ep ho _ h)
    · exact (T.bad_some hr).elim
  · unfold F_Point
    split
    · exact T.Every.need ⟨by first | exact Nat.le_refl _ | (dsimp only; omega), fun b hb hw => by
        have : b = 0 := by omega
        subst this <;> first | rfl | exact absurd (by dsimp only; decide) hw⟩
    · trivial
noncomputable def ss_Point : List (Nat × SumF) := (31, canonSum F_Point) :: ss_RRight
theorem ss_Point_ok : ∀ x ∈ ss_Point, SumOk Try.prog x.1 x.2 := List.forall_mem_cons.2 ⟨canonSum_ok sum_Point, ss_RRight_ok⟩
noncomputable def F_RPoint : SumF
  | [.one (.ptr 0 0 0 0), .one (.f (.lit (.int .i64 s)))], [(0, .cells [.f (.lit (.int .i64 hs)), .f (.fs nl 2 n e)])], 1 => .need (pb (PtN e nl n)) (.ret (⟨.tup [.agg [I (bif inB n s then epOf e s.toNat else 0), I (bif inB n s then hoOf e s.toNat else 0)], AB (inB n s)], [(0, .cells [I hs, .f (.fs nl 2 n e)])], 1, false, []⟩))
  | _, _, _ => .bad
theorem sum_RPoint : SumOk Try.prog 39 F_RPoint := by
  refine ⟨fun args H nx r hr => ?_, fun args H nx => ?_⟩
  · unfold F_RPoint at hr
    split at hr
    · obtain ⟨h0, hr⟩ := T.need_some hr
      have := T.ret_some hr
      subst this
      have h := pb_of h0
      obtain ⟨⟨ep, ho, rfl⟩, h⟩ := h
      exact evCallZ_ok (GS_ok.with _ _) GKPG1 (res_RPoint _ _ _ ep ho _ h)
    · exact (T.bad_some hr).elim
  · unfold F_RPoint
    split
    · exact T.Every.need ⟨by first | exact Nat.le_refl _ | (dsimp only; omega), fun b hb hw => by
        have : b = 0 := by omega
        subst this <;> first | rfl | exact absurd (by dsimp only; decide) hw⟩
    · trivial
noncomputable def ss_RPoint : List (Nat × SumF) := (39, canonSum F_RPoint) :: ss_Point
theorem ss_RPoint_ok : ∀ x ∈ ss_RPoint, SumOk Try.prog x.1 x.2 := List.forall_mem_cons.2 ⟨canonSum_ok sum_RPoint, ss_Point_ok⟩
end Go.Proofs.Ytabmkefbceepmaa.En
