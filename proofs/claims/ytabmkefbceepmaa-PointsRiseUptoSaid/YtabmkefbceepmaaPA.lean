/- What the smallest functions of the statements' hand come to: Pick, Key, Value, Text. -/
import Derived.Test.YtabmkefbceepmaaF4
import Derived.Test.YtabmkefbceepmaaED
namespace Go.Proofs.Ytabmkefbceepmaa.En
open Go
set_option linter.unusedVariables false
set_option linter.unusedSimpArgs false
set_option maxRecDepth 20000
noncomputable def ss0 : List (Nat × SumF) := []
noncomputable def ll0 : List (Nat × Nat × LoopF) := []
theorem ss0_ok : ∀ x ∈ ss0, SumOk Try.prog x.1 x.2 := fun x h => absurd h List.not_mem_nil
theorem ll0_ok : ∀ x ∈ ll0, LoopOk Try.prog x.2.2 := fun x h => absurd h List.not_mem_nil
theorem pick_eq (n m : Int) (h : 0 < m) : n % m = if n.tmod m < 0 then n.tmod m + m else n.tmod m := by
  have h1 := Int.emod_nonneg n (by omega : m ≠ 0)
  have h2 := Int.emod_lt_of_pos n h
  rw [Int.tmod_eq_emod]
  split <;> split <;> omega

noncomputable def GPA1 : Ctx := GS.with ss0 ll0
noncomputable def tgt_Pick (n m : Int) : T CallOut := evCallW [] GPA1 300 12 [AI n, AI m] [] 0
theorem GKPA1 : KnownOk Try.prog GPA1 := KnownOk.lists ss0_ok ll0_ok
theorem tree_Pick (n m : Int) : (tgt_Pick n m).over (.br .skip (.br .leaf .leaf)) =
  T.br (decide (m = (0 : Int))) T.bad (T.br (decide (Int.tmod n m < (0 : Int))) (T.ret (out0 (SV.v (AI (IntKind.wrap IntKind.i64 (Int.tmod n m + m)))))) (T.ret (out0 (SV.v (AI (Int.tmod n m)))))) := by kernel_rfl
theorem res_Pick (n m : Int) (h : 0 < m ∧ m ≤ 4611686018427387904) : (tgt_Pick n m).res = some (out0 (.v (AI (n % m)))) := by
  refine T.over_eq _ (tree_Pick n m) ?_
  simp only [T.res_br, T.res_ret, T.res_bad]
  have h0 : decide (m = 0) = false := by simp; omega
  have h1 := Int.tmod_lt_of_pos n h.1
  have h2 : -m < n.tmod m := by have := Int.lt_tmod_of_pos n h.1; omega
  rw [h0, pick_eq n m h.1]
  simp only [Bool.false_eq_true, if_false, decide_eq_true_eq]
  split
  · rw [wrapI (by omega)]
  · rfl
noncomputable def F_Pick : SumF
  | [.one (.f (.lit (.int .i64 n))), .one (.f (.lit (.int .i64 m)))], [], 0 => .need (pb (0 < m ∧ m ≤ 4611686018427387904)) (.ret (out0 (.v (AI (n % m)))))
  | _, _, _ => .bad
theorem sum_Pick : SumOk Try.prog 12 F_Pick := by
  refine ⟨fun args H nx r hr => ?_, fun args H nx => ?_⟩
  · unfold F_Pick at hr
    split at hr
    · obtain ⟨h, hr⟩ := T.need_some hr
      have := T.ret_some hr
      subst this
      exact evCallW_ok (GS_ok.with _ _) GKPA1 (res_Pick _ _ (pb_of h))
    · exact (T.bad_some hr).elim
  · unfold F_Pick
    split
    · exact T.Every.need ⟨Nat.zero_le _, fun b hb hw => absurd hb (Nat.not_lt_zero b)⟩
    · trivial
noncomputable def ss_Pick : List (Nat × SumF) := (12, canonSum F_Pick) :: ss0
theorem ss_Pick_ok : ∀ x ∈ ss_Pick, SumOk Try.prog x.1 x.2 := List.forall_mem_cons.2 ⟨canonSum_ok sum_Pick, ss0_ok⟩
def keyS (i : Int) : ByteArray := [⟨#[97]⟩, ⟨#[98]⟩, ⟨#[99]⟩, ⟨#[100]⟩, ⟨#[101]⟩, ⟨#[102]⟩, ⟨#[103]⟩, ⟨#[104]⟩, ⟨#[107, 97]⟩, ⟨#[107, 98]⟩, ⟨#[107, 99]⟩, ⟨#[107, 100]⟩, ⟨#[120]⟩, ⟨#[121]⟩, ⟨#[122, 122]⟩, ⟨#[101, 105, 103, 104, 116, 107, 101, 121]⟩].getD i.toNat ⟨#[]⟩
def valS (i : Int) : ByteArray := [⟨#[]⟩, ⟨#[49]⟩, ⟨#[50]⟩, ⟨#[116, 104, 114, 101, 101]⟩, ⟨#[115, 105, 120, 116, 101, 101, 110, 32, 98, 121, 116, 101, 115, 32, 105, 116]⟩, ⟨#[52]⟩].getD i.toNat ⟨#[]⟩
theorem mod16 (n : Int) : n % 16 = 0 ∨ n % 16 = 1 ∨ n % 16 = 2 ∨ n % 16 = 3 ∨ n % 16 = 4 ∨ n % 16 = 5 ∨ n % 16 = 6 ∨ n % 16 = 7 ∨ n % 16 = 8 ∨ n % 16 = 9 ∨ n % 16 = 10 ∨ n % 16 = 11 ∨ n % 16 = 12 ∨ n % 16 = 13 ∨ n % 16 = 14 ∨ n % 16 = 15 := by omega
theorem mod6 (n : Int) : n % 6 = 0 ∨ n % 6 = 1 ∨ n % 6 = 2 ∨ n % 6 = 3 ∨ n % 6 = 4 ∨ n % 6 = 5 := by omega
theorem keyS_size (n : Int) : 1 ≤ (keyS (n % 16)).size ∧ (keyS (n % 16)).size ≤ 8 := by
  rcases mod16 n with h | h | h | h | h | h | h | h | h | h | h | h | h | h | h | h <;> rw [h] <;> decide
theorem valS_size (n : Int) : (valS (n % 6)).size ≤ 16 := by
  rcases mod6 n with h | h | h | h | h | h <;> rw [h] <;> decide
theorem toList_nil (a : ByteArray) : (a.toList == ByteArray.toList ⟨#[]⟩) = decide (a.size = 0) := by
  obtain ⟨⟨l⟩⟩ := a
  rw [ByteArray.toList_eq, ByteArray.toList_eq]
  cases l <;> rfl
def rightB (k : Int) (a b c : ByteArray) : Bool := decide (1 ≤ k ∧ k ≤ 4 ∧ 1 ≤ a.size ∧ a.size ≤ 8 ∧ b.size ≤ 16 ∧ c.size ≤ 16 ∧ (k = 2 ∨ k = 4 ∨ b.size = 0) ∧ (k = 4 ∨ c.size = 0))

noncomputable def GPA2 : Ctx := GS.with ss_Pick ll0
noncomputable def tgt_Key (n : Int) : T CallOut := evCallW [] GPA2 300 41 [AI n] [] 0
noncomputable def tgt_Value (n : Int) : T CallOut := evCallW [] GPA2 300 20 [AI n] [] 0
noncomputable def tgt_Text (s : ByteArray) (n : Int) : T CallOut := evCallW [] GPA2 300 44 [AS s, AI n] [] 0
noncomputable def tgt_Right (k : Int) (a b c : ByteArray) : T CallOut := evCallW [] GPA2 300 42 [.agg [I k, Sg a, Sg b, Sg c]] [] 0
noncomputable def tgt_RightOp (k : Int) (a b c : ByteArray) : T CallOut := evCallW [] GPA2 300 45 [.agg [I k, Sg a, Sg b, Sg c]] [] 0
theorem GKPA2 : KnownOk Try.prog GPA2 := KnownOk.lists ss_Pick_ok ll0_ok
theorem tree_Key (n : Int) : (tgt_Key n).over (.br (.br .leaf .skip) .skip) =
  T.br (pb ((0 : Int) < (16 : Int) ∧ (16 : Int) ≤ (4611686018427387904 : Int)))
    (T.br (decide ((0 : Int) ≤ n % (16 : Int) ∧ n % (16 : Int) < (16 : Int)))
      (T.ret
        (out0
          (SV.v
            (AS
              (bif decide (n % (16 : Int) = (0 : Int)) then { data := #[(97 : UInt8)] }
              else
                bif decide (n % (16 : Int) = (1 : Int)) then { data := #[(98 : UInt8)] }
                else
                  bif decide (n % (16 : Int) = (2 : Int)) then { data := #[(99 : UInt8)] }
                  else
                    bif decide (n % (16 : Int) = (3 : Int)) then { data := #[(100 : UInt8)] }
                    else
                      bif decide (n % (16 : Int) = (4 : Int)) then { data := #[(101 : UInt8)] }
                      else
                        bif decide (n % (16 : Int) = (5 : Int)) then { data := #[(102 : UInt8)] }
                        else
                          bif decide (n % (16 : Int) = (6 : Int)) then { data := #[(103 : UInt8)] }
                          else
                            bif decide (n % (16 : Int) = (7 : Int)) then { data := #[(104 : UInt8)] }
                            else
                              bif decide (n % (16 : Int) = (8 : Int)) then { data := #[(107 : UInt8), (97 : UInt8)] }
                              else
                                bif decide (n % (16 : Int) = (9 : Int)) then { data := #[(107 : UInt8), (98 : UInt8)] }
                                else
                                  bif decide (n % (16 : Int) = (10 : Int)) then { data := #[(107 : UInt8), (99 : UInt8)] }
                                  else
                                    bif decide (n % (16 : Int) = (11 : Int)) then { data := #[(107 : UInt8), (100 : UInt8)] }
                                    else
                                      bif decide (n % (16 : Int) = (12 : Int)) then { data := #[(120 : UInt8)] }
                                      else
                                        bif decide (n % (16 : Int) = (13 : Int)) then { data := #[(121 : UInt8)] }
                                        else
                                          bif decide (n % (16 : Int) = (14 : Int)) then { data := #[(122 : UInt8), (122 : UInt8)] }
                                          else { data := #[(101 : UInt8), (105 : UInt8), (103 : UInt8), (104 : UInt8), (116 : UInt8), (107 : UInt8), (101 : UInt8), (121 : UInt8)] })))))
      T.bad)
    T.bad := by kernel_rfl
theorem res_Key (n : Int) : (tgt_Key n).res = some (out0 (.v (AS (keyS (n % 16))))) := by
  refine T.over_eq _ (tree_Key n) ?_
  simp only [T.res_br, T.res_ret, T.res_bad]
  rw [pb_true (by omega)]
  rcases mod16 n with h | h | h | h | h | h | h | h | h | h | h | h | h | h | h | h <;> rw [h] <;> rfl
noncomputable def F_Key : SumF
  | [.one (.f (.lit (.int .i64 n)))], [], 0 => .ret (out0 (.v (AS (keyS (n % 16)))))
  | _, _, _ => .bad
theorem sum_Key : SumOk Try.prog 41 F_Key := by
  refine ⟨fun args H nx r hr => ?_, fun args H nx => ?_⟩
  · unfold F_Key at hr
    split at hr
    · have := T.ret_some hr
      subst this
      exact evCallW_ok (GS_ok.with _ _) GKPA2 (res_Key _)
    · exact (T.bad_some hr).elim
  · unfold F_Key
    split
    · exact ⟨Nat.zero_le _, fun b hb hw => absurd hb (Nat.not_lt_zero b)⟩
    · trivial
noncomputable def ss_Key : List (Nat × SumF) := (41, canonSum F_Key) :: ss_Pick
theorem ss_Key_ok : ∀ x ∈ ss_Key, SumOk Try.prog x.1 x.2 := List.forall_mem_cons.2 ⟨canonSum_ok sum_Key, ss_Pick_ok⟩
theorem tree_Value (n : Int) : (tgt_Value n).over (.br (.br .leaf .skip) .skip) =
  T.br (pb ((0 : Int) < (6 : Int) ∧ (6 : Int) ≤ (4611686018427387904 : Int)))
    (T.br (decide ((0 : Int) ≤ n % (6 : Int) ∧ n % (6 : Int) < (6 : Int)))
      (T.ret
        (out0
          (SV.v
            (AS
              (bif decide (n % (6 : Int) = (0 : Int)) then { data := #[] }
              else
                bif decide (n % (6 : Int) = (1 : Int)) then { data := #[(49 : UInt8)] }
                else
                  bif decide (n % (6 : Int) = (2 : Int)) then { data := #[(50 : UInt8)] }
                  else
                    bif decide (n % (6 : Int) = (3 : Int)) then { data := #[(116 : UInt8), (104 : UInt8), (114 : UInt8), (101 : UInt8), (101 : UInt8)] }
                    else
                      bif decide (n % (6 : Int) = (4 : Int)) then
                        {
                          data :=
                            #[(115 : UInt8), (105 : UInt8), (120 : UInt8), (116 : UInt8), (101 : UInt8), (101 : UInt8), (110 : UInt8), (32 : UInt8), (98 : UInt8), (121 : UInt8), (116 : UInt8), (101 : UInt8), (115 : UInt8), (32 : UInt8),
                              (105 : UInt8), (116 : UInt8)] }
                      else { data := #[(52 : UInt8)] })))))
      T.bad)
    T.bad := by kernel_rfl
theorem res_Value (n : Int) : (tgt_Value n).res = some (out0 (.v (AS (valS (n % 6))))) := by
  refine T.over_eq _ (tree_Value n) ?_
  simp only [T.res_br, T.res_ret, T.res_bad]
  rw [pb_true (by omega)]
  rcases mod6 n with h | h | h | h | h | h <;> rw [h] <;> rfl
noncomputable def F_Value : SumF
  | [.one (.f (.lit (.int .i64 n)))], [], 0 => .ret (out0 (.v (AS (valS (n % 6)))))
  | _, _, _ => .bad
theorem sum_Value : SumOk Try.prog 20 F_Value := by
  refine ⟨fun args H nx r hr => ?_, fun args H nx => ?_⟩
  · unfold F_Value at hr
    split at hr
    · have := T.ret_some hr
      subst this
      exact evCallW_ok (GS_ok.with _ _) GKPA2 (res_Value _)
    · exact (T.bad_some hr).elim
  · unfold F_Value
    split
    · exact ⟨Nat.zero_le _, fun b hb hw => absurd hb (Nat.not_lt_zero b)⟩
    · trivial
noncomputable def ss_Value : List (Nat × SumF) := (20, canonSum F_Value) :: ss_Key
theorem ss_Value_ok : ∀ x ∈ ss_Value, SumOk Try.prog x.1 x.2 := List.forall_mem_cons.2 ⟨canonSum_ok sum_Value, ss_Key_ok⟩
theorem tree_Text (s : ByteArray) (n : Int) : (tgt_Text s n).over (.br (.br .leaf .skip) .leaf) =
  T.br (decide ((↑(ByteArray.size s) : Int) > n)) (T.br (decide ((0 : Int) ≤ n ∧ n ≤ (↑(ByteArray.size s) : Int))) (T.ret (out0 (SV.v (AS (ByteArray.extract s (0 : Nat) (Int.toNat n)))))) T.bad) (T.ret (out0 (SV.v (AS s)))) := by kernel_rfl
theorem res_Text (s : ByteArray) (n : Int) (h : 0 ≤ n) : (tgt_Text s n).res = some (out0 (.v (AS (if (s.size : Int) > n then s.extract 0 n.toNat else s)))) := by
  refine T.over_eq _ (tree_Text s n) ?_
  simp only [T.res_br, T.res_ret, T.res_bad]
  simp only [decide_eq_true_eq]
  split
  · rw [if_pos (by omega)]
  · rfl
noncomputable def F_Text : SumF
  | [.one (.f (.lit (.string s))), .one (.f (.lit (.int .i64 n)))], [], 0 => .need (pb (0 ≤ n)) (.ret (out0 (.v (AS (if (s.size : Int) > n then s.extract 0 n.toNat else s)))))
  | _, _, _ => .bad
theorem sum_Text : SumOk Try.prog 44 F_Text := by
  refine ⟨fun args H nx r hr => ?_, fun args H nx => ?_⟩
  · unfold F_Text at hr
    split at hr
    · obtain ⟨h, hr⟩ := T.need_some hr
      have := T.ret_some hr
      subst this
      exact evCallW_ok (GS_ok.with _ _) GKPA2 (res_Text _ _ (pb_of h))
    · exact (T.bad_some hr).elim
  · unfold F_Text
    split
    · exact T.Every.need ⟨Nat.zero_le _, fun b hb hw => absurd hb (Nat.not_lt_zero b)⟩
    · trivial
noncomputable def ss_Text : List (Nat × SumF) := (44, canonSum F_Text) :: ss_Value
theorem ss_Text_ok : ∀ x ∈ ss_Text, SumOk Try.prog x.1 x.2 := List.forall_mem_cons.2 ⟨canonSum_ok sum_Text, ss_Value_ok⟩
theorem tree_Right (k : Int) (a b c : ByteArray) : (tgt_Right k a b c).over (.br (.tt (.tt (.tt (.br (.tt (.tt (.tt (.tt (.tt .leaf))))) (.ff (.ff (.ff (.br (.tt .leaf) (.br (.tt .leaf) (.br .leaf (.br (.tt .leaf) (.br .leaf (.tt (.tt (.tt (.tt (.tt (.tt (.tt (.tt (.br (.tt (.tt (.tt (.tt (.tt .leaf))))) (.ff (.ff (.tt (.ff (.tt .leaf)))))))))))))))))))))))))) (.ff (.ff (.ff (.br (.tt (.tt (.tt (.tt (.tt .leaf))))) (.ff (.ff (.ff (.br (.tt .leaf) (.br (.tt .leaf) (.br .leaf (.br (.tt .leaf) (.br .leaf (.br (.tt (.tt (.tt (.tt (.tt (.tt (.tt (.br (.tt (.tt (.tt (.tt (.tt .leaf))))) .skip)))))))) (.ff (.ff (.ff (.br (.tt (.tt (.tt (.br .skip (.ff (.ff (.tt (.ff (.tt .leaf))))))))) (.ff (.ff (.ff (.ff (.ff .leaf))))))))))))))))))))))) =
  T.br (k == (2 : Int))
    (T.br (decide (k < (1 : Int))) (T.ret (out0 (SV.v (AB false))))
      (T.br (decide (k > (4 : Int))) (T.ret (out0 (SV.v (AB false))))
        (T.br (ByteArray.toList a == ByteArray.toList { data := #[] }) (T.ret (out0 (SV.v (AB false))))
          (T.br (decide ((↑(ByteArray.size a) : Int) > (8 : Int))) (T.ret (out0 (SV.v (AB false))))
            (T.br (decide ((↑(ByteArray.size b) : Int) > (16 : Int))) (T.ret (out0 (SV.v (AB false))))
              (T.br (decide ((↑(ByteArray.size c) : Int) > (16 : Int))) (T.ret (out0 (SV.v (AB false))))
                (T.br (k == (4 : Int)) (T.ret (out0 (SV.v (AB true)))) (T.ret (out0 (SV.v (AB (ByteArray.toList c == ByteArray.toList { data := #[] }))))))))))))
    (T.br (decide (k < (1 : Int))) (T.ret (out0 (SV.v (AB false))))
      (T.br (decide (k > (4 : Int))) (T.ret (out0 (SV.v (AB false))))
        (T.br (ByteArray.toList a == ByteArray.toList { data := #[] }) (T.ret (out0 (SV.v (AB false))))
          (T.br (decide ((↑(ByteArray.size a) : Int) > (8 : Int))) (T.ret (out0 (SV.v (AB false))))
            (T.br (decide ((↑(ByteArray.size b) : Int) > (16 : Int))) (T.ret (out0 (SV.v (AB false))))
              (T.br (decide ((↑(ByteArray.size c) : Int) > (16 : Int))) (T.ret (out0 (SV.v (AB false))))
                (T.br (k == (4 : Int)) (T.br (k == (4 : Int)) (T.ret (out0 (SV.v (AB true)))) T.bad)
                  (T.br (ByteArray.toList b == ByteArray.toList { data := #[] }) (T.br (k == (4 : Int)) T.bad (T.ret (out0 (SV.v (AB (ByteArray.toList c == ByteArray.toList { data := #[] })))))) (T.ret (out0 (SV.v (AB false)))))))))))) := by kernel_rfl
theorem res_Right (k : Int) (a b c : ByteArray) : (tgt_Right k a b c).res = some (out0 (.v (AB (rightB k a b c)))) := by
  refine T.over_eq _ (tree_Right k a b c) ?_
  simp only [T.res_br, T.res_ret, T.res_bad]
  simp only [toList_nil, decide_eq_true_eq, beq_iff_eq, rightB]
  repeat' split
  all_goals first
    | omega
    | (refine congrArg (fun x => some (out0 (SV.v (AB x)))) ?_
       first
       | exact (decide_eq_true (by omega)).symm
       | exact (decide_eq_false (by omega)).symm
       | exact decide_eq_decide.2 (by omega))
noncomputable def F_Right : SumF
  | [.agg [.f (.lit (.int .i64 k)), .f (.lit (.string a)), .f (.lit (.string b)), .f (.lit (.string c))]], [], 0 => .ret (out0 (.v (AB (rightB k a b c))))
  | _, _, _ => .bad
theorem sum_Right : SumOk Try.prog 42 F_Right := by
  refine ⟨fun args H nx r hr => ?_, fun args H nx => ?_⟩
  · unfold F_Right at hr
    split at hr
    · have := T.ret_some hr
      subst this
      exact evCallW_ok (GS_ok.with _ _) GKPA2 (res_Right _ _ _ _)
    · exact (T.bad_some hr).elim
  · unfold F_Right
    split
    · exact ⟨Nat.zero_le _, fun b hb hw => absurd hb (Nat.not_lt_zero b)⟩
    · trivial
noncomputable def ss_Right : List (Nat × SumF) := (42, canonSum F_Right) :: ss_Text
theorem ss_Right_ok : ∀ x ∈ ss_Right, SumOk Try.prog x.1 x.2 := List.forall_mem_cons.2 ⟨canonSum_ok sum_Right, ss_Text_ok⟩
theorem tree_RightOp (k : Int) (a b c : ByteArray) : (tgt_RightOp k a b c).over (.br (.tt (.tt (.tt (.tt (.tt (.tt (.tt (.tt (.tt (.tt (.tt (.tt (.tt (.tt (.tt (.tt (.tt (.tt (.tt (.tt (.tt (.tt (.tt (.tt .leaf)))))))))))))))))))))))) (.ff (.ff (.ff (.br (.tt (.tt (.tt (.tt (.tt (.tt (.tt (.tt (.tt (.tt (.tt (.tt (.tt (.tt (.tt (.tt (.tt (.tt (.tt (.tt .leaf)))))))))))))))))))) (.ff (.ff (.ff (.ff (.br (.tt (.tt (.tt (.tt (.tt (.tt (.tt (.tt (.tt (.tt (.tt (.tt (.tt (.tt (.tt .leaf))))))))))))))) (.ff (.ff (.ff (.ff (.br (.tt (.tt (.tt (.tt (.tt (.tt (.tt (.tt (.tt (.tt .leaf)))))))))) (.ff (.ff (.ff (.ff (.br (.tt (.tt (.tt (.tt (.tt .leaf))))) (.ff (.ff (.ff (.ff (.br .leaf (.br (.tt (.tt (.tt (.tt (.tt (.tt (.tt (.tt (.tt (.tt (.tt (.br (.tt (.tt (.tt (.tt (.tt .leaf))))) (.ff (.ff (.tt (.ff (.tt .leaf))))))))))))))))) (.ff (.ff (.ff (.br (.tt (.tt (.tt (.tt (.tt (.tt (.tt (.br (.tt (.tt (.tt (.tt (.tt .leaf))))) (.ff (.ff (.tt (.ff (.tt .leaf))))))))))))) (.ff (.ff (.ff (.br (.tt (.tt (.tt (.br (.tt (.tt (.tt (.tt (.tt .leaf))))) (.ff (.ff (.tt (.ff (.tt .leaf))))))))) (.ff (.ff (.ff (.ff (.ff .leaf))))))))))))))))))))))))))))))))))))))) =
  T.br (decide (k < (1 : Int))) (T.ret (out0 (SV.v (AB false))))
    (T.br (decide (k > (4 : Int))) (T.ret (out0 (SV.v (AB false))))
      (T.br (decide ((↑(ByteArray.size a) : Int) < (1 : Int))) (T.ret (out0 (SV.v (AB false))))
        (T.br (decide ((↑(ByteArray.size a) : Int) > (8 : Int))) (T.ret (out0 (SV.v (AB false))))
          (T.br (decide ((↑(ByteArray.size b) : Int) > (16 : Int))) (T.ret (out0 (SV.v (AB false))))
            (T.br (decide ((↑(ByteArray.size c) : Int) > (16 : Int))) (T.ret (out0 (SV.v (AB false))))
              (T.br (ByteArray.toList b == ByteArray.toList { data := #[] }) (T.br (ByteArray.toList c == ByteArray.toList { data := #[] }) (T.ret (out0 (SV.v (AB true)))) (T.ret (out0 (SV.v (AB (k == (4 : Int)))))))
                (T.br (k == (2 : Int)) (T.br (ByteArray.toList c == ByteArray.toList { data := #[] }) (T.ret (out0 (SV.v (AB true)))) (T.ret (out0 (SV.v (AB (k == (4 : Int)))))))
                  (T.br (k == (4 : Int)) (T.br (ByteArray.toList c == ByteArray.toList { data := #[] }) (T.ret (out0 (SV.v (AB true)))) (T.ret (out0 (SV.v (AB (k == (4 : Int))))))) (T.ret (out0 (SV.v (AB false)))))))))))) := by kernel_rfl
theorem res_RightOp (k : Int) (a b c : ByteArray) : (tgt_RightOp k a b c).res = some (out0 (.v (AB (rightB k a b c)))) := by
  refine T.over_eq _ (tree_RightOp k a b c) ?_
  simp only [T.res_br, T.res_ret, T.res_bad]
  simp only [toList_nil, decide_eq_true_eq, beq_iff_eq, rightB]
  repeat' split
  all_goals first
    | omega
    | (refine congrArg (fun x => some (out0 (SV.v (AB x)))) ?_
       first
       | exact (decide_eq_true (by omega)).symm
       | exact (decide_eq_false (by omega)).symm
       | exact decide_eq_decide.2 (by omega))
noncomputable def F_RightOp : SumF
  | [.agg [.f (.lit (.int .i64 k)), .f (.lit (.string a)), .f (.lit (.string b)), .f (.lit (.string c))]], [], 0 => .ret (out0 (.v (AB (rightB k a b c))))
  | _, _, _ => .bad
theorem sum_RightOp : SumOk Try.prog 45 F_RightOp := by
  refine ⟨fun args H nx r hr => ?_, fun args H nx => ?_⟩
  · unfold F_RightOp at hr
    split at hr
    · have := T.ret_some hr
      subst this
      exact evCallW_ok (GS_ok.with _ _) GKPA2 (res_RightOp _ _ _ _)
    · exact (T.bad_some hr).elim
  · unfold F_RightOp
    split
    · exact ⟨Nat.zero_le _, fun b hb hw => absurd hb (Nat.not_lt_zero b)⟩
    · trivial
noncomputable def ss_RightOp : List (Nat × SumF) := (45, canonSum F_RightOp) :: ss_Right
theorem ss_RightOp_ok : ∀ x ∈ ss_RightOp, SumOk Try.prog x.1 x.2 := List.forall_mem_cons.2 ⟨canonSum_ok sum_RightOp, ss_Right_ok⟩
end Go.Proofs.Ytabmkefbceepmaa.En
