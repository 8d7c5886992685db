/- What the smallest functions come to: Pick, Num, May, Entry, the order of entries. -/
import Derived.Test.YtdoehlinboiohaaF11
import Derived.Test.YtdoehlinboiohaaED
namespace Go.Proofs.Ytdoehlinboiohaa.En
open Go
set_option linter.unusedVariables false
set_option linter.unusedSimpArgs false
set_option maxRecDepth 20000
set_option maxHeartbeats 1000000
noncomputable def ss0 : List (Nat × SumF) := []
noncomputable def ll0 : List (Nat × Nat × LoopF) := []
theorem ss0_ok : ∀ x ∈ ss0, SumOk Try.prog x.1 x.2 := fun x h => absurd h List.not_mem_nil
theorem ll0_ok : ∀ x ∈ ll0, LoopOk Try.prog x.2.2 := fun x h => absurd h List.not_mem_nil
theorem pick_eq (n m : Int) (h : 0 < m) : n % m = if n.tmod m < 0 then n.tmod m + m else n.tmod m := by
  have h1 := Int.emod_nonneg n (by omega : m ≠ 0)
  have h2 := Int.emod_lt_of_pos n h
  rw [Int.tmod_eq_emod]
  split <;> split <;> omega
def cmpI (a b : Int) : Int := if a < b then -1 else if b < a then 1 else 0
def orI (a b c d e : Int) : Int := if a ≠ 0 then a else if b ≠ 0 then b else if c ≠ 0 then c else if d ≠ 0 then d else if e ≠ 0 then e else 0

noncomputable def GPA1 : Ctx := GS.with ss0 ll0
noncomputable def tgt_Pick (n m : Int) : T CallOut := evCallW [] GPA1 300 23 [AI n, AI m] [] 0
noncomputable def tgt_Compare (a b : Int) : T CallOut := evCallW [] GPA1 300 49 [AI a, AI b] [] 0
noncomputable def tgt_bit (d : Bool) : T CallOut := evCallW [] GPA1 300 50 [AB d] [] 0
noncomputable def tgt_Or (a b c d e : Int) : T CallOut := evCallW [] GPA1 300 48 [.one (.sl false 0 0 0 0 5 5 true 1)] [(0, .cells [I a, I b, I c, I d, I e])] 1
theorem GKPA1 : KnownOk Try.prog GPA1 := KnownOk.lists ss0_ok ll0_ok
theorem GOPA1 : CtxOk Try.prog GPA1 := GS_ok.with _ _
theorem tree_Pick (n m : Int) : (tgt_Pick n m).over (.br .skip (.br .leaf .leaf)) =
  T.br (decide (m = (0 : Int))) T.bad (T.br (decide (Int.tmod n m < (0 : Int))) (T.ret (out0 (SV.v (AI (IntKind.wrap IntKind.i64 (Int.tmod n m + m)))))) (T.ret (out0 (SV.v (AI (Int.tmod n m)))))) := by kernel_rfl
theorem res_Pick (n m : Int) (h : 0 < m ∧ m ≤ 9223372036854775807) : (tgt_Pick n m).res = some (out0 (.v (AI (n % m)))) := by
  refine T.over_eq _ (tree_Pick n m) ?_
  simp only [T.res_br, T.res_ret, T.res_bad]
  have h0 : decide (m = 0) = false := by simp; omega
  have h1 := Int.tmod_lt_of_pos n h.1
  have h2 : -m < n.tmod m := by have := Int.lt_tmod_of_pos n h.1; omega
  rw [h0, pick_eq n m h.1]
  simp only [Bool.false_eq_true, if_false, decide_eq_true_eq]
  split
  · rw [wrapI (by omega)]
  · rfl
noncomputable def F_Pick : SumF
  | [.one (.f (.lit (.int .i64 n))), .one (.f (.lit (.int .i64 m)))], [], 0 => .need (decide (0 < m ∧ m ≤ 9223372036854775807)) (.ret (out0 (.v (AI (n % m)))))
  | _, _, _ => .bad
theorem sum_Pick : SumOk Try.prog 23 F_Pick := by
  refine ⟨fun args H nx r hr => ?_, fun args H nx => ?_⟩
  · unfold F_Pick at hr
    split at hr
    · obtain ⟨h, hr⟩ := T.need_some hr
      have := T.ret_some hr
      subst this
      exact evCallW_ok GOPA1 GKPA1 (res_Pick _ _ (of_decide_eq_true h))
    · exact (T.bad_some hr).elim
  · unfold F_Pick
    split
    · exact T.Every.need ⟨Nat.zero_le _, fun b hb hw => absurd hb (Nat.not_lt_zero b)⟩
    · trivial
noncomputable def sm_Pick : SumF := canonSum F_Pick
theorem sm_Pick_ok : SumOk Try.prog 23 sm_Pick := canonSum_ok sum_Pick
noncomputable def ss_Pick : List (Nat × SumF) := (23, sm_Pick) :: ss0
theorem ss_Pick_ok : ∀ x ∈ ss_Pick, SumOk Try.prog x.1 x.2 := List.forall_mem_cons.2 ⟨sm_Pick_ok, ss0_ok⟩
theorem tree_Compare (a b : Int) : (tgt_Compare a b).over (.br (.br .leaf .leaf) (.br .leaf (.br .leaf (.br .leaf .leaf)))) =
  T.br (a != a) (T.br (b != b) (T.ret (out0 (SV.v (AI (0 : Int))))) (T.ret (out0 (SV.v (AI (-1 : Int))))))
    (T.br (b != b) (T.ret (out0 (SV.v (AI (1 : Int))))) (T.br (decide (a < b)) (T.ret (out0 (SV.v (AI (-1 : Int))))) (T.br (decide (a > b)) (T.ret (out0 (SV.v (AI (1 : Int))))) (T.ret (out0 (SV.v (AI (0 : Int)))))))) := by kernel_rfl
theorem res_Compare (a b : Int) : (tgt_Compare a b).res = some (out0 (.v (AI (cmpI a b)))) := by
  refine T.over_eq _ (tree_Compare a b) ?_
  simp only [T.res_br, T.res_ret, T.res_bad]
  simp only [cmpI, bne_self_eq_false, Bool.false_eq_true, if_false, decide_eq_true_eq, gt_iff_lt]
  repeat' split
  all_goals rfl
noncomputable def F_Compare : SumF
  | [.one (.f (.lit (.int .i64 a))), .one (.f (.lit (.int .i64 b)))], [], 0 => .ret (out0 (.v (AI (cmpI a b))))
  | _, _, _ => .bad
theorem sum_Compare : SumOk Try.prog 49 F_Compare := by
  refine ⟨fun args H nx r hr => ?_, fun args H nx => ?_⟩
  · unfold F_Compare at hr
    split at hr
    · have := T.ret_some hr
      subst this
      exact evCallW_ok GOPA1 GKPA1 (res_Compare _ _)
    · exact (T.bad_some hr).elim
  · unfold F_Compare
    split
    · exact ⟨Nat.zero_le _, fun b hb hw => absurd hb (Nat.not_lt_zero b)⟩
    · trivial
noncomputable def sm_Compare : SumF := canonSum F_Compare
theorem sm_Compare_ok : SumOk Try.prog 49 sm_Compare := canonSum_ok sum_Compare
noncomputable def ss_Compare : List (Nat × SumF) := (49, sm_Compare) :: ss_Pick
theorem ss_Compare_ok : ∀ x ∈ ss_Compare, SumOk Try.prog x.1 x.2 := List.forall_mem_cons.2 ⟨sm_Compare_ok, ss_Pick_ok⟩
theorem tree_bit (d : Bool) : (tgt_bit d).over (.br .leaf .leaf) =
  T.br d (T.ret (out0 (SV.v (AI (1 : Int))))) (T.ret (out0 (SV.v (AI (0 : Int))))) := by kernel_rfl
theorem res_bit (d : Bool) : (tgt_bit d).res = some (out0 (.v (AI (cond d 1 0)))) := by
  refine T.over_eq _ (tree_bit d) ?_
  simp only [T.res_br, T.res_ret, T.res_bad]
  cases d <;> rfl
noncomputable def F_bit : SumF
  | [.one (.f (.lit (.bool d)))], [], 0 => .ret (out0 (.v (AI (cond d 1 0))))
  | _, _, _ => .bad
theorem sum_bit : SumOk Try.prog 50 F_bit := by
  refine ⟨fun args H nx r hr => ?_, fun args H nx => ?_⟩
  · unfold F_bit at hr
    split at hr
    · have := T.ret_some hr
      subst this
      exact evCallW_ok GOPA1 GKPA1 (res_bit _)
    · exact (T.bad_some hr).elim
  · unfold F_bit
    split
    · exact ⟨Nat.zero_le _, fun b hb hw => absurd hb (Nat.not_lt_zero b)⟩
    · trivial
noncomputable def sm_bit : SumF := canonSum F_bit
theorem sm_bit_ok : SumOk Try.prog 50 sm_bit := canonSum_ok sum_bit
noncomputable def ss_bit : List (Nat × SumF) := (50, sm_bit) :: ss_Compare
theorem ss_bit_ok : ∀ x ∈ ss_bit, SumOk Try.prog x.1 x.2 := List.forall_mem_cons.2 ⟨sm_bit_ok, ss_Compare_ok⟩
theorem tree_Or (a b c d e : Int) : (tgt_Or a b c d e).over (.tt (.tt (.tt (.tt (.br .leaf (.tt (.tt (.tt (.ff (.tt (.br .leaf (.tt (.tt (.tt (.ff (.ff (.tt (.br .leaf (.tt (.tt (.tt (.ff (.ff (.ff (.tt (.br .leaf (.tt (.tt (.tt (.ff (.ff (.ff (.ff (.tt (.br .leaf (.ff .leaf)))))))))))))))))))))))))))))))))))) =
  T.br (a != (0 : Int)) (T.ret { v := SV.v (AI a), H := [((0 : Nat), Ob.cells [I a, I b, I c, I d, I e])], nx := (1 : Nat), esc := false, wr := [] : CallOut })
    (T.br (b != (0 : Int)) (T.ret { v := SV.v (AI b), H := [((0 : Nat), Ob.cells [I a, I b, I c, I d, I e])], nx := (1 : Nat), esc := false, wr := [] : CallOut })
      (T.br (c != (0 : Int)) (T.ret { v := SV.v (AI c), H := [((0 : Nat), Ob.cells [I a, I b, I c, I d, I e])], nx := (1 : Nat), esc := false, wr := [] : CallOut })
        (T.br (d != (0 : Int)) (T.ret { v := SV.v (AI d), H := [((0 : Nat), Ob.cells [I a, I b, I c, I d, I e])], nx := (1 : Nat), esc := false, wr := [] : CallOut })
          (T.br (e != (0 : Int)) (T.ret { v := SV.v (AI e), H := [((0 : Nat), Ob.cells [I a, I b, I c, I d, I e])], nx := (1 : Nat), esc := false, wr := [] : CallOut })
            (T.ret { v := SV.v (AI (0 : Int)), H := [((0 : Nat), Ob.cells [I a, I b, I c, I d, I e])], nx := (1 : Nat), esc := false, wr := [] : CallOut }))))) := by kernel_rfl
theorem res_Or (a b c d e : Int) : (tgt_Or a b c d e).res = some (⟨.v (AI (orI a b c d e)), [(0, .cells [I a, I b, I c, I d, I e])], 1, false, []⟩) := by
  refine T.over_eq _ (tree_Or a b c d e) ?_
  simp only [T.res_br, T.res_ret, T.res_bad]
  simp only [orI, bne_iff_ne]
  repeat' split
  all_goals rfl
noncomputable def F_Or : SumF
  | [.one (.sl false 0 0 0 0 5 5 true 1)], [(0, .cells [.f (.lit (.int .i64 a)), .f (.lit (.int .i64 b)), .f (.lit (.int .i64 c)), .f (.lit (.int .i64 d)), .f (.lit (.int .i64 e))])], 1 => .ret (⟨.v (AI (orI a b c d e)), [(0, .cells [I a, I b, I c, I d, I e])], 1, false, []⟩)
  | _, _, _ => .bad
theorem sum_Or : SumOk Try.prog 48 F_Or := by
  refine ⟨fun args H nx r hr => ?_, fun args H nx => ?_⟩
  · unfold F_Or at hr
    split at hr
    · have := T.ret_some hr
      subst this
      exact evCallW_ok GOPA1 GKPA1 (res_Or _ _ _ _ _)
    · exact (T.bad_some hr).elim
  · unfold F_Or
    split
    · exact ⟨by first | exact Nat.le_refl _ | (dsimp only; omega), fun b hb hw => by
        have : b = 0 := by omega
        rcases this with rfl <;> first | rfl | exact absurd (by dsimp only; decide) hw⟩
    · trivial
noncomputable def sm_Or : SumF := canonSum F_Or
theorem sm_Or_ok : SumOk Try.prog 48 sm_Or := canonSum_ok sum_Or
noncomputable def ss_Or : List (Nat × SumF) := (48, sm_Or) :: ss_bit
theorem ss_Or_ok : ∀ x ∈ ss_Or, SumOk Try.prog x.1 x.2 := List.forall_mem_cons.2 ⟨sm_Or_ok, ss_bit_ok⟩
structure Ent where
  inc : Int
  st : Int
  stamp : Int
  load : Int
  dr : Bool
abbrev Ent.cv (a : Ent) : List CV := [I a.inc, I a.st, I a.stamp, I a.load, Bo a.dr]
abbrev Ent.fs (a : Ent) : List FV := [.lit (.int .i64 a.inc), .lit (.int .i64 a.st), .lit (.int .i64 a.stamp), .lit (.int .i64 a.load), .lit (.bool a.dr)]
def compI (a b : Ent) : Int := orI (cmpI a.inc b.inc) (cmpI a.st b.st) (cmpI a.stamp b.stamp) (cmpI a.load b.load) (cmpI (cond a.dr 1 0) (cond b.dr 1 0))
def lessB (a b : Ent) : Bool := decide (compI a b < 0)

def numI (n : Int) : Int :=
  if n % 7 = 0 ∨ n % 7 = 1 ∨ n % 7 = 2 then IntKind.wrap IntKind.i64 (Int.tdiv n 7) % 40
  else if n % 7 = 3 then IntKind.wrap IntKind.i64 (IntKind.wrap IntKind.i64 (1 * 2 ^ min (Int.toNat (IntKind.wrap IntKind.u64 (IntKind.wrap IntKind.i64 (Int.tdiv n 7) % 63))) 64) - IntKind.wrap IntKind.i64 (Int.tdiv n 441) % 3)
  else if n % 7 = 4 then IntKind.wrap IntKind.i64 (4611686018427387903 - IntKind.wrap IntKind.i64 (Int.tdiv n 7) % 3)
  else if n % 7 = 5 then IntKind.wrap IntKind.i64 (Int.tdiv n 7) % 1000 else n
theorem wrap_u64_pos (n : Int) : ¬ IntKind.wrap IntKind.u64 n < 0 := by simp only [IntKind.wrap, IntKind.bits, IntKind.signed]; simp; omega
def mayI (n : Int) : Int := max 0 (min (numI n) 4611686018427387903)

noncomputable def GPA2 : Ctx := GS.with ss_Or ll0
noncomputable def tgt_Num (n : Int) : T CallOut := evCallW [] GPA2 300 53 [AI n] [] 0
noncomputable def tgt_compare (a b : Ent) : T CallOut := evCallW [] GPA2 300 36 [.agg a.cv, .agg b.cv] [] 0
theorem GKPA2 : KnownOk Try.prog GPA2 := KnownOk.lists ss_Or_ok ll0_ok
theorem GOPA2 : CtxOk Try.prog GPA2 := GS_ok.with _ _
theorem tree_Num (n : Int) : (tgt_Num n).over (.tt (.br (.tt (.ff (.tt .leaf))) (.br (.tt (.ff (.tt .leaf))) (.br (.ff (.tt .leaf)) (.br (.ff (.tt (.br .skip (.ff (.tt .leaf))))) (.br (.ff (.tt .leaf)) (.br (.ff (.tt .leaf)) .leaf))))))) =
  T.br (n % (7 : Int) == (0 : Int)) (T.ret (out0 (SV.v (AI (IntKind.wrap IntKind.i64 (Int.tdiv n (7 : Int)) % (40 : Int))))))
    (T.br (n % (7 : Int) == (1 : Int)) (T.ret (out0 (SV.v (AI (IntKind.wrap IntKind.i64 (Int.tdiv n (7 : Int)) % (40 : Int))))))
      (T.br (n % (7 : Int) == (2 : Int)) (T.ret (out0 (SV.v (AI (IntKind.wrap IntKind.i64 (Int.tdiv n (7 : Int)) % (40 : Int))))))
        (T.br (n % (7 : Int) == (3 : Int))
          (T.br (decide (IntKind.wrap IntKind.u64 (IntKind.wrap IntKind.i64 (Int.tdiv n (7 : Int)) % (63 : Int)) < (0 : Int))) T.bad
            (T.ret
              (out0
                (SV.v
                  (AI
                    (IntKind.wrap IntKind.i64
                      (IntKind.wrap IntKind.i64 ((1 : Int) * (2 : Int) ^ min (Int.toNat (IntKind.wrap IntKind.u64 (IntKind.wrap IntKind.i64 (Int.tdiv n (7 : Int)) % (63 : Int)))) (64 : Nat)) -
                        IntKind.wrap IntKind.i64 (Int.tdiv n (441 : Int)) % (3 : Int))))))))
          (T.br (n % (7 : Int) == (4 : Int)) (T.ret (out0 (SV.v (AI (IntKind.wrap IntKind.i64 ((4611686018427387903 : Int) - IntKind.wrap IntKind.i64 (Int.tdiv n (7 : Int)) % (3 : Int)))))))
            (T.br (n % (7 : Int) == (5 : Int)) (T.ret (out0 (SV.v (AI (IntKind.wrap IntKind.i64 (Int.tdiv n (7 : Int)) % (1000 : Int)))))) (T.ret (out0 (SV.v (AI n))))))))) := by kernel_rfl
theorem res_Num (n : Int) : (tgt_Num n).res = some (out0 (.v (AI (numI n)))) := by
  refine T.over_eq _ (tree_Num n) ?_
  simp only [T.res_br, T.res_ret, T.res_bad]
  simp only [numI, beq_iff_eq, decide_eq_true_eq, wrap_u64_pos, if_false]
  repeat' split
  all_goals first | rfl | (exfalso; omega)
noncomputable def F_Num : SumF
  | [.one (.f (.lit (.int .i64 n)))], [], 0 => .ret (out0 (.v (AI (numI n))))
  | _, _, _ => .bad
theorem sum_Num : SumOk Try.prog 53 F_Num := by
  refine ⟨fun args H nx r hr => ?_, fun args H nx => ?_⟩
  · unfold F_Num at hr
    split at hr
    · have := T.ret_some hr
      subst this
      exact evCallW_ok GOPA2 GKPA2 (res_Num _)
    · exact (T.bad_some hr).elim
  · unfold F_Num
    split
    · exact ⟨Nat.zero_le _, fun b hb hw => absurd hb (Nat.not_lt_zero b)⟩
    · trivial
noncomputable def sm_Num : SumF := canonSum F_Num
theorem sm_Num_ok : SumOk Try.prog 53 sm_Num := canonSum_ok sum_Num
noncomputable def ss_Num : List (Nat × SumF) := (53, sm_Num) :: ss_Or
theorem ss_Num_ok : ∀ x ∈ ss_Num, SumOk Try.prog x.1 x.2 := List.forall_mem_cons.2 ⟨sm_Num_ok, ss_Or_ok⟩
theorem tree_compare (a b : Ent) : (tgt_compare a b).over .leaf =
  T.ret
    (out0
      (SV.v
        (AI
          (orI (cmpI (Ent.inc a) (Ent.inc b)) (cmpI (Ent.st a) (Ent.st b)) (cmpI (Ent.stamp a) (Ent.stamp b)) (cmpI (Ent.load a) (Ent.load b))
            (cmpI (bif Ent.dr a then (1 : Int) else (0 : Int)) (bif Ent.dr b then (1 : Int) else (0 : Int))))))) := by kernel_rfl
theorem res_compare (a b : Ent) : (tgt_compare a b).res = some (out0 (.v (AI (compI a b)))) := by
  refine T.over_eq _ (tree_compare a b) ?_
  simp only [T.res_br, T.res_ret, T.res_bad]
  rfl
noncomputable def F_compare : SumF
  | [.agg [.f (.lit (.int .i64 a_0)), .f (.lit (.int .i64 a_1)), .f (.lit (.int .i64 a_2)), .f (.lit (.int .i64 a_3)), .f (.lit (.bool a_4))], .agg [.f (.lit (.int .i64 b_0)), .f (.lit (.int .i64 b_1)), .f (.lit (.int .i64 b_2)), .f (.lit (.int .i64 b_3)), .f (.lit (.bool b_4))]], [], 0 => .ret (out0 (.v (AI (compI (⟨a_0, a_1, a_2, a_3, a_4⟩ : Ent) (⟨b_0, b_1, b_2, b_3, b_4⟩ : Ent)))))
  | _, _, _ => .bad
theorem sum_compare : SumOk Try.prog 36 F_compare := by
  refine ⟨fun args H nx r hr => ?_, fun args H nx => ?_⟩
  · unfold F_compare at hr
    split at hr
    · rename_i a_0 a_1 a_2 a_3 a_4 b_0 b_1 b_2 b_3 b_4
      have := T.ret_some hr
      subst this
      exact evCallW_ok GOPA2 GKPA2 (res_compare (⟨a_0, a_1, a_2, a_3, a_4⟩ : Ent) (⟨b_0, b_1, b_2, b_3, b_4⟩ : Ent))
    · exact (T.bad_some hr).elim
  · unfold F_compare
    split
    · exact ⟨Nat.zero_le _, fun b hb hw => absurd hb (Nat.not_lt_zero b)⟩
    · trivial
noncomputable def sm_compare : SumF := canonSum F_compare
theorem sm_compare_ok : SumOk Try.prog 36 sm_compare := canonSum_ok sum_compare
noncomputable def ss_compare : List (Nat × SumF) := (36, sm_compare) :: ss_Num
theorem ss_compare_ok : ∀ x ∈ ss_compare, SumOk Try.prog x.1 x.2 := List.forall_mem_cons.2 ⟨sm_compare_ok, ss_Num_ok⟩
theorem cmpI_ne {a b : Int} : cmpI a b ≠ 0 ↔ a ≠ b := by
  unfold cmpI
  repeat' split
  all_goals omega
theorem cmpI_lt {a b : Int} : cmpI a b < 0 ↔ a < b := by
  unfold cmpI
  repeat' split
  all_goals omega
theorem lessB_eq (a b : Ent) : lessB a b = if a.inc ≠ b.inc then decide (a.inc < b.inc) else if a.st ≠ b.st then decide (a.st < b.st) else if a.stamp ≠ b.stamp then decide (a.stamp < b.stamp) else if a.load ≠ b.load then decide (a.load < b.load) else !a.dr && b.dr := by
  obtain ⟨a1, a2, a3, a4, a5⟩ := a
  obtain ⟨b1, b2, b3, b4, b5⟩ := b
  simp only [lessB, compI, orI, cmpI_ne]
  by_cases h1 : a1 = b1 <;> by_cases h2 : a2 = b2 <;> by_cases h3 : a3 = b3 <;> by_cases h4 : a4 = b4 <;> simp only [h1, h2, h3, h4, ne_eq, not_true, not_false_eq_true, if_true, if_false, cmpI_lt]
  cases a5 <;> cases b5 <;> simp [cmpI]
def entR (a : Ent) : Ent := ⟨a.inc % 4, a.st % 3, if a.inc % 19 = 18 then mayI a.stamp else a.stamp % 5, a.load % 12, a.dr⟩

noncomputable def GPA3 : Ctx := GS.with ss_compare ll0
noncomputable def tgt_Less (a b : Ent) : T CallOut := evCallW [] GPA3 300 14 [.agg a.cv, .agg b.cv] [] 0
noncomputable def tgt_RLess (a b : Ent) : T CallOut := evCallW [] GPA3 300 20 [.agg a.cv, .agg b.cv] [] 0
noncomputable def tgt_May (n : Int) : T CallOut := evCallW [] GPA3 300 51 [AI n] [] 0
theorem GKPA3 : KnownOk Try.prog GPA3 := KnownOk.lists ss_compare_ok ll0_ok
theorem GOPA3 : CtxOk Try.prog GPA3 := GS_ok.with _ _
theorem tree_Less (a b : Ent) : (tgt_Less a b).over .leaf =
  T.ret (out0 (SV.v (AB (decide (compI a b < (0 : Int)))))) := by kernel_rfl
theorem res_Less (a b : Ent) : (tgt_Less a b).res = some (out0 (.v (AB (lessB a b)))) := by
  refine T.over_eq _ (tree_Less a b) ?_
  simp only [T.res_br, T.res_ret, T.res_bad]
  rfl
noncomputable def F_Less : SumF
  | [.agg [.f (.lit (.int .i64 a_0)), .f (.lit (.int .i64 a_1)), .f (.lit (.int .i64 a_2)), .f (.lit (.int .i64 a_3)), .f (.lit (.bool a_4))], .agg [.f (.lit (.int .i64 b_0)), .f (.lit (.int .i64 b_1)), .f (.lit (.int .i64 b_2)), .f (.lit (.int .i64 b_3)), .f (.lit (.bool b_4))]], [], 0 => .ret (out0 (.v (AB (lessB (⟨a_0, a_1, a_2, a_3, a_4⟩ : Ent) (⟨b_0, b_1, b_2, b_3, b_4⟩ : Ent)))))
  | _, _, _ => .bad
theorem sum_Less : SumOk Try.prog 14 F_Less := by
  refine ⟨fun args H nx r hr => ?_, fun args H nx => ?_⟩
  · unfold F_Less at hr
    split at hr
    · rename_i a_0 a_1 a_2 a_3 a_4 b_0 b_1 b_2 b_3 b_4
      have := T.ret_some hr
      subst this
      exact evCallW_ok GOPA3 GKPA3 (res_Less (⟨a_0, a_1, a_2, a_3, a_4⟩ : Ent) (⟨b_0, b_1, b_2, b_3, b_4⟩ : Ent))
    · exact (T.bad_some hr).elim
  · unfold F_Less
    split
    · exact ⟨Nat.zero_le _, fun b hb hw => absurd hb (Nat.not_lt_zero b)⟩
    · trivial
noncomputable def sm_Less : SumF := canonSum F_Less
theorem sm_Less_ok : SumOk Try.prog 14 sm_Less := canonSum_ok sum_Less
noncomputable def ss_Less : List (Nat × SumF) := (14, sm_Less) :: ss_compare
theorem ss_Less_ok : ∀ x ∈ ss_Less, SumOk Try.prog x.1 x.2 := List.forall_mem_cons.2 ⟨sm_Less_ok, ss_compare_ok⟩
theorem tree_RLess (a b : Ent) : (tgt_RLess a b).over (.br .leaf (.br .leaf (.br .leaf (.br .leaf (.br (.tt (.tt .leaf)) (.ff (.ff .leaf))))))) =
  T.br (Ent.inc a != Ent.inc b) (T.ret (out0 (SV.v (AB (decide (Ent.inc a < Ent.inc b))))))
    (T.br (Ent.st a != Ent.st b) (T.ret (out0 (SV.v (AB (decide (Ent.st a < Ent.st b))))))
      (T.br (Ent.stamp a != Ent.stamp b) (T.ret (out0 (SV.v (AB (decide (Ent.stamp a < Ent.stamp b))))))
        (T.br (Ent.load a != Ent.load b) (T.ret (out0 (SV.v (AB (decide (Ent.load a < Ent.load b)))))) (T.br (!Ent.dr a) (T.ret (out0 (SV.v (AB (Ent.dr b))))) (T.ret (out0 (SV.v (AB false)))))))) := by kernel_rfl
theorem res_RLess (a b : Ent) : (tgt_RLess a b).res = some (out0 (.v (AB (lessB a b)))) := by
  refine T.over_eq _ (tree_RLess a b) ?_
  simp only [T.res_br, T.res_ret, T.res_bad]
  rw [lessB_eq]
  simp only [bne_iff_ne, ne_eq]
  repeat' split
  all_goals simp_all
noncomputable def F_RLess : SumF
  | [.agg [.f (.lit (.int .i64 a_0)), .f (.lit (.int .i64 a_1)), .f (.lit (.int .i64 a_2)), .f (.lit (.int .i64 a_3)), .f (.lit (.bool a_4))], .agg [.f (.lit (.int .i64 b_0)), .f (.lit (.int .i64 b_1)), .f (.lit (.int .i64 b_2)), .f (.lit (.int .i64 b_3)), .f (.lit (.bool b_4))]], [], 0 => .ret (out0 (.v (AB (lessB (⟨a_0, a_1, a_2, a_3, a_4⟩ : Ent) (⟨b_0, b_1, b_2, b_3, b_4⟩ : Ent)))))
  | _, _, _ => .bad
theorem sum_RLess : SumOk Try.prog 20 F_RLess := by
  refine ⟨fun args H nx r hr => ?_, fun args H nx => ?_⟩
  · unfold F_RLess at hr
    split at hr
    · rename_i a_0 a_1 a_2 a_3 a_4 b_0 b_1 b_2 b_3 b_4
      have := T.ret_some hr
      subst this
      exact evCallW_ok GOPA3 GKPA3 (res_RLess (⟨a_0, a_1, a_2, a_3, a_4⟩ : Ent) (⟨b_0, b_1, b_2, b_3, b_4⟩ : Ent))
    · exact (T.bad_some hr).elim
  · unfold F_RLess
    split
    · exact ⟨Nat.zero_le _, fun b hb hw => absurd hb (Nat.not_lt_zero b)⟩
    · trivial
noncomputable def sm_RLess : SumF := canonSum F_RLess
theorem sm_RLess_ok : SumOk Try.prog 20 sm_RLess := canonSum_ok sum_RLess
noncomputable def ss_RLess : List (Nat × SumF) := (20, sm_RLess) :: ss_Less
theorem ss_RLess_ok : ∀ x ∈ ss_RLess, SumOk Try.prog x.1 x.2 := List.forall_mem_cons.2 ⟨sm_RLess_ok, ss_Less_ok⟩
theorem tree_May (n : Int) : (tgt_May n).over .leaf =
  T.ret (out0 (SV.v (AI (if (if (4611686018427387903 : Int) < numI n then (4611686018427387903 : Int) else numI n) > (0 : Int) then if (4611686018427387903 : Int) < numI n then (4611686018427387903 : Int) else numI n else (0 : Int))))) := by kernel_rfl
theorem res_May (n : Int) : (tgt_May n).res = some (out0 (.v (AI (mayI n)))) := by
  refine T.over_eq _ (tree_May n) ?_
  simp only [T.res_br, T.res_ret, T.res_bad]
  refine congrArg (fun x => some (out0 (SV.v (AI x)))) ?_
  simp only [mayI]
  repeat' split
  all_goals omega
noncomputable def F_May : SumF
  | [.one (.f (.lit (.int .i64 n)))], [], 0 => .ret (out0 (.v (AI (mayI n))))
  | _, _, _ => .bad
theorem sum_May : SumOk Try.prog 51 F_May := by
  refine ⟨fun args H nx r hr => ?_, fun args H nx => ?_⟩
  · unfold F_May at hr
    split at hr
    · have := T.ret_some hr
      subst this
      exact evCallW_ok GOPA3 GKPA3 (res_May _)
    · exact (T.bad_some hr).elim
  · unfold F_May
    split
    · exact ⟨Nat.zero_le _, fun b hb hw => absurd hb (Nat.not_lt_zero b)⟩
    · trivial
noncomputable def sm_May : SumF := canonSum F_May
theorem sm_May_ok : SumOk Try.prog 51 sm_May := canonSum_ok sum_May
noncomputable def ss_May : List (Nat × SumF) := (51, sm_May) :: ss_RLess
theorem ss_May_ok : ∀ x ∈ ss_May, SumOk Try.prog x.1 x.2 := List.forall_mem_cons.2 ⟨sm_May_ok, ss_RLess_ok⟩
noncomputable def GPA4 : Ctx := GS.with ss_May ll0
noncomputable def tgt_Entry (a : Ent) : T CallOut := evCallW [] GPA4 300 37 [.agg a.cv] [] 0
theorem GKPA4 : KnownOk Try.prog GPA4 := KnownOk.lists ss_May_ok ll0_ok
theorem GOPA4 : CtxOk Try.prog GPA4 := GS_ok.with _ _
theorem tree_Entry (a : Ent) : (tgt_Entry a).over (.tt (.tt (.tt (.tt (.tt (.br .leaf .leaf)))))) =
  T.br (Ent.inc a % (19 : Int) == (18 : Int)) (T.ret (out0 (SV.v (AV.agg [I (Ent.inc a % (4 : Int)), I (Ent.st a % (3 : Int)), I (mayI (Ent.stamp a)), I (Ent.load a % (12 : Int)), Bo (Ent.dr a)]))))
    (T.ret (out0 (SV.v (AV.agg [I (Ent.inc a % (4 : Int)), I (Ent.st a % (3 : Int)), I (Ent.stamp a % (5 : Int)), I (Ent.load a % (12 : Int)), Bo (Ent.dr a)])))) := by kernel_rfl
theorem res_Entry (a : Ent) : (tgt_Entry a).res = some (out0 (.v (.agg (entR a).cv))) := by
  refine T.over_eq _ (tree_Entry a) ?_
  simp only [T.res_br, T.res_ret, T.res_bad]
  simp only [beq_iff_eq]
  by_cases h : a.inc % 19 = 18 <;> simp only [h, entR, if_true, if_false]
noncomputable def F_Entry : SumF
  | [.agg [.f (.lit (.int .i64 a_0)), .f (.lit (.int .i64 a_1)), .f (.lit (.int .i64 a_2)), .f (.lit (.int .i64 a_3)), .f (.lit (.bool a_4))]], [], 0 => .ret (out0 (.v (.agg (entR (⟨a_0, a_1, a_2, a_3, a_4⟩ : Ent)).cv)))
  | _, _, _ => .bad
theorem sum_Entry : SumOk Try.prog 37 F_Entry := by
  refine ⟨fun args H nx r hr => ?_, fun args H nx => ?_⟩
  · unfold F_Entry at hr
    split at hr
    · rename_i a_0 a_1 a_2 a_3 a_4
      have := T.ret_some hr
      subst this
      exact evCallW_ok GOPA4 GKPA4 (res_Entry (⟨a_0, a_1, a_2, a_3, a_4⟩ : Ent))
    · exact (T.bad_some hr).elim
  · unfold F_Entry
    split
    · exact ⟨Nat.zero_le _, fun b hb hw => absurd hb (Nat.not_lt_zero b)⟩
    · trivial
noncomputable def sm_Entry : SumF := canonSum F_Entry
theorem sm_Entry_ok : SumOk Try.prog 37 sm_Entry := canonSum_ok sum_Entry
noncomputable def ss_Entry : List (Nat × SumF) := (37, sm_Entry) :: ss_May
theorem ss_Entry_ok : ∀ x ∈ ss_Entry, SumOk Try.prog x.1 x.2 := List.forall_mem_cons.2 ⟨sm_Entry_ok, ss_May_ok⟩
end Go.Proofs.Ytdoehlinboiohaa.En
