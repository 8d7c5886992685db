/- HandBusy: ahead of its loop. -/
import Derived.Test.YtbobakclbdaepaaGreatF17
import Derived.Test.YtbobakclbdaepaaGreatED
namespace Go.Proofs.YtbobakclbdaepaaGreat.En
open Go
set_option linter.unusedVariables false
set_option linter.unusedSimpArgs false
set_option maxRecDepth 20000
set_option maxHeartbeats 1000000
noncomputable def ss0 : List (Nat × SumF) := []
noncomputable def ll0 : List (Nat × Nat × LoopF) := []
theorem ss0_ok : ∀ x ∈ ss0, SumOk Tryz.prog x.1 x.2 := fun x h => absurd h List.not_mem_nil
theorem ll0_ok : ∀ x ∈ ll0, LoopOk Tryz.prog x.2.2 := fun x h => absurd h List.not_mem_nil
theorem pick_eq (n m : Int) (h : 0 < m) : n % m = if n.tmod m < 0 then n.tmod m + m else n.tmod m := by
  have h1 := Int.emod_nonneg n (by omega : m ≠ 0)
  have h2 := Int.emod_lt_of_pos n h
  rw [Int.tmod_eq_emod]
  split <;> split <;> omega

noncomputable def GBA1 : Ctx := GS.with ss0 ll0
noncomputable def tgt_Pick (n m : Int) : T CallOut := evCallW [] GBA1 300 7 [AI n, AI m] [] 0
theorem GKBA1 : KnownOk Tryz.prog GBA1 := KnownOk.lists ss0_ok ll0_ok
theorem GOBA1 : CtxOk Tryz.prog GBA1 := GS_ok.with _ _
theorem tree_Pick (n m : Int) : (tgt_Pick n m).over (.br .skip (.br .leaf .leaf)) =
  T.br (decide (m = (0 : Int))) T.bad (T.br (decide (Int.tmod n m < (0 : Int))) (T.ret (out0 (SV.v (AI (IntKind.wrap IntKind.i64 (Int.tmod n m + m)))))) (T.ret (out0 (SV.v (AI (Int.tmod n m)))))) := by kernel_rfl
theorem res_Pick (n m : Int) (h : 0 < m ∧ m ≤ 9223372036854775807) : (tgt_Pick n m).res = some (out0 (.v (AI (n % m)))) := by
  refine T.over_eq _ (tree_Pick n m) ?_
  simp only [T.res_br, T.res_ret, T.res_bad]
  have h0 : decide (m = 0) = false := by simp; omega
  have h1 := Int.tmod_lt_of_pos n h.1
  have h2 : -m < n.tmod m := by have := Int.lt_tmod_of_pos n h.1; omega
  rw [h0, pick_eq n m h.1]
  simp only [Bool.false_eq_true, if_false, decide_eq_true_eq]
  split
  · rw [wrapI (by omega)]
  · rfl
noncomputable def F_Pick : SumF
  | [.one (.f (.lit (.int .i64 n))), .one (.f (.lit (.int .i64 m)))], [], 0 => .need (decide (0 < m ∧ m ≤ 9223372036854775807)) (.ret (out0 (.v (AI (n % m)))))
  | _, _, _ => .bad
theorem sum_Pick : SumOk Tryz.prog 7 F_Pick := by
  refine ⟨fun args H nx r hr => ?_, fun args H nx => ?_⟩
  · unfold F_Pick at hr
    split at hr
    · obtain ⟨h, hr⟩ := T.need_some hr
      have := T.ret_some hr
      subst this
      exact evCallW_ok GOBA1 GKBA1 (res_Pick _ _ (of_decide_eq_true h))
    · exact (T.bad_some hr).elim
  · unfold F_Pick
    split
    · exact T.Every.need ⟨Nat.zero_le _, fun b hb hw => absurd hb (Nat.not_lt_zero b)⟩
    · trivial
noncomputable def sm_Pick : SumF := canonSum F_Pick
theorem sm_Pick_ok : SumOk Tryz.prog 7 sm_Pick := canonSum_ok sum_Pick
noncomputable def ss_Pick : List (Nat × SumF) := (7, sm_Pick) :: ss0
theorem ss_Pick_ok : ∀ x ∈ ss_Pick, SumOk Tryz.prog x.1 x.2 := List.forall_mem_cons.2 ⟨sm_Pick_ok, ss0_ok⟩
theorem run_known : ((evCall GC noLive 2000 6 [] [] 0).bind fun o => match o.v with | .v (.one (.f (.lit (.bool b)))) => .ret b | _ => .bad).res = some true := by kernel_rfl
theorem to_known : CallTo Tryz.prog 6 [] [] 0 (out0 (.v (AB true))) := truth_to (fun w => calls_true GC_ok KnownOk.nothing (z := noZ) ⟨fun k o v h => by cases h⟩ RAs.nil run_known) [] 0

noncomputable def F_known : SumF
  | [], [], 0 => .ret (out0 (.v (AB true)))
  | _, _, _ => .bad
theorem sum_known : SumOk Tryz.prog 6 F_known := by
  refine ⟨fun args H nx r hr => ?_, fun args H nx => ?_⟩
  · unfold F_known at hr
    split at hr
    · have := T.ret_some hr
      subst this
      exact to_known
    · exact (T.bad_some hr).elim
  · unfold F_known
    split
    · exact ⟨Nat.zero_le _, fun b hb hw => absurd hb (Nat.not_lt_zero b)⟩
    · trivial
noncomputable def sm_known : SumF := canonSum F_known
theorem sm_known_ok : SumOk Tryz.prog 6 sm_known := canonSum_ok sum_known
noncomputable def ss_known : List (Nat × SumF) := (6, sm_known) :: ss_Pick
theorem ss_known_ok : ∀ x ∈ ss_known, SumOk Tryz.prog x.1 x.2 := List.forall_mem_cons.2 ⟨sm_known_ok, ss_Pick_ok⟩
noncomputable def GBA2 : Ctx := GS.with ss_known ll0
noncomputable def tgt_A (a b c d : Int) : T (Ex × St) := evCutR GBA2 2000 3 Tryz.f3.ntmps 7 (bodyOf Tryz.f3) 0 [0, 1, 2, 3, 10, 11, 12] [8] (⟨argSlots 0 [AI a, AI b, AI c, AI d], [], 0, false, 0, []⟩)
theorem GKBA2 : KnownOk Tryz.prog GBA2 := KnownOk.lists ss_known_ok ll0_ok
theorem GOBA2 : CtxOk Tryz.prog GBA2 := GS_ok.with _ _
theorem tree_A (a b c d : Int) : (tgt_A a b c d).over (.tt (.tt (.tt (.tt (.tt (.tt (.tt (.tt (.tt (.tt (.tt (.tt (.ff (.ff (.ff (.ff (.ff (.ff (.ff (.ff (.ff (.tt (.tt (.tt (.tt (.tt (.tt (.tt (.tt (.tt (.tt (.tt (.tt (.ff (.tt (.ff (.tt (.ff (.tt (.tt (.ff (.tt (.ff (.ff (.tt (.tt (.tt (.ff (.tt (.ff (.ff (.tt (.tt (.tt (.ff (.tt (.ff (.ff (.tt (.tt (.tt (.ff (.tt (.ff (.ff (.tt (.tt (.tt (.ff (.tt (.ff (.ff (.tt (.tt (.ff (.ff (.tt (.ff (.ff (.tt (.tt (.tt (.tt (.ff (.tt (.tt (.tt (.tt (.tt (.tt (.ff (.ff (.tt (.tt (.tt (.tt (.tt (.ff (.tt (.ff (.tt (.tt (.tt (.ff (.ff (.tt (.ff (.tt (.tt (.tt (.ff (.ff (.ff (.tt (.tt (.ff (.ff (.tt (.ff (.ff (.ff (.tt (.tt (.tt (.tt (.ff (.ff (.ff (.ff (.tt (.ff (.tt (.tt (.tt (.ff (.ff (.ff (.ff (.ff (.tt (.ff (.ff (.ff (.ff (.ff (.ff (.tt (.br (.ff (.tt (.ff (.ff (.ff (.ff (.ff .leaf))))))) (.br (.ff (.ff (.ff (.tt (.ff (.ff (.ff (.ff (.tt (.ff (.ff (.ff (.tt (.ff (.ff (.ff (.ff (.ff (.ff (.ff (.ff (.ff (.ff (.ff (.ff (.ff (.ff (.ff (.ff (.ff (.ff (.ff (.ff (.ff (.ff (.ff (.tt (.tt (.tt (.tt (.tt (.tt (.tt (.tt (.tt (.tt (.tt (.tt (.tt (.tt (.ff (.ff (.ff .leaf))))))))))))))))))))))))))))))))))))))))))))))))))))) (.br (.ff (.ff (.ff (.ff (.ff (.ff (.ff (.ff (.ff .leaf))))))))) .leaf)))))))))))))))))))))))))))))))))))))))))))))))))))))))))))))))))))))))))))))))))))))))))))))))))))))))))))))))))))))))))))))))))))))))))))))))))))))) =
  T.br (a % (3 : Int) == (0 : Int)) (T.ret (Ex.normal, { sl := [((0 : Nat), SV.v (AI a)), ((1 : Nat), SV.v (AI b)), ((2 : Nat), SV.v (AI c)), ((3 : Nat), SV.v (AI d)), ((10 : Nat), SV.v (AP (0 : Nat))), ((11 : Nat), SV.v (AP (4 : Nat))), ((12 : Nat), SV.v (AV.one (CV.sl false (5 : Nat) (0 : Nat) (0 : Nat) (0 : Nat) (3 : Nat) (3 : Nat) true (5 : Nat))))], H := [((0 : Nat), Ob.cells [I (3 : Int), CV.sl false (1 : Nat) (0 : Nat) (0 : Nat) (0 : Nat) (6 : Nat) (6 : Nat) false (2 : Nat), I (0 : Int), Bo true, I (0 : Int), I (3 : Int), Proofs.YtbobakclbdaepaaGreat.En.Ptr (2 : Nat), CV.f (FV.lit (Value.pointer none)), CV.f (FV.lit (Value.pointer none)), Proofs.YtbobakclbdaepaaGreat.En.Ptr (3 : Nat), CV.f (FV.lit (Value.pointer none)), CV.f (FV.lit (Value.pointer none))]), ((1 : Nat), Ob.cells [I (1 : Int), I (0 : Int), I (1 : Int), I (1 : Int), I (1 : Int), I (2 : Int), I (1 : Int), I (0 : Int), I (1 : Int), I (1 : Int), I (1 : Int), I (2 : Int)]), ((2 : Nat), Ob.cells [Nil, I (0 : Int), I (0 : Int), I (0 : Int), Sg { data := #[] : ByteArray }, I (0 : Int), I (0 : Int), I (0 : Int), Sg { data := #[] : ByteArray }, I (0 : Int), I (0 : Int), I (0 : Int), Sg { data := #[] : ByteArray }, I (0 : Int), I (0 : Int), I (0 : Int), Sg { data := #[] : ByteArray }, I (0 : Int), I (1 : Int), Bo false, I (0 : Int)]), ((3 : Nat), Ob.cells [Nil, I (0 : Int), I (0 : Int), I (0 : Int), Sg { data := #[] : ByteArray }, I (0 : Int), I (0 : Int), I (0 : Int), Sg { data := #[] : ByteArray }, I (0 : Int), I (0 : Int), I (0 : Int), Sg { data := #[] : ByteArray }, I (0 : Int), I (0 : Int), I (0 : Int), Sg { data := #[] : ByteArray }, I (3 : Int), I (1 : Int), Bo false, I (0 : Int)]), ((4 : Nat), Ob.cells [I (0 : Int), I (0 : Int), I (0 : Int), I (0 : Int), I (0 : Int), I (0 : Int), I (0 : Int)]), ((5 : Nat), Ob.cells [I (0 : Int), I (0 : Int), I (0 : Int), I (2 : Int), Bo false, I (0 : Int), I (0 : Int), I (0 : Int), I (0 : Int), Bo false, I (0 : Int), I (0 : Int), I (0 : Int), I (0 : Int), Bo false])], nx := (6 : Nat), esc := true, base := (0 : Nat), wr := [] : St })) (T.br (a % (3 : Int) == (1 : Int)) (T.ret (Ex.normal, { sl := [((0 : Nat), SV.v (AI a)), ((1 : Nat), SV.v (AI b)), ((2 : Nat), SV.v (AI c)), ((3 : Nat), SV.v (AI d)), ((10 : Nat), SV.v (AP (0 : Nat))), ((11 : Nat), SV.v (AP (4 : Nat))), ((12 : Nat), SV.v (AV.one (CV.sl false (5 : Nat) (0 : Nat) (0 : Nat) (0 : Nat) (3 : Nat) (3 : Nat) true (5 : Nat))))], H := [((0 : Nat), Ob.cells [I (3 : Int), CV.sl false (1 : Nat) (0 : Nat) (0 : Nat) (0 : Nat) (6 : Nat) (6 : Nat) false (2 : Nat), I (0 : Int), Bo false, I (0 : Int), I (3 : Int), Proofs.YtbobakclbdaepaaGreat.En.Ptr (2 : Nat), CV.f (FV.lit (Value.pointer none)), CV.f (FV.lit (Value.pointer none)), Proofs.YtbobakclbdaepaaGreat.En.Ptr (3 : Nat), CV.f (FV.lit (Value.pointer none)), CV.f (FV.lit (Value.pointer none))]), ((1 : Nat), Ob.cells [I (1 : Int), I (0 : Int), I (1 : Int), I (1 : Int), I (1 : Int), I (2 : Int), I (1 : Int), I (0 : Int), I (1 : Int), I (1 : Int), I (1 : Int), I (2 : Int)]), ((2 : Nat), Ob.cells [Nil, I (0 : Int), I (0 : Int), I (0 : Int), Sg { data := #[] : ByteArray }, I (0 : Int), I (0 : Int), I (0 : Int), Sg { data := #[] : ByteArray }, I (0 : Int), I (0 : Int), I (0 : Int), Sg { data := #[] : ByteArray }, I (0 : Int), I (0 : Int), I (0 : Int), Sg { data := #[] : ByteArray }, I (0 : Int), I (1 : Int), Bo false, I (0 : Int)]), ((3 : Nat), Ob.cells [Nil, I (0 : Int), I (0 : Int), I (0 : Int), Sg { data := #[] : ByteArray }, I (0 : Int), I (0 : Int), I (0 : Int), Sg { data := #[] : ByteArray }, I (0 : Int), I (0 : Int), I (0 : Int), Sg { data := #[] : ByteArray }, I (0 : Int), I (0 : Int), I (0 : Int), Sg { data := #[] : ByteArray }, I (3 : Int), I (1 : Int), Bo true, I (2 : Int)]), ((4 : Nat), Ob.cells [I (0 : Int), I (0 : Int), I (0 : Int), I (0 : Int), I (0 : Int), I (0 : Int), I (0 : Int)]), ((5 : Nat), Ob.cells [I (0 : Int), I (0 : Int), I (0 : Int), I (2 : Int), Bo false, I (0 : Int), I (0 : Int), I (0 : Int), I (0 : Int), Bo false, I (0 : Int), I (0 : Int), I (0 : Int), I (0 : Int), Bo false])], nx := (6 : Nat), esc := true, base := (0 : Nat), wr := [] : St })) (T.br (a % (3 : Int) == (2 : Int)) (T.ret (Ex.normal, { sl := [((0 : Nat), SV.v (AI a)), ((1 : Nat), SV.v (AI b)), ((2 : Nat), SV.v (AI c)), ((3 : Nat), SV.v (AI d)), ((10 : Nat), SV.v (AP (0 : Nat))), ((11 : Nat), SV.v (AP (4 : Nat))), ((12 : Nat), SV.v (AV.one (CV.sl false (5 : Nat) (0 : Nat) (0 : Nat) (0 : Nat) (3 : Nat) (3 : Nat) true (5 : Nat))))], H := [((0 : Nat), Ob.cells [I (3 : Int), CV.sl false (1 : Nat) (0 : Nat) (0 : Nat) (0 : Nat) (6 : Nat) (6 : Nat) false (2 : Nat), I (0 : Int), Bo false, I (0 : Int), I (3 : Int), Proofs.YtbobakclbdaepaaGreat.En.Ptr (2 : Nat), CV.f (FV.lit (Value.pointer none)), CV.f (FV.lit (Value.pointer none)), Proofs.YtbobakclbdaepaaGreat.En.Ptr (3 : Nat), CV.f (FV.lit (Value.pointer none)), CV.f (FV.lit (Value.pointer none))]), ((1 : Nat), Ob.cells [I (1 : Int), I (0 : Int), I (1 : Int), I (1 : Int), I (1 : Int), I (2 : Int), I (1 : Int), I (0 : Int), I (1 : Int), I (1 : Int), I (1 : Int), I (2 : Int)]), ((2 : Nat), Ob.cells [Nil, I (0 : Int), I (0 : Int), I (0 : Int), Sg { data := #[] : ByteArray }, I (0 : Int), I (0 : Int), I (0 : Int), Sg { data := #[] : ByteArray }, I (0 : Int), I (0 : Int), I (0 : Int), Sg { data := #[] : ByteArray }, I (0 : Int), I (0 : Int), I (0 : Int), Sg { data := #[] : ByteArray }, I (0 : Int), I (1 : Int), Bo false, I (0 : Int)]), ((3 : Nat), Ob.cells [Nil, I (0 : Int), I (0 : Int), I (0 : Int), Sg { data := #[] : ByteArray }, I (0 : Int), I (0 : Int), I (0 : Int), Sg { data := #[] : ByteArray }, I (0 : Int), I (0 : Int), I (0 : Int), Sg { data := #[] : ByteArray }, I (0 : Int), I (0 : Int), I (0 : Int), Sg { data := #[] : ByteArray }, I (3 : Int), I (1 : Int), Bo false, I (0 : Int)]), ((4 : Nat), Ob.cells [I (1 : Int), I (2 : Int), I (9 : Int), I (0 : Int), I (1073741824 : Int), I (0 : Int), I (0 : Int)]), ((5 : Nat), Ob.cells [I (0 : Int), I (0 : Int), I (0 : Int), I (2 : Int), Bo false, I (0 : Int), I (0 : Int), I (0 : Int), I (0 : Int), Bo false, I (0 : Int), I (0 : Int), I (0 : Int), I (0 : Int), Bo false])], nx := (6 : Nat), esc := true, base := (0 : Nat), wr := [] : St })) (T.ret (Ex.normal, { sl := [((0 : Nat), SV.v (AI a)), ((1 : Nat), SV.v (AI b)), ((2 : Nat), SV.v (AI c)), ((3 : Nat), SV.v (AI d)), ((10 : Nat), SV.v (AP (0 : Nat))), ((11 : Nat), SV.v (AP (4 : Nat))), ((12 : Nat), SV.v (AV.one (CV.sl false (5 : Nat) (0 : Nat) (0 : Nat) (0 : Nat) (3 : Nat) (3 : Nat) true (5 : Nat))))], H := [((0 : Nat), Ob.cells [I (3 : Int), CV.sl false (1 : Nat) (0 : Nat) (0 : Nat) (0 : Nat) (6 : Nat) (6 : Nat) false (2 : Nat), I (0 : Int), Bo false, I (0 : Int), I (3 : Int), Proofs.YtbobakclbdaepaaGreat.En.Ptr (2 : Nat), CV.f (FV.lit (Value.pointer none)), CV.f (FV.lit (Value.pointer none)), Proofs.YtbobakclbdaepaaGreat.En.Ptr (3 : Nat), CV.f (FV.lit (Value.pointer none)), CV.f (FV.lit (Value.pointer none))]), ((1 : Nat), Ob.cells [I (1 : Int), I (0 : Int), I (1 : Int), I (1 : Int), I (1 : Int), I (2 : Int), I (1 : Int), I (0 : Int), I (1 : Int), I (1 : Int), I (1 : Int), I (2 : Int)]), ((2 : Nat), Ob.cells [Nil, I (0 : Int), I (0 : Int), I (0 : Int), Sg { data := #[] : ByteArray }, I (0 : Int), I (0 : Int), I (0 : Int), Sg { data := #[] : ByteArray }, I (0 : Int), I (0 : Int), I (0 : Int), Sg { data := #[] : ByteArray }, I (0 : Int), I (0 : Int), I (0 : Int), Sg { data := #[] : ByteArray }, I (0 : Int), I (1 : Int), Bo false, I (0 : Int)]), ((3 : Nat), Ob.cells [Nil, I (0 : Int), I (0 : Int), I (0 : Int), Sg { data := #[] : ByteArray }, I (0 : Int), I (0 : Int), I (0 : Int), Sg { data := #[] : ByteArray }, I (0 : Int), I (0 : Int), I (0 : Int), Sg { data := #[] : ByteArray }, I (0 : Int), I (0 : Int), I (0 : Int), Sg { data := #[] : ByteArray }, I (3 : Int), I (1 : Int), Bo false, I (0 : Int)]), ((4 : Nat), Ob.cells [I (0 : Int), I (0 : Int), I (0 : Int), I (0 : Int), I (0 : Int), I (0 : Int), I (0 : Int)]), ((5 : Nat), Ob.cells [I (0 : Int), I (0 : Int), I (0 : Int), I (2 : Int), Bo false, I (0 : Int), I (0 : Int), I (0 : Int), I (0 : Int), Bo false, I (0 : Int), I (0 : Int), I (0 : Int), I (0 : Int), Bo false])], nx := (6 : Nat), esc := true, base := (0 : Nat), wr := [] : St })))) := by kernel_rfl
end Go.Proofs.YtbobakclbdaepaaGreat.En
