/- HandBusy: all of it. -/
import Derived.Test.YtbobakclbdaepaaGreatBD
namespace Go.Proofs.YtbobakclbdaepaaGreat.En
open Go
set_option linter.unusedVariables false
set_option linter.unusedSimpArgs false
set_option maxRecDepth 20000
set_option maxHeartbeats 1000000
theorem from7_0 (a b c d : Int) (h : a % 3 = 0) : HT Tryz.prog Tryz.f3.ntmps (restC 7 hb) (S_sw a b c d true false 0 0 0 0 0) EndT := by
  exact HT.cutR GOBB2 GKBB2 (e := .ret) (st := ⟨[(8, .v (AB true))], [], 0, true, 0, []⟩) (T.over_eq _ (tree_B0 a b c d) (by simp only [T.res_br, T.res_ret, T.res_bad, bne_self_eq_false, h, beq_self_eq_true, Bool.false_eq_true, reduceIte])) (fun h => by cases h) (fun _ => ⟨.inr rfl, by kernel_rfl⟩)
theorem from7_1 (a b c d : Int) (h : a % 3 = 1) : HT Tryz.prog Tryz.f3.ntmps (restC 7 hb) (S_sw a b c d false true 2 0 0 0 0) EndT := by
  exact HT.cutR GOBB2 GKBB2 (e := .normal) (st := ⟨[(3, .v (AI d)), (10, .v (AP 0)), (11, .v (AP 4)), (12, .v tbV)], bzH false true 2 0 0 0 0, 6, true, 0, []⟩) (T.over_eq _ (tree_B1 a b c d) (by simp only [T.res_br, T.res_ret, T.res_bad, bne_self_eq_false, h, show ((1 : Int) == 0) = false from rfl, Bool.false_eq_true, reduceIte])) (fun _ => from11 d false true 2 0 0 0 0 (loop_R1 d)) (fun h => absurd rfl h)
theorem from7_2 (a b c d : Int) (h : a % 3 = 2) : HT Tryz.prog Tryz.f3.ntmps (restC 7 hb) (S_sw a b c d false false 0 1 2 9 1073741824) EndT := by
  exact HT.cutR GOBB2 GKBB2 (e := .normal) (st := ⟨[(3, .v (AI d)), (10, .v (AP 0)), (11, .v (AP 4)), (12, .v tbV)], bzH false false 0 1 2 9 1073741824, 6, true, 0, []⟩) (T.over_eq _ (tree_B2 a b c d) (by simp only [T.res_br, T.res_ret, T.res_bad, bne_self_eq_false, h, show ((2 : Int) == 0) = false from rfl, Bool.false_eq_true, reduceIte])) (fun _ => from11 d false false 0 1 2 9 1073741824 (loop_R2 d)) (fun h => absurd rfl h)

theorem all_busy (a b c d : Int) : HT Tryz.prog Tryz.f3.ntmps hb ⟨argSlots 0 [AI a, AI b, AI c, AI d], [], 0, false, 0, []⟩ EndT := by
  have h : a % 3 = 0 ∨ a % 3 = 1 ∨ a % 3 = 2 := by omega
  have e1 : ((1 : Int) == 0) = false := rfl
  have e2 : ((2 : Int) == 0) = false := rfl
  have e3 : ((2 : Int) == 1) = false := rfl
  rcases h with h | h | h
  · exact HT.cutR GOBA2 GKBA2 (e := .normal) (st := S_sw a b c d true false 0 0 0 0 0) (T.over_eq _ (tree_A a b c d) (by simp only [T.res_br, T.res_ret, T.res_bad, h, beq_self_eq_true, Bool.false_eq_true, reduceIte]; rfl)) (fun _ => from7_0 a b c d h) (fun h => absurd rfl h)
  · exact HT.cutR GOBA2 GKBA2 (e := .normal) (st := S_sw a b c d false true 2 0 0 0 0) (T.over_eq _ (tree_A a b c d) (by simp only [T.res_br, T.res_ret, T.res_bad, h, e1, beq_self_eq_true, Bool.false_eq_true, reduceIte]; rfl)) (fun _ => from7_1 a b c d h) (fun h => absurd rfl h)
  · exact HT.cutR GOBA2 GKBA2 (e := .normal) (st := S_sw a b c d false false 0 1 2 9 1073741824) (T.over_eq _ (tree_A a b c d) (by simp only [T.res_br, T.res_ret, T.res_bad, h, e2, e3, beq_self_eq_true, Bool.false_eq_true, reduceIte]; rfl)) (fun _ => from7_2 a b c d h) (fun h => absurd rfl h)
theorem busy_walk (w : World) (a b c d : Int) : Calls Tryz.prog 3 #[.int .i64 a, .int .i64 b, .int .i64 c, .int .i64 d] w fun e w' => e = .returned (.bool true) ∧ Go.RowKit.Below w.heap.size w w' :=
  law_ht (args := [AI a, AI b, AI c, AI d]) GOBD1 (by kernel_rfl) (by kernel_rfl) (show 4 ≤ Tryz.f3.ntmps from of_decide_eq_true (by kernel_rfl)) (RAs.cons (RF.lit _ rfl) (RAs.cons (RF.lit _ rfl) (RAs.cons (RF.lit _ rfl) (RAs.cons (RF.lit _ rfl) RAs.nil)))) (all_busy a b c d)

end Go.Proofs.YtbobakclbdaepaaGreat.En
