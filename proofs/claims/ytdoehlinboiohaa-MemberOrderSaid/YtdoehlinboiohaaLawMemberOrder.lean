/- MemberOrder returns true, whatever it is handed, and leaves what is there as it was. Proved: Rows.MemberOrderSaid. -/
import Derived.Test.YtdoehlinboiohaaRows
import Derived.Test.YtdoehlinboiohaaPD
import Derived.Test.YtdoehlinboiohaaF6
import Derived.WalkKit
import Derived.ProofKit
import Derived.OpenShut
import Derived.ShutString
import Derived.ChangeOld
import Derived.Below
import Derived.SizedLaws
import Derived.Carry
namespace Go.Proofs.Ytdoehlinboiohaa.memberOrder
open Go.ChangeShapes Go.WideShapes Go.ChangeAt Go.RowKit
open Go.ChangeMaps (open_string shut_string)
set_option linter.unusedVariables false
set_option linter.unusedSimpArgs false
theorem ent_of {w : World} {v : Value} (h : ∃ cs, v = .agg cs ∧ En.RShl w [.int .i64, .int .i64, .int .i64, .int .i64, .bool] cs.toList) : ∃ y : En.Ent, En.RA En.noFn 0 (En.zAll w) (.agg y.cv) v := by
  obtain ⟨⟨cs⟩, rfl, h⟩ := h
  simp only at h
  rcases cs with _ | ⟨u0, cs⟩
  · exact h.elim
  obtain ⟨⟨n0, e0, _⟩, h⟩ := h
  rcases cs with _ | ⟨u1, cs⟩
  · exact h.elim
  obtain ⟨⟨n1, e1, _⟩, h⟩ := h
  rcases cs with _ | ⟨u2, cs⟩
  · exact h.elim
  obtain ⟨⟨n2, e2, _⟩, h⟩ := h
  rcases cs with _ | ⟨u3, cs⟩
  · exact h.elim
  obtain ⟨⟨n3, e3, _⟩, h⟩ := h
  rcases cs with _ | ⟨u4, cs⟩
  · exact h.elim
  obtain ⟨⟨n4, e4⟩, h⟩ := h
  rcases cs with _ | ⟨_, _⟩
  rotate_left
  · exact h.elim
  subst e0 e1 e2 e3 e4
  refine ⟨⟨n0, n1, n2, n3, n4⟩, _, rfl, rfl, fun i x v hx hv => ?_⟩
  rcases i with _ | _ | _ | _ | _ | i
  all_goals first
    | (cases hx; cases hv; exact .lit _ rfl)
    | cases hx

theorem walk (W : World) (v0 : Value) (h0 : ∃ cs, v0 = .agg cs ∧ En.RShl W [.int .i64, .int .i64, .int .i64, .int .i64, .bool] cs.toList) (v1 : Value) (h1 : ∃ cs, v1 = .agg cs ∧ En.RShl W [.int .i64, .int .i64, .int .i64, .int .i64, .bool] cs.toList) (v2 : Value) (h2 : ∃ cs, v2 = .agg cs ∧ En.RShl W [.int .i64, .int .i64, .int .i64, .int .i64, .bool] cs.toList) : Calls Try.prog 3 #[v0, v1, v2] W fun e w' => e = .returned (.bool true) ∧ Go.RowKit.Below W.heap.size W w' := by
  obtain ⟨y0, hx0⟩ := ent_of h0
  obtain ⟨y1, hx1⟩ := ent_of h1
  obtain ⟨y2, hx2⟩ := ent_of h2
  exact En.law_true En.GOPD2 En.GKPD2 (En.RAs.cons (x := .agg (En.Ent.cv y0)) hx0 (En.RAs.cons (x := .agg (En.Ent.cv y1)) hx1 (En.RAs.cons (x := .agg (En.Ent.cv y2)) hx2 En.RAs.nil))) (En.res_MOrder y0 y1 y2)
theorem own : ownKnob Try.prog.godebug = none := by kernel_rfl
theorem laidOut : laidOutB Try.prog = true := by kernel_rfl
set_option maxRecDepth 100000 in
theorem lifted (os : Os) (started : os.Started) (H : Type) (enc : TypeId × Value → H) :
    ReturnsInHanded {} Try.checked os 3 .any (Rows.memberOrderSpec.pre6 enc Try.prog Try.f3 Rows.memberOrderRow.domain false) (Rows.memberOrderSpec.post enc Try.prog Try.f3 false true false false) := by
  refine returnsInHanded_of_change_sized (C := Try.checked) own started (by kernel_rfl) Try.func3
    (ChangeSpec.witness6 (enc := enc) (C := Try.checked) false ⟨#[], #[.agg #[.int .i64 0, .int .i64 0, .int .i64 0, .int .i64 0, .bool false], .agg #[.int .i64 0, .int .i64 0, .int .i64 0, .int .i64 0, .bool false], .agg #[.int .i64 0, .int .i64 0, .int .i64 0, .int .i64 0, .bool false]], []⟩ 8 (by kernel_rfl) (by kernel_rfl) (by kernel_rfl) (by kernel_rfl)) ?_
  intro W base args ds gs before hval0 hW hcnd hsz0 _
  have hval : ∀ (j : Nat) t v, Try.f3.params[j]? = some t → args[j]? = some v → Value.okWide Try.prog W .any base t v := hval0
  have hW' := hW
  obtain ⟨p, q, hA0, hV, rfl, hfz, hnd⟩ := hW
  have hA : DataW.TrodAll enc Try.prog W 0 (fun _ => true) true Try.f3.params.toList args.toList ds p := hA0
  rw [Try.params3] at hA hval
  obtain ⟨v0, vs0, d0, ds0, p0, q0, hargs, rfl, rfl, h0, r0⟩ := trodAll_cons hA
  obtain ⟨v1, vs1, d1, ds1, p1, q1, rfl, rfl, rfl, h1, r1⟩ := trodAll_cons r0
  obtain ⟨v2, vs2, d2, ds2, p2, q2, rfl, rfl, rfl, h2, r2⟩ := trodAll_cons r1
  obtain ⟨rfl, rfl, rfl⟩ := trodAll_nil r2
  obtain rfl : args = #[v0, v1, v2] := by cases args; simp_all
  obtain ⟨rfl, rfl⟩ := trodVars_none hV
  have hlt0 : ∀ x ∈ p0, x.block < W.heap.size := fun x hx => hW'.lt x (by simp [hx])
  have h0k := h0
  have hs0 : ∃ cs, v0 = .agg cs ∧ En.RShl W [.int .i64, .int .i64, .int .i64, .int .i64, .bool] cs.toList := by
    obtain ⟨cs, rfl, _⟩ := okWide_struct Try.underlying23 (hval 0 23 v0 rfl rfl)
    obtain ⟨fuel, hf⟩ := h0
    exact ⟨cs, rfl, En.shape_read 20 23 _ (by kernel_rfl) _ _ _ hf⟩
  have hlt1 : ∀ x ∈ p1, x.block < W.heap.size := fun x hx => hW'.lt x (by simp [hx])
  have h1k := h1
  have hs1 : ∃ cs, v1 = .agg cs ∧ En.RShl W [.int .i64, .int .i64, .int .i64, .int .i64, .bool] cs.toList := by
    obtain ⟨cs, rfl, _⟩ := okWide_struct Try.underlying23 (hval 1 23 v1 rfl rfl)
    obtain ⟨fuel, hf⟩ := h1
    exact ⟨cs, rfl, En.shape_read 20 23 _ (by kernel_rfl) _ _ _ hf⟩
  have hlt2 : ∀ x ∈ p2, x.block < W.heap.size := fun x hx => hW'.lt x (by simp [hx])
  have h2k := h2
  have hs2 : ∃ cs, v2 = .agg cs ∧ En.RShl W [.int .i64, .int .i64, .int .i64, .int .i64, .bool] cs.toList := by
    obtain ⟨cs, rfl, _⟩ := okWide_struct Try.underlying23 (hval 2 23 v2 rfl rfl)
    obtain ⟨fuel, hf⟩ := h2
    exact ⟨cs, rfl, En.shape_read 20 23 _ (by kernel_rfl) _ _ _ hf⟩
  clear hA0 hval0 hsz0
  refine (walk W _ hs0 _ hs1 _ hs2).mono fun e W' ⟨he, bel⟩ => ?_
  subst he
  exact ⟨_, rfl, _, _, _, [], _, [], hW', trodAll_mk1 (shut_bool Try.underlying4 _), (trodAll_cons_mk (Below.trod laidOut (by kernel_rfl) (of_decide_eq_true (by kernel_rfl)) h0k bel hlt0) (trodAll_cons_mk (Below.trod laidOut (by kernel_rfl) (of_decide_eq_true (by kernel_rfl)) h1k bel hlt1) (trodAll_cons_mk (Below.trod laidOut (by kernel_rfl) (of_decide_eq_true (by kernel_rfl)) h2k bel hlt2) trodAll_mk0))), rfl, bel.frame _, fun h => by cases h⟩
theorem over : Rows.memberOrderRow.holds Try.pinned (OpenSpec.ofChange Rows.memberOrderSpec) :=
  OpenClaim.holds_of_wide 3 Try.f3 rfl rfl rfl rfl rfl rfl rfl ⟨rfl, rfl, rfl, rfl, rfl⟩ rfl rfl rfl rfl rfl (by kernel_rfl) Try.func3 (by kernel_rfl)
    (of_decide_eq_true (by kernel_rfl)) (by unfold Func.isWrapper; first | (rw [if_pos (by decide +kernel)]; kernel_rfl) | (rw [if_neg (by decide +kernel)]; exact ⟨rfl, rfl⟩))
    (fun os started H enc _ => lifted os started H enc)
end Go.Proofs.Ytdoehlinboiohaa.memberOrder
namespace Go.Proofs.Ytdoehlinboiohaa
/-- The row, under a short name, for the claim. -/
theorem memberOrder_holds : Rows.MemberOrderSaid := memberOrder.over
#print axioms memberOrder_holds
end Go.Proofs.Ytdoehlinboiohaa
