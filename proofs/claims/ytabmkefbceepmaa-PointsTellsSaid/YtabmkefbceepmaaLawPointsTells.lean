/- PointsTells returns true, whatever it is handed, and leaves what is there as it was. Proved: Rows.PointsTellsSaid. -/
import Derived.Test.YtabmkefbceepmaaRows
import Derived.Test.YtabmkefbceepmaaPJ
import Derived.Test.YtabmkefbceepmaaF6
import Derived.WalkKit
import Derived.ProofKit
import Derived.OpenShut
import Derived.ShutString
import Derived.ChangeOld
import Derived.Below
import Derived.SizedLaws
import Derived.Carry
namespace Go.Proofs.Ytabmkefbceepmaa.pointsTells
open Go.ChangeShapes Go.WideShapes Go.ChangeAt Go.RowKit
open Go.ChangeMaps (open_string shut_string)
set_option linter.unusedVariables false
set_option linter.unusedSimpArgs false
instance : Inhabited En.Raw17 := ⟨⟨0, 0, 0⟩⟩
theorem raw17_of {w : World} {k o : Nat} (h : En.RShs w [.int .i64, .int .i64, .int .i64] k o) :
    ∃ a : En.Raw17, ∀ (j : Nat) y, a.fs[j]? = some y → ∃ u, w.cell? ⟨k, o + j, none⟩ = some u ∧ En.RF (En.zAll w) y u := by
  obtain ⟨⟨u0, c0, n0, rfl, _⟩, ⟨u1, c1, n1, rfl, _⟩, ⟨u2, c2, n2, rfl, _⟩, _⟩ := h
  refine ⟨⟨n0, n1, n2⟩, fun j y hy => ?_⟩
  match j, hy with
  | 0, hy => cases hy; exact ⟨_, c0, .lit _ rfl⟩
  | 1, hy => cases hy; exact ⟨_, c1, .lit _ rfl⟩
  | 2, hy => cases hy; exact ⟨_, c2, .lit _ rfl⟩
  | j + 3, hy => simp [En.Raw17.fs] at hy

theorem walk (W : World) (a0 : Int) (w0 : (Lit.int .i64 a0).wf = true) (a1 : Int) (w1 : (Lit.int .i64 a1).wf = true) (v2 : Value) (h2 : En.RSh W (.sl 3 [.int .i64, .int .i64, .int .i64]) v2) : Calls Try.prog 9 #[.int .i64 a0, .int .i64 a1, v2] W fun e w' => e = .returned (.bool true) ∧ Go.RowKit.Below W.heap.size W w' := by
  obtain ⟨nl2, n2, x2, hx2, hn2, hm2, _⟩ := En.slice_arg (fs := En.Raw17.fs) (fun _ => rfl) (fun k o h => raw17_of h) h2
  exact En.law_true (En.GS_ok.with _ _) En.GKPJ2 (En.RAs.cons (x := .one (.f (.lit (.int .i64 a0)))) (En.RF.lit _ rfl) (En.RAs.cons (x := .one (.f (.lit (.int .i64 a1)))) (En.RF.lit _ rfl) (En.RAs.cons (x := .one (.f (.fs nl2 3 n2 fun i => En.Raw17.fs (x2 i)))) hx2 En.RAs.nil))) (En.res_PTells a0 a1 nl2 n2 x2 ⟨by have := hm2; simp only [maxLen] at this; omega, hn2⟩)
theorem own : ownKnob Try.prog.godebug = none := by kernel_rfl
theorem laidOut : laidOutB Try.prog = true := by kernel_rfl
set_option maxRecDepth 100000 in
theorem lifted (os : Os) (started : os.Started) (H : Type) (enc : TypeId × Value → H) :
    ReturnsInHanded {} Try.checked os 9 .any (Rows.pointsTellsSpec.pre6 enc Try.prog Try.f9 Rows.pointsTellsRow.domain false) (Rows.pointsTellsSpec.post enc Try.prog Try.f9 false true false false) := by
  refine returnsInHanded_of_change_sized (C := Try.checked) own started (by kernel_rfl) Try.func9
    (ChangeSpec.witness6 (enc := enc) (C := Try.checked) false ⟨#[], #[.int .i64 0, .int .i64 0, .slice none 0 0], []⟩ 8 (by kernel_rfl) (by kernel_rfl) (by kernel_rfl) (by kernel_rfl)) ?_
  intro W base args ds gs before hval0 hW hcnd hsz0 _
  have hval : ∀ (j : Nat) t v, Try.f9.params[j]? = some t → args[j]? = some v → Value.okWide Try.prog W .any base t v := hval0
  have hW' := hW
  obtain ⟨p, q, hA0, hV, rfl, hfz, hnd⟩ := hW
  have hA : DataW.TrodAll enc Try.prog W 0 (fun _ => true) true Try.f9.params.toList args.toList ds p := hA0
  rw [Try.params9] at hA hval
  obtain ⟨v0, vs0, d0, ds0, p0, q0, hargs, rfl, rfl, h0, r0⟩ := trodAll_cons hA
  obtain ⟨v1, vs1, d1, ds1, p1, q1, rfl, rfl, rfl, h1, r1⟩ := trodAll_cons r0
  obtain ⟨v2, vs2, d2, ds2, p2, q2, rfl, rfl, rfl, h2, r2⟩ := trodAll_cons r1
  obtain ⟨rfl, rfl, rfl⟩ := trodAll_nil r2
  obtain rfl : args = #[v0, v1, v2] := by cases args; simp_all
  obtain ⟨rfl, rfl⟩ := trodVars_none hV
  have hlt0 : ∀ x ∈ p0, x.block < W.heap.size := fun x hx => hW'.lt x (by simp [hx])
  have h0k := h0
  obtain ⟨a0, rfl, _, _, w0⟩ := open_int Try.underlying3 (hval 0 3 v0 rfl rfl) h0
  have hlt1 : ∀ x ∈ p1, x.block < W.heap.size := fun x hx => hW'.lt x (by simp [hx])
  have h1k := h1
  obtain ⟨a1, rfl, _, _, w1⟩ := open_int Try.underlying3 (hval 1 3 v1 rfl rfl) h1
  have hlt2 : ∀ x ∈ p2, x.block < W.heap.size := fun x hx => hW'.lt x (by simp [hx])
  have h2k := h2
  obtain ⟨s2, len2, cap2, rfl⟩ := okWide_slice Try.underlying79 (hval 2 79 v2 rfl rfl)
  obtain ⟨fuel2, hf2⟩ := h2
  have hs2 := (En.shape_read 20 79 [.sl 3 [.int .i64, .int .i64, .int .i64]] (by kernel_rfl) _ _ _ hf2).1
  clear hA0 hval0 hsz0
  refine (walk W a0 w0 a1 w1 _ hs2).mono fun e W' ⟨he, bel⟩ => ?_
  subst he
  exact ⟨_, rfl, _, _, _, [], _, [], hW', trodAll_mk1 (shut_bool Try.underlying4 _), (trodAll_cons_mk (Below.trod laidOut (by kernel_rfl) (of_decide_eq_true (by kernel_rfl)) h0k bel hlt0) (trodAll_cons_mk (Below.trod laidOut (by kernel_rfl) (of_decide_eq_true (by kernel_rfl)) h1k bel hlt1) (trodAll_cons_mk (Below.trod laidOut (by kernel_rfl) (of_decide_eq_true (by kernel_rfl)) h2k bel hlt2) trodAll_mk0))), rfl, bel.frame _, fun h => by cases h⟩
theorem over : Rows.pointsTellsRow.holds Try.pinned (OpenSpec.ofChange Rows.pointsTellsSpec) :=
  OpenClaim.holds_of_wide 9 Try.f9 rfl rfl rfl rfl rfl rfl rfl ⟨rfl, rfl, rfl, rfl, rfl⟩ rfl rfl rfl rfl rfl (by kernel_rfl) Try.func9 (by kernel_rfl)
    (of_decide_eq_true (by kernel_rfl)) (by unfold Func.isWrapper; first | (rw [if_pos (by decide +kernel)]; kernel_rfl) | (rw [if_neg (by decide +kernel)]; exact ⟨rfl, rfl⟩))
    (fun os started H enc _ => lifted os started H enc)
end Go.Proofs.Ytabmkefbceepmaa.pointsTells
namespace Go.Proofs.Ytabmkefbceepmaa
/-- The row, under a short name, for the claim. -/
theorem pointsTells_holds : Rows.PointsTellsSaid := pointsTells.over
#print axioms pointsTells_holds
end Go.Proofs.Ytabmkefbceepmaa
