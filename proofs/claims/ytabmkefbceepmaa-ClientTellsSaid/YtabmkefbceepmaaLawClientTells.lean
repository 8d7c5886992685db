/- ClientTells returns true, whatever it is handed, and leaves what is there as it was. Proved: Rows.ClientTellsSaid. -/
import Derived.Test.YtabmkefbceepmaaRows
import Derived.Test.YtabmkefbceepmaaPF
import Derived.Test.YtabmkefbceepmaaF6
import Derived.WalkKit
import Derived.ProofKit
import Derived.OpenShut
import Derived.ShutString
import Derived.ChangeOld
import Derived.Below
import Derived.SizedLaws
import Derived.Carry
namespace Go.Proofs.Ytabmkefbceepmaa.clientTells
open Go.ChangeShapes Go.WideShapes Go.ChangeAt Go.RowKit
open Go.ChangeMaps (open_string shut_string)
set_option linter.unusedVariables false
set_option linter.unusedSimpArgs false
instance : Inhabited En.Raw23 := ⟨⟨0, 0, 0, 0, ⟨0, 0, 0, 0, 0, 0, 0, ⟨#[]⟩⟩⟩⟩
theorem raw_of {w : World} {k o : Nat} (h : En.RShs w [.int .i64, .int .i64, .int .i64, .int .i64, .int .i64, .int .i64, .int .i64, .int .i64, .int .i64, .int .i64, .int .i64, .str] k o) :
    ∃ a : En.Raw23, ∀ (j : Nat) y, a.fs[j]? = some y → ∃ u, w.cell? ⟨k, o + j, none⟩ = some u ∧ En.RF (En.zAll w) y u := by
  obtain ⟨⟨u0, c0, n0, rfl, _⟩, ⟨u1, c1, n1, rfl, _⟩, ⟨u2, c2, n2, rfl, _⟩, ⟨u3, c3, n3, rfl, _⟩, ⟨u4, c4, n4, rfl, _⟩, ⟨u5, c5, n5, rfl, _⟩, ⟨u6, c6, n6, rfl, _⟩, ⟨u7, c7, n7, rfl, _⟩, ⟨u8, c8, n8, rfl, _⟩, ⟨u9, c9, n9, rfl, _⟩, ⟨u10, c10, n10, rfl, _⟩, ⟨u11, c11, n11, rfl, _⟩, _⟩ := h
  refine ⟨⟨n0, n1, n2, n3, ⟨n4, n5, n6, n7, n8, n9, n10, n11⟩⟩, fun j y hy => ?_⟩
  match j, hy with
  | 0, hy => cases hy; exact ⟨_, c0, .lit _ rfl⟩
  | 1, hy => cases hy; exact ⟨_, c1, .lit _ rfl⟩
  | 2, hy => cases hy; exact ⟨_, c2, .lit _ rfl⟩
  | 3, hy => cases hy; exact ⟨_, c3, .lit _ rfl⟩
  | 4, hy => cases hy; exact ⟨_, c4, .lit _ rfl⟩
  | 5, hy => cases hy; exact ⟨_, c5, .lit _ rfl⟩
  | 6, hy => cases hy; exact ⟨_, c6, .lit _ rfl⟩
  | 7, hy => cases hy; exact ⟨_, c7, .lit _ rfl⟩
  | 8, hy => cases hy; exact ⟨_, c8, .lit _ rfl⟩
  | 9, hy => cases hy; exact ⟨_, c9, .lit _ rfl⟩
  | 10, hy => cases hy; exact ⟨_, c10, .lit _ rfl⟩
  | 11, hy => cases hy; exact ⟨_, c11, .lit _ rfl⟩
  | j + 12, hy => simp [En.Raw23.fs] at hy

theorem walk (W : World) (a0 : Int) (w0 : (Lit.int .i64 a0).wf = true) (v1 : Value) (h1 : En.RSh W (.sl 12 [.int .i64, .int .i64, .int .i64, .int .i64, .int .i64, .int .i64, .int .i64, .int .i64, .int .i64, .int .i64, .int .i64, .str]) v1) : Calls Try.prog 6 #[.int .i64 a0, v1] W fun e w' => e = .returned (.bool true) ∧ Go.RowKit.Below W.heap.size W w' := by
  obtain ⟨nl1, n1, x1, hx1, hn1, hm1, _⟩ := En.slice_arg (fs := En.Raw23.fs) (fun _ => rfl) (fun k o h => raw_of h) h1
  exact En.law_true (En.GS_ok.with _ _) En.GKPF2 (En.RAs.cons (x := .one (.f (.lit (.int .i64 a0)))) (En.RF.lit _ rfl) (En.RAs.cons (x := .one (.f (.fs nl1 12 n1 fun i => En.Raw23.fs (x1 i)))) hx1 En.RAs.nil)) (En.res_Tells a0 nl1 n1 x1 ⟨by have := hm1; simp only [maxLen] at this; omega, hn1⟩)
theorem own : ownKnob Try.prog.godebug = none := by kernel_rfl
theorem laidOut : laidOutB Try.prog = true := by kernel_rfl
set_option maxRecDepth 100000 in
theorem lifted (os : Os) (started : os.Started) (H : Type) (enc : TypeId × Value → H) :
    ReturnsInHanded {} Try.checked os 6 .any (Rows.clientTellsSpec.pre6 enc Try.prog Try.f6 Rows.clientTellsRow.domain false) (Rows.clientTellsSpec.post enc Try.prog Try.f6 false true false false) := by
  refine returnsInHanded_of_change_sized (C := Try.checked) own started (by kernel_rfl) Try.func6
    (ChangeSpec.witness6 (enc := enc) (C := Try.checked) false ⟨#[], #[.int .i64 0, .slice none 0 0], []⟩ 8 (by kernel_rfl) (by kernel_rfl) (by kernel_rfl) (by kernel_rfl)) ?_
  intro W base args ds gs before hval0 hW hcnd hsz0 _
  have hval : ∀ (j : Nat) t v, Try.f6.params[j]? = some t → args[j]? = some v → Value.okWide Try.prog W .any base t v := hval0
  have hW' := hW
  obtain ⟨p, q, hA0, hV, rfl, hfz, hnd⟩ := hW
  have hA : DataW.TrodAll enc Try.prog W 0 (fun _ => true) true Try.f6.params.toList args.toList ds p := hA0
  rw [Try.params6] at hA hval
  obtain ⟨v0, vs0, d0, ds0, p0, q0, hargs, rfl, rfl, h0, r0⟩ := trodAll_cons hA
  obtain ⟨v1, vs1, d1, ds1, p1, q1, rfl, rfl, rfl, h1, r1⟩ := trodAll_cons r0
  obtain ⟨rfl, rfl, rfl⟩ := trodAll_nil r1
  obtain rfl : args = #[v0, v1] := by cases args; simp_all
  obtain ⟨rfl, rfl⟩ := trodVars_none hV
  have hlt0 : ∀ x ∈ p0, x.block < W.heap.size := fun x hx => hW'.lt x (by simp [hx])
  have h0k := h0
  obtain ⟨a0, rfl, _, _, w0⟩ := open_int Try.underlying3 (hval 0 3 v0 rfl rfl) h0
  have hlt1 : ∀ x ∈ p1, x.block < W.heap.size := fun x hx => hW'.lt x (by simp [hx])
  have h1k := h1
  obtain ⟨s1, len1, cap1, rfl⟩ := okWide_slice Try.underlying56 (hval 1 56 v1 rfl rfl)
  obtain ⟨fuel1, hf1⟩ := h1
  have hs1 := (En.shape_read 20 56 [.sl 12 [.int .i64, .int .i64, .int .i64, .int .i64, .int .i64, .int .i64, .int .i64, .int .i64, .int .i64, .int .i64, .int .i64, .str]] (by kernel_rfl) _ _ _ hf1).1
  clear hA0 hval0 hsz0
  refine (walk W a0 w0 _ hs1).mono fun e W' ⟨he, bel⟩ => ?_
  subst he
  exact ⟨_, rfl, _, _, _, [], _, [], hW', trodAll_mk1 (shut_bool Try.underlying4 _), (trodAll_cons_mk (Below.trod laidOut (by kernel_rfl) (of_decide_eq_true (by kernel_rfl)) h0k bel hlt0) (trodAll_cons_mk (Below.trod laidOut (by kernel_rfl) (of_decide_eq_true (by kernel_rfl)) h1k bel hlt1) trodAll_mk0)), rfl, bel.frame _, fun h => by cases h⟩
theorem over : Rows.clientTellsRow.holds Try.pinned (OpenSpec.ofChange Rows.clientTellsSpec) :=
  OpenClaim.holds_of_wide 6 Try.f6 rfl rfl rfl rfl rfl rfl rfl ⟨rfl, rfl, rfl, rfl, rfl⟩ rfl rfl rfl rfl rfl (by kernel_rfl) Try.func6 (by kernel_rfl)
    (of_decide_eq_true (by kernel_rfl)) (by unfold Func.isWrapper; first | (rw [if_pos (by decide +kernel)]; kernel_rfl) | (rw [if_neg (by decide +kernel)]; exact ⟨rfl, rfl⟩))
    (fun os started H enc _ => lifted os started H enc)
end Go.Proofs.Ytabmkefbceepmaa.clientTells
namespace Go.Proofs.Ytabmkefbceepmaa
/-- The row, under a short name, for the claim. -/
theorem clientTells_holds : Rows.ClientTellsSaid := clientTells.over
#print axioms clientTells_holds
end Go.Proofs.Ytabmkefbceepmaa
