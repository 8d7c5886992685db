/- ViewRises returns true, whatever it is handed, and leaves what is there as it was. Proved: Rows.ViewRisesSaid. -/
import Derived.Test.YtdoehlinboiohaaRows
import Derived.Test.YtdoehlinboiohaaWB
import Derived.Test.YtdoehlinboiohaaF6
import Derived.WalkKit
import Derived.ProofKit
import Derived.OpenShut
import Derived.ShutString
import Derived.ChangeOld
import Derived.Below
import Derived.SizedLaws
import Derived.Carry
namespace Go.Proofs.Ytdoehlinboiohaa.viewRises
open Go.ChangeShapes Go.WideShapes Go.ChangeAt Go.RowKit
open Go.ChangeMaps (open_string shut_string)
set_option linter.unusedVariables false
set_option linter.unusedSimpArgs false
theorem raw_of {w : World} {k o : Nat} (h : En.RShs w [.int .i64, .int .i64, .int .i64, .int .i64, .bool] k o) :
    ∃ a : En.Ent, ∀ (j : Nat) y, a.fs[j]? = some y → ∃ u, w.cell? ⟨k, o + j, none⟩ = some u ∧ En.RF (En.zAll w) y u := by
  obtain ⟨⟨u0, c0, n0, rfl, _⟩, ⟨u1, c1, n1, rfl, _⟩, ⟨u2, c2, n2, rfl, _⟩, ⟨u3, c3, n3, rfl, _⟩, ⟨u4, c4, n4, rfl⟩, _⟩ := h
  refine ⟨⟨n0, n1, n2, n3, n4⟩, fun j y hy => ?_⟩
  rcases j with _ | _ | _ | _ | _ | j
  · cases hy; exact ⟨_, c0, .lit _ rfl⟩
  · cases hy; exact ⟨_, c1, .lit _ rfl⟩
  · cases hy; exact ⟨_, c2, .lit _ rfl⟩
  · cases hy; exact ⟨_, c3, .lit _ rfl⟩
  · cases hy; exact ⟨_, c4, .lit _ rfl⟩
  · cases hy
abbrev R13 := { r : En.Raw13 // En.LnOk r.nl r.n }
instance : Inhabited R13 := ⟨⟨⟨0, 0, 0, false, false, true, 0, fun _ => default⟩, by decide, fun _ => rfl⟩⟩
abbrev R13.fs (a : R13) : List En.FV := a.1.fs
theorem raw13_of {w : World} {k o : Nat} (h : En.RShs w [.int .i64, .int .i64, .int .i64, .bool, .bool, .sl 5 [.int .i64, .int .i64, .int .i64, .int .i64, .bool]] k o) :
    ∃ a : R13, ∀ (j : Nat) y, a.fs[j]? = some y → ∃ u, w.cell? ⟨k, o + j, none⟩ = some u ∧ En.RF (En.zAll w) y u := by
  obtain ⟨⟨u0, c0, n0, rfl, _⟩, ⟨u1, c1, n1, rfl, _⟩, ⟨u2, c2, n2, rfl, _⟩, ⟨u3, c3, n3, rfl⟩, ⟨u4, c4, n4, rfl⟩, ⟨u5, c5, h5⟩, _⟩ := h
  obtain ⟨nl, n, x, hx, hn, hm, _⟩ := En.slice_arg (fs := En.Ent.fs) (fun _ => rfl) (fun k o h => raw_of h) h5
  refine ⟨⟨⟨n0, n1, n2, n3, n4, nl, n, x⟩, ⟨by simp only [maxLen] at hm; simp only; omega, hn⟩⟩, fun j y hy => ?_⟩
  rcases j with _ | _ | _ | _ | _ | _ | j
  · cases hy; exact ⟨_, c0, .lit _ rfl⟩
  · cases hy; exact ⟨_, c1, .lit _ rfl⟩
  · cases hy; exact ⟨_, c2, .lit _ rfl⟩
  · cases hy; exact ⟨_, c3, .lit _ rfl⟩
  · cases hy; exact ⟨_, c4, .lit _ rfl⟩
  · cases hy; exact ⟨_, c5, hx⟩
  · cases hy

theorem walk (W : World) (a0 : Int) (w0 : (Lit.int .i64 a0).wf = true) (v1 : Value) (h1 : En.RSh W (.sl 6 [.int .i64, .int .i64, .int .i64, .bool, .bool, .sl 5 [.int .i64, .int .i64, .int .i64, .int .i64, .bool]]) v1) : Calls Try.prog 11 #[.int .i64 a0, v1] W fun e w' => e = .returned (.bool true) ∧ Go.RowKit.Below W.heap.size W w' := by
  obtain ⟨nl1, n1, x1, hx1, hn1, hm1, _⟩ := En.slice_arg (fs := R13.fs) (fun _ => rfl) (fun k o h => raw13_of h) h1
  exact En.law_true En.GOWB1 En.GKWB1 (En.RAs.cons (x := .one (.f (.lit (.int .i64 a0)))) (En.RF.lit _ rfl) (En.RAs.cons (x := .one (.f (.fs nl1 6 n1 fun i => R13.fs (x1 i)))) hx1 En.RAs.nil)) (En.res_VRises a0 nl1 n1 (fun i => (x1 i).1) ⟨_, rfl, hn1, by have := hm1; simp only [maxLen] at this; omega, fun i _ => (x1 i).2⟩)
theorem own : ownKnob Try.prog.godebug = none := by kernel_rfl
theorem laidOut : laidOutB Try.prog = true := by kernel_rfl
set_option maxRecDepth 100000 in
theorem lifted (os : Os) (started : os.Started) (H : Type) (enc : TypeId × Value → H) :
    ReturnsInHanded {} Try.checked os 11 .any (Rows.viewRisesSpec.pre6 enc Try.prog Try.f11 Rows.viewRisesRow.domain false) (Rows.viewRisesSpec.post enc Try.prog Try.f11 false true false false) := by
  refine returnsInHanded_of_change_sized (C := Try.checked) own started (by kernel_rfl) Try.func11
    (ChangeSpec.witness6 (enc := enc) (C := Try.checked) false ⟨#[], #[.int .i64 0, .slice none 0 0], []⟩ 8 (by kernel_rfl) (by kernel_rfl) (by kernel_rfl) (by kernel_rfl)) ?_
  intro W base args ds gs before hval0 hW hcnd hsz0 _
  have hval : ∀ (j : Nat) t v, Try.f11.params[j]? = some t → args[j]? = some v → Value.okWide Try.prog W .any base t v := hval0
  have hW' := hW
  obtain ⟨p, q, hA0, hV, rfl, hfz, hnd⟩ := hW
  have hA : DataW.TrodAll enc Try.prog W 0 (fun _ => true) true Try.f11.params.toList args.toList ds p := hA0
  rw [Try.params11] at hA hval
  obtain ⟨v0, vs0, d0, ds0, p0, q0, hargs, rfl, rfl, h0, r0⟩ := trodAll_cons hA
  obtain ⟨v1, vs1, d1, ds1, p1, q1, rfl, rfl, rfl, h1, r1⟩ := trodAll_cons r0
  obtain ⟨rfl, rfl, rfl⟩ := trodAll_nil r1
  obtain rfl : args = #[v0, v1] := by cases args; simp_all
  obtain ⟨rfl, rfl⟩ := trodVars_none hV
  have hlt0 : ∀ x ∈ p0, x.block < W.heap.size := fun x hx => hW'.lt x (by simp [hx])
  have h0k := h0
  obtain ⟨a0, rfl, _, _, w0⟩ := open_int Try.underlying3 (hval 0 3 v0 rfl rfl) h0
  have hlt1 : ∀ x ∈ p1, x.block < W.heap.size := fun x hx => hW'.lt x (by simp [hx])
  have h1k := h1
  obtain ⟨s1, len1, cap1, rfl⟩ := okWide_slice Try.underlying54 (hval 1 54 v1 rfl rfl)
  obtain ⟨fuel1, hf1⟩ := h1
  have hs1 := (En.shape_read 20 54 [.sl 6 [.int .i64, .int .i64, .int .i64, .bool, .bool, .sl 5 [.int .i64, .int .i64, .int .i64, .int .i64, .bool]]] (by kernel_rfl) _ _ _ hf1).1
  clear hA0 hval0 hsz0
  refine (walk W a0 w0 _ hs1).mono fun e W' ⟨he, bel⟩ => ?_
  subst he
  exact ⟨_, rfl, _, _, _, [], _, [], hW', trodAll_mk1 (shut_bool Try.underlying4 _), (trodAll_cons_mk (Below.trod laidOut (by kernel_rfl) (of_decide_eq_true (by kernel_rfl)) h0k bel hlt0) (trodAll_cons_mk (Below.trod laidOut (by kernel_rfl) (of_decide_eq_true (by kernel_rfl)) h1k bel hlt1) trodAll_mk0)), rfl, bel.frame _, fun h => by cases h⟩
theorem over : Rows.viewRisesRow.holds Try.pinned (OpenSpec.ofChange Rows.viewRisesSpec) :=
  OpenClaim.holds_of_wide 11 Try.f11 rfl rfl rfl rfl rfl rfl rfl ⟨rfl, rfl, rfl, rfl, rfl⟩ rfl rfl rfl rfl rfl (by kernel_rfl) Try.func11 (by kernel_rfl)
    (of_decide_eq_true (by kernel_rfl)) (by unfold Func.isWrapper; first | (rw [if_pos (by decide +kernel)]; kernel_rfl) | (rw [if_neg (by decide +kernel)]; exact ⟨rfl, rfl⟩))
    (fun os started H enc _ => lifted os started H enc)
end Go.Proofs.Ytdoehlinboiohaa.viewRises
namespace Go.Proofs.Ytdoehlinboiohaa
/-- The row, under a short name, for the claim. -/
theorem viewRises_holds : Rows.ViewRisesSaid := viewRises.over
#print axioms viewRises_holds
end Go.Proofs.Ytdoehlinboiohaa
