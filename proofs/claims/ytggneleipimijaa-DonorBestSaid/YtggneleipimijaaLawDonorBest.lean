/- DonorBest returns true, whatever it is handed, and leaves what is there as it was. Proved: Rows.DonorBestSaid. -/
import Derived.Test.YtggneleipimijaaRows
import Derived.Test.YtggneleipimijaaG15
import Derived.Test.YtggneleipimijaaG06
import Derived.WalkKit
import Derived.ProofKit
import Derived.OpenShut
import Derived.ShutString
import Derived.ChangeOld
import Derived.Below
import Derived.SizedLaws
import Derived.Carry
namespace Go.Proofs.Ytggneleipimijaa.donorBest
open Go.ChangeShapes Go.WideShapes Go.ChangeAt Go.RowKit
open Go.ChangeMaps (open_string shut_string)
set_option linter.unusedVariables false
set_option linter.unusedSimpArgs false
theorem raw_of {w : World} {k o : Nat} (h : En.RShs w [.int .i64, .int .i64, .int .i64, .int .i64, .bool] k o) :
    ∃ a : En.Ent, ∀ (j : Nat) y, a.fs[j]? = some y → ∃ u, w.cell? ⟨k, o + j, none⟩ = some u ∧ En.RF (En.zAll w) y u := by
  obtain ⟨⟨u0, c0, n0, rfl, _⟩, ⟨u1, c1, n1, rfl, _⟩, ⟨u2, c2, n2, rfl, _⟩, ⟨u3, c3, n3, rfl, _⟩, ⟨u4, c4, n4, rfl⟩, _⟩ := h
  refine ⟨⟨n0, n1, n2, n3, n4⟩, fun j y hy => ?_⟩
  rcases j with _ | _ | _ | _ | _ | j
  · cases hy; exact ⟨_, c0, .lit _ rfl⟩
  · cases hy; exact ⟨_, c1, .lit _ rfl⟩
  · cases hy; exact ⟨_, c2, .lit _ rfl⟩
  · cases hy; exact ⟨_, c3, .lit _ rfl⟩
  · cases hy; exact ⟨_, c4, .lit _ rfl⟩
  · cases hy
def intFs (a : Int) : List En.FV := [.lit (.int .i64 a)]
theorem int_of {w : World} {k o : Nat} (h : En.RShs w [.int .i64] k o) :
    ∃ a : Int, ∀ (j : Nat) y, (intFs a)[j]? = some y → ∃ u, w.cell? ⟨k, o + j, none⟩ = some u ∧ En.RF (En.zAll w) y u := by
  obtain ⟨⟨u0, c0, n0, rfl, _⟩, _⟩ := h
  refine ⟨n0, fun j y hy => ?_⟩
  rcases j with _ | j
  · cases hy; exact ⟨_, c0, .lit _ rfl⟩
  · cases hy

theorem walk (W : World) (v0 : Value) (h0 : En.RSh W (.sl 5 [.int .i64, .int .i64, .int .i64, .int .i64, .bool]) v0) (v1 : Value) (h1 : En.RSh W (.sl 1 [.int .i64]) v1) (a2 : Int) (w2 : (Lit.int .i64 a2).wf = true) : Calls Try.prog 10 #[v0, v1, .int .i64 a2] W fun e w' => e = .returned (.bool true) ∧ Go.RowKit.Below W.heap.size W w' := by
  obtain ⟨nl0, n0, x0, hx0, hn0, hm0, _⟩ := En.slice_arg (fs := En.Ent.fs) (fun _ => rfl) (fun k o h => raw_of h) h0
  obtain ⟨nl1, n1, x1, hx1, hn1, hm1, _⟩ := En.slice_arg (fs := intFs) (fun _ => rfl) (fun k o h => int_of h) h1
  exact En.law_true En.GODE2 En.GKDE2 (En.RAs.cons (x := .one (.f (.fs nl0 5 n0 fun i => En.Ent.fs (x0 i)))) hx0 (En.RAs.cons (x := .one (.f (.fs nl1 1 n1 fun i => intFs (x1 i)))) hx1 (En.RAs.cons (x := .one (.f (.lit (.int .i64 a2)))) (En.RF.lit _ rfl) En.RAs.nil))) (En.res_DBest nl0 n0 x0 nl1 n1 x1 a2 ⟨by have := hm0; simp only [maxLen] at this; omega, hn0⟩ ⟨by have := hm1; simp only [maxLen] at this; omega, hn1⟩)
theorem own : ownKnob Try.prog.godebug = none := by kernel_rfl
theorem laidOut : laidOutB Try.prog = true := by kernel_rfl
set_option maxRecDepth 100000 in
theorem lifted (os : Os) (started : os.Started) (H : Type) (enc : TypeId × Value → H) :
    ReturnsInHanded {} Try.checked os 10 .any (Rows.donorBestSpec.pre6 enc Try.prog Try.f10 Rows.donorBestRow.domain false) (Rows.donorBestSpec.post enc Try.prog Try.f10 false true false false) := by
  refine returnsInHanded_of_change_sized (C := Try.checked) own started (by kernel_rfl) Try.func10
    (ChangeSpec.witness6 (enc := enc) (C := Try.checked) false ⟨#[], #[.slice none 0 0, .slice none 0 0, .int .i64 0], []⟩ 8 (by kernel_rfl) (by kernel_rfl) (by kernel_rfl) (by kernel_rfl)) ?_
  intro W base args ds gs before hval0 hW hcnd hsz0 _
  have hval : ∀ (j : Nat) t v, Try.f10.params[j]? = some t → args[j]? = some v → Value.okWide Try.prog W .any base t v := hval0
  have hW' := hW
  obtain ⟨p, q, hA0, hV, rfl, hfz, hnd⟩ := hW
  have hA : DataW.TrodAll enc Try.prog W 0 (fun _ => true) true Try.f10.params.toList args.toList ds p := hA0
  rw [Try.params10] at hA hval
  obtain ⟨v0, vs0, d0, ds0, p0, q0, hargs, rfl, rfl, h0, r0⟩ := trodAll_cons hA
  obtain ⟨v1, vs1, d1, ds1, p1, q1, rfl, rfl, rfl, h1, r1⟩ := trodAll_cons r0
  obtain ⟨v2, vs2, d2, ds2, p2, q2, rfl, rfl, rfl, h2, r2⟩ := trodAll_cons r1
  obtain ⟨rfl, rfl, rfl⟩ := trodAll_nil r2
  obtain rfl : args = #[v0, v1, v2] := by cases args; simp_all
  obtain ⟨rfl, rfl⟩ := trodVars_none hV
  have hlt0 : ∀ x ∈ p0, x.block < W.heap.size := fun x hx => hW'.lt x (by simp [hx])
  have h0k := h0
  obtain ⟨s0, len0, cap0, rfl⟩ := okWide_slice Try.underlying33 (hval 0 33 v0 rfl rfl)
  obtain ⟨fuel0, hf0⟩ := h0
  have hs0 := (En.shape_read 20 33 [.sl 5 [.int .i64, .int .i64, .int .i64, .int .i64, .bool]] (by kernel_rfl) _ _ _ hf0).1
  have hlt1 : ∀ x ∈ p1, x.block < W.heap.size := fun x hx => hW'.lt x (by simp [hx])
  have h1k := h1
  obtain ⟨s1, len1, cap1, rfl⟩ := okWide_slice Try.underlying22 (hval 1 22 v1 rfl rfl)
  obtain ⟨fuel1, hf1⟩ := h1
  have hs1 := (En.shape_read 20 22 [.sl 1 [.int .i64]] (by kernel_rfl) _ _ _ hf1).1
  have hlt2 : ∀ x ∈ p2, x.block < W.heap.size := fun x hx => hW'.lt x (by simp [hx])
  have h2k := h2
  obtain ⟨a2, rfl, _, _, w2⟩ := open_int Try.underlying3 (hval 2 3 v2 rfl rfl) h2
  clear hA0 hval0 hsz0
  refine (walk W _ hs0 _ hs1 a2 w2).mono fun e W' ⟨he, bel⟩ => ?_
  subst he
  exact ⟨_, rfl, _, _, _, [], _, [], hW', trodAll_mk1 (shut_bool Try.underlying4 _), (trodAll_cons_mk (Below.trod laidOut (by kernel_rfl) (of_decide_eq_true (by kernel_rfl)) h0k bel hlt0) (trodAll_cons_mk (Below.trod laidOut (by kernel_rfl) (of_decide_eq_true (by kernel_rfl)) h1k bel hlt1) (trodAll_cons_mk (Below.trod laidOut (by kernel_rfl) (of_decide_eq_true (by kernel_rfl)) h2k bel hlt2) trodAll_mk0))), rfl, bel.frame _, fun h => by cases h⟩
theorem over : Rows.donorBestRow.holds Try.pinned (OpenSpec.ofChange Rows.donorBestSpec) :=
  OpenClaim.holds_of_wide 10 Try.f10 rfl rfl rfl rfl rfl rfl rfl ⟨rfl, rfl, rfl, rfl, rfl⟩ rfl rfl rfl rfl rfl (by kernel_rfl) Try.func10 (by kernel_rfl)
    (of_decide_eq_true (by kernel_rfl)) (by unfold Func.isWrapper; first | (rw [if_pos (by decide +kernel)]; kernel_rfl) | (rw [if_neg (by decide +kernel)]; exact ⟨rfl, rfl⟩))
    (fun os started H enc _ => lifted os started H enc)
end Go.Proofs.Ytggneleipimijaa.donorBest
namespace Go.Proofs.Ytggneleipimijaa
/-- The row, under a short name, for the claim. -/
theorem donorBest_holds : Rows.DonorBestSaid := donorBest.over
#print axioms donorBest_holds
end Go.Proofs.Ytggneleipimijaa
