/- DonorTells returns true, whatever it is handed, and leaves what is there as it was. Proved: Rows.DonorTellsSaid. -/
import Derived.Test.YtggneleipimijaaRows
import Derived.Test.YtggneleipimijaaG14
import Derived.Test.YtggneleipimijaaG06
import Derived.WalkKit
import Derived.ProofKit
import Derived.OpenShut
import Derived.ShutString
import Derived.ChangeOld
import Derived.Below
import Derived.SizedLaws
import Derived.Carry
namespace Go.Proofs.Ytggneleipimijaa.donorTells
open Go.ChangeShapes Go.WideShapes Go.ChangeAt Go.RowKit
open Go.ChangeMaps (open_string shut_string)
set_option linter.unusedVariables false
set_option linter.unusedSimpArgs false
theorem raw_of {w : World} {k o : Nat} (h : En.RShs w [.int .i64, .int .i64, .int .i64, .int .i64, .bool] k o) :
    ∃ a : En.Ent, ∀ (j : Nat) y, a.fs[j]? = some y → ∃ u, w.cell? ⟨k, o + j, none⟩ = some u ∧ En.RF (En.zAll w) y u := by
  obtain ⟨⟨u0, c0, n0, rfl, _⟩, ⟨u1, c1, n1, rfl, _⟩, ⟨u2, c2, n2, rfl, _⟩, ⟨u3, c3, n3, rfl, _⟩, ⟨u4, c4, n4, rfl⟩, _⟩ := h
  refine ⟨⟨n0, n1, n2, n3, n4⟩, fun j y hy => ?_⟩
  rcases j with _ | _ | _ | _ | _ | j
  · cases hy; exact ⟨_, c0, .lit _ rfl⟩
  · cases hy; exact ⟨_, c1, .lit _ rfl⟩
  · cases hy; exact ⟨_, c2, .lit _ rfl⟩
  · cases hy; exact ⟨_, c3, .lit _ rfl⟩
  · cases hy; exact ⟨_, c4, .lit _ rfl⟩
  · cases hy
def intFs (a : Int) : List En.FV := [.lit (.int .i64 a)]
theorem int_of {w : World} {k o : Nat} (h : En.RShs w [.int .i64] k o) :
    ∃ a : Int, ∀ (j : Nat) y, (intFs a)[j]? = some y → ∃ u, w.cell? ⟨k, o + j, none⟩ = some u ∧ En.RF (En.zAll w) y u := by
  obtain ⟨⟨u0, c0, n0, rfl, _⟩, _⟩ := h
  refine ⟨n0, fun j y hy => ?_⟩
  rcases j with _ | j
  · cases hy; exact ⟨_, c0, .lit _ rfl⟩
  · cases hy

theorem walk (W : World) (a0 : Int) (w0 : (Lit.int .i64 a0).wf = true) (a1 : Int) (w1 : (Lit.int .i64 a1).wf = true) (a2 : Int) (w2 : (Lit.int .i64 a2).wf = true) (b3 : Bool) (a4 : Int) (w4 : (Lit.int .i64 a4).wf = true) (v5 : Value) (h5 : En.RSh W (.sl 5 [.int .i64, .int .i64, .int .i64, .int .i64, .bool]) v5) (v6 : Value) (h6 : En.RSh W (.sl 1 [.int .i64]) v6) (a7 : Int) (w7 : (Lit.int .i64 a7).wf = true) : Calls Try.prog 9 #[.int .i64 a0, .int .i64 a1, .int .i64 a2, .bool b3, .int .i64 a4, v5, v6, .int .i64 a7] W fun e w' => e = .returned (.bool true) ∧ Go.RowKit.Below W.heap.size W w' := by
  obtain ⟨nl5, n5, x5, hx5, hn5, hm5, _⟩ := En.slice_arg (fs := En.Ent.fs) (fun _ => rfl) (fun k o h => raw_of h) h5
  obtain ⟨nl6, n6, x6, hx6, hn6, hm6, _⟩ := En.slice_arg (fs := intFs) (fun _ => rfl) (fun k o h => int_of h) h6
  exact En.law_true En.GODC2 En.GKDC2 (En.RAs.cons (x := .one (.f (.lit (.int .i64 a0)))) (En.RF.lit _ rfl) (En.RAs.cons (x := .one (.f (.lit (.int .i64 a1)))) (En.RF.lit _ rfl) (En.RAs.cons (x := .one (.f (.lit (.int .i64 a2)))) (En.RF.lit _ rfl) (En.RAs.cons (x := .one (.f (.lit (.bool b3)))) (En.RF.lit _ rfl) (En.RAs.cons (x := .one (.f (.lit (.int .i64 a4)))) (En.RF.lit _ rfl) (En.RAs.cons (x := .one (.f (.fs nl5 5 n5 fun i => En.Ent.fs (x5 i)))) hx5 (En.RAs.cons (x := .one (.f (.fs nl6 1 n6 fun i => intFs (x6 i)))) hx6 (En.RAs.cons (x := .one (.f (.lit (.int .i64 a7)))) (En.RF.lit _ rfl) En.RAs.nil)))))))) (En.res_DTells a0 a1 a2 b3 a4 nl5 n5 x5 nl6 n6 x6 a7 ⟨by have := hm5; simp only [maxLen] at this; omega, hn5⟩ ⟨by have := hm6; simp only [maxLen] at this; omega, hn6⟩)
theorem own : ownKnob Try.prog.godebug = none := by kernel_rfl
theorem laidOut : laidOutB Try.prog = true := by kernel_rfl
set_option maxRecDepth 100000 in
theorem lifted (os : Os) (started : os.Started) (H : Type) (enc : TypeId × Value → H) :
    ReturnsInHanded {} Try.checked os 9 .any (Rows.donorTellsSpec.pre6 enc Try.prog Try.f9 Rows.donorTellsRow.domain false) (Rows.donorTellsSpec.post enc Try.prog Try.f9 false true false false) := by
  refine returnsInHanded_of_change_sized (C := Try.checked) own started (by kernel_rfl) Try.func9
    (ChangeSpec.witness6 (enc := enc) (C := Try.checked) false ⟨#[], #[.int .i64 0, .int .i64 0, .int .i64 0, .bool false, .int .i64 0, .slice none 0 0, .slice none 0 0, .int .i64 0], []⟩ 8 (by kernel_rfl) (by kernel_rfl) (by kernel_rfl) (by kernel_rfl)) ?_
  intro W base args ds gs before hval0 hW hcnd hsz0 _
  have hval : ∀ (j : Nat) t v, Try.f9.params[j]? = some t → args[j]? = some v → Value.okWide Try.prog W .any base t v := hval0
  have hW' := hW
  obtain ⟨p, q, hA0, hV, rfl, hfz, hnd⟩ := hW
  have hA : DataW.TrodAll enc Try.prog W 0 (fun _ => true) true Try.f9.params.toList args.toList ds p := hA0
  rw [Try.params9] at hA hval
  obtain ⟨v0, vs0, d0, ds0, p0, q0, hargs, rfl, rfl, h0, r0⟩ := trodAll_cons hA
  obtain ⟨v1, vs1, d1, ds1, p1, q1, rfl, rfl, rfl, h1, r1⟩ := trodAll_cons r0
  obtain ⟨v2, vs2, d2, ds2, p2, q2, rfl, rfl, rfl, h2, r2⟩ := trodAll_cons r1
  obtain ⟨v3, vs3, d3, ds3, p3, q3, rfl, rfl, rfl, h3, r3⟩ := trodAll_cons r2
  obtain ⟨v4, vs4, d4, ds4, p4, q4, rfl, rfl, rfl, h4, r4⟩ := trodAll_cons r3
  obtain ⟨v5, vs5, d5, ds5, p5, q5, rfl, rfl, rfl, h5, r5⟩ := trodAll_cons r4
  obtain ⟨v6, vs6, d6, ds6, p6, q6, rfl, rfl, rfl, h6, r6⟩ := trodAll_cons r5
  obtain ⟨v7, vs7, d7, ds7, p7, q7, rfl, rfl, rfl, h7, r7⟩ := trodAll_cons r6
  obtain ⟨rfl, rfl, rfl⟩ := trodAll_nil r7
  obtain rfl : args = #[v0, v1, v2, v3, v4, v5, v6, v7] := by cases args; simp_all
  obtain ⟨rfl, rfl⟩ := trodVars_none hV
  have hlt0 : ∀ x ∈ p0, x.block < W.heap.size := fun x hx => hW'.lt x (by simp [hx])
  have h0k := h0
  obtain ⟨a0, rfl, _, _, w0⟩ := open_int Try.underlying3 (hval 0 3 v0 rfl rfl) h0
  have hlt1 : ∀ x ∈ p1, x.block < W.heap.size := fun x hx => hW'.lt x (by simp [hx])
  have h1k := h1
  obtain ⟨a1, rfl, _, _, w1⟩ := open_int Try.underlying3 (hval 1 3 v1 rfl rfl) h1
  have hlt2 : ∀ x ∈ p2, x.block < W.heap.size := fun x hx => hW'.lt x (by simp [hx])
  have h2k := h2
  obtain ⟨a2, rfl, _, _, w2⟩ := open_int Try.underlying3 (hval 2 3 v2 rfl rfl) h2
  have hlt3 : ∀ x ∈ p3, x.block < W.heap.size := fun x hx => hW'.lt x (by simp [hx])
  have h3k := h3
  obtain ⟨b3, rfl, _, _⟩ := open_bool Try.underlying4 (hval 3 4 v3 rfl rfl) h3
  have hlt4 : ∀ x ∈ p4, x.block < W.heap.size := fun x hx => hW'.lt x (by simp [hx])
  have h4k := h4
  obtain ⟨a4, rfl, _, _, w4⟩ := open_int Try.underlying3 (hval 4 3 v4 rfl rfl) h4
  have hlt5 : ∀ x ∈ p5, x.block < W.heap.size := fun x hx => hW'.lt x (by simp [hx])
  have h5k := h5
  obtain ⟨s5, len5, cap5, rfl⟩ := okWide_slice Try.underlying33 (hval 5 33 v5 rfl rfl)
  obtain ⟨fuel5, hf5⟩ := h5
  have hs5 := (En.shape_read 20 33 [.sl 5 [.int .i64, .int .i64, .int .i64, .int .i64, .bool]] (by kernel_rfl) _ _ _ hf5).1
  have hlt6 : ∀ x ∈ p6, x.block < W.heap.size := fun x hx => hW'.lt x (by simp [hx])
  have h6k := h6
  obtain ⟨s6, len6, cap6, rfl⟩ := okWide_slice Try.underlying22 (hval 6 22 v6 rfl rfl)
  obtain ⟨fuel6, hf6⟩ := h6
  have hs6 := (En.shape_read 20 22 [.sl 1 [.int .i64]] (by kernel_rfl) _ _ _ hf6).1
  have hlt7 : ∀ x ∈ p7, x.block < W.heap.size := fun x hx => hW'.lt x (by simp [hx])
  have h7k := h7
  obtain ⟨a7, rfl, _, _, w7⟩ := open_int Try.underlying3 (hval 7 3 v7 rfl rfl) h7
  clear hA0 hval0 hsz0
  refine (walk W a0 w0 a1 w1 a2 w2 b3 a4 w4 _ hs5 _ hs6 a7 w7).mono fun e W' ⟨he, bel⟩ => ?_
  subst he
  exact ⟨_, rfl, _, _, _, [], _, [], hW', trodAll_mk1 (shut_bool Try.underlying4 _), (trodAll_cons_mk (Below.trod laidOut (by kernel_rfl) (of_decide_eq_true (by kernel_rfl)) h0k bel hlt0) (trodAll_cons_mk (Below.trod laidOut (by kernel_rfl) (of_decide_eq_true (by kernel_rfl)) h1k bel hlt1) (trodAll_cons_mk (Below.trod laidOut (by kernel_rfl) (of_decide_eq_true (by kernel_rfl)) h2k bel hlt2) (trodAll_cons_mk (Below.trod laidOut (by kernel_rfl) (of_decide_eq_true (by kernel_rfl)) h3k bel hlt3) (trodAll_cons_mk (Below.trod laidOut (by kernel_rfl) (of_decide_eq_true (by kernel_rfl)) h4k bel hlt4) (trodAll_cons_mk (Below.trod laidOut (by kernel_rfl) (of_decide_eq_true (by kernel_rfl)) h5k bel hlt5) (trodAll_cons_mk (Below.trod laidOut (by kernel_rfl) (of_decide_eq_true (by kernel_rfl)) h6k bel hlt6) (trodAll_cons_mk (Below.trod laidOut (by kernel_rfl) (of_decide_eq_true (by kernel_rfl)) h7k bel hlt7) trodAll_mk0)))))))), rfl, bel.frame _, fun h => by cases h⟩
theorem over : Rows.donorTellsRow.holds Try.pinned (OpenSpec.ofChange Rows.donorTellsSpec) :=
  OpenClaim.holds_of_wide 9 Try.f9 rfl rfl rfl rfl rfl rfl rfl ⟨rfl, rfl, rfl, rfl, rfl⟩ rfl rfl rfl rfl rfl (by kernel_rfl) Try.func9 (by kernel_rfl)
    (of_decide_eq_true (by kernel_rfl)) (by unfold Func.isWrapper; first | (rw [if_pos (by decide +kernel)]; kernel_rfl) | (rw [if_neg (by decide +kernel)]; exact ⟨rfl, rfl⟩))
    (fun os started H enc _ => lifted os started H enc)
end Go.Proofs.Ytggneleipimijaa.donorTells
namespace Go.Proofs.Ytggneleipimijaa
/-- The row, under a short name, for the claim. -/
theorem donorTells_holds : Rows.DonorTellsSaid := donorTells.over
#print axioms donorTells_holds
end Go.Proofs.Ytggneleipimijaa
