/- RingBoth returns true, whatever it is handed, and leaves what is there as it was. Proved: Rows.RingBothSaid. -/
import Derived.Test.YtggneleipimijaaRows
import Derived.Test.YtggneleipimijaaG12
import Derived.WalkKit
import Derived.ProofKit
import Derived.OpenShut
import Derived.ShutString
import Derived.ChangeOld
import Derived.Below
import Derived.SizedLaws
import Derived.Carry
namespace Go.Proofs.Ytggneleipimijaa.ringBoth
open Go.ChangeShapes Go.WideShapes Go.ChangeAt Go.RowKit
open Go.ChangeMaps (open_string shut_string)
set_option linter.unusedVariables false
set_option linter.unusedSimpArgs false
def intFs (a : Int) : List En.FV := [.lit (.int .i64 a)]
theorem int_of {w : World} {k o : Nat} (h : En.RShs w [.int .i64] k o) :
    ∃ a : Int, ∀ (j : Nat) y, (intFs a)[j]? = some y → ∃ u, w.cell? ⟨k, o + j, none⟩ = some u ∧ En.RF (En.zAll w) y u := by
  obtain ⟨⟨u0, c0, n0, rfl, _⟩, _⟩ := h
  refine ⟨n0, fun j y hy => ?_⟩
  rcases j with _ | j
  · cases hy; exact ⟨_, c0, .lit _ rfl⟩
  · cases hy

theorem walk (W : World) (v0 : Value) (h0 : En.RSh W (.sl 1 [.int .i64]) v0) (a1 : Int) (w1 : (Lit.int .i64 a1).wf = true) : Calls Try.prog 3 #[v0, .int .i64 a1] W fun e w' => e = .returned (.bool true) ∧ Go.RowKit.Below W.heap.size W w' := by
  obtain ⟨nl0, n0, x0, hx0, hn0, hm0, _⟩ := En.slice_arg (fs := intFs) (fun _ => rfl) (fun k o h => int_of h) h0
  exact En.both_walk W a1 hx0 hn0
theorem own : ownKnob Try.prog.godebug = none := by kernel_rfl
theorem laidOut : laidOutB Try.prog = true := by kernel_rfl
set_option maxRecDepth 100000 in
theorem lifted (os : Os) (started : os.Started) (H : Type) (enc : TypeId × Value → H) :
    ReturnsInHanded {} Try.checked os 3 .any (Rows.ringBothSpec.pre6 enc Try.prog Try.f3 Rows.ringBothRow.domain false) (Rows.ringBothSpec.post enc Try.prog Try.f3 false true false false) := by
  refine returnsInHanded_of_change_sized (C := Try.checked) own started (by kernel_rfl) Try.func3
    (ChangeSpec.witness6 (enc := enc) (C := Try.checked) false ⟨#[], #[.slice none 0 0, .int .i64 0], []⟩ 8 (by kernel_rfl) (by kernel_rfl) (by kernel_rfl) (by kernel_rfl)) ?_
  intro W base args ds gs before hval0 hW hcnd hsz0 _
  have hval : ∀ (j : Nat) t v, Try.f3.params[j]? = some t → args[j]? = some v → Value.okWide Try.prog W .any base t v := hval0
  have hW' := hW
  obtain ⟨p, q, hA0, hV, rfl, hfz, hnd⟩ := hW
  have hA : DataW.TrodAll enc Try.prog W 0 (fun _ => true) true Try.f3.params.toList args.toList ds p := hA0
  rw [Try.params3] at hA hval
  obtain ⟨v0, vs0, d0, ds0, p0, q0, hargs, rfl, rfl, h0, r0⟩ := trodAll_cons hA
  obtain ⟨v1, vs1, d1, ds1, p1, q1, rfl, rfl, rfl, h1, r1⟩ := trodAll_cons r0
  obtain ⟨rfl, rfl, rfl⟩ := trodAll_nil r1
  obtain rfl : args = #[v0, v1] := by cases args; simp_all
  obtain ⟨rfl, rfl⟩ := trodVars_none hV
  have hlt0 : ∀ x ∈ p0, x.block < W.heap.size := fun x hx => hW'.lt x (by simp [hx])
  have h0k := h0
  obtain ⟨s0, len0, cap0, rfl⟩ := okWide_slice Try.underlying22 (hval 0 22 v0 rfl rfl)
  obtain ⟨fuel0, hf0⟩ := h0
  have hs0 := (En.shape_read 20 22 [.sl 1 [.int .i64]] (by kernel_rfl) _ _ _ hf0).1
  have hlt1 : ∀ x ∈ p1, x.block < W.heap.size := fun x hx => hW'.lt x (by simp [hx])
  have h1k := h1
  obtain ⟨a1, rfl, _, _, w1⟩ := open_int Try.underlying3 (hval 1 3 v1 rfl rfl) h1
  clear hA0 hval0 hsz0
  refine (walk W _ hs0 a1 w1).mono fun e W' ⟨he, bel⟩ => ?_
  subst he
  exact ⟨_, rfl, _, _, _, [], _, [], hW', trodAll_mk1 (shut_bool Try.underlying4 _), (trodAll_cons_mk (Below.trod laidOut (by kernel_rfl) (of_decide_eq_true (by kernel_rfl)) h0k bel hlt0) (trodAll_cons_mk (Below.trod laidOut (by kernel_rfl) (of_decide_eq_true (by kernel_rfl)) h1k bel hlt1) trodAll_mk0)), rfl, bel.frame _, fun h => by cases h⟩
theorem over : Rows.ringBothRow.holds Try.pinned (OpenSpec.ofChange Rows.ringBothSpec) :=
  OpenClaim.holds_of_wide 3 Try.f3 rfl rfl rfl rfl rfl rfl rfl ⟨rfl, rfl, rfl, rfl, rfl⟩ rfl rfl rfl rfl rfl (by kernel_rfl) Try.func3 (by kernel_rfl)
    (of_decide_eq_true (by kernel_rfl)) (by unfold Func.isWrapper; first | (rw [if_pos (by decide +kernel)]; kernel_rfl) | (rw [if_neg (by decide +kernel)]; exact ⟨rfl, rfl⟩))
    (fun os started H enc _ => lifted os started H enc)
end Go.Proofs.Ytggneleipimijaa.ringBoth
namespace Go.Proofs.Ytggneleipimijaa
/-- The row, under a short name, for the claim. -/
theorem ringBoth_holds : Rows.RingBothSaid := ringBoth.over
#print axioms ringBoth_holds
end Go.Proofs.Ytggneleipimijaa
