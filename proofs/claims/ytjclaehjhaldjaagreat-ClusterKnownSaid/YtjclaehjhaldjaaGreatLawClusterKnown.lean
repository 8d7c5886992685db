/- osmosislaw25.ClusterKnown returns true, and leaves what is there as it was: the closed engine's run of it, in pieces, comes to true; and what the row's form asks besides. Proved: Rows.ClusterKnownSaid. -/
import Derived.Test.YtjclaehjhaldjaaGreatRows
import Derived.Test.YtjclaehjhaldjaaGreatKD
import Derived.Test.YtjclaehjhaldjaaGreatKc5
import Derived.Test.YtjclaehjhaldjaaGreatPc3x0
import Derived.Test.YtjclaehjhaldjaaGreatPc3x1
import Derived.Test.YtjclaehjhaldjaaGreatPc3x2
import Derived.WalkKit
import Derived.ProofKit
import Derived.OpenShut
import Derived.ShutString
import Derived.ChangeOld
import Derived.Below
import Derived.SizedLaws
namespace Go.Proofs.YtjclaehjhaldjaaGreat.clusterKnown
open Go.ChangeShapes Go.WideShapes Go.ChangeAt Go.RowKit
set_option linter.unusedVariables false
open Kn in
theorem fi : ((Kn.Ctx.know Kn.GC 5)).fi 3 = some Tryz.f3 := by kernel_rfl
open Kn in
theorem bodyIs : Tryz.f3.body = some body3 := by kernel_rfl
open Kn in
theorem dr : DrOk (Kn.Ctx.know Kn.GC 5) 3 body3 := ((Kn.Ctx.know_known (g := 5) Kn.GC_known Kn.kc5)).dr 3 Tryz.f3 body3 fi bodyIs
open Kn in
theorem last : ((fev (Kn.Ctx.know Kn.GC 5) 382 3 (kc (Kn.Ctx.know Kn.GC 5) 3 Tryz.f3.ntmps (restC 18 body3)) Pc3x2.st).bind fun (e, st) => match e with | .exit _ => .bad | _ => (resultsOf (Kn.Ctx.know Kn.GC 5) st Tryz.f3.results.toList).bind fun l => match l with | [.one (.f (.lit (.bool b)))] => .ret b | _ => .bad).res = some true := by kernel_rfl
open Kn in
theorem goes3 : Goes Tryz.prog Tryz.f3 (restC 18 body3) Pc3x2.st := lastPiece (G := (Kn.Ctx.know Kn.GC 5)) (Kn.Ctx.know_ok (g := 5) Kn.GC_ok) (Kn.Ctx.know_known (g := 5) Kn.GC_known Kn.kc5) rfl (restC_dr 18 dr) last
open Kn in
theorem code2 : restC 6 (restC 12 body3) = restC 18 body3 := by kernel_rfl
open Kn in
theorem goes2 : Goes Tryz.prog Tryz.f3 (restC 12 body3) Pc3x1.st :=
  piece (G := (Kn.Ctx.know Kn.GC 5)) (Kn.Ctx.know_ok (g := 5) Kn.GC_ok) (Kn.Ctx.know_known (g := 5) Kn.GC_known Kn.kc5) rfl (restC_dr 12 dr) Pc3x2.run (code2 ▸ goes3)
open Kn in
theorem code1 : restC 6 (restC 6 body3) = restC 12 body3 := by kernel_rfl
open Kn in
theorem goes1 : Goes Tryz.prog Tryz.f3 (restC 6 body3) Pc3x0.st :=
  piece (G := (Kn.Ctx.know Kn.GC 5)) (Kn.Ctx.know_ok (g := 5) Kn.GC_ok) (Kn.Ctx.know_known (g := 5) Kn.GC_known Kn.kc5) rfl (restC_dr 6 dr) Pc3x1.run (code1 ▸ goes2)
open Kn in
theorem code0 : restC 6 (restC 0 body3) = restC 6 body3 := by kernel_rfl
open Kn in
theorem goes0 : Goes Tryz.prog Tryz.f3 (restC 0 body3) ⟨Slots.none Tryz.f3.ntmps, Heap.none, 0, false, 0, []⟩ :=
  piece (G := (Kn.Ctx.know Kn.GC 5)) (Kn.Ctx.know_ok (g := 5) Kn.GC_ok) (Kn.Ctx.know_known (g := 5) Kn.GC_known Kn.kc5) rfl (restC_dr 0 dr) Pc3x0.run (code0 ▸ goes1)
theorem walk (w : World) : Calls Tryz.prog 3 #[] w fun e w' => e = .returned (.bool true) ∧ Go.RowKit.Below w.heap.size w w' :=
  Kn.pieces_ok (Kn.Ctx.know_ok (g := 5) Kn.GC_ok) fi bodyIs goes0 w
theorem own : ownKnob Tryz.prog.godebug = none := by kernel_rfl
set_option maxRecDepth 100000 in
theorem lifted (os : Os) (started : os.Started) (H : Type) (enc : TypeId × Value → H) :
    ReturnsInHanded {} Tryz.checked os 3 .any (Rows.clusterKnownSpec.pre6 enc Tryz.prog Tryz.f3 Rows.clusterKnownRow.domain false) (Rows.clusterKnownSpec.post enc Tryz.prog Tryz.f3 false true false false) := by
  refine returnsInHanded_of_change_sized (C := Tryz.checked) own started (by kernel_rfl) Tryz.func3
    (ChangeSpec.witness6 (enc := enc) (C := Tryz.checked) false ⟨#[], #[], []⟩ 8 (by kernel_rfl) (by kernel_rfl) (by kernel_rfl) (by kernel_rfl)) ?_
  intro W base args ds gs before hval0 hW hcnd hsz0 _
  have hW' := hW
  obtain ⟨p, q, hA0, hV, rfl, hfz, hnd⟩ := hW
  have hA : DataW.TrodAll enc Tryz.prog W 0 (fun _ => true) true Tryz.f3.params.toList args.toList ds p := hA0
  rw [Tryz.params3] at hA
  obtain ⟨rfl, rfl⟩ := trodVars_none hV
  obtain ⟨hnil, rfl, rfl⟩ := trodAll_nil hA
  obtain rfl : args = #[] := by cases args; simp_all
  refine (walk W).mono fun e W' ⟨he, bel⟩ => ?_
  subst he
  exact ⟨_, rfl, _, _, _, [], _, [], hW', trodAll_mk1 (shut_bool Tryz.underlying4 _), trodAll_mk0, rfl, bel.frame _, fun h => by cases h⟩
theorem over : Rows.clusterKnownRow.holds Tryz.pinned (OpenSpec.ofChange Rows.clusterKnownSpec) :=
  OpenClaim.holds_of_wide 3 Tryz.f3 rfl rfl rfl rfl rfl rfl rfl ⟨rfl, rfl, rfl, rfl, rfl⟩ rfl rfl rfl rfl rfl (by kernel_rfl) Tryz.func3 (by kernel_rfl)
    (of_decide_eq_true (by kernel_rfl)) (by unfold Func.isWrapper; first | (rw [if_pos (by decide +kernel)]; kernel_rfl) | (rw [if_neg (by decide +kernel)]; exact ⟨rfl, rfl⟩))
    (fun os started H enc _ => lifted os started H enc)
end Go.Proofs.YtjclaehjhaldjaaGreat.clusterKnown
namespace Go.Proofs.YtjclaehjhaldjaaGreat
/-- The row, under a short name, for the claim. -/
theorem clusterKnown_holds : Rows.ClusterKnownSaid := clusterKnown.over
#print axioms clusterKnown_holds
end Go.Proofs.YtjclaehjhaldjaaGreat
