/- osmosislaw26.CalmKnown returns true, and leaves what is there as it was: the closed engine's run of it, in pieces, comes to true; and what the row's form asks besides. Proved: Rows.CalmKnownSaid. -/
import Derived.Test.YtpidkmegakdohaaGreatRows
import Derived.Test.YtpidkmegakdohaaGreatKD
import Derived.Test.YtpidkmegakdohaaGreatKc5
import Derived.Test.YtpidkmegakdohaaGreatCb
import Derived.WalkKit
import Derived.ProofKit
import Derived.OpenShut
import Derived.ShutString
import Derived.ChangeOld
import Derived.Below
import Derived.SizedLaws
import Derived.Test.YtpidkmegakdohaaGreatZ1
import Derived.Test.YtpidkmegakdohaaGreatZ2
namespace Go.Proofs.YtpidkmegakdohaaGreat.calmKnown
open Go.ChangeShapes Go.WideShapes Go.ChangeAt Go.RowKit
set_option linter.unusedVariables false
open Kn in
theorem last : ((fev (Kn.Ctx.knowL (Kn.Ctx.know Kn.GC 5) 7 [Kn.L0z.lc, Kn.L1z.lc, Kn.L2z.lc]) 386 3 (kc (Kn.Ctx.knowL (Kn.Ctx.know Kn.GC 5) 7 [Kn.L0z.lc, Kn.L1z.lc, Kn.L2z.lc]) 3 Tryz.f3.ntmps (restC 14 body3)) T5.st).bind fun (e, st) => match e with | .exit _ => .bad | _ => (resultsOf (Kn.Ctx.knowL (Kn.Ctx.know Kn.GC 5) 7 [Kn.L0z.lc, Kn.L1z.lc, Kn.L2z.lc]) st Tryz.f3.results.toList).bind fun l => match l with | [.one (.f (.lit (.bool b)))] => .ret b | _ => .bad).res = some true := by kernel_rfl
open Kn in
theorem goes6 : Goes Tryz.prog Tryz.f3 (restC 14 body3) T5.st := lastPiece (G := (Kn.Ctx.knowL (Kn.Ctx.know Kn.GC 5) 7 [Kn.L0z.lc, Kn.L1z.lc, Kn.L2z.lc])) (Kn.Ctx.knowL_ok Kn.G1_ok) (Kn.Ctx.knowL_known Kn.G1_known (Kn.lcs_cons Kn.L0z.ok (Kn.lcs_cons Kn.L1z.ok (Kn.lcs_cons Kn.L2z.ok Kn.lcs_nil)))) rfl (Kn.DrOk.congr (G := Kn.GC) (G' := (Kn.Ctx.knowL (Kn.Ctx.know Kn.GC 5) 7 [Kn.L0z.lc, Kn.L1z.lc, Kn.L2z.lc])) rfl (Kn.restC_dr 14 Kn.topdr)) last
open Kn in
theorem code5 : restC 1 (restC 13 body3) = restC 14 body3 := by kernel_rfl
open Kn in
theorem goes5 : Goes Tryz.prog Tryz.f3 (restC 13 body3) T4.st :=
  piece (G := (Kn.Ctx.knowL (Kn.Ctx.know Kn.GC 5) 7 [Kn.L0z.lc, Kn.L1z.lc, Kn.L2z.lc])) (Kn.Ctx.knowL_ok Kn.G1_ok) (Kn.Ctx.knowL_known Kn.G1_known (Kn.lcs_cons Kn.L0z.ok (Kn.lcs_cons Kn.L1z.ok (Kn.lcs_cons Kn.L2z.ok Kn.lcs_nil)))) rfl (Kn.DrOk.congr (G := Kn.GC) (G' := (Kn.Ctx.knowL (Kn.Ctx.know Kn.GC 5) 7 [Kn.L0z.lc, Kn.L1z.lc, Kn.L2z.lc])) rfl (Kn.restC_dr 13 Kn.topdr)) T5.run (code5 ▸ goes6)
open Kn in
theorem code4 : restC 5 (restC 8 body3) = restC 13 body3 := by kernel_rfl
open Kn in
theorem goes4 : Goes Tryz.prog Tryz.f3 (restC 8 body3) T3.st :=
  piece (G := (Kn.Ctx.knowL (Kn.Ctx.know Kn.GC 5) 7 [Kn.L0z.lc, Kn.L1z.lc])) (Kn.Ctx.knowL_ok Kn.G1_ok) (Kn.Ctx.knowL_known Kn.G1_known (Kn.lcs_cons Kn.L0z.ok (Kn.lcs_cons Kn.L1z.ok Kn.lcs_nil))) rfl (Kn.DrOk.congr (G := Kn.GC) (G' := (Kn.Ctx.knowL (Kn.Ctx.know Kn.GC 5) 7 [Kn.L0z.lc, Kn.L1z.lc])) rfl (Kn.restC_dr 8 Kn.topdr)) T4.run (code4 ▸ goes5)
open Kn in
theorem code3 : restC 1 (restC 7 body3) = restC 8 body3 := by kernel_rfl
open Kn in
theorem goes3 : Goes Tryz.prog Tryz.f3 (restC 7 body3) T2.st :=
  piece (G := (Kn.Ctx.knowL (Kn.Ctx.know Kn.GC 5) 7 [Kn.L0z.lc, Kn.L1z.lc])) (Kn.Ctx.knowL_ok Kn.G1_ok) (Kn.Ctx.knowL_known Kn.G1_known (Kn.lcs_cons Kn.L0z.ok (Kn.lcs_cons Kn.L1z.ok Kn.lcs_nil))) rfl (Kn.DrOk.congr (G := Kn.GC) (G' := (Kn.Ctx.knowL (Kn.Ctx.know Kn.GC 5) 7 [Kn.L0z.lc, Kn.L1z.lc])) rfl (Kn.restC_dr 7 Kn.topdr)) T3.run (code3 ▸ goes4)
open Kn in
theorem code2 : restC 2 (restC 5 body3) = restC 7 body3 := by kernel_rfl
open Kn in
theorem goes2 : Goes Tryz.prog Tryz.f3 (restC 5 body3) T1.st :=
  piece (G := (Kn.Ctx.knowL (Kn.Ctx.know Kn.GC 5) 7 [Kn.L0z.lc])) (Kn.Ctx.knowL_ok Kn.G1_ok) (Kn.Ctx.knowL_known Kn.G1_known (Kn.lcs_cons Kn.L0z.ok Kn.lcs_nil)) rfl (Kn.DrOk.congr (G := Kn.GC) (G' := (Kn.Ctx.knowL (Kn.Ctx.know Kn.GC 5) 7 [Kn.L0z.lc])) rfl (Kn.restC_dr 5 Kn.topdr)) T2.run (code2 ▸ goes3)
open Kn in
theorem code1 : restC 1 (restC 4 body3) = restC 5 body3 := by kernel_rfl
open Kn in
theorem goes1 : Goes Tryz.prog Tryz.f3 (restC 4 body3) T0.st :=
  piece (G := (Kn.Ctx.knowL (Kn.Ctx.know Kn.GC 5) 7 [Kn.L0z.lc])) (Kn.Ctx.knowL_ok Kn.G1_ok) (Kn.Ctx.knowL_known Kn.G1_known (Kn.lcs_cons Kn.L0z.ok Kn.lcs_nil)) rfl (Kn.DrOk.congr (G := Kn.GC) (G' := (Kn.Ctx.knowL (Kn.Ctx.know Kn.GC 5) 7 [Kn.L0z.lc])) rfl (Kn.restC_dr 4 Kn.topdr)) T1.run (code1 ▸ goes2)
open Kn in
theorem code0 : restC 4 (restC 0 body3) = restC 4 body3 := by kernel_rfl
open Kn in
theorem goes0 : Goes Tryz.prog Tryz.f3 (restC 0 body3) ⟨Slots.none Tryz.f3.ntmps, Heap.none, 0, false, 0, []⟩ :=
  piece (G := (Kn.Ctx.know Kn.GC 5)) Kn.G1_ok Kn.G1_known rfl (Kn.DrOk.congr (G := Kn.GC) (G' := (Kn.Ctx.know Kn.GC 5)) rfl (Kn.restC_dr 0 Kn.topdr)) T0.run (code0 ▸ goes1)
theorem walk (w : World) : Calls Tryz.prog 3 #[] w fun e w' => e = .returned (.bool true) ∧ Go.RowKit.Below w.heap.size w w' :=
  Kn.pieces_ok Kn.GC_ok Kn.topfi Kn.bodyIs goes0 w
theorem own : ownKnob Tryz.prog.godebug = none := by kernel_rfl
set_option maxRecDepth 100000 in
theorem lifted (os : Os) (started : os.Started) (H : Type) (enc : TypeId × Value → H) :
    ReturnsInHanded {} Tryz.checked os 3 .any (Rows.calmKnownSpec.pre6 enc Tryz.prog Tryz.f3 Rows.calmKnownRow.domain false) (Rows.calmKnownSpec.post enc Tryz.prog Tryz.f3 false true false false) := by
  refine returnsInHanded_of_change_sized (C := Tryz.checked) own started (by kernel_rfl) Tryz.func3
    (ChangeSpec.witness6 (enc := enc) (C := Tryz.checked) false ⟨#[], #[], []⟩ 8 (by kernel_rfl) (by kernel_rfl) (by kernel_rfl) (by kernel_rfl)) ?_
  intro W base args ds gs before hval0 hW hcnd hsz0 _
  have hW' := hW
  obtain ⟨p, q, hA0, hV, rfl, hfz, hnd⟩ := hW
  have hA : DataW.TrodAll enc Tryz.prog W 0 (fun _ => true) true Tryz.f3.params.toList args.toList ds p := hA0
  rw [Tryz.params3] at hA
  obtain ⟨rfl, rfl⟩ := trodVars_none hV
  obtain ⟨hnil, rfl, rfl⟩ := trodAll_nil hA
  obtain rfl : args = #[] := by cases args; simp_all
  refine (walk W).mono fun e W' ⟨he, bel⟩ => ?_
  subst he
  exact ⟨_, rfl, _, _, _, [], _, [], hW', trodAll_mk1 (shut_bool Tryz.underlying4 _), trodAll_mk0, rfl, bel.frame _, fun h => by cases h⟩
theorem over : Rows.calmKnownRow.holds Tryz.pinned (OpenSpec.ofChange Rows.calmKnownSpec) :=
  OpenClaim.holds_of_wide 3 Tryz.f3 rfl rfl rfl rfl rfl rfl rfl ⟨rfl, rfl, rfl, rfl, rfl⟩ rfl rfl rfl rfl rfl (by kernel_rfl) Tryz.func3 (by kernel_rfl)
    (of_decide_eq_true (by kernel_rfl)) (by unfold Func.isWrapper; first | (rw [if_pos (by decide +kernel)]; kernel_rfl) | (rw [if_neg (by decide +kernel)]; exact ⟨rfl, rfl⟩))
    (fun os started H enc _ => lifted os started H enc)
end Go.Proofs.YtpidkmegakdohaaGreat.calmKnown
namespace Go.Proofs.YtpidkmegakdohaaGreat
/-- The row, under a short name, for the claim. -/
theorem calmKnown_holds : Rows.CalmKnownSaid := calmKnown.over
#print axioms calmKnown_holds
end Go.Proofs.YtpidkmegakdohaaGreat
