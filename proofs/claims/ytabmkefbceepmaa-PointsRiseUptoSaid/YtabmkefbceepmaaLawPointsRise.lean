/- PointsRise returns true where what it is handed is of bulk at most 1048576, and leaves what is there as it was. Proved: Rows.PointsRiseUptoSaid. -/
import Derived.Test.YtabmkefbceepmaaRows
import Derived.Test.YtabmkefbceepmaaPM
import Derived.Test.YtabmkefbceepmaaF6
import Derived.WalkKit
import Derived.ProofKit
import Derived.OpenShut
import Derived.ShutString
import Derived.ChangeOld
import Derived.Below
import Derived.SizedLaws
import Derived.Carry
import Derived.ChangeSlices
import Derived.JoinedAt
import Derived.JoinedCond
namespace Go.Proofs.Ytabmkefbceepmaa.pointsRise
open Go.ChangeShapes Go.WideShapes Go.ChangeAt Go.RowKit
open Go.ChangeMaps (open_string shut_string)
set_option linter.unusedVariables false
set_option linter.unusedSimpArgs false
instance : Inhabited En.Raw17 := ⟨⟨0, 0, 0⟩⟩
theorem raw17_of {w : World} {k o : Nat} (h : En.RShs w [.int .i64, .int .i64, .int .i64] k o) :
    ∃ a : En.Raw17, ∀ (j : Nat) y, a.fs[j]? = some y → ∃ u, w.cell? ⟨k, o + j, none⟩ = some u ∧ En.RF (En.zAll w) y u := by
  obtain ⟨⟨u0, c0, n0, rfl, _⟩, ⟨u1, c1, n1, rfl, _⟩, ⟨u2, c2, n2, rfl, _⟩, _⟩ := h
  refine ⟨⟨n0, n1, n2⟩, fun j y hy => ?_⟩
  match j, hy with
  | 0, hy => cases hy; exact ⟨_, c0, .lit _ rfl⟩
  | 1, hy => cases hy; exact ⟨_, c1, .lit _ rfl⟩
  | 2, hy => cases hy; exact ⟨_, c2, .lit _ rfl⟩
  | j + 3, hy => simp [En.Raw17.fs] at hy

theorem walk (W : World) (v0 : Value) (h0 : En.RSh W (.sl 3 [.int .i64, .int .i64, .int .i64]) v0) (hb0 : ∀ a n cap, v0 = .slice a n cap → n ≤ 1048576) (a1 : Int) (w1 : (Lit.int .i64 a1).wf = true) : Calls Try.prog 10 #[v0, .int .i64 a1] W fun e w' => e = .returned (.bool true) ∧ Go.RowKit.Below W.heap.size W w' := by
  obtain ⟨nl0, n0, x0, hx0, hn0, hm0, ha0, hc0, he0⟩ := En.slice_arg (fs := En.Raw17.fs) (fun _ => rfl) (fun k o h => raw17_of h) h0
  have hu0 := hb0 _ _ _ he0
  exact En.law_true (En.GS_ok.with _ _) En.GKPM1 (En.RAs.cons (x := .one (.f (.fs nl0 3 n0 fun i => En.Raw17.fs (x0 i)))) hx0 (En.RAs.cons (x := .one (.f (.lit (.int .i64 a1)))) (En.RF.lit _ rfl) En.RAs.nil)) (En.res_PRise nl0 n0 x0 a1 ⟨by omega, hn0⟩)
theorem bulk_pos {H : Type} : ∀ d : DataW H, 1 ≤ Rows.uptoBulk d := fun d => by cases d with
  | lit x => cases x <;> simp [Rows.uptoBulk]
  | _ => simp [Rows.uptoBulk]
theorem bulk_len {H : Type} : ∀ l : List (DataW H), l.length ≤ Rows.uptoBulkAll l
  | [] => Nat.zero_le _
  | d :: r => by
    have h1 := bulk_pos d
    have h2 := bulk_len r
    simp only [Rows.uptoBulkAll, List.length_cons]
    omega
theorem own : ownKnob Try.prog.godebug = none := by kernel_rfl
theorem laidOut : laidOutB Try.prog = true := by kernel_rfl
set_option maxRecDepth 100000 in
theorem lifted (os : Os) (started : os.Started) (H : Type) (enc : TypeId × Value → H) (F0 : Stop.Interp) :
    ReturnsInHanded {} Try.checked os 10 .any ((Rows.OpenSpec.upto Rows.pointsRiseSpec).pre6 enc Try.prog Try.f10 Rows.pointsRiseUptoRow.domain false) (((Rows.OpenSpec.upto Rows.pointsRiseSpec).at F0).post enc Try.prog Try.f10 false true false false) := by
  refine returnsInHanded_of_cond (C := Try.checked) (s := Rows.OpenSpec.upto Rows.pointsRiseSpec) (k := Rows.uptoSmall) rfl own started (by kernel_rfl) Try.func10
    (OpenSpec.witness (enc := enc) (C := Try.checked) (s := Rows.OpenSpec.upto Rows.pointsRiseSpec) (k := Rows.uptoSmall) rfl false ⟨#[], #[.slice none 0 0, .int .i64 0], []⟩ 8 (by kernel_rfl) (by kernel_rfl) (by kernel_rfl)
      (x := ([.nil, .lit (.int .i64 0)], [], [])) (by kernel_rfl) (by kernel_rfl) (by kernel_rfl)) ?_
  intro W base args ds gs before hval0 hW hcnd hk _
  have hval : ∀ (j : Nat) t v, Try.f10.params[j]? = some t → args[j]? = some v → Value.okWide Try.prog W .any base t v := hval0
  have hW' := hW
  obtain ⟨p, q, hA0, hV, rfl, hfz, hnd⟩ := hW
  have hA : DataW.TrodAll enc Try.prog W 0 (fun _ => true) true Try.f10.params.toList args.toList ds p := hA0
  rw [Try.params10] at hA hval
  obtain ⟨v0, vs0, d0, ds0, p0, q0, hargs, rfl, rfl, h0, r0⟩ := trodAll_cons hA
  obtain ⟨v1, vs1, d1, ds1, p1, q1, rfl, rfl, rfl, h1, r1⟩ := trodAll_cons r0
  obtain ⟨rfl, rfl, rfl⟩ := trodAll_nil r1
  obtain rfl : args = #[v0, v1] := by cases args; simp_all
  obtain ⟨rfl, rfl⟩ := trodVars_none hV
  have hlt0 : ∀ x ∈ p0, x.block < W.heap.size := fun x hx => hW'.lt x (by simp [hx])
  have h0k := h0
  obtain ⟨s0, len0, cap0, rfl⟩ := okWide_slice Try.underlying79 (hval 0 79 v0 rfl rfl)
  obtain ⟨fuel0, hf0⟩ := h0
  have hs0 := (En.shape_read 20 79 [.sl 3 [.int .i64, .int .i64, .int .i64]] (by kernel_rfl) _ _ _ hf0).1
  have hlt1 : ∀ x ∈ p1, x.block < W.heap.size := fun x hx => hW'.lt x (by simp [hx])
  have h1k := h1
  obtain ⟨a1, rfl, _, _, w1⟩ := open_int Try.underlying3 (hval 1 3 v1 rfl rfl) h1
  have hk2 := of_decide_eq_true hk
  have hb0 : ∀ a n cap, Value.slice s0 len0 cap0 = .slice a n cap → n ≤ 1048576 := by
    intro a n cap e
    cases e
    rcases DataW.trod_slice Try.underlying79 hf0 with ⟨hx0, hx⟩ | ⟨a, len', cap', elems, rest, n, e', hcs, hx, _, hl, hm, hlen, hel, _, _⟩
    · simp [Value.cells] at hx0
      omega
    · simp [Value.cells] at hcs
      simp only [Prod.mk.injEq] at hx
      have h3 := bulk_len (elems.map (·.1))
      rw [hx.1] at hk2
      simp [Rows.uptoBulkAll, Rows.uptoBulk] at hk2
      simp at h3
      omega
  clear hA0 hval0
  refine (walk W _ hs0 hb0 a1 w1).mono fun e W' ⟨he, bel⟩ => ?_
  subst he
  exact ⟨_, rfl, _, _, _, [], _, [], hW', trodAll_mk1 (shut_bool Try.underlying4 _), (trodAll_cons_mk (Below.trod laidOut (by kernel_rfl) (of_decide_eq_true (by kernel_rfl)) h0k bel hlt0) (trodAll_cons_mk (Below.trod laidOut (by kernel_rfl) (of_decide_eq_true (by kernel_rfl)) h1k bel hlt1) trodAll_mk0)), rfl, bel.frame _, fun h => by cases h⟩
theorem over : Rows.pointsRiseUptoRow.holds Try.pinned (Rows.OpenSpec.upto Rows.pointsRiseSpec) :=
  OpenClaim.holds_of_cond 10 Try.f10 rfl rfl rfl rfl rfl rfl rfl ⟨rfl, rfl, rfl, rfl, rfl⟩ rfl rfl rfl rfl rfl (by kernel_rfl) Try.func10 (by kernel_rfl)
    (of_decide_eq_true (by kernel_rfl)) (by unfold Func.isWrapper; first | (rw [if_pos (by decide +kernel)]; kernel_rfl) | (rw [if_neg (by decide +kernel)]; exact ⟨rfl, rfl⟩))
    (fun os started H enc _ F0 => lifted os started H enc F0)
end Go.Proofs.Ytabmkefbceepmaa.pointsRise
namespace Go.Proofs.Ytabmkefbceepmaa
/-- The row, under a short name, for the claim. -/
theorem pointsRise_holds : Rows.PointsRiseUptoSaid := pointsRise.over
#print axioms pointsRise_holds
end Go.Proofs.Ytabmkefbceepmaa
