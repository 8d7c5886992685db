/- ViewAgrees returns true where what it is handed is of bulk at most 1048576, and leaves what is there as it was. Proved: Rows.ViewAgreesUptoSaid. -/
import Derived.Test.YtdoehlinboiohaaRows
import Derived.Test.YtdoehlinboiohaaWD
import Derived.Test.YtdoehlinboiohaaF6
import Derived.WalkKit
import Derived.ProofKit
import Derived.OpenShut
import Derived.ShutString
import Derived.ChangeOld
import Derived.Below
import Derived.SizedLaws
import Derived.Carry
import Derived.ChangeSlices
import Derived.JoinedAt
import Derived.JoinedCond
namespace Go.Proofs.Ytdoehlinboiohaa.viewAgrees
open Go.ChangeShapes Go.WideShapes Go.ChangeAt Go.RowKit
open Go.ChangeMaps (open_string shut_string)
set_option linter.unusedVariables false
set_option linter.unusedSimpArgs false
theorem raw_of {w : World} {k o : Nat} (h : En.RShs w [.int .i64, .int .i64, .int .i64, .int .i64, .bool] k o) :
    ∃ a : En.Ent, ∀ (j : Nat) y, a.fs[j]? = some y → ∃ u, w.cell? ⟨k, o + j, none⟩ = some u ∧ En.RF (En.zAll w) y u := by
  obtain ⟨⟨u0, c0, n0, rfl, _⟩, ⟨u1, c1, n1, rfl, _⟩, ⟨u2, c2, n2, rfl, _⟩, ⟨u3, c3, n3, rfl, _⟩, ⟨u4, c4, n4, rfl⟩, _⟩ := h
  refine ⟨⟨n0, n1, n2, n3, n4⟩, fun j y hy => ?_⟩
  rcases j with _ | _ | _ | _ | _ | j
  · cases hy; exact ⟨_, c0, .lit _ rfl⟩
  · cases hy; exact ⟨_, c1, .lit _ rfl⟩
  · cases hy; exact ⟨_, c2, .lit _ rfl⟩
  · cases hy; exact ⟨_, c3, .lit _ rfl⟩
  · cases hy; exact ⟨_, c4, .lit _ rfl⟩
  · cases hy
abbrev R13 := { r : En.Raw13 // En.LnOk r.nl r.n }
instance : Inhabited R13 := ⟨⟨⟨0, 0, 0, false, false, true, 0, fun _ => default⟩, by decide, fun _ => rfl⟩⟩
abbrev R13.fs (a : R13) : List En.FV := a.1.fs
theorem raw13_of {w : World} {k o : Nat} (h : En.RShs w [.int .i64, .int .i64, .int .i64, .bool, .bool, .sl 5 [.int .i64, .int .i64, .int .i64, .int .i64, .bool]] k o) :
    ∃ a : R13, ∀ (j : Nat) y, a.fs[j]? = some y → ∃ u, w.cell? ⟨k, o + j, none⟩ = some u ∧ En.RF (En.zAll w) y u := by
  obtain ⟨⟨u0, c0, n0, rfl, _⟩, ⟨u1, c1, n1, rfl, _⟩, ⟨u2, c2, n2, rfl, _⟩, ⟨u3, c3, n3, rfl⟩, ⟨u4, c4, n4, rfl⟩, ⟨u5, c5, h5⟩, _⟩ := h
  obtain ⟨nl, n, x, hx, hn, hm, _⟩ := En.slice_arg (fs := En.Ent.fs) (fun _ => rfl) (fun k o h => raw_of h) h5
  refine ⟨⟨⟨n0, n1, n2, n3, n4, nl, n, x⟩, ⟨by simp only [maxLen] at hm; simp only; omega, hn⟩⟩, fun j y hy => ?_⟩
  rcases j with _ | _ | _ | _ | _ | _ | j
  · cases hy; exact ⟨_, c0, .lit _ rfl⟩
  · cases hy; exact ⟨_, c1, .lit _ rfl⟩
  · cases hy; exact ⟨_, c2, .lit _ rfl⟩
  · cases hy; exact ⟨_, c3, .lit _ rfl⟩
  · cases hy; exact ⟨_, c4, .lit _ rfl⟩
  · cases hy; exact ⟨_, c5, hx⟩
  · cases hy

theorem walk (W : World) (v0 : Value) (h0 : En.RSh W (.sl 6 [.int .i64, .int .i64, .int .i64, .bool, .bool, .sl 5 [.int .i64, .int .i64, .int .i64, .int .i64, .bool]]) v0) (hb0 : ∀ a n cap, v0 = .slice a n cap → n ≤ 1048576) (v1 : Value) (h1 : En.RSh W (.sl 6 [.int .i64, .int .i64, .int .i64, .bool, .bool, .sl 5 [.int .i64, .int .i64, .int .i64, .int .i64, .bool]]) v1) (hb1 : ∀ a n cap, v1 = .slice a n cap → n ≤ 1048576) : Calls Try.prog 12 #[v0, v1] W fun e w' => e = .returned (.bool true) ∧ Go.RowKit.Below W.heap.size W w' := by
  obtain ⟨nl0, n0, x0, hx0, hn0, hm0, ha0, hc0, he0⟩ := En.slice_arg (fs := R13.fs) (fun _ => rfl) (fun k o h => raw13_of h) h0
  have hu0 := hb0 _ _ _ he0
  obtain ⟨nl1, n1, x1, hx1, hn1, hm1, ha1, hc1, he1⟩ := En.slice_arg (fs := R13.fs) (fun _ => rfl) (fun k o h => raw13_of h) h1
  have hu1 := hb1 _ _ _ he1
  exact En.law_true En.GOWD1 En.GKWD1 (En.RAs.cons (x := .one (.f (.fs nl0 6 n0 fun i => R13.fs (x0 i)))) hx0 (En.RAs.cons (x := .one (.f (.fs nl1 6 n1 fun i => R13.fs (x1 i)))) hx1 En.RAs.nil)) (En.res_VAgrees nl0 n0 (fun i => (x0 i).1) nl1 n1 (fun i => (x1 i).1) ⟨⟨_, rfl, hn0, by omega, fun i _ => (x0 i).2⟩, ⟨_, rfl, hn1, by omega, fun i _ => (x1 i).2⟩⟩)
theorem bulk_pos {H : Type} : ∀ d : DataW H, 1 ≤ Rows.uptoBulk d := fun d => by cases d with
  | lit x => cases x <;> simp [Rows.uptoBulk]
  | _ => simp [Rows.uptoBulk]
theorem bulk_len {H : Type} : ∀ l : List (DataW H), l.length ≤ Rows.uptoBulkAll l
  | [] => Nat.zero_le _
  | d :: r => by
    have h1 := bulk_pos d
    have h2 := bulk_len r
    simp only [Rows.uptoBulkAll, List.length_cons]
    omega
theorem own : ownKnob Try.prog.godebug = none := by kernel_rfl
theorem laidOut : laidOutB Try.prog = true := by kernel_rfl
set_option maxRecDepth 100000 in
theorem lifted (os : Os) (started : os.Started) (H : Type) (enc : TypeId × Value → H) (F0 : Stop.Interp) :
    ReturnsInHanded {} Try.checked os 12 .any ((Rows.OpenSpec.upto Rows.viewAgreesSpec).pre6 enc Try.prog Try.f12 Rows.viewAgreesUptoRow.domain false) (((Rows.OpenSpec.upto Rows.viewAgreesSpec).at F0).post enc Try.prog Try.f12 false true false false) := by
  refine returnsInHanded_of_cond (C := Try.checked) (s := Rows.OpenSpec.upto Rows.viewAgreesSpec) (k := Rows.uptoSmall) rfl own started (by kernel_rfl) Try.func12
    (OpenSpec.witness (enc := enc) (C := Try.checked) (s := Rows.OpenSpec.upto Rows.viewAgreesSpec) (k := Rows.uptoSmall) rfl false ⟨#[], #[.slice none 0 0, .slice none 0 0], []⟩ 8 (by kernel_rfl) (by kernel_rfl) (by kernel_rfl)
      (x := ([.nil, .nil], [], [])) (by kernel_rfl) (by kernel_rfl) (by kernel_rfl)) ?_
  intro W base args ds gs before hval0 hW hcnd hk _
  have hval : ∀ (j : Nat) t v, Try.f12.params[j]? = some t → args[j]? = some v → Value.okWide Try.prog W .any base t v := hval0
  have hW' := hW
  obtain ⟨p, q, hA0, hV, rfl, hfz, hnd⟩ := hW
  have hA : DataW.TrodAll enc Try.prog W 0 (fun _ => true) true Try.f12.params.toList args.toList ds p := hA0
  rw [Try.params12] at hA hval
  obtain ⟨v0, vs0, d0, ds0, p0, q0, hargs, rfl, rfl, h0, r0⟩ := trodAll_cons hA
  obtain ⟨v1, vs1, d1, ds1, p1, q1, rfl, rfl, rfl, h1, r1⟩ := trodAll_cons r0
  obtain ⟨rfl, rfl, rfl⟩ := trodAll_nil r1
  obtain rfl : args = #[v0, v1] := by cases args; simp_all
  obtain ⟨rfl, rfl⟩ := trodVars_none hV
  have hlt0 : ∀ x ∈ p0, x.block < W.heap.size := fun x hx => hW'.lt x (by simp [hx])
  have h0k := h0
  obtain ⟨s0, len0, cap0, rfl⟩ := okWide_slice Try.underlying54 (hval 0 54 v0 rfl rfl)
  obtain ⟨fuel0, hf0⟩ := h0
  have hs0 := (En.shape_read 20 54 [.sl 6 [.int .i64, .int .i64, .int .i64, .bool, .bool, .sl 5 [.int .i64, .int .i64, .int .i64, .int .i64, .bool]]] (by kernel_rfl) _ _ _ hf0).1
  have hlt1 : ∀ x ∈ p1, x.block < W.heap.size := fun x hx => hW'.lt x (by simp [hx])
  have h1k := h1
  obtain ⟨s1, len1, cap1, rfl⟩ := okWide_slice Try.underlying54 (hval 1 54 v1 rfl rfl)
  obtain ⟨fuel1, hf1⟩ := h1
  have hs1 := (En.shape_read 20 54 [.sl 6 [.int .i64, .int .i64, .int .i64, .bool, .bool, .sl 5 [.int .i64, .int .i64, .int .i64, .int .i64, .bool]]] (by kernel_rfl) _ _ _ hf1).1
  have hk2 := of_decide_eq_true hk
  have hb0 : ∀ a n cap, Value.slice s0 len0 cap0 = .slice a n cap → n ≤ 1048576 := by
    intro a n cap e
    cases e
    rcases DataW.trod_slice Try.underlying54 hf0 with ⟨hx0, hx⟩ | ⟨a, len', cap', elems, rest, n, e', hcs, hx, _, hl, hm, hlen, hel, _, _⟩
    · simp [Value.cells] at hx0
      omega
    · simp [Value.cells] at hcs
      simp only [Prod.mk.injEq] at hx
      have h3 := bulk_len (elems.map (·.1))
      rw [hx.1] at hk2
      simp [Rows.uptoBulkAll, Rows.uptoBulk] at hk2
      simp at h3
      omega
  have hb1 : ∀ a n cap, Value.slice s1 len1 cap1 = .slice a n cap → n ≤ 1048576 := by
    intro a n cap e
    cases e
    rcases DataW.trod_slice Try.underlying54 hf1 with ⟨hx0, hx⟩ | ⟨a, len', cap', elems, rest, n, e', hcs, hx, _, hl, hm, hlen, hel, _, _⟩
    · simp [Value.cells] at hx0
      omega
    · simp [Value.cells] at hcs
      simp only [Prod.mk.injEq] at hx
      have h3 := bulk_len (elems.map (·.1))
      rw [hx.1] at hk2
      simp [Rows.uptoBulkAll, Rows.uptoBulk] at hk2
      simp at h3
      omega
  clear hA0 hval0
  refine (walk W _ hs0 hb0 _ hs1 hb1).mono fun e W' ⟨he, bel⟩ => ?_
  subst he
  exact ⟨_, rfl, _, _, _, [], _, [], hW', trodAll_mk1 (shut_bool Try.underlying4 _), (trodAll_cons_mk (Below.trod laidOut (by kernel_rfl) (of_decide_eq_true (by kernel_rfl)) h0k bel hlt0) (trodAll_cons_mk (Below.trod laidOut (by kernel_rfl) (of_decide_eq_true (by kernel_rfl)) h1k bel hlt1) trodAll_mk0)), rfl, bel.frame _, fun h => by cases h⟩
theorem over : Rows.viewAgreesUptoRow.holds Try.pinned (Rows.OpenSpec.upto Rows.viewAgreesSpec) :=
  OpenClaim.holds_of_cond 12 Try.f12 rfl rfl rfl rfl rfl rfl rfl ⟨rfl, rfl, rfl, rfl, rfl⟩ rfl rfl rfl rfl rfl (by kernel_rfl) Try.func12 (by kernel_rfl)
    (of_decide_eq_true (by kernel_rfl)) (by unfold Func.isWrapper; first | (rw [if_pos (by decide +kernel)]; kernel_rfl) | (rw [if_neg (by decide +kernel)]; exact ⟨rfl, rfl⟩))
    (fun os started H enc _ F0 => lifted os started H enc F0)
end Go.Proofs.Ytdoehlinboiohaa.viewAgrees
namespace Go.Proofs.Ytdoehlinboiohaa
/-- The row, under a short name, for the claim. -/
theorem viewAgrees_holds : Rows.ViewAgreesUptoSaid := viewAgrees.over
#print axioms viewAgrees_holds
end Go.Proofs.Ytdoehlinboiohaa
