/- RingTells returns true where what it is handed is of bulk at most 1048576, and leaves what is there as it was. Proved: Rows.RingTellsUptoSaid. -/
import Derived.Test.YtggneleipimijaaRows
import Derived.Test.YtggneleipimijaaG13
import Derived.Test.YtggneleipimijaaG06
import Derived.WalkKit
import Derived.ProofKit
import Derived.OpenShut
import Derived.ShutString
import Derived.ChangeOld
import Derived.Below
import Derived.SizedLaws
import Derived.Carry
import Derived.ChangeSlices
import Derived.JoinedAt
import Derived.JoinedCond
namespace Go.Proofs.Ytggneleipimijaa.ringTells
open Go.ChangeShapes Go.WideShapes Go.ChangeAt Go.RowKit
open Go.ChangeMaps (open_string shut_string)
set_option linter.unusedVariables false
set_option linter.unusedSimpArgs false
theorem raw_of {w : World} {k o : Nat} (h : En.RShs w [.int .i64, .int .i64, .int .i64, .int .i64, .bool] k o) :
    ∃ a : En.Ent, ∀ (j : Nat) y, a.fs[j]? = some y → ∃ u, w.cell? ⟨k, o + j, none⟩ = some u ∧ En.RF (En.zAll w) y u := by
  obtain ⟨⟨u0, c0, n0, rfl, _⟩, ⟨u1, c1, n1, rfl, _⟩, ⟨u2, c2, n2, rfl, _⟩, ⟨u3, c3, n3, rfl, _⟩, ⟨u4, c4, n4, rfl⟩, _⟩ := h
  refine ⟨⟨n0, n1, n2, n3, n4⟩, fun j y hy => ?_⟩
  rcases j with _ | _ | _ | _ | _ | j
  · cases hy; exact ⟨_, c0, .lit _ rfl⟩
  · cases hy; exact ⟨_, c1, .lit _ rfl⟩
  · cases hy; exact ⟨_, c2, .lit _ rfl⟩
  · cases hy; exact ⟨_, c3, .lit _ rfl⟩
  · cases hy; exact ⟨_, c4, .lit _ rfl⟩
  · cases hy
def intFs (a : Int) : List En.FV := [.lit (.int .i64 a)]
theorem int_of {w : World} {k o : Nat} (h : En.RShs w [.int .i64] k o) :
    ∃ a : Int, ∀ (j : Nat) y, (intFs a)[j]? = some y → ∃ u, w.cell? ⟨k, o + j, none⟩ = some u ∧ En.RF (En.zAll w) y u := by
  obtain ⟨⟨u0, c0, n0, rfl, _⟩, _⟩ := h
  refine ⟨n0, fun j y hy => ?_⟩
  rcases j with _ | j
  · cases hy; exact ⟨_, c0, .lit _ rfl⟩
  · cases hy

theorem walk (W : World) (a0 : Int) (w0 : (Lit.int .i64 a0).wf = true) (v1 : Value) (h1 : En.RSh W (.sl 1 [.int .i64]) v1) (hb1 : ∀ a n cap, v1 = .slice a n cap → n ≤ 1048576) (v2 : Value) (h2 : En.RSh W (.sl 5 [.int .i64, .int .i64, .int .i64, .int .i64, .bool]) v2) (hb2 : ∀ a n cap, v2 = .slice a n cap → n ≤ 1048576) (a3 : Int) (w3 : (Lit.int .i64 a3).wf = true) : Calls Try.prog 5 #[.int .i64 a0, v1, v2, .int .i64 a3] W fun e w' => e = .returned (.bool true) ∧ Go.RowKit.Below W.heap.size W w' := by
  obtain ⟨nl1, n1, x1, hx1, hn1, hm1, ha1, hc1, he1⟩ := En.slice_arg (fs := intFs) (fun _ => rfl) (fun k o h => int_of h) h1
  have hu1 := hb1 _ _ _ he1
  obtain ⟨nl2, n2, x2, hx2, hn2, hm2, ha2, hc2, he2⟩ := En.slice_arg (fs := En.Ent.fs) (fun _ => rfl) (fun k o h => raw_of h) h2
  have hu2 := hb2 _ _ _ he2
  exact En.law_true En.GORR2 En.GKRR2 (En.RAs.cons (x := .one (.f (.lit (.int .i64 a0)))) (En.RF.lit _ rfl) (En.RAs.cons (x := .one (.f (.fs nl1 1 n1 fun i => intFs (x1 i)))) hx1 (En.RAs.cons (x := .one (.f (.fs nl2 5 n2 fun i => En.Ent.fs (x2 i)))) hx2 (En.RAs.cons (x := .one (.f (.lit (.int .i64 a3)))) (En.RF.lit _ rfl) En.RAs.nil)))) (En.res_RTells a0 nl1 n1 x1 nl2 n2 x2 a3 hn1 hu1 ⟨by omega, hn2⟩)
theorem bulk_pos {H : Type} : ∀ d : DataW H, 1 ≤ Rows.uptoBulk d := fun d => by cases d with
  | lit x => cases x <;> simp [Rows.uptoBulk]
  | _ => simp [Rows.uptoBulk]
theorem bulk_len {H : Type} : ∀ l : List (DataW H), l.length ≤ Rows.uptoBulkAll l
  | [] => Nat.zero_le _
  | d :: r => by
    have h1 := bulk_pos d
    have h2 := bulk_len r
    simp only [Rows.uptoBulkAll, List.length_cons]
    omega
theorem own : ownKnob Try.prog.godebug = none := by kernel_rfl
theorem laidOut : laidOutB Try.prog = true := by kernel_rfl
set_option maxRecDepth 100000 in
theorem lifted (os : Os) (started : os.Started) (H : Type) (enc : TypeId × Value → H) (F0 : Stop.Interp) :
    ReturnsInHanded {} Try.checked os 5 .any ((Rows.OpenSpec.upto Rows.ringTellsSpec).pre6 enc Try.prog Try.f5 Rows.ringTellsUptoRow.domain false) (((Rows.OpenSpec.upto Rows.ringTellsSpec).at F0).post enc Try.prog Try.f5 false true false false) := by
  refine returnsInHanded_of_cond (C := Try.checked) (s := Rows.OpenSpec.upto Rows.ringTellsSpec) (k := Rows.uptoSmall) rfl own started (by kernel_rfl) Try.func5
    (OpenSpec.witness (enc := enc) (C := Try.checked) (s := Rows.OpenSpec.upto Rows.ringTellsSpec) (k := Rows.uptoSmall) rfl false ⟨#[], #[.int .i64 0, .slice none 0 0, .slice none 0 0, .int .i64 0], []⟩ 8 (by kernel_rfl) (by kernel_rfl) (by kernel_rfl)
      (x := ([.lit (.int .i64 0), .nil, .nil, .lit (.int .i64 0)], [], [])) (by kernel_rfl) (by kernel_rfl) (by kernel_rfl)) ?_
  intro W base args ds gs before hval0 hW hcnd hk _
  have hval : ∀ (j : Nat) t v, Try.f5.params[j]? = some t → args[j]? = some v → Value.okWide Try.prog W .any base t v := hval0
  have hW' := hW
  obtain ⟨p, q, hA0, hV, rfl, hfz, hnd⟩ := hW
  have hA : DataW.TrodAll enc Try.prog W 0 (fun _ => true) true Try.f5.params.toList args.toList ds p := hA0
  rw [Try.params5] at hA hval
  obtain ⟨v0, vs0, d0, ds0, p0, q0, hargs, rfl, rfl, h0, r0⟩ := trodAll_cons hA
  obtain ⟨v1, vs1, d1, ds1, p1, q1, rfl, rfl, rfl, h1, r1⟩ := trodAll_cons r0
  obtain ⟨v2, vs2, d2, ds2, p2, q2, rfl, rfl, rfl, h2, r2⟩ := trodAll_cons r1
  obtain ⟨v3, vs3, d3, ds3, p3, q3, rfl, rfl, rfl, h3, r3⟩ := trodAll_cons r2
  obtain ⟨rfl, rfl, rfl⟩ := trodAll_nil r3
  obtain rfl : args = #[v0, v1, v2, v3] := by cases args; simp_all
  obtain ⟨rfl, rfl⟩ := trodVars_none hV
  have hlt0 : ∀ x ∈ p0, x.block < W.heap.size := fun x hx => hW'.lt x (by simp [hx])
  have h0k := h0
  obtain ⟨a0, rfl, _, _, w0⟩ := open_int Try.underlying3 (hval 0 3 v0 rfl rfl) h0
  have hlt1 : ∀ x ∈ p1, x.block < W.heap.size := fun x hx => hW'.lt x (by simp [hx])
  have h1k := h1
  obtain ⟨s1, len1, cap1, rfl⟩ := okWide_slice Try.underlying22 (hval 1 22 v1 rfl rfl)
  obtain ⟨fuel1, hf1⟩ := h1
  have hs1 := (En.shape_read 20 22 [.sl 1 [.int .i64]] (by kernel_rfl) _ _ _ hf1).1
  have hlt2 : ∀ x ∈ p2, x.block < W.heap.size := fun x hx => hW'.lt x (by simp [hx])
  have h2k := h2
  obtain ⟨s2, len2, cap2, rfl⟩ := okWide_slice Try.underlying33 (hval 2 33 v2 rfl rfl)
  obtain ⟨fuel2, hf2⟩ := h2
  have hs2 := (En.shape_read 20 33 [.sl 5 [.int .i64, .int .i64, .int .i64, .int .i64, .bool]] (by kernel_rfl) _ _ _ hf2).1
  have hlt3 : ∀ x ∈ p3, x.block < W.heap.size := fun x hx => hW'.lt x (by simp [hx])
  have h3k := h3
  obtain ⟨a3, rfl, _, _, w3⟩ := open_int Try.underlying3 (hval 3 3 v3 rfl rfl) h3
  have hk2 := of_decide_eq_true hk
  have hb1 : ∀ a n cap, Value.slice s1 len1 cap1 = .slice a n cap → n ≤ 1048576 := by
    intro a n cap e
    cases e
    rcases DataW.trod_slice Try.underlying22 hf1 with ⟨hx0, hx⟩ | ⟨a, len', cap', elems, rest, n, e', hcs, hx, _, hl, hm, hlen, hel, _, _⟩
    · simp [Value.cells] at hx0
      omega
    · simp [Value.cells] at hcs
      simp only [Prod.mk.injEq] at hx
      have h3 := bulk_len (elems.map (·.1))
      rw [hx.1] at hk2
      simp [Rows.uptoBulkAll, Rows.uptoBulk] at hk2
      simp at h3
      omega
  have hb2 : ∀ a n cap, Value.slice s2 len2 cap2 = .slice a n cap → n ≤ 1048576 := by
    intro a n cap e
    cases e
    rcases DataW.trod_slice Try.underlying33 hf2 with ⟨hx0, hx⟩ | ⟨a, len', cap', elems, rest, n, e', hcs, hx, _, hl, hm, hlen, hel, _, _⟩
    · simp [Value.cells] at hx0
      omega
    · simp [Value.cells] at hcs
      simp only [Prod.mk.injEq] at hx
      have h3 := bulk_len (elems.map (·.1))
      rw [hx.1] at hk2
      simp [Rows.uptoBulkAll, Rows.uptoBulk] at hk2
      simp at h3
      omega
  clear hA0 hval0
  refine (walk W a0 w0 _ hs1 hb1 _ hs2 hb2 a3 w3).mono fun e W' ⟨he, bel⟩ => ?_
  subst he
  exact ⟨_, rfl, _, _, _, [], _, [], hW', trodAll_mk1 (shut_bool Try.underlying4 _), (trodAll_cons_mk (Below.trod laidOut (by kernel_rfl) (of_decide_eq_true (by kernel_rfl)) h0k bel hlt0) (trodAll_cons_mk (Below.trod laidOut (by kernel_rfl) (of_decide_eq_true (by kernel_rfl)) h1k bel hlt1) (trodAll_cons_mk (Below.trod laidOut (by kernel_rfl) (of_decide_eq_true (by kernel_rfl)) h2k bel hlt2) (trodAll_cons_mk (Below.trod laidOut (by kernel_rfl) (of_decide_eq_true (by kernel_rfl)) h3k bel hlt3) trodAll_mk0)))), rfl, bel.frame _, fun h => by cases h⟩
theorem over : Rows.ringTellsUptoRow.holds Try.pinned (Rows.OpenSpec.upto Rows.ringTellsSpec) :=
  OpenClaim.holds_of_cond 5 Try.f5 rfl rfl rfl rfl rfl rfl rfl ⟨rfl, rfl, rfl, rfl, rfl⟩ rfl rfl rfl rfl rfl (by kernel_rfl) Try.func5 (by kernel_rfl)
    (of_decide_eq_true (by kernel_rfl)) (by unfold Func.isWrapper; first | (rw [if_pos (by decide +kernel)]; kernel_rfl) | (rw [if_neg (by decide +kernel)]; exact ⟨rfl, rfl⟩))
    (fun os started H enc _ F0 => lifted os started H enc F0)
end Go.Proofs.Ytggneleipimijaa.ringTells
namespace Go.Proofs.Ytggneleipimijaa
/-- The row, under a short name, for the claim. -/
theorem ringTells_holds : Rows.RingTellsUptoSaid := ringTells.over
#print axioms ringTells_holds
end Go.Proofs.Ytggneleipimijaa
