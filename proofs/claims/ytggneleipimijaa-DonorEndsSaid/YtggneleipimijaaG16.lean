/- Texts put together: EI. -/
import Derived.Test.YtggneleipimijaaG15
import Derived.Test.YtggneleipimijaaG07
/- DonorEnds. -/
namespace Go.Proofs.Ytggneleipimijaa.En
open Go
set_option linter.unusedVariables false
set_option linter.unusedSimpArgs false
set_option maxRecDepth 20000
set_option maxHeartbeats 1000000
noncomputable def GEI1 : Ctx := GS.with ss_known15 ll_ro
noncomputable def tgt_A (a : Int) (na : Bool) (ka : Nat) (xa : Nat → Int) (nw : Bool) (kw : Nat) (xw : Nat → Int) (fi : Int) : T (Ex × St) := evCutR GEI1 300 11 Try.f11.ntmps 2 (deC) 0 [1, 2, 3, 9] [] (⟨argSlots 0 [AI a, .one (.f (.fs na 1 ka (intE xa))), .one (.f (.fs nw 1 kw (intE xw))), AI fi], [], 0, false, 0, []⟩)
noncomputable def tgt_B2 (na : Bool) (ka : Nat) (xa : Nat → Int) (nw : Bool) (kw : Nat) (xw : Nat → Int) (fi : Int) : T (Ex × St) := evCutR GEI1 300 11 Try.f11.ntmps 3 (restC 2 deC) 0 [1, 2, 3, 9, 10, 11, 12] [] (⟨[(1, .v (.one (.f (.fs na 1 ka (intE xa))))), (2, .v (.one (.f (.fs nw 1 kw (intE xw))))), (3, .v (AI fi)), (9, .v (AI 2))], [], 0, false, 0, []⟩)
noncomputable def tgt_B3 (na : Bool) (ka : Nat) (xa : Nat → Int) (nw : Bool) (kw : Nat) (xw : Nat → Int) (fi : Int) : T (Ex × St) := evCutR GEI1 300 11 Try.f11.ntmps 3 (restC 2 deC) 0 [1, 2, 3, 9, 10, 11, 12] [] (⟨[(1, .v (.one (.f (.fs na 1 ka (intE xa))))), (2, .v (.one (.f (.fs nw 1 kw (intE xw))))), (3, .v (AI fi)), (9, .v (AI 3))], [], 0, false, 0, []⟩)
noncomputable def tgt_B4 (na : Bool) (ka : Nat) (xa : Nat → Int) (nw : Bool) (kw : Nat) (xw : Nat → Int) (fi : Int) : T (Ex × St) := evCutR GEI1 300 11 Try.f11.ntmps 3 (restC 2 deC) 0 [1, 2, 3, 9, 10, 11, 12] [] (⟨[(1, .v (.one (.f (.fs na 1 ka (intE xa))))), (2, .v (.one (.f (.fs nw 1 kw (intE xw))))), (3, .v (AI fi)), (9, .v (AI 4))], [], 0, false, 0, []⟩)
noncomputable def tgt_B5 (na : Bool) (ka : Nat) (xa : Nat → Int) (nw : Bool) (kw : Nat) (xw : Nat → Int) (fi : Int) : T (Ex × St) := evCutR GEI1 300 11 Try.f11.ntmps 3 (restC 2 deC) 0 [1, 2, 3, 9, 10, 11, 12] [] (⟨[(1, .v (.one (.f (.fs na 1 ka (intE xa))))), (2, .v (.one (.f (.fs nw 1 kw (intE xw))))), (3, .v (AI fi)), (9, .v (AI 5))], [], 0, false, 0, []⟩)
theorem GKEI1 : KnownOk Try.prog GEI1 := KnownOk.lists ss_known15_ok ll_ro_ok
theorem GOEI1 : CtxOk Try.prog GEI1 := GS_ok.with _ _
theorem tree_A (a : Int) (na : Bool) (ka : Nat) (xa : Nat → Int) (nw : Bool) (kw : Nat) (xw : Nat → Int) (fi : Int) : (tgt_A a na ka xa nw kw xw fi).over (.tt .leaf) = T.ret (Ex.normal, ⟨[(1, SV.v (AV.one (CV.f (FV.fs na 1 ka fun a => [FV.lit (.int .i64 (xa a))])))), (2, SV.v (AV.one (CV.f (FV.fs nw 1 kw fun a => [FV.lit (.int .i64 (xw a))])))), (3, SV.v (AI fi)), (9, SV.v (AI (IntKind.wrap IntKind.i64 ((2 : Int) + a % (4 : Int)))))], [], 0, false, 0, []⟩) := by kernel_rfl
theorem tree_B2 (na : Bool) (ka : Nat) (xa : Nat → Int) (nw : Bool) (kw : Nat) (xw : Nat → Int) (fi : Int) : (tgt_B2 na ka xa nw kw xw fi).over (.tt .leaf) = T.ret (Ex.normal, ⟨[(1, SV.v (AV.one (CV.f (FV.fs na 1 ka fun a => [FV.lit (.int .i64 (xa a))])))), (2, SV.v (AV.one (CV.f (FV.fs nw 1 kw fun a => [FV.lit (.int .i64 (xw a))])))), (3, SV.v (AI fi)), (9, SV.v (AI (2 : Int))), (10, SV.v (AV.one (CV.sl false 0 1 0 0 2 2 true 1))), (11, SV.v (AV.one (CV.mp 1))), (12, SV.v (AV.one (CV.mp 2)))], [(0, Ob.arr true 1 2 fun x => [FV.lit (.int .i64 (0 : Int))]), (1, Ob.map []), (2, Ob.map [])], 3, false, 0, []⟩) := by kernel_rfl
theorem tree_B3 (na : Bool) (ka : Nat) (xa : Nat → Int) (nw : Bool) (kw : Nat) (xw : Nat → Int) (fi : Int) : (tgt_B3 na ka xa nw kw xw fi).over (.tt .leaf) = T.ret (Ex.normal, ⟨[(1, SV.v (AV.one (CV.f (FV.fs na 1 ka fun a => [FV.lit (.int .i64 (xa a))])))), (2, SV.v (AV.one (CV.f (FV.fs nw 1 kw fun a => [FV.lit (.int .i64 (xw a))])))), (3, SV.v (AI fi)), (9, SV.v (AI (3 : Int))), (10, SV.v (AV.one (CV.sl false 0 1 0 0 3 3 true 1))), (11, SV.v (AV.one (CV.mp 1))), (12, SV.v (AV.one (CV.mp 2)))], [(0, Ob.arr true 1 3 fun x => [FV.lit (.int .i64 (0 : Int))]), (1, Ob.map []), (2, Ob.map [])], 3, false, 0, []⟩) := by kernel_rfl
theorem tree_B4 (na : Bool) (ka : Nat) (xa : Nat → Int) (nw : Bool) (kw : Nat) (xw : Nat → Int) (fi : Int) : (tgt_B4 na ka xa nw kw xw fi).over (.tt .leaf) = T.ret (Ex.normal, ⟨[(1, SV.v (AV.one (CV.f (FV.fs na 1 ka fun a => [FV.lit (.int .i64 (xa a))])))), (2, SV.v (AV.one (CV.f (FV.fs nw 1 kw fun a => [FV.lit (.int .i64 (xw a))])))), (3, SV.v (AI fi)), (9, SV.v (AI (4 : Int))), (10, SV.v (AV.one (CV.sl false 0 1 0 0 4 4 true 1))), (11, SV.v (AV.one (CV.mp 1))), (12, SV.v (AV.one (CV.mp 2)))], [(0, Ob.arr true 1 4 fun x => [FV.lit (.int .i64 (0 : Int))]), (1, Ob.map []), (2, Ob.map [])], 3, false, 0, []⟩) := by kernel_rfl
theorem tree_B5 (na : Bool) (ka : Nat) (xa : Nat → Int) (nw : Bool) (kw : Nat) (xw : Nat → Int) (fi : Int) : (tgt_B5 na ka xa nw kw xw fi).over (.tt .leaf) = T.ret (Ex.normal, ⟨[(1, SV.v (AV.one (CV.f (FV.fs na 1 ka fun a => [FV.lit (.int .i64 (xa a))])))), (2, SV.v (AV.one (CV.f (FV.fs nw 1 kw fun a => [FV.lit (.int .i64 (xw a))])))), (3, SV.v (AI fi)), (9, SV.v (AI (5 : Int))), (10, SV.v (AV.one (CV.sl false 0 1 0 0 5 5 true 1))), (11, SV.v (AV.one (CV.mp 1))), (12, SV.v (AV.one (CV.mp 2)))], [(0, Ob.arr true 1 5 fun x => [FV.lit (.int .i64 (0 : Int))]), (1, Ob.map []), (2, Ob.map [])], 3, false, 0, []⟩) := by kernel_rfl
theorem shape5 : restC 5 deC = .seq (.seq (fstC (fstC (restC 5 deC))) (.block 0 (.loop (loopOf Try.f11 6)))) (restC 6 deC) := by kernel_rfl
theorem shape7 : restC 1 (restC 6 deC) = .seq (.seq (fstC (fstC (restC 7 deC))) (.block 2 (.loop (loopOf Try.f11 16)))) (restC 8 deC) := by kernel_rfl
theorem shape11 : restC 3 (restC 8 deC) = .seq (.block 4 (.loop deL)) (restC 12 deC) := by kernel_rfl
theorem shape2 : restC 3 (restC 2 deC) = restC 5 deC := by kernel_rfl
/-- what the law ends with -/
abbrev EndT : Ex → St → Prop := fun e s => (e = .normal ∨ e = .ret) ∧ (resultsOf GEB1 s Try.f11.results.toList).res = some [AB true]
theorem HT.two {P : Program} {N : Nat} {c : Code} {x y : Int} {H : Heap} {nx : Nat} {R : Ex → St → Prop} (h : HT P N c ⟨[(14, .v (AI x)), (19, .v (AI y))], [], 0, false, 0, []⟩ R) : HT P N c ⟨[(14, .v (AI x)), (19, .v (AI y))], H, nx, false, 0, []⟩ R := fun w0 f z w a s Q hQ =>
  h w0 f z w a ⟨fun t => by
    have := s.tr t
    simp only [Slots.get_cons] at this ⊢
    split
    · rename_i e; rw [if_pos e] at this; exact this
    · rename_i e
      rw [if_neg e] at this
      split
      · rename_i e2; rw [if_pos e2] at this; exact this
      · trivial, ⟨fun b _ hl => hl.elim, fun b c _ _ hl => hl.elim, s.rel.zok⟩, s.size, s.defers, s.fr, fun b hl => hl.elim⟩ Q hQ
theorem from11 (n : Nat) (hn : 0 < n) (hn5 : n ≤ 5) (fi : Int) (ld : Nat → Int) (al wl : List (Int × Int)) (hl : LdOk n ld 54) (ha : AtOk n al) (hw : WlOk 6 wl) : HT Try.prog Try.f11.ntmps (restC 8 deC) ⟨[(3, .v (AI fi)), (9, .v (AI n)), (10, .v (ldV n)), (11, .v (.one (.mp 1))), (12, .v (.one (.mp 2))), (14, .v (AI (sqF ld n)))], hp3 n ld al wl, 3, false, 0, []⟩ EndT := by
  have e1 : (0 : Int) < (n : Int) ∧ (n : Int) ≤ 9223372036854775807 := by omega
  have e2 := Int.emod_nonneg fi (show (n : Int) ≠ 0 by omega)
  have e3 := Int.emod_lt_of_pos fi (show (0 : Int) < (n : Int) by omega)
  have e4 := sq_le n hl
  have e5 := sq_nonneg n hl
  refine HT.cutR GOEB1 GKEB1 (e := .normal) (st := S_mn n (sqF ld n) (fi % (n : Int)) 0 0 ld al wl) (T.over_eq _ (tree_Y8 n fi (sqF ld n) ld al wl) ?_) (fun _ => ?_) (fun h => absurd rfl h)
  · simp only [T.res_br, T.res_ret, T.res_bad, decide_eq_true e1, reduceIte]
    rfl
  · rw [shape11]
    refine HT.seq (HT.block (R := fun e s => e = .normal ∧ ∃ mv H, 0 ≤ mv ∧ 2 * mv ≤ sqF ld n ∧ s = ⟨[(14, .v (AI (sqF ld n))), (19, .v (AI mv))], H, 3, false, 0, []⟩) (HT.weak (loop_main n hn hn5 (sqF ld n) (by omega) wl hw (fi % (n : Int)) ld al ⟨⟨e2, e3⟩, ⟨Int.le_refl 0, by omega⟩, Int.le_refl 0, hl, ha, by omega⟩) fun e s he => by obtain ⟨rfl, h⟩ := he; exact ⟨rfl, h⟩)) (fun s hs => ?_) (fun e s hne hs => absurd hs.1 hne)
    obtain ⟨_, mv, H, h0, h1, rfl⟩ := hs
    have c5 : Int.tdiv (sqF ld n) 2 = sqF ld n / 2 := Int.tdiv_eq_ediv_of_nonneg (by omega)
    have c6 : IntKind.wrap IntKind.i64 (sqF ld n / 2) = sqF ld n / 2 := wrapI (by omega)
    have c7 : decide (mv ≤ sqF ld n / 2) = true := decide_eq_true (by omega)
    refine HT.two (HT.round GOEB1 GKEB1 (e := .ret) (st' := ⟨[(8, .v (AB true))], [], 0, false, 0, []⟩) (T.over_eq _ (tree_Z (sqF ld n) mv) ?_) ⟨.inr rfl, by kernel_rfl⟩)
    simp only [T.res_br, T.res_ret, T.res_bad, c5, c6, c7]
theorem from5 (n : Nat) (hn : 0 < n) (hn5 : n ≤ 5) (na : Bool) (ka : Nat) (xa : Nat → Int) (nw : Bool) (kw : Nat) (xw : Nat → Int) (fi : Int) (hna : na = true → ka = 0) (hnw : nw = true → kw = 0) : HT Try.prog Try.f11.ntmps (restC 5 deC) ⟨[(1, .v (.one (.f (.fs na 1 ka (intE xa))))), (2, .v (.one (.f (.fs nw 1 kw (intE xw))))), (3, .v (AI fi)), (9, .v (AI n)), (10, .v (ldV n)), (11, .v (.one (.mp 1))), (12, .v (.one (.mp 2)))], hp3 n (fun _ => 0) [] [], 3, false, 0, []⟩ EndT := by
  have h0 : DIn n 0 (fun _ => 0) [] [] := ⟨by omega, fun j hj => ⟨Int.le_refl 0, by simp⟩, ⟨KeyOk.nil, fun p hp => by cases hp⟩, fun s h1 h2 => by omega⟩
  rw [shape5]
  refine HT.seq (R1 := fun e s => e = .normal ∧ ∃ ld al wl, DIn n 6 ld al wl ∧ s = aftD n fi ld al wl)
    (HT.seq (R1 := fun e s => e = .normal ∧ s = S_d0 n na ka xa nw kw xw fi ((0 : Nat) : Int) (fun _ => 0) [] []) (HT.round GOEB1 GKEB1 (e := .normal) (st' := S_d0 n na ka xa nw kw xw fi ((0 : Nat) : Int) (fun _ => 0) [] []) (T.over_eq _ (tree_Y5 n na ka xa nw kw xw fi (fun _ => 0) [] []) rfl) ⟨rfl, rfl⟩) (fun s hs => ?_) (fun e s hne hs => absurd hs.1 hne)) (fun s hs => ?_) (fun e s hne hs => absurd hs.1 hne)
  · obtain rfl := hs.2
    exact HT.block (HT.weak (loop_d0 n na ka xa nw kw xw fi hn hn5 hna hnw (fun _ => 0) [] [] h0) fun e s he => by obtain ⟨rfl, h⟩ := he; exact ⟨rfl, h⟩)
  · obtain ⟨_, ld, al, wl, hD, rfl⟩ := hs
    have hl : LdOk n ld 54 := fun j hj => by have := hD.ld j hj; omega
    refine HT.cutR GOEB1 GKEB1 (e := .normal) (st := ⟨[(3, .v (AI fi)), (9, .v (AI n)), (10, .v (ldV n)), (11, .v (.one (.mp 1))), (12, .v (.one (.mp 2))), (14, .v (AI 0))], hp3 n ld al wl, 3, false, 0, []⟩) (T.over_eq _ (tree_Y6 n fi ld al wl) rfl) (fun _ => ?_) (fun h => absurd rfl h)
    rw [shape7]
    refine HT.seq (R1 := fun e s => e = .normal ∧ s = ⟨[(3, .v (AI fi)), (9, .v (AI n)), (10, .v (ldV n)), (11, .v (.one (.mp 1))), (12, .v (.one (.mp 2))), (14, .v (AI (sqF ld n)))], hp3 n ld al wl, 3, false, 0, []⟩)
      (HT.seq (R1 := fun e s => e = .normal ∧ s = S_b2 n fi 0 ld al wl ((0 : Nat) : Int)) (HT.round GOEB1 GKEB1 (e := .normal) (st' := S_b2 n fi 0 ld al wl ((0 : Nat) : Int)) (T.over_eq _ (tree_Y7 n fi 0 ld al wl) rfl) ⟨rfl, rfl⟩) (fun s hs => ?_) (fun e s hne hs => absurd hs.1 hne)) (fun s hs => ?_) (fun e s hne hs => absurd hs.1 hne)
    · obtain rfl := hs.2
      exact HT.block (HT.weak (loop_b2 n hn5 fi ld al wl hl) fun e s he => by obtain ⟨rfl, rfl⟩ := he; exact ⟨rfl, rfl⟩)
    · obtain rfl := hs.2
      exact from11 n hn hn5 fi ld al wl hl hD.al hD.wl
theorem all_ends (a : Int) (na : Bool) (ka : Nat) (xa : Nat → Int) (nw : Bool) (kw : Nat) (xw : Nat → Int) (fi : Int) (hna : na = true → ka = 0) (hnw : nw = true → kw = 0) : HT Try.prog Try.f11.ntmps deC ⟨argSlots 0 [AI a, .one (.f (.fs na 1 ka (intE xa))), .one (.f (.fs nw 1 kw (intE xw))), AI fi], [], 0, false, 0, []⟩ EndT := by
  have h : a % 4 = 0 ∨ a % 4 = 1 ∨ a % 4 = 2 ∨ a % 4 = 3 := by omega
  rcases h with h | h | h | h
  · refine HT.cutR GOEI1 GKEI1 (e := .normal) (st := ⟨[(1, .v (.one (.f (.fs na 1 ka (intE xa))))), (2, .v (.one (.f (.fs nw 1 kw (intE xw))))), (3, .v (AI fi)), (9, .v (AI 2))], [], 0, false, 0, []⟩) (T.over_eq _ (tree_A a na ka xa nw kw xw fi) (by simp only [T.res_br, T.res_ret, T.res_bad, h]; rfl)) (fun _ => ?_) (fun h => absurd rfl h)
    refine HT.cutR GOEI1 GKEI1 (e := .normal) (st := ⟨[(1, .v (.one (.f (.fs na 1 ka (intE xa))))), (2, .v (.one (.f (.fs nw 1 kw (intE xw))))), (3, .v (AI fi)), (9, .v (AI ((2 : Nat) : Int))), (10, .v (ldV 2)), (11, .v (.one (.mp 1))), (12, .v (.one (.mp 2)))], hp3 2 (fun _ => 0) [] [], 3, false, 0, []⟩) (T.over_eq _ (tree_B2 na ka xa nw kw xw fi) rfl) (fun _ => ?_) (fun h => absurd rfl h)
    rw [shape2]
    exact from5 2 (by decide) (by decide) na ka xa nw kw xw fi hna hnw
  · refine HT.cutR GOEI1 GKEI1 (e := .normal) (st := ⟨[(1, .v (.one (.f (.fs na 1 ka (intE xa))))), (2, .v (.one (.f (.fs nw 1 kw (intE xw))))), (3, .v (AI fi)), (9, .v (AI 3))], [], 0, false, 0, []⟩) (T.over_eq _ (tree_A a na ka xa nw kw xw fi) (by simp only [T.res_br, T.res_ret, T.res_bad, h]; rfl)) (fun _ => ?_) (fun h => absurd rfl h)
    refine HT.cutR GOEI1 GKEI1 (e := .normal) (st := ⟨[(1, .v (.one (.f (.fs na 1 ka (intE xa))))), (2, .v (.one (.f (.fs nw 1 kw (intE xw))))), (3, .v (AI fi)), (9, .v (AI ((3 : Nat) : Int))), (10, .v (ldV 3)), (11, .v (.one (.mp 1))), (12, .v (.one (.mp 2)))], hp3 3 (fun _ => 0) [] [], 3, false, 0, []⟩) (T.over_eq _ (tree_B3 na ka xa nw kw xw fi) rfl) (fun _ => ?_) (fun h => absurd rfl h)
    rw [shape2]
    exact from5 3 (by decide) (by decide) na ka xa nw kw xw fi hna hnw
  · refine HT.cutR GOEI1 GKEI1 (e := .normal) (st := ⟨[(1, .v (.one (.f (.fs na 1 ka (intE xa))))), (2, .v (.one (.f (.fs nw 1 kw (intE xw))))), (3, .v (AI fi)), (9, .v (AI 4))], [], 0, false, 0, []⟩) (T.over_eq _ (tree_A a na ka xa nw kw xw fi) (by simp only [T.res_br, T.res_ret, T.res_bad, h]; rfl)) (fun _ => ?_) (fun h => absurd rfl h)
    refine HT.cutR GOEI1 GKEI1 (e := .normal) (st := ⟨[(1, .v (.one (.f (.fs na 1 ka (intE xa))))), (2, .v (.one (.f (.fs nw 1 kw (intE xw))))), (3, .v (AI fi)), (9, .v (AI ((4 : Nat) : Int))), (10, .v (ldV 4)), (11, .v (.one (.mp 1))), (12, .v (.one (.mp 2)))], hp3 4 (fun _ => 0) [] [], 3, false, 0, []⟩) (T.over_eq _ (tree_B4 na ka xa nw kw xw fi) rfl) (fun _ => ?_) (fun h => absurd rfl h)
    rw [shape2]
    exact from5 4 (by decide) (by decide) na ka xa nw kw xw fi hna hnw
  · refine HT.cutR GOEI1 GKEI1 (e := .normal) (st := ⟨[(1, .v (.one (.f (.fs na 1 ka (intE xa))))), (2, .v (.one (.f (.fs nw 1 kw (intE xw))))), (3, .v (AI fi)), (9, .v (AI 5))], [], 0, false, 0, []⟩) (T.over_eq _ (tree_A a na ka xa nw kw xw fi) (by simp only [T.res_br, T.res_ret, T.res_bad, h]; rfl)) (fun _ => ?_) (fun h => absurd rfl h)
    refine HT.cutR GOEI1 GKEI1 (e := .normal) (st := ⟨[(1, .v (.one (.f (.fs na 1 ka (intE xa))))), (2, .v (.one (.f (.fs nw 1 kw (intE xw))))), (3, .v (AI fi)), (9, .v (AI ((5 : Nat) : Int))), (10, .v (ldV 5)), (11, .v (.one (.mp 1))), (12, .v (.one (.mp 2)))], hp3 5 (fun _ => 0) [] [], 3, false, 0, []⟩) (T.over_eq _ (tree_B5 na ka xa nw kw xw fi) rfl) (fun _ => ?_) (fun h => absurd rfl h)
    rw [shape2]
    exact from5 5 (by decide) (by decide) na ka xa nw kw xw fi hna hnw
theorem ends_walk (w : World) {v v' : Value} (a fi : Int) {na nw : Bool} {ka kw : Nat} {xa xw : Nat → Int} (hx : RF (zAll w) (.fs na 1 ka (intE xa)) v) (hy : RF (zAll w) (.fs nw 1 kw (intE xw)) v') (hna : na = true → ka = 0) (hnw : nw = true → kw = 0) :
    Calls Try.prog 11 #[.int .i64 a, v, v', .int .i64 fi] w fun e w' => e = .returned (.bool true) ∧ Go.RowKit.Below w.heap.size w w' :=
  law_ht (args := [AI a, .one (.f (.fs na 1 ka (intE xa))), .one (.f (.fs nw 1 kw (intE xw))), AI fi]) GOEB1 (by kernel_rfl) (by kernel_rfl) (show 4 ≤ Try.f11.ntmps from of_decide_eq_true (by kernel_rfl)) (RAs.cons (RF.lit _ rfl) (RAs.cons hx (RAs.cons hy (RAs.cons (RF.lit _ rfl) RAs.nil)))) (all_ends a na ka xa nw kw xw fi hna hnw)

end Go.Proofs.Ytggneleipimijaa.En
