/- HandBusy: its loop, its end. -/
import Derived.Test.YtbobakclbdaepaaGreatBB
import Derived.Test.YtbobakclbdaepaaGreatF6
namespace Go.Proofs.YtbobakclbdaepaaGreat.En
open Go
set_option linter.unusedVariables false
set_option linter.unusedSimpArgs false
set_option maxRecDepth 20000
set_option maxHeartbeats 1000000
def fstC : Code → Code | .seq a _ => a | c => c
noncomputable abbrev hb : Code := bodyOf Tryz.f3
theorem shape11 : restC 11 hb = .seq (.seq (fstC (fstC (restC 11 hb))) (.block 1 (.loop (loopOf Tryz.f3 22)))) (restC 12 hb) := by kernel_rfl

noncomputable def GBD1 : Ctx := GS.with ss_Expire ll0
noncomputable def tgt_Z  : T (Ex × St) := evRound GBD1 300 3 Tryz.f3.ntmps (restC 12 hb) 0 [8] [8] ⟨[], [], 0, true, 0, []⟩
noncomputable def tgt_Y (d : Int) (dr fz : Bool) (to r p q u : Int) : T (Ex × St) := evRound GBD1 300 3 Tryz.f3.ntmps (fstC (fstC (restC 11 hb))) 0 [3, 10, 11, 12, 16] [] ⟨[(3, .v (AI d)), (10, .v (AP 0)), (11, .v (AP 4)), (12, .v tbV)], bzH dr fz to r p q u, 6, true, 0, []⟩
theorem GKBD1 : KnownOk Tryz.prog GBD1 := KnownOk.lists ss_Expire_ok ll0_ok
theorem GOBD1 : CtxOk Tryz.prog GBD1 := GS_ok.with _ _
theorem tree_Z  : (tgt_Z ).over .leaf =
  T.ret (Ex.ret, { sl := [((8 : Nat), SV.v (AB true))], H := [], nx := (0 : Nat), esc := true, base := (0 : Nat), wr := [] : St }) := by kernel_rfl
theorem tree_Y (d : Int) (dr fz : Bool) (to r p q u : Int) : (tgt_Y d dr fz to r p q u).over .leaf =
  T.ret (Ex.normal, { sl := [((3 : Nat), SV.v (AI d)), ((10 : Nat), SV.v (AP (0 : Nat))), ((11 : Nat), SV.v (AP (4 : Nat))), ((12 : Nat), SV.v (AV.one (CV.sl false (5 : Nat) (0 : Nat) (0 : Nat) (0 : Nat) (3 : Nat) (3 : Nat) true (5 : Nat)))), ((16 : Nat), SV.v (AI (6 : Int)))], H := [((0 : Nat), Ob.cells [I (3 : Int), CV.sl false (1 : Nat) (0 : Nat) (0 : Nat) (0 : Nat) (6 : Nat) (6 : Nat) false (2 : Nat), I (0 : Int), Bo dr, I (0 : Int), I (3 : Int), Proofs.YtbobakclbdaepaaGreat.En.Ptr (2 : Nat), CV.f (FV.lit (Value.pointer none)), CV.f (FV.lit (Value.pointer none)), Proofs.YtbobakclbdaepaaGreat.En.Ptr (3 : Nat), CV.f (FV.lit (Value.pointer none)), CV.f (FV.lit (Value.pointer none))]), ((1 : Nat), Ob.cells [I (1 : Int), I (0 : Int), I (1 : Int), I (1 : Int), I (1 : Int), I (2 : Int), I (1 : Int), I (0 : Int), I (1 : Int), I (1 : Int), I (1 : Int), I (2 : Int)]), ((2 : Nat), Ob.cells [Nil, I (0 : Int), I (0 : Int), I (0 : Int), Sg { data := #[] : ByteArray }, I (0 : Int), I (0 : Int), I (0 : Int), Sg { data := #[] : ByteArray }, I (0 : Int), I (0 : Int), I (0 : Int), Sg { data := #[] : ByteArray }, I (0 : Int), I (0 : Int), I (0 : Int), Sg { data := #[] : ByteArray }, I (0 : Int), I (1 : Int), Bo false, I (0 : Int)]), ((3 : Nat), Ob.cells [Nil, I (0 : Int), I (0 : Int), I (0 : Int), Sg { data := #[] : ByteArray }, I (0 : Int), I (0 : Int), I (0 : Int), Sg { data := #[] : ByteArray }, I (0 : Int), I (0 : Int), I (0 : Int), Sg { data := #[] : ByteArray }, I (0 : Int), I (0 : Int), I (0 : Int), Sg { data := #[] : ByteArray }, I (3 : Int), I (1 : Int), Bo fz, I to]), ((4 : Nat), Ob.cells [I r, I p, I q, I (0 : Int), I u, I (0 : Int), I (0 : Int)]), ((5 : Nat), Ob.cells [I (0 : Int), I (0 : Int), I (0 : Int), I (2 : Int), Bo false, I (0 : Int), I (0 : Int), I (0 : Int), I (0 : Int), Bo false, I (0 : Int), I (0 : Int), I (0 : Int), I (0 : Int), Bo false])], nx := (6 : Nat), esc := true, base := (0 : Nat), wr := [] : St }) := by kernel_rfl
theorem loop_R1 (d : Int) : HT Tryz.prog Tryz.f3.ntmps (.loop (loopOf Tryz.f3 22)) (S_bz d 6 false true 2 0 0 0 0) (fun e _ => e = .exit 1) := by
  refine HT.loop (fun now : Int => S_bz d now false true 2 0 0 0 0) (fun now => (30 - now).toNat) (fun now => 6 ≤ now ∧ now ≤ 30) (fun now hi => ?_) (p := 6) (by omega) (m := 0) (StLe.refl (Nat.zero_le _))
  have hd := Int.emod_nonneg d (show (20 : Int) ≠ 0 by omega)
  have hd2 := Int.emod_lt_of_pos d (show (0 : Int) < 20 by omega)
  have e1 : IntKind.wrap IntKind.i64 (10 + d % 20) = 10 + d % 20 := wrapI (by omega)
  have e2 : IntKind.wrap IntKind.i64 (now + 1) = now + 1 := wrapI (by omega)
  by_cases h : now < 10 + d % 20
  · refine HT.round GOBB2 GKBB2 (e := .normal) (st' := S_bz d (now + 1) false true 2 0 0 0 0) (T.over_eq _ (tree_R1 d now) ?_) (.inl ⟨rfl, 0, now + 1, StLe.refl (Nat.zero_le _), ?_, ?_⟩)
    · have e3 : (0 : Int) = 0 ∨ now ≤ 0 := by omega
      simp only [T.res_br, T.res_ret, T.res_bad, e1, e2, decide_eq_true h, pb_true e3, eq_self, true_or, pb_tt, reduceIte]
      cases (Int.tmod now 3 == 0) <;> rfl
    · omega
    · omega
  · refine HT.round GOBB2 GKBB2 (e := .exit 1) (st' := ⟨[], [], 0, true, 0, []⟩) (T.over_eq _ (tree_R1 d now) ?_) (.inr ⟨by simp, rfl⟩)
    simp only [T.res_br, T.res_ret, T.res_bad, e1, decide_eq_false h, Bool.false_eq_true, reduceIte]

theorem loop_R2 (d : Int) : HT Tryz.prog Tryz.f3.ntmps (.loop (loopOf Tryz.f3 22)) (S_bz d 6 false false 0 1 2 9 1073741824) (fun e _ => e = .exit 1) := by
  refine HT.loop (fun now : Int => S_bz d now false false 0 1 2 9 1073741824) (fun now => (30 - now).toNat) (fun now => 6 ≤ now ∧ now ≤ 30) (fun now hi => ?_) (p := 6) (by omega) (m := 0) (StLe.refl (Nat.zero_le _))
  have hd := Int.emod_nonneg d (show (20 : Int) ≠ 0 by omega)
  have hd2 := Int.emod_lt_of_pos d (show (0 : Int) < 20 by omega)
  have e1 : IntKind.wrap IntKind.i64 (10 + d % 20) = 10 + d % 20 := wrapI (by omega)
  have e2 : IntKind.wrap IntKind.i64 (now + 1) = now + 1 := wrapI (by omega)
  by_cases h : now < 10 + d % 20
  · refine HT.round GOBB2 GKBB2 (e := .normal) (st' := S_bz d (now + 1) false false 0 1 2 9 1073741824) (T.over_eq _ (tree_R2 d now) ?_) (.inl ⟨rfl, 0, now + 1, StLe.refl (Nat.zero_le _), ?_, ?_⟩)
    · have e3 : (1 : Int) = 0 ∨ now ≤ 1073741824 := by omega
      simp only [T.res_br, T.res_ret, T.res_bad, e1, e2, decide_eq_true h, pb_true e3, eq_self, true_or, pb_tt, reduceIte]
      rfl
    · omega
    · omega
  · refine HT.round GOBB2 GKBB2 (e := .exit 1) (st' := ⟨[], [], 0, true, 0, []⟩) (T.over_eq _ (tree_R2 d now) ?_) (.inr ⟨by simp, rfl⟩)
    simp only [T.res_br, T.res_ret, T.res_bad, e1, decide_eq_false h, Bool.false_eq_true, reduceIte]

/-- what the law ends with -/
abbrev EndT : Ex → St → Prop := fun e s => (e = .normal ∨ e = .ret) ∧ (resultsOf GBD1 s Tryz.f3.results.toList).res = some [AB true]
theorem HT.bare {P : Program} {N : Nat} {c : Code} {st : St} {R : Ex → St → Prop} (h : HT P N c ⟨[], [], 0, true, 0, []⟩ R) : HT P N c st R := fun w0 f z w a s Q hQ =>
  h w0 f z w a ⟨fun t => trivial, ⟨fun b _ hl => hl.elim, fun b c _ _ hl => hl.elim, s.rel.zok⟩, s.size, s.defers, s.fr, fun b hl => hl.elim⟩ Q hQ
theorem end_Z {s : St} : HT Tryz.prog Tryz.f3.ntmps (restC 12 hb) s EndT := by
  exact HT.bare (HT.round GOBD1 GKBD1 (e := .ret) (st' := ⟨[(8, .v (AB true))], [], 0, true, 0, []⟩) (T.over_eq _ tree_Z rfl) ⟨.inr rfl, by kernel_rfl⟩)
theorem from11 (d : Int) (dr fz : Bool) (to r p q u : Int) (hl : HT Tryz.prog Tryz.f3.ntmps (.loop (loopOf Tryz.f3 22)) (S_bz d 6 dr fz to r p q u) (fun e _ => e = .exit 1)) :
    HT Tryz.prog Tryz.f3.ntmps (restC 11 hb) ⟨[(3, .v (AI d)), (10, .v (AP 0)), (11, .v (AP 4)), (12, .v tbV)], bzH dr fz to r p q u, 6, true, 0, []⟩ EndT := by
  rw [shape11]
  refine HT.seq (R1 := fun e _ => e = .normal) (HT.seq (R1 := fun e s => e = .normal ∧ s = S_bz d 6 dr fz to r p q u) ?_ (fun s hs => ?_) (fun e s hne hs => absurd hs.1 hne)) (fun s _ => end_Z) (fun e s hne hs => absurd hs hne)
  · exact HT.round GOBD1 GKBD1 (e := .normal) (st' := S_bz d 6 dr fz to r p q u) (T.over_eq _ (tree_Y d dr fz to r p q u) rfl) ⟨rfl, rfl⟩
  · obtain rfl := hs.2
    exact HT.block (HT.weak hl fun e s he => by subst he; rfl)

end Go.Proofs.YtbobakclbdaepaaGreat.En
