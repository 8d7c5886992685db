/- Texts put together: RL, RM, RN. -/
import Derived.Test.YtbobakclbdaepaaGreatG19
/- stableCmpFunc: its loops do not turn. -/
namespace Go.Proofs.YtbobakclbdaepaaGreat.En
open Go
set_option linter.unusedVariables false
set_option linter.unusedSimpArgs false
set_option maxRecDepth 20000
set_option maxHeartbeats 1000000
def S_st (nl : Bool) (n : Nat) (x : Nat → Ent) (d N cap : Nat) (y : Nat → Int) (i : Nat) (a : Unit) : St := ⟨[(0, .v (.one (.sl false 0 1 0 0 d cap false 1))), (1, .v (AI d)), (2, .v (.one (.fn 83 [(1, 0, 0, 0)]))), (6, .v (AI 20)), (7, .v (AI 0)), (8, .v (AI 20))], [(0, .arr true 1 N (intE y)), (1, .cells [.f (.fs nl 5 n (entE x))])], 2, false, 0, []⟩
def S_su (nl : Bool) (n : Nat) (x : Nat → Ent) (d N cap : Nat) (y : Nat → Int) (i : Nat) (a : Unit) : St := ⟨[(1, .v (AI d)), (6, .v (AI 20))], [(0, .arr true 1 N (intE y)), (1, .cells [.f (.fs nl 5 n (entE x))])], 2, false, 0, []⟩

noncomputable def GRL1 : Ctx := GS.with ss_Ins ll0
noncomputable def tgt_st (nl : Bool) (n : Nat) (x : Nat → Ent) (d N cap : Nat) (y : Nat → Int) (i : Nat) (a : Unit) : T (Ex × St) := evRound GRL1 300 97 Tryz.f97.ntmps (loopOf Tryz.f97 2) 2 [0, 1, 2, 6, 7, 8] [0, 1, 2, 6, 7, 8] (S_st nl n x d N cap y i a)
theorem GKRL1 : KnownOk Tryz.prog GRL1 := KnownOk.lists ss_Ins_ok ll0_ok
theorem GORL1 : CtxOk Tryz.prog GRL1 := GS_ok.with _ _
theorem tree_st (nl : Bool) (n : Nat) (x : Nat → Ent) (d N cap : Nat) (y : Nat → Int) (i : Nat) (a : Unit) : (tgt_st nl n x d N cap y i a).over (.br (.br .leaf .skip) .leaf) = T.br (decide ((20 : Int) ≤ (↑d : Int))) (T.br (pb (IntE (intE y) ∧ EntE (entE x) ∧ (0 : Int) = (0 : Int) ∧ (20 : Int) = (↑d : Int) ∧ 83 = 83 ∧ nl = false ∧ 1 ≤ d ∧ d ≤ N ∧ d ≤ 1048576 ∧ InI y d n)) (T.ret (Ex.normal, ⟨[(0, SV.v (AV.one (CV.sl false 0 1 0 0 d cap false 1))), (1, SV.v (AI (↑d : Int))), (2, SV.v (AV.one (CV.fn 83 [(1, 0, 0, 0)]))), (6, SV.v (AI (20 : Int))), (7, SV.v (AI (20 : Int))), (8, SV.v (AI (40 : Int)))], [(0, Ob.arr true 1 N fun a => [FV.lit (.int .i64 (insA x d y a))]), (1, Ob.cells [CV.f (FV.fs nl 5 n fun a => [FV.lit (.int .i64 (Ent.inc (x a))), FV.lit (.int .i64 (Ent.st (x a))), FV.lit (.int .i64 (Ent.stamp (x a))), FV.lit (.int .i64 (Ent.load (x a))), FV.lit (Value.bool (Ent.dr (x a)))])])], 2, false, 0, []⟩)) T.bad) (T.ret (Ex.exit 0, ⟨[(0, SV.v (AV.one (CV.sl false 0 1 0 0 d cap false 1))), (1, SV.v (AI (↑d : Int))), (2, SV.v (AV.one (CV.fn 83 [(1, 0, 0, 0)]))), (6, SV.v (AI (20 : Int))), (7, SV.v (AI (0 : Int))), (8, SV.v (AI (20 : Int)))], [(0, Ob.arr true 1 N fun a => [FV.lit (.int .i64 (y a))]), (1, Ob.cells [CV.f (FV.fs nl 5 n fun a => [FV.lit (.int .i64 (Ent.inc (x a))), FV.lit (.int .i64 (Ent.st (x a))), FV.lit (.int .i64 (Ent.stamp (x a))), FV.lit (.int .i64 (Ent.load (x a))), FV.lit (Value.bool (Ent.dr (x a)))])])], 2, false, 0, []⟩)) := by kernel_rfl
theorem round_st (nl : Bool) (n : Nat) (x : Nat → Ent) (d N cap : Nat) (y : Nat → Int) (hd : d < 20) (i : Nat) (a : Unit) (hi : i < 0) (hI : (fun (i : Nat) (a : Unit) => (True : Prop)) i a) : ∃ st', (tgt_st nl n x d N cap y i a).res = some (.normal, st') ∧ StLe 2 st' (S_st nl n x d N cap y (i + 1) ((fun (i : Nat) (a : Unit) => (a)) i a)) ∧ (fun (i : Nat) (a : Unit) => (True : Prop)) (i + 1) ((fun (i : Nat) (a : Unit) => (a)) i a) := by
  refine T.over_exP (g := fun s => (Ex.normal, s)) (tree_st nl n x d N cap y i a) ?_
  exact absurd hi (Nat.not_lt_zero i)
theorem end_st (nl : Bool) (n : Nat) (x : Nat → Ent) (d N cap : Nat) (y : Nat → Int) (hd : d < 20) (a : Unit) (hI : (fun (i : Nat) (a : Unit) => (True : Prop)) (0) a) : ∃ st', (tgt_st nl n x d N cap y (0) a).res = some (.exit 0, st') ∧ StLe 2 st' (⟨[(0, .v (.one (.sl false 0 1 0 0 d cap false 1))), (1, .v (AI d)), (2, .v (.one (.fn 83 [(1, 0, 0, 0)]))), (6, .v (AI 20)), (7, .v (AI 0)), (8, .v (AI 20))], [(0, .arr true 1 N (intE y)), (1, .cells [.f (.fs nl 5 n (entE x))])], 2, false, 0, []⟩) := by
  refine T.over_exP (g := fun s => (.exit 0, s)) (tree_st nl n x d N cap y (0) a) ?_
  have e1 : ¬ ((20 : Int) ≤ (d : Int)) := by omega
  simp only [T.res_br, T.res_ret, T.res_bad, decide_eq_false e1, Bool.false_eq_true, reduceIte]
  exact ⟨_, rfl, StLe.refl (Nat.le_refl 2)⟩
theorem loop_st (nl : Bool) (n : Nat) (x : Nat → Ent) (d N cap : Nat) (y : Nat → Int) (hd : d < 20) (i : Nat) (a : Unit) (hi : i ≤ 0) (hI : (fun (i : Nat) (a : Unit) => (True : Prop)) i a) {st0 : St} (h0 : StLe 2 st0 (S_st nl n x d N cap y i a)) (hnx : st0.nx = 2) :
    CodeOk Tryz.prog Tryz.f97.ntmps (.loop (loopOf Tryz.f97 2)) st0 (.exit 0) ((fun (a : Unit) => ⟨[(0, .v (.one (.sl false 0 1 0 0 d cap false 1))), (1, .v (AI d)), (2, .v (.one (.fn 83 [(1, 0, 0, 0)]))), (6, .v (AI 20)), (7, .v (AI 0)), (8, .v (AI 20))], [(0, .arr true 1 N (intE y)), (1, .cells [.f (.fs nl 5 n (entE x))])], 2, false, 0, []⟩) (foldF (fun (i : Nat) (a : Unit) => (a)) (0 - i) i a)) := by
  have := for_loop GORL1 GKRL1 (K := 300) (F := 97) (N := Tryz.f97.ntmps) (c := loopOf Tryz.f97 2) (m := 2) (live := [0, 1, 2, 6, 7, 8]) (after := [0, 1, 2, 6, 7, 8]) (S_st nl n x d N cap y) (0) (fun (i : Nat) (a : Unit) => .inl (a)) (fun (a : Unit) => (.exit 0, ⟨[(0, .v (.one (.sl false 0 1 0 0 d cap false 1))), (1, .v (AI d)), (2, .v (.one (.fn 83 [(1, 0, 0, 0)]))), (6, .v (AI 20)), (7, .v (AI 0)), (8, .v (AI 20))], [(0, .arr true 1 N (intE y)), (1, .cells [.f (.fs nl 5 n (entE x))])], 2, false, 0, []⟩)) (fun (i : Nat) (a : Unit) => (True : Prop))
    (fun i a hi hI => by obtain ⟨s, h1, h2, h3⟩ := round_st nl n x d N cap y hd i a hi hI; exact ⟨_, s, h1, rfl, h2, h3⟩)
    (fun a hI => by obtain ⟨s, h1, h2⟩ := end_st nl n x d N cap y hd a hI; exact ⟨_, s, h1, by simp, rfl, h2⟩)
    (fun i a => by first | exact Nat.le_refl _ | (show 2 ≤ _; decide) | (simp only [S_st]; omega)) hi hI h0 hnx
  rw [foldX_inl] at this
  exact this
noncomputable def L_st : LoopF := mkLoopF [0, 1, 2, 6, 7, 8] (loopOf Tryz.f97 2) Tryz.f97.ntmps fun sl H nx => match keyed [0, 1, 2, 6, 7, 8] sl, keyed [0, 1] H with
  | some [.v (.one (.sl false z1 z2 z3 z4 d cap false z5)), .v (.one (.f (.lit (.int .i64 q)))), .v (.one (.fn g [(z6, z7, z8, z9)])), .v (.one (.f (.lit (.int .i64 u)))), .v (.one (.f (.lit (.int .i64 v)))), .v (.one (.f (.lit (.int .i64 w))))], some [.arr true z10 N e, .cells [.f (.fs nl k n e2)]] => onlyB (Nat.beq nx 2 && (Nat.beq z1 0 && (Nat.beq z2 1 && (Nat.beq z3 0 && (Nat.beq z4 0 && (Nat.beq z5 1 && (Nat.beq z6 1 && (Nat.beq z7 0 && (Nat.beq z8 0 && (Nat.beq z9 0 && (Nat.beq z10 1))))))))))) (onlyB (Nat.beq g 83 && Nat.beq k 5) (.need (pb (IntE e ∧ EntE e2 ∧ q = d ∧ u = 20 ∧ v = 0 ∧ w = 20 ∧ d < 20)) (.ret (.exit 0, (St.mk [(0, .v (.one (.sl false 0 1 0 0 d cap false 1))), (1, .v (AI d)), (2, .v (.one (.fn 83 [(1, 0, 0, 0)]))), (6, .v (AI 20)), (7, .v (AI 0)), (8, .v (AI 20))] [(0, .arr true 1 N e), (1, .cells [.f (.fs nl 5 n e2)])] 2 false 0 []).sl, (St.mk [(0, .v (.one (.sl false 0 1 0 0 d cap false 1))), (1, .v (AI d)), (2, .v (.one (.fn 83 [(1, 0, 0, 0)]))), (6, .v (AI 20)), (7, .v (AI 0)), (8, .v (AI 20))] [(0, .arr true 1 N e), (1, .cells [.f (.fs nl 5 n e2)])] 2 false 0 []).H, 2, false))))
  | _, _ => .bad
theorem L_st_ok : LoopOk Tryz.prog L_st := by
  refine mkLoopF_ok fun sl H nx e sl' H' nx' esc' h => ?_
  split at h
  · rename_i z1 z2 z3 z4 d cap z5 q g z6 z7 z8 z9 u v w z10 N e nl k n e2 hsl hH
    have hsl := keyed_eq hsl
    have hH := keyed_eq hH
    subst hsl hH
    have h5 := onlyB_some h
    clear h
    obtain ⟨hck, h⟩ := h5
    simp only [Bool.and_eq_true, nbeq_iff] at hck
    obtain ⟨rfl, rfl, rfl, rfl, rfl, rfl, rfl, rfl, rfl, rfl, rfl⟩ := hck
    have h5 := onlyB_some h
    clear h
    have hw := h5.1
    have h := h5.2
    clear h5
    obtain ⟨hp, hret⟩ := T.need_some h
    have hp := pb_of hp
    have := T.ret_some hret
    simp only [Prod.mk.injEq] at this
    obtain ⟨rfl, rfl, rfl, rfl, rfl⟩ := this
    clear hret h
    obtain ⟨⟨y, rfl⟩, ⟨x, rfl⟩, rfl, rfl, rfl, rfl, h1⟩ := hp
    obtain ⟨hw1, hw2⟩ := Bool.and_eq_true_iff.1 hw
    obtain rfl := Nat.eq_of_beq_eq_true hw1
    obtain rfl := Nat.eq_of_beq_eq_true hw2
    exact loop_st nl n x d N cap y h1 0 () (Nat.zero_le _) trivial (StLe.refl (Nat.le_refl 2)) rfl
  · exact (T.bad_some h).elim
noncomputable def ll_st : List (Nat × Nat × LoopF) := (97, 2, L_st) :: ll0
theorem ll_st_ok : ∀ x ∈ ll_st, LoopOk Tryz.prog x.2.2 := List.forall_mem_cons.2 ⟨L_st_ok, ll0_ok⟩
def S_sv (d : Nat) (i : Nat) (a : Unit) : St := ⟨[(1, .v (AI d)), (6, .v (AI 20))], [], 0, false, 0, []⟩

noncomputable def GRL2 : Ctx := GS.with ss_Ins ll_st
noncomputable def tgt_sv (d : Nat) (i : Nat) (a : Unit) : T (Ex × St) := evRound GRL2 6 97 Tryz.f97.ntmps (loopOf Tryz.f97 7) 0 [1, 6] [] (S_sv d i a)
theorem GKRL2 : KnownOk Tryz.prog GRL2 := KnownOk.lists ss_Ins_ok ll_st_ok
theorem GORL2 : CtxOk Tryz.prog GRL2 := GS_ok.with _ _
theorem tree_sv (d : Nat) (i : Nat) (a : Unit) : (tgt_sv d i a).over (.br .skip .leaf) = T.br (decide ((20 : Int) < (↑d : Int))) T.bad (T.ret (Ex.exit 2, ⟨[], [], 0, false, 0, []⟩)) := by kernel_rfl
theorem round_sv (d : Nat) (hd : d < 20) (i : Nat) (a : Unit) (hi : i < 0) (hI : (fun (i : Nat) (a : Unit) => (True : Prop)) i a) : ∃ st', (tgt_sv d i a).res = some (.normal, st') ∧ StLe 0 st' (S_sv d (i + 1) ((fun (i : Nat) (a : Unit) => (a)) i a)) ∧ (fun (i : Nat) (a : Unit) => (True : Prop)) (i + 1) ((fun (i : Nat) (a : Unit) => (a)) i a) := by
  refine T.over_exP (g := fun s => (Ex.normal, s)) (tree_sv d i a) ?_
  exact absurd hi (Nat.not_lt_zero i)
theorem end_sv (d : Nat) (hd : d < 20) (a : Unit) (hI : (fun (i : Nat) (a : Unit) => (True : Prop)) (0) a) : ∃ st', (tgt_sv d (0) a).res = some (.exit 2, st') ∧ StLe 0 st' (⟨[], [], 0, false, 0, []⟩) := by
  refine T.over_exP (g := fun s => (.exit 2, s)) (tree_sv d (0) a) ?_
  have e1 : ¬ ((20 : Int) < (d : Int)) := by omega
  simp only [T.res_br, T.res_ret, T.res_bad, decide_eq_false e1, Bool.false_eq_true, reduceIte]
  exact ⟨_, rfl, StLe.refl (Nat.le_refl 0)⟩
theorem loop_sv (d : Nat) (hd : d < 20) (i : Nat) (a : Unit) (hi : i ≤ 0) (hI : (fun (i : Nat) (a : Unit) => (True : Prop)) i a) {st0 : St} (h0 : StLe 0 st0 (S_sv d i a)) (hnx : st0.nx = 0) :
    CodeOk Tryz.prog Tryz.f97.ntmps (.loop (loopOf Tryz.f97 7)) st0 (.exit 2) ((fun (a : Unit) => ⟨[], [], 0, false, 0, []⟩) (foldF (fun (i : Nat) (a : Unit) => (a)) (0 - i) i a)) := by
  have := for_loop GORL2 GKRL2 (K := 6) (F := 97) (N := Tryz.f97.ntmps) (c := loopOf Tryz.f97 7) (m := 0) (live := [1, 6]) (after := []) (S_sv d) (0) (fun (i : Nat) (a : Unit) => .inl (a)) (fun (a : Unit) => (.exit 2, ⟨[], [], 0, false, 0, []⟩)) (fun (i : Nat) (a : Unit) => (True : Prop))
    (fun i a hi hI => by obtain ⟨s, h1, h2, h3⟩ := round_sv d hd i a hi hI; exact ⟨_, s, h1, rfl, h2, h3⟩)
    (fun a hI => by obtain ⟨s, h1, h2⟩ := end_sv d hd a hI; exact ⟨_, s, h1, by simp, rfl, h2⟩)
    (fun i a => by first | exact Nat.le_refl _ | (show 0 ≤ _; decide) | (simp only [S_sv]; omega)) hi hI h0 hnx
  rw [foldX_inl] at this
  exact this
noncomputable def L_sv : LoopF := mkLoopF [1, 6] (loopOf Tryz.f97 7) Tryz.f97.ntmps fun sl H nx => match keyed [1, 6] sl, keyed [] H with
  | some [.v (.one (.f (.lit (.int .i64 q)))), .v (.one (.f (.lit (.int .i64 u))))], some [] => onlyB (Nat.beq nx 0) (onlyB (true) (.need (pb (0 ≤ q ∧ q < 20 ∧ u = 20)) (.ret (.exit 2, (St.mk [] [] 0 false 0 []).sl, (St.mk [] [] 0 false 0 []).H, 0, false))))
  | _, _ => .bad
theorem L_sv_ok : LoopOk Tryz.prog L_sv := by
  refine mkLoopF_ok fun sl H nx e sl' H' nx' esc' h => ?_
  split at h
  · rename_i q u hsl hH
    have hsl := keyed_eq hsl
    have hH := keyed_eq hH
    subst hsl hH
    have h5 := onlyB_some h
    clear h
    obtain ⟨hck, h⟩ := h5
    simp only [Bool.and_eq_true, nbeq_iff] at hck
    obtain ⟨rfl⟩ := hck
    have h5 := onlyB_some h
    clear h
    have hw := h5.1
    have h := h5.2
    clear h5
    obtain ⟨hp, hret⟩ := T.need_some h
    have hp := pb_of hp
    have := T.ret_some hret
    simp only [Prod.mk.injEq] at this
    obtain ⟨rfl, rfl, rfl, rfl, rfl⟩ := this
    clear hret h
    obtain ⟨h0, h1, rfl⟩ := hp
    obtain ⟨d, rfl⟩ : ∃ d : Nat, q = d := ⟨q.toNat, by omega⟩
    exact loop_sv d (by omega) 0 () (Nat.zero_le _) trivial (StLe.refl (Nat.le_refl 0)) rfl
  · exact (T.bad_some h).elim
noncomputable def ll_sv : List (Nat × Nat × LoopF) := (97, 7, L_sv) :: ll_st
theorem ll_sv_ok : ∀ x ∈ ll_sv, LoopOk Tryz.prog x.2.2 := List.forall_mem_cons.2 ⟨L_sv_ok, ll_st_ok⟩
noncomputable def GRL3 : Ctx := GS.with ss_Ins ll_sv
noncomputable def tgt_SS (nl : Bool) (n : Nat) (x : Nat → Ent) (d N cap : Nat) (y : Nat → Int) : T CallOut := evCallW [] GRL3 300 82 [.one (.sl false 0 1 0 0 d cap false 1), .one (.fn 83 [(1, 0, 0, 0)])] [(0, .arr true 1 N (intE y)), (1, .cells [.f (.fs nl 5 n (entE x))])] 2
theorem GKRL3 : KnownOk Tryz.prog GRL3 := KnownOk.lists ss_Ins_ok ll_sv_ok
theorem GORL3 : CtxOk Tryz.prog GRL3 := GS_ok.with _ _
theorem tree_SS (nl : Bool) (n : Nat) (x : Nat → Ent) (d N cap : Nat) (y : Nat → Int) : (tgt_SS nl n x d N cap y).over (.br (.br (.br (.br (.br .leaf .skip) .skip) .skip) .skip) .skip) = T.br (pb (Code.loop (loopOf Proofs.Tryz.f97 2) = Code.loop (loopOf Proofs.Tryz.f97 2) ∧ 63 = 63)) (T.br (pb (IntE (intE y) ∧ EntE (entE x) ∧ (↑d : Int) = (↑d : Int) ∧ (20 : Int) = (20 : Int) ∧ (0 : Int) = (0 : Int) ∧ (20 : Int) = (20 : Int) ∧ d < 20)) (T.br (pb (IntE (intE y) ∧ EntE (entE x) ∧ (0 : Int) = (0 : Int) ∧ (↑d : Int) = (↑d : Int) ∧ 83 = 83 ∧ nl = false ∧ 1 ≤ d ∧ d ≤ N ∧ d ≤ 1048576 ∧ InI y d n)) (T.br (pb (Code.loop (loopOf Proofs.Tryz.f97 7) = Code.loop (loopOf Proofs.Tryz.f97 7) ∧ 63 = 63)) (T.br (pb ((0 : Int) ≤ (↑d : Int) ∧ (↑d : Int) < (20 : Int) ∧ (20 : Int) = (20 : Int))) (T.ret ⟨SV.tup [], [(0, Ob.arr true 1 N fun a => [FV.lit (.int .i64 (insA x d y a))]), (1, Ob.cells [CV.f (FV.fs nl 5 n fun a => [FV.lit (.int .i64 (Ent.inc (x a))), FV.lit (.int .i64 (Ent.st (x a))), FV.lit (.int .i64 (Ent.stamp (x a))), FV.lit (.int .i64 (Ent.load (x a))), FV.lit (Value.bool (Ent.dr (x a)))])])], 2, false, []⟩) T.bad) T.bad) T.bad) T.bad) T.bad := by kernel_rfl
theorem res_SS (nl : Bool) (n : Nat) (x : Nat → Ent) (d N cap : Nat) (y : Nat → Int) (h : nl = false ∧ 1 ≤ d ∧ d ≤ N ∧ d < 20 ∧ InI y d n) : (tgt_SS nl n x d N cap y).res = some ⟨.tup [], [(0, .arr true 1 N (intE (insA x d y))), (1, .cells [.f (.fs nl 5 n (entE x))])], 2, false, []⟩ := by
  refine T.over_eq _ (tree_SS nl n x d N cap y) ?_
  obtain ⟨h1, h2, h3, h4, h5⟩ := h
  have e9 : EntE (entE x) := EntE_ok x
  have e1 : d ≤ 1048576 := by omega
  have e2 : (0 : Int) ≤ (d : Int) ∧ (d : Int) < 20 := by omega
  simp only [T.res_br, T.res_ret, T.res_bad, IntE_ok, e9, h1, h2, h3, h4, h5, e1, e2, eq_self, and_self, pb_tt, reduceIte]

noncomputable def F_SS : SumF
  | [.one (.sl false 0 1 0 0 d cap false 1), .one (.fn g [(1, 0, 0, 0)])], [(0, .arr true 1 N e), (1, .cells [.f (.fs nl 5 n e2)])], 2 => .need (pb (IntE e ∧ EntE e2 ∧ g = 83 ∧ nl = false ∧ 1 ≤ d ∧ d ≤ N ∧ d < 20 ∧ InI (intOf e) d n)) (.ret (⟨.tup [], [(0, .arr true 1 N (intE (insA (entOf e2) d (intOf e)))), (1, .cells [.f (.fs nl 5 n e2)])], 2, false, [0]⟩))
  | _, _, _ => .bad
theorem sum_SS : SumOk Tryz.prog 82 F_SS := by
  refine ⟨fun args H nx r hr => ?_, fun args H nx => ?_⟩
  · unfold F_SS at hr
    split at hr
    · rename_i d cap g N e nl n e2
      obtain ⟨h0, hr⟩ := T.need_some hr
      have := T.ret_some hr
      subst this
      have h := pb_of h0
      obtain ⟨⟨y, rfl⟩, ⟨x, rfl⟩, rfl, h1⟩ := h
      exact by have h9 := evCallW_ok GORL3 GKRL3 (res_SS nl n x d N cap y h1); exact h9
    · exact (T.bad_some hr).elim
  · unfold F_SS
    split
    · exact T.Every.need ⟨by first | exact Nat.le_refl _ | (dsimp only; omega), fun b hb hw => by
        have : b = 0 ∨ b = 1 := by omega
        rcases this with rfl | rfl <;> first | rfl | exact absurd (by dsimp only; decide) hw⟩
    · trivial
noncomputable def sm_SS : SumF := canonSum F_SS
theorem sm_SS_ok : SumOk Tryz.prog 82 sm_SS := canonSum_ok sum_SS
noncomputable def ss_SS : List (Nat × SumF) := (82, sm_SS) :: ss_Ins
theorem ss_SS_ok : ∀ x ∈ ss_SS, SumOk Tryz.prog x.1 x.2 := List.forall_mem_cons.2 ⟨sm_SS_ok, ss_Ins_ok⟩
end Go.Proofs.YtbobakclbdaepaaGreat.En
/- Targets: Next answers a row of its own; rows of none, one, two are put in order. -/
namespace Go.Proofs.YtbobakclbdaepaaGreat.En
open Go
set_option linter.unusedVariables false
set_option linter.unusedSimpArgs false
set_option maxRecDepth 20000
set_option maxHeartbeats 1000000
/-- Next's answer, as a row of one's own -/
noncomputable def nxO (me : Int) (x : Nat → Int) (n : Nat) : T CallOut :=
  .br (Nat.beq (nxD me x n) 0) (.ret ⟨.v (.one Nil), [], 0, false, []⟩)
   (.br (decide (max (nxB me x n) (nxA me x n) = min (nxB me x n) (nxA me x n))) (.ret ⟨.v (.one (.sl false 3 0 0 0 1 1 true 1)), [(3, .cells [I (min (nxB me x n) (nxA me x n)), I 0])], 4, false, []⟩)
    (.ret ⟨.v (.one (.sl false 3 0 0 0 2 2 true 1)), [(3, .cells [I (min (nxB me x n) (nxA me x n)), I (max (nxB me x n) (nxA me x n))])], 4, false, []⟩))
theorem nxR_to (me : Int) (nl : Bool) (n : Nat) (x : Nat → Int) (h : (nl = true → n = 0) ∧ n ≤ 1048576) : CallTo Tryz.prog 81 [AI me, .one (.f (.fs nl 1 n (intE x)))] [] 0 (nxR me x n) := by
  rcases Nat.eq_zero_or_pos n with rfl | hp
  · exact evCallW_ok GORD1 GKRD1 (res_Nx0 me nl x)
  · have : nl = false := by
      cases nl
      · rfl
      · have := h.1 rfl; omega
    subst this
    exact evCallW_ok GORD2 GKRD2 (res_Nx me n x ⟨hp, h.2⟩)
theorem nxO_to {me : Int} {nl : Bool} {n : Nat} {x : Nat → Int} {r : CallOut} (h : (nl = true → n = 0) ∧ n ≤ 1048576) (hr : (nxO me x n).res = some r) : CallTo Tryz.prog 81 [AI me, .one (.f (.fs nl 1 n (intE x)))] [] 0 r := by
  have h1 := nxR_to me nl n x h
  unfold nxO at hr
  unfold nxR at h1
  rcases T.br_some hr with ⟨hc, hr⟩ | ⟨hc, hr⟩
  · have hc := Nat.eq_of_beq_eq_true hc
    have := T.ret_some hr
    subst this
    rw [if_pos hc] at h1
    exact h1
  · have hc : nxD me x n ≠ 0 := fun e => by rw [e] at hc; exact absurd hc (by decide)
    rw [if_neg hc] at h1
    rcases T.br_some hr with ⟨hd, hr⟩ | ⟨hd, hr⟩
    · have := T.ret_some hr
      subst this
      rw [if_pos (of_decide_eq_true hd)] at h1
      exact h1.le (StLe.sift (Nat.zero_le _) (fun b => Nat.beq b 3))
    · have := T.ret_some hr
      subst this
      rw [if_neg (of_decide_eq_false hd)] at h1
      exact h1.le (StLe.sift (Nat.zero_le _) (fun b => Nat.beq b 3))
noncomputable def F_NxO : SumF
  | [.one (.f (.lit (.int .i64 me))), .one (.f (.fs nl 1 n e))], [], 0 => .need (pb (IntE e ∧ (nl = true → n = 0) ∧ n ≤ 1048576)) (nxO me (intOf e) n)
  | _, _, _ => .bad
theorem sum_NxO : SumOk Tryz.prog 81 F_NxO := by
  refine ⟨fun args H nx r hr => ?_, fun args H nx => ?_⟩
  · unfold F_NxO at hr
    split at hr
    · obtain ⟨h0, hr⟩ := T.need_some hr
      obtain ⟨⟨x, rfl⟩, h1⟩ := pb_of h0
      exact nxO_to h1 hr
    · exact (T.bad_some hr).elim
  · unfold F_NxO
    split
    · refine T.Every.need ?_
      unfold nxO
      have k : ∀ r : CallOut, 0 ≤ r.nx ∧ ∀ b, b < 0 → b ∉ r.wr → r.H.get b = Heap.get [] b := fun r => ⟨Nat.zero_le _, fun b hb hw => absurd hb (Nat.not_lt_zero b)⟩
      exact ⟨k _, k _, k _⟩
    · trivial

noncomputable def sm_NxO : SumF := orSum (canonSum F_NxO) (frzSum (canonSum F_NxO))
theorem sm_NxO_ok : SumOk Tryz.prog 81 sm_NxO := orSum_ok (canonSum_ok sum_NxO) (frzSum_ok (canonSum_ok sum_NxO))
noncomputable def ss_NxO : List (Nat × SumF) := (81, sm_NxO) :: ss_SS
theorem ss_NxO_ok : ∀ x ∈ ss_NxO, SumOk Tryz.prog x.1 x.2 := List.forall_mem_cons.2 ⟨sm_NxO_ok, ss_SS_ok⟩
noncomputable def GRM1 : Ctx := GS.with ss_Tg1 ll0
noncomputable def tgt_SS0 (nl : Bool) (n : Nat) (x : Nat → Ent) (cap N : Nat) (ex : Bool) (y : Nat → Int) : T CallOut := evCallW [] GRM1 300 82 [.one (.sl true 0 1 0 0 0 cap ex 1), .one (.fn 83 [(1, 0, 0, 0)])] [(0, .arr false 1 N (intE y)), (1, .cells [.f (.fs nl 5 n (entE x))])] 2
noncomputable def tgt_SSn (nl : Bool) (n : Nat) (x : Nat → Ent) : T CallOut := evCallW [] GRM1 300 82 [.one (.f (.fs true 1 0 fun _ => [])), .one (.fn 83 [(0, 0, 0, 0)])] [(0, .cells [.f (.fs nl 5 n (entE x))])] 1
noncomputable def tgt_SS1 (nl : Bool) (n : Nat) (x : Nat → Ent) (a b : Int) : T CallOut := evCallW [] GRM1 300 82 [.one (.sl false 0 0 0 0 1 1 true 1), .one (.fn 83 [(1, 0, 0, 0)])] [(0, .cells [I a, I b]), (1, .cells [.f (.fs nl 5 n (entE x))])] 2
noncomputable def tgt_SS2 (nl : Bool) (n : Nat) (x : Nat → Ent) (a b : Int) : T CallOut := evCallW [] GRM1 300 82 [.one (.sl false 0 0 0 0 2 2 true 1), .one (.fn 83 [(1, 0, 0, 0)])] [(0, .cells [I a, I b]), (1, .cells [.f (.fs nl 5 n (entE x))])] 2
theorem GKRM1 : KnownOk Tryz.prog GRM1 := KnownOk.lists ss_Tg1_ok ll0_ok
theorem GORM1 : CtxOk Tryz.prog GRM1 := GS_ok.with _ _
theorem tree_SS0 (nl : Bool) (n : Nat) (x : Nat → Ent) (cap N : Nat) (ex : Bool) (y : Nat → Int) : (tgt_SS0 nl n x cap N ex y).over (.ff (.ff (.ff .leaf))) = T.ret ⟨SV.tup [], [(0, Ob.arr false 1 N fun a => [FV.lit (.int .i64 (y a))]), (1, Ob.cells [CV.f (FV.fs nl 5 n fun a => [FV.lit (.int .i64 (Ent.inc (x a))), FV.lit (.int .i64 (Ent.st (x a))), FV.lit (.int .i64 (Ent.stamp (x a))), FV.lit (.int .i64 (Ent.load (x a))), FV.lit (Value.bool (Ent.dr (x a)))])])], 2, false, []⟩ := by kernel_rfl
theorem tree_SSn (nl : Bool) (n : Nat) (x : Nat → Ent) : (tgt_SSn nl n x).over (.ff (.ff (.ff .leaf))) = T.ret ⟨SV.tup [], [(0, Ob.cells [CV.f (FV.fs nl 5 n fun a => [FV.lit (.int .i64 (Ent.inc (x a))), FV.lit (.int .i64 (Ent.st (x a))), FV.lit (.int .i64 (Ent.stamp (x a))), FV.lit (.int .i64 (Ent.load (x a))), FV.lit (Value.bool (Ent.dr (x a)))])])], 1, false, []⟩ := by kernel_rfl
theorem tree_SS1 (nl : Bool) (n : Nat) (x : Nat → Ent) (a b : Int) : (tgt_SS1 nl n x a b).over (.ff (.ff (.ff .leaf))) = T.ret ⟨SV.tup [], [(0, Ob.cells [I a, I b]), (1, Ob.cells [CV.f (FV.fs nl 5 n fun a => [FV.lit (.int .i64 (Ent.inc (x a))), FV.lit (.int .i64 (Ent.st (x a))), FV.lit (.int .i64 (Ent.stamp (x a))), FV.lit (.int .i64 (Ent.load (x a))), FV.lit (Value.bool (Ent.dr (x a)))])])], 2, false, []⟩ := by kernel_rfl
theorem tree_SS2 (nl : Bool) (n : Nat) (x : Nat → Ent) (a b : Int) : (tgt_SS2 nl n x a b).over (.ff (.tt (.tt (.tt (.tt (.tt (.tt (.tt (.ff (.tt (.tt (.tt (.tt (.tt (.tt (.tt (.tt (.tt (.tt (.tt (.br (.tt (.tt (.br (.tt (.tt (.tt (.tt (.tt (.ff (.tt (.tt (.tt (.ff (.tt (.tt (.tt (.tt (.ff (.ff (.ff (.ff (.ff (.ff (.ff (.ff (.ff (.ff (.ff (.ff (.ff (.ff (.ff (.ff .leaf)))))))))))))))))))))))))))))) (.ff (.ff .leaf))))) .skip))))))))))))))))))))) = T.br (pb (EntE (entE x) ∧ ((0 : Int) ≤ b ∧ b < (↑n : Int)) ∧ ((0 : Int) ≤ a ∧ a < (↑n : Int)) ∧ nl = false)) (T.br (decide (cmpI (ldI x b) (ldI x a) < (0 : Int))) (T.ret ⟨SV.tup [], [(1, Ob.cells [CV.f (FV.fs nl 5 n fun a => [FV.lit (.int .i64 (Ent.inc (x a))), FV.lit (.int .i64 (Ent.st (x a))), FV.lit (.int .i64 (Ent.stamp (x a))), FV.lit (.int .i64 (Ent.load (x a))), FV.lit (Value.bool (Ent.dr (x a)))])]), (0, Ob.cells [I b, I a])], 2, false, []⟩) (T.ret ⟨SV.tup [], [(1, Ob.cells [CV.f (FV.fs nl 5 n fun a => [FV.lit (.int .i64 (Ent.inc (x a))), FV.lit (.int .i64 (Ent.st (x a))), FV.lit (.int .i64 (Ent.stamp (x a))), FV.lit (.int .i64 (Ent.load (x a))), FV.lit (Value.bool (Ent.dr (x a)))])]), (0, Ob.cells [I a, I b])], 2, false, []⟩)) T.bad := by kernel_rfl
def ordA (x : Nat → Ent) (a b : Int) : Int := match lessI x b a with | true => b | false => a
def ordB (x : Nat → Ent) (a b : Int) : Int := match lessI x b a with | true => a | false => b
theorem to_SS1 (nl : Bool) (n : Nat) (x : Nat → Ent) (a b : Int) : CallTo Tryz.prog 82 [.one (.sl false 0 0 0 0 1 1 true 1), .one (.fn 83 [(1, 0, 0, 0)])] [(0, .cells [I a, I b]), (1, .cells [.f (.fs nl 5 n (entE x))])] 2 ⟨.tup [], [(0, .cells [I a, I b]), (1, .cells [.f (.fs nl 5 n (entE x))])], 2, false, [0]⟩ := by
  have h : (tgt_SS1 nl n x a b).res = some ⟨.tup [], [(0, .cells [I a, I b]), (1, .cells [.f (.fs nl 5 n (entE x))])], 2, false, []⟩ := T.over_eq _ (tree_SS1 nl n x a b) rfl
  have h9 := evCallW_ok GORM1 GKRM1 h
  exact h9
theorem to_SSn (nl : Bool) (n : Nat) (x : Nat → Ent) : CallTo Tryz.prog 82 [.one (.f (.fs true 1 0 fun _ => [])), .one (.fn 83 [(0, 0, 0, 0)])] [(0, .cells [.f (.fs nl 5 n (entE x))])] 1 ⟨.tup [], [(0, .cells [.f (.fs nl 5 n (entE x))])], 1, false, []⟩ := by
  have h : (tgt_SSn nl n x).res = some ⟨.tup [], [(0, .cells [.f (.fs nl 5 n (entE x))])], 1, false, []⟩ := T.over_eq _ (tree_SSn nl n x) rfl
  have h9 := evCallW_ok GORM1 GKRM1 h
  exact h9
theorem to_SSn1 (nl : Bool) (n : Nat) (x : Nat → Ent) : CallTo Tryz.prog 82 [.one Nil, .one (.fn 83 [(0, 0, 0, 0)])] [(0, .cells [.f (.fs nl 5 n (entE x))])] 1 ⟨.tup [], [(0, .cells [.f (.fs nl 5 n (entE x))])], 1, false, []⟩ :=
  (to_SSn nl n x).args (.cons (CV.le.f FV.le_nil) (.refl _))
theorem to_SS2 (nl : Bool) (n : Nat) (x : Nat → Ent) (a b : Int) (h : ((0 : Int) ≤ a ∧ a < (n : Int)) ∧ ((0 : Int) ≤ b ∧ b < (n : Int)) ∧ nl = false) : CallTo Tryz.prog 82 [.one (.sl false 0 0 0 0 2 2 true 1), .one (.fn 83 [(1, 0, 0, 0)])] [(0, .cells [I a, I b]), (1, .cells [.f (.fs nl 5 n (entE x))])] 2 ⟨.tup [], [(0, .cells [I (ordA x a b), I (ordB x a b)]), (1, .cells [.f (.fs nl 5 n (entE x))])], 2, false, [0]⟩ := by
  obtain ⟨h1, h2, rfl⟩ := h
  have bb : ∀ (p q : Ob) (b : Nat), Heap.get [(1, p), (0, q)] b = Heap.get [(0, q), (1, p)] b := fun p q b => by rcases b with _ | _ | b <;> rfl
  cases hq : lessI x b a with
  | true =>
    have hq' := hq
    unfold lessI at hq'
    have h : (tgt_SS2 false n x a b).res = some ⟨.tup [], [(1, .cells [.f (.fs false 5 n (entE x))]), (0, .cells [I b, I a])], 2, false, []⟩ := T.over_eq _ (tree_SS2 false n x a b) (by
      simp only [T.res_br, T.res_ret, T.res_bad, EntE_ok, h1, h2, eq_self, and_self, pb_tt, hq', reduceIte])
    simp only [ordA, ordB, hq]
    have h9 := (evCallW_ok GORM1 GKRM1 h).less (r' := ⟨.tup [], [(0, .cells [I b, I a]), (1, .cells [.f (.fs false 5 n (entE x))])], 2, false, []⟩) (Nat.le_refl 2) (.inr (.inl rfl)) (fun c => .inl (bb _ _ c)) rfl rfl
    exact h9
  | false =>
    have hq' := hq
    unfold lessI at hq'
    have h : (tgt_SS2 false n x a b).res = some ⟨.tup [], [(1, .cells [.f (.fs false 5 n (entE x))]), (0, .cells [I a, I b])], 2, false, []⟩ := T.over_eq _ (tree_SS2 false n x a b) (by
      simp only [T.res_br, T.res_ret, T.res_bad, EntE_ok, h1, h2, eq_self, and_self, pb_tt, hq', Bool.false_eq_true, reduceIte])
    simp only [ordA, ordB, hq]
    have h9 := (evCallW_ok GORM1 GKRM1 h).less (r' := ⟨.tup [], [(0, .cells [I a, I b]), (1, .cells [.f (.fs false 5 n (entE x))])], 2, false, []⟩) (Nat.le_refl 2) (.inr (.inl rfl)) (fun c => .inl (bb _ _ c)) rfl rfl
    exact h9
theorem to_SSG (nl : Bool) (n : Nat) (x : Nat → Ent) (d N cap : Nat) (nl2 lv : Bool) (y : Nat → Int) (h : nl = false ∧ nl2 = Nat.beq d 0 ∧ lv = !(Nat.beq d 0) ∧ d ≤ N ∧ d ≤ cap ∧ d < 20 ∧ InI y d n ∧ (d = 0 → cap = 0)) : CallTo Tryz.prog 82 [.one (.sl nl2 0 1 0 0 d cap false 1), .one (.fn 83 [(1, 0, 0, 0)])] [(0, .arr lv 1 N (intE y)), (1, .cells [.f (.fs nl 5 n (entE x))])] 2 ⟨.tup [], [(0, .arr lv 1 N (intE (insA x d y))), (1, .cells [.f (.fs nl 5 n (entE x))])], 2, false, [0]⟩ := by
  obtain ⟨rfl, rfl, rfl, h1, h2, h3, h4, h5⟩ := h
  rcases Nat.eq_zero_or_pos d with rfl | hp
  · have h : (tgt_SS0 false n x cap N false y).res = some ⟨.tup [], [(0, .arr false 1 N (intE y)), (1, .cells [.f (.fs false 5 n (entE x))])], 2, false, []⟩ := T.over_eq _ (tree_SS0 false n x cap N false y) rfl
    have h9 := evCallW_ok GORM1 GKRM1 h
    exact h9
  · have e0 : Nat.beq d 0 = false := beq_ff (by omega)
    rw [e0]
    have h9 := evCallW_ok GORL3 GKRL3 (res_SS false n x d N cap y ⟨rfl, hp, h1, h3, h4⟩)
    exact h9

noncomputable def F_SSn : SumF
  | [.one (.f (.lit (.slice none 0 0))), .one (.fn g [(0, 0, 0, 0)])], [(0, .cells [.f (.fs nl 5 n e2)])], 1 => .need (pb (EntE e2 ∧ g = 83)) (.ret (⟨.tup [], [(0, .cells [.f (.fs nl 5 n e2)])], 1, false, []⟩))
  | _, _, _ => .bad
theorem sum_SSn : SumOk Tryz.prog 82 F_SSn := by
  refine ⟨fun args H nx r hr => ?_, fun args H nx => ?_⟩
  · unfold F_SSn at hr
    split at hr
    · rename_i g nl n e2
      obtain ⟨h0, hr⟩ := T.need_some hr
      have := T.ret_some hr
      subst this
      have h := pb_of h0
      obtain ⟨⟨x, rfl⟩, rfl⟩ := h
      exact to_SSn1 nl n x
    · exact (T.bad_some hr).elim
  · unfold F_SSn
    split
    · exact T.Every.need ⟨by first | exact Nat.le_refl _ | (dsimp only; omega), fun b hb hw => by
        have : b = 0 := by omega
        subst this <;> first | rfl | exact absurd (by dsimp only; decide) hw⟩
    · trivial
noncomputable def sm_SSn : SumF := canonSum F_SSn
theorem sm_SSn_ok : SumOk Tryz.prog 82 sm_SSn := canonSum_ok sum_SSn
noncomputable def ss_SSn : List (Nat × SumF) := (82, sm_SSn) :: ss_NxO
theorem ss_SSn_ok : ∀ x ∈ ss_SSn, SumOk Tryz.prog x.1 x.2 := List.forall_mem_cons.2 ⟨sm_SSn_ok, ss_NxO_ok⟩
noncomputable def F_SS1 : SumF
  | [.one (.sl false 0 0 0 0 1 1 true 1), .one (.fn g [(1, 0, 0, 0)])], [(0, .cells [.f (.lit (.int .i64 a)), .f (.lit (.int .i64 b))]), (1, .cells [.f (.fs nl 5 n e2)])], 2 => .need (pb (EntE e2 ∧ g = 83)) (.ret (⟨.tup [], [(0, .cells [I a, I b]), (1, .cells [.f (.fs nl 5 n e2)])], 2, false, [0]⟩))
  | _, _, _ => .bad
theorem sum_SS1 : SumOk Tryz.prog 82 F_SS1 := by
  refine ⟨fun args H nx r hr => ?_, fun args H nx => ?_⟩
  · unfold F_SS1 at hr
    split at hr
    · rename_i g a b nl n e2
      obtain ⟨h0, hr⟩ := T.need_some hr
      have := T.ret_some hr
      subst this
      have h := pb_of h0
      obtain ⟨⟨x, rfl⟩, rfl⟩ := h
      exact to_SS1 nl n x a b
    · exact (T.bad_some hr).elim
  · unfold F_SS1
    split
    · exact T.Every.need ⟨by first | exact Nat.le_refl _ | (dsimp only; omega), fun b hb hw => by
        have : b = 0 ∨ b = 1 := by omega
        rcases this with rfl | rfl <;> first | rfl | exact absurd (by dsimp only; decide) hw⟩
    · trivial
noncomputable def sm_SS1 : SumF := canonSum F_SS1
theorem sm_SS1_ok : SumOk Tryz.prog 82 sm_SS1 := canonSum_ok sum_SS1
noncomputable def ss_SS1 : List (Nat × SumF) := (82, sm_SS1) :: ss_SSn
theorem ss_SS1_ok : ∀ x ∈ ss_SS1, SumOk Tryz.prog x.1 x.2 := List.forall_mem_cons.2 ⟨sm_SS1_ok, ss_SSn_ok⟩
noncomputable def F_SS2 : SumF
  | [.one (.sl false 0 0 0 0 2 2 true 1), .one (.fn g [(1, 0, 0, 0)])], [(0, .cells [.f (.lit (.int .i64 a)), .f (.lit (.int .i64 b))]), (1, .cells [.f (.fs nl 5 n e2)])], 2 => .need (pb (EntE e2 ∧ g = 83 ∧ ((0 : Int) ≤ a ∧ a < (n : Int)) ∧ ((0 : Int) ≤ b ∧ b < (n : Int)) ∧ nl = false)) (.ret (⟨.tup [], [(0, .cells [I (ordA (entOf e2) a b), I (ordB (entOf e2) a b)]), (1, .cells [.f (.fs nl 5 n e2)])], 2, false, [0]⟩))
  | _, _, _ => .bad
theorem sum_SS2 : SumOk Tryz.prog 82 F_SS2 := by
  refine ⟨fun args H nx r hr => ?_, fun args H nx => ?_⟩
  · unfold F_SS2 at hr
    split at hr
    · rename_i g a b nl n e2
      obtain ⟨h0, hr⟩ := T.need_some hr
      have := T.ret_some hr
      subst this
      have h := pb_of h0
      obtain ⟨⟨x, rfl⟩, rfl, h1⟩ := h
      exact to_SS2 nl n x a b h1
    · exact (T.bad_some hr).elim
  · unfold F_SS2
    split
    · exact T.Every.need ⟨by first | exact Nat.le_refl _ | (dsimp only; omega), fun b hb hw => by
        have : b = 0 ∨ b = 1 := by omega
        rcases this with rfl | rfl <;> first | rfl | exact absurd (by dsimp only; decide) hw⟩
    · trivial
noncomputable def sm_SS2 : SumF := canonSum F_SS2
theorem sm_SS2_ok : SumOk Tryz.prog 82 sm_SS2 := canonSum_ok sum_SS2
noncomputable def ss_SS2 : List (Nat × SumF) := (82, sm_SS2) :: ss_SS1
theorem ss_SS2_ok : ∀ x ∈ ss_SS2, SumOk Tryz.prog x.1 x.2 := List.forall_mem_cons.2 ⟨sm_SS2_ok, ss_SS1_ok⟩
noncomputable def F_SSG : SumF
  | [.one (.sl nl2 0 1 0 0 d cap false 1), .one (.fn g [(1, 0, 0, 0)])], [(0, .arr lv 1 N e), (1, .cells [.f (.fs nl 5 n e2)])], 2 => .need (pb (IntE e ∧ EntE e2 ∧ g = 83 ∧ nl = false ∧ nl2 = Nat.beq d 0 ∧ lv = (!(Nat.beq d 0)) ∧ d ≤ N ∧ d ≤ cap ∧ d < 20 ∧ InI (intOf e) d n ∧ (d = 0 → cap = 0))) (.ret (⟨.tup [], [(0, .arr lv 1 N (intE (insA (entOf e2) d (intOf e)))), (1, .cells [.f (.fs nl 5 n e2)])], 2, false, [0]⟩))
  | _, _, _ => .bad
theorem sum_SSG : SumOk Tryz.prog 82 F_SSG := by
  refine ⟨fun args H nx r hr => ?_, fun args H nx => ?_⟩
  · unfold F_SSG at hr
    split at hr
    · rename_i nl2 d cap g lv N e nl n e2
      obtain ⟨h0, hr⟩ := T.need_some hr
      have := T.ret_some hr
      subst this
      have h := pb_of h0
      obtain ⟨⟨y, rfl⟩, ⟨x, rfl⟩, rfl, h1⟩ := h
      exact to_SSG nl n x d N cap nl2 lv y h1
    · exact (T.bad_some hr).elim
  · unfold F_SSG
    split
    · exact T.Every.need ⟨by first | exact Nat.le_refl _ | (dsimp only; omega), fun b hb hw => by
        have : b = 0 ∨ b = 1 := by omega
        rcases this with rfl | rfl <;> first | rfl | exact absurd (by dsimp only; decide) hw⟩
    · trivial
noncomputable def sm_SSG : SumF := canonSum F_SSG
theorem sm_SSG_ok : SumOk Tryz.prog 82 sm_SSG := canonSum_ok sum_SSG
noncomputable def ss_SSG : List (Nat × SumF) := (82, sm_SSG) :: ss_SS2
theorem ss_SSG_ok : ∀ x ∈ ss_SSG, SumOk Tryz.prog x.1 x.2 := List.forall_mem_cons.2 ⟨sm_SSG_ok, ss_SS2_ok⟩
/-- a row, or two cells -/
noncomputable def F_SSA : SumF := fun args H nx => match args with
  | .one (.f _) :: _ => F_SSn args H nx
  | _ => match H with
    | (_, .arr _ _ _ _) :: _ => F_SSG args H nx
    | _ => orSum F_SS1 F_SS2 args H nx
theorem sum_SSA : SumOk Tryz.prog 82 F_SSA := by
  have h12 := orSum_ok sum_SS1 sum_SS2
  refine ⟨fun args H nx r hr => ?_, fun args H nx => ?_⟩
  · unfold F_SSA at hr
    split at hr
    · exact sum_SSn.1 _ _ _ _ hr
    · split at hr
      · exact sum_SSG.1 _ _ _ _ hr
      · exact h12.1 _ _ _ _ hr
  · unfold F_SSA
    split
    · exact sum_SSn.2 _ _ _
    · split
      · exact sum_SSG.2 _ _ _
      · exact h12.2 _ _ _

noncomputable def sm_SSA : SumF := canonSum F_SSA
theorem sm_SSA_ok : SumOk Tryz.prog 82 sm_SSA := canonSum_ok sum_SSA
noncomputable def ss_SSA : List (Nat × SumF) := (82, sm_SSA) :: ss_SSG
theorem ss_SSA_ok : ∀ x ∈ ss_SSA, SumOk Tryz.prog x.1 x.2 := List.forall_mem_cons.2 ⟨sm_SSA_ok, ss_SSG_ok⟩
end Go.Proofs.YtbobakclbdaepaaGreat.En
/- Targets is known. -/
namespace Go.Proofs.YtbobakclbdaepaaGreat.En
open Go
set_option linter.unusedVariables false
set_option linter.unusedSimpArgs false
set_option maxRecDepth 20000
set_option maxHeartbeats 1000000
/-- who may be given to, in the table's order -/
def tgA (me : Int) (x : Nat → Ent) (n : Nat) : Nat × (Nat → Int) := foldF (tgF me x) n 0 (0, fun _ => 0)

noncomputable def L_tg : LoopF := mkLoopF [0, 3, 5, 16, 17, 18] (loopOf Tryz.f75 5) Tryz.f75.ntmps fun sl H nx => match keyed [0, 3, 5, 16, 17, 18] sl, keyed [0] H with
  | some [.v (.one (.f (.lit (.int .i64 me)))), .v (.one (.ptr z1 z2 z3 z4)), .v (.one (.f (.lit (.slice none z5 z6)))), .v (.one (.f (.fs nl k n e))), .v (.one (.f (.lit (.int .i64 m)))), .v (.one (.f (.lit (.int .i64 i))))], some [.cells [.f (.fs nl2 k2 n2 e2)]] => onlyB (Nat.beq nx 1 && (Nat.beq z1 0 && (Nat.beq z2 0 && (Nat.beq z3 0 && (Nat.beq z4 0 && (Nat.beq z5 0 && (Nat.beq z6 0))))))) (onlyB (Nat.beq k 5 && Nat.beq k2 5) (.need (pb (EntE e ∧ nl2 = nl ∧ n2 = n ∧ e2 = e ∧ (nl = true → n = 0) ∧ n ≤ 1048576 ∧ m = n ∧ i = 0)) (.ret (.exit 0, (St.mk [(0, .v (AI me)), (3, .v (AP 0)), (5, .v (.one (.sl (Nat.beq (tgA me (entOf e) n).1 0) 1 1 0 0 (tgA me (entOf e) n).1 (tgA me (entOf e) n).1 false 1)))] [(0, .cells [.f (.fs nl 5 n e)]), (1, .arr (!(Nat.beq (tgA me (entOf e) n).1 0)) 1 (tgA me (entOf e) n).1 (intE (tgA me (entOf e) n).2))] 2 false 0 []).sl, (St.mk [(0, .v (AI me)), (3, .v (AP 0)), (5, .v (.one (.sl (Nat.beq (tgA me (entOf e) n).1 0) 1 1 0 0 (tgA me (entOf e) n).1 (tgA me (entOf e) n).1 false 1)))] [(0, .cells [.f (.fs nl 5 n e)]), (1, .arr (!(Nat.beq (tgA me (entOf e) n).1 0)) 1 (tgA me (entOf e) n).1 (intE (tgA me (entOf e) n).2))] 2 false 0 []).H, 2, false))))
  | _, _ => .bad
theorem L_tg_ok : LoopOk Tryz.prog L_tg := by
  refine mkLoopF_ok fun sl H nx e sl' H' nx' esc' h => ?_
  split at h
  · rename_i me z1 z2 z3 z4 z5 z6 nl k n e m i nl2 k2 n2 e2 hsl hH
    have hsl := keyed_eq hsl
    have hH := keyed_eq hH
    subst hsl hH
    have h5 := onlyB_some h
    clear h
    obtain ⟨hck, h⟩ := h5
    simp only [Bool.and_eq_true, nbeq_iff] at hck
    obtain ⟨rfl, rfl, rfl, rfl, rfl, rfl, rfl⟩ := hck
    have h5 := onlyB_some h
    clear h
    have hw := h5.1
    have h := h5.2
    clear h5
    obtain ⟨hp, hret⟩ := T.need_some h
    have hp := pb_of hp
    have := T.ret_some hret
    simp only [Prod.mk.injEq] at this
    obtain ⟨rfl, rfl, rfl, rfl, rfl⟩ := this
    clear hret h
    obtain ⟨⟨x, rfl⟩, rfl, rfl, rfl, h1, h2, rfl, rfl⟩ := hp
    obtain ⟨hw1, hw2⟩ := Bool.and_eq_true_iff.1 hw
    obtain rfl := Nat.eq_of_beq_eq_true hw1
    obtain rfl := Nat.eq_of_beq_eq_true hw2
    refine loop_tg nl2 n2 x me h2 h1 0 (0, fun _ => 0) (Nat.zero_le _) (Nat.le_refl 0) (StLe.row (Nat.le_refl 1) (fun t => ?_) (fun b hb => ?_) (fun h => by cases h)) rfl
    · by_cases h5 : 5 = t
      · subst h5
        exact .inr (.inr ⟨rfl, _, _, _, rfl⟩)
      · left
        simp only [S_tg, List.zip_cons_cons, List.zip_nil_right, Slots.get_cons, h5, if_false]
        rfl
    · rcases b with _ | _ | b
      · rfl
      · exact absurd rfl hb
      · rfl
  · exact (T.bad_some h).elim
noncomputable def ll_tg : List (Nat × Nat × LoopF) := (75, 5, L_tg) :: ll0
theorem ll_tg_ok : ∀ x ∈ ll_tg, LoopOk Tryz.prog x.2.2 := List.forall_mem_cons.2 ⟨L_tg_ok, ll0_ok⟩
noncomputable def GRN1 : Ctx := GS.with ss_SSA ll_tg
noncomputable def tgt_Tgz (me : Int) (nl : Bool) (n : Nat) (x : Nat → Ent) : T CallOut := evCallZ [] GRN1 300 75 [AI me, .one (.f (.fs nl 5 n (entE x)))] [] 0
theorem GKRN1 : KnownOk Tryz.prog GRN1 := KnownOk.lists ss_SSA_ok ll_tg_ok
theorem GORN1 : CtxOk Tryz.prog GRN1 := GS_ok.with _ _
theorem tree_Tgz (me : Int) (nl : Bool) (n : Nat) (x : Nat → Ent) : (tgt_Tgz me nl n x).over (.br (.tt (.tt (.tt (.tt (.tt .leaf))))) (.ff (.ff (.ff (.ff (.br .leaf (.br (.br (.br (.br (.br (.br (.br (.br (.br (.tt (.tt .leaf)) .skip) (.br (.br (.tt (.tt (.ff (.tt .leaf)))) .skip) (.br (.tt (.tt (.ff (.tt .leaf)))) .skip))) .skip) .skip) (.br (.br (.br (.br .leaf (.br (.br .leaf .skip) .skip)) .skip) .skip) .skip)) .skip) .skip) .skip) .skip))))))) = T.br (decide (me < (0 : Int))) (T.ret (out0 (SV.v (AV.one Nil)))) (T.br (decide (me ≥ (↑n : Int))) (T.ret (out0 (SV.v (AV.one Nil)))) (T.br (pb (Code.loop (loopOf Proofs.Tryz.f75 5) = Code.loop (loopOf Proofs.Tryz.f75 5) ∧ 55 = 55)) (T.br (pb (EntE (entE x) ∧ nl = nl ∧ n = n ∧ entE x = entE x ∧ (nl = true → n = 0) ∧ n ≤ 1048576 ∧ (↑n : Int) = (↑n : Int) ∧ (0 : Int) = (0 : Int))) (T.br (!nl) (T.br (decide ((0 : Int) ≤ me ∧ me < (↑n : Int))) (T.br (!Ent.dr (x (Int.toNat me))) (T.br (Nat.ble (Prod.fst (tgA me x n)) (Prod.fst (tgA me x n)) && (!Nat.beq (Prod.fst (tgA me x n)) 0 || Nat.beq (Prod.fst (tgA me x n)) 0)) (T.br (pb (IntE (intE (Prod.snd (tgA me x n))) ∧ (Nat.beq (Prod.fst (tgA me x n)) 0 = true → Prod.fst (tgA me x n) = 0) ∧ Prod.fst (tgA me x n) ≤ 1048576)) (T.br (Nat.beq (nxD me (Prod.snd (tgA me x n)) (Prod.fst (tgA me x n))) 0) (T.br (pb (EntE (entE x) ∧ 83 = 83)) (T.ret (out0 (SV.v (AV.one Nil)))) T.bad) (T.br (decide (max (nxB me (Prod.snd (tgA me x n)) (Prod.fst (tgA me x n))) (nxA me (Prod.snd (tgA me x n)) (Prod.fst (tgA me x n))) = min (nxB me (Prod.snd (tgA me x n)) (Prod.fst (tgA me x n))) (nxA me (Prod.snd (tgA me x n)) (Prod.fst (tgA me x n))))) (T.br (pb (EntE (entE x) ∧ 83 = 83)) (T.ret (out0 (SV.v (AV.one (CV.f (FV.fs false 1 1 fun a => [FV.lit (.int .i64 (min (nxB me (Prod.snd (tgA me x n)) (Prod.fst (tgA me x n))) (nxA me (Prod.snd (tgA me x n)) (Prod.fst (tgA me x n)))))])))))) T.bad) (T.br (pb (EntE (entE x) ∧ 83 = 83 ∧ ((0 : Int) ≤ min (nxB me (Prod.snd (tgA me x n)) (Prod.fst (tgA me x n))) (nxA me (Prod.snd (tgA me x n)) (Prod.fst (tgA me x n))) ∧ min (nxB me (Prod.snd (tgA me x n)) (Prod.fst (tgA me x n))) (nxA me (Prod.snd (tgA me x n)) (Prod.fst (tgA me x n))) < (↑n : Int)) ∧ ((0 : Int) ≤ max (nxB me (Prod.snd (tgA me x n)) (Prod.fst (tgA me x n))) (nxA me (Prod.snd (tgA me x n)) (Prod.fst (tgA me x n))) ∧ max (nxB me (Prod.snd (tgA me x n)) (Prod.fst (tgA me x n))) (nxA me (Prod.snd (tgA me x n)) (Prod.fst (tgA me x n))) < (↑n : Int)) ∧ nl = false)) (T.ret (out0 (SV.v (AV.one (CV.f (FV.fs false 1 2 fun a => [FV.lit (.int .i64 (bif Nat.beq a 0 then ordA x (min (nxB me (Prod.snd (tgA me x n)) (Prod.fst (tgA me x n))) (nxA me (Prod.snd (tgA me x n)) (Prod.fst (tgA me x n)))) (max (nxB me (Prod.snd (tgA me x n)) (Prod.fst (tgA me x n))) (nxA me (Prod.snd (tgA me x n)) (Prod.fst (tgA me x n)))) else ordB x (min (nxB me (Prod.snd (tgA me x n)) (Prod.fst (tgA me x n))) (nxA me (Prod.snd (tgA me x n)) (Prod.fst (tgA me x n)))) (max (nxB me (Prod.snd (tgA me x n)) (Prod.fst (tgA me x n))) (nxA me (Prod.snd (tgA me x n)) (Prod.fst (tgA me x n))))))])))))) T.bad))) T.bad) T.bad) (T.br (pb (IntE (intE (Prod.snd (tgA me x n))) ∧ EntE (entE x) ∧ 83 = 83 ∧ nl = false ∧ Nat.beq (Prod.fst (tgA me x n)) 0 = Nat.beq (Prod.fst (tgA me x n)) 0 ∧ (!Nat.beq (Prod.fst (tgA me x n)) 0) = !Nat.beq (Prod.fst (tgA me x n)) 0 ∧ Prod.fst (tgA me x n) ≤ Prod.fst (tgA me x n) ∧ Prod.fst (tgA me x n) ≤ Prod.fst (tgA me x n) ∧ Prod.fst (tgA me x n) < 20 ∧ InI (Prod.snd (tgA me x n)) (Prod.fst (tgA me x n)) n ∧ (Prod.fst (tgA me x n) = 0 → Prod.fst (tgA me x n) = 0))) (T.br (decide ((0 : Int) ≤ (↑(Prod.fst (tgA me x n)) : Int) ∧ (↑(Prod.fst (tgA me x n)) : Int) ≤ (↑(Prod.fst (tgA me x n)) : Int))) (T.br (decide ((0 : Int) ≤ (↑(Prod.fst (tgA me x n)) : Int) ∧ (↑(Prod.fst (tgA me x n)) : Int) ≤ (↑(Prod.fst (tgA me x n)) : Int))) (T.br (Nat.beq (Prod.fst (tgA me x n)) 0) (T.ret (out0 (SV.v (AV.one (CV.f (FV.z0 (Nat.beq (Prod.fst (tgA me x n)) 0))))))) (T.br (!Nat.beq (Prod.fst (tgA me x n)) 0) (T.br (Nat.ble (Prod.fst (tgA me x n) - 0) (Prod.fst (tgA me x n)) && (!Nat.beq (Prod.fst (tgA me x n)) 0 || Nat.beq (Prod.fst (tgA me x n) - 0) 0)) (T.ret (out0 (SV.v (AV.one (CV.f (FV.fs false 1 (Prod.fst (tgA me x n) - 0) fun a => [FV.lit (.int .i64 (insA x (Prod.fst (tgA me x n)) (Prod.snd (tgA me x n)) a))])))))) T.bad) T.bad)) T.bad) T.bad) T.bad)) T.bad) T.bad) T.bad) T.bad)) := by kernel_rfl
theorem tgA_fold (me : Int) (x : Nat → Ent) : ∀ (c i : Nat) (a : Nat × (Nat → Int)), a.1 ≤ i → InI a.2 a.1 i → (foldF (tgF me x) c i a).1 ≤ i + c ∧ InI (foldF (tgF me x) c i a).2 (foldF (tgF me x) c i a).1 (i + c)
  | 0, i, a, h, g => ⟨h, g⟩
  | c + 1, i, a, h, g => by
    have e : i + (c + 1) = i + 1 + c := by omega
    rw [e]
    simp only [foldF]
    have hs : (tgF me x i a).1 ≤ i + 1 ∧ InI (tgF me x i a).2 (tgF me x i a).1 (i + 1) := by
      unfold tgF
      cases tgB me x i
      · refine ⟨Nat.le_succ_of_le h, fun k hk => ?_⟩
        dsimp only at hk ⊢
        have g2 := g k hk
        omega
      · refine ⟨Nat.succ_le_succ h, fun k hk => ?_⟩
        dsimp only at hk ⊢
        rcases Nat.lt_or_ge k a.1 with h2 | h2
        · rw [ble_tt (show k + 1 ≤ a.1 by omega)]
          have g2 := g k h2
          simp only [cond_true]; omega
        · rw [ble_false (show ¬ k + 1 ≤ a.1 by omega)]
          simp only [cond_false]; omega
    exact tgA_fold me x c (i + 1) _ hs.1 hs.2
theorem tgA_ok (me : Int) (x : Nat → Ent) (n : Nat) : (tgA me x n).1 ≤ n ∧ InI (tgA me x n).2 (tgA me x n).1 n := by
  have := tgA_fold me x n 0 (0, fun _ => 0) (Nat.le_refl 0) (fun k hk => absurd hk (Nat.not_lt_zero k))
  rwa [Nat.zero_add] at this
theorem nxB_in {me : Int} {y : Nat → Int} {d n : Nat} (h : InI y d n) (h0 : nxD me y d ≠ 0) : 0 ≤ nxB me y d ∧ nxB me y d < (n : Int) := by
  obtain ⟨⟨j, h1, h2⟩, _⟩ := (nxS_mem me y d (nxB me y d)).1 ⟨nxK me y d % nxD me y d, Nat.mod_lt _ (by omega), rfl⟩
  rw [← h2]; exact h j h1
theorem nxA_in {me : Int} {y : Nat → Int} {d n : Nat} (h : InI y d n) (h0 : nxD me y d ≠ 0) : 0 ≤ nxA me y d ∧ nxA me y d < (n : Int) := by
  obtain ⟨⟨j, h1, h2⟩, _⟩ := (nxS_mem me y d (nxA me y d)).1 ⟨(nxK me y d + nxD me y d - 1) % nxD me y d, Nat.mod_lt _ (by omega), rfl⟩
  rw [← h2]; exact h j h1
/-- whom Targets puts in order -/
def tgR (me : Int) (x : Nat → Ent) (n : Nat) : Nat × (Nat → Int) := match (x me.toNat).dr with | true => tgA me x n | false => (nzL me (tgA me x n).2 (tgA me x n).1, nzE me (tgA me x n).2 (tgA me x n).1)
def tzL (me : Int) (x : Nat → Ent) (n : Nat) : Nat := if 0 ≤ me ∧ me < (n : Int) then (tgR me x n).1 else 0
def tzE (me : Int) (x : Nat → Ent) (n : Nat) : Nat → Int := insA x (tzL me x n) (tgR me x n).2
theorem tz_nil {g : Nat} {args : List AV} {me : Int} {x : Nat → Ent} {n : Nat} (h0 : tzL me x n = 0) (h : CallTo Tryz.prog g args [] 0 (out0 (.v (.one Nil)))) : CallTo Tryz.prog g args [] 0 (out0 (.v (.one (.f (.fs (Nat.beq (tzL me x n) 0) 1 (tzL me x n) (intE (tzE me x n))))))) := by
  have e : Nat.beq (tzL me x n) 0 = true := by rw [h0]; rfl
  rw [e]
  refine h.less (Nat.le_refl 0) (.inr (.inr ⟨_, _, rfl, rfl, CV.le.f ?_⟩)) (fun b => .inl rfl) rfl rfl
  rw [h0]; exact FV.le_nil
theorem insA_two (x : Nat → Ent) (y : Nat → Int) : insA x 2 y = match lessI x (y 1) (y 0) with | true => swI y 1 | false => y := rfl
theorem ord_two (x : Nat → Ent) (y : Nat → Int) (i : Nat) (hi : i < 2) : (bif Nat.beq i 0 then ordA x (y 0) (y 1) else ordB x (y 0) (y 1)) = insA x 2 y i := by
  rw [insA_two]
  unfold ordA ordB
  rcases i with _ | _ | i
  · cases lessI x (y 1) (y 0) <;> rfl
  · cases lessI x (y 1) (y 0) <;> rfl
  · omega
theorem to_Tgz (me : Int) (nl : Bool) (n : Nat) (x : Nat → Ent) (h : (nl = true → n = 0) ∧ n < 20) : CallTo Tryz.prog 75 [AI me, .one (.f (.fs nl 5 n (entE x)))] [] 0 (out0 (.v (.one (.f (.fs (Nat.beq (tzL me x n) 0) 1 (tzL me x n) (intE (tzE me x n))))))) := by
  obtain ⟨hnl, hn⟩ := h
  by_cases h1 : me < 0
  · refine tz_nil (by unfold tzL; rw [if_neg (by omega)]) (evCallZ_ok GORN1 GKRN1 (T.over_eq _ (tree_Tgz me nl n x) ?_))
    simp only [T.res_br, T.res_ret, decide_eq_true h1, reduceIte]
  by_cases h2 : me ≥ (n : Int)
  · refine tz_nil (by unfold tzL; rw [if_neg (by omega)]) (evCallZ_ok GORN1 GKRN1 (T.over_eq _ (tree_Tgz me nl n x) ?_))
    simp only [T.res_br, T.res_ret, decide_eq_false h1, decide_eq_true h2, Bool.false_eq_true, reduceIte]
  obtain rfl : nl = false := by
    cases nl
    · rfl
    · have := hnl rfl; omega
  have h3 : (0 : Int) ≤ me ∧ me < (n : Int) := by omega
  have a1 := (tgA_ok me x n).1
  have a2 := (tgA_ok me x n).2
  have e9 : EntE (entE x) := EntE_ok x
  have i9 : IntE (intE (tgA me x n).2) := IntE_ok _
  have a3 : (tgA me x n).1 ≤ 1048576 := by omega
  have a4 : (tgA me x n).1 < 20 := by omega
  have a5 : n ≤ 1048576 := by omega
  have b1 : (Nat.ble (tgA me x n).1 (tgA me x n).1 && (!Nat.beq (tgA me x n).1 0 || Nat.beq (tgA me x n).1 0)) = true := by rw [ble_tt (Nat.le_refl _), Bool.or_comm, beq_or]; rfl
  have b2 : (Nat.beq (tgA me x n).1 0 = true → (tgA me x n).1 = 0) := Nat.eq_of_beq_eq_true
  have hL : tzL me x n = (tgR me x n).1 := if_pos h3
  have b3 : (Nat.beq (tgA me x n).1 0 = true → (tgA me x n).1 = 0) = True := eq_true b2
  cases hd : (x me.toNat).dr with
  | true =>
    have hR : tgR me x n = tgA me x n := by unfold tgR; rw [hd]
    have hE : tzE me x n = insA x (tgA me x n).1 (tgA me x n).2 := by unfold tzE; rw [hL, hR]
    rw [hR] at hL
    by_cases hz : (tgA me x n).1 = 0
    · have c1 : Nat.beq (tgA me x n).1 0 = true := by rw [hz]; rfl
      have c2 : (0 : Int) ≤ ((tgA me x n).1 : Int) ∧ ((tgA me x n).1 : Int) ≤ ((tgA me x n).1 : Int) := by omega
      have hr : (tgt_Tgz me false n x).res = some (out0 (.v (.one (.f (.z0 true))))) := T.over_eq _ (tree_Tgz me false n x) (by
        simp only [T.res_br, T.res_ret, T.res_bad, decide_eq_false h1, decide_eq_false h2, decide_eq_true h3, hd, a5, a4, a2, e9, i9, c1, decide_eq_true c2, Bool.not_true, Bool.not_false, Bool.false_eq_true, false_implies, eq_self, and_self, true_imp_iff, implies_true, imp_self, Nat.le_refl, pb_tt, reduceIte])
      rw [hL, hz]
      exact (evCallZ_ok GORN1 GKRN1 hr).less (Nat.le_refl 0) (.inr (.inr ⟨_, _, rfl, rfl, CV.le.f FV.le_z0⟩)) (fun b => .inl rfl) rfl rfl
    · have c1 : Nat.beq (tgA me x n).1 0 = false := beq_ff hz
      have c2 : (0 : Int) ≤ ((tgA me x n).1 : Int) ∧ ((tgA me x n).1 : Int) ≤ ((tgA me x n).1 : Int) := by omega
      have hr : (tgt_Tgz me false n x).res = some (out0 (.v (.one (.f (.fs false 1 ((tgA me x n).1 - 0) fun a => [.lit (.int .i64 (insA x (tgA me x n).1 (tgA me x n).2 a))]))))) := T.over_eq _ (tree_Tgz me false n x) (by
        simp only [T.res_br, T.res_ret, T.res_bad, decide_eq_false h1, decide_eq_false h2, decide_eq_true h3, hd, a5, false_implies, a4, a2, e9, i9, c1, decide_eq_true c2, ble_tt (Nat.le_refl (tgA me x n).1), Nat.sub_zero, Bool.not_true, Bool.not_false, Bool.false_eq_true, Bool.true_or, Bool.and_self, eq_self, and_self, true_imp_iff, implies_true, imp_self, Nat.le_refl, pb_tt, reduceIte])
      rw [hL, c1]
      refine (evCallZ_ok GORN1 GKRN1 hr).less (Nat.le_refl 0) (.inr (.inr ⟨_, _, rfl, rfl, CV.le.f ?_⟩)) (fun b => .inl rfl) rfl rfl
      rw [Nat.sub_zero]
      exact FV.le_fs fun i hi => by rw [hE]
  | false =>
    have hR : tgR me x n = (nzL me (tgA me x n).2 (tgA me x n).1, nzE me (tgA me x n).2 (tgA me x n).1) := by unfold tgR; rw [hd]
    have hE : tzE me x n = insA x (nzL me (tgA me x n).2 (tgA me x n).1) (nzE me (tgA me x n).2 (tgA me x n).1) := by unfold tzE; rw [hL, hR]
    rw [hR] at hL
    by_cases hz : nxD me (tgA me x n).2 (tgA me x n).1 = 0
    · have c1 : Nat.beq (nxD me (tgA me x n).2 (tgA me x n).1) 0 = true := by rw [hz]; rfl
      refine tz_nil (by rw [hL]; simp only [nzL, hz, reduceIte]) (evCallZ_ok GORN1 GKRN1 (T.over_eq _ (tree_Tgz me false n x) ?_))
      simp only [T.res_br, T.res_ret, T.res_bad, decide_eq_false h1, decide_eq_false h2, decide_eq_true h3, hd, a5, false_implies, b1, b3, a3, i9, e9, c1, Bool.not_false, Bool.false_eq_true, eq_self, and_self, pb_tt, reduceIte]
    · have c1 : Nat.beq (nxD me (tgA me x n).2 (tgA me x n).1) 0 = false := beq_ff hz
      have c2 := nxB_in (me := me) a2 hz
      have c3 := nxA_in (me := me) a2 hz
      by_cases hm : max (nxB me (tgA me x n).2 (tgA me x n).1) (nxA me (tgA me x n).2 (tgA me x n).1) = min (nxB me (tgA me x n).2 (tgA me x n).1) (nxA me (tgA me x n).2 (tgA me x n).1)
      · have hl : nzL me (tgA me x n).2 (tgA me x n).1 = 1 := by simp only [nzL, hz, hm, reduceIte]
        have hr : (tgt_Tgz me false n x).res = some (out0 (.v (.one (.f (.fs false 1 1 fun a => [.lit (.int .i64 (min (nxB me (tgA me x n).2 (tgA me x n).1) (nxA me (tgA me x n).2 (tgA me x n).1)))]))))) := T.over_eq _ (tree_Tgz me false n x) (by
          simp only [T.res_br, T.res_ret, T.res_bad, decide_eq_false h1, decide_eq_false h2, decide_eq_true h3, hd, a5, false_implies, b1, b3, a3, i9, e9, c1, decide_eq_true hm, Bool.not_false, Bool.false_eq_true, eq_self, and_self, pb_tt, reduceIte])
        rw [hL]
        simp only [hl]
        refine (evCallZ_ok GORN1 GKRN1 hr).less (Nat.le_refl 0) (.inr (.inr ⟨_, _, rfl, rfl, CV.le.f (FV.le_fs fun i hi => ?_)⟩)) (fun b => .inl rfl) rfl rfl
        obtain rfl : i = 0 := Nat.lt_one_iff.1 hi
        simp only [intE, hE, hl]
        rfl
      · have hl : nzL me (tgA me x n).2 (tgA me x n).1 = 2 := by simp only [nzL, hz, hm, reduceIte]
        have c4 : (0 : Int) ≤ min (nxB me (tgA me x n).2 (tgA me x n).1) (nxA me (tgA me x n).2 (tgA me x n).1) ∧ min (nxB me (tgA me x n).2 (tgA me x n).1) (nxA me (tgA me x n).2 (tgA me x n).1) < (n : Int) := by omega
        have c5 : (0 : Int) ≤ max (nxB me (tgA me x n).2 (tgA me x n).1) (nxA me (tgA me x n).2 (tgA me x n).1) ∧ max (nxB me (tgA me x n).2 (tgA me x n).1) (nxA me (tgA me x n).2 (tgA me x n).1) < (n : Int) := by omega
        have hr : (tgt_Tgz me false n x).res = some (out0 (.v (.one (.f (.fs false 1 2 fun a => [.lit (.int .i64 (bif Nat.beq a 0 then ordA x (min (nxB me (tgA me x n).2 (tgA me x n).1) (nxA me (tgA me x n).2 (tgA me x n).1)) (max (nxB me (tgA me x n).2 (tgA me x n).1) (nxA me (tgA me x n).2 (tgA me x n).1)) else ordB x (min (nxB me (tgA me x n).2 (tgA me x n).1) (nxA me (tgA me x n).2 (tgA me x n).1)) (max (nxB me (tgA me x n).2 (tgA me x n).1) (nxA me (tgA me x n).2 (tgA me x n).1))))]))))) := T.over_eq _ (tree_Tgz me false n x) (by
          simp only [T.res_br, T.res_ret, T.res_bad, decide_eq_false h1, decide_eq_false h2, decide_eq_true h3, hd, a5, false_implies, b1, b3, a3, i9, e9, c1, c4, c5, decide_eq_false hm, Bool.not_false, Bool.false_eq_true, eq_self, and_self, pb_tt, reduceIte])
        rw [hL]
        simp only [hl]
        refine (evCallZ_ok GORN1 GKRN1 hr).less (Nat.le_refl 0) (.inr (.inr ⟨_, _, rfl, rfl, CV.le.f (FV.le_fs fun i hi => ?_)⟩)) (fun b => .inl rfl) rfl rfl
        rw [hE, hl]
        exact congrArg (fun v => [FV.lit (.int .i64 v)]) (ord_two x (nzE me (tgA me x n).2 (tgA me x n).1) i hi)

noncomputable def F_Tgz : SumF
  | [.one (.f (.lit (.int .i64 me))), .one (.f (.fs nl 5 n e))], [], 0 => .need (pb (EntE e ∧ (nl = true → n = 0) ∧ n < 20)) (.ret (out0 (.v (.one (.f (.fs (Nat.beq (tzL me (entOf e) n) 0) 1 (tzL me (entOf e) n) (intE (tzE me (entOf e) n))))))))
  | _, _, _ => .bad
theorem sum_Tgz : SumOk Tryz.prog 75 F_Tgz := by
  refine ⟨fun args H nx r hr => ?_, fun args H nx => ?_⟩
  · unfold F_Tgz at hr
    split at hr
    · rename_i me nl n e
      obtain ⟨h0, hr⟩ := T.need_some hr
      have := T.ret_some hr
      subst this
      have h := pb_of h0
      obtain ⟨⟨x, rfl⟩, h1⟩ := h
      exact to_Tgz me nl n x h1
    · exact (T.bad_some hr).elim
  · unfold F_Tgz
    split
    · exact T.Every.need ⟨Nat.zero_le _, fun b hb hw => absurd hb (Nat.not_lt_zero b)⟩
    · trivial
noncomputable def sm_Tgz : SumF := orSum (nilSum 5 ((entE fun _ => default)) (canonSum F_Tgz)) (lendSum (nilSum 5 ((entE fun _ => default)) (canonSum F_Tgz)))
theorem sm_Tgz_ok : SumOk Tryz.prog 75 sm_Tgz := orSum_ok (nilSum_ok (canonSum_ok sum_Tgz)) (lendSum_ok (nilSum_ok (canonSum_ok sum_Tgz)))
noncomputable def ss_Tgz : List (Nat × SumF) := (75, sm_Tgz) :: ss_SSA
theorem ss_Tgz_ok : ∀ x ∈ ss_Tgz, SumOk Tryz.prog x.1 x.2 := List.forall_mem_cons.2 ⟨sm_Tgz_ok, ss_SSA_ok⟩
end Go.Proofs.YtbobakclbdaepaaGreat.En
