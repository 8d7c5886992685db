/- Texts put together: RY, RZ, SA, SB. -/
import Derived.Test.YtggneleipimijaaG11
import Derived.Test.YtggneleipimijaaG07
/- RingBoth: its loops. -/
namespace Go.Proofs.Ytggneleipimijaa.En
open Go
set_option linter.unusedVariables false
set_option linter.unusedSimpArgs false
set_option maxRecDepth 20000
set_option maxHeartbeats 1000000
theorem run_known : ((evCall GC noLive 2000 13 [] [] 0).bind fun o => match o.v with | .v (.one (.f (.lit (.bool b)))) => .ret b | _ => .bad).res = some true := by kernel_rfl
theorem to_known : CallTo Try.prog 13 [] [] 0 (out0 (.v (AB true))) := truth_to (fun w => calls_true GC_ok KnownOk.nothing (z := noZ) ⟨fun k o v h => by cases h⟩ RAs.nil run_known) [] 0

noncomputable def F_known : SumF
  | [], [], 0 => .ret (out0 (.v (AB true)))
  | _, _, _ => .bad
theorem sum_known : SumOk Try.prog 13 F_known := by
  refine ⟨fun args H nx r hr => ?_, fun args H nx => ?_⟩
  · unfold F_known at hr
    split at hr
    · have := T.ret_some hr
      subst this
      exact to_known
    · exact (T.bad_some hr).elim
  · unfold F_known
    split
    · exact ⟨Nat.zero_le _, fun b hb hw => absurd hb (Nat.not_lt_zero b)⟩
    · trivial
noncomputable def sm_known : SumF := canonSum F_known
theorem sm_known_ok : SumOk Try.prog 13 sm_known := canonSum_ok sum_known
noncomputable def ss_known : List (Nat × SumF) := (13, sm_known) :: ss_same
theorem ss_known_ok : ∀ x ∈ ss_known, SumOk Try.prog x.1 x.2 := List.forall_mem_cons.2 ⟨sm_known_ok, ss_same_ok⟩
def NoT (es : List (Value × Value)) : Prop := es = []
theorem NoT_nil : NoT [] := rfl
def MapT (es : List (Value × Value)) : Prop := ∃ l, es = mT l
theorem MapT_mT (l : List Int) : MapT (mT l) := ⟨l, rfl⟩
def p20 (l : Nat → Int) : Nat → Int := fun j => l j % 20
def S_m1 (nl : Bool) (n : Nat) (l : Nat → Int) (aa : Int) (i : Nat) (u : Unit) : St := ⟨[(0, .v (.one (.f (.fs nl 1 n (intE l))))), (1, .v (AI aa)), (5, .v (.one (.sl (Nat.beq i 0) 1 1 0 0 i i false 1))), (6, .v (.one (.mp 0))), (7, .v (AI i))], [(1, .arr (!(Nat.beq i 0)) 1 i (intE (p20 l))), (0, .map (mT (hsL (p20 l) i)))], 2, false, 0, []⟩

def S_m6 (n : Nat) (X : Nat → Int) (es : List (Value × Value)) (xv yv : Int) (n1 : Bool) (d1 : Nat) (z1 : Nat → Int) (p1 : Int) (aa : Int) (p0 : Int) (n2 : Bool) (d2 : Nat) (z2 : Nat → Int) (i : Nat) (b : Bool) : St := ⟨[(1, .v (AI aa)), (5, .v (.one (.f (.fs false 1 n (intE X))))), (6, .v (.one (.mp 0))), (10, .v (AI xv)), (12, .v (AI yv)), (13, .v (AB b)), (47, .v (.one (.f (.fs false 1 n (intE X))))), (48, .v (AI n)), (49, .v (AI p0)), (55, .v (.one (.f (.fs n1 1 d1 (intE z1))))), (56, .v (AI d1)), (57, .v (AI p1)), (63, .v (.one (.f (.fs n2 1 d2 (intE z2))))), (64, .v (AI d2)), (65, .v (AI i))], [(0, .map es)], 1, false, 0, []⟩

def S_m36 (n : Nat) (X : Nat → Int) (iv : Int) (q : Nat) (d2 : Nat) (z2 : Nat → Int) (n2 : Bool) (i : Nat) (r : List Int) : St := ⟨[(5, .v (.one (.f (.fs false 1 n (intE X))))), (16, .v (.one (.mp 0))), (6, .v (.one (.mp 1))), (17, .v (AI iv)), (107, itV q), (117, .v (.one (.f (.fs n2 1 d2 (intE z2))))), (118, .v (AI d2)), (119, .v (AI i))], [(0, .map (mT r))], 2, false, 0, []⟩
noncomputable def GRY1 : Ctx := GS.with ss_known ll_tb
noncomputable def tgt_m1 (nl : Bool) (n : Nat) (l : Nat → Int) (aa : Int) (i : Nat) (u : Unit) : T (Ex × St) := evRound GRY1 300 3 Try.f3.ntmps (loopOf Try.f3 4) 1 [0, 1, 5, 6, 7] [1, 5, 6] (S_m1 nl n l aa i u)
noncomputable def tgt_m6 (n : Nat) (X : Nat → Int) (es : List (Value × Value)) (xv yv : Int) (n1 : Bool) (d1 : Nat) (z1 : Nat → Int) (p1 : Int) (aa : Int) (p0 : Int) (n2 : Bool) (d2 : Nat) (z2 : Nat → Int) (i : Nat) (b : Bool) : T (Ex × St) := evRound GRY1 300 3 Try.f3.ntmps (loopOf Try.f3 19) 1 [1, 5, 6, 10, 12, 13, 47, 48, 49, 55, 56, 57, 63, 64, 65] [1, 5, 6, 10, 12, 13, 47, 48, 49, 55, 56, 57] (S_m6 n X es xv yv n1 d1 z1 p1 aa p0 n2 d2 z2 i b)
noncomputable def tgt_m36 (n : Nat) (X : Nat → Int) (iv : Int) (q : Nat) (d2 : Nat) (z2 : Nat → Int) (n2 : Bool) (i : Nat) (r : List Int) : T (Ex × St) := evRound GRY1 300 3 Try.f3.ntmps (loopOf Try.f3 36) 2 [5, 16, 6, 17, 107, 117, 118, 119] [5, 16, 6, 17, 107] (S_m36 n X iv q d2 z2 n2 i r)
theorem GKRY1 : KnownOk Try.prog GRY1 := KnownOk.lists ss_known_ok ll_tb_ok
theorem GORY1 : CtxOk Try.prog GRY1 := GS_ok.with _ _
theorem tree_m1 (nl : Bool) (n : Nat) (l : Nat → Int) (aa : Int) (i : Nat) (u : Unit) : (tgt_m1 nl n l aa i u).over (.br (.tt (.tt (.br (.br (.br (.tt (.tt (.ff (.br (.br .skip .skip) (.br (.br (.br .leaf .skip) .skip) .skip))))) .skip) .skip) .leaf))) (.ff (.ff (.ff .leaf)))) =
  T.br (decide ((↑i : Int) < (↑n : Int))) (T.br (decide ((↑i : Int) < (9 : Int))) (T.br (!nl) (T.br (decide ((0 : Int) ≤ (↑i : Int) ∧ (↑i : Int) < (↑n : Int))) (T.br (Nat.ble (i + (1 : Nat)) i) (T.br (!Nat.beq i (0 : Nat)) T.bad T.bad) (T.br (smallB (i + (1 : Nat)) (8 : Nat)) (T.br ((Nat.beq i (0 : Nat) || !Nat.beq i (0 : Nat)) && Nat.ble ((0 : Nat) + i) i) (T.br (keysOk (Value.int IntKind.i64 (l i % (20 : Int))) (mT (hsL (p20 l) i))) (T.ret (Ex.normal, { sl := [((0 : Nat), SV.v (AV.one (CV.f (FV.fs nl (1 : Nat) n fun a => [FV.lit (Value.int IntKind.i64 (l a))])))), ((1 : Nat), SV.v (AI aa)), ((5 : Nat), SV.v (AV.one (CV.sl false (1 : Nat) (1 : Nat) (0 : Nat) (0 : Nat) (i + (1 : Nat)) (i + (1 : Nat)) false (1 : Nat)))), ((6 : Nat), SV.v (AV.one (CV.mp (0 : Nat)))), ((7 : Nat), SV.v (AI (IntKind.wrap IntKind.i64 ((↑i : Int) + (1 : Int)))))], H := [((0 : Nat), Ob.map (setM (Value.int IntKind.i64 (l i % (20 : Int))) (Value.bool true) (mT (hsL (p20 l) i)))), ((1 : Nat), Ob.arr true (1 : Nat) (i + (1 : Nat)) fun i_1 => [FV.lit (Value.int IntKind.i64 (bif Nat.ble (i_1 + (1 : Nat)) i then p20 l ((0 : Nat) + i_1) else l i % (20 : Int)))])], nx := (2 : Nat), esc := false, base := (0 : Nat), wr := [] : St })) T.bad) T.bad) T.bad)) T.bad) T.bad) (T.ret (Ex.exit (0 : Nat), { sl := [((1 : Nat), SV.v (AI aa)), ((5 : Nat), SV.v (AV.one (CV.sl (Nat.beq i (0 : Nat)) (1 : Nat) (1 : Nat) (0 : Nat) (0 : Nat) i i false (1 : Nat)))), ((6 : Nat), SV.v (AV.one (CV.mp (0 : Nat))))], H := [((0 : Nat), Ob.map (mT (hsL (p20 l) i))), ((1 : Nat), Ob.arr (!Nat.beq i (0 : Nat)) (1 : Nat) i fun a => [FV.lit (Value.int IntKind.i64 (p20 l a))])], nx := (2 : Nat), esc := false, base := (0 : Nat), wr := [] : St }))) (T.ret (Ex.exit (0 : Nat), { sl := [((1 : Nat), SV.v (AI aa)), ((5 : Nat), SV.v (AV.one (CV.sl (Nat.beq i (0 : Nat)) (1 : Nat) (1 : Nat) (0 : Nat) (0 : Nat) i i false (1 : Nat)))), ((6 : Nat), SV.v (AV.one (CV.mp (0 : Nat))))], H := [((0 : Nat), Ob.map (mT (hsL (p20 l) i))), ((1 : Nat), Ob.arr (!Nat.beq i (0 : Nat)) (1 : Nat) i fun a => [FV.lit (Value.int IntKind.i64 (p20 l a))])], nx := (2 : Nat), esc := false, base := (0 : Nat), wr := [] : St })) := by kernel_rfl
theorem tree_m6 (n : Nat) (X : Nat → Int) (es : List (Value × Value)) (xv yv : Int) (n1 : Bool) (d1 : Nat) (z1 : Nat → Int) (p1 : Int) (aa : Int) (p0 : Int) (n2 : Bool) (d2 : Nat) (z2 : Nat → Int) (i : Nat) (b : Bool) : (tgt_m6 n X es xv yv n1 d1 z1 p1 aa p0 n2 d2 z2 i b).over (.br (.br (.br (.br (.tt (.tt (.tt .leaf))) (.ff (.ff (.ff .leaf)))) .skip) .skip) .leaf) =
  T.br (decide ((↑i : Int) < (↑d2 : Int))) (T.br (!n2) (T.br (decide ((0 : Int) ≤ (↑i : Int) ∧ (↑i : Int) < (↑d2 : Int))) (T.br b (T.ret (Ex.normal, { sl := [((1 : Nat), SV.v (AI aa)), ((5 : Nat), SV.v (AV.one (CV.f (FV.fs false (1 : Nat) n fun a => [FV.lit (Value.int IntKind.i64 (X a))])))), ((6 : Nat), SV.v (AV.one (CV.mp (0 : Nat)))), ((10 : Nat), SV.v (AI xv)), ((12 : Nat), SV.v (AI yv)), ((13 : Nat), SV.v (AB true)), ((47 : Nat), SV.v (AV.one (CV.f (FV.fs false (1 : Nat) n fun a => [FV.lit (Value.int IntKind.i64 (X a))])))), ((48 : Nat), SV.v (AI (↑n : Int))), ((49 : Nat), SV.v (AI p0)), ((55 : Nat), SV.v (AV.one (CV.f (FV.fs n1 (1 : Nat) d1 fun a => [FV.lit (Value.int IntKind.i64 (z1 a))])))), ((56 : Nat), SV.v (AI (↑d1 : Int))), ((57 : Nat), SV.v (AI p1)), ((63 : Nat), SV.v (AV.one (CV.f (FV.fs n2 (1 : Nat) d2 fun a => [FV.lit (Value.int IntKind.i64 (z2 a))])))), ((64 : Nat), SV.v (AI (↑d2 : Int))), ((65 : Nat), SV.v (AI (IntKind.wrap IntKind.i64 ((↑i : Int) + (1 : Int)))))], H := [((0 : Nat), Ob.map es)], nx := (1 : Nat), esc := false, base := (0 : Nat), wr := [] : St })) (T.ret (Ex.normal, { sl := [((1 : Nat), SV.v (AI aa)), ((5 : Nat), SV.v (AV.one (CV.f (FV.fs false (1 : Nat) n fun a => [FV.lit (Value.int IntKind.i64 (X a))])))), ((6 : Nat), SV.v (AV.one (CV.mp (0 : Nat)))), ((10 : Nat), SV.v (AI xv)), ((12 : Nat), SV.v (AI yv)), ((13 : Nat), SV.v (AB (z2 i == xv))), ((47 : Nat), SV.v (AV.one (CV.f (FV.fs false (1 : Nat) n fun a => [FV.lit (Value.int IntKind.i64 (X a))])))), ((48 : Nat), SV.v (AI (↑n : Int))), ((49 : Nat), SV.v (AI p0)), ((55 : Nat), SV.v (AV.one (CV.f (FV.fs n1 (1 : Nat) d1 fun a => [FV.lit (Value.int IntKind.i64 (z1 a))])))), ((56 : Nat), SV.v (AI (↑d1 : Int))), ((57 : Nat), SV.v (AI p1)), ((63 : Nat), SV.v (AV.one (CV.f (FV.fs n2 (1 : Nat) d2 fun a => [FV.lit (Value.int IntKind.i64 (z2 a))])))), ((64 : Nat), SV.v (AI (↑d2 : Int))), ((65 : Nat), SV.v (AI (IntKind.wrap IntKind.i64 ((↑i : Int) + (1 : Int)))))], H := [((0 : Nat), Ob.map es)], nx := (1 : Nat), esc := false, base := (0 : Nat), wr := [] : St }))) T.bad) T.bad) (T.ret (Ex.exit (6 : Nat), { sl := [((1 : Nat), SV.v (AI aa)), ((5 : Nat), SV.v (AV.one (CV.f (FV.fs false (1 : Nat) n fun a => [FV.lit (Value.int IntKind.i64 (X a))])))), ((6 : Nat), SV.v (AV.one (CV.mp (0 : Nat)))), ((10 : Nat), SV.v (AI xv)), ((12 : Nat), SV.v (AI yv)), ((13 : Nat), SV.v (AB b)), ((47 : Nat), SV.v (AV.one (CV.f (FV.fs false (1 : Nat) n fun a => [FV.lit (Value.int IntKind.i64 (X a))])))), ((48 : Nat), SV.v (AI (↑n : Int))), ((49 : Nat), SV.v (AI p0)), ((55 : Nat), SV.v (AV.one (CV.f (FV.fs n1 (1 : Nat) d1 fun a => [FV.lit (Value.int IntKind.i64 (z1 a))])))), ((56 : Nat), SV.v (AI (↑d1 : Int))), ((57 : Nat), SV.v (AI p1))], H := [((0 : Nat), Ob.map es)], nx := (1 : Nat), esc := false, base := (0 : Nat), wr := [] : St })) := by kernel_rfl
theorem tree_m36 (n : Nat) (X : Nat → Int) (iv : Int) (q : Nat) (d2 : Nat) (z2 : Nat → Int) (n2 : Bool) (i : Nat) (r : List Int) : (tgt_m36 n X iv q d2 z2 n2 i r).over (.br (.br (.br (.br .leaf .skip) .skip) .skip) .leaf) =
  T.br (decide ((↑i : Int) < (↑d2 : Int)))
    (T.br (!n2)
      (T.br (decide ((0 : Int) ≤ (↑i : Int) ∧ (↑i : Int) < (↑d2 : Int)))
        (T.br (keysOk (Value.int IntKind.i64 (z2 i)) (mT r))
          (T.ret
            (Ex.normal,
              {
                sl :=
                  [((5 : Nat), SV.v (AV.one (CV.f (FV.fs false (1 : Nat) n fun a => [FV.lit (Value.int IntKind.i64 (X a))])))), ((16 : Nat), SV.v (AV.one (CV.mp (0 : Nat)))), ((6 : Nat), SV.v (AV.one (CV.mp (1 : Nat)))),
                    ((17 : Nat), SV.v (AI iv)), ((107 : Nat), SV.v (AV.one (CV.f (FV.lit (Value.pointer (some { block := q, off := (0 : Nat) : Addr })))))),
                    ((117 : Nat), SV.v (AV.one (CV.f (FV.fs n2 (1 : Nat) d2 fun a => [FV.lit (Value.int IntKind.i64 (z2 a))])))), ((118 : Nat), SV.v (AI (↑d2 : Int))),
                    ((119 : Nat), SV.v (AI (IntKind.wrap IntKind.i64 ((↑i : Int) + (1 : Int)))))],
                H := [((0 : Nat), Ob.map (setM (Value.int IntKind.i64 (z2 i)) (Value.bool true) (mT r)))], nx := (2 : Nat), esc := false, base := (0 : Nat), wr := [] : St }))
          T.bad)
        T.bad)
      T.bad)
    (T.ret
      (Ex.exit (12 : Nat),
        {
          sl :=
            [((5 : Nat), SV.v (AV.one (CV.f (FV.fs false (1 : Nat) n fun a => [FV.lit (Value.int IntKind.i64 (X a))])))), ((16 : Nat), SV.v (AV.one (CV.mp (0 : Nat)))), ((6 : Nat), SV.v (AV.one (CV.mp (1 : Nat)))), ((17 : Nat), SV.v (AI iv)),
              ((107 : Nat), SV.v (AV.one (CV.f (FV.lit (Value.pointer (some { block := q, off := (0 : Nat) : Addr }))))))],
          H := [((0 : Nat), Ob.map (mT r))], nx := (2 : Nat), esc := false, base := (0 : Nat), wr := [] : St })) := by kernel_rfl
theorem round_m1 (nl : Bool) (n : Nat) (l : Nat → Int) (aa : Int) (hnl : nl = true → n = 0) (i : Nat) (a : Unit) (hi : i < min n 9) (hI : (fun (i : Nat) (a : Unit) => (True : Prop)) i a) : ∃ st', (tgt_m1 nl n l aa i a).res = some (.normal, st') ∧ StLe 1 st' (S_m1 nl n l aa (i + 1) ((fun (i : Nat) (a : Unit) => (())) i a)) ∧ (fun (i : Nat) (a : Unit) => (True : Prop)) (i + 1) ((fun (i : Nat) (a : Unit) => (())) i a) := by
  refine T.over_exP (g := fun s => (Ex.normal, s)) (tree_m1 nl n l aa i a) ?_
  have e1 : ((i : Int) < (n : Int)) := by omega
  have e1' : ((i : Int) < (9 : Int)) := by omega
  have e2 : (0 : Int) ≤ (i : Int) ∧ (i : Int) < (n : Int) := by omega
  have e3 : IntKind.wrap .i64 ((i : Int) + 1) = ((i + 1 : Nat) : Int) := by rw [wrapI (by omega)]; rfl
  obtain rfl : nl = false := by
    cases nl
    · rfl
    · have := hnl rfl; omega
  have e4 : Nat.ble (i + 1) i = false := ble_false (by omega)
  have e5 : smallB (i + 1) 8 = true := smallB_le (by omega) (by omega)
  have e6 : Nat.ble (0 + i) i = true := ble_tt (by omega)
  have e7 : hsL (p20 l) (i + 1) = addK (l i % 20) (hsL (p20 l) i) := by
    unfold hsL
    rw [foldF_succ, Nat.zero_add]
    rfl
  simp only [T.res_br, T.res_ret, T.res_bad, decide_eq_true_eq, e1, e1', e2, e3, e4, e5, e6, mT_keys, mT_put, beq_or, Bool.and_self, Bool.not_false, Bool.false_eq_true, reduceIte, and_self]
  refine ⟨_, rfl, StLe.less (Nat.le_succ _) (fun t => .inr (.inl rfl)) (fun b => ?_), trivial⟩
  rcases b with _ | _ | b
  · rw [e7]; exact .inl rfl
  · refine Ob.le.arr fun j hj => ?_
    rcases Nat.lt_or_ge j i with h | h
    · simp only [ble_tt (show j + 1 ≤ i by omega), cond_true, Nat.zero_add]
    · obtain rfl : j = i := by omega
      simp only [ble_false (show ¬ j + 1 ≤ j by omega), cond_false, p20]
      rfl
  · exact .inl rfl
theorem end_m1 (nl : Bool) (n : Nat) (l : Nat → Int) (aa : Int) (hnl : nl = true → n = 0) (a : Unit) (hI : (fun (i : Nat) (a : Unit) => (True : Prop)) (min n 9) a) : ∃ st', (tgt_m1 nl n l aa (min n 9) a).res = some (.exit 0, st') ∧ StLe 1 st' (⟨[(1, .v (AI aa)), (5, .v (.one (.sl (Nat.beq (min n 9) 0) 1 1 0 0 (min n 9) (min n 9) false 1))), (6, .v (.one (.mp 0)))], [(0, .map (mT (hsL (p20 l) (min n 9)))), (1, .arr (!(Nat.beq (min n 9) 0)) 1 (min n 9) (intE (p20 l)))], 2, false, 0, []⟩) := by
  refine T.over_exP (g := fun s => (.exit 0, s)) (tree_m1 nl n l aa (min n 9) a) ?_
  rcases Nat.lt_or_ge 9 n with h | h
  · have e0 : min n 9 = 9 := by omega
    have e1 : (((9 : Nat) : Int) < (n : Int)) := by omega
    have e2 : ¬ (((9 : Nat) : Int) < 9) := by omega
    simp only [e0, T.res_br, T.res_ret, T.res_bad, decide_eq_true e1, decide_eq_false e2, Bool.false_eq_true, reduceIte]
    exact ⟨_, rfl, StLe.refl (Nat.le_succ _)⟩
  · have e0 : min n 9 = n := by omega
    simp only [e0, T.res_br, T.res_ret, T.res_bad, decide_eq_true_eq, Int.lt_irrefl, reduceIte]
    exact ⟨_, rfl, StLe.refl (Nat.le_succ _)⟩
theorem loop_m1 (nl : Bool) (n : Nat) (l : Nat → Int) (aa : Int) (hnl : nl = true → n = 0) (i : Nat) (a : Unit) (hi : i ≤ min n 9) (hI : (fun (i : Nat) (a : Unit) => (True : Prop)) i a) {st0 : St} (h0 : StLe 1 st0 (S_m1 nl n l aa i a)) (hnx : st0.nx = 1) :
    CodeOk Try.prog Try.f3.ntmps (.loop (loopOf Try.f3 4)) st0 (.exit 0) ((fun (a : Unit) => ⟨[(1, .v (AI aa)), (5, .v (.one (.sl (Nat.beq (min n 9) 0) 1 1 0 0 (min n 9) (min n 9) false 1))), (6, .v (.one (.mp 0)))], [(0, .map (mT (hsL (p20 l) (min n 9)))), (1, .arr (!(Nat.beq (min n 9) 0)) 1 (min n 9) (intE (p20 l)))], 2, false, 0, []⟩) (foldF (fun (i : Nat) (a : Unit) => (())) (min n 9 - i) i a)) := by
  have := for_loop GORY1 GKRY1 (K := 300) (F := 3) (N := Try.f3.ntmps) (c := loopOf Try.f3 4) (m := 1) (live := [0, 1, 5, 6, 7]) (after := [1, 5, 6]) (S_m1 nl n l aa) (min n 9) (fun (i : Nat) (a : Unit) => .inl (())) (fun (a : Unit) => (.exit 0, ⟨[(1, .v (AI aa)), (5, .v (.one (.sl (Nat.beq (min n 9) 0) 1 1 0 0 (min n 9) (min n 9) false 1))), (6, .v (.one (.mp 0)))], [(0, .map (mT (hsL (p20 l) (min n 9)))), (1, .arr (!(Nat.beq (min n 9) 0)) 1 (min n 9) (intE (p20 l)))], 2, false, 0, []⟩)) (fun (i : Nat) (a : Unit) => (True : Prop))
    (fun i a hi hI => by obtain ⟨s, h1, h2, h3⟩ := round_m1 nl n l aa hnl i a hi hI; exact ⟨_, s, h1, rfl, h2, h3⟩)
    (fun a hI => by obtain ⟨s, h1, h2⟩ := end_m1 nl n l aa hnl a hI; exact ⟨_, s, h1, by simp, rfl, h2⟩)
    (fun i a => by first | exact Nat.le_refl _ | (show 1 ≤ _; decide) | (simp only [S_m1]; omega)) hi hI h0 hnx
  rw [foldX_inl] at this
  exact this
noncomputable def L_m1 : LoopF := mkLoopF [0, 1, 5, 6, 7] (loopOf Try.f3 4) Try.f3.ntmps fun sl H nx => match keyed [0, 1, 5, 6, 7] sl, keyed [0] H with
  | some [.v (.one (.f (.fs nl k n e))), .v (.one (.f (.lit (.int .i64 aa)))), .v (.one (.f (.lit (.slice none z1 z2)))), .v (.one (.mp z3)), .v (.one (.f (.lit (.int .i64 i))))], some [.map es] => onlyB (Nat.beq nx 1 && (Nat.beq z1 0 && (Nat.beq z2 0 && (Nat.beq z3 0)))) (onlyB (Nat.beq k 1) (.need (pb (IntE e ∧ NoT es ∧ (nl = true → n = 0) ∧ i = 0)) (.ret (.exit 0, (St.mk [(1, .v (AI aa)), (5, .v (.one (.sl (Nat.beq (min n 9) 0) 1 1 0 0 (min n 9) (min n 9) false 1))), (6, .v (.one (.mp 0)))] [(0, .map (mT (hsL (p20 (intOf e)) (min n 9)))), (1, .arr (!(Nat.beq (min n 9) 0)) 1 (min n 9) (intE (p20 (intOf e))))] 2 false 0 []).sl, (St.mk [(1, .v (AI aa)), (5, .v (.one (.sl (Nat.beq (min n 9) 0) 1 1 0 0 (min n 9) (min n 9) false 1))), (6, .v (.one (.mp 0)))] [(0, .map (mT (hsL (p20 (intOf e)) (min n 9)))), (1, .arr (!(Nat.beq (min n 9) 0)) 1 (min n 9) (intE (p20 (intOf e))))] 2 false 0 []).H, 2, false))))
  | _, _ => .bad
theorem L_m1_ok : LoopOk Try.prog L_m1 := by
  refine mkLoopF_ok fun sl H nx e sl' H' nx' esc' h => ?_
  split at h
  · rename_i nl k n e aa z1 z2 z3 i es hsl hH
    have hsl := keyed_eq hsl
    have hH := keyed_eq hH
    subst hsl hH
    have h5 := onlyB_some h
    clear h
    obtain ⟨hck, h⟩ := h5
    simp only [Bool.and_eq_true, nbeq_iff] at hck
    obtain ⟨rfl, rfl, rfl, rfl⟩ := hck
    have h5 := onlyB_some h
    clear h
    have hw := h5.1
    have h := h5.2
    clear h5
    obtain ⟨hp, hret⟩ := T.need_some h
    have hp := pb_of hp
    have := T.ret_some hret
    simp only [Prod.mk.injEq] at this
    obtain ⟨rfl, rfl, rfl, rfl, rfl⟩ := this
    clear hret h
    obtain ⟨⟨x, rfl⟩, rfl, h1, rfl⟩ := hp
    obtain rfl := Nat.eq_of_beq_eq_true hw
    refine loop_m1 nl n x aa h1 0 () (Nat.zero_le _) trivial (StLe.row (Nat.le_refl 1) (fun t => ?_) (fun b hb => ?_) (fun h => by cases h)) rfl
    · by_cases h5 : 5 = t
      · subst h5
        exact .inr (.inr ⟨rfl, _, _, _, rfl⟩)
      · left
        simp only [S_m1, List.zip_cons_cons, List.zip_nil_right, Slots.get_cons, h5, if_false]
        rfl
    · rcases b with _ | _ | b
      · rfl
      · exact absurd rfl hb
      · rfl
  · exact (T.bad_some h).elim
noncomputable def ll_m1 : List (Nat × Nat × LoopF) := (3, 4, L_m1) :: ll_tb
theorem ll_m1_ok : ∀ x ∈ ll_m1, LoopOk Try.prog x.2.2 := List.forall_mem_cons.2 ⟨L_m1_ok, ll_tb_ok⟩
theorem round_m6 (n : Nat) (X : Nat → Int) (es : List (Value × Value)) (xv yv : Int) (n1 : Bool) (d1 : Nat) (z1 : Nat → Int) (p1 : Int) (aa : Int) (p0 : Int) (n2 : Bool) (d2 : Nat) (z2 : Nat → Int) (hd : d2 ≤ 1048576) (hmb : n2 = true → d2 = 0) (i : Nat) (a : Bool) (hi : i < d2) (hI : (fun (i : Nat) (a : Bool) => (True : Prop)) i a) : ∃ st', (tgt_m6 n X es xv yv n1 d1 z1 p1 aa p0 n2 d2 z2 i a).res = some (.normal, st') ∧ StLe 1 st' (S_m6 n X es xv yv n1 d1 z1 p1 aa p0 n2 d2 z2 (i + 1) ((fun (i : Nat) (a : Bool) => (a || (xv == z2 i))) i a)) ∧ (fun (i : Nat) (a : Bool) => (True : Prop)) (i + 1) ((fun (i : Nat) (a : Bool) => (a || (xv == z2 i))) i a) := by
  refine T.over_exP (g := fun s => (Ex.normal, s)) (tree_m6 n X es xv yv n1 d1 z1 p1 aa p0 n2 d2 z2 i a) ?_
  have e1 : ((i : Int) < (d2 : Int)) := by omega
  have e2 : (0 : Int) ≤ (i : Int) ∧ (i : Int) < (d2 : Int) := by omega
  have e3 : IntKind.wrap .i64 ((i : Int) + 1) = ((i + 1 : Nat) : Int) := by rw [wrapI (by omega)]; rfl
  obtain rfl : n2 = false := by
    cases n2
    · rfl
    · have := hmb rfl; omega
  have e4 : (z2 i == xv) = (xv == z2 i) := by rw [Bool.eq_iff_iff]; simp only [beq_iff_eq]; exact eq_comm
  cases a
  · simp only [T.res_br, T.res_ret, T.res_bad, decide_eq_true e1, decide_eq_true e2, e3, e4, Bool.not_false, Bool.false_eq_true, Bool.false_or, reduceIte]
    exact ⟨_, rfl, StLe.refl (Nat.le_refl 1), trivial⟩
  · simp only [T.res_br, T.res_ret, T.res_bad, decide_eq_true e1, decide_eq_true e2, e3, Bool.not_false, Bool.true_or, reduceIte]
    exact ⟨_, rfl, StLe.refl (Nat.le_refl 1), trivial⟩
theorem end_m6 (n : Nat) (X : Nat → Int) (es : List (Value × Value)) (xv yv : Int) (n1 : Bool) (d1 : Nat) (z1 : Nat → Int) (p1 : Int) (aa : Int) (p0 : Int) (n2 : Bool) (d2 : Nat) (z2 : Nat → Int) (hd : d2 ≤ 1048576) (hmb : n2 = true → d2 = 0) (a : Bool) (hI : (fun (i : Nat) (a : Bool) => (True : Prop)) (d2) a) : ∃ st', (tgt_m6 n X es xv yv n1 d1 z1 p1 aa p0 n2 d2 z2 (d2) a).res = some (.exit 6, st') ∧ StLe 1 st' (⟨[(1, .v (AI aa)), (5, .v (.one (.f (.fs false 1 n (intE X))))), (6, .v (.one (.mp 0))), (10, .v (AI xv)), (12, .v (AI yv)), (13, .v (AB a)), (47, .v (.one (.f (.fs false 1 n (intE X))))), (48, .v (AI n)), (49, .v (AI p0)), (55, .v (.one (.f (.fs n1 1 d1 (intE z1))))), (56, .v (AI d1)), (57, .v (AI p1))], [(0, .map es)], 1, false, 0, []⟩) := by
  refine T.over_exP (g := fun s => (.exit 6, s)) (tree_m6 n X es xv yv n1 d1 z1 p1 aa p0 n2 d2 z2 (d2) a) ?_
  simp only [T.res_br, T.res_ret, T.res_bad, decide_eq_true_eq, Int.lt_irrefl, reduceIte]
  exact ⟨_, rfl, StLe.refl (Nat.le_refl 1)⟩
theorem loop_m6 (n : Nat) (X : Nat → Int) (es : List (Value × Value)) (xv yv : Int) (n1 : Bool) (d1 : Nat) (z1 : Nat → Int) (p1 : Int) (aa : Int) (p0 : Int) (n2 : Bool) (d2 : Nat) (z2 : Nat → Int) (hd : d2 ≤ 1048576) (hmb : n2 = true → d2 = 0) (i : Nat) (a : Bool) (hi : i ≤ d2) (hI : (fun (i : Nat) (a : Bool) => (True : Prop)) i a) {st0 : St} (h0 : StLe 1 st0 (S_m6 n X es xv yv n1 d1 z1 p1 aa p0 n2 d2 z2 i a)) (hnx : st0.nx = 1) :
    CodeOk Try.prog Try.f3.ntmps (.loop (loopOf Try.f3 19)) st0 (.exit 6) ((fun (a : Bool) => ⟨[(1, .v (AI aa)), (5, .v (.one (.f (.fs false 1 n (intE X))))), (6, .v (.one (.mp 0))), (10, .v (AI xv)), (12, .v (AI yv)), (13, .v (AB a)), (47, .v (.one (.f (.fs false 1 n (intE X))))), (48, .v (AI n)), (49, .v (AI p0)), (55, .v (.one (.f (.fs n1 1 d1 (intE z1))))), (56, .v (AI d1)), (57, .v (AI p1))], [(0, .map es)], 1, false, 0, []⟩) (foldF (fun (i : Nat) (a : Bool) => (a || (xv == z2 i))) (d2 - i) i a)) := by
  have := for_loop GORY1 GKRY1 (K := 300) (F := 3) (N := Try.f3.ntmps) (c := loopOf Try.f3 19) (m := 1) (live := [1, 5, 6, 10, 12, 13, 47, 48, 49, 55, 56, 57, 63, 64, 65]) (after := [1, 5, 6, 10, 12, 13, 47, 48, 49, 55, 56, 57]) (S_m6 n X es xv yv n1 d1 z1 p1 aa p0 n2 d2 z2) (d2) (fun (i : Nat) (a : Bool) => .inl (a || (xv == z2 i))) (fun (a : Bool) => (.exit 6, ⟨[(1, .v (AI aa)), (5, .v (.one (.f (.fs false 1 n (intE X))))), (6, .v (.one (.mp 0))), (10, .v (AI xv)), (12, .v (AI yv)), (13, .v (AB a)), (47, .v (.one (.f (.fs false 1 n (intE X))))), (48, .v (AI n)), (49, .v (AI p0)), (55, .v (.one (.f (.fs n1 1 d1 (intE z1))))), (56, .v (AI d1)), (57, .v (AI p1))], [(0, .map es)], 1, false, 0, []⟩)) (fun (i : Nat) (a : Bool) => (True : Prop))
    (fun i a hi hI => by obtain ⟨s, h1, h2, h3⟩ := round_m6 n X es xv yv n1 d1 z1 p1 aa p0 n2 d2 z2 hd hmb i a hi hI; exact ⟨_, s, h1, rfl, h2, h3⟩)
    (fun a hI => by obtain ⟨s, h1, h2⟩ := end_m6 n X es xv yv n1 d1 z1 p1 aa p0 n2 d2 z2 hd hmb a hI; exact ⟨_, s, h1, by simp, rfl, h2⟩)
    (fun i a => by first | exact Nat.le_refl _ | (show 1 ≤ _; decide) | (simp only [S_m6]; omega)) hi hI h0 hnx
  rw [foldX_inl] at this
  exact this
noncomputable def L_m6 : LoopF := mkLoopF [1, 5, 6, 10, 12, 13, 47, 48, 49, 55, 56, 57, 63, 64, 65] (loopOf Try.f3 19) Try.f3.ntmps fun sl H nx => match keyed [1, 5, 6, 10, 12, 13, 47, 48, 49, 55, 56, 57, 63, 64, 65] sl, keyed [0] H with
  | some [.v (.one (.f (.lit (.int .i64 aa)))), .v (.one (.f (.fs nq k5 n e))), .v (.one (.mp z1)), .v (.one (.f (.lit (.int .i64 xv)))), .v (.one (.f (.lit (.int .i64 yv)))), .v (.one (.f (.lit (.bool b)))), .v (.one (.f (.fs nr k7 nb eb))), .v (.one (.f (.lit (.int .i64 nc)))), .v (.one (.f (.lit (.int .i64 p0)))), .v (.one (.f (.fs n1 k1 d1 e1))), .v (.one (.f (.lit (.int .i64 dd)))), .v (.one (.f (.lit (.int .i64 p1)))), .v (.one (.f (.fs n2 k2 d2 e2))), .v (.one (.f (.lit (.int .i64 d9)))), .v (.one (.f (.lit (.int .i64 i))))], some [.map es] => onlyB (Nat.beq nx 1 && (Nat.beq z1 0)) (onlyB (Nat.beq k5 1 && (Nat.beq k7 1 && (Nat.beq k1 1 && Nat.beq k2 1))) (.need (pb (nq = false ∧ nr = false ∧ IntE e ∧ nb = n ∧ eb = e ∧ nc = n ∧ IntE e1 ∧ dd = d1 ∧ IntE e2 ∧ d9 = d2 ∧ i = 0 ∧ b = false ∧ d2 ≤ 1048576 ∧ (n2 = true → d2 = 0))) (.ret (.exit 6, (St.mk [(1, .v (AI aa)), (5, .v (.one (.f (.fs false 1 n e)))), (6, .v (.one (.mp 0))), (10, .v (AI xv)), (12, .v (AI yv)), (13, .v (AB (orB xv (intOf e2) d2))), (47, .v (.one (.f (.fs false 1 n e)))), (48, .v (AI n)), (49, .v (AI p0)), (55, .v (.one (.f (.fs n1 1 d1 e1)))), (56, .v (AI d1)), (57, .v (AI p1))] [(0, .map es)] 1 false 0 []).sl, (St.mk [(1, .v (AI aa)), (5, .v (.one (.f (.fs false 1 n e)))), (6, .v (.one (.mp 0))), (10, .v (AI xv)), (12, .v (AI yv)), (13, .v (AB (orB xv (intOf e2) d2))), (47, .v (.one (.f (.fs false 1 n e)))), (48, .v (AI n)), (49, .v (AI p0)), (55, .v (.one (.f (.fs n1 1 d1 e1)))), (56, .v (AI d1)), (57, .v (AI p1))] [(0, .map es)] 1 false 0 []).H, 1, false))))
  | _, _ => .bad
theorem L_m6_ok : LoopOk Try.prog L_m6 := by
  refine mkLoopF_ok fun sl H nx e sl' H' nx' esc' h => ?_
  split at h
  · rename_i aa nq k5 n e z1 xv yv b nr k7 nb eb nc p0 n1 k1 d1 e1 dd p1 n2 k2 d2 e2 d9 i es hsl hH
    have hsl := keyed_eq hsl
    have hH := keyed_eq hH
    subst hsl hH
    have h5 := onlyB_some h
    clear h
    obtain ⟨hck, h⟩ := h5
    simp only [Bool.and_eq_true, nbeq_iff] at hck
    obtain ⟨rfl, rfl⟩ := hck
    have h5 := onlyB_some h
    clear h
    have hw := h5.1
    have h := h5.2
    clear h5
    obtain ⟨hp, hret⟩ := T.need_some h
    have hp := pb_of hp
    have := T.ret_some hret
    simp only [Prod.mk.injEq] at this
    obtain ⟨rfl, rfl, rfl, rfl, rfl⟩ := this
    clear hret h
    obtain ⟨rfl, rfl, ⟨X, rfl⟩, rfl, rfl, rfl, ⟨z1, rfl⟩, rfl, ⟨z2, rfl⟩, rfl, rfl, rfl, h1, h2⟩ := hp
    obtain ⟨hw1, hw⟩ := Bool.and_eq_true_iff.1 hw
    obtain ⟨hw2, hw⟩ := Bool.and_eq_true_iff.1 hw
    obtain ⟨hw3, hw4⟩ := Bool.and_eq_true_iff.1 hw
    obtain rfl := Nat.eq_of_beq_eq_true hw1
    obtain rfl := Nat.eq_of_beq_eq_true hw2
    obtain rfl := Nat.eq_of_beq_eq_true hw3
    obtain rfl := Nat.eq_of_beq_eq_true hw4
    exact loop_m6 nb X es xv yv n1 d1 z1 p1 aa p0 n2 d2 z2 h1 h2 0 false (Nat.zero_le _) trivial (StLe.refl (Nat.le_refl 1)) rfl
  · exact (T.bad_some h).elim
noncomputable def ll_m6 : List (Nat × Nat × LoopF) := (3, 19, L_m6) :: ll_m1
theorem ll_m6_ok : ∀ x ∈ ll_m6, LoopOk Try.prog x.2.2 := List.forall_mem_cons.2 ⟨L_m6_ok, ll_m1_ok⟩
theorem round_m36 (n : Nat) (X : Nat → Int) (iv : Int) (q : Nat) (d2 : Nat) (z2 : Nat → Int) (n2 : Bool) (hd : d2 ≤ 1048576) (hmb : n2 = true → d2 = 0) (i : Nat) (a : List Int) (hi : i < d2) (hI : (fun (i : Nat) (a : List Int) => (True : Prop)) i a) : ∃ st', (tgt_m36 n X iv q d2 z2 n2 i a).res = some (.normal, st') ∧ StLe 2 st' (S_m36 n X iv q d2 z2 n2 (i + 1) ((fun (i : Nat) (a : List Int) => (addK (z2 i) a)) i a)) ∧ (fun (i : Nat) (a : List Int) => (True : Prop)) (i + 1) ((fun (i : Nat) (a : List Int) => (addK (z2 i) a)) i a) := by
  refine T.over_exP (g := fun s => (Ex.normal, s)) (tree_m36 n X iv q d2 z2 n2 i a) ?_
  have e1 : ((i : Int) < (d2 : Int)) := by omega
  have e2 : (0 : Int) ≤ (i : Int) ∧ (i : Int) < (d2 : Int) := by omega
  have e3 : IntKind.wrap .i64 ((i : Int) + 1) = ((i + 1 : Nat) : Int) := by rw [wrapI (by omega)]; rfl
  obtain rfl : n2 = false := by
    cases n2
    · rfl
    · have := hmb rfl; omega
  simp only [T.res_br, T.res_ret, T.res_bad, decide_eq_true e1, decide_eq_true e2, e3, mT_keys, mT_put, Bool.not_false, reduceIte]
  exact ⟨_, rfl, StLe.refl (Nat.le_refl 2), trivial⟩
theorem end_m36 (n : Nat) (X : Nat → Int) (iv : Int) (q : Nat) (d2 : Nat) (z2 : Nat → Int) (n2 : Bool) (hd : d2 ≤ 1048576) (hmb : n2 = true → d2 = 0) (a : List Int) (hI : (fun (i : Nat) (a : List Int) => (True : Prop)) (d2) a) : ∃ st', (tgt_m36 n X iv q d2 z2 n2 (d2) a).res = some (.exit 12, st') ∧ StLe 2 st' (⟨[(5, .v (.one (.f (.fs false 1 n (intE X))))), (16, .v (.one (.mp 0))), (6, .v (.one (.mp 1))), (17, .v (AI iv)), (107, itV q)], [(0, .map (mT a))], 2, false, 0, []⟩) := by
  refine T.over_exP (g := fun s => (.exit 12, s)) (tree_m36 n X iv q d2 z2 n2 (d2) a) ?_
  simp only [T.res_br, T.res_ret, T.res_bad, decide_eq_true_eq, Int.lt_irrefl, reduceIte]
  exact ⟨_, rfl, StLe.refl (Nat.le_refl 2)⟩
theorem loop_m36 (n : Nat) (X : Nat → Int) (iv : Int) (q : Nat) (d2 : Nat) (z2 : Nat → Int) (n2 : Bool) (hd : d2 ≤ 1048576) (hmb : n2 = true → d2 = 0) (i : Nat) (a : List Int) (hi : i ≤ d2) (hI : (fun (i : Nat) (a : List Int) => (True : Prop)) i a) {st0 : St} (h0 : StLe 2 st0 (S_m36 n X iv q d2 z2 n2 i a)) (hnx : st0.nx = 2) :
    CodeOk Try.prog Try.f3.ntmps (.loop (loopOf Try.f3 36)) st0 (.exit 12) ((fun (a : List Int) => ⟨[(5, .v (.one (.f (.fs false 1 n (intE X))))), (16, .v (.one (.mp 0))), (6, .v (.one (.mp 1))), (17, .v (AI iv)), (107, itV q)], [(0, .map (mT a))], 2, false, 0, []⟩) (foldF (fun (i : Nat) (a : List Int) => (addK (z2 i) a)) (d2 - i) i a)) := by
  have := for_loop GORY1 GKRY1 (K := 300) (F := 3) (N := Try.f3.ntmps) (c := loopOf Try.f3 36) (m := 2) (live := [5, 16, 6, 17, 107, 117, 118, 119]) (after := [5, 16, 6, 17, 107]) (S_m36 n X iv q d2 z2 n2) (d2) (fun (i : Nat) (a : List Int) => .inl (addK (z2 i) a)) (fun (a : List Int) => (.exit 12, ⟨[(5, .v (.one (.f (.fs false 1 n (intE X))))), (16, .v (.one (.mp 0))), (6, .v (.one (.mp 1))), (17, .v (AI iv)), (107, itV q)], [(0, .map (mT a))], 2, false, 0, []⟩)) (fun (i : Nat) (a : List Int) => (True : Prop))
    (fun i a hi hI => by obtain ⟨s, h1, h2, h3⟩ := round_m36 n X iv q d2 z2 n2 hd hmb i a hi hI; exact ⟨_, s, h1, rfl, h2, h3⟩)
    (fun a hI => by obtain ⟨s, h1, h2⟩ := end_m36 n X iv q d2 z2 n2 hd hmb a hI; exact ⟨_, s, h1, by simp, rfl, h2⟩)
    (fun i a => by first | exact Nat.le_refl _ | (show 2 ≤ _; decide) | (simp only [S_m36]; omega)) hi hI h0 hnx
  rw [foldX_inl] at this
  exact this
/-- the keys of such a map -/
def keyT (es : List (Value × Value)) : List Int := es.map fun e => match e.1 with | .int _ k => k | _ => 0
theorem keyT_mT (l : List Int) : keyT (mT l) = l := by
  induction l with
  | nil => rfl
  | cons a l ih => simp only [mT, keyT, List.map_cons, List.map_map] at ih ⊢; rw [ih]

theorem dead1 (sl : Slots) (o : Ob) : StLe 2 ⟨sl, [(0, o), (1, .dead)], 2, false, 0, []⟩ ⟨sl, [(0, o)], 2, false, 0, []⟩ :=
  StLe.less (s := ⟨sl, [(0, o), (1, .dead)], 2, false, 0, []⟩) (Nat.le_refl 2) (fun t => .inr (.inl rfl)) (fun b => by rcases b with _ | _ | b <;> exact .inl rfl)

noncomputable def L_m36 : LoopF := mkLoopF [5, 16, 6, 17, 107, 117, 118, 119] (loopOf Try.f3 36) Try.f3.ntmps fun sl H nx => match keyed [5, 16, 6, 17, 107, 117, 118, 119] sl, keyed [0, 1] H with
  | some [.v (.one (.f (.fs nq k5 n e))), .v (.one (.mp z1)), .v (.one (.mp z2)), .v (.one (.f (.lit (.int .i64 iv)))), .v (.one (.f (.lit (.pointer (some ⟨q, z3, none⟩))))), .v (.one (.f (.fs n2 k2 d2 e2))), .v (.one (.f (.lit (.int .i64 d9)))), .v (.one (.f (.lit (.int .i64 i))))], some [.map es, .dead] => onlyB (Nat.beq nx 2 && (Nat.beq z1 0 && (Nat.beq z2 1 && (Nat.beq z3 0)))) (onlyB (Nat.beq k2 1 && Nat.beq k5 1) (.need (pb (nq = false ∧ IntE e ∧ IntE e2 ∧ MapT es ∧ d9 = d2 ∧ i = 0 ∧ d2 ≤ 1048576 ∧ (n2 = true → d2 = 0))) (.ret (.exit 12, (St.mk [(5, .v (.one (.f (.fs false 1 n e)))), (16, .v (.one (.mp 0))), (6, .v (.one (.mp 1))), (17, .v (AI iv)), (107, itV q)] [(0, .map (mT (foldF (fun i r => addK (intOf e2 i) r) d2 0 (keyT es))))] 2 false 0 []).sl, (St.mk [(5, .v (.one (.f (.fs false 1 n e)))), (16, .v (.one (.mp 0))), (6, .v (.one (.mp 1))), (17, .v (AI iv)), (107, itV q)] [(0, .map (mT (foldF (fun i r => addK (intOf e2 i) r) d2 0 (keyT es))))] 2 false 0 []).H, 2, false))))
  | _, _ => .bad
theorem L_m36_ok : LoopOk Try.prog L_m36 := by
  refine mkLoopF_ok fun sl H nx e sl' H' nx' esc' h => ?_
  split at h
  · rename_i nq k5 n e z1 z2 iv q z3 n2 k2 d2 e2 d9 i es hsl hH
    have hsl := keyed_eq hsl
    have hH := keyed_eq hH
    subst hsl hH
    have h5 := onlyB_some h
    clear h
    obtain ⟨hck, h⟩ := h5
    simp only [Bool.and_eq_true, nbeq_iff] at hck
    obtain ⟨rfl, rfl, rfl, rfl⟩ := hck
    have h5 := onlyB_some h
    clear h
    have hw := h5.1
    have h := h5.2
    clear h5
    obtain ⟨hp, hret⟩ := T.need_some h
    have hp := pb_of hp
    have := T.ret_some hret
    simp only [Prod.mk.injEq] at this
    obtain ⟨rfl, rfl, rfl, rfl, rfl⟩ := this
    clear hret h
    obtain ⟨rfl, ⟨X, rfl⟩, ⟨z2, rfl⟩, ⟨r, rfl⟩, rfl, rfl, h1, h2⟩ := hp
    obtain ⟨hw1, hw2⟩ := Bool.and_eq_true_iff.1 hw
    obtain rfl := Nat.eq_of_beq_eq_true hw1
    obtain rfl := Nat.eq_of_beq_eq_true hw2
    rw [keyT_mT]
    exact loop_m36 n X iv q d2 z2 n2 h1 h2 0 r (Nat.zero_le _) trivial (dead1 _ _) rfl
  · exact (T.bad_some h).elim
noncomputable def ll_m36 : List (Nat × Nat × LoopF) := (3, 36, L_m36) :: ll_m6
theorem ll_m36_ok : ∀ x ∈ ll_m36, LoopOk Try.prog x.2.2 := List.forall_mem_cons.2 ⟨L_m36_ok, ll_m6_ok⟩
end Go.Proofs.Ytggneleipimijaa.En
/- RingBoth: who is next, to and fro. -/
namespace Go.Proofs.Ytggneleipimijaa.En
open Go
set_option linter.unusedVariables false
set_option linter.unusedSimpArgs false
set_option maxRecDepth 20000
set_option maxHeartbeats 1000000
theorem StLe.wrs {m nx : Nat} {sl : Slots} {H : Heap} {esc : Bool} {b b' : Nat} {wr wr' : List Nat} (hm : m ≤ nx) : StLe m ⟨sl, H, nx, esc, b, wr⟩ ⟨sl, H, nx, esc, b', wr'⟩ :=
  StLe.less (s := ⟨sl, H, nx, esc, b, wr⟩) hm (fun t => .inr (.inl rfl)) (fun b => .inl rfl)
def S_m15 (n : Nat) (X : Nat → Int) (h : List Int) (aa xv p0 : Int) (n1 : Bool) (d1 : Nat) (z1 : Nat → Int) (i : Nat) (u : Unit) : St := ⟨[(1, .v (AI aa)), (5, .v (.one (.f (.fs false 1 n (intE X))))), (6, .v (.one (.mp 0))), (10, .v (AI xv)), (47, .v (.one (.f (.fs false 1 n (intE X))))), (48, .v (AI n)), (49, .v (AI p0)), (55, .v (.one (.f (.fs n1 1 d1 (intE z1))))), (56, .v (AI d1)), (57, .v (AI i))], [(0, .map (mT h))], 1, false, 0, []⟩

noncomputable def GRZ1 : Ctx := GS.with ss_known ll_m36
noncomputable def tgt_m15 (n : Nat) (X : Nat → Int) (h : List Int) (aa xv p0 : Int) (n1 : Bool) (d1 : Nat) (z1 : Nat → Int) (i : Nat) (u : Unit) : T (Ex × St) := evRound GRZ1 300 3 Try.f3.ntmps (loopOf Try.f3 15) 1 [1, 5, 6, 10, 47, 48, 49, 55, 56, 57] [1, 5, 6, 47, 48, 49] (S_m15 n X h aa xv p0 n1 d1 z1 i u)
theorem GKRZ1 : KnownOk Try.prog GRZ1 := KnownOk.lists ss_known_ok ll_m36_ok
theorem GORZ1 : CtxOk Try.prog GRZ1 := GS_ok.with _ _
theorem tree_m15 (n : Nat) (X : Nat → Int) (h : List Int) (aa xv p0 : Int) (n1 : Bool) (d1 : Nat) (z1 : Nat → Int) (i : Nat) (u : Unit) : (tgt_m15 n X h aa xv p0 n1 d1 z1 i u).over (.br (.br (.br (.br (.br (.br (.br (.tt (.tt (.tt (.tt (.tt (.tt (.tt (.tt (.tt .leaf))))))))) (.ff (.ff (.br (.ff (.ff (.br (.tt (.tt (.tt (.tt .leaf)))) (.ff (.ff (.ff (.br .leaf .leaf))))))) .skip)))) .skip) .skip) .skip) .skip) .skip) .leaf) =
  T.br (decide ((↑i : Int) < (↑d1 : Int))) (T.br (!n1) (T.br (decide ((0 : Int) ≤ (↑i : Int) ∧ (↑i : Int) < (↑d1 : Int))) (T.br (pb (IntE (intE X) ∧ (false = true → n = (0 : Nat)) ∧ n ≤ (1048576 : Nat))) (T.br (pb (Code.loop (loopOf Proofs.Try.f3 (19 : Nat)) = Code.loop (loopOf Proofs.Try.f3 (19 : Nat)) ∧ (134 : Nat) = (134 : Nat))) (T.br (pb (false = false ∧ false = false ∧ IntE (intE X) ∧ n = n ∧ intE X = intE X ∧ (↑n : Int) = (↑n : Int) ∧ IntE (intE z1) ∧ (↑d1 : Int) = (↑d1 : Int) ∧ IntE (intE (nzE (z1 i) X n)) ∧ (↑(nzL (z1 i) X n) : Int) = (↑(nzL (z1 i) X n) : Int) ∧ (0 : Int) = (0 : Int) ∧ false = false ∧ nzL (z1 i) X n ≤ (1048576 : Nat) ∧ (nzN (z1 i) X n = true → nzL (z1 i) X n = (0 : Nat)))) (T.br (!orB xv (nzE (z1 i) X n) (nzL (z1 i) X n)) (T.ret (Ex.ret, { sl := [((1 : Nat), SV.v (AI aa)), ((5 : Nat), SV.v (AV.one (CV.f (FV.fs false (1 : Nat) n fun a => [FV.lit (Value.int IntKind.i64 (X a))])))), ((6 : Nat), SV.v (AV.one (CV.mp (0 : Nat)))), ((47 : Nat), SV.v (AV.one (CV.f (FV.fs false (1 : Nat) n fun a => [FV.lit (Value.int IntKind.i64 (X a))])))), ((48 : Nat), SV.v (AI (↑n : Int))), ((49 : Nat), SV.v (AI p0))], H := [((0 : Nat), Ob.map (mT h))], nx := (1 : Nat), esc := false, base := (0 : Nat), wr := [(0 : Nat)] : St })) (T.br (keysOk (Value.int IntKind.i64 (z1 i)) (mT h) && trusOk (mT h)) (T.br (!truM (Value.int IntKind.i64 (z1 i)) (mT h)) (T.ret (Ex.ret, { sl := [((1 : Nat), SV.v (AI aa)), ((5 : Nat), SV.v (AV.one (CV.f (FV.fs false (1 : Nat) n fun a => [FV.lit (Value.int IntKind.i64 (X a))])))), ((6 : Nat), SV.v (AV.one (CV.mp (0 : Nat)))), ((47 : Nat), SV.v (AV.one (CV.f (FV.fs false (1 : Nat) n fun a => [FV.lit (Value.int IntKind.i64 (X a))])))), ((48 : Nat), SV.v (AI (↑n : Int))), ((49 : Nat), SV.v (AI p0))], H := [((0 : Nat), Ob.map (mT h))], nx := (1 : Nat), esc := false, base := (0 : Nat), wr := [(0 : Nat)] : St })) (T.br (z1 i == xv) (T.ret (Ex.ret, { sl := [((1 : Nat), SV.v (AI aa)), ((5 : Nat), SV.v (AV.one (CV.f (FV.fs false (1 : Nat) n fun a => [FV.lit (Value.int IntKind.i64 (X a))])))), ((6 : Nat), SV.v (AV.one (CV.mp (0 : Nat)))), ((47 : Nat), SV.v (AV.one (CV.f (FV.fs false (1 : Nat) n fun a => [FV.lit (Value.int IntKind.i64 (X a))])))), ((48 : Nat), SV.v (AI (↑n : Int))), ((49 : Nat), SV.v (AI p0))], H := [((0 : Nat), Ob.map (mT h))], nx := (1 : Nat), esc := false, base := (0 : Nat), wr := [(0 : Nat)] : St })) (T.ret (Ex.normal, { sl := [((1 : Nat), SV.v (AI aa)), ((5 : Nat), SV.v (AV.one (CV.f (FV.fs false (1 : Nat) n fun a => [FV.lit (Value.int IntKind.i64 (X a))])))), ((6 : Nat), SV.v (AV.one (CV.mp (0 : Nat)))), ((10 : Nat), SV.v (AI xv)), ((47 : Nat), SV.v (AV.one (CV.f (FV.fs false (1 : Nat) n fun a => [FV.lit (Value.int IntKind.i64 (X a))])))), ((48 : Nat), SV.v (AI (↑n : Int))), ((49 : Nat), SV.v (AI p0)), ((55 : Nat), SV.v (AV.one (CV.f (FV.fs n1 (1 : Nat) d1 fun a => [FV.lit (Value.int IntKind.i64 (z1 a))])))), ((56 : Nat), SV.v (AI (↑d1 : Int))), ((57 : Nat), SV.v (AI (IntKind.wrap IntKind.i64 ((↑i : Int) + (1 : Int)))))], H := [((0 : Nat), Ob.map (mT h))], nx := (1 : Nat), esc := false, base := (0 : Nat), wr := [(0 : Nat)] : St })))) T.bad)) T.bad) T.bad) T.bad) T.bad) T.bad) (T.ret (Ex.exit (4 : Nat), { sl := [((1 : Nat), SV.v (AI aa)), ((5 : Nat), SV.v (AV.one (CV.f (FV.fs false (1 : Nat) n fun a => [FV.lit (Value.int IntKind.i64 (X a))])))), ((6 : Nat), SV.v (AV.one (CV.mp (0 : Nat)))), ((47 : Nat), SV.v (AV.one (CV.f (FV.fs false (1 : Nat) n fun a => [FV.lit (Value.int IntKind.i64 (X a))])))), ((48 : Nat), SV.v (AI (↑n : Int))), ((49 : Nat), SV.v (AI p0))], H := [((0 : Nat), Ob.map (mT h))], nx := (1 : Nat), esc := false, base := (0 : Nat), wr := [] : St })) := by kernel_rfl
theorem round_m15 (n : Nat) (X : Nat → Int) (h : List Int) (aa xv p0 : Int) (n1 : Bool) (d1 : Nat) (z1 : Nat → Int) (hn : n ≤ 1048576) (hd : d1 ≤ 1048576) (hnl : n1 = true → d1 = 0) (hR : ∀ j, j < d1 → orB xv (nzE (z1 j) X n) (nzL (z1 j) X n) = true ∧ z1 j ∈ h ∧ z1 j ≠ xv) (i : Nat) (a : Unit) (hi : i < d1) (hI : (fun (i : Nat) (a : Unit) => (True : Prop)) i a) : ∃ st', (tgt_m15 n X h aa xv p0 n1 d1 z1 i a).res = some (.normal, st') ∧ StLe 1 st' (S_m15 n X h aa xv p0 n1 d1 z1 (i + 1) ((fun (i : Nat) (a : Unit) => (())) i a)) ∧ (fun (i : Nat) (a : Unit) => (True : Prop)) (i + 1) ((fun (i : Nat) (a : Unit) => (())) i a) := by
  refine T.over_exP (g := fun s => (Ex.normal, s)) (tree_m15 n X h aa xv p0 n1 d1 z1 i a) ?_
  have e1 : ((i : Int) < (d1 : Int)) := by omega
  have e2 : (0 : Int) ≤ (i : Int) ∧ (i : Int) < (d1 : Int) := by omega
  have e3 : IntKind.wrap .i64 ((i : Int) + 1) = ((i + 1 : Nat) : Int) := by rw [wrapI (by omega)]; rfl
  obtain ⟨f1, f2, f3⟩ := hR i hi
  obtain rfl : n1 = false := by
    cases n1
    · rfl
    · have := hnl rfl; omega
  have e4 : truM (.int .i64 (z1 i)) (mT h) = true := (mT_has _ _).2 f2
  have e5 : (z1 i == xv) = false := by simpa using f3
  have e6 : nzL (z1 i) X n ≤ 1048576 := by have := nz_le2 (z1 i) X n; omega
  have e7 : (nzN (z1 i) X n = true → nzL (z1 i) X n = 0) = True := eq_true (nz_nil _ _ _)
  have e8 : (false = true → n = 0) = True := eq_true fun h => by cases h
  have e9 : (false = true → d1 = 0) = True := eq_true fun h => by cases h
  simp only [T.res_br, T.res_ret, T.res_bad, decide_eq_true e1, decide_eq_true e2, e3, e4, e5, e6, e7, e8, e9, f1, hn, hd, IntE_ok, intOf_intE, mT_keys, mT_trus, eq_self, and_self, false_implies, pb_tt, Bool.and_self, Bool.not_true, Bool.not_false, Bool.false_eq_true, reduceIte]
  refine ⟨_, rfl, ?_, trivial⟩
  exact StLe.wrs (Nat.le_refl 1)
theorem end_m15 (n : Nat) (X : Nat → Int) (h : List Int) (aa xv p0 : Int) (n1 : Bool) (d1 : Nat) (z1 : Nat → Int) (hn : n ≤ 1048576) (hd : d1 ≤ 1048576) (hnl : n1 = true → d1 = 0) (hR : ∀ j, j < d1 → orB xv (nzE (z1 j) X n) (nzL (z1 j) X n) = true ∧ z1 j ∈ h ∧ z1 j ≠ xv) (a : Unit) (hI : (fun (i : Nat) (a : Unit) => (True : Prop)) (d1) a) : ∃ st', (tgt_m15 n X h aa xv p0 n1 d1 z1 (d1) a).res = some (.exit 4, st') ∧ StLe 1 st' (⟨[(1, .v (AI aa)), (5, .v (.one (.f (.fs false 1 n (intE X))))), (6, .v (.one (.mp 0))), (47, .v (.one (.f (.fs false 1 n (intE X))))), (48, .v (AI n)), (49, .v (AI p0))], [(0, .map (mT h))], 1, false, 0, []⟩) := by
  refine T.over_exP (g := fun s => (.exit 4, s)) (tree_m15 n X h aa xv p0 n1 d1 z1 (d1) a) ?_
  simp only [T.res_br, T.res_ret, T.res_bad, decide_eq_true_eq, Int.lt_irrefl, reduceIte]
  exact ⟨_, rfl, StLe.refl (Nat.le_refl 1)⟩
theorem loop_m15 (n : Nat) (X : Nat → Int) (h : List Int) (aa xv p0 : Int) (n1 : Bool) (d1 : Nat) (z1 : Nat → Int) (hn : n ≤ 1048576) (hd : d1 ≤ 1048576) (hnl : n1 = true → d1 = 0) (hR : ∀ j, j < d1 → orB xv (nzE (z1 j) X n) (nzL (z1 j) X n) = true ∧ z1 j ∈ h ∧ z1 j ≠ xv) (i : Nat) (a : Unit) (hi : i ≤ d1) (hI : (fun (i : Nat) (a : Unit) => (True : Prop)) i a) {st0 : St} (h0 : StLe 1 st0 (S_m15 n X h aa xv p0 n1 d1 z1 i a)) (hnx : st0.nx = 1) :
    CodeOk Try.prog Try.f3.ntmps (.loop (loopOf Try.f3 15)) st0 (.exit 4) ((fun (a : Unit) => ⟨[(1, .v (AI aa)), (5, .v (.one (.f (.fs false 1 n (intE X))))), (6, .v (.one (.mp 0))), (47, .v (.one (.f (.fs false 1 n (intE X))))), (48, .v (AI n)), (49, .v (AI p0))], [(0, .map (mT h))], 1, false, 0, []⟩) (foldF (fun (i : Nat) (a : Unit) => (())) (d1 - i) i a)) := by
  have := for_loop GORZ1 GKRZ1 (K := 300) (F := 3) (N := Try.f3.ntmps) (c := loopOf Try.f3 15) (m := 1) (live := [1, 5, 6, 10, 47, 48, 49, 55, 56, 57]) (after := [1, 5, 6, 47, 48, 49]) (S_m15 n X h aa xv p0 n1 d1 z1) (d1) (fun (i : Nat) (a : Unit) => .inl (())) (fun (a : Unit) => (.exit 4, ⟨[(1, .v (AI aa)), (5, .v (.one (.f (.fs false 1 n (intE X))))), (6, .v (.one (.mp 0))), (47, .v (.one (.f (.fs false 1 n (intE X))))), (48, .v (AI n)), (49, .v (AI p0))], [(0, .map (mT h))], 1, false, 0, []⟩)) (fun (i : Nat) (a : Unit) => (True : Prop))
    (fun i a hi hI => by obtain ⟨s, h1, h2, h3⟩ := round_m15 n X h aa xv p0 n1 d1 z1 hn hd hnl hR i a hi hI; exact ⟨_, s, h1, rfl, h2, h3⟩)
    (fun a hI => by obtain ⟨s, h1, h2⟩ := end_m15 n X h aa xv p0 n1 d1 z1 hn hd hnl hR a hI; exact ⟨_, s, h1, by simp, rfl, h2⟩)
    (fun i a => by first | exact Nat.le_refl _ | (show 1 ≤ _; decide) | (simp only [S_m15]; omega)) hi hI h0 hnx
  rw [foldX_inl] at this
  exact this
def BackOk (n : Nat) (X : Nat → Int) (es : List (Value × Value)) (xv : Int) (d1 : Nat) (z1 : Nat → Int) : Prop := ∀ j, j < d1 → orB xv (nzE (z1 j) X n) (nzL (z1 j) X n) = true ∧ z1 j ∈ keyT es ∧ z1 j ≠ xv
noncomputable def L_m15 : LoopF := mkLoopF [1, 5, 6, 10, 47, 48, 49, 55, 56, 57] (loopOf Try.f3 15) Try.f3.ntmps fun sl H nx => match keyed [1, 5, 6, 10, 47, 48, 49, 55, 56, 57] sl, keyed [0] H with
  | some [.v (.one (.f (.lit (.int .i64 aa)))), .v (.one (.f (.fs nq k5 n e))), .v (.one (.mp z1)), .v (.one (.f (.lit (.int .i64 xv)))), .v (.one (.f (.fs nr k7 nb eb))), .v (.one (.f (.lit (.int .i64 nc)))), .v (.one (.f (.lit (.int .i64 p0)))), .v (.one (.f (.fs n1 k1 d1 e1))), .v (.one (.f (.lit (.int .i64 dd)))), .v (.one (.f (.lit (.int .i64 i))))], some [.map es] => onlyB (Nat.beq nx 1 && (Nat.beq z1 0)) (onlyB (Nat.beq k5 1 && (Nat.beq k7 1 && Nat.beq k1 1)) (.need (pb (nq = false ∧ nr = false ∧ IntE e ∧ nb = n ∧ eb = e ∧ nc = n ∧ IntE e1 ∧ dd = d1 ∧ MapT es ∧ i = 0 ∧ n ≤ 1048576 ∧ d1 ≤ 1048576 ∧ (n1 = true → d1 = 0) ∧ BackOk n (intOf e) es xv d1 (intOf e1))) (.ret (.exit 4, (St.mk [(1, .v (AI aa)), (5, .v (.one (.f (.fs false 1 n e)))), (6, .v (.one (.mp 0))), (47, .v (.one (.f (.fs false 1 n e)))), (48, .v (AI n)), (49, .v (AI p0))] [(0, .map es)] 1 false 0 []).sl, (St.mk [(1, .v (AI aa)), (5, .v (.one (.f (.fs false 1 n e)))), (6, .v (.one (.mp 0))), (47, .v (.one (.f (.fs false 1 n e)))), (48, .v (AI n)), (49, .v (AI p0))] [(0, .map es)] 1 false 0 []).H, 1, false))))
  | _, _ => .bad
theorem L_m15_ok : LoopOk Try.prog L_m15 := by
  refine mkLoopF_ok fun sl H nx e sl' H' nx' esc' h => ?_
  split at h
  · rename_i aa nq k5 n e z1 xv nr k7 nb eb nc p0 n1 k1 d1 e1 dd i es hsl hH
    have hsl := keyed_eq hsl
    have hH := keyed_eq hH
    subst hsl hH
    have h5 := onlyB_some h
    clear h
    obtain ⟨hck, h⟩ := h5
    simp only [Bool.and_eq_true, nbeq_iff] at hck
    obtain ⟨rfl, rfl⟩ := hck
    have h5 := onlyB_some h
    clear h
    have hw := h5.1
    have h := h5.2
    clear h5
    obtain ⟨hp, hret⟩ := T.need_some h
    have hp := pb_of hp
    have := T.ret_some hret
    simp only [Prod.mk.injEq] at this
    obtain ⟨rfl, rfl, rfl, rfl, rfl⟩ := this
    clear hret h
    obtain ⟨rfl, rfl, ⟨X, rfl⟩, rfl, rfl, rfl, ⟨z1, rfl⟩, rfl, ⟨h, rfl⟩, rfl, h1, h2, h3, h4⟩ := hp
    obtain ⟨hw1, hw⟩ := Bool.and_eq_true_iff.1 hw
    obtain ⟨hw2, hw3⟩ := Bool.and_eq_true_iff.1 hw
    obtain rfl := Nat.eq_of_beq_eq_true hw1
    obtain rfl := Nat.eq_of_beq_eq_true hw2
    obtain rfl := Nat.eq_of_beq_eq_true hw3
    have h4 : ∀ j, j < d1 → orB xv (nzE (z1 j) X nb) (nzL (z1 j) X nb) = true ∧ z1 j ∈ h ∧ z1 j ≠ xv := fun j hj => by have := h4 j hj; rw [keyT_mT] at this; exact this
    exact loop_m15 nb X h aa xv p0 n1 d1 z1 h1 h2 h3 h4 0 () (Nat.zero_le _) trivial (StLe.refl (Nat.le_refl 1)) rfl
  · exact (T.bad_some h).elim
noncomputable def ll_m15 : List (Nat × Nat × LoopF) := (3, 15, L_m15) :: ll_m36
theorem ll_m15_ok : ∀ x ∈ ll_m15, LoopOk Try.prog x.2.2 := List.forall_mem_cons.2 ⟨L_m15_ok, ll_m36_ok⟩
def S_m12 (n : Nat) (X : Nat → Int) (h : List Int) (aa : Int) (i : Nat) (u : Unit) : St := ⟨[(1, .v (AI aa)), (5, .v (.one (.f (.fs false 1 n (intE X))))), (6, .v (.one (.mp 0))), (47, .v (.one (.f (.fs false 1 n (intE X))))), (48, .v (AI n)), (49, .v (AI i))], [(0, .map (mT h))], 1, false, 0, []⟩

noncomputable def GRZ2 : Ctx := GS.with ss_known ll_m15
noncomputable def tgt_m12 (n : Nat) (X : Nat → Int) (h : List Int) (aa : Int) (i : Nat) (u : Unit) : T (Ex × St) := evRound GRZ2 300 3 Try.f3.ntmps (loopOf Try.f3 12) 1 [1, 5, 6, 47, 48, 49] [1, 5, 6] (S_m12 n X h aa i u)
theorem GKRZ2 : KnownOk Try.prog GRZ2 := KnownOk.lists ss_known_ok ll_m15_ok
theorem GORZ2 : CtxOk Try.prog GRZ2 := GS_ok.with _ _
theorem tree_m12 (n : Nat) (X : Nat → Int) (h : List Int) (aa : Int) (i : Nat) (u : Unit) : (tgt_m12 n X h aa i u).over (.br (.tt (.br (.br (.br (.br .leaf .skip) .skip) .skip) .skip)) .leaf) =
  T.br (decide ((↑i : Int) < (↑n : Int)))
    (T.br (decide ((0 : Int) ≤ (↑i : Int) ∧ (↑i : Int) < (↑n : Int)))
      (T.br (pb (IntE (intE X) ∧ (false = true → n = (0 : Nat)) ∧ n ≤ (1048576 : Nat)))
        (T.br (pb (Code.loop (loopOf Proofs.Try.f3 (15 : Nat)) = Code.loop (loopOf Proofs.Try.f3 (15 : Nat)) ∧ (134 : Nat) = (134 : Nat)))
          (T.br
            (pb
              (false = false ∧
                false = false ∧
                  IntE (intE X) ∧
                    n = n ∧
                      intE X = intE X ∧
                        (↑n : Int) = (↑n : Int) ∧
                          IntE (intE (nzE (X i) X n)) ∧
                            (↑(nzL (X i) X n) : Int) = (↑(nzL (X i) X n) : Int) ∧
                              MapT (mT h) ∧ (0 : Int) = (0 : Int) ∧ n ≤ (1048576 : Nat) ∧ nzL (X i) X n ≤ (1048576 : Nat) ∧ (nzN (X i) X n = true → nzL (X i) X n = (0 : Nat)) ∧ BackOk n X (mT h) (X i) (nzL (X i) X n) (nzE (X i) X n)))
            (T.ret
              (Ex.normal,
                {
                  sl :=
                    [((1 : Nat), SV.v (AI aa)), ((5 : Nat), SV.v (AV.one (CV.f (FV.fs false (1 : Nat) n fun a => [FV.lit (Value.int IntKind.i64 (X a))])))), ((6 : Nat), SV.v (AV.one (CV.mp (0 : Nat)))),
                      ((47 : Nat), SV.v (AV.one (CV.f (FV.fs false (1 : Nat) n fun a => [FV.lit (Value.int IntKind.i64 (X a))])))), ((48 : Nat), SV.v (AI (↑n : Int))),
                      ((49 : Nat), SV.v (AI (IntKind.wrap IntKind.i64 ((↑i : Int) + (1 : Int)))))],
                  H := [((0 : Nat), Ob.map (mT h))], nx := (1 : Nat), esc := false, base := (0 : Nat), wr := [(0 : Nat)] : St }))
            T.bad)
          T.bad)
        T.bad)
      T.bad)
    (T.ret
      (Ex.exit (2 : Nat),
        { sl := [((1 : Nat), SV.v (AI aa)), ((5 : Nat), SV.v (AV.one (CV.f (FV.fs false (1 : Nat) n fun a => [FV.lit (Value.int IntKind.i64 (X a))])))), ((6 : Nat), SV.v (AV.one (CV.mp (0 : Nat))))], H := [((0 : Nat), Ob.map (mT h))],
          nx := (1 : Nat), esc := false, base := (0 : Nat), wr := [] : St })) := by kernel_rfl
theorem back_ok (n : Nat) (X : Nat → Int) (i : Nat) (hi : i < n) : BackOk n X (mT (hsL X n)) (X i) (nzL (X i) X n) (nzE (X i) X n) := fun j hj => by
  have hN : IsN X n (X i) (nzE (X i) X n j) := ⟨j, hj, rfl⟩
  obtain ⟨k, hk, e⟩ := isN_back (p := X i) ⟨i, hi, rfl⟩ hN
  obtain ⟨h1, h2⟩ := isN_ne hN
  refine ⟨foldF_or _ _ _ (.inr ⟨k, Nat.zero_le k, by omega, by simpa using e.symm⟩), ?_, h2⟩
  rw [keyT_mT]
  exact ((hsL_ok X n).2 _).2 h1

theorem round_m12 (n : Nat) (X : Nat → Int) (h : List Int) (aa : Int) (hn : n ≤ 1048576) (hh : h = hsL X n) (i : Nat) (a : Unit) (hi : i < n) (hI : (fun (i : Nat) (a : Unit) => (True : Prop)) i a) : ∃ st', (tgt_m12 n X h aa i a).res = some (.normal, st') ∧ StLe 1 st' (S_m12 n X h aa (i + 1) ((fun (i : Nat) (a : Unit) => (())) i a)) ∧ (fun (i : Nat) (a : Unit) => (True : Prop)) (i + 1) ((fun (i : Nat) (a : Unit) => (())) i a) := by
  refine T.over_exP (g := fun s => (Ex.normal, s)) (tree_m12 n X h aa i a) ?_
  have e1 : ((i : Int) < (n : Int)) := by omega
  have e2 : (0 : Int) ≤ (i : Int) ∧ (i : Int) < (n : Int) := by omega
  have e3 : IntKind.wrap .i64 ((i : Int) + 1) = ((i + 1 : Nat) : Int) := by rw [wrapI (by omega)]; rfl
  have e4 := back_ok n X i hi
  rw [← hh] at e4
  have e6 : nzL (X i) X n ≤ 1048576 := by have := nz_le2 (X i) X n; omega
  have e7 : (nzN (X i) X n = true → nzL (X i) X n = 0) = True := eq_true (nz_nil _ _ _)
  have e8 : (false = true → n = 0) = True := eq_true fun h => by cases h
  simp only [T.res_br, T.res_ret, T.res_bad, decide_eq_true e1, decide_eq_true e2, e3, e4, e6, e7, e8, hn, IntE_ok, intOf_intE, MapT_mT, eq_self, and_self, false_implies, pb_tt, reduceIte]
  refine ⟨_, rfl, ?_, trivial⟩
  exact StLe.wrs (Nat.le_refl 1)
theorem end_m12 (n : Nat) (X : Nat → Int) (h : List Int) (aa : Int) (hn : n ≤ 1048576) (hh : h = hsL X n) (a : Unit) (hI : (fun (i : Nat) (a : Unit) => (True : Prop)) (n) a) : ∃ st', (tgt_m12 n X h aa (n) a).res = some (.exit 2, st') ∧ StLe 1 st' (⟨[(1, .v (AI aa)), (5, .v (.one (.f (.fs false 1 n (intE X))))), (6, .v (.one (.mp 0)))], [(0, .map (mT h))], 1, false, 0, []⟩) := by
  refine T.over_exP (g := fun s => (.exit 2, s)) (tree_m12 n X h aa (n) a) ?_
  simp only [T.res_br, T.res_ret, T.res_bad, decide_eq_true_eq, Int.lt_irrefl, reduceIte]
  exact ⟨_, rfl, StLe.refl (Nat.le_refl 1)⟩
theorem loop_m12 (n : Nat) (X : Nat → Int) (h : List Int) (aa : Int) (hn : n ≤ 1048576) (hh : h = hsL X n) (i : Nat) (a : Unit) (hi : i ≤ n) (hI : (fun (i : Nat) (a : Unit) => (True : Prop)) i a) {st0 : St} (h0 : StLe 1 st0 (S_m12 n X h aa i a)) (hnx : st0.nx = 1) :
    CodeOk Try.prog Try.f3.ntmps (.loop (loopOf Try.f3 12)) st0 (.exit 2) ((fun (a : Unit) => ⟨[(1, .v (AI aa)), (5, .v (.one (.f (.fs false 1 n (intE X))))), (6, .v (.one (.mp 0)))], [(0, .map (mT h))], 1, false, 0, []⟩) (foldF (fun (i : Nat) (a : Unit) => (())) (n - i) i a)) := by
  have := for_loop GORZ2 GKRZ2 (K := 300) (F := 3) (N := Try.f3.ntmps) (c := loopOf Try.f3 12) (m := 1) (live := [1, 5, 6, 47, 48, 49]) (after := [1, 5, 6]) (S_m12 n X h aa) (n) (fun (i : Nat) (a : Unit) => .inl (())) (fun (a : Unit) => (.exit 2, ⟨[(1, .v (AI aa)), (5, .v (.one (.f (.fs false 1 n (intE X))))), (6, .v (.one (.mp 0)))], [(0, .map (mT h))], 1, false, 0, []⟩)) (fun (i : Nat) (a : Unit) => (True : Prop))
    (fun i a hi hI => by obtain ⟨s, h1, h2, h3⟩ := round_m12 n X h aa hn hh i a hi hI; exact ⟨_, s, h1, rfl, h2, h3⟩)
    (fun a hI => by obtain ⟨s, h1, h2⟩ := end_m12 n X h aa hn hh a hI; exact ⟨_, s, h1, by simp, rfl, h2⟩)
    (fun i a => by first | exact Nat.le_refl _ | (show 1 ≤ _; decide) | (simp only [S_m12]; omega)) hi hI h0 hnx
  rw [foldX_inl] at this
  exact this
noncomputable def L_m12 : LoopF := mkLoopF [1, 5, 6, 47, 48, 49] (loopOf Try.f3 12) Try.f3.ntmps fun sl H nx => match keyed [1, 5, 6, 47, 48, 49] sl, keyed [0] H with
  | some [.v (.one (.f (.lit (.int .i64 aa)))), .v (.one (.f (.fs nq k5 n e))), .v (.one (.mp z1)), .v (.one (.f (.fs nr k7 nb eb))), .v (.one (.f (.lit (.int .i64 nc)))), .v (.one (.f (.lit (.int .i64 p0))))], some [.map es] => onlyB (Nat.beq nx 1 && (Nat.beq z1 0)) (onlyB (Nat.beq k5 1 && Nat.beq k7 1) (.need (pb (nq = false ∧ nr = false ∧ IntE e ∧ nb = n ∧ eb = e ∧ nc = n ∧ p0 = 0 ∧ n ≤ 1048576 ∧ es = mT (hsL (intOf e) n))) (.ret (.exit 2, (St.mk [(1, .v (AI aa)), (5, .v (.one (.f (.fs false 1 n e)))), (6, .v (.one (.mp 0)))] [(0, .map es)] 1 false 0 []).sl, (St.mk [(1, .v (AI aa)), (5, .v (.one (.f (.fs false 1 n e)))), (6, .v (.one (.mp 0)))] [(0, .map es)] 1 false 0 []).H, 1, false))))
  | _, _ => .bad
theorem L_m12_ok : LoopOk Try.prog L_m12 := by
  refine mkLoopF_ok fun sl H nx e sl' H' nx' esc' h => ?_
  split at h
  · rename_i aa nq k5 n e z1 nr k7 nb eb nc p0 es hsl hH
    have hsl := keyed_eq hsl
    have hH := keyed_eq hH
    subst hsl hH
    have h5 := onlyB_some h
    clear h
    obtain ⟨hck, h⟩ := h5
    simp only [Bool.and_eq_true, nbeq_iff] at hck
    obtain ⟨rfl, rfl⟩ := hck
    have h5 := onlyB_some h
    clear h
    have hw := h5.1
    have h := h5.2
    clear h5
    obtain ⟨hp, hret⟩ := T.need_some h
    have hp := pb_of hp
    have := T.ret_some hret
    simp only [Prod.mk.injEq] at this
    obtain ⟨rfl, rfl, rfl, rfl, rfl⟩ := this
    clear hret h
    obtain ⟨rfl, rfl, ⟨X, rfl⟩, rfl, rfl, rfl, rfl, h1, rfl⟩ := hp
    obtain ⟨hw1, hw2⟩ := Bool.and_eq_true_iff.1 hw
    obtain rfl := Nat.eq_of_beq_eq_true hw1
    obtain rfl := Nat.eq_of_beq_eq_true hw2
    exact loop_m12 nb X _ aa h1 rfl 0 () (Nat.zero_le _) trivial (StLe.refl (Nat.le_refl 1)) rfl
  · exact (T.bad_some h).elim
noncomputable def ll_m12 : List (Nat × Nat × LoopF) := (3, 12, L_m12) :: ll_m15
theorem ll_m12_ok : ∀ x ∈ ll_m12, LoopOk Try.prog x.2.2 := List.forall_mem_cons.2 ⟨L_m12_ok, ll_m15_ok⟩
end Go.Proofs.Ytggneleipimijaa.En
/- RingBoth: ahead of the passes; a pass. -/
namespace Go.Proofs.Ytggneleipimijaa.En
open Go
set_option linter.unusedVariables false
set_option linter.unusedSimpArgs false
set_option maxRecDepth 20000
set_option maxHeartbeats 1000000
noncomputable abbrev rbC : Code := bodyOf Try.f3
def fstC : Code → Code | .seq a _ => a | c => c
def blkC : Code → Code | .block _ c => c | .loop c => c | c => c
def sndC : Code → Code | .seq _ b => b | c => c
/-- a round of the passes' loop -/
noncomputable def rbR : Code := loopOf Try.f3 29

noncomputable def GSA1 : Ctx := GS.withP ss_known ll_m12 [(3, 11, [5])]
noncomputable def tgt_L (nl : Bool) (n : Nat) (l : Nat → Int) (a : Int) : T (Ex × St) := evCutR GSA1 300 3 Try.f3.ntmps 7 (rbC) 0 [5, 6, 16] [4] (⟨argSlots 0 [.one (.f (.fs nl 1 n (intE l))), AI a], [], 0, false, 0, []⟩)
theorem GKSA1 : KnownOk Try.prog GSA1 := KnownOk.listsP ss_known_ok ll_m12_ok
theorem GOSA1 : CtxOk Try.prog GSA1 := GS_ok.withP _ _ _
theorem tree_L (nl : Bool) (n : Nat) (l : Nat → Int) (a : Int) : (tgt_L nl n l a).over (.br (.br (.br .leaf (.br (.br (.br (.br (.br (.tt (.br (.tt .leaf) .skip)) .skip) .skip) .skip) .skip) .skip)) .skip) .skip) =
  T.br (pb (Code.loop (loopOf Proofs.Try.f3 (4 : Nat)) = Code.loop (loopOf Proofs.Try.f3 (4 : Nat)) ∧ (134 : Nat) = (134 : Nat))) (T.br (pb (IntE (intE l) ∧ NoT [] ∧ (nl = true → n = (0 : Nat)) ∧ (0 : Int) = (0 : Int))) (T.br ((↑(min n (9 : Nat)) : Int) == (0 : Int)) (T.ret (Ex.ret, { sl := [((4 : Nat), SV.v (AB true))], H := [], nx := (0 : Nat), esc := false, base := (0 : Nat), wr := [(0 : Nat)] : St })) (T.br (Nat.ble (min n (9 : Nat)) (min n (9 : Nat)) && (!Nat.beq (min n (9 : Nat)) (0 : Nat) || Nat.beq (min n (9 : Nat)) (0 : Nat))) (T.br (Nat.ble (min n (9 : Nat)) (min n (9 : Nat)) && (!Nat.beq (min n (9 : Nat)) (0 : Nat) || Nat.beq (min n (9 : Nat)) (0 : Nat))) (T.br (pb (Code.loop (loopOf Proofs.Try.f3 (12 : Nat)) = Code.loop (loopOf Proofs.Try.f3 (12 : Nat)) ∧ (134 : Nat) = (134 : Nat))) (T.br (pb (Nat.beq (min n (9 : Nat)) (0 : Nat) = false ∧ Nat.beq (min n (9 : Nat)) (0 : Nat) = false ∧ IntE (intE (p20 l)) ∧ min n (9 : Nat) = min n (9 : Nat) ∧ intE (p20 l) = intE (p20 l) ∧ (↑(min n (9 : Nat)) : Int) = (↑(min n (9 : Nat)) : Int) ∧ (0 : Int) = (0 : Int) ∧ min n (9 : Nat) ≤ (1048576 : Nat) ∧ mT (hsL (p20 l) (min n (9 : Nat))) = mT (hsL (p20 l) (min n (9 : Nat))))) (T.br (decide ((0 : Int) < (↑(min n (9 : Nat)) : Int) ∧ (↑(min n (9 : Nat)) : Int) ≤ (9223372036854775807 : Int))) (T.br (decide ((0 : Int) ≤ a % (↑(min n (9 : Nat)) : Int) ∧ a % (↑(min n (9 : Nat)) : Int) < (↑(min n (9 : Nat)) : Int))) (T.ret (Ex.normal, { sl := [((5 : Nat), SV.v (AV.one (CV.f (FV.fs false (1 : Nat) (min n (9 : Nat)) fun a => [FV.lit (Value.int IntKind.i64 (p20 l a))])))), ((6 : Nat), SV.v (AV.one (CV.mp (0 : Nat)))), ((16 : Nat), SV.v (AV.one (CV.mp (1 : Nat))))], H := [((0 : Nat), Ob.map (mT (hsL (p20 l) (min n (9 : Nat))))), ((1 : Nat), Ob.map [(Value.int IntKind.i64 (p20 l (Int.toNat (a % (↑(min n (9 : Nat)) : Int)))), Value.bool true)])], nx := (2 : Nat), esc := false, base := (0 : Nat), wr := [(0 : Nat), (0 : Nat), (1 : Nat), (0 : Nat)] : St })) T.bad) T.bad) T.bad) T.bad) T.bad) T.bad)) T.bad) T.bad := by kernel_rfl
def S_ps (n : Nat) (X : Nat → Int) (h : List Int) (i : Int) (r : List Int) : St := ⟨[(5, .v (.one (.f (.fs false 1 n (intE X))))), (6, .v (.one (.mp 0))), (16, .v (.one (.mp 1))), (17, .v (AI i))], [(0, .map (mT h)), (1, .map (mT r))], 2, false, 0, []⟩
def S_pr (n : Nat) (X : Nat → Int) (i : Int) (q : Nat) (r : List Int) : St := ⟨[(5, .v (.one (.f (.fs false 1 n (intE X))))), (6, .v (.one (.mp 0))), (16, .v (.one (.mp 1))), (17, .v (AI i)), (107, itV q)], [(1, .map (mT r))], 2, false, 0, []⟩

noncomputable def cd_pr : Code := seqOf Try.f3 31
noncomputable def GSA2 : Ctx := GS.with ss_known ll_m12
noncomputable def tgt_P (n : Nat) (X : Nat → Int) (h : List Int) (i : Int) (r : List Int) : T (Ex × St) := evCutR GSA2 300 3 Try.f3.ntmps 1 (rbR) 2 [5, 6, 16, 17] [6, 16] (S_ps n X h i r)
noncomputable def tgt_pr (n : Nat) (X : Nat → Int) (i : Int) (q : Nat) (r : List Int) (k : Int) : T (Ex × St) := evRg GSA2 300 3 Try.f3.ntmps cd_pr 11 110 2 [5, 6, 16, 17, 107] (S_pr n X i q r) (.int .i64 k, .bool true)
noncomputable def tgt_Y (n : Nat) (X : Nat → Int) (h : List Int) (r : List Int) : T (Ex × St) := evRound GSA2 300 3 Try.f3.ntmps (fstC (fstC (restC 7 rbC))) 2 [5, 6, 16, 17] [] ⟨[(5, .v (.one (.f (.fs false 1 n (intE X))))), (6, .v (.one (.mp 0))), (16, .v (.one (.mp 1)))], [(0, .map (mT h)), (1, .map (mT r))], 2, false, 0, []⟩
noncomputable def tgt_P2 (n : Nat) (X : Nat → Int) (h : List Int) (i : Int) (r : List Int) : T (Ex × St) := evRound GSA2 300 3 Try.f3.ntmps (sndC (sndC rbR)) 2 [5, 6, 16, 17] [] (S_ps n X h i r)
noncomputable def tgt_Z (h r : List Int) : T (Ex × St) := evRound GSA2 300 3 Try.f3.ntmps (restC 8 rbC) 2 [4] [4] ⟨[(6, .v (.one (.mp 0))), (16, .v (.one (.mp 1)))], [(0, .map (mT h)), (1, .map (mT r))], 2, false, 0, []⟩
theorem GKSA2 : KnownOk Try.prog GSA2 := KnownOk.lists ss_known_ok ll_m12_ok
theorem GOSA2 : CtxOk Try.prog GSA2 := GS_ok.with _ _
theorem tree_P (n : Nat) (X : Nat → Int) (h : List Int) (i : Int) (r : List Int) : (tgt_P n X h i r).over (.br .leaf .leaf) =
  T.br (decide (i < (↑(List.length (mT h)) : Int)))
    (T.ret
      (Ex.normal,
        {
          sl :=
            [((5 : Nat), SV.v (AV.one (CV.f (FV.fs false (1 : Nat) n fun a => [FV.lit (Value.int IntKind.i64 (X a))])))), ((6 : Nat), SV.v (AV.one (CV.mp (0 : Nat)))), ((16 : Nat), SV.v (AV.one (CV.mp (1 : Nat)))), ((17 : Nat), SV.v (AI i))],
          H := [((0 : Nat), Ob.map (mT h)), ((1 : Nat), Ob.map (mT r))], nx := (2 : Nat), esc := false, base := (0 : Nat), wr := [] : St }))
    (T.ret
      (Ex.exit (8 : Nat),
        { sl := [((6 : Nat), SV.v (AV.one (CV.mp (0 : Nat)))), ((16 : Nat), SV.v (AV.one (CV.mp (1 : Nat))))], H := [((0 : Nat), Ob.map (mT h)), ((1 : Nat), Ob.map (mT r))], nx := (2 : Nat), esc := false, base := (0 : Nat), wr := [] : St })) := by kernel_rfl
theorem tree_pr (n : Nat) (X : Nat → Int) (i : Int) (q : Nat) (r : List Int) (k : Int) : (tgt_pr n X i q r k).over (.br (.br (.br (.br (.br .leaf .skip) .skip) .skip) .leaf) .skip) =
  T.br (keysOk (Prod.fst (Value.int IntKind.i64 k, Value.bool true)) (mT r) && trusOk (mT r))
    (T.br (truM (Prod.fst (Value.int IntKind.i64 k, Value.bool true)) (mT r))
      (T.br (pb (IntE (intE X) ∧ (false = true → n = (0 : Nat)) ∧ n ≤ (1048576 : Nat)))
        (T.br (pb (Code.loop (loopOf Proofs.Try.f3 (36 : Nat)) = Code.loop (loopOf Proofs.Try.f3 (36 : Nat)) ∧ (134 : Nat) = (134 : Nat)))
          (T.br (pb (false = false ∧ IntE (intE X) ∧ IntE (intE (nzE k X n)) ∧ MapT (mT r) ∧ (↑(nzL k X n) : Int) = (↑(nzL k X n) : Int) ∧ (0 : Int) = (0 : Int) ∧ nzL k X n ≤ (1048576 : Nat) ∧ (nzN k X n = true → nzL k X n = (0 : Nat))))
            (T.ret
              (Ex.normal,
                {
                  sl :=
                    [((5 : Nat), SV.v (AV.one (CV.f (FV.fs false (1 : Nat) n fun a => [FV.lit (Value.int IntKind.i64 (X a))])))), ((6 : Nat), SV.v (AV.one (CV.mp (0 : Nat)))), ((16 : Nat), SV.v (AV.one (CV.mp (1 : Nat)))),
                      ((17 : Nat), SV.v (AI i)), ((107 : Nat), SV.v (AV.one (CV.f (FV.lit (Value.pointer (some { block := q, off := (0 : Nat) : Addr }))))))],
                  H := [((1 : Nat), Ob.map (mT (foldF (fun i r => addK (intOf (intE (nzE k X n)) i) r) (nzL k X n) (0 : Nat) (keyT (mT r)))))], nx := (2 : Nat), esc := false, base := (0 : Nat), wr := [(1 : Nat), (0 : Nat)] : St }))
            T.bad)
          T.bad)
        T.bad)
      (T.ret
        (Ex.normal,
          {
            sl :=
              [((5 : Nat), SV.v (AV.one (CV.f (FV.fs false (1 : Nat) n fun a => [FV.lit (Value.int IntKind.i64 (X a))])))), ((6 : Nat), SV.v (AV.one (CV.mp (0 : Nat)))), ((16 : Nat), SV.v (AV.one (CV.mp (1 : Nat)))),
                ((17 : Nat), SV.v (AI i)), ((107 : Nat), SV.v (AV.one (CV.f (FV.lit (Value.pointer (some { block := q, off := (0 : Nat) : Addr }))))))],
            H := [((1 : Nat), Ob.map (mT r))], nx := (2 : Nat), esc := false, base := (0 : Nat), wr := [] : St })))
    T.bad := by kernel_rfl
theorem tree_Y (n : Nat) (X : Nat → Int) (h : List Int) (r : List Int) : (tgt_Y n X h r).over .leaf =
  T.ret
    (Ex.normal,
      {
        sl :=
          [((5 : Nat), SV.v (AV.one (CV.f (FV.fs false (1 : Nat) n fun a => [FV.lit (Value.int IntKind.i64 (X a))])))), ((6 : Nat), SV.v (AV.one (CV.mp (0 : Nat)))), ((16 : Nat), SV.v (AV.one (CV.mp (1 : Nat)))),
            ((17 : Nat), SV.v (AI (0 : Int)))],
        H := [((0 : Nat), Ob.map (mT h)), ((1 : Nat), Ob.map (mT r))], nx := (2 : Nat), esc := false, base := (0 : Nat), wr := [] : St }) := by kernel_rfl
theorem tree_P2 (n : Nat) (X : Nat → Int) (h : List Int) (i : Int) (r : List Int) : (tgt_P2 n X h i r).over .leaf =
  T.ret
    (Ex.normal,
      {
        sl :=
          [((5 : Nat), SV.v (AV.one (CV.f (FV.fs false (1 : Nat) n fun a => [FV.lit (Value.int IntKind.i64 (X a))])))), ((6 : Nat), SV.v (AV.one (CV.mp (0 : Nat)))), ((16 : Nat), SV.v (AV.one (CV.mp (1 : Nat)))),
            ((17 : Nat), SV.v (AI (IntKind.wrap IntKind.i64 (i + (1 : Int)))))],
        H := [((0 : Nat), Ob.map (mT h)), ((1 : Nat), Ob.map (mT r))], nx := (2 : Nat), esc := false, base := (0 : Nat), wr := [] : St }) := by kernel_rfl
theorem tree_Z (h r : List Int) : (tgt_Z h r).over (.tt (.tt (.tt (.tt (.tt (.tt .leaf)))))) =
  T.ret
    (Ex.ret, { sl := [((4 : Nat), SV.v (AB ((↑(List.length (mT r)) : Int) == (↑(List.length (mT h)) : Int))))], H := [((0 : Nat), Ob.map (mT h)), ((1 : Nat), Ob.map (mT r))], nx := (2 : Nat), esc := false, base := (0 : Nat), wr := [] : St }) := by kernel_rfl
end Go.Proofs.Ytggneleipimijaa.En
/- RingBoth. -/
namespace Go.Proofs.Ytggneleipimijaa.En
open Go
set_option linter.unusedVariables false
set_option linter.unusedSimpArgs false
set_option maxRecDepth 20000
set_option maxHeartbeats 1000000
theorem shape7 : restC 7 rbC = .seq (.seq (fstC (fstC (restC 7 rbC))) (.block 8 (.loop rbR))) (restC 8 rbC) := by kernel_rfl
theorem shapeR : restC 1 rbR = .seq (.block 9 cd_pr) (sndC (sndC rbR)) := by kernel_rfl
theorem addF_len (x : Nat → Int) : ∀ (c i : Nat) (r : List Int), (foldF (fun i r => addK (x i) r) c i r).length ≤ r.length + c
  | 0, _, _ => Nat.le_refl _
  | c + 1, i, r => by
    have h1 := addF_len x c (i + 1) (addK (x i) r)
    have h2 : ∀ (k : Int) (r : List Int), (addK k r).length ≤ r.length + 1 := fun k r => by
      induction r with
      | nil => exact Nat.le_refl _
      | cons e r ih =>
        simp only [addK]
        split <;> simp only [List.length_cons] <;> omega
    have h3 := h2 (x i) r
    show (foldF (fun i r => addK (x i) r) c (i + 1) (addK (x i) r)).length ≤ _
    omega
theorem hsL_len (x : Nat → Int) (c : Nat) : (hsL x c).length ≤ c := by
  have := addF_len x c 0 []
  simpa [hsL] using this
abbrev vT (k : Int) : Value × Value := (.int .i64 k, .bool true)
/-- what is reached within a pass, of whom some are left -/
def InP (X : Nat → Int) (n : Nat) (h r0 : List Int) (left : List (Value × Value)) (r : List Int) : Prop :=
  r.Nodup ∧ (∀ v ∈ r, Has X n v) ∧ (∀ v ∈ r0, v ∈ r) ∧ ∀ p ∈ h, vT p ∉ left → p ∈ r0 → ∀ y, IsN X n p y → y ∈ r
theorem InP.step {X : Nat → Int} {n : Nat} {h r0 r : List Int} {l1 l2 : List (Value × Value)} {k : Int} (hI : InP X n h r0 (l1 ++ vT k :: l2) r) (hk : k ∈ r) (hn : Has X n k) : InP X n h r0 (l1 ++ l2) (addN X n k r) := by
  obtain ⟨h1, h2, h3, h4⟩ := hI
  obtain ⟨g1, g2⟩ := addN_ok X n k h1
  refine ⟨g1, fun v hv => ?_, fun v hv => (g2 v).2 (.inl (h3 v hv)), fun p hp hl hp0 y hy => (g2 y).2 ?_⟩
  · rcases (g2 v).1 hv with hv | hv
    · exact h2 v hv
    · exact (isN_ne hv).1
  · by_cases e : p = k
    · exact .inr (e ▸ hy)
    · refine .inl (h4 p hp (fun hm => ?_) hp0 y hy)
      rcases List.mem_append.1 hm with hm | hm
      · exact hl (List.mem_append.2 (.inl hm))
      · rcases List.mem_cons.1 hm with hm | hm
        · simp only [vT, Prod.mk.injEq, Value.int.injEq, and_true, true_and] at hm
          exact e hm
        · exact hl (List.mem_append.2 (.inr hm))
theorem InP.skip {X : Nat → Int} {n : Nat} {h r0 r : List Int} {l1 l2 : List (Value × Value)} {k : Int} (hI : InP X n h r0 (l1 ++ vT k :: l2) r) (hk : k ∉ r) : InP X n h r0 (l1 ++ l2) r := by
  obtain ⟨h1, h2, h3, h4⟩ := hI
  refine ⟨h1, h2, h3, fun p hp hl hp0 y hy => ?_⟩
  by_cases e : p = k
  · exact absurd (h3 p hp0) (e ▸ hk)
  · refine h4 p hp (fun hm => ?_) hp0 y hy
    rcases List.mem_append.1 hm with hm | hm
    · exact hl (List.mem_append.2 (.inl hm))
    · rcases List.mem_cons.1 hm with hm | hm
      · simp only [vT, Prod.mk.injEq, Value.int.injEq, and_true, true_and] at hm
        exact e hm
      · exact hl (List.mem_append.2 (.inr hm))
abbrev psSl (n : Nat) (X : Nat → Int) (i : Int) : Slots := [(5, .v (.one (.f (.fs false 1 n (intE X))))), (6, .v (.one (.mp 0))), (16, .v (.one (.mp 1))), (17, .v (AI i))]
theorem pass (n : Nat) (X : Nat → Int) (hn : n ≤ 9) (i : Int) (r0 : List Int) (h1 : r0.Nodup) (h2 : ∀ v ∈ r0, Has X n v) :
    HT Try.prog Try.f3.ntmps cd_pr (S_ps n X (hsL X n) i r0) fun e s => e = .normal ∧ ∃ acc, InP X n (hsL X n) r0 [] acc ∧ s = ⟨psSl n X i, [(1, .map (mT acc)), (0, .map (mT (hsL X n)))], 2, false, 0, []⟩ := by
  have hc : cd_pr = rgCode 31 10 32 11 33 (rgO cd_pr 0) (rgO cd_pr 1) (rgO cd_pr 2) (rgO cd_pr 3) (.tmp 109) (rgOps cd_pr) (rgRest cd_pr) := by kernel_rfl
  rw [hc]
  refine map_rangeH GOSA2 GKSA2 (K := 300) (F := 3) (mb := 0) (T := 23) (kt := 3) (et := 4) (o4 := rgO cd_pr 4) (x0 := .tmp 6) (d0 := 106) (d1 := 107) (d2 := 108) (d3 := 109) (d4 := 110) (l := rgTail cd_pr)
    ⟨by kernel_rfl, by kernel_rfl, by kernel_rfl⟩ ⟨by kernel_rfl, by kernel_rfl, by kernel_rfl⟩ ⟨by kernel_rfl, by kernel_rfl, by kernel_rfl⟩ ⟨by kernel_rfl, by kernel_rfl, by kernel_rfl⟩ ⟨by kernel_rfl, by kernel_rfl, by kernel_rfl⟩ (by kernel_rfl) (by decide) (by decide) (by kernel_rfl)
    (S_pr n X i) (InP X n (hsL X n) r0) [5, 6, 16, 17, 107] [1] (Sfin := fun acc => ⟨psSl n X i, [(1, .map (mT acc))], 2, false, 0, []⟩)
    (st0 := S_ps n X (hsL X n) i r0) (es := mT (hsL X n)) (a0 := r0)
    rfl rfl (fun p hp => ?_) rfl (by decide) (fun b hl => ?_) (fun q a => ⟨Nat.le_refl 2, rfl, rfl, rfl, rfl⟩) (fun q => ?_) ?_ (fun q a left1 left2 p hp hI => ?_) (fun q a hI => ?_) (fun _ => rfl)
  · obtain ⟨k, _, rfl⟩ := mT_mem hp
    exact ⟨rfl, rfl⟩
  · rcases b with _ | _ | b
    · exact .inl rfl
    · exact .inr (by decide)
    · exact hl.elim
  · exact StLe.less (Nat.le_refl 2) (fun t => (by rcases t with _ | _ | _ | _ | _ | _ | _ | _ | _ | _ | _ | _ | _ | _ | _ | _ | _ | _ | _ | _ | _ | _ | _ | _ | _ | _ | _ | _ | _ | _ | _ | _ | _ | _ | _ | _ | _ | _ | _ | _ | _ | _ | _ | _ | _ | _ | _ | _ | _ | _ | _ | _ | _ | _ | _ | _ | _ | _ | _ | _ | _ | _ | _ | _ | _ | _ | _ | _ | _ | _ | _ | _ | _ | _ | _ | _ | _ | _ | _ | _ | _ | _ | _ | _ | _ | _ | _ | _ | _ | _ | _ | _ | _ | _ | _ | _ | _ | _ | _ | _ | _ | _ | _ | _ | _ | _ | _ | _ | _ | t <;> first | exact .inr (.inl rfl) | exact .inl rfl)) (fun b => .inl rfl)
  · exact ⟨h1, h2, fun v hv => hv, fun p hp hl => absurd (List.mem_map.2 ⟨p, hp, rfl⟩) hl⟩
  · obtain ⟨k, hk, rfl⟩ := mT_mem hp
    have hkn := ((hsL_ok X n).2 k).1 hk
    have e1 : (false = true → n = 0) = True := eq_true fun h => by cases h
    have e2 : n ≤ 1048576 := by omega
    have e3 : nzL k X n ≤ 1048576 := by have := nz_le2 k X n; omega
    have e4 : (nzN k X n = true → nzL k X n = 0) = True := eq_true (nz_nil _ _ _)
    cases ht : truM (.int .i64 k) (mT a)
    · refine ⟨S_pr n X i q a, a, T.over_eq _ (tree_pr n X i q a k) ?_, StLe.refl (Nat.le_refl 2), hI.skip fun hm => by rw [(mT_has _ _).2 hm] at ht; cases ht⟩
      simp only [T.res_br, T.res_ret, T.res_bad, mT_keys, mT_trus, ht, Bool.and_self, Bool.false_eq_true, reduceIte]
      rfl
    · refine ⟨⟨(S_pr n X i q (addN X n k a)).sl, [(1, .map (mT (addN X n k a)))], 2, false, 0, [1, 0]⟩, addN X n k a, T.over_eq _ (tree_pr n X i q a k) ?_, StLe.wrs (Nat.le_refl 2), hI.step ((mT_has _ _).1 ht) hkn⟩
      simp only [T.res_br, T.res_ret, T.res_bad, mT_keys, mT_trus, ht, e1, e2, e3, e4, IntE_ok, MapT_mT, keyT_mT, eq_self, and_self, pb_tt, Bool.and_self, reduceIte]
      rfl
  · exact StLe.less (Nat.le_refl 2) (fun t => (by rcases t with _ | _ | _ | _ | _ | _ | _ | _ | _ | _ | _ | _ | _ | _ | _ | _ | _ | _ | _ | _ | _ | _ | _ | _ | _ | _ | _ | _ | _ | _ | _ | _ | _ | _ | _ | _ | _ | _ | _ | _ | _ | _ | _ | _ | _ | _ | _ | _ | _ | _ | _ | _ | _ | _ | _ | _ | _ | _ | _ | _ | _ | _ | _ | _ | _ | _ | _ | _ | _ | _ | _ | _ | _ | _ | _ | _ | _ | _ | _ | _ | _ | _ | _ | _ | _ | _ | _ | _ | _ | _ | _ | _ | _ | _ | _ | _ | _ | _ | _ | _ | _ | _ | _ | _ | _ | _ | _ | _ | _ | t <;> first | exact .inr (.inl rfl) | exact .inl rfl)) (fun b => .inl rfl)

theorem loop_all (n : Nat) (X : Nat → Int) (hn : n ≤ 9) (r0 : List Int) (h0 : Reach X n 0 r0) :
    HT Try.prog Try.f3.ntmps (.loop rbR) (S_ps n X (hsL X n) 0 r0) fun e s => e = .exit 8 ∧ ∃ r, r.length = (hsL X n).length ∧ s = ⟨[(6, .v (.one (.mp 0))), (16, .v (.one (.mp 1)))], [(0, .map (mT (hsL X n))), (1, .map (mT r))], 2, false, 0, []⟩ := by
  have hlen := hsL_len X n
  refine HT.loop (α := Nat × List Int) (fun p => S_ps n X (hsL X n) (p.1 : Nat) p.2) (fun p => (hsL X n).length - p.1) (fun p => Reach X n p.1 p.2 ∧ p.1 ≤ (hsL X n).length) (fun p hp => ?_) (p := (0, r0)) ⟨h0, Nat.zero_le _⟩ (m := 0) (StLe.refl (Nat.zero_le _))
  obtain ⟨i, r⟩ := p
  obtain ⟨hR, hi⟩ := hp
  dsimp only at hR hi ⊢
  rcases Nat.lt_or_ge i (hsL X n).length with hlt | hge
  · have e1 : ((i : Int) < ((mT (hsL X n)).length : Int)) := by rw [mT_len]; omega
    refine HT.cutR GOSA2 GKSA2 (e := .normal) (st := S_ps n X (hsL X n) i r) (T.over_eq _ (tree_P n X (hsL X n) i r) ?_) (fun _ => ?_) (fun h => absurd rfl h)
    · simp only [T.res_br, T.res_ret, T.res_bad, decide_eq_true e1, reduceIte]
      rfl
    · rw [shapeR]
      refine HT.seq (HT.block (R := fun e s => e = .normal ∧ ∃ acc, InP X n (hsL X n) r [] acc ∧ s = ⟨psSl n X i, [(1, .map (mT acc)), (0, .map (mT (hsL X n)))], 2, false, 0, []⟩) (HT.weak (pass n X hn i r hR.nodup hR.sub) fun e s he => ⟨by rw [he.1]; rfl, he.2⟩)) (fun s hs => ?_) (fun e s hne hs => absurd hs.1 hne)
      obtain ⟨_, acc, hI, rfl⟩ := hs
      obtain ⟨g1, g2, g3, g4⟩ := hI
      have hN := hR.next g1 g2 g3 fun p hp y hy => g4 p (((hsL_ok X n).2 p).2 (hR.sub p hp)) (by simp) hp y hy
      refine HT.pre (m := 2) (st1 := S_ps n X (hsL X n) i acc) (StLe.less (s := ⟨psSl n X i, [(1, .map (mT acc)), (0, .map (mT (hsL X n)))], 2, false, 0, []⟩) (Nat.le_refl 2) (fun t => .inr (.inl rfl)) (fun b => by rcases b with _ | _ | b <;> exact .inl rfl)) ?_
      have e2 : IntKind.wrap IntKind.i64 ((i : Int) + 1) = ((i + 1 : Nat) : Int) := by rw [wrapI (by omega)]; rfl
      refine HT.round GOSA2 GKSA2 (e := .normal) (st' := S_ps n X (hsL X n) ((i + 1 : Nat) : Int) acc) (T.over_eq _ (tree_P2 n X (hsL X n) i acc) ?_) (.inl ⟨rfl, 2, (i + 1, acc), StLe.refl (Nat.le_refl 2), ⟨hN, by dsimp only; omega⟩, by dsimp only; omega⟩)
      simp only [T.res_br, T.res_ret, T.res_bad, e2]
      rfl
  · have e1 : ¬ ((i : Int) < ((mT (hsL X n)).length : Int)) := by rw [mT_len]; omega
    refine HT.cutR GOSA2 GKSA2 (e := .exit 8) (st := ⟨[(6, .v (.one (.mp 0))), (16, .v (.one (.mp 1)))], [(0, .map (mT (hsL X n))), (1, .map (mT r))], 2, false, 0, []⟩) (T.over_eq _ (tree_P n X (hsL X n) i r) ?_) (fun h => by cases h) (fun _ => .inr ⟨by simp, rfl, r, hR.done hge, rfl⟩)
    simp only [T.res_br, T.res_ret, T.res_bad, decide_eq_false e1, Bool.false_eq_true, reduceIte]
/-- what the law ends with -/
abbrev EndT : Ex → St → Prop := fun e s => (e = .normal ∨ e = .ret) ∧ (resultsOf GSA2 s Try.f3.results.toList).res = some [AB true]
theorem from7 (n : Nat) (X : Nat → Int) (hn : n ≤ 9) (r0 : List Int) (h0 : Reach X n 0 r0) :
    HT Try.prog Try.f3.ntmps (restC 7 rbC) ⟨[(5, .v (.one (.f (.fs false 1 n (intE X))))), (6, .v (.one (.mp 0))), (16, .v (.one (.mp 1)))], [(0, .map (mT (hsL X n))), (1, .map (mT r0))], 2, false, 0, []⟩ EndT := by
  rw [shape7]
  refine HT.seq (R1 := fun e s => e = .normal ∧ ∃ r, r.length = (hsL X n).length ∧ s = ⟨[(6, .v (.one (.mp 0))), (16, .v (.one (.mp 1)))], [(0, .map (mT (hsL X n))), (1, .map (mT r))], 2, false, 0, []⟩)
    (HT.seq (R1 := fun e s => e = .normal ∧ s = S_ps n X (hsL X n) 0 r0) (HT.round GOSA2 GKSA2 (e := .normal) (st' := S_ps n X (hsL X n) 0 r0) (T.over_eq _ (tree_Y n X (hsL X n) r0) rfl) ⟨rfl, rfl⟩) (fun s hs => ?_) (fun e s hne hs => absurd hs.1 hne)) (fun s hs => ?_) (fun e s hne hs => absurd hs.1 hne)
  · obtain rfl := hs.2
    exact HT.block (HT.weak (loop_all n X hn r0 h0) fun e s he => by obtain ⟨rfl, h⟩ := he; exact ⟨rfl, h⟩)
  · obtain ⟨_, r, hr, rfl⟩ := hs
    have e1 : (((mT r).length : Int) == ((mT (hsL X n)).length : Int)) = true := by rw [mT_len, mT_len, hr]; simp
    refine HT.round GOSA2 GKSA2 (e := .ret) (st' := ⟨[(4, .v (AB true))], [(0, .map (mT (hsL X n))), (1, .map (mT r))], 2, false, 0, []⟩) (T.over_eq _ (tree_Z (hsL X n) r) ?_) ⟨.inr rfl, by kernel_rfl⟩
    simp only [T.res_br, T.res_ret, T.res_bad, e1]
theorem all_both (nl : Bool) (n : Nat) (l : Nat → Int) (a : Int) (hnl : nl = true → n = 0) : HT Try.prog Try.f3.ntmps rbC ⟨argSlots 0 [.one (.f (.fs nl 1 n (intE l))), AI a], [], 0, false, 0, []⟩ EndT := by
  have a1 : (nl = true → n = 0) = True := eq_true hnl
  have hc : min n 9 ≤ 9 := Nat.min_le_right _ _
  by_cases h0 : min n 9 = 0
  · have b1 : (((min n 9 : Nat) : Int) == 0) = true := by rw [h0]; rfl
    refine HT.cutR GOSA1 GKSA1 (e := .ret) (st := ⟨[(4, .v (AB true))], [], 0, false, 0, [0]⟩) (T.over_eq _ (tree_L nl n l a) ?_) (fun h => by cases h) (fun _ => ⟨.inr rfl, by kernel_rfl⟩)
    simp only [T.res_br, T.res_ret, T.res_bad, a1, b1, IntE_ok, NoT_nil, eq_self, and_self, pb_tt, reduceIte]
  · generalize hcc : min n 9 = c at hc h0
    have hl := tree_L nl n l a
    rw [hcc] at hl
    have b1 : (((c : Nat) : Int) == 0) = false := by simp; omega
    have b2 : Nat.beq c 0 = false := beq_ff h0
    have b3 : Nat.ble c c = true := ble_tt (Nat.le_refl _)
    have b4 : c ≤ 1048576 := by omega
    have b5 : (0 : Int) < (c : Int) ∧ (c : Int) ≤ 9223372036854775807 := by omega
    have m1 := Int.emod_nonneg a (show ((c : Nat) : Int) ≠ 0 by omega)
    have m2 := Int.emod_lt_of_pos a (show (0 : Int) < ((c : Nat) : Int) by omega)
    have b6 : (0 : Int) ≤ a % (c : Int) ∧ a % (c : Int) < (c : Int) := ⟨m1, m2⟩
    refine HT.cutR GOSA1 GKSA1 (e := .normal) (st := ⟨[(5, .v (.one (.f (.fs false 1 c (intE (p20 l)))))), (6, .v (.one (.mp 0))), (16, .v (.one (.mp 1)))], [(0, .map (mT (hsL (p20 l) c))), (1, .map (mT [p20 l (Int.toNat (a % (c : Int)))]))], 2, false, 0, [0, 0, 1, 0]⟩) (T.over_eq _ hl ?_) (fun _ => ?_) (fun h => absurd rfl h)
    · simp only [T.res_br, T.res_ret, T.res_bad, a1, b1, b2, b3, b4, decide_eq_true b5, decide_eq_true b6, IntE_ok, NoT_nil, eq_self, and_self, pb_tt, Bool.not_false, Bool.true_or, Bool.and_self, Bool.false_eq_true, reduceIte]
      rfl
    · refine HT.pre (m := 0) (StLe.wrs (Nat.zero_le _)) (from7 c (p20 l) hc [p20 l (Int.toNat (a % (c : Int)))] ⟨List.nodup_cons.2 ⟨by simp, List.nodup_nil⟩, fun v hv => ?_, by simp, .inl (Nat.le_refl _)⟩)
      rw [List.mem_singleton] at hv
      exact ⟨Int.toNat (a % (c : Int)), by omega, hv.symm⟩
theorem both_walk (w : World) {v : Value} (a : Int) {nl : Bool} {n : Nat} {l : Nat → Int} (hx : RF (zAll w) (.fs nl 1 n (intE l)) v) (hnl : nl = true → n = 0) : Calls Try.prog 3 #[v, .int .i64 a] w fun e w' => e = .returned (.bool true) ∧ Go.RowKit.Below w.heap.size w w' :=
  law_ht (args := [.one (.f (.fs nl 1 n (intE l))), AI a]) GOSA2 (by kernel_rfl) (by kernel_rfl) (show 2 ≤ Try.f3.ntmps from of_decide_eq_true (by kernel_rfl)) (RAs.cons hx (RAs.cons (RF.lit _ rfl) RAs.nil)) (all_both nl n l a hnl)

end Go.Proofs.Ytggneleipimijaa.En
