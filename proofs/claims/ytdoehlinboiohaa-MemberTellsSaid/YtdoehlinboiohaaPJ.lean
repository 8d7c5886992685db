/- MemberTells. -/
import Derived.Test.YtdoehlinboiohaaPI
namespace Go.Proofs.Ytdoehlinboiohaa.En
open Go
set_option linter.unusedVariables false
set_option linter.unusedSimpArgs false
set_option maxRecDepth 20000
set_option maxHeartbeats 1000000
def S_mt (N : Nat) (R : Nat → Ent) (i : Nat) (a : Unit) : St :=
  ⟨[(64, .v (.one (.f (.fs (Nat.beq N 0) 5 N (entE R))))), (65, .v (AI N)), (66, .v (AI i)), (15, .v (.one (.f (.fs (Nat.beq N 0) 5 N (entE R))))), (16, .v (.one (.f (.fs (Nat.beq N 0) 5 N (entE R)))))], [], 0, false, 0, []⟩

noncomputable def GPJ1 : Ctx := GS.with ss_same ll_sm
noncomputable def tgt_mt (N : Nat) (R : Nat → Ent) (i : Nat) (a : Unit) : T (Ex × St) := evRound GPJ1 300 6 Try.f6.ntmps (loopOf Try.f6 10) 0 [64, 65, 66, 15, 16] [] (S_mt N R i a)
theorem GKPJ1 : KnownOk Try.prog GPJ1 := KnownOk.lists ss_same_ok ll_sm_ok
theorem GOPJ1 : CtxOk Try.prog GPJ1 := GS_ok.with _ _
theorem tree_mt (N : Nat) (R : Nat → Ent) (i : Nat) (a : Unit) : (tgt_mt N R i a).over (.br (.br (.br (.br (.br (.br .skip .leaf) .skip) .skip) .skip) .skip) .leaf) =
  T.br (decide ((↑i : Int) < (↑N : Int)))
    (T.br (!Nat.beq N (0 : Nat))
      (T.br (decide ((0 : Int) ≤ (↑i : Int) ∧ (↑i : Int) < (↑N : Int)))
        (T.br (!Nat.beq N (0 : Nat))
          (T.br (decide ((0 : Int) ≤ (↑i : Int) ∧ (↑i : Int) < (↑N : Int)))
            (T.br (!(Ent.inc (R i) == Ent.inc (R i) && (Ent.st (R i) == Ent.st (R i) && (Ent.stamp (R i) == Ent.stamp (R i) && (Ent.load (R i) == Ent.load (R i) && (Ent.dr (R i) == Ent.dr (R i) && true)))))) T.bad
              (T.ret
                (Ex.normal,
                  {
                    sl :=
                      [((64 : Nat),
                          SV.v
                            (AV.one
                              (CV.f
                                (FV.fs (Nat.beq N (0 : Nat)) (5 : Nat) N fun a =>
                                  [FV.lit (Value.int IntKind.i64 (Ent.inc (R a))), FV.lit (Value.int IntKind.i64 (Ent.st (R a))), FV.lit (Value.int IntKind.i64 (Ent.stamp (R a))), FV.lit (Value.int IntKind.i64 (Ent.load (R a))),
                                    FV.lit (Value.bool (Ent.dr (R a)))])))),
                        ((65 : Nat), SV.v (AI (↑N : Int))), ((66 : Nat), SV.v (AI (IntKind.wrap IntKind.i64 ((↑i : Int) + (1 : Int))))),
                        ((15 : Nat),
                          SV.v
                            (AV.one
                              (CV.f
                                (FV.fs (Nat.beq N (0 : Nat)) (5 : Nat) N fun a =>
                                  [FV.lit (Value.int IntKind.i64 (Ent.inc (R a))), FV.lit (Value.int IntKind.i64 (Ent.st (R a))), FV.lit (Value.int IntKind.i64 (Ent.stamp (R a))), FV.lit (Value.int IntKind.i64 (Ent.load (R a))),
                                    FV.lit (Value.bool (Ent.dr (R a)))])))),
                        ((16 : Nat),
                          SV.v
                            (AV.one
                              (CV.f
                                (FV.fs (Nat.beq N (0 : Nat)) (5 : Nat) N fun a =>
                                  [FV.lit (Value.int IntKind.i64 (Ent.inc (R a))), FV.lit (Value.int IntKind.i64 (Ent.st (R a))), FV.lit (Value.int IntKind.i64 (Ent.stamp (R a))), FV.lit (Value.int IntKind.i64 (Ent.load (R a))),
                                    FV.lit (Value.bool (Ent.dr (R a)))]))))],
                    H := [], nx := (0 : Nat), esc := false, base := (0 : Nat), wr := [] : St })))
            T.bad)
          T.bad)
        T.bad)
      T.bad)
    (T.ret (Ex.exit (0 : Nat), { sl := [], H := [], nx := (0 : Nat), esc := false, base := (0 : Nat), wr := [] : St })) := by kernel_rfl
theorem round_mt (N : Nat) (R : Nat → Ent) (hb : N ≤ 1000) (i : Nat) (a : Unit) (hi : i < N) (hI : (fun (i : Nat) (a : Unit) => (True : Prop)) i a) : ∃ s, (tgt_mt N R i a).res = some (.normal, s) ∧ StLe 0 s (S_mt N R (i + 1) ((fun (i : Nat) (a : Unit) => (())) i a)) ∧ (fun (i : Nat) (a : Unit) => (True : Prop)) (i + 1) ((fun (i : Nat) (a : Unit) => (())) i a) := by
  refine T.over_exP (g := fun s => (Ex.normal, s)) (tree_mt N R i a) ?_
  have e1 : ((i : Int) < (N : Int)) := by omega
  have e2 : (0 : Int) ≤ (i : Int) ∧ (i : Int) < (N : Int) := by omega
  have e3 : IntKind.wrap .i64 ((i : Int) + 1) = ((i + 1 : Nat) : Int) := by rw [wrapI (by omega)]; rfl
  have e4 : (!Nat.beq N 0) = true := by rw [beq_ff (by omega)]; rfl
  simp only [T.res_br, T.res_ret, T.res_bad, decide_eq_true_eq, e1, e2, e3, e4, beq_self_eq_true, Bool.and_self, Bool.not_true, Bool.false_eq_true, reduceIte, and_self]
  exact ⟨_, rfl, StLe.refl (Nat.zero_le _), trivial⟩
theorem end_mt (N : Nat) (R : Nat → Ent) (hb : N ≤ 1000) (a : Unit) (hI : (fun (i : Nat) (a : Unit) => (True : Prop)) (N) a) : ∃ s, (tgt_mt N R (N) a).res = some (.exit 0, s) ∧ StLe 0 s (⟨[], [], 0, false, 0, []⟩) := by
  refine T.over_exP (g := fun s => (.exit 0, s)) (tree_mt N R (N) a) ?_
  simp only [T.res_br, T.res_ret, T.res_bad, decide_eq_true_eq, Int.lt_irrefl, reduceIte]
  exact ⟨_, rfl, StLe.refl (Nat.zero_le _)⟩
theorem loop_mt (N : Nat) (R : Nat → Ent) (hb : N ≤ 1000) (i : Nat) (a : Unit) (hi : i ≤ N) (hI : (fun (i : Nat) (a : Unit) => (True : Prop)) i a) {st0 : St} (h0 : StLe 0 st0 (S_mt N R i a)) (hnx : st0.nx = 0) :
    CodeOk Try.prog Try.f6.ntmps (.loop (loopOf Try.f6 10)) st0 (.exit 0) ((fun (a : Unit) => ⟨[], [], 0, false, 0, []⟩) (foldF (fun (i : Nat) (a : Unit) => (())) (N - i) i a)) := by
  have := for_loop GOPJ1 GKPJ1 (K := 300) (F := 6) (N := Try.f6.ntmps) (c := loopOf Try.f6 10) (m := 0) (live := [64, 65, 66, 15, 16]) (after := []) (S_mt N R) (N) (fun (i : Nat) (a : Unit) => .inl (())) (fun (a : Unit) => (.exit 0, ⟨[], [], 0, false, 0, []⟩)) (fun (i : Nat) (a : Unit) => (True : Prop))
    (fun i a hi hI => by obtain ⟨s, h1, h2, h3⟩ := round_mt N R hb i a hi hI; exact ⟨_, s, h1, rfl, h2, h3⟩)
    (fun a hI => by obtain ⟨s, h1, h2⟩ := end_mt N R hb a hI; exact ⟨_, s, h1, by simp, rfl, h2⟩)
    (fun i a => by first | exact Nat.le_refl _ | (show 0 ≤ _; decide) | (simp only [S_mt]; omega)) hi hI h0 hnx
  rw [foldX_inl] at this
  exact this
noncomputable def L_mt : LoopF := mkLoopF [64, 65, 66, 15, 16] (loopOf Try.f6 10) Try.f6.ntmps fun sl H nx => match sl, H, nx with
  | [(64, .v (.one (.f (.fs nl 5 N e)))), (65, .v (.one (.f (.lit (.int .i64 k))))), (66, .v (.one (.f (.lit (.int .i64 i))))), (15, .v (.one (.f (.fs nl1 5 N1 e1)))), (16, .v (.one (.f (.fs nl2 5 N2 e2))))], [], 0 => .need (pb (EntE e ∧ nl = Nat.beq N 0 ∧ k = N ∧ i = 0 ∧ nl1 = nl ∧ N1 = N ∧ e1 = e ∧ nl2 = nl ∧ N2 = N ∧ e2 = e ∧ N ≤ 1000)) (.ret (.exit 0, (St.mk [] [] 0 false 0 []).sl, (St.mk [] [] 0 false 0 []).H, 0, false))
  | _, _, _ => .bad
theorem L_mt_ok : LoopOk Try.prog L_mt := by
  refine mkLoopF_ok fun sl H nx e sl' H' nx' esc' h => ?_
  split at h
  · rename_i nl N e k i nl1 N1 e1 nl2 N2 e2
    obtain ⟨hp, hret⟩ := T.need_some h
    have hp := pb_of hp
    have := T.ret_some hret
    simp only [Prod.mk.injEq] at this
    obtain ⟨rfl, rfl, rfl, rfl, rfl⟩ := this
    clear hret h
    obtain ⟨⟨x, rfl⟩, rfl, rfl, rfl, rfl, rfl, rfl, rfl, rfl, rfl, h1⟩ := hp
    exact loop_mt _ x h1 0 () (Nat.zero_le _) trivial (StLe.refl (Nat.zero_le _)) rfl
  · exact (T.bad_some h).elim
noncomputable def ll_mt : List (Nat × Nat × LoopF) := (6, 10, L_mt) :: ll_sm
theorem ll_mt_ok : ∀ x ∈ ll_mt, LoopOk Try.prog x.2.2 := List.forall_mem_cons.2 ⟨L_mt_ok, ll_sm_ok⟩
noncomputable def GPJ2 : Ctx := GS.withP ss_same ll_mt [(6, 5, [14])]
noncomputable def tgt_MTells (c1 : Bool) (m1 : Nat) (y1 : Nat → Ent) (c2 : Bool) (m2 : Nat) (y2 : Nat → Ent) (c3 : Bool) (m3 : Nat) (y3 : Nat → Ent) (a b : Ent) : T CallOut := evCallW [] GPJ2 300 6 [.one (.f (.fs c1 5 m1 (entE y1))), .one (.f (.fs c2 5 m2 (entE y2))), .one (.f (.fs c3 5 m3 (entE y3))), .agg a.cv, .agg b.cv] [] 0
theorem GKPJ2 : KnownOk Try.prog GPJ2 := KnownOk.listsP ss_same_ok ll_mt_ok
theorem GOPJ2 : CtxOk Try.prog GPJ2 := GS_ok.withP _ _ _
theorem tree_MTells (c1 : Bool) (m1 : Nat) (y1 : Nat → Ent) (c2 : Bool) (m2 : Nat) (y2 : Nat → Ent) (c3 : Bool) (m3 : Nat) (y3 : Nat → Ent) (a b : Ent) : (tgt_MTells c1 m1 y1 c2 m2 y2 c3 m3 y3 a b).over (.br (.br (.br (.br (.br (.br (.br (.br (.br (.br (.br (.tt (.tt (.tt (.tt (.tt (.tt (.tt (.tt (.tt (.tt (.tt (.tt (.tt (.tt (.tt (.tt (.tt .leaf))))))))))))))))) .skip) .skip) .skip) .skip) .skip) (.br .skip (.br (.br .skip (.br .skip (.br (.br .skip (.br .skip (.br (.br (.br (.br (.br (.br (.br (.br (.br (.br (.tt (.tt (.tt (.tt (.tt (.tt (.tt .leaf))))))) .skip) .skip) .skip) .skip) .skip) .skip) .skip) .skip) .skip) (.br .skip (.br .skip (.br .skip (.br .skip (.br .skip (.br .skip (.br .skip (.br .skip (.br .skip (.br (.br (.br (.br (.br (.br (.tt .leaf) .skip) .skip) .skip) .skip) .skip) (.br .skip (.br .skip (.br .skip (.br .skip (.br .skip (.br .leaf (.br (.br .leaf .skip) .skip)))))))))))))))))))) .skip))) .skip))) .skip) .skip) .skip) .skip) .skip) =
  T.br (pb (EntL c1 m1 (entE y1) ∧ (0 : Int) ≤ (6 : Int) ∧ (6 : Int) ≤ (1000 : Int)))
    (T.br (pb (EntL c2 m2 (entE y2) ∧ (0 : Int) ≤ (6 : Int) ∧ (6 : Int) ≤ (1000 : Int)))
      (T.br (pb (EntL c3 m3 (entE y3) ∧ (0 : Int) ≤ (6 : Int) ∧ (6 : Int) ≤ (1000 : Int)))
        (T.br
          (pb
            (LstL false (3 : Nat)
              (selL
                (chunks (1 : Nat) (3 : Nat)
                  [FV.fs (Nat.beq (min m1 (6 : Nat)) (0 : Nat)) (5 : Nat) (min m1 (6 : Nat)) (entE fun j => entR (entOf (entE y1) j)),
                    FV.fs (Nat.beq (min m2 (6 : Nat)) (0 : Nat)) (5 : Nat) (min m2 (6 : Nat)) (entE fun j => entR (entOf (entE y2) j)),
                    FV.fs (Nat.beq (min m3 (6 : Nat)) (0 : Nat)) (5 : Nat) (min m3 (6 : Nat)) (entE fun j => entR (entOf (entE y3) j))]))))
          (T.br
            (pb
              (LstL false (3 : Nat)
                (selL
                  (chunks (1 : Nat) (3 : Nat)
                    [FV.fs (Nat.beq (min m1 (6 : Nat)) (0 : Nat)) (5 : Nat) (min m1 (6 : Nat)) (entE fun j => entR (entOf (entE y1) j)),
                      FV.fs (Nat.beq (min m2 (6 : Nat)) (0 : Nat)) (5 : Nat) (min m2 (6 : Nat)) (entE fun j => entR (entOf (entE y2) j)),
                      FV.fs (Nat.beq (min m3 (6 : Nat)) (0 : Nat)) (5 : Nat) (min m3 (6 : Nat)) (entE fun j => entR (entOf (entE y3) j))]))))
            (T.br (!lessB a b == lessB a b)
              (T.br (!lessB a b == lessB a b) (T.br (!lessB a b == lessB a b) (T.br (!lessB a b == lessB a b) (T.br (!lessB a b == lessB a b) (T.br (!lessB a b == lessB a b) (T.ret (out0 (SV.v (AB false)))) T.bad) T.bad) T.bad) T.bad) T.bad)
              (T.br (!lessB a b == lessB a b) T.bad
                (T.br (pb (EntL (Nat.beq (min m1 (6 : Nat)) (0 : Nat)) (min m1 (6 : Nat)) (entE fun j => entR (entOf (entE y1) j))))
                  (T.br (!lessB a b == lessB a b) T.bad
                    (T.br (!lessB a b == lessB a b) T.bad
                      (T.br (pb (EntL (Nat.beq (min m1 (6 : Nat)) (0 : Nat)) (min m1 (6 : Nat)) (entE fun j => entR (entOf (entE y1) j))))
                        (T.br (!lessB a b == lessB a b) T.bad
                          (T.br (!lessB a b == lessB a b) T.bad
                            (T.br
                              (!(Ent.inc (maxE (fun j => entR (entOf (entE y1) j)) (min m1 (6 : Nat))) == Ent.inc (maxE (fun j => entR (entOf (entE y1) j)) (min m1 (6 : Nat))) &&
                                  (Ent.st (maxE (fun j => entR (entOf (entE y1) j)) (min m1 (6 : Nat))) == Ent.st (maxE (fun j => entR (entOf (entE y1) j)) (min m1 (6 : Nat))) &&
                                    (Ent.stamp (maxE (fun j => entR (entOf (entE y1) j)) (min m1 (6 : Nat))) == Ent.stamp (maxE (fun j => entR (entOf (entE y1) j)) (min m1 (6 : Nat))) &&
                                      (Ent.load (maxE (fun j => entR (entOf (entE y1) j)) (min m1 (6 : Nat))) == Ent.load (maxE (fun j => entR (entOf (entE y1) j)) (min m1 (6 : Nat))) &&
                                        (Ent.dr (maxE (fun j => entR (entOf (entE y1) j)) (min m1 (6 : Nat))) == Ent.dr (maxE (fun j => entR (entOf (entE y1) j)) (min m1 (6 : Nat))) && true))))))
                              (T.br
                                (!(Ent.inc (maxE (fun j => entR (entOf (entE y1) j)) (min m1 (6 : Nat))) == Ent.inc (maxE (fun j => entR (entOf (entE y1) j)) (min m1 (6 : Nat))) &&
                                    (Ent.st (maxE (fun j => entR (entOf (entE y1) j)) (min m1 (6 : Nat))) == Ent.st (maxE (fun j => entR (entOf (entE y1) j)) (min m1 (6 : Nat))) &&
                                      (Ent.stamp (maxE (fun j => entR (entOf (entE y1) j)) (min m1 (6 : Nat))) == Ent.stamp (maxE (fun j => entR (entOf (entE y1) j)) (min m1 (6 : Nat))) &&
                                        (Ent.load (maxE (fun j => entR (entOf (entE y1) j)) (min m1 (6 : Nat))) == Ent.load (maxE (fun j => entR (entOf (entE y1) j)) (min m1 (6 : Nat))) &&
                                          (Ent.dr (maxE (fun j => entR (entOf (entE y1) j)) (min m1 (6 : Nat))) == Ent.dr (maxE (fun j => entR (entOf (entE y1) j)) (min m1 (6 : Nat))) && true))))))
                                (T.br
                                  (!(Ent.inc (maxE (fun j => entR (entOf (entE y1) j)) (min m1 (6 : Nat))) == Ent.inc (maxE (fun j => entR (entOf (entE y1) j)) (min m1 (6 : Nat))) &&
                                      (Ent.st (maxE (fun j => entR (entOf (entE y1) j)) (min m1 (6 : Nat))) == Ent.st (maxE (fun j => entR (entOf (entE y1) j)) (min m1 (6 : Nat))) &&
                                        (Ent.stamp (maxE (fun j => entR (entOf (entE y1) j)) (min m1 (6 : Nat))) == Ent.stamp (maxE (fun j => entR (entOf (entE y1) j)) (min m1 (6 : Nat))) &&
                                          (Ent.load (maxE (fun j => entR (entOf (entE y1) j)) (min m1 (6 : Nat))) == Ent.load (maxE (fun j => entR (entOf (entE y1) j)) (min m1 (6 : Nat))) &&
                                            (Ent.dr (maxE (fun j => entR (entOf (entE y1) j)) (min m1 (6 : Nat))) == Ent.dr (maxE (fun j => entR (entOf (entE y1) j)) (min m1 (6 : Nat))) && true))))))
                                  (T.br
                                    (!(Ent.inc (maxE (fun j => entR (entOf (entE y1) j)) (min m1 (6 : Nat))) == Ent.inc (maxE (fun j => entR (entOf (entE y1) j)) (min m1 (6 : Nat))) &&
                                        (Ent.st (maxE (fun j => entR (entOf (entE y1) j)) (min m1 (6 : Nat))) == Ent.st (maxE (fun j => entR (entOf (entE y1) j)) (min m1 (6 : Nat))) &&
                                          (Ent.stamp (maxE (fun j => entR (entOf (entE y1) j)) (min m1 (6 : Nat))) == Ent.stamp (maxE (fun j => entR (entOf (entE y1) j)) (min m1 (6 : Nat))) &&
                                            (Ent.load (maxE (fun j => entR (entOf (entE y1) j)) (min m1 (6 : Nat))) == Ent.load (maxE (fun j => entR (entOf (entE y1) j)) (min m1 (6 : Nat))) &&
                                              (Ent.dr (maxE (fun j => entR (entOf (entE y1) j)) (min m1 (6 : Nat))) == Ent.dr (maxE (fun j => entR (entOf (entE y1) j)) (min m1 (6 : Nat))) && true))))))
                                    (T.br
                                      (!(Ent.inc (maxE (fun j => entR (entOf (entE y1) j)) (min m1 (6 : Nat))) == Ent.inc (maxE (fun j => entR (entOf (entE y1) j)) (min m1 (6 : Nat))) &&
                                          (Ent.st (maxE (fun j => entR (entOf (entE y1) j)) (min m1 (6 : Nat))) == Ent.st (maxE (fun j => entR (entOf (entE y1) j)) (min m1 (6 : Nat))) &&
                                            (Ent.stamp (maxE (fun j => entR (entOf (entE y1) j)) (min m1 (6 : Nat))) == Ent.stamp (maxE (fun j => entR (entOf (entE y1) j)) (min m1 (6 : Nat))) &&
                                              (Ent.load (maxE (fun j => entR (entOf (entE y1) j)) (min m1 (6 : Nat))) == Ent.load (maxE (fun j => entR (entOf (entE y1) j)) (min m1 (6 : Nat))) &&
                                                (Ent.dr (maxE (fun j => entR (entOf (entE y1) j)) (min m1 (6 : Nat))) == Ent.dr (maxE (fun j => entR (entOf (entE y1) j)) (min m1 (6 : Nat))) && true))))))
                                      (T.br
                                        (!(Ent.inc (maxE (fun j => entR (entOf (entE y1) j)) (min m1 (6 : Nat))) == Ent.inc (maxE (fun j => entR (entOf (entE y1) j)) (min m1 (6 : Nat))) &&
                                            (Ent.st (maxE (fun j => entR (entOf (entE y1) j)) (min m1 (6 : Nat))) == Ent.st (maxE (fun j => entR (entOf (entE y1) j)) (min m1 (6 : Nat))) &&
                                              (Ent.stamp (maxE (fun j => entR (entOf (entE y1) j)) (min m1 (6 : Nat))) == Ent.stamp (maxE (fun j => entR (entOf (entE y1) j)) (min m1 (6 : Nat))) &&
                                                (Ent.load (maxE (fun j => entR (entOf (entE y1) j)) (min m1 (6 : Nat))) == Ent.load (maxE (fun j => entR (entOf (entE y1) j)) (min m1 (6 : Nat))) &&
                                                  (Ent.dr (maxE (fun j => entR (entOf (entE y1) j)) (min m1 (6 : Nat))) == Ent.dr (maxE (fun j => entR (entOf (entE y1) j)) (min m1 (6 : Nat))) && true))))))
                                        (T.br
                                          (!(Ent.inc (maxE (fun j => entR (entOf (entE y1) j)) (min m1 (6 : Nat))) == Ent.inc (maxE (fun j => entR (entOf (entE y1) j)) (min m1 (6 : Nat))) &&
                                              (Ent.st (maxE (fun j => entR (entOf (entE y1) j)) (min m1 (6 : Nat))) == Ent.st (maxE (fun j => entR (entOf (entE y1) j)) (min m1 (6 : Nat))) &&
                                                (Ent.stamp (maxE (fun j => entR (entOf (entE y1) j)) (min m1 (6 : Nat))) == Ent.stamp (maxE (fun j => entR (entOf (entE y1) j)) (min m1 (6 : Nat))) &&
                                                  (Ent.load (maxE (fun j => entR (entOf (entE y1) j)) (min m1 (6 : Nat))) == Ent.load (maxE (fun j => entR (entOf (entE y1) j)) (min m1 (6 : Nat))) &&
                                                    (Ent.dr (maxE (fun j => entR (entOf (entE y1) j)) (min m1 (6 : Nat))) == Ent.dr (maxE (fun j => entR (entOf (entE y1) j)) (min m1 (6 : Nat))) && true))))))
                                          (T.br
                                            (!(Ent.inc (maxE (fun j => entR (entOf (entE y1) j)) (min m1 (6 : Nat))) == Ent.inc (maxE (fun j => entR (entOf (entE y1) j)) (min m1 (6 : Nat))) &&
                                                (Ent.st (maxE (fun j => entR (entOf (entE y1) j)) (min m1 (6 : Nat))) == Ent.st (maxE (fun j => entR (entOf (entE y1) j)) (min m1 (6 : Nat))) &&
                                                  (Ent.stamp (maxE (fun j => entR (entOf (entE y1) j)) (min m1 (6 : Nat))) == Ent.stamp (maxE (fun j => entR (entOf (entE y1) j)) (min m1 (6 : Nat))) &&
                                                    (Ent.load (maxE (fun j => entR (entOf (entE y1) j)) (min m1 (6 : Nat))) == Ent.load (maxE (fun j => entR (entOf (entE y1) j)) (min m1 (6 : Nat))) &&
                                                      (Ent.dr (maxE (fun j => entR (entOf (entE y1) j)) (min m1 (6 : Nat))) == Ent.dr (maxE (fun j => entR (entOf (entE y1) j)) (min m1 (6 : Nat))) && true))))))
                                            (T.br
                                              (!(Ent.inc (maxE (fun j => entR (entOf (entE y1) j)) (min m1 (6 : Nat))) == Ent.inc (maxE (fun j => entR (entOf (entE y1) j)) (min m1 (6 : Nat))) &&
                                                  (Ent.st (maxE (fun j => entR (entOf (entE y1) j)) (min m1 (6 : Nat))) == Ent.st (maxE (fun j => entR (entOf (entE y1) j)) (min m1 (6 : Nat))) &&
                                                    (Ent.stamp (maxE (fun j => entR (entOf (entE y1) j)) (min m1 (6 : Nat))) == Ent.stamp (maxE (fun j => entR (entOf (entE y1) j)) (min m1 (6 : Nat))) &&
                                                      (Ent.load (maxE (fun j => entR (entOf (entE y1) j)) (min m1 (6 : Nat))) == Ent.load (maxE (fun j => entR (entOf (entE y1) j)) (min m1 (6 : Nat))) &&
                                                        (Ent.dr (maxE (fun j => entR (entOf (entE y1) j)) (min m1 (6 : Nat))) == Ent.dr (maxE (fun j => entR (entOf (entE y1) j)) (min m1 (6 : Nat))) && true))))))
                                              (T.br
                                                (!(Ent.inc (maxE (fun j => entR (entOf (entE y1) j)) (min m1 (6 : Nat))) == Ent.inc (maxE (fun j => entR (entOf (entE y1) j)) (min m1 (6 : Nat))) &&
                                                    (Ent.st (maxE (fun j => entR (entOf (entE y1) j)) (min m1 (6 : Nat))) == Ent.st (maxE (fun j => entR (entOf (entE y1) j)) (min m1 (6 : Nat))) &&
                                                      (Ent.stamp (maxE (fun j => entR (entOf (entE y1) j)) (min m1 (6 : Nat))) == Ent.stamp (maxE (fun j => entR (entOf (entE y1) j)) (min m1 (6 : Nat))) &&
                                                        (Ent.load (maxE (fun j => entR (entOf (entE y1) j)) (min m1 (6 : Nat))) == Ent.load (maxE (fun j => entR (entOf (entE y1) j)) (min m1 (6 : Nat))) &&
                                                          (Ent.dr (maxE (fun j => entR (entOf (entE y1) j)) (min m1 (6 : Nat))) == Ent.dr (maxE (fun j => entR (entOf (entE y1) j)) (min m1 (6 : Nat))) && true))))))
                                                (T.ret (out0 (SV.v (AB false)))) T.bad)
                                              T.bad)
                                            T.bad)
                                          T.bad)
                                        T.bad)
                                      T.bad)
                                    T.bad)
                                  T.bad)
                                T.bad)
                              (T.br
                                (!(Ent.inc (maxE (fun j => entR (entOf (entE y1) j)) (min m1 (6 : Nat))) == Ent.inc (maxE (fun j => entR (entOf (entE y1) j)) (min m1 (6 : Nat))) &&
                                    (Ent.st (maxE (fun j => entR (entOf (entE y1) j)) (min m1 (6 : Nat))) == Ent.st (maxE (fun j => entR (entOf (entE y1) j)) (min m1 (6 : Nat))) &&
                                      (Ent.stamp (maxE (fun j => entR (entOf (entE y1) j)) (min m1 (6 : Nat))) == Ent.stamp (maxE (fun j => entR (entOf (entE y1) j)) (min m1 (6 : Nat))) &&
                                        (Ent.load (maxE (fun j => entR (entOf (entE y1) j)) (min m1 (6 : Nat))) == Ent.load (maxE (fun j => entR (entOf (entE y1) j)) (min m1 (6 : Nat))) &&
                                          (Ent.dr (maxE (fun j => entR (entOf (entE y1) j)) (min m1 (6 : Nat))) == Ent.dr (maxE (fun j => entR (entOf (entE y1) j)) (min m1 (6 : Nat))) && true))))))
                                T.bad
                                (T.br
                                  (!(Ent.inc (maxE (fun j => entR (entOf (entE y1) j)) (min m1 (6 : Nat))) == Ent.inc (maxE (fun j => entR (entOf (entE y1) j)) (min m1 (6 : Nat))) &&
                                      (Ent.st (maxE (fun j => entR (entOf (entE y1) j)) (min m1 (6 : Nat))) == Ent.st (maxE (fun j => entR (entOf (entE y1) j)) (min m1 (6 : Nat))) &&
                                        (Ent.stamp (maxE (fun j => entR (entOf (entE y1) j)) (min m1 (6 : Nat))) == Ent.stamp (maxE (fun j => entR (entOf (entE y1) j)) (min m1 (6 : Nat))) &&
                                          (Ent.load (maxE (fun j => entR (entOf (entE y1) j)) (min m1 (6 : Nat))) == Ent.load (maxE (fun j => entR (entOf (entE y1) j)) (min m1 (6 : Nat))) &&
                                            (Ent.dr (maxE (fun j => entR (entOf (entE y1) j)) (min m1 (6 : Nat))) == Ent.dr (maxE (fun j => entR (entOf (entE y1) j)) (min m1 (6 : Nat))) && true))))))
                                  T.bad
                                  (T.br
                                    (!(Ent.inc (maxE (fun j => entR (entOf (entE y1) j)) (min m1 (6 : Nat))) == Ent.inc (maxE (fun j => entR (entOf (entE y1) j)) (min m1 (6 : Nat))) &&
                                        (Ent.st (maxE (fun j => entR (entOf (entE y1) j)) (min m1 (6 : Nat))) == Ent.st (maxE (fun j => entR (entOf (entE y1) j)) (min m1 (6 : Nat))) &&
                                          (Ent.stamp (maxE (fun j => entR (entOf (entE y1) j)) (min m1 (6 : Nat))) == Ent.stamp (maxE (fun j => entR (entOf (entE y1) j)) (min m1 (6 : Nat))) &&
                                            (Ent.load (maxE (fun j => entR (entOf (entE y1) j)) (min m1 (6 : Nat))) == Ent.load (maxE (fun j => entR (entOf (entE y1) j)) (min m1 (6 : Nat))) &&
                                              (Ent.dr (maxE (fun j => entR (entOf (entE y1) j)) (min m1 (6 : Nat))) == Ent.dr (maxE (fun j => entR (entOf (entE y1) j)) (min m1 (6 : Nat))) && true))))))
                                    T.bad
                                    (T.br
                                      (!(Ent.inc (maxE (fun j => entR (entOf (entE y1) j)) (min m1 (6 : Nat))) == Ent.inc (maxE (fun j => entR (entOf (entE y1) j)) (min m1 (6 : Nat))) &&
                                          (Ent.st (maxE (fun j => entR (entOf (entE y1) j)) (min m1 (6 : Nat))) == Ent.st (maxE (fun j => entR (entOf (entE y1) j)) (min m1 (6 : Nat))) &&
                                            (Ent.stamp (maxE (fun j => entR (entOf (entE y1) j)) (min m1 (6 : Nat))) == Ent.stamp (maxE (fun j => entR (entOf (entE y1) j)) (min m1 (6 : Nat))) &&
                                              (Ent.load (maxE (fun j => entR (entOf (entE y1) j)) (min m1 (6 : Nat))) == Ent.load (maxE (fun j => entR (entOf (entE y1) j)) (min m1 (6 : Nat))) &&
                                                (Ent.dr (maxE (fun j => entR (entOf (entE y1) j)) (min m1 (6 : Nat))) == Ent.dr (maxE (fun j => entR (entOf (entE y1) j)) (min m1 (6 : Nat))) && true))))))
                                      T.bad
                                      (T.br
                                        (!(Ent.inc (maxE (fun j => entR (entOf (entE y1) j)) (min m1 (6 : Nat))) == Ent.inc (maxE (fun j => entR (entOf (entE y1) j)) (min m1 (6 : Nat))) &&
                                            (Ent.st (maxE (fun j => entR (entOf (entE y1) j)) (min m1 (6 : Nat))) == Ent.st (maxE (fun j => entR (entOf (entE y1) j)) (min m1 (6 : Nat))) &&
                                              (Ent.stamp (maxE (fun j => entR (entOf (entE y1) j)) (min m1 (6 : Nat))) == Ent.stamp (maxE (fun j => entR (entOf (entE y1) j)) (min m1 (6 : Nat))) &&
                                                (Ent.load (maxE (fun j => entR (entOf (entE y1) j)) (min m1 (6 : Nat))) == Ent.load (maxE (fun j => entR (entOf (entE y1) j)) (min m1 (6 : Nat))) &&
                                                  (Ent.dr (maxE (fun j => entR (entOf (entE y1) j)) (min m1 (6 : Nat))) == Ent.dr (maxE (fun j => entR (entOf (entE y1) j)) (min m1 (6 : Nat))) && true))))))
                                        T.bad
                                        (T.br
                                          (!(Ent.inc (maxE (fun j => entR (entOf (entE y1) j)) (min m1 (6 : Nat))) == Ent.inc (maxE (fun j => entR (entOf (entE y1) j)) (min m1 (6 : Nat))) &&
                                              (Ent.st (maxE (fun j => entR (entOf (entE y1) j)) (min m1 (6 : Nat))) == Ent.st (maxE (fun j => entR (entOf (entE y1) j)) (min m1 (6 : Nat))) &&
                                                (Ent.stamp (maxE (fun j => entR (entOf (entE y1) j)) (min m1 (6 : Nat))) == Ent.stamp (maxE (fun j => entR (entOf (entE y1) j)) (min m1 (6 : Nat))) &&
                                                  (Ent.load (maxE (fun j => entR (entOf (entE y1) j)) (min m1 (6 : Nat))) == Ent.load (maxE (fun j => entR (entOf (entE y1) j)) (min m1 (6 : Nat))) &&
                                                    (Ent.dr (maxE (fun j => entR (entOf (entE y1) j)) (min m1 (6 : Nat))) == Ent.dr (maxE (fun j => entR (entOf (entE y1) j)) (min m1 (6 : Nat))) && true))))))
                                          T.bad
                                          (T.br
                                            (!(Ent.inc (maxE (fun j => entR (entOf (entE y1) j)) (min m1 (6 : Nat))) == Ent.inc (maxE (fun j => entR (entOf (entE y1) j)) (min m1 (6 : Nat))) &&
                                                (Ent.st (maxE (fun j => entR (entOf (entE y1) j)) (min m1 (6 : Nat))) == Ent.st (maxE (fun j => entR (entOf (entE y1) j)) (min m1 (6 : Nat))) &&
                                                  (Ent.stamp (maxE (fun j => entR (entOf (entE y1) j)) (min m1 (6 : Nat))) == Ent.stamp (maxE (fun j => entR (entOf (entE y1) j)) (min m1 (6 : Nat))) &&
                                                    (Ent.load (maxE (fun j => entR (entOf (entE y1) j)) (min m1 (6 : Nat))) == Ent.load (maxE (fun j => entR (entOf (entE y1) j)) (min m1 (6 : Nat))) &&
                                                      (Ent.dr (maxE (fun j => entR (entOf (entE y1) j)) (min m1 (6 : Nat))) == Ent.dr (maxE (fun j => entR (entOf (entE y1) j)) (min m1 (6 : Nat))) && true))))))
                                            T.bad
                                            (T.br
                                              (!(Ent.inc (maxE (fun j => entR (entOf (entE y1) j)) (min m1 (6 : Nat))) == Ent.inc (maxE (fun j => entR (entOf (entE y1) j)) (min m1 (6 : Nat))) &&
                                                  (Ent.st (maxE (fun j => entR (entOf (entE y1) j)) (min m1 (6 : Nat))) == Ent.st (maxE (fun j => entR (entOf (entE y1) j)) (min m1 (6 : Nat))) &&
                                                    (Ent.stamp (maxE (fun j => entR (entOf (entE y1) j)) (min m1 (6 : Nat))) == Ent.stamp (maxE (fun j => entR (entOf (entE y1) j)) (min m1 (6 : Nat))) &&
                                                      (Ent.load (maxE (fun j => entR (entOf (entE y1) j)) (min m1 (6 : Nat))) == Ent.load (maxE (fun j => entR (entOf (entE y1) j)) (min m1 (6 : Nat))) &&
                                                        (Ent.dr (maxE (fun j => entR (entOf (entE y1) j)) (min m1 (6 : Nat))) == Ent.dr (maxE (fun j => entR (entOf (entE y1) j)) (min m1 (6 : Nat))) && true))))))
                                              T.bad
                                              (T.br
                                                (!(Ent.inc (maxE (fun j => entR (entOf (entE y1) j)) (min m1 (6 : Nat))) == Ent.inc (maxE (fun j => entR (entOf (entE y1) j)) (min m1 (6 : Nat))) &&
                                                    (Ent.st (maxE (fun j => entR (entOf (entE y1) j)) (min m1 (6 : Nat))) == Ent.st (maxE (fun j => entR (entOf (entE y1) j)) (min m1 (6 : Nat))) &&
                                                      (Ent.stamp (maxE (fun j => entR (entOf (entE y1) j)) (min m1 (6 : Nat))) == Ent.stamp (maxE (fun j => entR (entOf (entE y1) j)) (min m1 (6 : Nat))) &&
                                                        (Ent.load (maxE (fun j => entR (entOf (entE y1) j)) (min m1 (6 : Nat))) == Ent.load (maxE (fun j => entR (entOf (entE y1) j)) (min m1 (6 : Nat))) &&
                                                          (Ent.dr (maxE (fun j => entR (entOf (entE y1) j)) (min m1 (6 : Nat))) == Ent.dr (maxE (fun j => entR (entOf (entE y1) j)) (min m1 (6 : Nat))) && true))))))
                                                T.bad
                                                (T.br
                                                  (!(Ent.inc (mxE a b) == Ent.inc (mxE a b) &&
                                                      (Ent.st (mxE a b) == Ent.st (mxE a b) && (Ent.stamp (mxE a b) == Ent.stamp (mxE a b) && (Ent.load (mxE a b) == Ent.load (mxE a b) && (Ent.dr (mxE a b) == Ent.dr (mxE a b) && true))))))
                                                  (T.br
                                                    (!(Ent.inc (mxE a b) == Ent.inc (mxE a b) &&
                                                        (Ent.st (mxE a b) == Ent.st (mxE a b) && (Ent.stamp (mxE a b) == Ent.stamp (mxE a b) && (Ent.load (mxE a b) == Ent.load (mxE a b) && (Ent.dr (mxE a b) == Ent.dr (mxE a b) && true))))))
                                                    (T.br
                                                      (!(Ent.inc (mxE a b) == Ent.inc (mxE a b) &&
                                                          (Ent.st (mxE a b) == Ent.st (mxE a b) && (Ent.stamp (mxE a b) == Ent.stamp (mxE a b) && (Ent.load (mxE a b) == Ent.load (mxE a b) && (Ent.dr (mxE a b) == Ent.dr (mxE a b) && true))))))
                                                      (T.br
                                                        (!(Ent.inc (mxE a b) == Ent.inc (mxE a b) &&
                                                            (Ent.st (mxE a b) == Ent.st (mxE a b) &&
                                                              (Ent.stamp (mxE a b) == Ent.stamp (mxE a b) && (Ent.load (mxE a b) == Ent.load (mxE a b) && (Ent.dr (mxE a b) == Ent.dr (mxE a b) && true))))))
                                                        (T.br
                                                          (!(Ent.inc (mxE a b) == Ent.inc (mxE a b) &&
                                                              (Ent.st (mxE a b) == Ent.st (mxE a b) &&
                                                                (Ent.stamp (mxE a b) == Ent.stamp (mxE a b) && (Ent.load (mxE a b) == Ent.load (mxE a b) && (Ent.dr (mxE a b) == Ent.dr (mxE a b) && true))))))
                                                          (T.br
                                                            (!(Ent.inc (mxE a b) == Ent.inc (mxE a b) &&
                                                                (Ent.st (mxE a b) == Ent.st (mxE a b) &&
                                                                  (Ent.stamp (mxE a b) == Ent.stamp (mxE a b) && (Ent.load (mxE a b) == Ent.load (mxE a b) && (Ent.dr (mxE a b) == Ent.dr (mxE a b) && true))))))
                                                            (T.ret (out0 (SV.v (AB false)))) T.bad)
                                                          T.bad)
                                                        T.bad)
                                                      T.bad)
                                                    T.bad)
                                                  (T.br
                                                    (!(Ent.inc (mxE a b) == Ent.inc (mxE a b) &&
                                                        (Ent.st (mxE a b) == Ent.st (mxE a b) && (Ent.stamp (mxE a b) == Ent.stamp (mxE a b) && (Ent.load (mxE a b) == Ent.load (mxE a b) && (Ent.dr (mxE a b) == Ent.dr (mxE a b) && true))))))
                                                    T.bad
                                                    (T.br
                                                      (!(Ent.inc (mxE a b) == Ent.inc (mxE a b) &&
                                                          (Ent.st (mxE a b) == Ent.st (mxE a b) && (Ent.stamp (mxE a b) == Ent.stamp (mxE a b) && (Ent.load (mxE a b) == Ent.load (mxE a b) && (Ent.dr (mxE a b) == Ent.dr (mxE a b) && true))))))
                                                      T.bad
                                                      (T.br
                                                        (!(Ent.inc (mxE a b) == Ent.inc (mxE a b) &&
                                                            (Ent.st (mxE a b) == Ent.st (mxE a b) &&
                                                              (Ent.stamp (mxE a b) == Ent.stamp (mxE a b) && (Ent.load (mxE a b) == Ent.load (mxE a b) && (Ent.dr (mxE a b) == Ent.dr (mxE a b) && true))))))
                                                        T.bad
                                                        (T.br
                                                          (!(Ent.inc (mxE a b) == Ent.inc (mxE a b) &&
                                                              (Ent.st (mxE a b) == Ent.st (mxE a b) &&
                                                                (Ent.stamp (mxE a b) == Ent.stamp (mxE a b) && (Ent.load (mxE a b) == Ent.load (mxE a b) && (Ent.dr (mxE a b) == Ent.dr (mxE a b) && true))))))
                                                          T.bad
                                                          (T.br
                                                            (!(Ent.inc (mxE a b) == Ent.inc (mxE a b) &&
                                                                (Ent.st (mxE a b) == Ent.st (mxE a b) &&
                                                                  (Ent.stamp (mxE a b) == Ent.stamp (mxE a b) && (Ent.load (mxE a b) == Ent.load (mxE a b) && (Ent.dr (mxE a b) == Ent.dr (mxE a b) && true))))))
                                                            T.bad
                                                            (T.br
                                                              ((↑(Prod.fst
                                                                      (mergeQ
                                                                        (lstOf
                                                                          (selL
                                                                            (chunks (1 : Nat) (3 : Nat)
                                                                              [FV.fs (Nat.beq (min m1 (6 : Nat)) (0 : Nat)) (5 : Nat) (min m1 (6 : Nat)) (entE fun j => entR (entOf (entE y1) j)),
                                                                                FV.fs (Nat.beq (min m2 (6 : Nat)) (0 : Nat)) (5 : Nat) (min m2 (6 : Nat)) (entE fun j => entR (entOf (entE y2) j)),
                                                                                FV.fs (Nat.beq (min m3 (6 : Nat)) (0 : Nat)) (5 : Nat) (min m3 (6 : Nat)) (entE fun j => entR (entOf (entE y3) j))])))
                                                                        (3 : Nat))) :
                                                                  Int) !=
                                                                (↑(Prod.fst
                                                                      (mergeQ
                                                                        (lstOf
                                                                          (selL
                                                                            (chunks (1 : Nat) (3 : Nat)
                                                                              [FV.fs (Nat.beq (min m1 (6 : Nat)) (0 : Nat)) (5 : Nat) (min m1 (6 : Nat)) (entE fun j => entR (entOf (entE y1) j)),
                                                                                FV.fs (Nat.beq (min m2 (6 : Nat)) (0 : Nat)) (5 : Nat) (min m2 (6 : Nat)) (entE fun j => entR (entOf (entE y2) j)),
                                                                                FV.fs (Nat.beq (min m3 (6 : Nat)) (0 : Nat)) (5 : Nat) (min m3 (6 : Nat)) (entE fun j => entR (entOf (entE y3) j))])))
                                                                        (3 : Nat))) :
                                                                  Int))
                                                              (T.ret (out0 (SV.v (AB false))))
                                                              (T.br (pb (loopOf Proofs.Try.f6 (10 : Nat) = loopOf Proofs.Try.f6 (10 : Nat) ∧ (80 : Nat) = (80 : Nat)))
                                                                (T.br
                                                                  (pb
                                                                    (EntE
                                                                        (entE
                                                                          (Prod.snd
                                                                            (mergeQ
                                                                              (lstOf
                                                                                (selL
                                                                                  (chunks (1 : Nat) (3 : Nat)
                                                                                    [FV.fs (Nat.beq (min m1 (6 : Nat)) (0 : Nat)) (5 : Nat) (min m1 (6 : Nat)) (entE fun j => entR (entOf (entE y1) j)),
                                                                                      FV.fs (Nat.beq (min m2 (6 : Nat)) (0 : Nat)) (5 : Nat) (min m2 (6 : Nat)) (entE fun j => entR (entOf (entE y2) j)),
                                                                                      FV.fs (Nat.beq (min m3 (6 : Nat)) (0 : Nat)) (5 : Nat) (min m3 (6 : Nat)) (entE fun j => entR (entOf (entE y3) j))])))
                                                                              (3 : Nat)))) ∧
                                                                      Nat.beq
                                                                            (Prod.fst
                                                                              (mergeQ
                                                                                (lstOf
                                                                                  (selL
                                                                                    (chunks (1 : Nat) (3 : Nat)
                                                                                      [FV.fs (Nat.beq (min m1 (6 : Nat)) (0 : Nat)) (5 : Nat) (min m1 (6 : Nat)) (entE fun j => entR (entOf (entE y1) j)),
                                                                                        FV.fs (Nat.beq (min m2 (6 : Nat)) (0 : Nat)) (5 : Nat) (min m2 (6 : Nat)) (entE fun j => entR (entOf (entE y2) j)),
                                                                                        FV.fs (Nat.beq (min m3 (6 : Nat)) (0 : Nat)) (5 : Nat) (min m3 (6 : Nat)) (entE fun j => entR (entOf (entE y3) j))])))
                                                                                (3 : Nat)))
                                                                            (0 : Nat) =
                                                                          Nat.beq
                                                                            (Prod.fst
                                                                              (mergeQ
                                                                                (lstOf
                                                                                  (selL
                                                                                    (chunks (1 : Nat) (3 : Nat)
                                                                                      [FV.fs (Nat.beq (min m1 (6 : Nat)) (0 : Nat)) (5 : Nat) (min m1 (6 : Nat)) (entE fun j => entR (entOf (entE y1) j)),
                                                                                        FV.fs (Nat.beq (min m2 (6 : Nat)) (0 : Nat)) (5 : Nat) (min m2 (6 : Nat)) (entE fun j => entR (entOf (entE y2) j)),
                                                                                        FV.fs (Nat.beq (min m3 (6 : Nat)) (0 : Nat)) (5 : Nat) (min m3 (6 : Nat)) (entE fun j => entR (entOf (entE y3) j))])))
                                                                                (3 : Nat)))
                                                                            (0 : Nat) ∧
                                                                        (↑(Prod.fst
                                                                                  (mergeQ
                                                                                    (lstOf
                                                                                      (selL
                                                                                        (chunks (1 : Nat) (3 : Nat)
                                                                                          [FV.fs (Nat.beq (min m1 (6 : Nat)) (0 : Nat)) (5 : Nat) (min m1 (6 : Nat)) (entE fun j => entR (entOf (entE y1) j)),
                                                                                            FV.fs (Nat.beq (min m2 (6 : Nat)) (0 : Nat)) (5 : Nat) (min m2 (6 : Nat)) (entE fun j => entR (entOf (entE y2) j)),
                                                                                            FV.fs (Nat.beq (min m3 (6 : Nat)) (0 : Nat)) (5 : Nat) (min m3 (6 : Nat)) (entE fun j => entR (entOf (entE y3) j))])))
                                                                                    (3 : Nat))) :
                                                                              Int) =
                                                                            (↑(Prod.fst
                                                                                  (mergeQ
                                                                                    (lstOf
                                                                                      (selL
                                                                                        (chunks (1 : Nat) (3 : Nat)
                                                                                          [FV.fs (Nat.beq (min m1 (6 : Nat)) (0 : Nat)) (5 : Nat) (min m1 (6 : Nat)) (entE fun j => entR (entOf (entE y1) j)),
                                                                                            FV.fs (Nat.beq (min m2 (6 : Nat)) (0 : Nat)) (5 : Nat) (min m2 (6 : Nat)) (entE fun j => entR (entOf (entE y2) j)),
                                                                                            FV.fs (Nat.beq (min m3 (6 : Nat)) (0 : Nat)) (5 : Nat) (min m3 (6 : Nat)) (entE fun j => entR (entOf (entE y3) j))])))
                                                                                    (3 : Nat))) :
                                                                              Int) ∧
                                                                          (0 : Int) = (0 : Int) ∧
                                                                            Nat.beq
                                                                                  (Prod.fst
                                                                                    (mergeQ
                                                                                      (lstOf
                                                                                        (selL
                                                                                          (chunks (1 : Nat) (3 : Nat)
                                                                                            [FV.fs (Nat.beq (min m1 (6 : Nat)) (0 : Nat)) (5 : Nat) (min m1 (6 : Nat)) (entE fun j => entR (entOf (entE y1) j)),
                                                                                              FV.fs (Nat.beq (min m2 (6 : Nat)) (0 : Nat)) (5 : Nat) (min m2 (6 : Nat)) (entE fun j => entR (entOf (entE y2) j)),
                                                                                              FV.fs (Nat.beq (min m3 (6 : Nat)) (0 : Nat)) (5 : Nat) (min m3 (6 : Nat)) (entE fun j => entR (entOf (entE y3) j))])))
                                                                                      (3 : Nat)))
                                                                                  (0 : Nat) =
                                                                                Nat.beq
                                                                                  (Prod.fst
                                                                                    (mergeQ
                                                                                      (lstOf
                                                                                        (selL
                                                                                          (chunks (1 : Nat) (3 : Nat)
                                                                                            [FV.fs (Nat.beq (min m1 (6 : Nat)) (0 : Nat)) (5 : Nat) (min m1 (6 : Nat)) (entE fun j => entR (entOf (entE y1) j)),
                                                                                              FV.fs (Nat.beq (min m2 (6 : Nat)) (0 : Nat)) (5 : Nat) (min m2 (6 : Nat)) (entE fun j => entR (entOf (entE y2) j)),
                                                                                              FV.fs (Nat.beq (min m3 (6 : Nat)) (0 : Nat)) (5 : Nat) (min m3 (6 : Nat)) (entE fun j => entR (entOf (entE y3) j))])))
                                                                                      (3 : Nat)))
                                                                                  (0 : Nat) ∧
                                                                              Prod.fst
                                                                                    (mergeQ
                                                                                      (lstOf
                                                                                        (selL
                                                                                          (chunks (1 : Nat) (3 : Nat)
                                                                                            [FV.fs (Nat.beq (min m1 (6 : Nat)) (0 : Nat)) (5 : Nat) (min m1 (6 : Nat)) (entE fun j => entR (entOf (entE y1) j)),
                                                                                              FV.fs (Nat.beq (min m2 (6 : Nat)) (0 : Nat)) (5 : Nat) (min m2 (6 : Nat)) (entE fun j => entR (entOf (entE y2) j)),
                                                                                              FV.fs (Nat.beq (min m3 (6 : Nat)) (0 : Nat)) (5 : Nat) (min m3 (6 : Nat)) (entE fun j => entR (entOf (entE y3) j))])))
                                                                                      (3 : Nat)) =
                                                                                  Prod.fst
                                                                                    (mergeQ
                                                                                      (lstOf
                                                                                        (selL
                                                                                          (chunks (1 : Nat) (3 : Nat)
                                                                                            [FV.fs (Nat.beq (min m1 (6 : Nat)) (0 : Nat)) (5 : Nat) (min m1 (6 : Nat)) (entE fun j => entR (entOf (entE y1) j)),
                                                                                              FV.fs (Nat.beq (min m2 (6 : Nat)) (0 : Nat)) (5 : Nat) (min m2 (6 : Nat)) (entE fun j => entR (entOf (entE y2) j)),
                                                                                              FV.fs (Nat.beq (min m3 (6 : Nat)) (0 : Nat)) (5 : Nat) (min m3 (6 : Nat)) (entE fun j => entR (entOf (entE y3) j))])))
                                                                                      (3 : Nat)) ∧
                                                                                entE
                                                                                      (Prod.snd
                                                                                        (mergeQ
                                                                                          (lstOf
                                                                                            (selL
                                                                                              (chunks (1 : Nat) (3 : Nat)
                                                                                                [FV.fs (Nat.beq (min m1 (6 : Nat)) (0 : Nat)) (5 : Nat) (min m1 (6 : Nat)) (entE fun j => entR (entOf (entE y1) j)),
                                                                                                  FV.fs (Nat.beq (min m2 (6 : Nat)) (0 : Nat)) (5 : Nat) (min m2 (6 : Nat)) (entE fun j => entR (entOf (entE y2) j)),
                                                                                                  FV.fs (Nat.beq (min m3 (6 : Nat)) (0 : Nat)) (5 : Nat) (min m3 (6 : Nat)) (entE fun j => entR (entOf (entE y3) j))])))
                                                                                          (3 : Nat))) =
                                                                                    entE
                                                                                      (Prod.snd
                                                                                        (mergeQ
                                                                                          (lstOf
                                                                                            (selL
                                                                                              (chunks (1 : Nat) (3 : Nat)
                                                                                                [FV.fs (Nat.beq (min m1 (6 : Nat)) (0 : Nat)) (5 : Nat) (min m1 (6 : Nat)) (entE fun j => entR (entOf (entE y1) j)),
                                                                                                  FV.fs (Nat.beq (min m2 (6 : Nat)) (0 : Nat)) (5 : Nat) (min m2 (6 : Nat)) (entE fun j => entR (entOf (entE y2) j)),
                                                                                                  FV.fs (Nat.beq (min m3 (6 : Nat)) (0 : Nat)) (5 : Nat) (min m3 (6 : Nat)) (entE fun j => entR (entOf (entE y3) j))])))
                                                                                          (3 : Nat))) ∧
                                                                                  Nat.beq
                                                                                        (Prod.fst
                                                                                          (mergeQ
                                                                                            (lstOf
                                                                                              (selL
                                                                                                (chunks (1 : Nat) (3 : Nat)
                                                                                                  [FV.fs (Nat.beq (min m1 (6 : Nat)) (0 : Nat)) (5 : Nat) (min m1 (6 : Nat)) (entE fun j => entR (entOf (entE y1) j)),
                                                                                                    FV.fs (Nat.beq (min m2 (6 : Nat)) (0 : Nat)) (5 : Nat) (min m2 (6 : Nat)) (entE fun j => entR (entOf (entE y2) j)),
                                                                                                    FV.fs (Nat.beq (min m3 (6 : Nat)) (0 : Nat)) (5 : Nat) (min m3 (6 : Nat)) (entE fun j => entR (entOf (entE y3) j))])))
                                                                                            (3 : Nat)))
                                                                                        (0 : Nat) =
                                                                                      Nat.beq
                                                                                        (Prod.fst
                                                                                          (mergeQ
                                                                                            (lstOf
                                                                                              (selL
                                                                                                (chunks (1 : Nat) (3 : Nat)
                                                                                                  [FV.fs (Nat.beq (min m1 (6 : Nat)) (0 : Nat)) (5 : Nat) (min m1 (6 : Nat)) (entE fun j => entR (entOf (entE y1) j)),
                                                                                                    FV.fs (Nat.beq (min m2 (6 : Nat)) (0 : Nat)) (5 : Nat) (min m2 (6 : Nat)) (entE fun j => entR (entOf (entE y2) j)),
                                                                                                    FV.fs (Nat.beq (min m3 (6 : Nat)) (0 : Nat)) (5 : Nat) (min m3 (6 : Nat)) (entE fun j => entR (entOf (entE y3) j))])))
                                                                                            (3 : Nat)))
                                                                                        (0 : Nat) ∧
                                                                                    Prod.fst
                                                                                          (mergeQ
                                                                                            (lstOf
                                                                                              (selL
                                                                                                (chunks (1 : Nat) (3 : Nat)
                                                                                                  [FV.fs (Nat.beq (min m1 (6 : Nat)) (0 : Nat)) (5 : Nat) (min m1 (6 : Nat)) (entE fun j => entR (entOf (entE y1) j)),
                                                                                                    FV.fs (Nat.beq (min m2 (6 : Nat)) (0 : Nat)) (5 : Nat) (min m2 (6 : Nat)) (entE fun j => entR (entOf (entE y2) j)),
                                                                                                    FV.fs (Nat.beq (min m3 (6 : Nat)) (0 : Nat)) (5 : Nat) (min m3 (6 : Nat)) (entE fun j => entR (entOf (entE y3) j))])))
                                                                                            (3 : Nat)) =
                                                                                        Prod.fst
                                                                                          (mergeQ
                                                                                            (lstOf
                                                                                              (selL
                                                                                                (chunks (1 : Nat) (3 : Nat)
                                                                                                  [FV.fs (Nat.beq (min m1 (6 : Nat)) (0 : Nat)) (5 : Nat) (min m1 (6 : Nat)) (entE fun j => entR (entOf (entE y1) j)),
                                                                                                    FV.fs (Nat.beq (min m2 (6 : Nat)) (0 : Nat)) (5 : Nat) (min m2 (6 : Nat)) (entE fun j => entR (entOf (entE y2) j)),
                                                                                                    FV.fs (Nat.beq (min m3 (6 : Nat)) (0 : Nat)) (5 : Nat) (min m3 (6 : Nat)) (entE fun j => entR (entOf (entE y3) j))])))
                                                                                            (3 : Nat)) ∧
                                                                                      entE
                                                                                            (Prod.snd
                                                                                              (mergeQ
                                                                                                (lstOf
                                                                                                  (selL
                                                                                                    (chunks (1 : Nat) (3 : Nat)
                                                                                                      [FV.fs (Nat.beq (min m1 (6 : Nat)) (0 : Nat)) (5 : Nat) (min m1 (6 : Nat)) (entE fun j => entR (entOf (entE y1) j)),
                                                                                                        FV.fs (Nat.beq (min m2 (6 : Nat)) (0 : Nat)) (5 : Nat) (min m2 (6 : Nat)) (entE fun j => entR (entOf (entE y2) j)),
                                                                                                        FV.fs (Nat.beq (min m3 (6 : Nat)) (0 : Nat)) (5 : Nat) (min m3 (6 : Nat)) (entE fun j => entR (entOf (entE y3) j))])))
                                                                                                (3 : Nat))) =
                                                                                          entE
                                                                                            (Prod.snd
                                                                                              (mergeQ
                                                                                                (lstOf
                                                                                                  (selL
                                                                                                    (chunks (1 : Nat) (3 : Nat)
                                                                                                      [FV.fs (Nat.beq (min m1 (6 : Nat)) (0 : Nat)) (5 : Nat) (min m1 (6 : Nat)) (entE fun j => entR (entOf (entE y1) j)),
                                                                                                        FV.fs (Nat.beq (min m2 (6 : Nat)) (0 : Nat)) (5 : Nat) (min m2 (6 : Nat)) (entE fun j => entR (entOf (entE y2) j)),
                                                                                                        FV.fs (Nat.beq (min m3 (6 : Nat)) (0 : Nat)) (5 : Nat) (min m3 (6 : Nat)) (entE fun j => entR (entOf (entE y3) j))])))
                                                                                                (3 : Nat))) ∧
                                                                                        Prod.fst
                                                                                            (mergeQ
                                                                                              (lstOf
                                                                                                (selL
                                                                                                  (chunks (1 : Nat) (3 : Nat)
                                                                                                    [FV.fs (Nat.beq (min m1 (6 : Nat)) (0 : Nat)) (5 : Nat) (min m1 (6 : Nat)) (entE fun j => entR (entOf (entE y1) j)),
                                                                                                      FV.fs (Nat.beq (min m2 (6 : Nat)) (0 : Nat)) (5 : Nat) (min m2 (6 : Nat)) (entE fun j => entR (entOf (entE y2) j)),
                                                                                                      FV.fs (Nat.beq (min m3 (6 : Nat)) (0 : Nat)) (5 : Nat) (min m3 (6 : Nat)) (entE fun j => entR (entOf (entE y3) j))])))
                                                                                              (3 : Nat)) ≤
                                                                                          (1000 : Nat)))
                                                                  (T.ret (out0 (SV.v (AB true)))) T.bad)
                                                                T.bad))))))))))))))))))))
                        T.bad)))
                  T.bad)))
            T.bad)
          T.bad)
        T.bad)
      T.bad)
    T.bad := by kernel_rfl
theorem res_MTells (c1 : Bool) (m1 : Nat) (y1 : Nat → Ent) (c2 : Bool) (m2 : Nat) (y2 : Nat → Ent) (c3 : Bool) (m3 : Nat) (y3 : Nat → Ent) (a b : Ent) (h : LnOk c1 m1 ∧ LnOk c2 m2 ∧ LnOk c3 m3) : (tgt_MTells c1 m1 y1 c2 m2 y2 c3 m3 y3 a b).res = some (out0 (.v (AB true))) := by
  refine T.over_eq _ (tree_MTells c1 m1 y1 c2 m2 y2 c3 m3 y3 a b) ?_
  simp only [T.res_br, T.res_ret, T.res_bad]
  obtain ⟨g1, g2, g3⟩ := h
  have k1 := Nat.le_trans (Nat.min_le_right m1 6) (by decide : 6 ≤ 1000)
  have k2 := Nat.le_trans (Nat.min_le_right m2 6) (by decide : 6 ≤ 1000)
  have k3 := Nat.le_trans (Nat.min_le_right m3 6) (by decide : 6 ≤ 1000)
  refine ite_tt (pb_true ⟨⟨entN _ y1, g1⟩, by decide, by decide⟩) (ite_tt (pb_true ⟨⟨entN _ y2, g2⟩, by decide, by decide⟩) (ite_tt (pb_true ⟨⟨entN _ y3, g3⟩, by decide, by decide⟩) ?_))
  simp only [entOf_entE, MQ3]
  have f3 := pb_true (LL3 (x1 := fun j => entR (y1 j)) (x2 := fun j => entR (y2 j)) (x3 := fun j => entR (y3 j)) k1 k2 k3)
  have f5 := pb_true (entL_beq (x := fun j => entR (y1 j)) k1)
  have kA : (mergeL (fun j => entR (y3 j)) (min m3 6) (mergeL (fun j => entR (y2 j)) (min m2 6) (mergeL (fun j => entR (y1 j)) (min m1 6) acc0))).1 ≤ 1000 := by
    rw [mergeL_fst, mergeL_fst, mergeL_fst]
    show max (max (max 0 _) _) _ ≤ 1000
    omega
  simp only [f3, f5, beq_self_eq_true, bne_self_eq_false, Bool.and_self, Bool.not_true, Bool.false_eq_true, reduceIte, eq_self, and_self, pb_tt]
  exact ite_tt (pb_true ⟨EntE_ok _, (by first | rfl | trivial), (by first | rfl | trivial), (by first | rfl | trivial), (by first | rfl | trivial), (by first | rfl | trivial), (by first | rfl | trivial), (by first | rfl | trivial), (by first | rfl | trivial), (by first | rfl | trivial), kA⟩) rfl
end Go.Proofs.Ytdoehlinboiohaa.En
