/- A round of PointsTells. -/
import Derived.Test.YtabmkefbceepmaaPI
namespace Go.Proofs.Ytabmkefbceepmaa.En
open Go
set_option linter.unusedVariables false
set_option linter.unusedSimpArgs false
set_option maxRecDepth 20000
def ST17 (nl : Bool) (n : Nat) (x : Nat → Raw17) (i : Nat) (hs : Int) (bl : Bool) (m : Nat) (eP hP : Nat → Int) (c1 c2 : Int) : St :=
  ⟨[(40, .v (.one (.f (.fs nl 3 n fun i => (x i).fs)))), (41, .v (AI n)), (42, .v (AI i)), (8, .v (AP 1)), (9, .v (AP 2))],
    [(2, .cells [I hs, .f (.fs bl 2 m (ptE eP hP))]), (1, .cells [I hs, .f (.fs bl 2 m (ptE eP hP))]), (0, .cells [I c1, I c2])], 3, false, 0, []⟩

def SC17 (N : Nat) (i : Nat) (hs : Int) (bl : Bool) (m : Nat) (e h : Nat → Int) (c1 c2 : Int) : St :=
  ⟨[(18, .v (.one (.f (.fs bl 2 m (ptE e h))))), (101, .v (AI m)), (102, .v (AI i)), (9, .v (AP 2))],
    [(2, .cells [I hs, .f (.fs bl 2 m (ptE e h))]), (1, .cells [I hs, .f (.fs bl 2 m (ptE e h))]), (0, .cells [I c1, I c2])], 3, false, 0, []⟩

noncomputable def GPJ1 : Ctx := GS.with ss_Known17 ll_A17
noncomputable def tgt_tells17 (nl : Bool) (n : Nat) (x : Nat → Raw17) (i : Nat) (hs : Int) (bl : Bool) (m : Nat) (eP hP : Nat → Int) (c1 c2 : Int) : T (Ex × St) := evRoundZ GPJ1 300 9 Try.f9.ntmps (loopOf Try.f9 7) 3 [40, 41, 42, 8, 9] [8, 9] (ST17 nl n x i hs bl m eP hP c1 c2)
noncomputable def tgt_cmp17 (N : Nat) (i : Nat) (hs : Int) (bl : Bool) (m : Nat) (e h : Nat → Int) (c1 c2 : Int) : T (Ex × St) := evRoundZ GPJ1 300 9 Try.f9.ntmps (loopOf Try.f9 24) 3 [18, 101, 102, 9] [] (SC17 N i hs bl m e h c1 c2)
theorem GKPJ1 : KnownOk Try.prog GPJ1 := KnownOk.lists ss_Known17_ok ll_A17_ok
theorem tree_tells17 (nl : Bool) (n : Nat) (x : Nat → Raw17) (i : Nat) (hs : Int) (bl : Bool) (m : Nat) (eP hP : Nat → Int) (c1 c2 : Int) : (tgt_tells17 nl n x i hs bl m eP hP c1 c2).over (.br (.br (.br (.br (.br (.br (.br (.br (.ff (.br (.br (.br .skip (.br (.br (.br (.tt (.tt (.tt (.tt .skip)))) (.ff (.ff (.ff (.br .skip .leaf))))) .skip) .skip)) .skip) .skip)) (.br (.br (.br .skip (.br (.br (.br (.tt (.tt (.tt (.tt .skip)))) (.ff (.ff (.ff (.br .skip .leaf))))) .skip) .skip)) .skip) .skip)) .skip) .skip) .skip) .skip) .skip) .skip) .leaf) =
  T.br (decide ((↑i : Int) < (↑n : Int)))
    (T.br (!nl)
      (T.br (decide ((0 : Int) ≤ (↑i : Int) ∧ (↑i : Int) < (↑n : Int)))
        (T.br (pb ((0 : Int) < (9 : Int) ∧ (9 : Int) ≤ (4611686018427387904 : Int)))
          (T.br (pb ((0 : Int) < (9 : Int) ∧ (9 : Int) ≤ (4611686018427387904 : Int)))
            (T.br (pb ((0 : Int) < (8 : Int) ∧ (8 : Int) ≤ (4611686018427387904 : Int)))
              (T.br (pb ((0 : Int) < (10 : Int) ∧ (10 : Int) ≤ (4611686018427387904 : Int)))
                (T.br (Raw17.epoch (x i) % (10 : Int) == (9 : Int))
                  (T.br (pb (PtN (ptE eP hP) bl m))
                    (T.br (pb (PtN (ptE eP hP) bl m))
                      (T.br
                        (!learnB hs m (epOf (ptE eP hP)) (IntKind.wrap IntKind.i64 (Raw17.shard (x i) % (9 : Int) - (1 : Int))) (numM (IntKind.wrap IntKind.i64 (Int.tdiv (Raw17.epoch (x i)) (10 : Int))))
                              (IntKind.wrap IntKind.i64 (Raw17.host (x i) % (8 : Int) - (1 : Int))) ==
                            learnB hs m (epOf (ptE eP hP)) (IntKind.wrap IntKind.i64 (Raw17.shard (x i) % (9 : Int) - (1 : Int))) (numM (IntKind.wrap IntKind.i64 (Int.tdiv (Raw17.epoch (x i)) (10 : Int))))
                              (IntKind.wrap IntKind.i64 (Raw17.host (x i) % (8 : Int) - (1 : Int))))
                        T.bad
                        (T.br
                          (pb
                            (PtN
                              (ptE
                                (updP
                                  (learnB hs m (epOf (ptE eP hP)) (IntKind.wrap IntKind.i64 (Raw17.shard (x i) % (9 : Int) - (1 : Int))) (numM (IntKind.wrap IntKind.i64 (Int.tdiv (Raw17.epoch (x i)) (10 : Int))))
                                    (IntKind.wrap IntKind.i64 (Raw17.host (x i) % (8 : Int) - (1 : Int))))
                                  (epOf (ptE eP hP)) (Int.toNat (IntKind.wrap IntKind.i64 (Raw17.shard (x i) % (9 : Int) - (1 : Int)))) (numM (IntKind.wrap IntKind.i64 (Int.tdiv (Raw17.epoch (x i)) (10 : Int)))))
                                (updP
                                  (learnB hs m (epOf (ptE eP hP)) (IntKind.wrap IntKind.i64 (Raw17.shard (x i) % (9 : Int) - (1 : Int))) (numM (IntKind.wrap IntKind.i64 (Int.tdiv (Raw17.epoch (x i)) (10 : Int))))
                                    (IntKind.wrap IntKind.i64 (Raw17.host (x i) % (8 : Int) - (1 : Int))))
                                  (hoOf (ptE eP hP)) (Int.toNat (IntKind.wrap IntKind.i64 (Raw17.shard (x i) % (9 : Int) - (1 : Int)))) (IntKind.wrap IntKind.i64 (Raw17.host (x i) % (8 : Int) - (1 : Int)))))
                              bl m))
                          (T.br
                            (pb
                              (PtN
                                (ptE
                                  (updP
                                    (learnB hs m (epOf (ptE eP hP)) (IntKind.wrap IntKind.i64 (Raw17.shard (x i) % (9 : Int) - (1 : Int))) (numM (IntKind.wrap IntKind.i64 (Int.tdiv (Raw17.epoch (x i)) (10 : Int))))
                                      (IntKind.wrap IntKind.i64 (Raw17.host (x i) % (8 : Int) - (1 : Int))))
                                    (epOf (ptE eP hP)) (Int.toNat (IntKind.wrap IntKind.i64 (Raw17.shard (x i) % (9 : Int) - (1 : Int)))) (numM (IntKind.wrap IntKind.i64 (Int.tdiv (Raw17.epoch (x i)) (10 : Int)))))
                                  (updP
                                    (learnB hs m (epOf (ptE eP hP)) (IntKind.wrap IntKind.i64 (Raw17.shard (x i) % (9 : Int) - (1 : Int))) (numM (IntKind.wrap IntKind.i64 (Int.tdiv (Raw17.epoch (x i)) (10 : Int))))
                                      (IntKind.wrap IntKind.i64 (Raw17.host (x i) % (8 : Int) - (1 : Int))))
                                    (hoOf (ptE eP hP)) (Int.toNat (IntKind.wrap IntKind.i64 (Raw17.shard (x i) % (9 : Int) - (1 : Int)))) (IntKind.wrap IntKind.i64 (Raw17.host (x i) % (8 : Int) - (1 : Int)))))
                                bl m))
                            (T.br
                              (!(((bif inB m (IntKind.wrap IntKind.i64 (Raw17.shard (x i) % (9 : Int) - (1 : Int))) then
                                      epOf
                                        (ptE
                                          (updP
                                            (learnB hs m (epOf (ptE eP hP)) (IntKind.wrap IntKind.i64 (Raw17.shard (x i) % (9 : Int) - (1 : Int))) (numM (IntKind.wrap IntKind.i64 (Int.tdiv (Raw17.epoch (x i)) (10 : Int))))
                                              (IntKind.wrap IntKind.i64 (Raw17.host (x i) % (8 : Int) - (1 : Int))))
                                            (epOf (ptE eP hP)) (Int.toNat (IntKind.wrap IntKind.i64 (Raw17.shard (x i) % (9 : Int) - (1 : Int)))) (numM (IntKind.wrap IntKind.i64 (Int.tdiv (Raw17.epoch (x i)) (10 : Int)))))
                                          (updP
                                            (learnB hs m (epOf (ptE eP hP)) (IntKind.wrap IntKind.i64 (Raw17.shard (x i) % (9 : Int) - (1 : Int))) (numM (IntKind.wrap IntKind.i64 (Int.tdiv (Raw17.epoch (x i)) (10 : Int))))
                                              (IntKind.wrap IntKind.i64 (Raw17.host (x i) % (8 : Int) - (1 : Int))))
                                            (hoOf (ptE eP hP)) (Int.toNat (IntKind.wrap IntKind.i64 (Raw17.shard (x i) % (9 : Int) - (1 : Int)))) (IntKind.wrap IntKind.i64 (Raw17.host (x i) % (8 : Int) - (1 : Int)))))
                                        (Int.toNat (IntKind.wrap IntKind.i64 (Raw17.shard (x i) % (9 : Int) - (1 : Int))))
                                    else (0 : Int)) ==
                                    bif inB m (IntKind.wrap IntKind.i64 (Raw17.shard (x i) % (9 : Int) - (1 : Int))) then
                                      epOf
                                        (ptE
                                          (updP
                                            (learnB hs m (epOf (ptE eP hP)) (IntKind.wrap IntKind.i64 (Raw17.shard (x i) % (9 : Int) - (1 : Int))) (numM (IntKind.wrap IntKind.i64 (Int.tdiv (Raw17.epoch (x i)) (10 : Int))))
                                              (IntKind.wrap IntKind.i64 (Raw17.host (x i) % (8 : Int) - (1 : Int))))
                                            (epOf (ptE eP hP)) (Int.toNat (IntKind.wrap IntKind.i64 (Raw17.shard (x i) % (9 : Int) - (1 : Int)))) (numM (IntKind.wrap IntKind.i64 (Int.tdiv (Raw17.epoch (x i)) (10 : Int)))))
                                          (updP
                                            (learnB hs m (epOf (ptE eP hP)) (IntKind.wrap IntKind.i64 (Raw17.shard (x i) % (9 : Int) - (1 : Int))) (numM (IntKind.wrap IntKind.i64 (Int.tdiv (Raw17.epoch (x i)) (10 : Int))))
                                              (IntKind.wrap IntKind.i64 (Raw17.host (x i) % (8 : Int) - (1 : Int))))
                                            (hoOf (ptE eP hP)) (Int.toNat (IntKind.wrap IntKind.i64 (Raw17.shard (x i) % (9 : Int) - (1 : Int)))) (IntKind.wrap IntKind.i64 (Raw17.host (x i) % (8 : Int) - (1 : Int)))))
                                        (Int.toNat (IntKind.wrap IntKind.i64 (Raw17.shard (x i) % (9 : Int) - (1 : Int))))
                                    else (0 : Int)) &&
                                  (((bif inB m (IntKind.wrap IntKind.i64 (Raw17.shard (x i) % (9 : Int) - (1 : Int))) then
                                        hoOf
                                          (ptE
                                            (updP
                                              (learnB hs m (epOf (ptE eP hP)) (IntKind.wrap IntKind.i64 (Raw17.shard (x i) % (9 : Int) - (1 : Int))) (numM (IntKind.wrap IntKind.i64 (Int.tdiv (Raw17.epoch (x i)) (10 : Int))))
                                                (IntKind.wrap IntKind.i64 (Raw17.host (x i) % (8 : Int) - (1 : Int))))
                                              (epOf (ptE eP hP)) (Int.toNat (IntKind.wrap IntKind.i64 (Raw17.shard (x i) % (9 : Int) - (1 : Int)))) (numM (IntKind.wrap IntKind.i64 (Int.tdiv (Raw17.epoch (x i)) (10 : Int)))))
                                            (updP
                                              (learnB hs m (epOf (ptE eP hP)) (IntKind.wrap IntKind.i64 (Raw17.shard (x i) % (9 : Int) - (1 : Int))) (numM (IntKind.wrap IntKind.i64 (Int.tdiv (Raw17.epoch (x i)) (10 : Int))))
                                                (IntKind.wrap IntKind.i64 (Raw17.host (x i) % (8 : Int) - (1 : Int))))
                                              (hoOf (ptE eP hP)) (Int.toNat (IntKind.wrap IntKind.i64 (Raw17.shard (x i) % (9 : Int) - (1 : Int)))) (IntKind.wrap IntKind.i64 (Raw17.host (x i) % (8 : Int) - (1 : Int)))))
                                          (Int.toNat (IntKind.wrap IntKind.i64 (Raw17.shard (x i) % (9 : Int) - (1 : Int))))
                                      else (0 : Int)) ==
                                      bif inB m (IntKind.wrap IntKind.i64 (Raw17.shard (x i) % (9 : Int) - (1 : Int))) then
                                        hoOf
                                          (ptE
                                            (updP
                                              (learnB hs m (epOf (ptE eP hP)) (IntKind.wrap IntKind.i64 (Raw17.shard (x i) % (9 : Int) - (1 : Int))) (numM (IntKind.wrap IntKind.i64 (Int.tdiv (Raw17.epoch (x i)) (10 : Int))))
                                                (IntKind.wrap IntKind.i64 (Raw17.host (x i) % (8 : Int) - (1 : Int))))
                                              (epOf (ptE eP hP)) (Int.toNat (IntKind.wrap IntKind.i64 (Raw17.shard (x i) % (9 : Int) - (1 : Int)))) (numM (IntKind.wrap IntKind.i64 (Int.tdiv (Raw17.epoch (x i)) (10 : Int)))))
                                            (updP
                                              (learnB hs m (epOf (ptE eP hP)) (IntKind.wrap IntKind.i64 (Raw17.shard (x i) % (9 : Int) - (1 : Int))) (numM (IntKind.wrap IntKind.i64 (Int.tdiv (Raw17.epoch (x i)) (10 : Int))))
                                                (IntKind.wrap IntKind.i64 (Raw17.host (x i) % (8 : Int) - (1 : Int))))
                                              (hoOf (ptE eP hP)) (Int.toNat (IntKind.wrap IntKind.i64 (Raw17.shard (x i) % (9 : Int) - (1 : Int)))) (IntKind.wrap IntKind.i64 (Raw17.host (x i) % (8 : Int) - (1 : Int)))))
                                          (Int.toNat (IntKind.wrap IntKind.i64 (Raw17.shard (x i) % (9 : Int) - (1 : Int))))
                                      else (0 : Int)) &&
                                    true)))
                              T.bad
                              (T.br (!inB m (IntKind.wrap IntKind.i64 (Raw17.shard (x i) % (9 : Int) - (1 : Int))) == inB m (IntKind.wrap IntKind.i64 (Raw17.shard (x i) % (9 : Int) - (1 : Int)))) T.bad
                                (T.ret
                                  (Ex.normal,
                                    {
                                      sl :=
                                        [((40 : Nat),
                                            SV.v
                                              (AV.one
                                                (CV.f
                                                  (FV.fs nl (3 : Nat) n fun i => [FV.lit (Value.int IntKind.i64 (Raw17.shard (x i))), FV.lit (Value.int IntKind.i64 (Raw17.epoch (x i))), FV.lit (Value.int IntKind.i64 (Raw17.host (x i)))])))),
                                          ((41 : Nat), SV.v (AI (↑n : Int))), ((42 : Nat), SV.v (AI (IntKind.wrap IntKind.i64 ((↑i : Int) + (1 : Int))))), ((8 : Nat), SV.v (AP (1 : Nat))), ((9 : Nat), SV.v (AP (2 : Nat)))],
                                      H :=
                                        [((2 : Nat),
                                            Ob.cells
                                              [I hs,
                                                CV.f
                                                  (FV.fs bl (2 : Nat) m fun a =>
                                                    [FV.lit
                                                        (Value.int IntKind.i64
                                                          (updP
                                                            (learnB hs m (epOf (ptE eP hP)) (IntKind.wrap IntKind.i64 (Raw17.shard (x i) % (9 : Int) - (1 : Int))) (numM (IntKind.wrap IntKind.i64 (Int.tdiv (Raw17.epoch (x i)) (10 : Int))))
                                                              (IntKind.wrap IntKind.i64 (Raw17.host (x i) % (8 : Int) - (1 : Int))))
                                                            (epOf (ptE eP hP)) (Int.toNat (IntKind.wrap IntKind.i64 (Raw17.shard (x i) % (9 : Int) - (1 : Int)))) (numM (IntKind.wrap IntKind.i64 (Int.tdiv (Raw17.epoch (x i)) (10 : Int)))) a)),
                                                      FV.lit
                                                        (Value.int IntKind.i64
                                                          (updP
                                                            (learnB hs m (epOf (ptE eP hP)) (IntKind.wrap IntKind.i64 (Raw17.shard (x i) % (9 : Int) - (1 : Int))) (numM (IntKind.wrap IntKind.i64 (Int.tdiv (Raw17.epoch (x i)) (10 : Int))))
                                                              (IntKind.wrap IntKind.i64 (Raw17.host (x i) % (8 : Int) - (1 : Int))))
                                                            (hoOf (ptE eP hP)) (Int.toNat (IntKind.wrap IntKind.i64 (Raw17.shard (x i) % (9 : Int) - (1 : Int)))) (IntKind.wrap IntKind.i64 (Raw17.host (x i) % (8 : Int) - (1 : Int))) a))])]),
                                          ((1 : Nat),
                                            Ob.cells
                                              [I hs,
                                                CV.f
                                                  (FV.fs bl (2 : Nat) m fun a =>
                                                    [FV.lit
                                                        (Value.int IntKind.i64
                                                          (updP
                                                            (learnB hs m (epOf (ptE eP hP)) (IntKind.wrap IntKind.i64 (Raw17.shard (x i) % (9 : Int) - (1 : Int))) (numM (IntKind.wrap IntKind.i64 (Int.tdiv (Raw17.epoch (x i)) (10 : Int))))
                                                              (IntKind.wrap IntKind.i64 (Raw17.host (x i) % (8 : Int) - (1 : Int))))
                                                            (epOf (ptE eP hP)) (Int.toNat (IntKind.wrap IntKind.i64 (Raw17.shard (x i) % (9 : Int) - (1 : Int)))) (numM (IntKind.wrap IntKind.i64 (Int.tdiv (Raw17.epoch (x i)) (10 : Int)))) a)),
                                                      FV.lit
                                                        (Value.int IntKind.i64
                                                          (updP
                                                            (learnB hs m (epOf (ptE eP hP)) (IntKind.wrap IntKind.i64 (Raw17.shard (x i) % (9 : Int) - (1 : Int))) (numM (IntKind.wrap IntKind.i64 (Int.tdiv (Raw17.epoch (x i)) (10 : Int))))
                                                              (IntKind.wrap IntKind.i64 (Raw17.host (x i) % (8 : Int) - (1 : Int))))
                                                            (hoOf (ptE eP hP)) (Int.toNat (IntKind.wrap IntKind.i64 (Raw17.shard (x i) % (9 : Int) - (1 : Int)))) (IntKind.wrap IntKind.i64 (Raw17.host (x i) % (8 : Int) - (1 : Int))) a))])]),
                                          ((0 : Nat), Ob.cells [I c1, I c2])],
                                      nx := (3 : Nat), esc := false, base := (0 : Nat), wr := [] : St }))))
                            T.bad)
                          T.bad))
                      T.bad)
                    T.bad)
                  (T.br (pb (PtN (ptE eP hP) bl m))
                    (T.br (pb (PtN (ptE eP hP) bl m))
                      (T.br
                        (!learnB hs m (epOf (ptE eP hP)) (IntKind.wrap IntKind.i64 (Raw17.shard (x i) % (9 : Int) - (1 : Int))) (Raw17.epoch (x i) % (9 : Int)) (IntKind.wrap IntKind.i64 (Raw17.host (x i) % (8 : Int) - (1 : Int))) ==
                            learnB hs m (epOf (ptE eP hP)) (IntKind.wrap IntKind.i64 (Raw17.shard (x i) % (9 : Int) - (1 : Int))) (Raw17.epoch (x i) % (9 : Int)) (IntKind.wrap IntKind.i64 (Raw17.host (x i) % (8 : Int) - (1 : Int))))
                        T.bad
                        (T.br
                          (pb
                            (PtN
                              (ptE
                                (updP
                                  (learnB hs m (epOf (ptE eP hP)) (IntKind.wrap IntKind.i64 (Raw17.shard (x i) % (9 : Int) - (1 : Int))) (Raw17.epoch (x i) % (9 : Int)) (IntKind.wrap IntKind.i64 (Raw17.host (x i) % (8 : Int) - (1 : Int))))
                                  (epOf (ptE eP hP)) (Int.toNat (IntKind.wrap IntKind.i64 (Raw17.shard (x i) % (9 : Int) - (1 : Int)))) (Raw17.epoch (x i) % (9 : Int)))
                                (updP
                                  (learnB hs m (epOf (ptE eP hP)) (IntKind.wrap IntKind.i64 (Raw17.shard (x i) % (9 : Int) - (1 : Int))) (Raw17.epoch (x i) % (9 : Int)) (IntKind.wrap IntKind.i64 (Raw17.host (x i) % (8 : Int) - (1 : Int))))
                                  (hoOf (ptE eP hP)) (Int.toNat (IntKind.wrap IntKind.i64 (Raw17.shard (x i) % (9 : Int) - (1 : Int)))) (IntKind.wrap IntKind.i64 (Raw17.host (x i) % (8 : Int) - (1 : Int)))))
                              bl m))
                          (T.br
                            (pb
                              (PtN
                                (ptE
                                  (updP
                                    (learnB hs m (epOf (ptE eP hP)) (IntKind.wrap IntKind.i64 (Raw17.shard (x i) % (9 : Int) - (1 : Int))) (Raw17.epoch (x i) % (9 : Int)) (IntKind.wrap IntKind.i64 (Raw17.host (x i) % (8 : Int) - (1 : Int))))
                                    (epOf (ptE eP hP)) (Int.toNat (IntKind.wrap IntKind.i64 (Raw17.shard (x i) % (9 : Int) - (1 : Int)))) (Raw17.epoch (x i) % (9 : Int)))
                                  (updP
                                    (learnB hs m (epOf (ptE eP hP)) (IntKind.wrap IntKind.i64 (Raw17.shard (x i) % (9 : Int) - (1 : Int))) (Raw17.epoch (x i) % (9 : Int)) (IntKind.wrap IntKind.i64 (Raw17.host (x i) % (8 : Int) - (1 : Int))))
                                    (hoOf (ptE eP hP)) (Int.toNat (IntKind.wrap IntKind.i64 (Raw17.shard (x i) % (9 : Int) - (1 : Int)))) (IntKind.wrap IntKind.i64 (Raw17.host (x i) % (8 : Int) - (1 : Int)))))
                                bl m))
                            (T.br
                              (!(((bif inB m (IntKind.wrap IntKind.i64 (Raw17.shard (x i) % (9 : Int) - (1 : Int))) then
                                      epOf
                                        (ptE
                                          (updP
                                            (learnB hs m (epOf (ptE eP hP)) (IntKind.wrap IntKind.i64 (Raw17.shard (x i) % (9 : Int) - (1 : Int))) (Raw17.epoch (x i) % (9 : Int))
                                              (IntKind.wrap IntKind.i64 (Raw17.host (x i) % (8 : Int) - (1 : Int))))
                                            (epOf (ptE eP hP)) (Int.toNat (IntKind.wrap IntKind.i64 (Raw17.shard (x i) % (9 : Int) - (1 : Int)))) (Raw17.epoch (x i) % (9 : Int)))
                                          (updP
                                            (learnB hs m (epOf (ptE eP hP)) (IntKind.wrap IntKind.i64 (Raw17.shard (x i) % (9 : Int) - (1 : Int))) (Raw17.epoch (x i) % (9 : Int))
                                              (IntKind.wrap IntKind.i64 (Raw17.host (x i) % (8 : Int) - (1 : Int))))
                                            (hoOf (ptE eP hP)) (Int.toNat (IntKind.wrap IntKind.i64 (Raw17.shard (x i) % (9 : Int) - (1 : Int)))) (IntKind.wrap IntKind.i64 (Raw17.host (x i) % (8 : Int) - (1 : Int)))))
                                        (Int.toNat (IntKind.wrap IntKind.i64 (Raw17.shard (x i) % (9 : Int) - (1 : Int))))
                                    else (0 : Int)) ==
                                    bif inB m (IntKind.wrap IntKind.i64 (Raw17.shard (x i) % (9 : Int) - (1 : Int))) then
                                      epOf
                                        (ptE
                                          (updP
                                            (learnB hs m (epOf (ptE eP hP)) (IntKind.wrap IntKind.i64 (Raw17.shard (x i) % (9 : Int) - (1 : Int))) (Raw17.epoch (x i) % (9 : Int))
                                              (IntKind.wrap IntKind.i64 (Raw17.host (x i) % (8 : Int) - (1 : Int))))
                                            (epOf (ptE eP hP)) (Int.toNat (IntKind.wrap IntKind.i64 (Raw17.shard (x i) % (9 : Int) - (1 : Int)))) (Raw17.epoch (x i) % (9 : Int)))
                                          (updP
                                            (learnB hs m (epOf (ptE eP hP)) (IntKind.wrap IntKind.i64 (Raw17.shard (x i) % (9 : Int) - (1 : Int))) (Raw17.epoch (x i) % (9 : Int))
                                              (IntKind.wrap IntKind.i64 (Raw17.host (x i) % (8 : Int) - (1 : Int))))
                                            (hoOf (ptE eP hP)) (Int.toNat (IntKind.wrap IntKind.i64 (Raw17.shard (x i) % (9 : Int) - (1 : Int)))) (IntKind.wrap IntKind.i64 (Raw17.host (x i) % (8 : Int) - (1 : Int)))))
                                        (Int.toNat (IntKind.wrap IntKind.i64 (Raw17.shard (x i) % (9 : Int) - (1 : Int))))
                                    else (0 : Int)) &&
                                  (((bif inB m (IntKind.wrap IntKind.i64 (Raw17.shard (x i) % (9 : Int) - (1 : Int))) then
                                        hoOf
                                          (ptE
                                            (updP
                                              (learnB hs m (epOf (ptE eP hP)) (IntKind.wrap IntKind.i64 (Raw17.shard (x i) % (9 : Int) - (1 : Int))) (Raw17.epoch (x i) % (9 : Int))
                                                (IntKind.wrap IntKind.i64 (Raw17.host (x i) % (8 : Int) - (1 : Int))))
                                              (epOf (ptE eP hP)) (Int.toNat (IntKind.wrap IntKind.i64 (Raw17.shard (x i) % (9 : Int) - (1 : Int)))) (Raw17.epoch (x i) % (9 : Int)))
                                            (updP
                                              (learnB hs m (epOf (ptE eP hP)) (IntKind.wrap IntKind.i64 (Raw17.shard (x i) % (9 : Int) - (1 : Int))) (Raw17.epoch (x i) % (9 : Int))
                                                (IntKind.wrap IntKind.i64 (Raw17.host (x i) % (8 : Int) - (1 : Int))))
                                              (hoOf (ptE eP hP)) (Int.toNat (IntKind.wrap IntKind.i64 (Raw17.shard (x i) % (9 : Int) - (1 : Int)))) (IntKind.wrap IntKind.i64 (Raw17.host (x i) % (8 : Int) - (1 : Int)))))
                                          (Int.toNat (IntKind.wrap IntKind.i64 (Raw17.shard (x i) % (9 : Int) - (1 : Int))))
                                      else (0 : Int)) ==
                                      bif inB m (IntKind.wrap IntKind.i64 (Raw17.shard (x i) % (9 : Int) - (1 : Int))) then
                                        hoOf
                                          (ptE
                                            (updP
                                              (learnB hs m (epOf (ptE eP hP)) (IntKind.wrap IntKind.i64 (Raw17.shard (x i) % (9 : Int) - (1 : Int))) (Raw17.epoch (x i) % (9 : Int))
                                                (IntKind.wrap IntKind.i64 (Raw17.host (x i) % (8 : Int) - (1 : Int))))
                                              (epOf (ptE eP hP)) (Int.toNat (IntKind.wrap IntKind.i64 (Raw17.shard (x i) % (9 : Int) - (1 : Int)))) (Raw17.epoch (x i) % (9 : Int)))
                                            (updP
                                              (learnB hs m (epOf (ptE eP hP)) (IntKind.wrap IntKind.i64 (Raw17.shard (x i) % (9 : Int) - (1 : Int))) (Raw17.epoch (x i) % (9 : Int))
                                                (IntKind.wrap IntKind.i64 (Raw17.host (x i) % (8 : Int) - (1 : Int))))
                                              (hoOf (ptE eP hP)) (Int.toNat (IntKind.wrap IntKind.i64 (Raw17.shard (x i) % (9 : Int) - (1 : Int)))) (IntKind.wrap IntKind.i64 (Raw17.host (x i) % (8 : Int) - (1 : Int)))))
                                          (Int.toNat (IntKind.wrap IntKind.i64 (Raw17.shard (x i) % (9 : Int) - (1 : Int))))
                                      else (0 : Int)) &&
                                    true)))
                              T.bad
                              (T.br (!inB m (IntKind.wrap IntKind.i64 (Raw17.shard (x i) % (9 : Int) - (1 : Int))) == inB m (IntKind.wrap IntKind.i64 (Raw17.shard (x i) % (9 : Int) - (1 : Int)))) T.bad
                                (T.ret
                                  (Ex.normal,
                                    {
                                      sl :=
                                        [((40 : Nat),
                                            SV.v
                                              (AV.one
                                                (CV.f
                                                  (FV.fs nl (3 : Nat) n fun i => [FV.lit (Value.int IntKind.i64 (Raw17.shard (x i))), FV.lit (Value.int IntKind.i64 (Raw17.epoch (x i))), FV.lit (Value.int IntKind.i64 (Raw17.host (x i)))])))),
                                          ((41 : Nat), SV.v (AI (↑n : Int))), ((42 : Nat), SV.v (AI (IntKind.wrap IntKind.i64 ((↑i : Int) + (1 : Int))))), ((8 : Nat), SV.v (AP (1 : Nat))), ((9 : Nat), SV.v (AP (2 : Nat)))],
                                      H :=
                                        [((2 : Nat),
                                            Ob.cells
                                              [I hs,
                                                CV.f
                                                  (FV.fs bl (2 : Nat) m fun a =>
                                                    [FV.lit
                                                        (Value.int IntKind.i64
                                                          (updP
                                                            (learnB hs m (epOf (ptE eP hP)) (IntKind.wrap IntKind.i64 (Raw17.shard (x i) % (9 : Int) - (1 : Int))) (Raw17.epoch (x i) % (9 : Int))
                                                              (IntKind.wrap IntKind.i64 (Raw17.host (x i) % (8 : Int) - (1 : Int))))
                                                            (epOf (ptE eP hP)) (Int.toNat (IntKind.wrap IntKind.i64 (Raw17.shard (x i) % (9 : Int) - (1 : Int)))) (Raw17.epoch (x i) % (9 : Int)) a)),
                                                      FV.lit
                                                        (Value.int IntKind.i64
                                                          (updP
                                                            (learnB hs m (epOf (ptE eP hP)) (IntKind.wrap IntKind.i64 (Raw17.shard (x i) % (9 : Int) - (1 : Int))) (Raw17.epoch (x i) % (9 : Int))
                                                              (IntKind.wrap IntKind.i64 (Raw17.host (x i) % (8 : Int) - (1 : Int))))
                                                            (hoOf (ptE eP hP)) (Int.toNat (IntKind.wrap IntKind.i64 (Raw17.shard (x i) % (9 : Int) - (1 : Int)))) (IntKind.wrap IntKind.i64 (Raw17.host (x i) % (8 : Int) - (1 : Int))) a))])]),
                                          ((1 : Nat),
                                            Ob.cells
                                              [I hs,
                                                CV.f
                                                  (FV.fs bl (2 : Nat) m fun a =>
                                                    [FV.lit
                                                        (Value.int IntKind.i64
                                                          (updP
                                                            (learnB hs m (epOf (ptE eP hP)) (IntKind.wrap IntKind.i64 (Raw17.shard (x i) % (9 : Int) - (1 : Int))) (Raw17.epoch (x i) % (9 : Int))
                                                              (IntKind.wrap IntKind.i64 (Raw17.host (x i) % (8 : Int) - (1 : Int))))
                                                            (epOf (ptE eP hP)) (Int.toNat (IntKind.wrap IntKind.i64 (Raw17.shard (x i) % (9 : Int) - (1 : Int)))) (Raw17.epoch (x i) % (9 : Int)) a)),
                                                      FV.lit
                                                        (Value.int IntKind.i64
                                                          (updP
                                                            (learnB hs m (epOf (ptE eP hP)) (IntKind.wrap IntKind.i64 (Raw17.shard (x i) % (9 : Int) - (1 : Int))) (Raw17.epoch (x i) % (9 : Int))
                                                              (IntKind.wrap IntKind.i64 (Raw17.host (x i) % (8 : Int) - (1 : Int))))
                                                            (hoOf (ptE eP hP)) (Int.toNat (IntKind.wrap IntKind.i64 (Raw17.shard (x i) % (9 : Int) - (1 : Int)))) (IntKind.wrap IntKind.i64 (Raw17.host (x i) % (8 : Int) - (1 : Int))) a))])]),
                                          ((0 : Nat), Ob.cells [I c1, I c2])],
                                      nx := (3 : Nat), esc := false, base := (0 : Nat), wr := [] : St }))))
                            T.bad)
                          T.bad))
                      T.bad)
                    T.bad))
                T.bad)
              T.bad)
            T.bad)
          T.bad)
        T.bad)
      T.bad)
    (T.ret
      (Ex.exit (0 : Nat),
        { sl := [((8 : Nat), SV.v (AP (1 : Nat))), ((9 : Nat), SV.v (AP (2 : Nat)))],
          H :=
            [((2 : Nat), Ob.cells [I hs, CV.f (FV.fs bl (2 : Nat) m fun a => [FV.lit (Value.int IntKind.i64 (eP a)), FV.lit (Value.int IntKind.i64 (hP a))])]),
              ((1 : Nat), Ob.cells [I hs, CV.f (FV.fs bl (2 : Nat) m fun a => [FV.lit (Value.int IntKind.i64 (eP a)), FV.lit (Value.int IntKind.i64 (hP a))])]), ((0 : Nat), Ob.cells [I c1, I c2])],
          nx := (3 : Nat), esc := false, base := (0 : Nat), wr := [] : St })) := by kernel_rfl
theorem tree_cmp17 (N : Nat) (i : Nat) (hs : Int) (bl : Bool) (m : Nat) (e h : Nat → Int) (c1 c2 : Int) : (tgt_cmp17 N i hs bl m e h c1 c2).over (.br (.br (.br (.br (.br (.br .skip .leaf) .skip) .skip) .skip) .skip) .leaf) =
  T.br (decide ((↑i : Int) < (↑m : Int)))
    (T.br (!bl)
      (T.br (decide ((0 : Int) ≤ (↑i : Int) ∧ (↑i : Int) < (↑m : Int)))
        (T.br (!bl)
          (T.br (decide ((0 : Int) ≤ (↑i : Int) ∧ (↑i : Int) < (↑m : Int)))
            (T.br (!(e i == e i && (h i == h i && true))) T.bad
              (T.ret
                (Ex.normal,
                  {
                    sl :=
                      [((18 : Nat), SV.v (AV.one (CV.f (FV.fs bl (2 : Nat) m fun a => [FV.lit (Value.int IntKind.i64 (e a)), FV.lit (Value.int IntKind.i64 (h a))])))), ((101 : Nat), SV.v (AI (↑m : Int))),
                        ((102 : Nat), SV.v (AI (IntKind.wrap IntKind.i64 ((↑i : Int) + (1 : Int))))), ((9 : Nat), SV.v (AP (2 : Nat)))],
                    H :=
                      [((2 : Nat), Ob.cells [I hs, CV.f (FV.fs bl (2 : Nat) m fun a => [FV.lit (Value.int IntKind.i64 (e a)), FV.lit (Value.int IntKind.i64 (h a))])]),
                        ((1 : Nat), Ob.cells [I hs, CV.f (FV.fs bl (2 : Nat) m fun a => [FV.lit (Value.int IntKind.i64 (e a)), FV.lit (Value.int IntKind.i64 (h a))])]), ((0 : Nat), Ob.cells [I c1, I c2])],
                    nx := (3 : Nat), esc := false, base := (0 : Nat), wr := [] : St })))
            T.bad)
          T.bad)
        T.bad)
      T.bad)
    (T.ret
      (Ex.exit (2 : Nat),
        { sl := [],
          H :=
            [((2 : Nat), Ob.cells [I hs, CV.f (FV.fs bl (2 : Nat) m fun a => [FV.lit (Value.int IntKind.i64 (e a)), FV.lit (Value.int IntKind.i64 (h a))])]),
              ((1 : Nat), Ob.cells [I hs, CV.f (FV.fs bl (2 : Nat) m fun a => [FV.lit (Value.int IntKind.i64 (e a)), FV.lit (Value.int IntKind.i64 (h a))])]), ((0 : Nat), Ob.cells [I c1, I c2])],
          nx := (3 : Nat), esc := false, base := (0 : Nat), wr := [] : St })) := by kernel_rfl
def yE (c : Raw17) : Int := bif c.epoch % 10 == 9 then numM (IntKind.wrap .i64 (c.epoch.tdiv 10)) else c.epoch % 9
def stT (hs : Int) (m : Nat) (c : Raw17) (q : Q17) : Q17 :=
  (updP (learnB hs m q.1 (IntKind.wrap .i64 (c.shard % 9 - 1)) (yE c) (IntKind.wrap .i64 (c.host % 8 - 1))) q.1 (IntKind.wrap .i64 (c.shard % 9 - 1)).toNat (yE c),
   updP (learnB hs m q.1 (IntKind.wrap .i64 (c.shard % 9 - 1)) (yE c) (IntKind.wrap .i64 (c.host % 8 - 1))) q.2 (IntKind.wrap .i64 (c.shard % 9 - 1)).toNat (IntKind.wrap .i64 (c.host % 8 - 1)))
def runT (hs : Int) (m : Nat) (x : Nat → Raw17) : Nat → Nat → Q17 → Q17
  | 0, _, q => q
  | k + 1, i, q => runT hs m x k (i + 1) (stT hs m (x i) q)
theorem round_T (n : Nat) (x : Nat → Raw17) (i : Nat) (hs : Int) (bl : Bool) (m : Nat) (q : Q17) (c1 c2 : Int) (hi : i < n) (hn : (n : Int) ≤ 9223372036854775807) (hm : NlN bl m) :
    ∃ s, (tgt_tells17 false n x i hs bl m q.1 q.2 c1 c2).res = some (.normal, s) ∧ StLe 3 s (ST17 false n x (i + 1) hs bl m (stT hs m (x i) q).1 (stT hs m (x i) q).2 c1 c2) := by
  refine T.over_exP (g := fun s => (Ex.normal, s)) (tree_tells17 false n x i hs bl m q.1 q.2 c1 c2) ?_
  have e1 : (0 : Int) ≤ (i : Int) ∧ (i : Int) < (n : Int) := by omega
  have e2 : (i : Int) < (n : Int) := by omega
  have e3 : IntKind.wrap .i64 ((i : Int) + 1) = ((i + 1 : Nat) : Int) := by rw [wrapI (by omega)]; rfl
  have h8 : (0 : Int) < 8 ∧ (8 : Int) ≤ 4611686018427387904 := by omega
  have h9 : (0 : Int) < 9 ∧ (9 : Int) ≤ 4611686018427387904 := by omega
  have h10 : (0 : Int) < 10 ∧ (10 : Int) ≤ 4611686018427387904 := by omega
  have hP : ∀ a b, pb (PtN (ptE a b) bl m) = true := fun a b => pb_true ⟨⟨_, _, rfl⟩, hm⟩
  simp only [T.res_br, T.res_ret, T.res_bad, decide_eq_true_eq, e1, e2, e3, pb_true h8, pb_true h9, pb_true h10, hP, Bool.not_false, and_self, reduceIte, beq_self_eq_true, Bool.and_true, Bool.not_true, Bool.false_eq_true]
  cases hs : (x i).epoch % 10 == 9 with
  | true =>
    simp only [reduceIte, stT, yE, hs, cond_true]
    exact ⟨_, rfl, StLe.same (Nat.le_refl 3) rfl rfl rfl fun b => by rcases b with _ | _ | _ | b <;> rfl⟩
  | false =>
    simp only [Bool.false_eq_true, reduceIte, stT, yE, hs, cond_false]
    exact ⟨_, rfl, StLe.same (Nat.le_refl 3) rfl rfl rfl fun b => by rcases b with _ | _ | _ | b <;> rfl⟩
def STe (hs : Int) (bl : Bool) (m : Nat) (q : Q17) (c1 c2 : Int) : St := ⟨[(8, .v (AP 1)), (9, .v (AP 2))], [(2, .cells [I hs, .f (.fs bl 2 m (ptE q.1 q.2))]), (1, .cells [I hs, .f (.fs bl 2 m (ptE q.1 q.2))]), (0, .cells [I c1, I c2])], 3, false, 0, []⟩
theorem end_T (nl : Bool) (n : Nat) (x : Nat → Raw17) (hs : Int) (bl : Bool) (m : Nat) (q : Q17) (c1 c2 : Int) :
    ∃ s, (tgt_tells17 nl n x n hs bl m q.1 q.2 c1 c2).res = some (.exit 0, s) ∧ StLe 3 s (STe hs bl m q c1 c2) := by
  refine T.over_exP (g := fun s => (Ex.exit 0, s)) (tree_tells17 nl n x n hs bl m q.1 q.2 c1 c2) ?_
  simp only [T.res_br, T.res_ret, T.res_bad, decide_eq_true_eq, Int.lt_irrefl, reduceIte]
  exact ⟨_, rfl, StLe.same (Nat.le_refl 3) rfl rfl rfl fun b => by rcases b with _ | _ | _ | b <;> rfl⟩
theorem loop_T (nl : Bool) (n : Nat) (x : Nat → Raw17) (hs : Int) (bl : Bool) (m : Nat) (q : Q17) (c1 c2 : Int) (hm : NlN bl m) (hn : (n : Int) ≤ 9223372036854775807) (hnl : nl = true → n = 0) {st0 : St} (h0 : StLe 3 st0 (ST17 nl n x 0 hs bl m q.1 q.2 c1 c2)) (hnx : st0.nx = 3) :
    CodeOk Try.prog Try.f9.ntmps (.loop (loopOf Try.f9 7)) st0 (.exit 0) (STe hs bl m (runT hs m x n 0 q) c1 c2) := by
  refine loop_toZ (GS_ok.with _ _) GKPJ1 (K := 300) (F := 9) (live := [40, 41, 42, 8, 9]) (after := [8, 9]) (α := Nat × Q17) (fun p => ST17 nl n x p.1 hs bl m p.2.1 p.2.2 c1 c2) (fun p => n - p.1)
    (fun p => p.1 ≤ n ∧ runT hs m x (n - p.1) p.1 p.2 = runT hs m x n 0 q) (.exit 0) _ ?_ (fun p => Nat.le_refl 3) (p := (0, q)) ⟨Nat.zero_le _, rfl⟩ h0 hnx
  rintro ⟨i, q1⟩ ⟨hi, hq⟩
  simp only at hi hq
  rcases Nat.lt_or_ge i n with h | h
  · obtain rfl : nl = false := by cases nl <;> simp_all
    obtain ⟨s, h1, h2⟩ := round_T n x i hs bl m q1 c1 c2 h hn hm
    have e : n - i = (n - (i + 1)) + 1 := by omega
    rw [e] at hq
    exact ⟨_, s, h1, .inl ⟨rfl, (i + 1, stT hs m (x i) q1), h2, ⟨h, hq⟩, by simp only; omega⟩⟩
  · obtain rfl : i = n := by omega
    obtain ⟨s, h1, h2⟩ := end_T nl i x hs bl m q1 c1 c2
    rw [Nat.sub_self] at hq
    simp only [runT] at hq
    subst hq
    exact ⟨_, s, h1, .inr ⟨by simp, _, h2, rfl, rfl⟩⟩
theorem round_C (i : Nat) (hs : Int) (m : Nat) (e h : Nat → Int) (c1 c2 : Int) (hi : i < m) (hm : m ≤ 6) :
    ∃ s, (tgt_cmp17 0 i hs false m e h c1 c2).res = some (.normal, s) ∧ StLe 3 s (SC17 0 (i + 1) hs false m e h c1 c2) := by
  refine T.over_exP (g := fun s => (Ex.normal, s)) (tree_cmp17 0 i hs false m e h c1 c2) ?_
  have e1 : (0 : Int) ≤ (i : Int) ∧ (i : Int) < (m : Int) := by omega
  have e2 : (i : Int) < (m : Int) := by omega
  have e3 : IntKind.wrap .i64 ((i : Int) + 1) = ((i + 1 : Nat) : Int) := by rw [wrapI (by omega)]; rfl
  simp only [T.res_br, T.res_ret, T.res_bad, decide_eq_true_eq, e1, e2, e3, Bool.not_false, and_self, reduceIte, beq_self_eq_true, Bool.and_true, Bool.not_true, Bool.false_eq_true]
  exact ⟨_, rfl, StLe.same (Nat.le_refl 3) rfl rfl rfl fun b => rfl⟩
theorem end_C (hs : Int) (bl : Bool) (m : Nat) (e h : Nat → Int) (c1 c2 : Int) :
    ∃ s, (tgt_cmp17 0 m hs bl m e h c1 c2).res = some (.exit 2, s) ∧ StLe 3 s ⟨[], [], 3, false, 0, []⟩ := by
  refine T.over_exP (g := fun s => (Ex.exit 2, s)) (tree_cmp17 0 m hs bl m e h c1 c2) ?_
  simp only [T.res_br, T.res_ret, T.res_bad, decide_eq_true_eq, Int.lt_irrefl, reduceIte]
  refine ⟨_, rfl, ?_⟩
  exact StLe.sift (s := ⟨[], [(2, .cells [I hs, .f (.fs bl 2 m (ptE e h))]), (1, .cells [I hs, .f (.fs bl 2 m (ptE e h))]), (0, .cells [I c1, I c2])], 3, false, 0, []⟩) (Nat.le_refl 3) fun _ => false
theorem loop_C (hs : Int) (bl : Bool) (m : Nat) (e h : Nat → Int) (c1 c2 : Int) (hm : NlN bl m) {st0 : St} (h0 : StLe 3 st0 (SC17 0 0 hs bl m e h c1 c2)) (hnx : st0.nx = 3) :
    CodeOk Try.prog Try.f9.ntmps (.loop (loopOf Try.f9 24)) st0 (.exit 2) ⟨[], [], 3, false, 0, []⟩ := by
  refine loop_toZ (GS_ok.with _ _) GKPJ1 (K := 300) (F := 9) (live := [18, 101, 102, 9]) (after := []) (α := Nat) (fun p => SC17 0 p hs bl m e h c1 c2) (fun p => m - p)
    (fun p => p ≤ m) (.exit 2) _ ?_ (fun p => Nat.le_refl 3) (p := 0) (Nat.zero_le _) h0 hnx
  intro i hi
  rcases Nat.lt_or_ge i m with hl | hl
  · obtain rfl : bl = false := by
      cases bl with
      | false => rfl
      | true => have h9 : m = 0 := hm.2.1 rfl; omega
    obtain ⟨s, h1, h2⟩ := round_C i hs m e h c1 c2 hl hm.1
    exact ⟨_, s, h1, .inl ⟨rfl, i + 1, h2, hl, by show m - (i + 1) < m - i; omega⟩⟩
  · obtain rfl : i = m := by omega
    obtain ⟨s, h1, h2⟩ := end_C hs bl i e h c1 c2
    exact ⟨_, s, h1, .inr ⟨by simp, _, h2, rfl, rfl⟩⟩
def PreT (nl : Bool) (n : Nat) (e : Nat → List FV) (n' i h1 h2 : Int) (b1 b2 : Bool) (n1 n2 : Nat) (e1 e2 : Nat → List FV) : Prop :=
  (∃ x : Nat → Raw17, e = (fun i => (x i).fs)) ∧ n' = n ∧ i = 0 ∧ h2 = h1 ∧ b2 = b1 ∧ n2 = n1 ∧ e2 = e1 ∧ PtN e1 b1 n1 ∧ (n : Int) ≤ 9223372036854775807 ∧ (nl = true → n = 0)
noncomputable def L_T17 : LoopF := mkLoop [40, 41, 42, 8, 9] (loopOf Try.f9 7) Try.f9.ntmps fun sl H nx esc => match sl, H, nx, esc with
  | [(40, .v (.one (.f (.fs nl 3 n e)))), (41, .v (.one (.f (.lit (.int .i64 n'))))), (42, .v (.one (.f (.lit (.int .i64 i))))), (8, .v (.one (.ptr 1 0 0 0))), (9, .v (.one (.ptr 2 0 0 0)))],
    [(2, .cells [.f (.lit (.int .i64 h1)), .f (.fs b1 2 n1 e1)]), (1, .cells [.f (.lit (.int .i64 h2)), .f (.fs b2 2 n2 e2)]), (0, .cells [.f (.lit (.int .i64 c1)), .f (.lit (.int .i64 c2))])], 3, false =>
    .need (pb (PreT nl n e n' i h1 h2 b1 b2 n1 n2 e1 e2))
      (.ret (.exit 0, (STe h1 b1 n1 (runT h1 n1 (xOf e) n 0 (epOf e1, hoOf e1)) c1 c2).sl, (STe h1 b1 n1 (runT h1 n1 (xOf e) n 0 (epOf e1, hoOf e1)) c1 c2).H, 3, false))
  | _, _, _, _ => .bad
theorem L_T17_ok : LoopOk Try.prog L_T17 := by
  refine mkLoop_ok fun sl H nx esc e sl' H' nx' esc' h => ?_
  split at h
  · obtain ⟨hp, h2⟩ := T.need_some h
    obtain ⟨⟨x, rfl⟩, rfl, rfl, rfl, rfl, rfl, rfl, ⟨⟨ep, ho, rfl⟩, hm⟩, h3, h4⟩ := pb_of hp
    have := T.ret_some h2
    simp only [Prod.mk.injEq] at this
    obtain ⟨rfl, rfl, rfl, rfl, rfl⟩ := this
    exact loop_T _ _ x _ _ _ (ep, ho) _ _ hm h3 h4 (StLe.refl (Nat.le_refl 3)) rfl
  · exact (T.bad_some h).elim
def PreC (h1 h2 : Int) (b b1 b2 : Bool) (m m1 m2 : Nat) (e e1 e2 : Nat → List FV) (n' i : Int) : Prop :=
  PtN e b m ∧ n' = m ∧ i = 0 ∧ h2 = h1 ∧ b1 = b ∧ b2 = b ∧ m1 = m ∧ m2 = m ∧ e1 = e ∧ e2 = e
noncomputable def L_C17 : LoopF := mkLoop [18, 101, 102, 9] (loopOf Try.f9 24) Try.f9.ntmps fun sl H nx esc => match sl, H, nx, esc with
  | [(18, .v (.one (.f (.fs b 2 m e)))), (101, .v (.one (.f (.lit (.int .i64 n'))))), (102, .v (.one (.f (.lit (.int .i64 i))))), (9, .v (.one (.ptr 2 0 0 0)))],
    [(1, .cells [.f (.lit (.int .i64 h2)), .f (.fs b2 2 m2 e2)]), (2, .cells [.f (.lit (.int .i64 h1)), .f (.fs b1 2 m1 e1)]), (0, .cells [.f (.lit (.int .i64 c1)), .f (.lit (.int .i64 c2))])], 3, false =>
    .need (pb (PreC h1 h2 b b1 b2 m m1 m2 e e1 e2 n' i)) (.ret (.exit 2, [], [], 3, false))
  | _, _, _, _ => .bad
theorem L_C17_ok : LoopOk Try.prog L_C17 := by
  refine mkLoop_ok fun sl H nx esc e sl' H' nx' esc' h => ?_
  split at h
  · obtain ⟨hp, h2⟩ := T.need_some h
    obtain ⟨⟨⟨ep, ho, rfl⟩, hm⟩, rfl, rfl, rfl, rfl, rfl, rfl, rfl, rfl, rfl⟩ := pb_of hp
    have := T.ret_some h2
    simp only [Prod.mk.injEq] at this
    obtain ⟨rfl, rfl, rfl, rfl, rfl⟩ := this
    exact loop_C _ _ _ ep ho _ _ hm (StLe.same (Nat.le_refl 3) rfl rfl rfl fun b => by rcases b with _ | _ | _ | b <;> rfl) rfl
  · exact (T.bad_some h).elim
noncomputable def ll_T17 : List (Nat × Nat × LoopF) := (9, 7, L_T17) :: (9, 24, L_C17) :: ll_A17
theorem ll_T17_ok : ∀ x ∈ ll_T17, LoopOk Try.prog x.2.2 := List.forall_mem_cons.2 ⟨L_T17_ok, List.forall_mem_cons.2 ⟨L_C17_ok, ll_A17_ok⟩⟩

noncomputable def GPJ2 : Ctx := GS.with ss_Known17 ll_T17
noncomputable def tgt_PTells (a b : Int) (nl : Bool) (n : Nat) (x : Nat → Raw17) : T CallOut := evCallW [] GPJ2 300 9 [AI a, AI b, .one (.f (.fs nl 3 n fun i => (x i).fs))] [] 0
theorem GKPJ2 : KnownOk Try.prog GPJ2 := KnownOk.lists ss_Known17_ok ll_T17_ok
theorem tree_PTells (a b : Int) (nl : Bool) (n : Nat) (x : Nat → Raw17) : (tgt_PTells a b nl n x).over (.br (.br (.ff (.ff (.ff (.ff (.ff (.ff (.br .leaf (.br (.br (.br (.br .leaf (.br (.br .leaf .skip) .skip)) .skip) .skip) .skip)))))))) .skip) .skip) =
  T.br (pb ((0 : Int) < (8 : Int) ∧ (8 : Int) ≤ (4611686018427387904 : Int)))
    (T.br (pb ((0 : Int) < (9 : Int) ∧ (9 : Int) ≤ (4611686018427387904 : Int)))
      (T.br
        (!rtB (IntKind.wrap IntKind.i64 (a % (8 : Int) - (1 : Int))) (IntKind.wrap IntKind.i64 (b % (9 : Int) - (1 : Int))) == rtB (IntKind.wrap IntKind.i64 (a % (8 : Int) - (1 : Int))) (IntKind.wrap IntKind.i64 (b % (9 : Int) - (1 : Int))))
        (T.ret (out0 (SV.v (AB false))))
        (T.br (pb (loopOf Proofs.Try.f9 (7 : Nat) = loopOf Proofs.Try.f9 (7 : Nat) ∧ (116 : Nat) = (116 : Nat)))
          (T.br
            (pb
              (PreT nl n (fun i => Raw17.fs (x i)) (↑n : Int) (0 : Int)
                (bif rtB (IntKind.wrap IntKind.i64 (a % (8 : Int) - (1 : Int))) (IntKind.wrap IntKind.i64 (b % (9 : Int) - (1 : Int))) then IntKind.wrap IntKind.i64 (a % (8 : Int) - (1 : Int)) else (0 : Int))
                (bif rtB (IntKind.wrap IntKind.i64 (a % (8 : Int) - (1 : Int))) (IntKind.wrap IntKind.i64 (b % (9 : Int) - (1 : Int))) then IntKind.wrap IntKind.i64 (a % (8 : Int) - (1 : Int)) else (0 : Int))
                (!rtB (IntKind.wrap IntKind.i64 (a % (8 : Int) - (1 : Int))) (IntKind.wrap IntKind.i64 (b % (9 : Int) - (1 : Int))))
                (!rtB (IntKind.wrap IntKind.i64 (a % (8 : Int) - (1 : Int))) (IntKind.wrap IntKind.i64 (b % (9 : Int) - (1 : Int))))
                (bif rtB (IntKind.wrap IntKind.i64 (a % (8 : Int) - (1 : Int))) (IntKind.wrap IntKind.i64 (b % (9 : Int) - (1 : Int))) then Int.toNat (IntKind.wrap IntKind.i64 (b % (9 : Int) - (1 : Int))) else (0 : Nat))
                (bif rtB (IntKind.wrap IntKind.i64 (a % (8 : Int) - (1 : Int))) (IntKind.wrap IntKind.i64 (b % (9 : Int) - (1 : Int))) then Int.toNat (IntKind.wrap IntKind.i64 (b % (9 : Int) - (1 : Int))) else (0 : Nat))
                (ptE (fun x => (1 : Int)) fun i => Int.tmod (↑i : Int) (IntKind.wrap IntKind.i64 (a % (8 : Int) - (1 : Int)))) (ptE (fun x => (1 : Int)) fun i => Int.tmod (↑i : Int) (IntKind.wrap IntKind.i64 (a % (8 : Int) - (1 : Int))))))
            (T.br
              (pb
                (PtN
                  (ptE
                    (Prod.fst
                      (Proofs.Ytabmkefbceepmaa.En.runT
                        (bif rtB (IntKind.wrap IntKind.i64 (a % (8 : Int) - (1 : Int))) (IntKind.wrap IntKind.i64 (b % (9 : Int) - (1 : Int))) then IntKind.wrap IntKind.i64 (a % (8 : Int) - (1 : Int)) else (0 : Int))
                        (bif rtB (IntKind.wrap IntKind.i64 (a % (8 : Int) - (1 : Int))) (IntKind.wrap IntKind.i64 (b % (9 : Int) - (1 : Int))) then Int.toNat (IntKind.wrap IntKind.i64 (b % (9 : Int) - (1 : Int))) else (0 : Nat))
                        (xOf fun i => Raw17.fs (x i)) n (0 : Nat)
                        (epOf (ptE (fun x => (1 : Int)) fun i => Int.tmod (↑i : Int) (IntKind.wrap IntKind.i64 (a % (8 : Int) - (1 : Int)))),
                          hoOf (ptE (fun x => (1 : Int)) fun i => Int.tmod (↑i : Int) (IntKind.wrap IntKind.i64 (a % (8 : Int) - (1 : Int)))))))
                    (Prod.snd
                      (Proofs.Ytabmkefbceepmaa.En.runT
                        (bif rtB (IntKind.wrap IntKind.i64 (a % (8 : Int) - (1 : Int))) (IntKind.wrap IntKind.i64 (b % (9 : Int) - (1 : Int))) then IntKind.wrap IntKind.i64 (a % (8 : Int) - (1 : Int)) else (0 : Int))
                        (bif rtB (IntKind.wrap IntKind.i64 (a % (8 : Int) - (1 : Int))) (IntKind.wrap IntKind.i64 (b % (9 : Int) - (1 : Int))) then Int.toNat (IntKind.wrap IntKind.i64 (b % (9 : Int) - (1 : Int))) else (0 : Nat))
                        (xOf fun i => Raw17.fs (x i)) n (0 : Nat)
                        (epOf (ptE (fun x => (1 : Int)) fun i => Int.tmod (↑i : Int) (IntKind.wrap IntKind.i64 (a % (8 : Int) - (1 : Int)))),
                          hoOf (ptE (fun x => (1 : Int)) fun i => Int.tmod (↑i : Int) (IntKind.wrap IntKind.i64 (a % (8 : Int) - (1 : Int))))))))
                  (!rtB (IntKind.wrap IntKind.i64 (a % (8 : Int) - (1 : Int))) (IntKind.wrap IntKind.i64 (b % (9 : Int) - (1 : Int))))
                  (bif rtB (IntKind.wrap IntKind.i64 (a % (8 : Int) - (1 : Int))) (IntKind.wrap IntKind.i64 (b % (9 : Int) - (1 : Int))) then Int.toNat (IntKind.wrap IntKind.i64 (b % (9 : Int) - (1 : Int))) else (0 : Nat))))
              (T.br
                ((↑(bif rtB (IntKind.wrap IntKind.i64 (a % (8 : Int) - (1 : Int))) (IntKind.wrap IntKind.i64 (b % (9 : Int) - (1 : Int))) then Int.toNat (IntKind.wrap IntKind.i64 (b % (9 : Int) - (1 : Int))) else (0 : Nat)) : Int) !=
                  (↑(bif rtB (IntKind.wrap IntKind.i64 (a % (8 : Int) - (1 : Int))) (IntKind.wrap IntKind.i64 (b % (9 : Int) - (1 : Int))) then Int.toNat (IntKind.wrap IntKind.i64 (b % (9 : Int) - (1 : Int))) else (0 : Nat)) : Int))
                (T.ret (out0 (SV.v (AB false))))
                (T.br (pb (loopOf Proofs.Try.f9 (24 : Nat) = loopOf Proofs.Try.f9 (24 : Nat) ∧ (116 : Nat) = (116 : Nat)))
                  (T.br
                    (pb
                      (PreC (bif rtB (IntKind.wrap IntKind.i64 (a % (8 : Int) - (1 : Int))) (IntKind.wrap IntKind.i64 (b % (9 : Int) - (1 : Int))) then IntKind.wrap IntKind.i64 (a % (8 : Int) - (1 : Int)) else (0 : Int))
                        (bif rtB (IntKind.wrap IntKind.i64 (a % (8 : Int) - (1 : Int))) (IntKind.wrap IntKind.i64 (b % (9 : Int) - (1 : Int))) then IntKind.wrap IntKind.i64 (a % (8 : Int) - (1 : Int)) else (0 : Int))
                        (!rtB (IntKind.wrap IntKind.i64 (a % (8 : Int) - (1 : Int))) (IntKind.wrap IntKind.i64 (b % (9 : Int) - (1 : Int))))
                        (!rtB (IntKind.wrap IntKind.i64 (a % (8 : Int) - (1 : Int))) (IntKind.wrap IntKind.i64 (b % (9 : Int) - (1 : Int))))
                        (!rtB (IntKind.wrap IntKind.i64 (a % (8 : Int) - (1 : Int))) (IntKind.wrap IntKind.i64 (b % (9 : Int) - (1 : Int))))
                        (bif rtB (IntKind.wrap IntKind.i64 (a % (8 : Int) - (1 : Int))) (IntKind.wrap IntKind.i64 (b % (9 : Int) - (1 : Int))) then Int.toNat (IntKind.wrap IntKind.i64 (b % (9 : Int) - (1 : Int))) else (0 : Nat))
                        (bif rtB (IntKind.wrap IntKind.i64 (a % (8 : Int) - (1 : Int))) (IntKind.wrap IntKind.i64 (b % (9 : Int) - (1 : Int))) then Int.toNat (IntKind.wrap IntKind.i64 (b % (9 : Int) - (1 : Int))) else (0 : Nat))
                        (bif rtB (IntKind.wrap IntKind.i64 (a % (8 : Int) - (1 : Int))) (IntKind.wrap IntKind.i64 (b % (9 : Int) - (1 : Int))) then Int.toNat (IntKind.wrap IntKind.i64 (b % (9 : Int) - (1 : Int))) else (0 : Nat))
                        (ptE
                          (Prod.fst
                            (Proofs.Ytabmkefbceepmaa.En.runT
                              (bif rtB (IntKind.wrap IntKind.i64 (a % (8 : Int) - (1 : Int))) (IntKind.wrap IntKind.i64 (b % (9 : Int) - (1 : Int))) then IntKind.wrap IntKind.i64 (a % (8 : Int) - (1 : Int)) else (0 : Int))
                              (bif rtB (IntKind.wrap IntKind.i64 (a % (8 : Int) - (1 : Int))) (IntKind.wrap IntKind.i64 (b % (9 : Int) - (1 : Int))) then Int.toNat (IntKind.wrap IntKind.i64 (b % (9 : Int) - (1 : Int))) else (0 : Nat))
                              (xOf fun i => Raw17.fs (x i)) n (0 : Nat)
                              (epOf (ptE (fun x => (1 : Int)) fun i => Int.tmod (↑i : Int) (IntKind.wrap IntKind.i64 (a % (8 : Int) - (1 : Int)))),
                                hoOf (ptE (fun x => (1 : Int)) fun i => Int.tmod (↑i : Int) (IntKind.wrap IntKind.i64 (a % (8 : Int) - (1 : Int)))))))
                          (Prod.snd
                            (Proofs.Ytabmkefbceepmaa.En.runT
                              (bif rtB (IntKind.wrap IntKind.i64 (a % (8 : Int) - (1 : Int))) (IntKind.wrap IntKind.i64 (b % (9 : Int) - (1 : Int))) then IntKind.wrap IntKind.i64 (a % (8 : Int) - (1 : Int)) else (0 : Int))
                              (bif rtB (IntKind.wrap IntKind.i64 (a % (8 : Int) - (1 : Int))) (IntKind.wrap IntKind.i64 (b % (9 : Int) - (1 : Int))) then Int.toNat (IntKind.wrap IntKind.i64 (b % (9 : Int) - (1 : Int))) else (0 : Nat))
                              (xOf fun i => Raw17.fs (x i)) n (0 : Nat)
                              (epOf (ptE (fun x => (1 : Int)) fun i => Int.tmod (↑i : Int) (IntKind.wrap IntKind.i64 (a % (8 : Int) - (1 : Int)))),
                                hoOf (ptE (fun x => (1 : Int)) fun i => Int.tmod (↑i : Int) (IntKind.wrap IntKind.i64 (a % (8 : Int) - (1 : Int))))))))
                        (ptE
                          (Prod.fst
                            (Proofs.Ytabmkefbceepmaa.En.runT
                              (bif rtB (IntKind.wrap IntKind.i64 (a % (8 : Int) - (1 : Int))) (IntKind.wrap IntKind.i64 (b % (9 : Int) - (1 : Int))) then IntKind.wrap IntKind.i64 (a % (8 : Int) - (1 : Int)) else (0 : Int))
                              (bif rtB (IntKind.wrap IntKind.i64 (a % (8 : Int) - (1 : Int))) (IntKind.wrap IntKind.i64 (b % (9 : Int) - (1 : Int))) then Int.toNat (IntKind.wrap IntKind.i64 (b % (9 : Int) - (1 : Int))) else (0 : Nat))
                              (xOf fun i => Raw17.fs (x i)) n (0 : Nat)
                              (epOf (ptE (fun x => (1 : Int)) fun i => Int.tmod (↑i : Int) (IntKind.wrap IntKind.i64 (a % (8 : Int) - (1 : Int)))),
                                hoOf (ptE (fun x => (1 : Int)) fun i => Int.tmod (↑i : Int) (IntKind.wrap IntKind.i64 (a % (8 : Int) - (1 : Int)))))))
                          (Prod.snd
                            (Proofs.Ytabmkefbceepmaa.En.runT
                              (bif rtB (IntKind.wrap IntKind.i64 (a % (8 : Int) - (1 : Int))) (IntKind.wrap IntKind.i64 (b % (9 : Int) - (1 : Int))) then IntKind.wrap IntKind.i64 (a % (8 : Int) - (1 : Int)) else (0 : Int))
                              (bif rtB (IntKind.wrap IntKind.i64 (a % (8 : Int) - (1 : Int))) (IntKind.wrap IntKind.i64 (b % (9 : Int) - (1 : Int))) then Int.toNat (IntKind.wrap IntKind.i64 (b % (9 : Int) - (1 : Int))) else (0 : Nat))
                              (xOf fun i => Raw17.fs (x i)) n (0 : Nat)
                              (epOf (ptE (fun x => (1 : Int)) fun i => Int.tmod (↑i : Int) (IntKind.wrap IntKind.i64 (a % (8 : Int) - (1 : Int)))),
                                hoOf (ptE (fun x => (1 : Int)) fun i => Int.tmod (↑i : Int) (IntKind.wrap IntKind.i64 (a % (8 : Int) - (1 : Int))))))))
                        (ptE
                          (Prod.fst
                            (Proofs.Ytabmkefbceepmaa.En.runT
                              (bif rtB (IntKind.wrap IntKind.i64 (a % (8 : Int) - (1 : Int))) (IntKind.wrap IntKind.i64 (b % (9 : Int) - (1 : Int))) then IntKind.wrap IntKind.i64 (a % (8 : Int) - (1 : Int)) else (0 : Int))
                              (bif rtB (IntKind.wrap IntKind.i64 (a % (8 : Int) - (1 : Int))) (IntKind.wrap IntKind.i64 (b % (9 : Int) - (1 : Int))) then Int.toNat (IntKind.wrap IntKind.i64 (b % (9 : Int) - (1 : Int))) else (0 : Nat))
                              (xOf fun i => Raw17.fs (x i)) n (0 : Nat)
                              (epOf (ptE (fun x => (1 : Int)) fun i => Int.tmod (↑i : Int) (IntKind.wrap IntKind.i64 (a % (8 : Int) - (1 : Int)))),
                                hoOf (ptE (fun x => (1 : Int)) fun i => Int.tmod (↑i : Int) (IntKind.wrap IntKind.i64 (a % (8 : Int) - (1 : Int)))))))
                          (Prod.snd
                            (Proofs.Ytabmkefbceepmaa.En.runT
                              (bif rtB (IntKind.wrap IntKind.i64 (a % (8 : Int) - (1 : Int))) (IntKind.wrap IntKind.i64 (b % (9 : Int) - (1 : Int))) then IntKind.wrap IntKind.i64 (a % (8 : Int) - (1 : Int)) else (0 : Int))
                              (bif rtB (IntKind.wrap IntKind.i64 (a % (8 : Int) - (1 : Int))) (IntKind.wrap IntKind.i64 (b % (9 : Int) - (1 : Int))) then Int.toNat (IntKind.wrap IntKind.i64 (b % (9 : Int) - (1 : Int))) else (0 : Nat))
                              (xOf fun i => Raw17.fs (x i)) n (0 : Nat)
                              (epOf (ptE (fun x => (1 : Int)) fun i => Int.tmod (↑i : Int) (IntKind.wrap IntKind.i64 (a % (8 : Int) - (1 : Int)))),
                                hoOf (ptE (fun x => (1 : Int)) fun i => Int.tmod (↑i : Int) (IntKind.wrap IntKind.i64 (a % (8 : Int) - (1 : Int))))))))
                        (↑(bif rtB (IntKind.wrap IntKind.i64 (a % (8 : Int) - (1 : Int))) (IntKind.wrap IntKind.i64 (b % (9 : Int) - (1 : Int))) then Int.toNat (IntKind.wrap IntKind.i64 (b % (9 : Int) - (1 : Int))) else (0 : Nat)) : Int)
                        (0 : Int)))
                    (T.ret (out0 (SV.v (AB true)))) T.bad)
                  T.bad))
              T.bad)
            T.bad)
          T.bad))
      T.bad)
    T.bad := by kernel_rfl
theorem res_PTells (a b : Int) (nl : Bool) (n : Nat) (x : Nat → Raw17) (h : (n : Int) ≤ 9223372036854775807 ∧ (nl = true → n = 0)) : (tgt_PTells a b nl n x).res = some (out0 (.v (AB true))) := by
  refine T.over_eq _ (tree_PTells a b nl n x) ?_
  simp only [T.res_br, T.res_ret, T.res_bad]
  have h8 : (0 : Int) < 8 ∧ (8 : Int) ≤ 4611686018427387904 := by omega
  have h9 : (0 : Int) < 9 ∧ (9 : Int) ≤ 4611686018427387904 := by omega
  have hN := (ptN_new (fun _ => 0) (fun _ => 0) (IntKind.wrap IntKind.i64 (a % (8 : Int) - (1 : Int))) (IntKind.wrap IntKind.i64 (b % (9 : Int) - (1 : Int)))).2
  rw [if_pos (pb_true h8), if_pos (pb_true h9), if_neg (by simp), if_pos (pb_true (by simp)), if_pos (pb_true ?_), if_pos (pb_true ?_), if_neg (by simp), if_pos (pb_true (by simp)), if_pos (pb_true ?_)]
  · exact ⟨⟨⟨_, _, rfl⟩, hN⟩, rfl, rfl, rfl, rfl, rfl, rfl, rfl, rfl, rfl⟩
  · exact ⟨⟨_, _, rfl⟩, hN⟩
  · exact ⟨⟨x, rfl⟩, rfl, rfl, rfl, rfl, rfl, rfl, ⟨⟨_, _, rfl⟩, hN⟩, h.1, h.2⟩
end Go.Proofs.Ytabmkefbceepmaa.En
