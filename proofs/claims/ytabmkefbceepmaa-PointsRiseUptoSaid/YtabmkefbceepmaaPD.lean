/- A round of ClientOne's loop. -/
import Derived.Test.YtabmkefbceepmaaPC
namespace Go.Proofs.Ytabmkefbceepmaa.En
open Go
set_option linter.unusedVariables false
set_option linter.unusedSimpArgs false
set_option maxRecDepth 20000
structure Raw23 where
  what : Int
  seq : Int
  client : Int
  why : Int
  op : RawOp
def Raw23.fs (x : Raw23) : List FV := [.lit (.int .i64 x.what), .lit (.int .i64 x.seq), .lit (.int .i64 x.client), .lit (.int .i64 x.why),
  .lit (.int .i64 x.op.kind), .lit (.int .i64 x.op.key), .lit (.int .i64 x.op.value), .lit (.int .i64 x.op.old), .lit (.int .i64 x.op.client), .lit (.int .i64 x.op.seq), .lit (.int .i64 x.op.bend), .lit (.string x.op.text)]
def SO (nl : Bool) (n : Nat) (x : Nat → Raw23) (i : Nat) (sq kd : Int) (ky vl od : ByteArray) (wt : Bool) : St :=
  ⟨[(25, .v (.one (.f (.fs nl 12 n fun i => (x i).fs)))), (26, .v (AI n)), (27, .v (AI i)), (3, .v (AP 0)), (4, .v (AI sq)), (5, .v (AB wt)), (6, .v (AP 1))],
    [(1, .cells [I kd, Sg ky, Sg vl, Sg od]), (0, .cells [I 1, I sq, I kd, Sg ky, Sg vl, Sg od, Bo wt])], 2, false, 0, []⟩

noncomputable def GPD1 : Ctx := GS.with ss_known23 ll0
noncomputable def tgt_one_true (nl : Bool) (n : Nat) (x : Nat → Raw23) (i : Nat) (sq kd : Int) (ky vl od : ByteArray) : T (Ex × St) := evRound GPD1 300 7 Try.f7.ntmps (loopOf Try.f7 8) 2 [25, 26, 27, 3, 4, 5, 6] [2] (SO nl n x i sq kd ky vl od true)
noncomputable def tgt_one_false (nl : Bool) (n : Nat) (x : Nat → Raw23) (i : Nat) (sq kd : Int) (ky vl od : ByteArray) : T (Ex × St) := evRound GPD1 300 7 Try.f7.ntmps (loopOf Try.f7 8) 2 [25, 26, 27, 3, 4, 5, 6] [2] (SO nl n x i sq kd ky vl od false)
theorem GKPD1 : KnownOk Try.prog GPD1 := KnownOk.lists ss_known23_ok ll0_ok
theorem tree_one_true (nl : Bool) (n : Nat) (x : Nat → Raw23) (i : Nat) (sq kd : Int) (ky vl od : ByteArray) : (tgt_one_true nl n x i sq kd ky vl od).over (.br (.br (.br (.br (.br (.tt (.ff (.ff (.ff (.ff (.ff (.ff (.ff (.ff (.ff (.ff (.ff (.ff (.ff (.ff (.ff (.ff (.ff (.ff (.tt (.tt (.ff (.tt (.ff (.ff (.ff (.ff .leaf))))))))))))))))))))))))))) (.br (.ff (.ff (.ff (.ff (.ff (.ff (.ff (.ff (.ff (.ff (.ff (.ff (.ff (.ff (.ff (.ff (.ff (.ff (.tt (.tt (.ff (.tt (.ff (.ff (.ff (.ff .leaf)))))))))))))))))))))))))) (.br (.ff (.ff (.tt (.tt (.tt (.tt (.tt (.br (.tt (.tt (.tt (.tt (.tt (.ff (.tt (.ff (.tt .skip))))))))) (.ff (.ff (.ff (.tt (.ff (.ff (.tt (.ff (.br .skip (.ff .leaf)))))))))))))))))) (.br .skip (.br .skip .leaf))))) .skip) .skip) .skip) .leaf) =
  T.br (decide ((↑i : Int) < (↑n : Int)))
    (T.br (!nl)
      (T.br (decide ((0 : Int) ≤ (↑i : Int) ∧ (↑i : Int) < (↑n : Int)))
        (T.br (pb ((0 : Int) < (4 : Int) ∧ (4 : Int) ≤ (4611686018427387904 : Int)))
          (T.br (Raw23.what (x i) % (4 : Int) == (0 : Int))
            (T.ret
              (Ex.normal,
                {
                  sl :=
                    [((25 : Nat),
                        SV.v
                          (AV.one
                            (CV.f
                              (FV.fs nl (12 : Nat) n fun i =>
                                [FV.lit (Value.int IntKind.i64 (Raw23.what (x i))), FV.lit (Value.int IntKind.i64 (Raw23.seq (x i))), FV.lit (Value.int IntKind.i64 (Raw23.client (x i))), FV.lit (Value.int IntKind.i64 (Raw23.why (x i))),
                                  FV.lit (Value.int IntKind.i64 (RawOp.kind (Raw23.op (x i)))), FV.lit (Value.int IntKind.i64 (RawOp.key (Raw23.op (x i)))), FV.lit (Value.int IntKind.i64 (RawOp.value (Raw23.op (x i)))),
                                  FV.lit (Value.int IntKind.i64 (RawOp.old (Raw23.op (x i)))), FV.lit (Value.int IntKind.i64 (RawOp.client (Raw23.op (x i)))), FV.lit (Value.int IntKind.i64 (RawOp.seq (Raw23.op (x i)))),
                                  FV.lit (Value.int IntKind.i64 (RawOp.bend (Raw23.op (x i)))), FV.lit (Value.string (RawOp.text (Raw23.op (x i))))])))),
                      ((26 : Nat), SV.v (AI (↑n : Int))), ((27 : Nat), SV.v (AI (IntKind.wrap IntKind.i64 ((↑i : Int) + (1 : Int))))), ((3 : Nat), SV.v (AP (0 : Nat))), ((4 : Nat), SV.v (AI sq)), ((5 : Nat), SV.v (AB true)),
                      ((6 : Nat), SV.v (AP (1 : Nat)))],
                  H := [((0 : Nat), Ob.cells [I (1 : Int), I sq, I kd, Sg ky, Sg vl, Sg od, Bo true]), ((1 : Nat), Ob.cells [I kd, Sg ky, Sg vl, Sg od])], nx := (2 : Nat), esc := false, base := (0 : Nat), wr := [] }))
            (T.br (Raw23.what (x i) % (4 : Int) == (1 : Int))
              (T.ret
                (Ex.normal,
                  {
                    sl :=
                      [((25 : Nat),
                          SV.v
                            (AV.one
                              (CV.f
                                (FV.fs nl (12 : Nat) n fun i =>
                                  [FV.lit (Value.int IntKind.i64 (Raw23.what (x i))), FV.lit (Value.int IntKind.i64 (Raw23.seq (x i))), FV.lit (Value.int IntKind.i64 (Raw23.client (x i))), FV.lit (Value.int IntKind.i64 (Raw23.why (x i))),
                                    FV.lit (Value.int IntKind.i64 (RawOp.kind (Raw23.op (x i)))), FV.lit (Value.int IntKind.i64 (RawOp.key (Raw23.op (x i)))), FV.lit (Value.int IntKind.i64 (RawOp.value (Raw23.op (x i)))),
                                    FV.lit (Value.int IntKind.i64 (RawOp.old (Raw23.op (x i)))), FV.lit (Value.int IntKind.i64 (RawOp.client (Raw23.op (x i)))), FV.lit (Value.int IntKind.i64 (RawOp.seq (Raw23.op (x i)))),
                                    FV.lit (Value.int IntKind.i64 (RawOp.bend (Raw23.op (x i)))), FV.lit (Value.string (RawOp.text (Raw23.op (x i))))])))),
                        ((26 : Nat), SV.v (AI (↑n : Int))), ((27 : Nat), SV.v (AI (IntKind.wrap IntKind.i64 ((↑i : Int) + (1 : Int))))), ((3 : Nat), SV.v (AP (0 : Nat))), ((4 : Nat), SV.v (AI sq)), ((5 : Nat), SV.v (AB true)),
                        ((6 : Nat), SV.v (AP (1 : Nat)))],
                    H := [((0 : Nat), Ob.cells [I (1 : Int), I sq, I kd, Sg ky, Sg vl, Sg od, Bo true]), ((1 : Nat), Ob.cells [I kd, Sg ky, Sg vl, Sg od])], nx := (2 : Nat), esc := false, base := (0 : Nat), wr := [] }))
              (T.br (Raw23.what (x i) % (4 : Int) == (2 : Int))
                (T.br (sq != sq) T.bad
                  (T.br (!(kd == kd && (ky == ky && (vl == vl && (od == od && true))))) T.bad
                    (T.ret
                      (Ex.normal,
                        {
                          sl :=
                            [((25 : Nat),
                                SV.v
                                  (AV.one
                                    (CV.f
                                      (FV.fs nl (12 : Nat) n fun i =>
                                        [FV.lit (Value.int IntKind.i64 (Raw23.what (x i))), FV.lit (Value.int IntKind.i64 (Raw23.seq (x i))), FV.lit (Value.int IntKind.i64 (Raw23.client (x i))),
                                          FV.lit (Value.int IntKind.i64 (Raw23.why (x i))), FV.lit (Value.int IntKind.i64 (RawOp.kind (Raw23.op (x i)))), FV.lit (Value.int IntKind.i64 (RawOp.key (Raw23.op (x i)))),
                                          FV.lit (Value.int IntKind.i64 (RawOp.value (Raw23.op (x i)))), FV.lit (Value.int IntKind.i64 (RawOp.old (Raw23.op (x i)))), FV.lit (Value.int IntKind.i64 (RawOp.client (Raw23.op (x i)))),
                                          FV.lit (Value.int IntKind.i64 (RawOp.seq (Raw23.op (x i)))), FV.lit (Value.int IntKind.i64 (RawOp.bend (Raw23.op (x i)))), FV.lit (Value.string (RawOp.text (Raw23.op (x i))))])))),
                              ((26 : Nat), SV.v (AI (↑n : Int))), ((27 : Nat), SV.v (AI (IntKind.wrap IntKind.i64 ((↑i : Int) + (1 : Int))))), ((3 : Nat), SV.v (AP (0 : Nat))), ((4 : Nat), SV.v (AI sq)), ((5 : Nat), SV.v (AB true)),
                              ((6 : Nat), SV.v (AP (1 : Nat)))],
                          H := [((0 : Nat), Ob.cells [I (1 : Int), I sq, I kd, Sg ky, Sg vl, Sg od, Bo true]), ((1 : Nat), Ob.cells [I kd, Sg ky, Sg vl, Sg od])], nx := (2 : Nat), esc := false, base := (0 : Nat), wr := [] }))))
                (T.br (!hearB true (1 : Int) sq (9 : Int) (1 : Int) sq (4 : Int) == true) T.bad
                  (T.br (!(!hearB true (1 : Int) sq (9 : Int) (1 : Int) sq (4 : Int)) == false) T.bad
                    (T.ret
                      (Ex.normal,
                        {
                          sl :=
                            [((25 : Nat),
                                SV.v
                                  (AV.one
                                    (CV.f
                                      (FV.fs nl (12 : Nat) n fun i =>
                                        [FV.lit (Value.int IntKind.i64 (Raw23.what (x i))), FV.lit (Value.int IntKind.i64 (Raw23.seq (x i))), FV.lit (Value.int IntKind.i64 (Raw23.client (x i))),
                                          FV.lit (Value.int IntKind.i64 (Raw23.why (x i))), FV.lit (Value.int IntKind.i64 (RawOp.kind (Raw23.op (x i)))), FV.lit (Value.int IntKind.i64 (RawOp.key (Raw23.op (x i)))),
                                          FV.lit (Value.int IntKind.i64 (RawOp.value (Raw23.op (x i)))), FV.lit (Value.int IntKind.i64 (RawOp.old (Raw23.op (x i)))), FV.lit (Value.int IntKind.i64 (RawOp.client (Raw23.op (x i)))),
                                          FV.lit (Value.int IntKind.i64 (RawOp.seq (Raw23.op (x i)))), FV.lit (Value.int IntKind.i64 (RawOp.bend (Raw23.op (x i)))), FV.lit (Value.string (RawOp.text (Raw23.op (x i))))])))),
                              ((26 : Nat), SV.v (AI (↑n : Int))), ((27 : Nat), SV.v (AI (IntKind.wrap IntKind.i64 ((↑i : Int) + (1 : Int))))), ((3 : Nat), SV.v (AP (0 : Nat))), ((4 : Nat), SV.v (AI sq)), ((5 : Nat), SV.v (AB false)),
                              ((6 : Nat), SV.v (AP (1 : Nat)))],
                          H := [((0 : Nat), Ob.cells [I (1 : Int), I sq, I kd, Sg ky, Sg vl, Sg od, Bo !hearB true (1 : Int) sq (9 : Int) (1 : Int) sq (4 : Int)]), ((1 : Nat), Ob.cells [I kd, Sg ky, Sg vl, Sg od])], nx := (2 : Nat),
                          esc := false, base := (0 : Nat), wr := [] })))))))
          T.bad)
        T.bad)
      T.bad)
    (T.ret (Ex.exit (0 : Nat), { sl := [], H := [((1 : Nat), Ob.cells [I kd, Sg ky, Sg vl, Sg od]), ((0 : Nat), Ob.cells [I (1 : Int), I sq, I kd, Sg ky, Sg vl, Sg od, Bo true])], nx := (2 : Nat), esc := false, base := (0 : Nat), wr := [] })) := by kernel_rfl
theorem tree_one_false (nl : Bool) (n : Nat) (x : Nat → Raw23) (i : Nat) (sq kd : Int) (ky vl od : ByteArray) : (tgt_one_false nl n x i sq kd ky vl od).over (.br (.br (.br (.br (.br (.tt (.br (.tt (.tt (.tt (.tt (.tt (.tt (.tt (.tt (.tt (.tt .skip)))))))))) (.ff (.ff (.br (.tt (.tt (.tt (.tt (.tt (.br (.tt (.tt (.tt (.tt (.tt (.tt (.tt (.tt (.tt (.tt (.tt (.ff (.tt (.ff (.tt (.tt (.tt (.tt (.tt (.tt .skip)))))))))))))))))))) (.ff (.ff (.tt (.ff (.tt (.br (.tt (.tt (.tt (.tt (.tt (.ff (.tt (.ff (.tt (.tt (.tt (.tt (.tt (.tt .skip)))))))))))))) (.ff (.ff (.ff (.tt (.ff (.ff (.tt (.ff (.br (.tt (.tt (.tt (.tt (.tt .skip))))) (.ff (.ff (.br (.tt (.ff (.tt (.ff (.br .skip (.br (.br .skip .leaf) .skip)))))) (.ff (.ff (.ff (.ff (.ff (.br (.br .skip .leaf) .skip)))))))))))))))))))))))))))))) (.ff (.ff (.ff (.ff (.ff (.ff (.ff (.ff (.ff (.ff (.ff (.ff (.ff (.ff (.br (.tt (.ff (.tt (.ff (.br .skip (.br .skip (.br .skip .leaf))))))) (.ff (.ff (.ff (.ff (.ff (.br .skip (.br .skip .leaf))))))))))))))))))))))))))) (.br (.br (.tt (.tt (.tt (.tt (.tt (.tt (.tt (.tt (.tt (.tt .skip)))))))))) (.ff (.ff (.br (.tt (.tt (.tt (.tt (.tt (.br (.tt (.tt (.tt (.tt (.tt (.tt (.tt (.tt (.tt (.tt (.tt (.ff (.tt (.ff (.tt (.tt (.tt (.tt (.tt (.tt .skip)))))))))))))))))))) (.ff (.ff (.tt (.ff (.tt (.br (.tt (.tt (.tt (.tt (.tt (.ff (.tt (.ff (.tt (.tt (.tt (.tt (.tt (.tt .skip)))))))))))))) (.ff (.ff (.ff (.tt (.ff (.ff (.tt (.ff (.br (.tt (.tt (.tt (.tt (.tt .skip))))) (.ff (.ff (.br (.tt (.ff (.tt (.ff (.br .skip (.br (.br .skip .leaf) .skip)))))) (.ff (.ff (.ff (.ff (.ff (.br (.br .skip .leaf) .skip)))))))))))))))))))))))))))))) (.ff (.ff (.ff (.ff (.ff (.ff (.ff (.ff (.ff (.ff (.ff (.ff (.ff (.ff (.br (.tt (.ff (.tt (.ff (.br .skip (.br .skip (.br .skip .leaf))))))) (.ff (.ff (.ff (.ff (.ff (.br .skip (.br .skip .leaf)))))))))))))))))))))))))) (.br (.ff (.ff (.ff (.ff (.ff (.ff (.ff (.ff (.ff (.ff (.ff (.ff (.ff .leaf))))))))))))) (.ff (.ff .leaf))))) .skip) .skip) .skip) .leaf) =
  T.br (decide ((↑i : Int) < (↑n : Int)))
    (T.br (!nl)
      (T.br (decide ((0 : Int) ≤ (↑i : Int) ∧ (↑i : Int) < (↑n : Int)))
        (T.br (pb ((0 : Int) < (4 : Int) ∧ (4 : Int) ≤ (4611686018427387904 : Int)))
          (T.br (Raw23.what (x i) % (4 : Int) == (0 : Int))
            (T.br
              (((bif
                      rightB ((1 : Int) + RawOp.kind (Raw23.op (x i)) % (4 : Int)) (keyS (RawOp.key (Raw23.op (x i)) % (16 : Int))) (opV (RawOp.kind (Raw23.op (x i))) (RawOp.value (Raw23.op (x i))))
                        (opO (RawOp.kind (Raw23.op (x i))) (RawOp.old (Raw23.op (x i)))) then
                    (0 : Int)
                  else (1 : Int)) ==
                  (0 : Int)) ==
                false)
              T.bad
              (T.br
                ((bif
                      rightB ((1 : Int) + RawOp.kind (Raw23.op (x i)) % (4 : Int)) (keyS (RawOp.key (Raw23.op (x i)) % (16 : Int))) (opV (RawOp.kind (Raw23.op (x i))) (RawOp.value (Raw23.op (x i))))
                        (opO (RawOp.kind (Raw23.op (x i))) (RawOp.old (Raw23.op (x i)))) then
                    (0 : Int)
                  else (1 : Int)) ==
                  (0 : Int))
                (T.br
                  ((bif
                        rightB ((1 : Int) + RawOp.kind (Raw23.op (x i)) % (4 : Int)) (keyS (RawOp.key (Raw23.op (x i)) % (16 : Int))) (opV (RawOp.kind (Raw23.op (x i))) (RawOp.value (Raw23.op (x i))))
                          (opO (RawOp.kind (Raw23.op (x i))) (RawOp.old (Raw23.op (x i)))) then
                      IntKind.wrap IntKind.i64 (sq + (1 : Int))
                    else (0 : Int)) !=
                    IntKind.wrap IntKind.i64 (sq + (1 : Int)))
                  T.bad
                  (T.br
                    ((bif
                          rightB ((1 : Int) + RawOp.kind (Raw23.op (x i)) % (4 : Int)) (keyS (RawOp.key (Raw23.op (x i)) % (16 : Int))) (opV (RawOp.kind (Raw23.op (x i))) (RawOp.value (Raw23.op (x i))))
                            (opO (RawOp.kind (Raw23.op (x i))) (RawOp.old (Raw23.op (x i)))) then
                        (1 : Int)
                      else (0 : Int)) !=
                      (1 : Int))
                    T.bad
                    (T.br
                      (!((bif
                                rightB ((1 : Int) + RawOp.kind (Raw23.op (x i)) % (4 : Int)) (keyS (RawOp.key (Raw23.op (x i)) % (16 : Int))) (opV (RawOp.kind (Raw23.op (x i))) (RawOp.value (Raw23.op (x i))))
                                  (opO (RawOp.kind (Raw23.op (x i))) (RawOp.old (Raw23.op (x i)))) then
                              (1 : Int) + RawOp.kind (Raw23.op (x i)) % (4 : Int)
                            else (0 : Int)) ==
                            (1 : Int) + RawOp.kind (Raw23.op (x i)) % (4 : Int) &&
                          ((bif
                                  rightB ((1 : Int) + RawOp.kind (Raw23.op (x i)) % (4 : Int)) (keyS (RawOp.key (Raw23.op (x i)) % (16 : Int))) (opV (RawOp.kind (Raw23.op (x i))) (RawOp.value (Raw23.op (x i))))
                                    (opO (RawOp.kind (Raw23.op (x i))) (RawOp.old (Raw23.op (x i)))) then
                                keyS (RawOp.key (Raw23.op (x i)) % (16 : Int))
                              else { data := #[] }) ==
                              keyS (RawOp.key (Raw23.op (x i)) % (16 : Int)) &&
                            ((bif
                                    rightB ((1 : Int) + RawOp.kind (Raw23.op (x i)) % (4 : Int)) (keyS (RawOp.key (Raw23.op (x i)) % (16 : Int))) (opV (RawOp.kind (Raw23.op (x i))) (RawOp.value (Raw23.op (x i))))
                                      (opO (RawOp.kind (Raw23.op (x i))) (RawOp.old (Raw23.op (x i)))) then
                                  opV (RawOp.kind (Raw23.op (x i))) (RawOp.value (Raw23.op (x i)))
                                else { data := #[] }) ==
                                opV (RawOp.kind (Raw23.op (x i))) (RawOp.value (Raw23.op (x i))) &&
                              ((bif
                                      rightB ((1 : Int) + RawOp.kind (Raw23.op (x i)) % (4 : Int)) (keyS (RawOp.key (Raw23.op (x i)) % (16 : Int))) (opV (RawOp.kind (Raw23.op (x i))) (RawOp.value (Raw23.op (x i))))
                                        (opO (RawOp.kind (Raw23.op (x i))) (RawOp.old (Raw23.op (x i)))) then
                                    opO (RawOp.kind (Raw23.op (x i))) (RawOp.old (Raw23.op (x i)))
                                  else { data := #[] }) ==
                                  opO (RawOp.kind (Raw23.op (x i))) (RawOp.old (Raw23.op (x i))) &&
                                true)))))
                      T.bad
                      (T.br
                        ((bif
                              rightB ((1 : Int) + RawOp.kind (Raw23.op (x i)) % (4 : Int)) (keyS (RawOp.key (Raw23.op (x i)) % (16 : Int))) (opV (RawOp.kind (Raw23.op (x i))) (RawOp.value (Raw23.op (x i))))
                                (opO (RawOp.kind (Raw23.op (x i))) (RawOp.old (Raw23.op (x i)))) then
                            (0 : Int)
                          else (1 : Int)) !=
                          (0 : Int))
                        (T.br
                          ((bif
                                rightB ((1 : Int) + RawOp.kind (Raw23.op (x i)) % (4 : Int)) (keyS (RawOp.key (Raw23.op (x i)) % (16 : Int))) (opV (RawOp.kind (Raw23.op (x i))) (RawOp.value (Raw23.op (x i))))
                                  (opO (RawOp.kind (Raw23.op (x i))) (RawOp.old (Raw23.op (x i)))) then
                              (0 : Int)
                            else (1 : Int)) !=
                            (7 : Int))
                          T.bad
                          (T.br
                            ((bif
                                  rightB ((1 : Int) + RawOp.kind (Raw23.op (x i)) % (4 : Int)) (keyS (RawOp.key (Raw23.op (x i)) % (16 : Int))) (opV (RawOp.kind (Raw23.op (x i))) (RawOp.value (Raw23.op (x i))))
                                    (opO (RawOp.kind (Raw23.op (x i))) (RawOp.old (Raw23.op (x i)))) then
                                (0 : Int)
                              else (1 : Int)) ==
                              (0 : Int))
                            (T.br
                              (!rightB ((1 : Int) + RawOp.kind (Raw23.op (x i)) % (4 : Int)) (keyS (RawOp.key (Raw23.op (x i)) % (16 : Int))) (opV (RawOp.kind (Raw23.op (x i))) (RawOp.value (Raw23.op (x i))))
                                    (opO (RawOp.kind (Raw23.op (x i))) (RawOp.old (Raw23.op (x i)))) ==
                                  true)
                              T.bad
                              (T.ret
                                (Ex.normal,
                                  {
                                    sl :=
                                      [((25 : Nat),
                                          SV.v
                                            (AV.one
                                              (CV.f
                                                (FV.fs nl (12 : Nat) n fun i =>
                                                  [FV.lit (Value.int IntKind.i64 (Raw23.what (x i))), FV.lit (Value.int IntKind.i64 (Raw23.seq (x i))), FV.lit (Value.int IntKind.i64 (Raw23.client (x i))),
                                                    FV.lit (Value.int IntKind.i64 (Raw23.why (x i))), FV.lit (Value.int IntKind.i64 (RawOp.kind (Raw23.op (x i)))), FV.lit (Value.int IntKind.i64 (RawOp.key (Raw23.op (x i)))),
                                                    FV.lit (Value.int IntKind.i64 (RawOp.value (Raw23.op (x i)))), FV.lit (Value.int IntKind.i64 (RawOp.old (Raw23.op (x i)))), FV.lit (Value.int IntKind.i64 (RawOp.client (Raw23.op (x i)))),
                                                    FV.lit (Value.int IntKind.i64 (RawOp.seq (Raw23.op (x i)))), FV.lit (Value.int IntKind.i64 (RawOp.bend (Raw23.op (x i)))), FV.lit (Value.string (RawOp.text (Raw23.op (x i))))])))),
                                        ((26 : Nat), SV.v (AI (↑n : Int))), ((27 : Nat), SV.v (AI (IntKind.wrap IntKind.i64 ((↑i : Int) + (1 : Int))))), ((3 : Nat), SV.v (AP (0 : Nat))),
                                        ((4 : Nat), SV.v (AI (IntKind.wrap IntKind.i64 (sq + (1 : Int))))), ((5 : Nat), SV.v (AB true)), ((6 : Nat), SV.v (AP (1 : Nat)))],
                                    H :=
                                      [((0 : Nat),
                                          Ob.cells
                                            [I (1 : Int),
                                              I
                                                (bif
                                                    rightB ((1 : Int) + RawOp.kind (Raw23.op (x i)) % (4 : Int)) (keyS (RawOp.key (Raw23.op (x i)) % (16 : Int))) (opV (RawOp.kind (Raw23.op (x i))) (RawOp.value (Raw23.op (x i))))
                                                      (opO (RawOp.kind (Raw23.op (x i))) (RawOp.old (Raw23.op (x i)))) then
                                                  IntKind.wrap IntKind.i64 (sq + (1 : Int))
                                                else sq),
                                              I
                                                (bif
                                                    rightB ((1 : Int) + RawOp.kind (Raw23.op (x i)) % (4 : Int)) (keyS (RawOp.key (Raw23.op (x i)) % (16 : Int))) (opV (RawOp.kind (Raw23.op (x i))) (RawOp.value (Raw23.op (x i))))
                                                      (opO (RawOp.kind (Raw23.op (x i))) (RawOp.old (Raw23.op (x i)))) then
                                                  (1 : Int) + RawOp.kind (Raw23.op (x i)) % (4 : Int)
                                                else kd),
                                              Sg
                                                (bif
                                                    rightB ((1 : Int) + RawOp.kind (Raw23.op (x i)) % (4 : Int)) (keyS (RawOp.key (Raw23.op (x i)) % (16 : Int))) (opV (RawOp.kind (Raw23.op (x i))) (RawOp.value (Raw23.op (x i))))
                                                      (opO (RawOp.kind (Raw23.op (x i))) (RawOp.old (Raw23.op (x i)))) then
                                                  keyS (RawOp.key (Raw23.op (x i)) % (16 : Int))
                                                else ky),
                                              Sg
                                                (bif
                                                    rightB ((1 : Int) + RawOp.kind (Raw23.op (x i)) % (4 : Int)) (keyS (RawOp.key (Raw23.op (x i)) % (16 : Int))) (opV (RawOp.kind (Raw23.op (x i))) (RawOp.value (Raw23.op (x i))))
                                                      (opO (RawOp.kind (Raw23.op (x i))) (RawOp.old (Raw23.op (x i)))) then
                                                  opV (RawOp.kind (Raw23.op (x i))) (RawOp.value (Raw23.op (x i)))
                                                else vl),
                                              Sg
                                                (bif
                                                    rightB ((1 : Int) + RawOp.kind (Raw23.op (x i)) % (4 : Int)) (keyS (RawOp.key (Raw23.op (x i)) % (16 : Int))) (opV (RawOp.kind (Raw23.op (x i))) (RawOp.value (Raw23.op (x i))))
                                                      (opO (RawOp.kind (Raw23.op (x i))) (RawOp.old (Raw23.op (x i)))) then
                                                  opO (RawOp.kind (Raw23.op (x i))) (RawOp.old (Raw23.op (x i)))
                                                else od),
                                              Bo
                                                (rightB ((1 : Int) + RawOp.kind (Raw23.op (x i)) % (4 : Int)) (keyS (RawOp.key (Raw23.op (x i)) % (16 : Int))) (opV (RawOp.kind (Raw23.op (x i))) (RawOp.value (Raw23.op (x i))))
                                                  (opO (RawOp.kind (Raw23.op (x i))) (RawOp.old (Raw23.op (x i)))))]),
                                        ((1 : Nat),
                                          Ob.cells
                                            [I ((1 : Int) + RawOp.kind (Raw23.op (x i)) % (4 : Int)), Sg (keyS (RawOp.key (Raw23.op (x i)) % (16 : Int))), Sg (opV (RawOp.kind (Raw23.op (x i))) (RawOp.value (Raw23.op (x i)))),
                                              Sg (opO (RawOp.kind (Raw23.op (x i))) (RawOp.old (Raw23.op (x i))))])],
                                    nx := (2 : Nat), esc := false, base := (0 : Nat), wr := [] })))
                            T.bad))
                        (T.br
                          ((bif
                                rightB ((1 : Int) + RawOp.kind (Raw23.op (x i)) % (4 : Int)) (keyS (RawOp.key (Raw23.op (x i)) % (16 : Int))) (opV (RawOp.kind (Raw23.op (x i))) (RawOp.value (Raw23.op (x i))))
                                  (opO (RawOp.kind (Raw23.op (x i))) (RawOp.old (Raw23.op (x i)))) then
                              (0 : Int)
                            else (1 : Int)) ==
                            (0 : Int))
                          (T.br
                            (!rightB ((1 : Int) + RawOp.kind (Raw23.op (x i)) % (4 : Int)) (keyS (RawOp.key (Raw23.op (x i)) % (16 : Int))) (opV (RawOp.kind (Raw23.op (x i))) (RawOp.value (Raw23.op (x i))))
                                  (opO (RawOp.kind (Raw23.op (x i))) (RawOp.old (Raw23.op (x i)))) ==
                                true)
                            T.bad
                            (T.ret
                              (Ex.normal,
                                {
                                  sl :=
                                    [((25 : Nat),
                                        SV.v
                                          (AV.one
                                            (CV.f
                                              (FV.fs nl (12 : Nat) n fun i =>
                                                [FV.lit (Value.int IntKind.i64 (Raw23.what (x i))), FV.lit (Value.int IntKind.i64 (Raw23.seq (x i))), FV.lit (Value.int IntKind.i64 (Raw23.client (x i))),
                                                  FV.lit (Value.int IntKind.i64 (Raw23.why (x i))), FV.lit (Value.int IntKind.i64 (RawOp.kind (Raw23.op (x i)))), FV.lit (Value.int IntKind.i64 (RawOp.key (Raw23.op (x i)))),
                                                  FV.lit (Value.int IntKind.i64 (RawOp.value (Raw23.op (x i)))), FV.lit (Value.int IntKind.i64 (RawOp.old (Raw23.op (x i)))), FV.lit (Value.int IntKind.i64 (RawOp.client (Raw23.op (x i)))),
                                                  FV.lit (Value.int IntKind.i64 (RawOp.seq (Raw23.op (x i)))), FV.lit (Value.int IntKind.i64 (RawOp.bend (Raw23.op (x i)))), FV.lit (Value.string (RawOp.text (Raw23.op (x i))))])))),
                                      ((26 : Nat), SV.v (AI (↑n : Int))), ((27 : Nat), SV.v (AI (IntKind.wrap IntKind.i64 ((↑i : Int) + (1 : Int))))), ((3 : Nat), SV.v (AP (0 : Nat))),
                                      ((4 : Nat), SV.v (AI (IntKind.wrap IntKind.i64 (sq + (1 : Int))))), ((5 : Nat), SV.v (AB true)), ((6 : Nat), SV.v (AP (1 : Nat)))],
                                  H :=
                                    [((0 : Nat),
                                        Ob.cells
                                          [I (1 : Int),
                                            I
                                              (bif
                                                  rightB ((1 : Int) + RawOp.kind (Raw23.op (x i)) % (4 : Int)) (keyS (RawOp.key (Raw23.op (x i)) % (16 : Int))) (opV (RawOp.kind (Raw23.op (x i))) (RawOp.value (Raw23.op (x i))))
                                                    (opO (RawOp.kind (Raw23.op (x i))) (RawOp.old (Raw23.op (x i)))) then
                                                IntKind.wrap IntKind.i64 (sq + (1 : Int))
                                              else sq),
                                            I
                                              (bif
                                                  rightB ((1 : Int) + RawOp.kind (Raw23.op (x i)) % (4 : Int)) (keyS (RawOp.key (Raw23.op (x i)) % (16 : Int))) (opV (RawOp.kind (Raw23.op (x i))) (RawOp.value (Raw23.op (x i))))
                                                    (opO (RawOp.kind (Raw23.op (x i))) (RawOp.old (Raw23.op (x i)))) then
                                                (1 : Int) + RawOp.kind (Raw23.op (x i)) % (4 : Int)
                                              else kd),
                                            Sg
                                              (bif
                                                  rightB ((1 : Int) + RawOp.kind (Raw23.op (x i)) % (4 : Int)) (keyS (RawOp.key (Raw23.op (x i)) % (16 : Int))) (opV (RawOp.kind (Raw23.op (x i))) (RawOp.value (Raw23.op (x i))))
                                                    (opO (RawOp.kind (Raw23.op (x i))) (RawOp.old (Raw23.op (x i)))) then
                                                keyS (RawOp.key (Raw23.op (x i)) % (16 : Int))
                                              else ky),
                                            Sg
                                              (bif
                                                  rightB ((1 : Int) + RawOp.kind (Raw23.op (x i)) % (4 : Int)) (keyS (RawOp.key (Raw23.op (x i)) % (16 : Int))) (opV (RawOp.kind (Raw23.op (x i))) (RawOp.value (Raw23.op (x i))))
                                                    (opO (RawOp.kind (Raw23.op (x i))) (RawOp.old (Raw23.op (x i)))) then
                                                opV (RawOp.kind (Raw23.op (x i))) (RawOp.value (Raw23.op (x i)))
                                              else vl),
                                            Sg
                                              (bif
                                                  rightB ((1 : Int) + RawOp.kind (Raw23.op (x i)) % (4 : Int)) (keyS (RawOp.key (Raw23.op (x i)) % (16 : Int))) (opV (RawOp.kind (Raw23.op (x i))) (RawOp.value (Raw23.op (x i))))
                                                    (opO (RawOp.kind (Raw23.op (x i))) (RawOp.old (Raw23.op (x i)))) then
                                                opO (RawOp.kind (Raw23.op (x i))) (RawOp.old (Raw23.op (x i)))
                                              else od),
                                            Bo
                                              (rightB ((1 : Int) + RawOp.kind (Raw23.op (x i)) % (4 : Int)) (keyS (RawOp.key (Raw23.op (x i)) % (16 : Int))) (opV (RawOp.kind (Raw23.op (x i))) (RawOp.value (Raw23.op (x i))))
                                                (opO (RawOp.kind (Raw23.op (x i))) (RawOp.old (Raw23.op (x i)))))]),
                                      ((1 : Nat),
                                        Ob.cells
                                          [I ((1 : Int) + RawOp.kind (Raw23.op (x i)) % (4 : Int)), Sg (keyS (RawOp.key (Raw23.op (x i)) % (16 : Int))), Sg (opV (RawOp.kind (Raw23.op (x i))) (RawOp.value (Raw23.op (x i)))),
                                            Sg (opO (RawOp.kind (Raw23.op (x i))) (RawOp.old (Raw23.op (x i))))])],
                                  nx := (2 : Nat), esc := false, base := (0 : Nat), wr := [] })))
                          T.bad)))))
                (T.br
                  ((bif
                        rightB ((1 : Int) + RawOp.kind (Raw23.op (x i)) % (4 : Int)) (keyS (RawOp.key (Raw23.op (x i)) % (16 : Int))) (opV (RawOp.kind (Raw23.op (x i))) (RawOp.value (Raw23.op (x i))))
                          (opO (RawOp.kind (Raw23.op (x i))) (RawOp.old (Raw23.op (x i)))) then
                      (0 : Int)
                    else (1 : Int)) !=
                    (0 : Int))
                  (T.br
                    ((bif
                          rightB ((1 : Int) + RawOp.kind (Raw23.op (x i)) % (4 : Int)) (keyS (RawOp.key (Raw23.op (x i)) % (16 : Int))) (opV (RawOp.kind (Raw23.op (x i))) (RawOp.value (Raw23.op (x i))))
                            (opO (RawOp.kind (Raw23.op (x i))) (RawOp.old (Raw23.op (x i)))) then
                        (0 : Int)
                      else (1 : Int)) !=
                      (7 : Int))
                    T.bad
                    (T.br
                      ((bif
                            rightB ((1 : Int) + RawOp.kind (Raw23.op (x i)) % (4 : Int)) (keyS (RawOp.key (Raw23.op (x i)) % (16 : Int))) (opV (RawOp.kind (Raw23.op (x i))) (RawOp.value (Raw23.op (x i))))
                              (opO (RawOp.kind (Raw23.op (x i))) (RawOp.old (Raw23.op (x i)))) then
                          (0 : Int)
                        else (1 : Int)) ==
                        (0 : Int))
                      T.bad
                      (T.br
                        (!rightB ((1 : Int) + RawOp.kind (Raw23.op (x i)) % (4 : Int)) (keyS (RawOp.key (Raw23.op (x i)) % (16 : Int))) (opV (RawOp.kind (Raw23.op (x i))) (RawOp.value (Raw23.op (x i))))
                              (opO (RawOp.kind (Raw23.op (x i))) (RawOp.old (Raw23.op (x i)))) ==
                            false)
                        T.bad
                        (T.ret
                          (Ex.normal,
                            {
                              sl :=
                                [((25 : Nat),
                                    SV.v
                                      (AV.one
                                        (CV.f
                                          (FV.fs nl (12 : Nat) n fun i =>
                                            [FV.lit (Value.int IntKind.i64 (Raw23.what (x i))), FV.lit (Value.int IntKind.i64 (Raw23.seq (x i))), FV.lit (Value.int IntKind.i64 (Raw23.client (x i))),
                                              FV.lit (Value.int IntKind.i64 (Raw23.why (x i))), FV.lit (Value.int IntKind.i64 (RawOp.kind (Raw23.op (x i)))), FV.lit (Value.int IntKind.i64 (RawOp.key (Raw23.op (x i)))),
                                              FV.lit (Value.int IntKind.i64 (RawOp.value (Raw23.op (x i)))), FV.lit (Value.int IntKind.i64 (RawOp.old (Raw23.op (x i)))), FV.lit (Value.int IntKind.i64 (RawOp.client (Raw23.op (x i)))),
                                              FV.lit (Value.int IntKind.i64 (RawOp.seq (Raw23.op (x i)))), FV.lit (Value.int IntKind.i64 (RawOp.bend (Raw23.op (x i)))), FV.lit (Value.string (RawOp.text (Raw23.op (x i))))])))),
                                  ((26 : Nat), SV.v (AI (↑n : Int))), ((27 : Nat), SV.v (AI (IntKind.wrap IntKind.i64 ((↑i : Int) + (1 : Int))))), ((3 : Nat), SV.v (AP (0 : Nat))), ((4 : Nat), SV.v (AI sq)), ((5 : Nat), SV.v (AB false)),
                                  ((6 : Nat), SV.v (AP (1 : Nat)))],
                              H :=
                                [((0 : Nat),
                                    Ob.cells
                                      [I (1 : Int),
                                        I
                                          (bif
                                              rightB ((1 : Int) + RawOp.kind (Raw23.op (x i)) % (4 : Int)) (keyS (RawOp.key (Raw23.op (x i)) % (16 : Int))) (opV (RawOp.kind (Raw23.op (x i))) (RawOp.value (Raw23.op (x i))))
                                                (opO (RawOp.kind (Raw23.op (x i))) (RawOp.old (Raw23.op (x i)))) then
                                            IntKind.wrap IntKind.i64 (sq + (1 : Int))
                                          else sq),
                                        I
                                          (bif
                                              rightB ((1 : Int) + RawOp.kind (Raw23.op (x i)) % (4 : Int)) (keyS (RawOp.key (Raw23.op (x i)) % (16 : Int))) (opV (RawOp.kind (Raw23.op (x i))) (RawOp.value (Raw23.op (x i))))
                                                (opO (RawOp.kind (Raw23.op (x i))) (RawOp.old (Raw23.op (x i)))) then
                                            (1 : Int) + RawOp.kind (Raw23.op (x i)) % (4 : Int)
                                          else kd),
                                        Sg
                                          (bif
                                              rightB ((1 : Int) + RawOp.kind (Raw23.op (x i)) % (4 : Int)) (keyS (RawOp.key (Raw23.op (x i)) % (16 : Int))) (opV (RawOp.kind (Raw23.op (x i))) (RawOp.value (Raw23.op (x i))))
                                                (opO (RawOp.kind (Raw23.op (x i))) (RawOp.old (Raw23.op (x i)))) then
                                            keyS (RawOp.key (Raw23.op (x i)) % (16 : Int))
                                          else ky),
                                        Sg
                                          (bif
                                              rightB ((1 : Int) + RawOp.kind (Raw23.op (x i)) % (4 : Int)) (keyS (RawOp.key (Raw23.op (x i)) % (16 : Int))) (opV (RawOp.kind (Raw23.op (x i))) (RawOp.value (Raw23.op (x i))))
                                                (opO (RawOp.kind (Raw23.op (x i))) (RawOp.old (Raw23.op (x i)))) then
                                            opV (RawOp.kind (Raw23.op (x i))) (RawOp.value (Raw23.op (x i)))
                                          else vl),
                                        Sg
                                          (bif
                                              rightB ((1 : Int) + RawOp.kind (Raw23.op (x i)) % (4 : Int)) (keyS (RawOp.key (Raw23.op (x i)) % (16 : Int))) (opV (RawOp.kind (Raw23.op (x i))) (RawOp.value (Raw23.op (x i))))
                                                (opO (RawOp.kind (Raw23.op (x i))) (RawOp.old (Raw23.op (x i)))) then
                                            opO (RawOp.kind (Raw23.op (x i))) (RawOp.old (Raw23.op (x i)))
                                          else od),
                                        Bo
                                          (rightB ((1 : Int) + RawOp.kind (Raw23.op (x i)) % (4 : Int)) (keyS (RawOp.key (Raw23.op (x i)) % (16 : Int))) (opV (RawOp.kind (Raw23.op (x i))) (RawOp.value (Raw23.op (x i))))
                                            (opO (RawOp.kind (Raw23.op (x i))) (RawOp.old (Raw23.op (x i)))))]),
                                  ((1 : Nat), Ob.cells [I kd, Sg ky, Sg vl, Sg od])],
                              nx := (2 : Nat), esc := false, base := (0 : Nat), wr := [] })))))
                  (T.br
                    ((bif
                          rightB ((1 : Int) + RawOp.kind (Raw23.op (x i)) % (4 : Int)) (keyS (RawOp.key (Raw23.op (x i)) % (16 : Int))) (opV (RawOp.kind (Raw23.op (x i))) (RawOp.value (Raw23.op (x i))))
                            (opO (RawOp.kind (Raw23.op (x i))) (RawOp.old (Raw23.op (x i)))) then
                        (0 : Int)
                      else (1 : Int)) ==
                      (0 : Int))
                    T.bad
                    (T.br
                      (!rightB ((1 : Int) + RawOp.kind (Raw23.op (x i)) % (4 : Int)) (keyS (RawOp.key (Raw23.op (x i)) % (16 : Int))) (opV (RawOp.kind (Raw23.op (x i))) (RawOp.value (Raw23.op (x i))))
                            (opO (RawOp.kind (Raw23.op (x i))) (RawOp.old (Raw23.op (x i)))) ==
                          false)
                      T.bad
                      (T.ret
                        (Ex.normal,
                          {
                            sl :=
                              [((25 : Nat),
                                  SV.v
                                    (AV.one
                                      (CV.f
                                        (FV.fs nl (12 : Nat) n fun i =>
                                          [FV.lit (Value.int IntKind.i64 (Raw23.what (x i))), FV.lit (Value.int IntKind.i64 (Raw23.seq (x i))), FV.lit (Value.int IntKind.i64 (Raw23.client (x i))),
                                            FV.lit (Value.int IntKind.i64 (Raw23.why (x i))), FV.lit (Value.int IntKind.i64 (RawOp.kind (Raw23.op (x i)))), FV.lit (Value.int IntKind.i64 (RawOp.key (Raw23.op (x i)))),
                                            FV.lit (Value.int IntKind.i64 (RawOp.value (Raw23.op (x i)))), FV.lit (Value.int IntKind.i64 (RawOp.old (Raw23.op (x i)))), FV.lit (Value.int IntKind.i64 (RawOp.client (Raw23.op (x i)))),
                                            FV.lit (Value.int IntKind.i64 (RawOp.seq (Raw23.op (x i)))), FV.lit (Value.int IntKind.i64 (RawOp.bend (Raw23.op (x i)))), FV.lit (Value.string (RawOp.text (Raw23.op (x i))))])))),
                                ((26 : Nat), SV.v (AI (↑n : Int))), ((27 : Nat), SV.v (AI (IntKind.wrap IntKind.i64 ((↑i : Int) + (1 : Int))))), ((3 : Nat), SV.v (AP (0 : Nat))), ((4 : Nat), SV.v (AI sq)), ((5 : Nat), SV.v (AB false)),
                                ((6 : Nat), SV.v (AP (1 : Nat)))],
                            H :=
                              [((0 : Nat),
                                  Ob.cells
                                    [I (1 : Int),
                                      I
                                        (bif
                                            rightB ((1 : Int) + RawOp.kind (Raw23.op (x i)) % (4 : Int)) (keyS (RawOp.key (Raw23.op (x i)) % (16 : Int))) (opV (RawOp.kind (Raw23.op (x i))) (RawOp.value (Raw23.op (x i))))
                                              (opO (RawOp.kind (Raw23.op (x i))) (RawOp.old (Raw23.op (x i)))) then
                                          IntKind.wrap IntKind.i64 (sq + (1 : Int))
                                        else sq),
                                      I
                                        (bif
                                            rightB ((1 : Int) + RawOp.kind (Raw23.op (x i)) % (4 : Int)) (keyS (RawOp.key (Raw23.op (x i)) % (16 : Int))) (opV (RawOp.kind (Raw23.op (x i))) (RawOp.value (Raw23.op (x i))))
                                              (opO (RawOp.kind (Raw23.op (x i))) (RawOp.old (Raw23.op (x i)))) then
                                          (1 : Int) + RawOp.kind (Raw23.op (x i)) % (4 : Int)
                                        else kd),
                                      Sg
                                        (bif
                                            rightB ((1 : Int) + RawOp.kind (Raw23.op (x i)) % (4 : Int)) (keyS (RawOp.key (Raw23.op (x i)) % (16 : Int))) (opV (RawOp.kind (Raw23.op (x i))) (RawOp.value (Raw23.op (x i))))
                                              (opO (RawOp.kind (Raw23.op (x i))) (RawOp.old (Raw23.op (x i)))) then
                                          keyS (RawOp.key (Raw23.op (x i)) % (16 : Int))
                                        else ky),
                                      Sg
                                        (bif
                                            rightB ((1 : Int) + RawOp.kind (Raw23.op (x i)) % (4 : Int)) (keyS (RawOp.key (Raw23.op (x i)) % (16 : Int))) (opV (RawOp.kind (Raw23.op (x i))) (RawOp.value (Raw23.op (x i))))
                                              (opO (RawOp.kind (Raw23.op (x i))) (RawOp.old (Raw23.op (x i)))) then
                                          opV (RawOp.kind (Raw23.op (x i))) (RawOp.value (Raw23.op (x i)))
                                        else vl),
                                      Sg
                                        (bif
                                            rightB ((1 : Int) + RawOp.kind (Raw23.op (x i)) % (4 : Int)) (keyS (RawOp.key (Raw23.op (x i)) % (16 : Int))) (opV (RawOp.kind (Raw23.op (x i))) (RawOp.value (Raw23.op (x i))))
                                              (opO (RawOp.kind (Raw23.op (x i))) (RawOp.old (Raw23.op (x i)))) then
                                          opO (RawOp.kind (Raw23.op (x i))) (RawOp.old (Raw23.op (x i)))
                                        else od),
                                      Bo
                                        (rightB ((1 : Int) + RawOp.kind (Raw23.op (x i)) % (4 : Int)) (keyS (RawOp.key (Raw23.op (x i)) % (16 : Int))) (opV (RawOp.kind (Raw23.op (x i))) (RawOp.value (Raw23.op (x i))))
                                          (opO (RawOp.kind (Raw23.op (x i))) (RawOp.old (Raw23.op (x i)))))]),
                                ((1 : Nat), Ob.cells [I kd, Sg ky, Sg vl, Sg od])],
                            nx := (2 : Nat), esc := false, base := (0 : Nat), wr := [] })))))))
            (T.br (Raw23.what (x i) % (4 : Int) == (1 : Int))
              (T.br
                (((bif
                        rightB ((1 : Int) + RawOp.kind (Raw23.op (x i)) % (4 : Int)) (keyS (RawOp.key (Raw23.op (x i)) % (16 : Int))) (opV (RawOp.kind (Raw23.op (x i))) (RawOp.value (Raw23.op (x i))))
                          (opO (RawOp.kind (Raw23.op (x i))) (RawOp.old (Raw23.op (x i)))) then
                      (0 : Int)
                    else (1 : Int)) ==
                    (0 : Int)) ==
                  false)
                T.bad
                (T.br
                  ((bif
                        rightB ((1 : Int) + RawOp.kind (Raw23.op (x i)) % (4 : Int)) (keyS (RawOp.key (Raw23.op (x i)) % (16 : Int))) (opV (RawOp.kind (Raw23.op (x i))) (RawOp.value (Raw23.op (x i))))
                          (opO (RawOp.kind (Raw23.op (x i))) (RawOp.old (Raw23.op (x i)))) then
                      (0 : Int)
                    else (1 : Int)) ==
                    (0 : Int))
                  (T.br
                    ((bif
                          rightB ((1 : Int) + RawOp.kind (Raw23.op (x i)) % (4 : Int)) (keyS (RawOp.key (Raw23.op (x i)) % (16 : Int))) (opV (RawOp.kind (Raw23.op (x i))) (RawOp.value (Raw23.op (x i))))
                            (opO (RawOp.kind (Raw23.op (x i))) (RawOp.old (Raw23.op (x i)))) then
                        IntKind.wrap IntKind.i64 (sq + (1 : Int))
                      else (0 : Int)) !=
                      IntKind.wrap IntKind.i64 (sq + (1 : Int)))
                    T.bad
                    (T.br
                      ((bif
                            rightB ((1 : Int) + RawOp.kind (Raw23.op (x i)) % (4 : Int)) (keyS (RawOp.key (Raw23.op (x i)) % (16 : Int))) (opV (RawOp.kind (Raw23.op (x i))) (RawOp.value (Raw23.op (x i))))
                              (opO (RawOp.kind (Raw23.op (x i))) (RawOp.old (Raw23.op (x i)))) then
                          (1 : Int)
                        else (0 : Int)) !=
                        (1 : Int))
                      T.bad
                      (T.br
                        (!((bif
                                  rightB ((1 : Int) + RawOp.kind (Raw23.op (x i)) % (4 : Int)) (keyS (RawOp.key (Raw23.op (x i)) % (16 : Int))) (opV (RawOp.kind (Raw23.op (x i))) (RawOp.value (Raw23.op (x i))))
                                    (opO (RawOp.kind (Raw23.op (x i))) (RawOp.old (Raw23.op (x i)))) then
                                (1 : Int) + RawOp.kind (Raw23.op (x i)) % (4 : Int)
                              else (0 : Int)) ==
                              (1 : Int) + RawOp.kind (Raw23.op (x i)) % (4 : Int) &&
                            ((bif
                                    rightB ((1 : Int) + RawOp.kind (Raw23.op (x i)) % (4 : Int)) (keyS (RawOp.key (Raw23.op (x i)) % (16 : Int))) (opV (RawOp.kind (Raw23.op (x i))) (RawOp.value (Raw23.op (x i))))
                                      (opO (RawOp.kind (Raw23.op (x i))) (RawOp.old (Raw23.op (x i)))) then
                                  keyS (RawOp.key (Raw23.op (x i)) % (16 : Int))
                                else { data := #[] }) ==
                                keyS (RawOp.key (Raw23.op (x i)) % (16 : Int)) &&
                              ((bif
                                      rightB ((1 : Int) + RawOp.kind (Raw23.op (x i)) % (4 : Int)) (keyS (RawOp.key (Raw23.op (x i)) % (16 : Int))) (opV (RawOp.kind (Raw23.op (x i))) (RawOp.value (Raw23.op (x i))))
                                        (opO (RawOp.kind (Raw23.op (x i))) (RawOp.old (Raw23.op (x i)))) then
                                    opV (RawOp.kind (Raw23.op (x i))) (RawOp.value (Raw23.op (x i)))
                                  else { data := #[] }) ==
                                  opV (RawOp.kind (Raw23.op (x i))) (RawOp.value (Raw23.op (x i))) &&
                                ((bif
                                        rightB ((1 : Int) + RawOp.kind (Raw23.op (x i)) % (4 : Int)) (keyS (RawOp.key (Raw23.op (x i)) % (16 : Int))) (opV (RawOp.kind (Raw23.op (x i))) (RawOp.value (Raw23.op (x i))))
                                          (opO (RawOp.kind (Raw23.op (x i))) (RawOp.old (Raw23.op (x i)))) then
                                      opO (RawOp.kind (Raw23.op (x i))) (RawOp.old (Raw23.op (x i)))
                                    else { data := #[] }) ==
                                    opO (RawOp.kind (Raw23.op (x i))) (RawOp.old (Raw23.op (x i))) &&
                                  true)))))
                        T.bad
                        (T.br
                          ((bif
                                rightB ((1 : Int) + RawOp.kind (Raw23.op (x i)) % (4 : Int)) (keyS (RawOp.key (Raw23.op (x i)) % (16 : Int))) (opV (RawOp.kind (Raw23.op (x i))) (RawOp.value (Raw23.op (x i))))
                                  (opO (RawOp.kind (Raw23.op (x i))) (RawOp.old (Raw23.op (x i)))) then
                              (0 : Int)
                            else (1 : Int)) !=
                            (0 : Int))
                          (T.br
                            ((bif
                                  rightB ((1 : Int) + RawOp.kind (Raw23.op (x i)) % (4 : Int)) (keyS (RawOp.key (Raw23.op (x i)) % (16 : Int))) (opV (RawOp.kind (Raw23.op (x i))) (RawOp.value (Raw23.op (x i))))
                                    (opO (RawOp.kind (Raw23.op (x i))) (RawOp.old (Raw23.op (x i)))) then
                                (0 : Int)
                              else (1 : Int)) !=
                              (7 : Int))
                            T.bad
                            (T.br
                              ((bif
                                    rightB ((1 : Int) + RawOp.kind (Raw23.op (x i)) % (4 : Int)) (keyS (RawOp.key (Raw23.op (x i)) % (16 : Int))) (opV (RawOp.kind (Raw23.op (x i))) (RawOp.value (Raw23.op (x i))))
                                      (opO (RawOp.kind (Raw23.op (x i))) (RawOp.old (Raw23.op (x i)))) then
                                  (0 : Int)
                                else (1 : Int)) ==
                                (0 : Int))
                              (T.br
                                (!rightB ((1 : Int) + RawOp.kind (Raw23.op (x i)) % (4 : Int)) (keyS (RawOp.key (Raw23.op (x i)) % (16 : Int))) (opV (RawOp.kind (Raw23.op (x i))) (RawOp.value (Raw23.op (x i))))
                                      (opO (RawOp.kind (Raw23.op (x i))) (RawOp.old (Raw23.op (x i)))) ==
                                    true)
                                T.bad
                                (T.ret
                                  (Ex.normal,
                                    {
                                      sl :=
                                        [((25 : Nat),
                                            SV.v
                                              (AV.one
                                                (CV.f
                                                  (FV.fs nl (12 : Nat) n fun i =>
                                                    [FV.lit (Value.int IntKind.i64 (Raw23.what (x i))), FV.lit (Value.int IntKind.i64 (Raw23.seq (x i))), FV.lit (Value.int IntKind.i64 (Raw23.client (x i))),
                                                      FV.lit (Value.int IntKind.i64 (Raw23.why (x i))), FV.lit (Value.int IntKind.i64 (RawOp.kind (Raw23.op (x i)))), FV.lit (Value.int IntKind.i64 (RawOp.key (Raw23.op (x i)))),
                                                      FV.lit (Value.int IntKind.i64 (RawOp.value (Raw23.op (x i)))), FV.lit (Value.int IntKind.i64 (RawOp.old (Raw23.op (x i)))), FV.lit (Value.int IntKind.i64 (RawOp.client (Raw23.op (x i)))),
                                                      FV.lit (Value.int IntKind.i64 (RawOp.seq (Raw23.op (x i)))), FV.lit (Value.int IntKind.i64 (RawOp.bend (Raw23.op (x i)))), FV.lit (Value.string (RawOp.text (Raw23.op (x i))))])))),
                                          ((26 : Nat), SV.v (AI (↑n : Int))), ((27 : Nat), SV.v (AI (IntKind.wrap IntKind.i64 ((↑i : Int) + (1 : Int))))), ((3 : Nat), SV.v (AP (0 : Nat))),
                                          ((4 : Nat), SV.v (AI (IntKind.wrap IntKind.i64 (sq + (1 : Int))))), ((5 : Nat), SV.v (AB true)), ((6 : Nat), SV.v (AP (1 : Nat)))],
                                      H :=
                                        [((0 : Nat),
                                            Ob.cells
                                              [I (1 : Int),
                                                I
                                                  (bif
                                                      rightB ((1 : Int) + RawOp.kind (Raw23.op (x i)) % (4 : Int)) (keyS (RawOp.key (Raw23.op (x i)) % (16 : Int))) (opV (RawOp.kind (Raw23.op (x i))) (RawOp.value (Raw23.op (x i))))
                                                        (opO (RawOp.kind (Raw23.op (x i))) (RawOp.old (Raw23.op (x i)))) then
                                                    IntKind.wrap IntKind.i64 (sq + (1 : Int))
                                                  else sq),
                                                I
                                                  (bif
                                                      rightB ((1 : Int) + RawOp.kind (Raw23.op (x i)) % (4 : Int)) (keyS (RawOp.key (Raw23.op (x i)) % (16 : Int))) (opV (RawOp.kind (Raw23.op (x i))) (RawOp.value (Raw23.op (x i))))
                                                        (opO (RawOp.kind (Raw23.op (x i))) (RawOp.old (Raw23.op (x i)))) then
                                                    (1 : Int) + RawOp.kind (Raw23.op (x i)) % (4 : Int)
                                                  else kd),
                                                Sg
                                                  (bif
                                                      rightB ((1 : Int) + RawOp.kind (Raw23.op (x i)) % (4 : Int)) (keyS (RawOp.key (Raw23.op (x i)) % (16 : Int))) (opV (RawOp.kind (Raw23.op (x i))) (RawOp.value (Raw23.op (x i))))
                                                        (opO (RawOp.kind (Raw23.op (x i))) (RawOp.old (Raw23.op (x i)))) then
                                                    keyS (RawOp.key (Raw23.op (x i)) % (16 : Int))
                                                  else ky),
                                                Sg
                                                  (bif
                                                      rightB ((1 : Int) + RawOp.kind (Raw23.op (x i)) % (4 : Int)) (keyS (RawOp.key (Raw23.op (x i)) % (16 : Int))) (opV (RawOp.kind (Raw23.op (x i))) (RawOp.value (Raw23.op (x i))))
                                                        (opO (RawOp.kind (Raw23.op (x i))) (RawOp.old (Raw23.op (x i)))) then
                                                    opV (RawOp.kind (Raw23.op (x i))) (RawOp.value (Raw23.op (x i)))
                                                  else vl),
                                                Sg
                                                  (bif
                                                      rightB ((1 : Int) + RawOp.kind (Raw23.op (x i)) % (4 : Int)) (keyS (RawOp.key (Raw23.op (x i)) % (16 : Int))) (opV (RawOp.kind (Raw23.op (x i))) (RawOp.value (Raw23.op (x i))))
                                                        (opO (RawOp.kind (Raw23.op (x i))) (RawOp.old (Raw23.op (x i)))) then
                                                    opO (RawOp.kind (Raw23.op (x i))) (RawOp.old (Raw23.op (x i)))
                                                  else od),
                                                Bo
                                                  (rightB ((1 : Int) + RawOp.kind (Raw23.op (x i)) % (4 : Int)) (keyS (RawOp.key (Raw23.op (x i)) % (16 : Int))) (opV (RawOp.kind (Raw23.op (x i))) (RawOp.value (Raw23.op (x i))))
                                                    (opO (RawOp.kind (Raw23.op (x i))) (RawOp.old (Raw23.op (x i)))))]),
                                          ((1 : Nat),
                                            Ob.cells
                                              [I ((1 : Int) + RawOp.kind (Raw23.op (x i)) % (4 : Int)), Sg (keyS (RawOp.key (Raw23.op (x i)) % (16 : Int))), Sg (opV (RawOp.kind (Raw23.op (x i))) (RawOp.value (Raw23.op (x i)))),
                                                Sg (opO (RawOp.kind (Raw23.op (x i))) (RawOp.old (Raw23.op (x i))))])],
                                      nx := (2 : Nat), esc := false, base := (0 : Nat), wr := [] })))
                              T.bad))
                          (T.br
                            ((bif
                                  rightB ((1 : Int) + RawOp.kind (Raw23.op (x i)) % (4 : Int)) (keyS (RawOp.key (Raw23.op (x i)) % (16 : Int))) (opV (RawOp.kind (Raw23.op (x i))) (RawOp.value (Raw23.op (x i))))
                                    (opO (RawOp.kind (Raw23.op (x i))) (RawOp.old (Raw23.op (x i)))) then
                                (0 : Int)
                              else (1 : Int)) ==
                              (0 : Int))
                            (T.br
                              (!rightB ((1 : Int) + RawOp.kind (Raw23.op (x i)) % (4 : Int)) (keyS (RawOp.key (Raw23.op (x i)) % (16 : Int))) (opV (RawOp.kind (Raw23.op (x i))) (RawOp.value (Raw23.op (x i))))
                                    (opO (RawOp.kind (Raw23.op (x i))) (RawOp.old (Raw23.op (x i)))) ==
                                  true)
                              T.bad
                              (T.ret
                                (Ex.normal,
                                  {
                                    sl :=
                                      [((25 : Nat),
                                          SV.v
                                            (AV.one
                                              (CV.f
                                                (FV.fs nl (12 : Nat) n fun i =>
                                                  [FV.lit (Value.int IntKind.i64 (Raw23.what (x i))), FV.lit (Value.int IntKind.i64 (Raw23.seq (x i))), FV.lit (Value.int IntKind.i64 (Raw23.client (x i))),
                                                    FV.lit (Value.int IntKind.i64 (Raw23.why (x i))), FV.lit (Value.int IntKind.i64 (RawOp.kind (Raw23.op (x i)))), FV.lit (Value.int IntKind.i64 (RawOp.key (Raw23.op (x i)))),
                                                    FV.lit (Value.int IntKind.i64 (RawOp.value (Raw23.op (x i)))), FV.lit (Value.int IntKind.i64 (RawOp.old (Raw23.op (x i)))), FV.lit (Value.int IntKind.i64 (RawOp.client (Raw23.op (x i)))),
                                                    FV.lit (Value.int IntKind.i64 (RawOp.seq (Raw23.op (x i)))), FV.lit (Value.int IntKind.i64 (RawOp.bend (Raw23.op (x i)))), FV.lit (Value.string (RawOp.text (Raw23.op (x i))))])))),
                                        ((26 : Nat), SV.v (AI (↑n : Int))), ((27 : Nat), SV.v (AI (IntKind.wrap IntKind.i64 ((↑i : Int) + (1 : Int))))), ((3 : Nat), SV.v (AP (0 : Nat))),
                                        ((4 : Nat), SV.v (AI (IntKind.wrap IntKind.i64 (sq + (1 : Int))))), ((5 : Nat), SV.v (AB true)), ((6 : Nat), SV.v (AP (1 : Nat)))],
                                    H :=
                                      [((0 : Nat),
                                          Ob.cells
                                            [I (1 : Int),
                                              I
                                                (bif
                                                    rightB ((1 : Int) + RawOp.kind (Raw23.op (x i)) % (4 : Int)) (keyS (RawOp.key (Raw23.op (x i)) % (16 : Int))) (opV (RawOp.kind (Raw23.op (x i))) (RawOp.value (Raw23.op (x i))))
                                                      (opO (RawOp.kind (Raw23.op (x i))) (RawOp.old (Raw23.op (x i)))) then
                                                  IntKind.wrap IntKind.i64 (sq + (1 : Int))
                                                else sq),
                                              I
                                                (bif
                                                    rightB ((1 : Int) + RawOp.kind (Raw23.op (x i)) % (4 : Int)) (keyS (RawOp.key (Raw23.op (x i)) % (16 : Int))) (opV (RawOp.kind (Raw23.op (x i))) (RawOp.value (Raw23.op (x i))))
                                                      (opO (RawOp.kind (Raw23.op (x i))) (RawOp.old (Raw23.op (x i)))) then
                                                  (1 : Int) + RawOp.kind (Raw23.op (x i)) % (4 : Int)
                                                else kd),
                                              Sg
                                                (bif
                                                    rightB ((1 : Int) + RawOp.kind (Raw23.op (x i)) % (4 : Int)) (keyS (RawOp.key (Raw23.op (x i)) % (16 : Int))) (opV (RawOp.kind (Raw23.op (x i))) (RawOp.value (Raw23.op (x i))))
                                                      (opO (RawOp.kind (Raw23.op (x i))) (RawOp.old (Raw23.op (x i)))) then
                                                  keyS (RawOp.key (Raw23.op (x i)) % (16 : Int))
                                                else ky),
                                              Sg
                                                (bif
                                                    rightB ((1 : Int) + RawOp.kind (Raw23.op (x i)) % (4 : Int)) (keyS (RawOp.key (Raw23.op (x i)) % (16 : Int))) (opV (RawOp.kind (Raw23.op (x i))) (RawOp.value (Raw23.op (x i))))
                                                      (opO (RawOp.kind (Raw23.op (x i))) (RawOp.old (Raw23.op (x i)))) then
                                                  opV (RawOp.kind (Raw23.op (x i))) (RawOp.value (Raw23.op (x i)))
                                                else vl),
                                              Sg
                                                (bif
                                                    rightB ((1 : Int) + RawOp.kind (Raw23.op (x i)) % (4 : Int)) (keyS (RawOp.key (Raw23.op (x i)) % (16 : Int))) (opV (RawOp.kind (Raw23.op (x i))) (RawOp.value (Raw23.op (x i))))
                                                      (opO (RawOp.kind (Raw23.op (x i))) (RawOp.old (Raw23.op (x i)))) then
                                                  opO (RawOp.kind (Raw23.op (x i))) (RawOp.old (Raw23.op (x i)))
                                                else od),
                                              Bo
                                                (rightB ((1 : Int) + RawOp.kind (Raw23.op (x i)) % (4 : Int)) (keyS (RawOp.key (Raw23.op (x i)) % (16 : Int))) (opV (RawOp.kind (Raw23.op (x i))) (RawOp.value (Raw23.op (x i))))
                                                  (opO (RawOp.kind (Raw23.op (x i))) (RawOp.old (Raw23.op (x i)))))]),
                                        ((1 : Nat),
                                          Ob.cells
                                            [I ((1 : Int) + RawOp.kind (Raw23.op (x i)) % (4 : Int)), Sg (keyS (RawOp.key (Raw23.op (x i)) % (16 : Int))), Sg (opV (RawOp.kind (Raw23.op (x i))) (RawOp.value (Raw23.op (x i)))),
                                              Sg (opO (RawOp.kind (Raw23.op (x i))) (RawOp.old (Raw23.op (x i))))])],
                                    nx := (2 : Nat), esc := false, base := (0 : Nat), wr := [] })))
                            T.bad)))))
                  (T.br
                    ((bif
                          rightB ((1 : Int) + RawOp.kind (Raw23.op (x i)) % (4 : Int)) (keyS (RawOp.key (Raw23.op (x i)) % (16 : Int))) (opV (RawOp.kind (Raw23.op (x i))) (RawOp.value (Raw23.op (x i))))
                            (opO (RawOp.kind (Raw23.op (x i))) (RawOp.old (Raw23.op (x i)))) then
                        (0 : Int)
                      else (1 : Int)) !=
                      (0 : Int))
                    (T.br
                      ((bif
                            rightB ((1 : Int) + RawOp.kind (Raw23.op (x i)) % (4 : Int)) (keyS (RawOp.key (Raw23.op (x i)) % (16 : Int))) (opV (RawOp.kind (Raw23.op (x i))) (RawOp.value (Raw23.op (x i))))
                              (opO (RawOp.kind (Raw23.op (x i))) (RawOp.old (Raw23.op (x i)))) then
                          (0 : Int)
                        else (1 : Int)) !=
                        (7 : Int))
                      T.bad
                      (T.br
                        ((bif
                              rightB ((1 : Int) + RawOp.kind (Raw23.op (x i)) % (4 : Int)) (keyS (RawOp.key (Raw23.op (x i)) % (16 : Int))) (opV (RawOp.kind (Raw23.op (x i))) (RawOp.value (Raw23.op (x i))))
                                (opO (RawOp.kind (Raw23.op (x i))) (RawOp.old (Raw23.op (x i)))) then
                            (0 : Int)
                          else (1 : Int)) ==
                          (0 : Int))
                        T.bad
                        (T.br
                          (!rightB ((1 : Int) + RawOp.kind (Raw23.op (x i)) % (4 : Int)) (keyS (RawOp.key (Raw23.op (x i)) % (16 : Int))) (opV (RawOp.kind (Raw23.op (x i))) (RawOp.value (Raw23.op (x i))))
                                (opO (RawOp.kind (Raw23.op (x i))) (RawOp.old (Raw23.op (x i)))) ==
                              false)
                          T.bad
                          (T.ret
                            (Ex.normal,
                              {
                                sl :=
                                  [((25 : Nat),
                                      SV.v
                                        (AV.one
                                          (CV.f
                                            (FV.fs nl (12 : Nat) n fun i =>
                                              [FV.lit (Value.int IntKind.i64 (Raw23.what (x i))), FV.lit (Value.int IntKind.i64 (Raw23.seq (x i))), FV.lit (Value.int IntKind.i64 (Raw23.client (x i))),
                                                FV.lit (Value.int IntKind.i64 (Raw23.why (x i))), FV.lit (Value.int IntKind.i64 (RawOp.kind (Raw23.op (x i)))), FV.lit (Value.int IntKind.i64 (RawOp.key (Raw23.op (x i)))),
                                                FV.lit (Value.int IntKind.i64 (RawOp.value (Raw23.op (x i)))), FV.lit (Value.int IntKind.i64 (RawOp.old (Raw23.op (x i)))), FV.lit (Value.int IntKind.i64 (RawOp.client (Raw23.op (x i)))),
                                                FV.lit (Value.int IntKind.i64 (RawOp.seq (Raw23.op (x i)))), FV.lit (Value.int IntKind.i64 (RawOp.bend (Raw23.op (x i)))), FV.lit (Value.string (RawOp.text (Raw23.op (x i))))])))),
                                    ((26 : Nat), SV.v (AI (↑n : Int))), ((27 : Nat), SV.v (AI (IntKind.wrap IntKind.i64 ((↑i : Int) + (1 : Int))))), ((3 : Nat), SV.v (AP (0 : Nat))), ((4 : Nat), SV.v (AI sq)), ((5 : Nat), SV.v (AB false)),
                                    ((6 : Nat), SV.v (AP (1 : Nat)))],
                                H :=
                                  [((0 : Nat),
                                      Ob.cells
                                        [I (1 : Int),
                                          I
                                            (bif
                                                rightB ((1 : Int) + RawOp.kind (Raw23.op (x i)) % (4 : Int)) (keyS (RawOp.key (Raw23.op (x i)) % (16 : Int))) (opV (RawOp.kind (Raw23.op (x i))) (RawOp.value (Raw23.op (x i))))
                                                  (opO (RawOp.kind (Raw23.op (x i))) (RawOp.old (Raw23.op (x i)))) then
                                              IntKind.wrap IntKind.i64 (sq + (1 : Int))
                                            else sq),
                                          I
                                            (bif
                                                rightB ((1 : Int) + RawOp.kind (Raw23.op (x i)) % (4 : Int)) (keyS (RawOp.key (Raw23.op (x i)) % (16 : Int))) (opV (RawOp.kind (Raw23.op (x i))) (RawOp.value (Raw23.op (x i))))
                                                  (opO (RawOp.kind (Raw23.op (x i))) (RawOp.old (Raw23.op (x i)))) then
                                              (1 : Int) + RawOp.kind (Raw23.op (x i)) % (4 : Int)
                                            else kd),
                                          Sg
                                            (bif
                                                rightB ((1 : Int) + RawOp.kind (Raw23.op (x i)) % (4 : Int)) (keyS (RawOp.key (Raw23.op (x i)) % (16 : Int))) (opV (RawOp.kind (Raw23.op (x i))) (RawOp.value (Raw23.op (x i))))
                                                  (opO (RawOp.kind (Raw23.op (x i))) (RawOp.old (Raw23.op (x i)))) then
                                              keyS (RawOp.key (Raw23.op (x i)) % (16 : Int))
                                            else ky),
                                          Sg
                                            (bif
                                                rightB ((1 : Int) + RawOp.kind (Raw23.op (x i)) % (4 : Int)) (keyS (RawOp.key (Raw23.op (x i)) % (16 : Int))) (opV (RawOp.kind (Raw23.op (x i))) (RawOp.value (Raw23.op (x i))))
                                                  (opO (RawOp.kind (Raw23.op (x i))) (RawOp.old (Raw23.op (x i)))) then
                                              opV (RawOp.kind (Raw23.op (x i))) (RawOp.value (Raw23.op (x i)))
                                            else vl),
                                          Sg
                                            (bif
                                                rightB ((1 : Int) + RawOp.kind (Raw23.op (x i)) % (4 : Int)) (keyS (RawOp.key (Raw23.op (x i)) % (16 : Int))) (opV (RawOp.kind (Raw23.op (x i))) (RawOp.value (Raw23.op (x i))))
                                                  (opO (RawOp.kind (Raw23.op (x i))) (RawOp.old (Raw23.op (x i)))) then
                                              opO (RawOp.kind (Raw23.op (x i))) (RawOp.old (Raw23.op (x i)))
                                            else od),
                                          Bo
                                            (rightB ((1 : Int) + RawOp.kind (Raw23.op (x i)) % (4 : Int)) (keyS (RawOp.key (Raw23.op (x i)) % (16 : Int))) (opV (RawOp.kind (Raw23.op (x i))) (RawOp.value (Raw23.op (x i))))
                                              (opO (RawOp.kind (Raw23.op (x i))) (RawOp.old (Raw23.op (x i)))))]),
                                    ((1 : Nat), Ob.cells [I kd, Sg ky, Sg vl, Sg od])],
                                nx := (2 : Nat), esc := false, base := (0 : Nat), wr := [] })))))
                    (T.br
                      ((bif
                            rightB ((1 : Int) + RawOp.kind (Raw23.op (x i)) % (4 : Int)) (keyS (RawOp.key (Raw23.op (x i)) % (16 : Int))) (opV (RawOp.kind (Raw23.op (x i))) (RawOp.value (Raw23.op (x i))))
                              (opO (RawOp.kind (Raw23.op (x i))) (RawOp.old (Raw23.op (x i)))) then
                          (0 : Int)
                        else (1 : Int)) ==
                        (0 : Int))
                      T.bad
                      (T.br
                        (!rightB ((1 : Int) + RawOp.kind (Raw23.op (x i)) % (4 : Int)) (keyS (RawOp.key (Raw23.op (x i)) % (16 : Int))) (opV (RawOp.kind (Raw23.op (x i))) (RawOp.value (Raw23.op (x i))))
                              (opO (RawOp.kind (Raw23.op (x i))) (RawOp.old (Raw23.op (x i)))) ==
                            false)
                        T.bad
                        (T.ret
                          (Ex.normal,
                            {
                              sl :=
                                [((25 : Nat),
                                    SV.v
                                      (AV.one
                                        (CV.f
                                          (FV.fs nl (12 : Nat) n fun i =>
                                            [FV.lit (Value.int IntKind.i64 (Raw23.what (x i))), FV.lit (Value.int IntKind.i64 (Raw23.seq (x i))), FV.lit (Value.int IntKind.i64 (Raw23.client (x i))),
                                              FV.lit (Value.int IntKind.i64 (Raw23.why (x i))), FV.lit (Value.int IntKind.i64 (RawOp.kind (Raw23.op (x i)))), FV.lit (Value.int IntKind.i64 (RawOp.key (Raw23.op (x i)))),
                                              FV.lit (Value.int IntKind.i64 (RawOp.value (Raw23.op (x i)))), FV.lit (Value.int IntKind.i64 (RawOp.old (Raw23.op (x i)))), FV.lit (Value.int IntKind.i64 (RawOp.client (Raw23.op (x i)))),
                                              FV.lit (Value.int IntKind.i64 (RawOp.seq (Raw23.op (x i)))), FV.lit (Value.int IntKind.i64 (RawOp.bend (Raw23.op (x i)))), FV.lit (Value.string (RawOp.text (Raw23.op (x i))))])))),
                                  ((26 : Nat), SV.v (AI (↑n : Int))), ((27 : Nat), SV.v (AI (IntKind.wrap IntKind.i64 ((↑i : Int) + (1 : Int))))), ((3 : Nat), SV.v (AP (0 : Nat))), ((4 : Nat), SV.v (AI sq)), ((5 : Nat), SV.v (AB false)),
                                  ((6 : Nat), SV.v (AP (1 : Nat)))],
                              H :=
                                [((0 : Nat),
                                    Ob.cells
                                      [I (1 : Int),
                                        I
                                          (bif
                                              rightB ((1 : Int) + RawOp.kind (Raw23.op (x i)) % (4 : Int)) (keyS (RawOp.key (Raw23.op (x i)) % (16 : Int))) (opV (RawOp.kind (Raw23.op (x i))) (RawOp.value (Raw23.op (x i))))
                                                (opO (RawOp.kind (Raw23.op (x i))) (RawOp.old (Raw23.op (x i)))) then
                                            IntKind.wrap IntKind.i64 (sq + (1 : Int))
                                          else sq),
                                        I
                                          (bif
                                              rightB ((1 : Int) + RawOp.kind (Raw23.op (x i)) % (4 : Int)) (keyS (RawOp.key (Raw23.op (x i)) % (16 : Int))) (opV (RawOp.kind (Raw23.op (x i))) (RawOp.value (Raw23.op (x i))))
                                                (opO (RawOp.kind (Raw23.op (x i))) (RawOp.old (Raw23.op (x i)))) then
                                            (1 : Int) + RawOp.kind (Raw23.op (x i)) % (4 : Int)
                                          else kd),
                                        Sg
                                          (bif
                                              rightB ((1 : Int) + RawOp.kind (Raw23.op (x i)) % (4 : Int)) (keyS (RawOp.key (Raw23.op (x i)) % (16 : Int))) (opV (RawOp.kind (Raw23.op (x i))) (RawOp.value (Raw23.op (x i))))
                                                (opO (RawOp.kind (Raw23.op (x i))) (RawOp.old (Raw23.op (x i)))) then
                                            keyS (RawOp.key (Raw23.op (x i)) % (16 : Int))
                                          else ky),
                                        Sg
                                          (bif
                                              rightB ((1 : Int) + RawOp.kind (Raw23.op (x i)) % (4 : Int)) (keyS (RawOp.key (Raw23.op (x i)) % (16 : Int))) (opV (RawOp.kind (Raw23.op (x i))) (RawOp.value (Raw23.op (x i))))
                                                (opO (RawOp.kind (Raw23.op (x i))) (RawOp.old (Raw23.op (x i)))) then
                                            opV (RawOp.kind (Raw23.op (x i))) (RawOp.value (Raw23.op (x i)))
                                          else vl),
                                        Sg
                                          (bif
                                              rightB ((1 : Int) + RawOp.kind (Raw23.op (x i)) % (4 : Int)) (keyS (RawOp.key (Raw23.op (x i)) % (16 : Int))) (opV (RawOp.kind (Raw23.op (x i))) (RawOp.value (Raw23.op (x i))))
                                                (opO (RawOp.kind (Raw23.op (x i))) (RawOp.old (Raw23.op (x i)))) then
                                            opO (RawOp.kind (Raw23.op (x i))) (RawOp.old (Raw23.op (x i)))
                                          else od),
                                        Bo
                                          (rightB ((1 : Int) + RawOp.kind (Raw23.op (x i)) % (4 : Int)) (keyS (RawOp.key (Raw23.op (x i)) % (16 : Int))) (opV (RawOp.kind (Raw23.op (x i))) (RawOp.value (Raw23.op (x i))))
                                            (opO (RawOp.kind (Raw23.op (x i))) (RawOp.old (Raw23.op (x i)))))]),
                                  ((1 : Nat), Ob.cells [I kd, Sg ky, Sg vl, Sg od])],
                              nx := (2 : Nat), esc := false, base := (0 : Nat), wr := [] })))))))
              (T.br (Raw23.what (x i) % (4 : Int) == (2 : Int))
                (T.ret
                  (Ex.normal,
                    {
                      sl :=
                        [((25 : Nat),
                            SV.v
                              (AV.one
                                (CV.f
                                  (FV.fs nl (12 : Nat) n fun i =>
                                    [FV.lit (Value.int IntKind.i64 (Raw23.what (x i))), FV.lit (Value.int IntKind.i64 (Raw23.seq (x i))), FV.lit (Value.int IntKind.i64 (Raw23.client (x i))), FV.lit (Value.int IntKind.i64 (Raw23.why (x i))),
                                      FV.lit (Value.int IntKind.i64 (RawOp.kind (Raw23.op (x i)))), FV.lit (Value.int IntKind.i64 (RawOp.key (Raw23.op (x i)))), FV.lit (Value.int IntKind.i64 (RawOp.value (Raw23.op (x i)))),
                                      FV.lit (Value.int IntKind.i64 (RawOp.old (Raw23.op (x i)))), FV.lit (Value.int IntKind.i64 (RawOp.client (Raw23.op (x i)))), FV.lit (Value.int IntKind.i64 (RawOp.seq (Raw23.op (x i)))),
                                      FV.lit (Value.int IntKind.i64 (RawOp.bend (Raw23.op (x i)))), FV.lit (Value.string (RawOp.text (Raw23.op (x i))))])))),
                          ((26 : Nat), SV.v (AI (↑n : Int))), ((27 : Nat), SV.v (AI (IntKind.wrap IntKind.i64 ((↑i : Int) + (1 : Int))))), ((3 : Nat), SV.v (AP (0 : Nat))), ((4 : Nat), SV.v (AI sq)), ((5 : Nat), SV.v (AB false)),
                          ((6 : Nat), SV.v (AP (1 : Nat)))],
                      H := [((0 : Nat), Ob.cells [I (1 : Int), I sq, I kd, Sg ky, Sg vl, Sg od, Bo false]), ((1 : Nat), Ob.cells [I kd, Sg ky, Sg vl, Sg od])], nx := (2 : Nat), esc := false, base := (0 : Nat), wr := [] }))
                (T.ret
                  (Ex.normal,
                    {
                      sl :=
                        [((25 : Nat),
                            SV.v
                              (AV.one
                                (CV.f
                                  (FV.fs nl (12 : Nat) n fun i =>
                                    [FV.lit (Value.int IntKind.i64 (Raw23.what (x i))), FV.lit (Value.int IntKind.i64 (Raw23.seq (x i))), FV.lit (Value.int IntKind.i64 (Raw23.client (x i))), FV.lit (Value.int IntKind.i64 (Raw23.why (x i))),
                                      FV.lit (Value.int IntKind.i64 (RawOp.kind (Raw23.op (x i)))), FV.lit (Value.int IntKind.i64 (RawOp.key (Raw23.op (x i)))), FV.lit (Value.int IntKind.i64 (RawOp.value (Raw23.op (x i)))),
                                      FV.lit (Value.int IntKind.i64 (RawOp.old (Raw23.op (x i)))), FV.lit (Value.int IntKind.i64 (RawOp.client (Raw23.op (x i)))), FV.lit (Value.int IntKind.i64 (RawOp.seq (Raw23.op (x i)))),
                                      FV.lit (Value.int IntKind.i64 (RawOp.bend (Raw23.op (x i)))), FV.lit (Value.string (RawOp.text (Raw23.op (x i))))])))),
                          ((26 : Nat), SV.v (AI (↑n : Int))), ((27 : Nat), SV.v (AI (IntKind.wrap IntKind.i64 ((↑i : Int) + (1 : Int))))), ((3 : Nat), SV.v (AP (0 : Nat))), ((4 : Nat), SV.v (AI sq)), ((5 : Nat), SV.v (AB false)),
                          ((6 : Nat), SV.v (AP (1 : Nat)))],
                      H := [((0 : Nat), Ob.cells [I (1 : Int), I sq, I kd, Sg ky, Sg vl, Sg od, Bo false]), ((1 : Nat), Ob.cells [I kd, Sg ky, Sg vl, Sg od])], nx := (2 : Nat), esc := false, base := (0 : Nat), wr := [] })))))
          T.bad)
        T.bad)
      T.bad)
    (T.ret
      (Ex.exit (0 : Nat), { sl := [], H := [((1 : Nat), Ob.cells [I kd, Sg ky, Sg vl, Sg od]), ((0 : Nat), Ob.cells [I (1 : Int), I sq, I kd, Sg ky, Sg vl, Sg od, Bo false])], nx := (2 : Nat), esc := false, base := (0 : Nat), wr := [] })) := by kernel_rfl
def SOw (nl : Bool) (n : Nat) (x : Nat → Raw23) (i : Nat) (sq kd : Int) (ky vl od : ByteArray) (wt : Bool) : St :=
  { SO nl n x i sq kd ky vl od wt with H := [(0, .cells [I 1, I sq, I kd, Sg ky, Sg vl, Sg od, Bo wt]), (1, .cells [I kd, Sg ky, Sg vl, Sg od])] }
theorem SOw_le (nl : Bool) (n : Nat) (x : Nat → Raw23) (i : Nat) (sq kd : Int) (ky vl od : ByteArray) (wt : Bool) : StLe 2 (SOw nl n x i sq kd ky vl od wt) (SO nl n x i sq kd ky vl od wt) :=
  StLe.heap (s := SOw nl n x i sq kd ky vl od wt) (Nat.le_refl 2) fun b => by rcases b with _ | _ | b <;> rfl
theorem hear4 (s : Int) : hearB true 1 s 9 1 s 4 = true := by simp [hearB]
theorem hear4f (s : Int) : hearB false 1 s 9 1 s 4 = false := by simp [hearB]
theorem round_one (n : Nat) (x : Nat → Raw23) (i : Nat) (sq kd : Int) (ky vl od : ByteArray) (wt : Bool) (hi : i < n) (hn : (n : Int) ≤ 9223372036854775807) :
    ∃ sq' kd' ky' vl' od' wt', (evRound GPD1 300 7 Try.f7.ntmps (loopOf Try.f7 8) 2 [25, 26, 27, 3, 4, 5, 6] [2] (SO false n x i sq kd ky vl od wt)).res = some (.normal, SOw false n x (i + 1) sq' kd' ky' vl' od' wt') := by
  have e1 : (0 : Int) ≤ (i : Int) ∧ (i : Int) < (n : Int) := by omega
  have e2 : (i : Int) < (n : Int) := by omega
  have e3 : IntKind.wrap .i64 ((i : Int) + 1) = ((i + 1 : Nat) : Int) := by rw [wrapI (by omega)]; rfl
  have h4 : (0 : Int) < 4 ∧ (4 : Int) ≤ 4611686018427387904 := by omega
  cases wt with
  | true =>
    by_cases h3 : (x i).what % 4 = 0 ∨ (x i).what % 4 = 1 ∨ (x i).what % 4 = 2
    · refine ⟨sq, kd, ky, vl, od, true, T.over_eq _ (tree_one_true false n x i sq kd ky vl od) ?_⟩
      simp only [T.res_br, T.res_ret, T.res_bad, pb_true h4, e1, e2, e3, hear4, bytes_self, bne_self_eq_false, Bool.not_true, Bool.not_false, Bool.and_true, Bool.true_and, Bool.and_false, beq_self_eq_true, Bool.false_eq_true, if_false, if_true, decide_eq_true_eq, decide_true, and_self]
      rcases h3 with h3 | h3 | h3 <;> rw [h3] <;> rfl
    · refine ⟨sq, kd, ky, vl, od, false, T.over_eq _ (tree_one_true false n x i sq kd ky vl od) ?_⟩
      have a0 : ((x i).what % 4 == 0) = false := by rw [beq_eq_false_iff_ne]; omega
      have a1 : ((x i).what % 4 == 1) = false := by rw [beq_eq_false_iff_ne]; omega
      have a2 : ((x i).what % 4 == 2) = false := by rw [beq_eq_false_iff_ne]; omega
      simp only [a0, a1, a2, T.res_br, T.res_ret, T.res_bad, pb_true h4, e1, e2, e3, hear4, bytes_self, bne_self_eq_false, Bool.not_true, Bool.not_false, Bool.and_true, Bool.true_and, Bool.and_false, beq_self_eq_true, Bool.false_eq_true, if_false, if_true, decide_eq_true_eq, decide_true, and_self]
      rfl
  | false =>
    by_cases h3 : (x i).what % 4 = 0 ∨ (x i).what % 4 = 1
    · refine ⟨IntKind.wrap .i64 (sq + 1), 1 + (x i).op.kind % 4, keyS ((x i).op.key % 16), opV (x i).op.kind (x i).op.value, opO (x i).op.kind (x i).op.old, true, T.over_eq _ (tree_one_false false n x i sq kd ky vl od) ?_⟩
      simp only [rightOp, cond_true, T.res_br, T.res_ret, T.res_bad, pb_true h4, e1, e2, e3, hear4, bytes_self, bne_self_eq_false, Bool.not_true, Bool.not_false, Bool.and_true, Bool.true_and, Bool.and_false, beq_self_eq_true, Bool.false_eq_true, if_false, if_true, decide_eq_true_eq, decide_true, and_self]
      rcases h3 with h3 | h3 <;> rw [h3] <;> rfl
    · refine ⟨sq, kd, ky, vl, od, false, T.over_eq _ (tree_one_false false n x i sq kd ky vl od) ?_⟩
      have a0 : ((x i).what % 4 == 0) = false := by rw [beq_eq_false_iff_ne]; omega
      have a1 : ((x i).what % 4 == 1) = false := by rw [beq_eq_false_iff_ne]; omega
      simp only [a0, a1, hear4f, T.res_br, T.res_ret, T.res_bad, pb_true h4, e1, e2, e3, bytes_self, bne_self_eq_false, Bool.not_true, Bool.not_false, Bool.and_true, Bool.true_and, Bool.and_false, beq_self_eq_true, Bool.false_eq_true, if_false, if_true, decide_eq_true_eq, decide_true, and_self]
      first
        | rfl
        | (split <;> rfl)
theorem end_one (nl : Bool) (n : Nat) (x : Nat → Raw23) (sq kd : Int) (ky vl od : ByteArray) (wt : Bool) :
    (evRound GPD1 300 7 Try.f7.ntmps (loopOf Try.f7 8) 2 [25, 26, 27, 3, 4, 5, 6] [2] (SO nl n x n sq kd ky vl od wt)).res = some (.exit 0, { SO nl n x n sq kd ky vl od wt with sl := [] }) := by
  cases wt with
  | true =>
    refine T.over_eq _ (tree_one_true nl n x n sq kd ky vl od) ?_
    simp only [T.res_br, T.res_ret, T.res_bad, decide_eq_true_eq, Int.lt_irrefl, if_false]
    rfl
  | false =>
    refine T.over_eq _ (tree_one_false nl n x n sq kd ky vl od) ?_
    simp only [T.res_br, T.res_ret, T.res_bad, decide_eq_true_eq, Int.lt_irrefl, if_false]
    rfl
theorem loop_one (nl : Bool) (n : Nat) (x : Nat → Raw23) (sq kd : Int) (ky vl od : ByteArray) (wt : Bool) (hn : (n : Int) ≤ 9223372036854775807) (hnl : nl = true → n = 0) {st0 : St} (h0 : StLe 2 st0 (SO nl n x 0 sq kd ky vl od wt)) (hnx : st0.nx = 2) :
    CodeOk Try.prog Try.f7.ntmps (.loop (loopOf Try.f7 8)) st0 (.exit 0) ⟨[], [], 2, false, 0, []⟩ := by
  refine loop_to (GS_ok.with _ _) GKPD1 (K := 300) (F := 7) (live := [25, 26, 27, 3, 4, 5, 6]) (after := [2]) (α := Nat × Int × Int × ByteArray × ByteArray × ByteArray × Bool) (fun p => SO nl n x p.1 p.2.1 p.2.2.1 p.2.2.2.1 p.2.2.2.2.1 p.2.2.2.2.2.1 p.2.2.2.2.2.2) (fun p => n - p.1) (fun p => p.1 ≤ n) (.exit 0) _ ?_ (fun p => Nat.le_refl 2) (p := (0, sq, kd, ky, vl, od, wt)) (Nat.zero_le _) h0 hnx
  rintro ⟨i, sq, kd, ky, vl, od, wt⟩ hi
  simp only at hi
  rcases Nat.lt_or_ge i n with h | h
  · obtain rfl : nl = false := by cases nl <;> simp_all
    obtain ⟨q1, q2, q3, q4, q5, q6, h1⟩ := round_one n x i sq kd ky vl od wt h hn
    exact ⟨_, _, h1, .inl ⟨rfl, (i + 1, q1, q2, q3, q4, q5, q6), SOw_le .., h, by simp only; omega⟩⟩
  · obtain rfl : i = n := by omega
    exact ⟨_, _, end_one nl i x sq kd ky vl od wt, .inr ⟨by simp, _, StLe.sift (s := { SO nl i x i sq kd ky vl od wt with sl := [] }) (Nat.le_refl 2) fun _ => false, rfl, rfl⟩⟩
def PreOne (nl : Bool) (n : Nat) (e : Nat → List FV) (n' i kd k0 : Int) (ky y0 vl v0 od o0 : ByteArray) (sq sq0 : Int) (wt w0 : Bool) (c1 : Int) : Prop :=
  ∃ x : Nat → Raw23, e = (fun i => (x i).fs) ∧ n' = n ∧ i = 0 ∧ k0 = kd ∧ y0 = ky ∧ v0 = vl ∧ o0 = od ∧ sq0 = sq ∧ w0 = wt ∧ c1 = 1 ∧ (n : Int) ≤ 9223372036854775807 ∧ (nl = true → n = 0)
noncomputable def L_one : LoopF := mkLoop [25, 26, 27, 3, 4, 5, 6] (loopOf Try.f7 8) Try.f7.ntmps fun sl H nx esc => match sl, H, nx, esc with
  | [(25, .v (.one (.f (.fs nl 12 n e)))), (26, .v (.one (.f (.lit (.int .i64 n'))))), (27, .v (.one (.f (.lit (.int .i64 i))))), (3, .v (.one (.ptr 0 0 0 0))), (4, .v (.one (.f (.lit (.int .i64 sq))))), (5, .v (.one (.f (.lit (.bool wt))))), (6, .v (.one (.ptr 1 0 0 0)))],
    [(1, .cells [.f (.lit (.int .i64 kd)), .f (.lit (.string ky)), .f (.lit (.string vl)), .f (.lit (.string od))]),
     (0, .cells [.f (.lit (.int .i64 c1)), .f (.lit (.int .i64 sq0)), .f (.lit (.int .i64 k0)), .f (.lit (.string y0)), .f (.lit (.string v0)), .f (.lit (.string o0)), .f (.lit (.bool w0))])], 2, false =>
    .need (pb (PreOne nl n e n' i kd k0 ky y0 vl v0 od o0 sq sq0 wt w0 c1)) (.ret (.exit 0, [], [], 2, false))
  | _, _, _, _ => .bad
theorem L_one_ok : LoopOk Try.prog L_one := by
  refine mkLoop_ok fun sl H nx esc e sl' H' nx' esc' h => ?_
  split at h
  · obtain ⟨hp, h2⟩ := T.need_some h
    obtain ⟨x, rfl, rfl, rfl, rfl, rfl, rfl, rfl, rfl, rfl, rfl, h3, h4⟩ := pb_of hp
    have := T.ret_some h2
    simp only [Prod.mk.injEq] at this
    obtain ⟨rfl, rfl, rfl, rfl, rfl⟩ := this
    exact loop_one _ _ x _ _ _ _ _ _ h3 h4 (StLe.refl (Nat.le_refl 2)) rfl
  · exact (T.bad_some h).elim
noncomputable def ll_one : List (Nat × Nat × LoopF) := (7, 8, L_one) :: ll_apart
theorem ll_one_ok : ∀ x ∈ ll_one, LoopOk Try.prog x.2.2 := List.forall_mem_cons.2 ⟨L_one_ok, ll_apart_ok⟩

noncomputable def GPD2 : Ctx := GS.with ss_known23 ll_one
noncomputable def tgt_One (nl : Bool) (n : Nat) (x : Nat → Raw23) : T CallOut := evCallW [] GPD2 300 7 [.one (.f (.fs nl 12 n fun i => (x i).fs))] [] 0
theorem GKPD2 : KnownOk Try.prog GPD2 := KnownOk.lists ss_known23_ok ll_one_ok
theorem tree_One (nl : Bool) (n : Nat) (x : Nat → Raw23) : (tgt_One nl n x).over (.ff (.ff (.ff (.ff (.br (.br .leaf .skip) .skip))))) =
  T.br (pb (loopOf Proofs.Try.f7 (8 : Nat) = loopOf Proofs.Try.f7 (8 : Nat) ∧ (138 : Nat) = (138 : Nat)))
    (T.br (pb (PreOne nl n (fun i => Raw23.fs (x i)) (↑n : Int) (0 : Int) (0 : Int) (0 : Int) { data := #[] } { data := #[] } { data := #[] } { data := #[] } { data := #[] } { data := #[] } (0 : Int) (0 : Int) false false (1 : Int)))
      (T.ret (out0 (SV.v (AB true)))) T.bad)
    T.bad := by kernel_rfl
theorem res_One (nl : Bool) (n : Nat) (x : Nat → Raw23) (h : (n : Int) ≤ 9223372036854775807 ∧ (nl = true → n = 0)) : (tgt_One nl n x).res = some (out0 (.v (AB true))) := by
  refine T.over_eq _ (tree_One nl n x) ?_
  simp only [T.res_br, T.res_ret, T.res_bad]
  rw [if_pos (pb_true (by simp)), if_pos (pb_true ?_)]
  exact ⟨x, rfl, rfl, rfl, rfl, rfl, rfl, rfl, rfl, rfl, rfl, h.1, h.2⟩
end Go.Proofs.Ytabmkefbceepmaa.En
