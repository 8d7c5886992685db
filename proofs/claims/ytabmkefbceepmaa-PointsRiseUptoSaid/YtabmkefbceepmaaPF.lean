/- A round of ClientTells' loop. -/
import Derived.Test.YtabmkefbceepmaaPE
namespace Go.Proofs.Ytabmkefbceepmaa.En
open Go
set_option linter.unusedVariables false
set_option linter.unusedSimpArgs false
set_option maxRecDepth 20000
def ST (nl : Bool) (n : Nat) (x : Nat → Raw23) (i : Nat) (cl sq kd : Int) (ky vl od : ByteArray) (wt : Bool) : St :=
  ⟨[(36, .v (.one (.f (.fs nl 12 n fun i => (x i).fs)))), (37, .v (AI n)), (38, .v (AI i)), (5, .v (AP 0)), (6, .v (AP 1))],
    [(1, .cells [I cl, I sq, Bo wt, I kd, Sg ky, Sg vl, Sg od]), (0, .cells [I cl, I sq, I kd, Sg ky, Sg vl, Sg od, Bo wt])], 2, false, 0, []⟩

noncomputable def GPF1 : Ctx := GS.with ss_Req ll_one
noncomputable def tgt_tell_true (nl : Bool) (n : Nat) (x : Nat → Raw23) (i : Nat) (cl sq kd : Int) (ky vl od : ByteArray) : T (Ex × St) := evRound GPF1 300 6 Try.f6.ntmps (loopOf Try.f6 7) 2 [36, 37, 38, 5, 6] [4] (ST nl n x i cl sq kd ky vl od true)
noncomputable def tgt_tell_false (nl : Bool) (n : Nat) (x : Nat → Raw23) (i : Nat) (cl sq kd : Int) (ky vl od : ByteArray) : T (Ex × St) := evRound GPF1 300 6 Try.f6.ntmps (loopOf Try.f6 7) 2 [36, 37, 38, 5, 6] [4] (ST nl n x i cl sq kd ky vl od false)
theorem GKPF1 : KnownOk Try.prog GPF1 := KnownOk.lists ss_Req_ok ll_one_ok
theorem tree_tell_true (nl : Bool) (n : Nat) (x : Nat → Raw23) (i : Nat) (cl sq kd : Int) (ky vl od : ByteArray) : (tgt_tell_true nl n x i cl sq kd ky vl od).over (.br (.br (.br (.br (.br (.ff (.ff (.ff (.ff (.ff (.ff .leaf)))))) (.br (.br (.tt (.tt (.tt (.tt .skip)))) (.ff (.ff (.ff (.ff (.ff .leaf)))))) (.br (.br (.ff (.br (.br (.br (.br (.br (.ff (.ff (.ff (.ff (.ff (.ff .leaf)))))) (.br (.tt (.tt (.tt (.tt .skip)))) (.ff (.ff (.ff (.br .skip (.br .skip .leaf))))))) .skip) (.br (.br (.ff (.ff (.ff (.ff (.ff (.ff .leaf)))))) (.br (.tt (.tt (.tt (.tt .skip)))) (.ff (.ff (.ff (.br .skip (.br .skip .leaf))))))) .skip)) .skip) .skip)) .skip) .skip))) .skip) .skip) .skip) .leaf) =
  T.br (decide ((↑i : Int) < (↑n : Int)))
    (T.br (!nl)
      (T.br (decide ((0 : Int) ≤ (↑i : Int) ∧ (↑i : Int) < (↑n : Int)))
        (T.br (pb ((0 : Int) < (4 : Int) ∧ (4 : Int) ≤ (4611686018427387904 : Int)))
          (T.br (Raw23.what (x i) % (4 : Int) == (0 : Int))
            (T.ret
              (Ex.normal,
                {
                  sl :=
                    [((36 : Nat),
                        SV.v
                          (AV.one
                            (CV.f
                              (FV.fs nl (12 : Nat) n fun i =>
                                [FV.lit (Value.int IntKind.i64 (Raw23.what (x i))), FV.lit (Value.int IntKind.i64 (Raw23.seq (x i))), FV.lit (Value.int IntKind.i64 (Raw23.client (x i))), FV.lit (Value.int IntKind.i64 (Raw23.why (x i))),
                                  FV.lit (Value.int IntKind.i64 (RawOp.kind (Raw23.op (x i)))), FV.lit (Value.int IntKind.i64 (RawOp.key (Raw23.op (x i)))), FV.lit (Value.int IntKind.i64 (RawOp.value (Raw23.op (x i)))),
                                  FV.lit (Value.int IntKind.i64 (RawOp.old (Raw23.op (x i)))), FV.lit (Value.int IntKind.i64 (RawOp.client (Raw23.op (x i)))), FV.lit (Value.int IntKind.i64 (RawOp.seq (Raw23.op (x i)))),
                                  FV.lit (Value.int IntKind.i64 (RawOp.bend (Raw23.op (x i)))), FV.lit (Value.string (RawOp.text (Raw23.op (x i))))])))),
                      ((37 : Nat), SV.v (AI (↑n : Int))), ((38 : Nat), SV.v (AI (IntKind.wrap IntKind.i64 ((↑i : Int) + (1 : Int))))), ((5 : Nat), SV.v (AP (0 : Nat))), ((6 : Nat), SV.v (AP (1 : Nat)))],
                  H := [((0 : Nat), Ob.cells [I cl, I sq, I kd, Sg ky, Sg vl, Sg od, Bo true]), ((1 : Nat), Ob.cells [I cl, I sq, Bo true, I kd, Sg ky, Sg vl, Sg od])], nx := (2 : Nat), esc := false, base := (0 : Nat), wr := [] : St }))
            (T.br (Raw23.what (x i) % (4 : Int) == (1 : Int))
              (T.br (!(cl == cl && (sq == sq && (kd == kd && (ky == ky && (vl == vl && (od == od && true))))))) T.bad
                (T.ret
                  (Ex.normal,
                    {
                      sl :=
                        [((36 : Nat),
                            SV.v
                              (AV.one
                                (CV.f
                                  (FV.fs nl (12 : Nat) n fun i =>
                                    [FV.lit (Value.int IntKind.i64 (Raw23.what (x i))), FV.lit (Value.int IntKind.i64 (Raw23.seq (x i))), FV.lit (Value.int IntKind.i64 (Raw23.client (x i))), FV.lit (Value.int IntKind.i64 (Raw23.why (x i))),
                                      FV.lit (Value.int IntKind.i64 (RawOp.kind (Raw23.op (x i)))), FV.lit (Value.int IntKind.i64 (RawOp.key (Raw23.op (x i)))), FV.lit (Value.int IntKind.i64 (RawOp.value (Raw23.op (x i)))),
                                      FV.lit (Value.int IntKind.i64 (RawOp.old (Raw23.op (x i)))), FV.lit (Value.int IntKind.i64 (RawOp.client (Raw23.op (x i)))), FV.lit (Value.int IntKind.i64 (RawOp.seq (Raw23.op (x i)))),
                                      FV.lit (Value.int IntKind.i64 (RawOp.bend (Raw23.op (x i)))), FV.lit (Value.string (RawOp.text (Raw23.op (x i))))])))),
                          ((37 : Nat), SV.v (AI (↑n : Int))), ((38 : Nat), SV.v (AI (IntKind.wrap IntKind.i64 ((↑i : Int) + (1 : Int))))), ((5 : Nat), SV.v (AP (0 : Nat))), ((6 : Nat), SV.v (AP (1 : Nat)))],
                      H := [((0 : Nat), Ob.cells [I cl, I sq, I kd, Sg ky, Sg vl, Sg od, Bo true]), ((1 : Nat), Ob.cells [I cl, I sq, Bo true, I kd, Sg ky, Sg vl, Sg od])], nx := (2 : Nat), esc := false, base := (0 : Nat), wr := [] : St })))
              (T.br (pb ((0 : Int) < (5 : Int) ∧ (5 : Int) ≤ (4611686018427387904 : Int)))
                (T.br (pb ((0 : Int) < (3 : Int) ∧ (3 : Int) ≤ (4611686018427387904 : Int)))
                  (T.br (pb ((0 : Int) < (12 : Int) ∧ (12 : Int) ≤ (4611686018427387904 : Int)))
                    (T.br (pb ((0 : Int) < (3 : Int) ∧ (3 : Int) ≤ (4611686018427387904 : Int)))
                      (T.br (decide (Raw23.client (x i) % (3 : Int) > (0 : Int)))
                        (T.br (pb ((0 : Int) < (17 : Int) ∧ (17 : Int) ≤ (4611686018427387904 : Int)))
                          (T.br (Raw23.seq (x i) % (17 : Int) == (16 : Int))
                            (T.ret
                              (Ex.normal,
                                {
                                  sl :=
                                    [((36 : Nat),
                                        SV.v
                                          (AV.one
                                            (CV.f
                                              (FV.fs nl (12 : Nat) n fun i =>
                                                [FV.lit (Value.int IntKind.i64 (Raw23.what (x i))), FV.lit (Value.int IntKind.i64 (Raw23.seq (x i))), FV.lit (Value.int IntKind.i64 (Raw23.client (x i))),
                                                  FV.lit (Value.int IntKind.i64 (Raw23.why (x i))), FV.lit (Value.int IntKind.i64 (RawOp.kind (Raw23.op (x i)))), FV.lit (Value.int IntKind.i64 (RawOp.key (Raw23.op (x i)))),
                                                  FV.lit (Value.int IntKind.i64 (RawOp.value (Raw23.op (x i)))), FV.lit (Value.int IntKind.i64 (RawOp.old (Raw23.op (x i)))), FV.lit (Value.int IntKind.i64 (RawOp.client (Raw23.op (x i)))),
                                                  FV.lit (Value.int IntKind.i64 (RawOp.seq (Raw23.op (x i)))), FV.lit (Value.int IntKind.i64 (RawOp.bend (Raw23.op (x i)))), FV.lit (Value.string (RawOp.text (Raw23.op (x i))))])))),
                                      ((37 : Nat), SV.v (AI (↑n : Int))), ((38 : Nat), SV.v (AI (IntKind.wrap IntKind.i64 ((↑i : Int) + (1 : Int))))), ((5 : Nat), SV.v (AP (0 : Nat))), ((6 : Nat), SV.v (AP (1 : Nat)))],
                                  H := [((0 : Nat), Ob.cells [I cl, I sq, I kd, Sg ky, Sg vl, Sg od, Bo true]), ((1 : Nat), Ob.cells [I cl, I sq, Bo true, I kd, Sg ky, Sg vl, Sg od])], nx := (2 : Nat), esc := false, base := (0 : Nat),
                                  wr := [] : St }))
                            (T.br
                              (!(((bif hearB true cl sq (9 : Int) cl (IntKind.wrap IntKind.i64 (sq - IntKind.wrap IntKind.i64 (Int.tdiv (Raw23.seq (x i) % (3 : Int)) (2 : Int)))) (Raw23.why (x i) % (12 : Int)) then
                                      Raw23.why (x i) % (12 : Int)
                                    else (0 : Int)) ==
                                    bif hearB true cl sq (9 : Int) cl (IntKind.wrap IntKind.i64 (sq - IntKind.wrap IntKind.i64 (Int.tdiv (Raw23.seq (x i) % (3 : Int)) (2 : Int)))) (Raw23.why (x i) % (12 : Int)) then
                                      Raw23.why (x i) % (12 : Int)
                                    else (0 : Int)) &&
                                  (((bif hearB true cl sq (9 : Int) cl (IntKind.wrap IntKind.i64 (sq - IntKind.wrap IntKind.i64 (Int.tdiv (Raw23.seq (x i) % (3 : Int)) (2 : Int)))) (Raw23.why (x i) % (12 : Int)) then
                                        { data := #[(118 : UInt8)] : ByteArray }
                                      else { data := #[] : ByteArray }) ==
                                      bif hearB true cl sq (9 : Int) cl (IntKind.wrap IntKind.i64 (sq - IntKind.wrap IntKind.i64 (Int.tdiv (Raw23.seq (x i) % (3 : Int)) (2 : Int)))) (Raw23.why (x i) % (12 : Int)) then
                                        { data := #[(118 : UInt8)] : ByteArray }
                                      else { data := #[] : ByteArray }) &&
                                    true)))
                              T.bad
                              (T.br
                                (!hearB true cl sq (9 : Int) cl (IntKind.wrap IntKind.i64 (sq - IntKind.wrap IntKind.i64 (Int.tdiv (Raw23.seq (x i) % (3 : Int)) (2 : Int)))) (Raw23.why (x i) % (12 : Int)) ==
                                    hearB true cl sq (9 : Int) cl (IntKind.wrap IntKind.i64 (sq - IntKind.wrap IntKind.i64 (Int.tdiv (Raw23.seq (x i) % (3 : Int)) (2 : Int)))) (Raw23.why (x i) % (12 : Int)))
                                T.bad
                                (T.br
                                  (!(!hearB true cl sq (9 : Int) cl (IntKind.wrap IntKind.i64 (sq - IntKind.wrap IntKind.i64 (Int.tdiv (Raw23.seq (x i) % (3 : Int)) (2 : Int)))) (Raw23.why (x i) % (12 : Int))) ==
                                      !hearB true cl sq (9 : Int) cl (IntKind.wrap IntKind.i64 (sq - IntKind.wrap IntKind.i64 (Int.tdiv (Raw23.seq (x i) % (3 : Int)) (2 : Int)))) (Raw23.why (x i) % (12 : Int)))
                                  T.bad
                                  (T.ret
                                    (Ex.normal,
                                      {
                                        sl :=
                                          [((36 : Nat),
                                              SV.v
                                                (AV.one
                                                  (CV.f
                                                    (FV.fs nl (12 : Nat) n fun i =>
                                                      [FV.lit (Value.int IntKind.i64 (Raw23.what (x i))), FV.lit (Value.int IntKind.i64 (Raw23.seq (x i))), FV.lit (Value.int IntKind.i64 (Raw23.client (x i))),
                                                        FV.lit (Value.int IntKind.i64 (Raw23.why (x i))), FV.lit (Value.int IntKind.i64 (RawOp.kind (Raw23.op (x i)))), FV.lit (Value.int IntKind.i64 (RawOp.key (Raw23.op (x i)))),
                                                        FV.lit (Value.int IntKind.i64 (RawOp.value (Raw23.op (x i)))), FV.lit (Value.int IntKind.i64 (RawOp.old (Raw23.op (x i)))),
                                                        FV.lit (Value.int IntKind.i64 (RawOp.client (Raw23.op (x i)))), FV.lit (Value.int IntKind.i64 (RawOp.seq (Raw23.op (x i)))), FV.lit (Value.int IntKind.i64 (RawOp.bend (Raw23.op (x i)))),
                                                        FV.lit (Value.string (RawOp.text (Raw23.op (x i))))])))),
                                            ((37 : Nat), SV.v (AI (↑n : Int))), ((38 : Nat), SV.v (AI (IntKind.wrap IntKind.i64 ((↑i : Int) + (1 : Int))))), ((5 : Nat), SV.v (AP (0 : Nat))), ((6 : Nat), SV.v (AP (1 : Nat)))],
                                        H :=
                                          [((0 : Nat),
                                              Ob.cells
                                                [I cl, I sq, I kd, Sg ky, Sg vl, Sg od,
                                                  Bo !hearB true cl sq (9 : Int) cl (IntKind.wrap IntKind.i64 (sq - IntKind.wrap IntKind.i64 (Int.tdiv (Raw23.seq (x i) % (3 : Int)) (2 : Int)))) (Raw23.why (x i) % (12 : Int))]),
                                            ((1 : Nat),
                                              Ob.cells
                                                [I cl, I sq, Bo !hearB true cl sq (9 : Int) cl (IntKind.wrap IntKind.i64 (sq - IntKind.wrap IntKind.i64 (Int.tdiv (Raw23.seq (x i) % (3 : Int)) (2 : Int)))) (Raw23.why (x i) % (12 : Int)), I kd,
                                                  Sg ky, Sg vl, Sg od])],
                                        nx := (2 : Nat), esc := false, base := (0 : Nat), wr := [] : St }))))))
                          T.bad)
                        (T.br (pb ((0 : Int) < (17 : Int) ∧ (17 : Int) ≤ (4611686018427387904 : Int)))
                          (T.br (Raw23.seq (x i) % (17 : Int) == (16 : Int))
                            (T.ret
                              (Ex.normal,
                                {
                                  sl :=
                                    [((36 : Nat),
                                        SV.v
                                          (AV.one
                                            (CV.f
                                              (FV.fs nl (12 : Nat) n fun i =>
                                                [FV.lit (Value.int IntKind.i64 (Raw23.what (x i))), FV.lit (Value.int IntKind.i64 (Raw23.seq (x i))), FV.lit (Value.int IntKind.i64 (Raw23.client (x i))),
                                                  FV.lit (Value.int IntKind.i64 (Raw23.why (x i))), FV.lit (Value.int IntKind.i64 (RawOp.kind (Raw23.op (x i)))), FV.lit (Value.int IntKind.i64 (RawOp.key (Raw23.op (x i)))),
                                                  FV.lit (Value.int IntKind.i64 (RawOp.value (Raw23.op (x i)))), FV.lit (Value.int IntKind.i64 (RawOp.old (Raw23.op (x i)))), FV.lit (Value.int IntKind.i64 (RawOp.client (Raw23.op (x i)))),
                                                  FV.lit (Value.int IntKind.i64 (RawOp.seq (Raw23.op (x i)))), FV.lit (Value.int IntKind.i64 (RawOp.bend (Raw23.op (x i)))), FV.lit (Value.string (RawOp.text (Raw23.op (x i))))])))),
                                      ((37 : Nat), SV.v (AI (↑n : Int))), ((38 : Nat), SV.v (AI (IntKind.wrap IntKind.i64 ((↑i : Int) + (1 : Int))))), ((5 : Nat), SV.v (AP (0 : Nat))), ((6 : Nat), SV.v (AP (1 : Nat)))],
                                  H := [((0 : Nat), Ob.cells [I cl, I sq, I kd, Sg ky, Sg vl, Sg od, Bo true]), ((1 : Nat), Ob.cells [I cl, I sq, Bo true, I kd, Sg ky, Sg vl, Sg od])], nx := (2 : Nat), esc := false, base := (0 : Nat),
                                  wr := [] : St }))
                            (T.br
                              (!(((bif
                                        hearB true cl sq (9 : Int) (Raw23.client (x i) % (5 : Int)) (IntKind.wrap IntKind.i64 (sq - IntKind.wrap IntKind.i64 (Int.tdiv (Raw23.seq (x i) % (3 : Int)) (2 : Int))))
                                          (Raw23.why (x i) % (12 : Int)) then
                                      Raw23.why (x i) % (12 : Int)
                                    else (0 : Int)) ==
                                    bif
                                        hearB true cl sq (9 : Int) (Raw23.client (x i) % (5 : Int)) (IntKind.wrap IntKind.i64 (sq - IntKind.wrap IntKind.i64 (Int.tdiv (Raw23.seq (x i) % (3 : Int)) (2 : Int))))
                                          (Raw23.why (x i) % (12 : Int)) then
                                      Raw23.why (x i) % (12 : Int)
                                    else (0 : Int)) &&
                                  (((bif
                                          hearB true cl sq (9 : Int) (Raw23.client (x i) % (5 : Int)) (IntKind.wrap IntKind.i64 (sq - IntKind.wrap IntKind.i64 (Int.tdiv (Raw23.seq (x i) % (3 : Int)) (2 : Int))))
                                            (Raw23.why (x i) % (12 : Int)) then
                                        { data := #[(118 : UInt8)] : ByteArray }
                                      else { data := #[] : ByteArray }) ==
                                      bif
                                          hearB true cl sq (9 : Int) (Raw23.client (x i) % (5 : Int)) (IntKind.wrap IntKind.i64 (sq - IntKind.wrap IntKind.i64 (Int.tdiv (Raw23.seq (x i) % (3 : Int)) (2 : Int))))
                                            (Raw23.why (x i) % (12 : Int)) then
                                        { data := #[(118 : UInt8)] : ByteArray }
                                      else { data := #[] : ByteArray }) &&
                                    true)))
                              T.bad
                              (T.br
                                (!hearB true cl sq (9 : Int) (Raw23.client (x i) % (5 : Int)) (IntKind.wrap IntKind.i64 (sq - IntKind.wrap IntKind.i64 (Int.tdiv (Raw23.seq (x i) % (3 : Int)) (2 : Int)))) (Raw23.why (x i) % (12 : Int)) ==
                                    hearB true cl sq (9 : Int) (Raw23.client (x i) % (5 : Int)) (IntKind.wrap IntKind.i64 (sq - IntKind.wrap IntKind.i64 (Int.tdiv (Raw23.seq (x i) % (3 : Int)) (2 : Int)))) (Raw23.why (x i) % (12 : Int)))
                                T.bad
                                (T.br
                                  (!(!hearB true cl sq (9 : Int) (Raw23.client (x i) % (5 : Int)) (IntKind.wrap IntKind.i64 (sq - IntKind.wrap IntKind.i64 (Int.tdiv (Raw23.seq (x i) % (3 : Int)) (2 : Int)))) (Raw23.why (x i) % (12 : Int))) ==
                                      !hearB true cl sq (9 : Int) (Raw23.client (x i) % (5 : Int)) (IntKind.wrap IntKind.i64 (sq - IntKind.wrap IntKind.i64 (Int.tdiv (Raw23.seq (x i) % (3 : Int)) (2 : Int)))) (Raw23.why (x i) % (12 : Int)))
                                  T.bad
                                  (T.ret
                                    (Ex.normal,
                                      {
                                        sl :=
                                          [((36 : Nat),
                                              SV.v
                                                (AV.one
                                                  (CV.f
                                                    (FV.fs nl (12 : Nat) n fun i =>
                                                      [FV.lit (Value.int IntKind.i64 (Raw23.what (x i))), FV.lit (Value.int IntKind.i64 (Raw23.seq (x i))), FV.lit (Value.int IntKind.i64 (Raw23.client (x i))),
                                                        FV.lit (Value.int IntKind.i64 (Raw23.why (x i))), FV.lit (Value.int IntKind.i64 (RawOp.kind (Raw23.op (x i)))), FV.lit (Value.int IntKind.i64 (RawOp.key (Raw23.op (x i)))),
                                                        FV.lit (Value.int IntKind.i64 (RawOp.value (Raw23.op (x i)))), FV.lit (Value.int IntKind.i64 (RawOp.old (Raw23.op (x i)))),
                                                        FV.lit (Value.int IntKind.i64 (RawOp.client (Raw23.op (x i)))), FV.lit (Value.int IntKind.i64 (RawOp.seq (Raw23.op (x i)))), FV.lit (Value.int IntKind.i64 (RawOp.bend (Raw23.op (x i)))),
                                                        FV.lit (Value.string (RawOp.text (Raw23.op (x i))))])))),
                                            ((37 : Nat), SV.v (AI (↑n : Int))), ((38 : Nat), SV.v (AI (IntKind.wrap IntKind.i64 ((↑i : Int) + (1 : Int))))), ((5 : Nat), SV.v (AP (0 : Nat))), ((6 : Nat), SV.v (AP (1 : Nat)))],
                                        H :=
                                          [((0 : Nat),
                                              Ob.cells
                                                [I cl, I sq, I kd, Sg ky, Sg vl, Sg od,
                                                  Bo
                                                    !hearB true cl sq (9 : Int) (Raw23.client (x i) % (5 : Int)) (IntKind.wrap IntKind.i64 (sq - IntKind.wrap IntKind.i64 (Int.tdiv (Raw23.seq (x i) % (3 : Int)) (2 : Int))))
                                                        (Raw23.why (x i) % (12 : Int))]),
                                            ((1 : Nat),
                                              Ob.cells
                                                [I cl, I sq,
                                                  Bo
                                                    !hearB true cl sq (9 : Int) (Raw23.client (x i) % (5 : Int)) (IntKind.wrap IntKind.i64 (sq - IntKind.wrap IntKind.i64 (Int.tdiv (Raw23.seq (x i) % (3 : Int)) (2 : Int))))
                                                        (Raw23.why (x i) % (12 : Int)),
                                                  I kd, Sg ky, Sg vl, Sg od])],
                                        nx := (2 : Nat), esc := false, base := (0 : Nat), wr := [] : St }))))))
                          T.bad))
                      T.bad)
                    T.bad)
                  T.bad)
                T.bad)))
          T.bad)
        T.bad)
      T.bad)
    (T.ret
      (Ex.exit (0 : Nat),
        { sl := [], H := [((1 : Nat), Ob.cells [I cl, I sq, Bo true, I kd, Sg ky, Sg vl, Sg od]), ((0 : Nat), Ob.cells [I cl, I sq, I kd, Sg ky, Sg vl, Sg od, Bo true])], nx := (2 : Nat), esc := false, base := (0 : Nat), wr := [] : St })) := by kernel_rfl
theorem tree_tell_false (nl : Bool) (n : Nat) (x : Nat → Raw23) (i : Nat) (cl sq kd : Int) (ky vl od : ByteArray) : (tgt_tell_false nl n x i cl sq kd ky vl od).over (.br (.br (.br (.br (.br (.br (.tt (.tt (.tt (.tt .skip)))) (.ff (.ff (.ff (.br .skip (.br .skip .leaf)))))) (.br (.ff (.ff (.ff (.ff (.ff (.ff .leaf)))))) (.br (.br (.ff (.br (.br (.br (.br (.br (.ff (.ff (.ff (.ff (.ff (.ff .leaf)))))) (.ff (.ff (.ff (.ff (.ff (.ff .leaf))))))) .skip) (.br (.br (.ff (.ff (.ff (.ff (.ff (.ff .leaf)))))) (.ff (.ff (.ff (.ff (.ff (.ff .leaf))))))) .skip)) .skip) .skip)) .skip) .skip))) .skip) .skip) .skip) .leaf) =
  T.br (decide ((↑i : Int) < (↑n : Int)))
    (T.br (!nl)
      (T.br (decide ((0 : Int) ≤ (↑i : Int) ∧ (↑i : Int) < (↑n : Int)))
        (T.br (pb ((0 : Int) < (4 : Int) ∧ (4 : Int) ≤ (4611686018427387904 : Int)))
          (T.br (Raw23.what (x i) % (4 : Int) == (0 : Int))
            (T.br
              (!(((bif
                        rightB (reqK (RawOp.kind (Raw23.op (x i))) (RawOp.bend (Raw23.op (x i)))) (reqY (RawOp.key (Raw23.op (x i))) (RawOp.bend (Raw23.op (x i))) (RawOp.text (Raw23.op (x i))))
                          (reqV (RawOp.kind (Raw23.op (x i))) (RawOp.value (Raw23.op (x i))) (RawOp.bend (Raw23.op (x i))) (RawOp.text (Raw23.op (x i))))
                          (reqO (RawOp.kind (Raw23.op (x i))) (RawOp.old (Raw23.op (x i))) (RawOp.bend (Raw23.op (x i)))) then
                      cl
                    else (0 : Int)) ==
                    bif
                        rightB (reqK (RawOp.kind (Raw23.op (x i))) (RawOp.bend (Raw23.op (x i)))) (reqY (RawOp.key (Raw23.op (x i))) (RawOp.bend (Raw23.op (x i))) (RawOp.text (Raw23.op (x i))))
                          (reqV (RawOp.kind (Raw23.op (x i))) (RawOp.value (Raw23.op (x i))) (RawOp.bend (Raw23.op (x i))) (RawOp.text (Raw23.op (x i))))
                          (reqO (RawOp.kind (Raw23.op (x i))) (RawOp.old (Raw23.op (x i))) (RawOp.bend (Raw23.op (x i)))) then
                      cl
                    else (0 : Int)) &&
                  (((bif
                          rightB (reqK (RawOp.kind (Raw23.op (x i))) (RawOp.bend (Raw23.op (x i)))) (reqY (RawOp.key (Raw23.op (x i))) (RawOp.bend (Raw23.op (x i))) (RawOp.text (Raw23.op (x i))))
                            (reqV (RawOp.kind (Raw23.op (x i))) (RawOp.value (Raw23.op (x i))) (RawOp.bend (Raw23.op (x i))) (RawOp.text (Raw23.op (x i))))
                            (reqO (RawOp.kind (Raw23.op (x i))) (RawOp.old (Raw23.op (x i))) (RawOp.bend (Raw23.op (x i)))) then
                        IntKind.wrap IntKind.i64 (sq + (1 : Int))
                      else (0 : Int)) ==
                      bif
                          rightB (reqK (RawOp.kind (Raw23.op (x i))) (RawOp.bend (Raw23.op (x i)))) (reqY (RawOp.key (Raw23.op (x i))) (RawOp.bend (Raw23.op (x i))) (RawOp.text (Raw23.op (x i))))
                            (reqV (RawOp.kind (Raw23.op (x i))) (RawOp.value (Raw23.op (x i))) (RawOp.bend (Raw23.op (x i))) (RawOp.text (Raw23.op (x i))))
                            (reqO (RawOp.kind (Raw23.op (x i))) (RawOp.old (Raw23.op (x i))) (RawOp.bend (Raw23.op (x i)))) then
                        IntKind.wrap IntKind.i64 (sq + (1 : Int))
                      else (0 : Int)) &&
                    (((bif
                            rightB (reqK (RawOp.kind (Raw23.op (x i))) (RawOp.bend (Raw23.op (x i)))) (reqY (RawOp.key (Raw23.op (x i))) (RawOp.bend (Raw23.op (x i))) (RawOp.text (Raw23.op (x i))))
                              (reqV (RawOp.kind (Raw23.op (x i))) (RawOp.value (Raw23.op (x i))) (RawOp.bend (Raw23.op (x i))) (RawOp.text (Raw23.op (x i))))
                              (reqO (RawOp.kind (Raw23.op (x i))) (RawOp.old (Raw23.op (x i))) (RawOp.bend (Raw23.op (x i)))) then
                          reqK (RawOp.kind (Raw23.op (x i))) (RawOp.bend (Raw23.op (x i)))
                        else (0 : Int)) ==
                        bif
                            rightB (reqK (RawOp.kind (Raw23.op (x i))) (RawOp.bend (Raw23.op (x i)))) (reqY (RawOp.key (Raw23.op (x i))) (RawOp.bend (Raw23.op (x i))) (RawOp.text (Raw23.op (x i))))
                              (reqV (RawOp.kind (Raw23.op (x i))) (RawOp.value (Raw23.op (x i))) (RawOp.bend (Raw23.op (x i))) (RawOp.text (Raw23.op (x i))))
                              (reqO (RawOp.kind (Raw23.op (x i))) (RawOp.old (Raw23.op (x i))) (RawOp.bend (Raw23.op (x i)))) then
                          reqK (RawOp.kind (Raw23.op (x i))) (RawOp.bend (Raw23.op (x i)))
                        else (0 : Int)) &&
                      (((bif
                              rightB (reqK (RawOp.kind (Raw23.op (x i))) (RawOp.bend (Raw23.op (x i)))) (reqY (RawOp.key (Raw23.op (x i))) (RawOp.bend (Raw23.op (x i))) (RawOp.text (Raw23.op (x i))))
                                (reqV (RawOp.kind (Raw23.op (x i))) (RawOp.value (Raw23.op (x i))) (RawOp.bend (Raw23.op (x i))) (RawOp.text (Raw23.op (x i))))
                                (reqO (RawOp.kind (Raw23.op (x i))) (RawOp.old (Raw23.op (x i))) (RawOp.bend (Raw23.op (x i)))) then
                            reqY (RawOp.key (Raw23.op (x i))) (RawOp.bend (Raw23.op (x i))) (RawOp.text (Raw23.op (x i)))
                          else { data := #[] : ByteArray }) ==
                          bif
                              rightB (reqK (RawOp.kind (Raw23.op (x i))) (RawOp.bend (Raw23.op (x i)))) (reqY (RawOp.key (Raw23.op (x i))) (RawOp.bend (Raw23.op (x i))) (RawOp.text (Raw23.op (x i))))
                                (reqV (RawOp.kind (Raw23.op (x i))) (RawOp.value (Raw23.op (x i))) (RawOp.bend (Raw23.op (x i))) (RawOp.text (Raw23.op (x i))))
                                (reqO (RawOp.kind (Raw23.op (x i))) (RawOp.old (Raw23.op (x i))) (RawOp.bend (Raw23.op (x i)))) then
                            reqY (RawOp.key (Raw23.op (x i))) (RawOp.bend (Raw23.op (x i))) (RawOp.text (Raw23.op (x i)))
                          else { data := #[] : ByteArray }) &&
                        (((bif
                                rightB (reqK (RawOp.kind (Raw23.op (x i))) (RawOp.bend (Raw23.op (x i)))) (reqY (RawOp.key (Raw23.op (x i))) (RawOp.bend (Raw23.op (x i))) (RawOp.text (Raw23.op (x i))))
                                  (reqV (RawOp.kind (Raw23.op (x i))) (RawOp.value (Raw23.op (x i))) (RawOp.bend (Raw23.op (x i))) (RawOp.text (Raw23.op (x i))))
                                  (reqO (RawOp.kind (Raw23.op (x i))) (RawOp.old (Raw23.op (x i))) (RawOp.bend (Raw23.op (x i)))) then
                              reqV (RawOp.kind (Raw23.op (x i))) (RawOp.value (Raw23.op (x i))) (RawOp.bend (Raw23.op (x i))) (RawOp.text (Raw23.op (x i)))
                            else { data := #[] : ByteArray }) ==
                            bif
                                rightB (reqK (RawOp.kind (Raw23.op (x i))) (RawOp.bend (Raw23.op (x i)))) (reqY (RawOp.key (Raw23.op (x i))) (RawOp.bend (Raw23.op (x i))) (RawOp.text (Raw23.op (x i))))
                                  (reqV (RawOp.kind (Raw23.op (x i))) (RawOp.value (Raw23.op (x i))) (RawOp.bend (Raw23.op (x i))) (RawOp.text (Raw23.op (x i))))
                                  (reqO (RawOp.kind (Raw23.op (x i))) (RawOp.old (Raw23.op (x i))) (RawOp.bend (Raw23.op (x i)))) then
                              reqV (RawOp.kind (Raw23.op (x i))) (RawOp.value (Raw23.op (x i))) (RawOp.bend (Raw23.op (x i))) (RawOp.text (Raw23.op (x i)))
                            else { data := #[] : ByteArray }) &&
                          (((bif
                                  rightB (reqK (RawOp.kind (Raw23.op (x i))) (RawOp.bend (Raw23.op (x i)))) (reqY (RawOp.key (Raw23.op (x i))) (RawOp.bend (Raw23.op (x i))) (RawOp.text (Raw23.op (x i))))
                                    (reqV (RawOp.kind (Raw23.op (x i))) (RawOp.value (Raw23.op (x i))) (RawOp.bend (Raw23.op (x i))) (RawOp.text (Raw23.op (x i))))
                                    (reqO (RawOp.kind (Raw23.op (x i))) (RawOp.old (Raw23.op (x i))) (RawOp.bend (Raw23.op (x i)))) then
                                reqO (RawOp.kind (Raw23.op (x i))) (RawOp.old (Raw23.op (x i))) (RawOp.bend (Raw23.op (x i)))
                              else { data := #[] : ByteArray }) ==
                              bif
                                  rightB (reqK (RawOp.kind (Raw23.op (x i))) (RawOp.bend (Raw23.op (x i)))) (reqY (RawOp.key (Raw23.op (x i))) (RawOp.bend (Raw23.op (x i))) (RawOp.text (Raw23.op (x i))))
                                    (reqV (RawOp.kind (Raw23.op (x i))) (RawOp.value (Raw23.op (x i))) (RawOp.bend (Raw23.op (x i))) (RawOp.text (Raw23.op (x i))))
                                    (reqO (RawOp.kind (Raw23.op (x i))) (RawOp.old (Raw23.op (x i))) (RawOp.bend (Raw23.op (x i)))) then
                                reqO (RawOp.kind (Raw23.op (x i))) (RawOp.old (Raw23.op (x i))) (RawOp.bend (Raw23.op (x i)))
                              else { data := #[] : ByteArray }) &&
                            true)))))))
              T.bad
              (T.br
                ((bif
                      rightB (reqK (RawOp.kind (Raw23.op (x i))) (RawOp.bend (Raw23.op (x i)))) (reqY (RawOp.key (Raw23.op (x i))) (RawOp.bend (Raw23.op (x i))) (RawOp.text (Raw23.op (x i))))
                        (reqV (RawOp.kind (Raw23.op (x i))) (RawOp.value (Raw23.op (x i))) (RawOp.bend (Raw23.op (x i))) (RawOp.text (Raw23.op (x i))))
                        (reqO (RawOp.kind (Raw23.op (x i))) (RawOp.old (Raw23.op (x i))) (RawOp.bend (Raw23.op (x i)))) then
                    (0 : Int)
                  else (1 : Int)) !=
                  bif
                      rightB (reqK (RawOp.kind (Raw23.op (x i))) (RawOp.bend (Raw23.op (x i)))) (reqY (RawOp.key (Raw23.op (x i))) (RawOp.bend (Raw23.op (x i))) (RawOp.text (Raw23.op (x i))))
                        (reqV (RawOp.kind (Raw23.op (x i))) (RawOp.value (Raw23.op (x i))) (RawOp.bend (Raw23.op (x i))) (RawOp.text (Raw23.op (x i))))
                        (reqO (RawOp.kind (Raw23.op (x i))) (RawOp.old (Raw23.op (x i))) (RawOp.bend (Raw23.op (x i)))) then
                    (0 : Int)
                  else (1 : Int))
                T.bad
                (T.br
                  (!rightB (reqK (RawOp.kind (Raw23.op (x i))) (RawOp.bend (Raw23.op (x i)))) (reqY (RawOp.key (Raw23.op (x i))) (RawOp.bend (Raw23.op (x i))) (RawOp.text (Raw23.op (x i))))
                        (reqV (RawOp.kind (Raw23.op (x i))) (RawOp.value (Raw23.op (x i))) (RawOp.bend (Raw23.op (x i))) (RawOp.text (Raw23.op (x i))))
                        (reqO (RawOp.kind (Raw23.op (x i))) (RawOp.old (Raw23.op (x i))) (RawOp.bend (Raw23.op (x i)))) ==
                      rightB (reqK (RawOp.kind (Raw23.op (x i))) (RawOp.bend (Raw23.op (x i)))) (reqY (RawOp.key (Raw23.op (x i))) (RawOp.bend (Raw23.op (x i))) (RawOp.text (Raw23.op (x i))))
                        (reqV (RawOp.kind (Raw23.op (x i))) (RawOp.value (Raw23.op (x i))) (RawOp.bend (Raw23.op (x i))) (RawOp.text (Raw23.op (x i))))
                        (reqO (RawOp.kind (Raw23.op (x i))) (RawOp.old (Raw23.op (x i))) (RawOp.bend (Raw23.op (x i)))))
                  T.bad
                  (T.ret
                    (Ex.normal,
                      {
                        sl :=
                          [((36 : Nat),
                              SV.v
                                (AV.one
                                  (CV.f
                                    (FV.fs nl (12 : Nat) n fun i =>
                                      [FV.lit (Value.int IntKind.i64 (Raw23.what (x i))), FV.lit (Value.int IntKind.i64 (Raw23.seq (x i))), FV.lit (Value.int IntKind.i64 (Raw23.client (x i))), FV.lit (Value.int IntKind.i64 (Raw23.why (x i))),
                                        FV.lit (Value.int IntKind.i64 (RawOp.kind (Raw23.op (x i)))), FV.lit (Value.int IntKind.i64 (RawOp.key (Raw23.op (x i)))), FV.lit (Value.int IntKind.i64 (RawOp.value (Raw23.op (x i)))),
                                        FV.lit (Value.int IntKind.i64 (RawOp.old (Raw23.op (x i)))), FV.lit (Value.int IntKind.i64 (RawOp.client (Raw23.op (x i)))), FV.lit (Value.int IntKind.i64 (RawOp.seq (Raw23.op (x i)))),
                                        FV.lit (Value.int IntKind.i64 (RawOp.bend (Raw23.op (x i)))), FV.lit (Value.string (RawOp.text (Raw23.op (x i))))])))),
                            ((37 : Nat), SV.v (AI (↑n : Int))), ((38 : Nat), SV.v (AI (IntKind.wrap IntKind.i64 ((↑i : Int) + (1 : Int))))), ((5 : Nat), SV.v (AP (0 : Nat))), ((6 : Nat), SV.v (AP (1 : Nat)))],
                        H :=
                          [((0 : Nat),
                              Ob.cells
                                [I cl,
                                  I
                                    (bif
                                        rightB (reqK (RawOp.kind (Raw23.op (x i))) (RawOp.bend (Raw23.op (x i)))) (reqY (RawOp.key (Raw23.op (x i))) (RawOp.bend (Raw23.op (x i))) (RawOp.text (Raw23.op (x i))))
                                          (reqV (RawOp.kind (Raw23.op (x i))) (RawOp.value (Raw23.op (x i))) (RawOp.bend (Raw23.op (x i))) (RawOp.text (Raw23.op (x i))))
                                          (reqO (RawOp.kind (Raw23.op (x i))) (RawOp.old (Raw23.op (x i))) (RawOp.bend (Raw23.op (x i)))) then
                                      IntKind.wrap IntKind.i64 (sq + (1 : Int))
                                    else sq),
                                  I
                                    (bif
                                        rightB (reqK (RawOp.kind (Raw23.op (x i))) (RawOp.bend (Raw23.op (x i)))) (reqY (RawOp.key (Raw23.op (x i))) (RawOp.bend (Raw23.op (x i))) (RawOp.text (Raw23.op (x i))))
                                          (reqV (RawOp.kind (Raw23.op (x i))) (RawOp.value (Raw23.op (x i))) (RawOp.bend (Raw23.op (x i))) (RawOp.text (Raw23.op (x i))))
                                          (reqO (RawOp.kind (Raw23.op (x i))) (RawOp.old (Raw23.op (x i))) (RawOp.bend (Raw23.op (x i)))) then
                                      reqK (RawOp.kind (Raw23.op (x i))) (RawOp.bend (Raw23.op (x i)))
                                    else kd),
                                  Sg
                                    (bif
                                        rightB (reqK (RawOp.kind (Raw23.op (x i))) (RawOp.bend (Raw23.op (x i)))) (reqY (RawOp.key (Raw23.op (x i))) (RawOp.bend (Raw23.op (x i))) (RawOp.text (Raw23.op (x i))))
                                          (reqV (RawOp.kind (Raw23.op (x i))) (RawOp.value (Raw23.op (x i))) (RawOp.bend (Raw23.op (x i))) (RawOp.text (Raw23.op (x i))))
                                          (reqO (RawOp.kind (Raw23.op (x i))) (RawOp.old (Raw23.op (x i))) (RawOp.bend (Raw23.op (x i)))) then
                                      reqY (RawOp.key (Raw23.op (x i))) (RawOp.bend (Raw23.op (x i))) (RawOp.text (Raw23.op (x i)))
                                    else ky),
                                  Sg
                                    (bif
                                        rightB (reqK (RawOp.kind (Raw23.op (x i))) (RawOp.bend (Raw23.op (x i)))) (reqY (RawOp.key (Raw23.op (x i))) (RawOp.bend (Raw23.op (x i))) (RawOp.text (Raw23.op (x i))))
                                          (reqV (RawOp.kind (Raw23.op (x i))) (RawOp.value (Raw23.op (x i))) (RawOp.bend (Raw23.op (x i))) (RawOp.text (Raw23.op (x i))))
                                          (reqO (RawOp.kind (Raw23.op (x i))) (RawOp.old (Raw23.op (x i))) (RawOp.bend (Raw23.op (x i)))) then
                                      reqV (RawOp.kind (Raw23.op (x i))) (RawOp.value (Raw23.op (x i))) (RawOp.bend (Raw23.op (x i))) (RawOp.text (Raw23.op (x i)))
                                    else vl),
                                  Sg
                                    (bif
                                        rightB (reqK (RawOp.kind (Raw23.op (x i))) (RawOp.bend (Raw23.op (x i)))) (reqY (RawOp.key (Raw23.op (x i))) (RawOp.bend (Raw23.op (x i))) (RawOp.text (Raw23.op (x i))))
                                          (reqV (RawOp.kind (Raw23.op (x i))) (RawOp.value (Raw23.op (x i))) (RawOp.bend (Raw23.op (x i))) (RawOp.text (Raw23.op (x i))))
                                          (reqO (RawOp.kind (Raw23.op (x i))) (RawOp.old (Raw23.op (x i))) (RawOp.bend (Raw23.op (x i)))) then
                                      reqO (RawOp.kind (Raw23.op (x i))) (RawOp.old (Raw23.op (x i))) (RawOp.bend (Raw23.op (x i)))
                                    else od),
                                  Bo
                                    (rightB (reqK (RawOp.kind (Raw23.op (x i))) (RawOp.bend (Raw23.op (x i)))) (reqY (RawOp.key (Raw23.op (x i))) (RawOp.bend (Raw23.op (x i))) (RawOp.text (Raw23.op (x i))))
                                      (reqV (RawOp.kind (Raw23.op (x i))) (RawOp.value (Raw23.op (x i))) (RawOp.bend (Raw23.op (x i))) (RawOp.text (Raw23.op (x i))))
                                      (reqO (RawOp.kind (Raw23.op (x i))) (RawOp.old (Raw23.op (x i))) (RawOp.bend (Raw23.op (x i)))))]),
                            ((1 : Nat),
                              Ob.cells
                                [I cl,
                                  I
                                    (bif
                                        rightB (reqK (RawOp.kind (Raw23.op (x i))) (RawOp.bend (Raw23.op (x i)))) (reqY (RawOp.key (Raw23.op (x i))) (RawOp.bend (Raw23.op (x i))) (RawOp.text (Raw23.op (x i))))
                                          (reqV (RawOp.kind (Raw23.op (x i))) (RawOp.value (Raw23.op (x i))) (RawOp.bend (Raw23.op (x i))) (RawOp.text (Raw23.op (x i))))
                                          (reqO (RawOp.kind (Raw23.op (x i))) (RawOp.old (Raw23.op (x i))) (RawOp.bend (Raw23.op (x i)))) then
                                      IntKind.wrap IntKind.i64 (sq + (1 : Int))
                                    else sq),
                                  Bo
                                    (rightB (reqK (RawOp.kind (Raw23.op (x i))) (RawOp.bend (Raw23.op (x i)))) (reqY (RawOp.key (Raw23.op (x i))) (RawOp.bend (Raw23.op (x i))) (RawOp.text (Raw23.op (x i))))
                                      (reqV (RawOp.kind (Raw23.op (x i))) (RawOp.value (Raw23.op (x i))) (RawOp.bend (Raw23.op (x i))) (RawOp.text (Raw23.op (x i))))
                                      (reqO (RawOp.kind (Raw23.op (x i))) (RawOp.old (Raw23.op (x i))) (RawOp.bend (Raw23.op (x i))))),
                                  I
                                    (bif
                                        rightB (reqK (RawOp.kind (Raw23.op (x i))) (RawOp.bend (Raw23.op (x i)))) (reqY (RawOp.key (Raw23.op (x i))) (RawOp.bend (Raw23.op (x i))) (RawOp.text (Raw23.op (x i))))
                                          (reqV (RawOp.kind (Raw23.op (x i))) (RawOp.value (Raw23.op (x i))) (RawOp.bend (Raw23.op (x i))) (RawOp.text (Raw23.op (x i))))
                                          (reqO (RawOp.kind (Raw23.op (x i))) (RawOp.old (Raw23.op (x i))) (RawOp.bend (Raw23.op (x i)))) then
                                      reqK (RawOp.kind (Raw23.op (x i))) (RawOp.bend (Raw23.op (x i)))
                                    else kd),
                                  Sg
                                    (bif
                                        rightB (reqK (RawOp.kind (Raw23.op (x i))) (RawOp.bend (Raw23.op (x i)))) (reqY (RawOp.key (Raw23.op (x i))) (RawOp.bend (Raw23.op (x i))) (RawOp.text (Raw23.op (x i))))
                                          (reqV (RawOp.kind (Raw23.op (x i))) (RawOp.value (Raw23.op (x i))) (RawOp.bend (Raw23.op (x i))) (RawOp.text (Raw23.op (x i))))
                                          (reqO (RawOp.kind (Raw23.op (x i))) (RawOp.old (Raw23.op (x i))) (RawOp.bend (Raw23.op (x i)))) then
                                      reqY (RawOp.key (Raw23.op (x i))) (RawOp.bend (Raw23.op (x i))) (RawOp.text (Raw23.op (x i)))
                                    else ky),
                                  Sg
                                    (bif
                                        rightB (reqK (RawOp.kind (Raw23.op (x i))) (RawOp.bend (Raw23.op (x i)))) (reqY (RawOp.key (Raw23.op (x i))) (RawOp.bend (Raw23.op (x i))) (RawOp.text (Raw23.op (x i))))
                                          (reqV (RawOp.kind (Raw23.op (x i))) (RawOp.value (Raw23.op (x i))) (RawOp.bend (Raw23.op (x i))) (RawOp.text (Raw23.op (x i))))
                                          (reqO (RawOp.kind (Raw23.op (x i))) (RawOp.old (Raw23.op (x i))) (RawOp.bend (Raw23.op (x i)))) then
                                      reqV (RawOp.kind (Raw23.op (x i))) (RawOp.value (Raw23.op (x i))) (RawOp.bend (Raw23.op (x i))) (RawOp.text (Raw23.op (x i)))
                                    else vl),
                                  Sg
                                    (bif
                                        rightB (reqK (RawOp.kind (Raw23.op (x i))) (RawOp.bend (Raw23.op (x i)))) (reqY (RawOp.key (Raw23.op (x i))) (RawOp.bend (Raw23.op (x i))) (RawOp.text (Raw23.op (x i))))
                                          (reqV (RawOp.kind (Raw23.op (x i))) (RawOp.value (Raw23.op (x i))) (RawOp.bend (Raw23.op (x i))) (RawOp.text (Raw23.op (x i))))
                                          (reqO (RawOp.kind (Raw23.op (x i))) (RawOp.old (Raw23.op (x i))) (RawOp.bend (Raw23.op (x i)))) then
                                      reqO (RawOp.kind (Raw23.op (x i))) (RawOp.old (Raw23.op (x i))) (RawOp.bend (Raw23.op (x i)))
                                    else od)])],
                        nx := (2 : Nat), esc := false, base := (0 : Nat), wr := [] : St })))))
            (T.br (Raw23.what (x i) % (4 : Int) == (1 : Int))
              (T.ret
                (Ex.normal,
                  {
                    sl :=
                      [((36 : Nat),
                          SV.v
                            (AV.one
                              (CV.f
                                (FV.fs nl (12 : Nat) n fun i =>
                                  [FV.lit (Value.int IntKind.i64 (Raw23.what (x i))), FV.lit (Value.int IntKind.i64 (Raw23.seq (x i))), FV.lit (Value.int IntKind.i64 (Raw23.client (x i))), FV.lit (Value.int IntKind.i64 (Raw23.why (x i))),
                                    FV.lit (Value.int IntKind.i64 (RawOp.kind (Raw23.op (x i)))), FV.lit (Value.int IntKind.i64 (RawOp.key (Raw23.op (x i)))), FV.lit (Value.int IntKind.i64 (RawOp.value (Raw23.op (x i)))),
                                    FV.lit (Value.int IntKind.i64 (RawOp.old (Raw23.op (x i)))), FV.lit (Value.int IntKind.i64 (RawOp.client (Raw23.op (x i)))), FV.lit (Value.int IntKind.i64 (RawOp.seq (Raw23.op (x i)))),
                                    FV.lit (Value.int IntKind.i64 (RawOp.bend (Raw23.op (x i)))), FV.lit (Value.string (RawOp.text (Raw23.op (x i))))])))),
                        ((37 : Nat), SV.v (AI (↑n : Int))), ((38 : Nat), SV.v (AI (IntKind.wrap IntKind.i64 ((↑i : Int) + (1 : Int))))), ((5 : Nat), SV.v (AP (0 : Nat))), ((6 : Nat), SV.v (AP (1 : Nat)))],
                    H := [((0 : Nat), Ob.cells [I cl, I sq, I kd, Sg ky, Sg vl, Sg od, Bo false]), ((1 : Nat), Ob.cells [I cl, I sq, Bo false, I kd, Sg ky, Sg vl, Sg od])], nx := (2 : Nat), esc := false, base := (0 : Nat), wr := [] : St }))
              (T.br (pb ((0 : Int) < (5 : Int) ∧ (5 : Int) ≤ (4611686018427387904 : Int)))
                (T.br (pb ((0 : Int) < (3 : Int) ∧ (3 : Int) ≤ (4611686018427387904 : Int)))
                  (T.br (pb ((0 : Int) < (12 : Int) ∧ (12 : Int) ≤ (4611686018427387904 : Int)))
                    (T.br (pb ((0 : Int) < (3 : Int) ∧ (3 : Int) ≤ (4611686018427387904 : Int)))
                      (T.br (decide (Raw23.client (x i) % (3 : Int) > (0 : Int)))
                        (T.br (pb ((0 : Int) < (17 : Int) ∧ (17 : Int) ≤ (4611686018427387904 : Int)))
                          (T.br (Raw23.seq (x i) % (17 : Int) == (16 : Int))
                            (T.ret
                              (Ex.normal,
                                {
                                  sl :=
                                    [((36 : Nat),
                                        SV.v
                                          (AV.one
                                            (CV.f
                                              (FV.fs nl (12 : Nat) n fun i =>
                                                [FV.lit (Value.int IntKind.i64 (Raw23.what (x i))), FV.lit (Value.int IntKind.i64 (Raw23.seq (x i))), FV.lit (Value.int IntKind.i64 (Raw23.client (x i))),
                                                  FV.lit (Value.int IntKind.i64 (Raw23.why (x i))), FV.lit (Value.int IntKind.i64 (RawOp.kind (Raw23.op (x i)))), FV.lit (Value.int IntKind.i64 (RawOp.key (Raw23.op (x i)))),
                                                  FV.lit (Value.int IntKind.i64 (RawOp.value (Raw23.op (x i)))), FV.lit (Value.int IntKind.i64 (RawOp.old (Raw23.op (x i)))), FV.lit (Value.int IntKind.i64 (RawOp.client (Raw23.op (x i)))),
                                                  FV.lit (Value.int IntKind.i64 (RawOp.seq (Raw23.op (x i)))), FV.lit (Value.int IntKind.i64 (RawOp.bend (Raw23.op (x i)))), FV.lit (Value.string (RawOp.text (Raw23.op (x i))))])))),
                                      ((37 : Nat), SV.v (AI (↑n : Int))), ((38 : Nat), SV.v (AI (IntKind.wrap IntKind.i64 ((↑i : Int) + (1 : Int))))), ((5 : Nat), SV.v (AP (0 : Nat))), ((6 : Nat), SV.v (AP (1 : Nat)))],
                                  H := [((0 : Nat), Ob.cells [I cl, I sq, I kd, Sg ky, Sg vl, Sg od, Bo false]), ((1 : Nat), Ob.cells [I cl, I sq, Bo false, I kd, Sg ky, Sg vl, Sg od])], nx := (2 : Nat), esc := false, base := (0 : Nat),
                                  wr := [] : St }))
                            (T.ret
                              (Ex.normal,
                                {
                                  sl :=
                                    [((36 : Nat),
                                        SV.v
                                          (AV.one
                                            (CV.f
                                              (FV.fs nl (12 : Nat) n fun i =>
                                                [FV.lit (Value.int IntKind.i64 (Raw23.what (x i))), FV.lit (Value.int IntKind.i64 (Raw23.seq (x i))), FV.lit (Value.int IntKind.i64 (Raw23.client (x i))),
                                                  FV.lit (Value.int IntKind.i64 (Raw23.why (x i))), FV.lit (Value.int IntKind.i64 (RawOp.kind (Raw23.op (x i)))), FV.lit (Value.int IntKind.i64 (RawOp.key (Raw23.op (x i)))),
                                                  FV.lit (Value.int IntKind.i64 (RawOp.value (Raw23.op (x i)))), FV.lit (Value.int IntKind.i64 (RawOp.old (Raw23.op (x i)))), FV.lit (Value.int IntKind.i64 (RawOp.client (Raw23.op (x i)))),
                                                  FV.lit (Value.int IntKind.i64 (RawOp.seq (Raw23.op (x i)))), FV.lit (Value.int IntKind.i64 (RawOp.bend (Raw23.op (x i)))), FV.lit (Value.string (RawOp.text (Raw23.op (x i))))])))),
                                      ((37 : Nat), SV.v (AI (↑n : Int))), ((38 : Nat), SV.v (AI (IntKind.wrap IntKind.i64 ((↑i : Int) + (1 : Int))))), ((5 : Nat), SV.v (AP (0 : Nat))), ((6 : Nat), SV.v (AP (1 : Nat)))],
                                  H := [((0 : Nat), Ob.cells [I cl, I sq, I kd, Sg ky, Sg vl, Sg od, Bo false]), ((1 : Nat), Ob.cells [I cl, I sq, Bo false, I kd, Sg ky, Sg vl, Sg od])], nx := (2 : Nat), esc := false, base := (0 : Nat),
                                  wr := [] : St })))
                          T.bad)
                        (T.br (pb ((0 : Int) < (17 : Int) ∧ (17 : Int) ≤ (4611686018427387904 : Int)))
                          (T.br (Raw23.seq (x i) % (17 : Int) == (16 : Int))
                            (T.ret
                              (Ex.normal,
                                {
                                  sl :=
                                    [((36 : Nat),
                                        SV.v
                                          (AV.one
                                            (CV.f
                                              (FV.fs nl (12 : Nat) n fun i =>
                                                [FV.lit (Value.int IntKind.i64 (Raw23.what (x i))), FV.lit (Value.int IntKind.i64 (Raw23.seq (x i))), FV.lit (Value.int IntKind.i64 (Raw23.client (x i))),
                                                  FV.lit (Value.int IntKind.i64 (Raw23.why (x i))), FV.lit (Value.int IntKind.i64 (RawOp.kind (Raw23.op (x i)))), FV.lit (Value.int IntKind.i64 (RawOp.key (Raw23.op (x i)))),
                                                  FV.lit (Value.int IntKind.i64 (RawOp.value (Raw23.op (x i)))), FV.lit (Value.int IntKind.i64 (RawOp.old (Raw23.op (x i)))), FV.lit (Value.int IntKind.i64 (RawOp.client (Raw23.op (x i)))),
                                                  FV.lit (Value.int IntKind.i64 (RawOp.seq (Raw23.op (x i)))), FV.lit (Value.int IntKind.i64 (RawOp.bend (Raw23.op (x i)))), FV.lit (Value.string (RawOp.text (Raw23.op (x i))))])))),
                                      ((37 : Nat), SV.v (AI (↑n : Int))), ((38 : Nat), SV.v (AI (IntKind.wrap IntKind.i64 ((↑i : Int) + (1 : Int))))), ((5 : Nat), SV.v (AP (0 : Nat))), ((6 : Nat), SV.v (AP (1 : Nat)))],
                                  H := [((0 : Nat), Ob.cells [I cl, I sq, I kd, Sg ky, Sg vl, Sg od, Bo false]), ((1 : Nat), Ob.cells [I cl, I sq, Bo false, I kd, Sg ky, Sg vl, Sg od])], nx := (2 : Nat), esc := false, base := (0 : Nat),
                                  wr := [] : St }))
                            (T.ret
                              (Ex.normal,
                                {
                                  sl :=
                                    [((36 : Nat),
                                        SV.v
                                          (AV.one
                                            (CV.f
                                              (FV.fs nl (12 : Nat) n fun i =>
                                                [FV.lit (Value.int IntKind.i64 (Raw23.what (x i))), FV.lit (Value.int IntKind.i64 (Raw23.seq (x i))), FV.lit (Value.int IntKind.i64 (Raw23.client (x i))),
                                                  FV.lit (Value.int IntKind.i64 (Raw23.why (x i))), FV.lit (Value.int IntKind.i64 (RawOp.kind (Raw23.op (x i)))), FV.lit (Value.int IntKind.i64 (RawOp.key (Raw23.op (x i)))),
                                                  FV.lit (Value.int IntKind.i64 (RawOp.value (Raw23.op (x i)))), FV.lit (Value.int IntKind.i64 (RawOp.old (Raw23.op (x i)))), FV.lit (Value.int IntKind.i64 (RawOp.client (Raw23.op (x i)))),
                                                  FV.lit (Value.int IntKind.i64 (RawOp.seq (Raw23.op (x i)))), FV.lit (Value.int IntKind.i64 (RawOp.bend (Raw23.op (x i)))), FV.lit (Value.string (RawOp.text (Raw23.op (x i))))])))),
                                      ((37 : Nat), SV.v (AI (↑n : Int))), ((38 : Nat), SV.v (AI (IntKind.wrap IntKind.i64 ((↑i : Int) + (1 : Int))))), ((5 : Nat), SV.v (AP (0 : Nat))), ((6 : Nat), SV.v (AP (1 : Nat)))],
                                  H := [((0 : Nat), Ob.cells [I cl, I sq, I kd, Sg ky, Sg vl, Sg od, Bo false]), ((1 : Nat), Ob.cells [I cl, I sq, Bo false, I kd, Sg ky, Sg vl, Sg od])], nx := (2 : Nat), esc := false, base := (0 : Nat),
                                  wr := [] : St })))
                          T.bad))
                      T.bad)
                    T.bad)
                  T.bad)
                T.bad)))
          T.bad)
        T.bad)
      T.bad)
    (T.ret
      (Ex.exit (0 : Nat),
        { sl := [], H := [((1 : Nat), Ob.cells [I cl, I sq, Bo false, I kd, Sg ky, Sg vl, Sg od]), ((0 : Nat), Ob.cells [I cl, I sq, I kd, Sg ky, Sg vl, Sg od, Bo false])], nx := (2 : Nat), esc := false, base := (0 : Nat), wr := [] : St })) := by kernel_rfl
def STw (nl : Bool) (n : Nat) (x : Nat → Raw23) (i : Nat) (cl sq kd : Int) (ky vl od : ByteArray) (wt : Bool) : St :=
  { ST nl n x i cl sq kd ky vl od wt with H := [(0, .cells [I cl, I sq, I kd, Sg ky, Sg vl, Sg od, Bo wt]), (1, .cells [I cl, I sq, Bo wt, I kd, Sg ky, Sg vl, Sg od])] }
theorem STw_le (nl : Bool) (n : Nat) (x : Nat → Raw23) (i : Nat) (cl sq kd : Int) (ky vl od : ByteArray) (wt : Bool) : StLe 2 (STw nl n x i cl sq kd ky vl od wt) (ST nl n x i cl sq kd ky vl od wt) :=
  StLe.heap (s := STw nl n x i cl sq kd ky vl od wt) (Nat.le_refl 2) fun b => by rcases b with _ | _ | b <;> rfl
theorem exists_six {α A B C D E F : Type} {t u : T α} {p : PT} {g : A → B → C → D → E → F → α} (hp : ∀ {a : α}, (t.over p).res = some a → t.res = some a) (ht : t.over p = u) (h : ∃ a b c d e f, u.res = some (g a b c d e f)) : ∃ a b c d e f, t.res = some (g a b c d e f) := by
  obtain ⟨a, b, c, d, e, f, h⟩ := h
  exact ⟨a, b, c, d, e, f, hp (by rw [ht]; exact h)⟩
theorem round_tell (n : Nat) (x : Nat → Raw23) (i : Nat) (cl sq kd : Int) (ky vl od : ByteArray) (wt : Bool) (hi : i < n) (hn : (n : Int) ≤ 9223372036854775807) :
    ∃ sq' kd' ky' vl' od' wt', (evRound GPF1 300 6 Try.f6.ntmps (loopOf Try.f6 7) 2 [36, 37, 38, 5, 6] [4] (ST false n x i cl sq kd ky vl od wt)).res = some (.normal, STw false n x (i + 1) cl sq' kd' ky' vl' od' wt') := by
  have e1 : (0 : Int) ≤ (i : Int) ∧ (i : Int) < (n : Int) := by omega
  have e2 : (i : Int) < (n : Int) := by omega
  have e3 : IntKind.wrap .i64 ((i : Int) + 1) = ((i + 1 : Nat) : Int) := by rw [wrapI (by omega)]; rfl
  have h4 : (0 : Int) < 4 ∧ (4 : Int) ≤ 4611686018427387904 := by omega
  have h5 : (0 : Int) < 5 ∧ (5 : Int) ≤ 4611686018427387904 := by omega
  have h3' : (0 : Int) < 3 ∧ (3 : Int) ≤ 4611686018427387904 := by omega
  have h12 : (0 : Int) < 12 ∧ (12 : Int) ≤ 4611686018427387904 := by omega
  have h17 : (0 : Int) < 17 ∧ (17 : Int) ≤ 4611686018427387904 := by omega
  cases wt with
  | true =>
    refine exists_six (T.over_res _ _) (tree_tell_true false n x i cl sq kd ky vl od) ?_
    simp only [T.res_br, T.res_ret, T.res_bad, pb_true h4, pb_true h5, pb_true h3', pb_true h12, pb_true h17, e1, e2, e3, bytes_self, bne_self_eq_false, Bool.not_true, Bool.not_false, Bool.and_true, Bool.true_and, Bool.and_false, beq_self_eq_true, Bool.false_eq_true, if_false, if_true, decide_eq_true_eq, decide_true, and_self]
    repeat' split
    all_goals exact ⟨_, _, _, _, _, _, rfl⟩
  | false =>
    refine exists_six (T.over_res _ _) (tree_tell_false false n x i cl sq kd ky vl od) ?_
    simp only [T.res_br, T.res_ret, T.res_bad, pb_true h4, pb_true h5, pb_true h3', pb_true h12, pb_true h17, e1, e2, e3, bytes_self, bne_self_eq_false, Bool.not_true, Bool.not_false, Bool.and_true, Bool.true_and, Bool.and_false, beq_self_eq_true, Bool.false_eq_true, if_false, if_true, decide_eq_true_eq, decide_true, and_self]
    repeat' split
    all_goals exact ⟨_, _, _, _, _, _, rfl⟩

theorem end_tell (nl : Bool) (n : Nat) (x : Nat → Raw23) (cl sq kd : Int) (ky vl od : ByteArray) (wt : Bool) :
    (evRound GPF1 300 6 Try.f6.ntmps (loopOf Try.f6 7) 2 [36, 37, 38, 5, 6] [4] (ST nl n x n cl sq kd ky vl od wt)).res = some (.exit 0, { ST nl n x n cl sq kd ky vl od wt with sl := [] }) := by
  cases wt with
  | true =>
    refine T.over_eq _ (tree_tell_true nl n x n cl sq kd ky vl od) ?_
    simp only [T.res_br, T.res_ret, T.res_bad, decide_eq_true_eq, Int.lt_irrefl, if_false]
    rfl
  | false =>
    refine T.over_eq _ (tree_tell_false nl n x n cl sq kd ky vl od) ?_
    simp only [T.res_br, T.res_ret, T.res_bad, decide_eq_true_eq, Int.lt_irrefl, if_false]
    rfl
theorem loop_tell (nl : Bool) (n : Nat) (x : Nat → Raw23) (cl sq kd : Int) (ky vl od : ByteArray) (wt : Bool) (hn : (n : Int) ≤ 9223372036854775807) (hnl : nl = true → n = 0) {st0 : St} (h0 : StLe 2 st0 (ST nl n x 0 cl sq kd ky vl od wt)) (hnx : st0.nx = 2) :
    CodeOk Try.prog Try.f6.ntmps (.loop (loopOf Try.f6 7)) st0 (.exit 0) ⟨[], [], 2, false, 0, []⟩ := by
  refine loop_to (GS_ok.with _ _) GKPF1 (K := 300) (F := 6) (live := [36, 37, 38, 5, 6]) (after := [4]) (α := Nat × Int × Int × ByteArray × ByteArray × ByteArray × Bool) (fun p => ST nl n x p.1 cl p.2.1 p.2.2.1 p.2.2.2.1 p.2.2.2.2.1 p.2.2.2.2.2.1 p.2.2.2.2.2.2) (fun p => n - p.1) (fun p => p.1 ≤ n) (.exit 0) _ ?_ (fun p => Nat.le_refl 2) (p := (0, sq, kd, ky, vl, od, wt)) (Nat.zero_le _) h0 hnx
  rintro ⟨i, sq, kd, ky, vl, od, wt⟩ hi
  simp only at hi
  rcases Nat.lt_or_ge i n with h | h
  · obtain rfl : nl = false := by cases nl <;> simp_all
    obtain ⟨q1, q2, q3, q4, q5, q6, h1⟩ := round_tell n x i cl sq kd ky vl od wt h hn
    exact ⟨_, _, h1, .inl ⟨rfl, (i + 1, q1, q2, q3, q4, q5, q6), STw_le .., h, by simp only; omega⟩⟩
  · obtain rfl : i = n := by omega
    exact ⟨_, _, end_tell nl i x cl sq kd ky vl od wt, .inr ⟨by simp, _, StLe.sift (s := { ST nl i x i cl sq kd ky vl od wt with sl := [] }) (Nat.le_refl 2) fun _ => false, rfl, rfl⟩⟩
def PreTell (nl : Bool) (n : Nat) (e : Nat → List FV) (n' i kd k0 : Int) (ky y0 vl v0 od o0 : ByteArray) (sq sq0 : Int) (wt w0 : Bool) (cl c0 : Int) : Prop :=
  ∃ x : Nat → Raw23, e = (fun i => (x i).fs) ∧ n' = n ∧ i = 0 ∧ k0 = kd ∧ y0 = ky ∧ v0 = vl ∧ o0 = od ∧ sq0 = sq ∧ w0 = wt ∧ c0 = cl ∧ (n : Int) ≤ 9223372036854775807 ∧ (nl = true → n = 0)
noncomputable def L_tell : LoopF := mkLoop [36, 37, 38, 5, 6] (loopOf Try.f6 7) Try.f6.ntmps fun sl H nx esc => match sl, H, nx, esc with
  | [(36, .v (.one (.f (.fs nl 12 n e)))), (37, .v (.one (.f (.lit (.int .i64 n'))))), (38, .v (.one (.f (.lit (.int .i64 i))))), (5, .v (.one (.ptr 0 0 0 0))), (6, .v (.one (.ptr 1 0 0 0)))],
    [(1, .cells [.f (.lit (.int .i64 cl)), .f (.lit (.int .i64 sq)), .f (.lit (.bool wt)), .f (.lit (.int .i64 kd)), .f (.lit (.string ky)), .f (.lit (.string vl)), .f (.lit (.string od))]),
     (0, .cells [.f (.lit (.int .i64 c0)), .f (.lit (.int .i64 sq0)), .f (.lit (.int .i64 k0)), .f (.lit (.string y0)), .f (.lit (.string v0)), .f (.lit (.string o0)), .f (.lit (.bool w0))])], 2, false =>
    .need (pb (PreTell nl n e n' i kd k0 ky y0 vl v0 od o0 sq sq0 wt w0 cl c0)) (.ret (.exit 0, [], [], 2, false))
  | _, _, _, _ => .bad
theorem L_tell_ok : LoopOk Try.prog L_tell := by
  refine mkLoop_ok fun sl H nx esc e sl' H' nx' esc' h => ?_
  split at h
  · obtain ⟨hp, h2⟩ := T.need_some h
    obtain ⟨x, rfl, rfl, rfl, rfl, rfl, rfl, rfl, rfl, rfl, rfl, h3, h4⟩ := pb_of hp
    have := T.ret_some h2
    simp only [Prod.mk.injEq] at this
    obtain ⟨rfl, rfl, rfl, rfl, rfl⟩ := this
    exact loop_tell _ _ x _ _ _ _ _ _ _ h3 h4 (StLe.refl (Nat.le_refl 2)) rfl
  · exact (T.bad_some h).elim
noncomputable def ll_tell : List (Nat × Nat × LoopF) := (6, 7, L_tell) :: ll_one
theorem ll_tell_ok : ∀ x ∈ ll_tell, LoopOk Try.prog x.2.2 := List.forall_mem_cons.2 ⟨L_tell_ok, ll_one_ok⟩

noncomputable def GPF2 : Ctx := GS.with ss_Req ll_tell
noncomputable def tgt_Tells (a : Int) (nl : Bool) (n : Nat) (x : Nat → Raw23) : T CallOut := evCallW [] GPF2 300 6 [AI a, .one (.f (.fs nl 12 n fun i => (x i).fs))] [] 0
theorem GKPF2 : KnownOk Try.prog GPF2 := KnownOk.lists ss_Req_ok ll_tell_ok
theorem tree_Tells (a : Int) (nl : Bool) (n : Nat) (x : Nat → Raw23) : (tgt_Tells a nl n x).over (.br (.ff (.ff (.ff (.ff (.br (.br .leaf .skip) .skip))))) .skip) =
  T.br (pb ((0 : Int) < (8 : Int) ∧ (8 : Int) ≤ (4611686018427387904 : Int)))
    (T.br (pb (loopOf Proofs.Try.f6 (7 : Nat) = loopOf Proofs.Try.f6 (7 : Nat) ∧ (152 : Nat) = (152 : Nat)))
      (T.br
        (pb
          (PreTell nl n (fun i => Raw23.fs (x i)) (↑n : Int) (0 : Int) (0 : Int) (0 : Int) { data := #[] : ByteArray } { data := #[] : ByteArray } { data := #[] : ByteArray } { data := #[] : ByteArray } { data := #[] : ByteArray }
            { data := #[] : ByteArray } (0 : Int) (0 : Int) false false (clampI (IntKind.wrap IntKind.i64 (a % (8 : Int) - (2 : Int)))) (clampI (IntKind.wrap IntKind.i64 (a % (8 : Int) - (2 : Int))))))
        (T.ret (out0 (SV.v (AB true)))) T.bad)
      T.bad)
    T.bad := by kernel_rfl
theorem res_Tells (a : Int) (nl : Bool) (n : Nat) (x : Nat → Raw23) (h : (n : Int) ≤ 9223372036854775807 ∧ (nl = true → n = 0)) : (tgt_Tells a nl n x).res = some (out0 (.v (AB true))) := by
  refine T.over_eq _ (tree_Tells a nl n x) ?_
  simp only [T.res_br, T.res_ret, T.res_bad]
  rw [if_pos (pb_true (by omega)), if_pos (pb_true (by simp)), if_pos (pb_true ?_)]
  exact ⟨x, rfl, rfl, rfl, rfl, rfl, rfl, rfl, rfl, rfl, rfl, h.1, h.2⟩
end Go.Proofs.Ytabmkefbceepmaa.En
