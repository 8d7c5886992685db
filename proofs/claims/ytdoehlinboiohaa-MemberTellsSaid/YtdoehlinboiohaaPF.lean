/- Lists that are merged. -/
import Derived.Test.YtdoehlinboiohaaPE
namespace Go.Proofs.Ytdoehlinboiohaa.En
open Go
set_option linter.unusedVariables false
set_option linter.unusedSimpArgs false
set_option maxRecDepth 20000
set_option maxHeartbeats 1000000
structure Lst where
  nl : Bool
  n : Nat
  x : Nat → Ent
instance : Inhabited Lst := ⟨⟨true, 0, fun _ => default⟩⟩
abbrev lstE (q : Nat → Lst) : Nat → List FV := fun i => [.fs (q i).nl 5 (q i).n (entE (q i).x)]
def lstOf (e : Nat → List FV) : Nat → Lst := fun i => match e i with | [.fs nl _ n e] => ⟨nl, n, entOf e⟩ | _ => default
theorem lstOf_lstE (q : Nat → Lst) : lstOf (lstE q) = q := rfl
abbrev Acc := Nat × (Nat → Ent)
abbrev outS (b N : Nat) : AV := .one (.sl (Nat.beq N 0) b 5 0 0 N N false 5)
abbrev outO (N : Nat) (R : Nat → Ent) : Ob := .arr (!(Nat.beq N 0)) 5 N (entE R)
/-- one more entry that is merged -/
def stM (x : Nat → Ent) (j : Nat) (a : Acc) : Acc := if j = a.1 then (a.1 + 1, fun t => if t = j then x j else a.2 t) else (a.1, fun t => if t = j then mxE (a.2 j) (x j) else a.2 t)
def S_mi (nl : Bool) (n : Nat) (x : Nat → Ent) (kl : Bool) (k : Nat) (q : Nat → Lst) (i : Nat) (j : Nat) (a : Acc) : St :=
  ⟨[(14, .v (.one (.f (.fs nl 5 n (entE x))))), (15, .v (AI n)), (16, .v (AI j)), (3, .v (outS 1 a.1)), (8, .v (.one (.f (.fs kl 1 k (lstE q))))), (9, .v (AI k)), (10, .v (AI i))], [(1, outO a.1 a.2)], 2, false, 0, []⟩
def S_ri (kl : Bool) (k : Nat) (q : Nat → Lst) (i : Nat) (j : Nat) (a : Acc) : St :=
  ⟨[(0, .v (.one (.f (.fs kl 1 k (lstE q))))), (4, .v (AI i)), (5, .v (AI j)), (3, .v (outS 1 a.1))], [(1, outO a.1 a.2)], 2, false, 0, []⟩
theorem mxE_self (a : Ent) : mxE a a = a := by rw [mxE_eq]; split <;> rfl

noncomputable def GPF1 : Ctx := GS.with ss_Known12 ll_gr
noncomputable def tgt_mi (nl : Bool) (n : Nat) (x : Nat → Ent) (kl : Bool) (k : Nat) (q : Nat → Lst) (i : Nat) (j : Nat) (a : Acc) : T (Ex × St) := evRound GPF1 300 18 Try.f18.ntmps (loopOf Try.f18 6) 1 [14, 15, 16, 3, 8, 9, 10] [3, 8, 9, 10] (S_mi nl n x kl k q i j a)
noncomputable def tgt_ri (kl : Bool) (k : Nat) (q : Nat → Lst) (i : Nat) (j : Nat) (a : Acc) : T (Ex × St) := evRound GPF1 300 19 Try.f19.ntmps (loopOf Try.f19 6) 1 [0, 4, 5, 3] [0, 4, 3] (S_ri kl k q i j a)
theorem GKPF1 : KnownOk Try.prog GPF1 := KnownOk.lists ss_Known12_ok ll_gr_ok
theorem GOPF1 : CtxOk Try.prog GPF1 := GS_ok.with _ _
theorem tree_mi (nl : Bool) (n : Nat) (x : Nat → Ent) (kl : Bool) (k : Nat) (q : Nat → Lst) (i : Nat) (j : Nat) (a : Acc) : (tgt_mi nl n x kl k q i j a).over (.br (.br (.br (.br (.tt (.ff (.br (.br .skip .skip) (.br (.br (.tt (.br (.tt (.br (.tt (.br (.tt (.br .leaf .skip)) .skip)) .skip)) .skip)) .skip) .skip)))) (.br (.br (.br (.br (.br (.br (.br (.br .leaf .skip) .skip) .skip) .skip) .skip) .skip) .skip) .skip)) .skip) .skip) .leaf) =
  T.br (decide ((↑j : Int) < (↑n : Int)))
    (T.br (!nl)
      (T.br (decide ((0 : Int) ≤ (↑j : Int) ∧ (↑j : Int) < (↑n : Int)))
        (T.br ((↑j : Int) == (↑(Prod.fst a) : Int))
          (T.br (Nat.ble (Prod.fst a + (1 : Nat)) (Prod.fst a)) (T.br (!Nat.beq (Prod.fst a) (0 : Nat)) T.bad T.bad)
            (T.br (smallB (Prod.fst a + (1 : Nat)) (40 : Nat))
              (T.br ((Nat.beq (Prod.fst a) (0 : Nat) || !Nat.beq (Prod.fst a) (0 : Nat)) && Nat.ble ((0 : Nat) + Prod.fst a) (Prod.fst a))
                (T.br (decide ((0 : Int) ≤ (↑j : Int) ∧ (↑j : Int) < (↑(Prod.fst a + (1 : Nat)) : Int)))
                  (T.br (Nat.ble ((0 : Nat) + j + (1 : Nat)) (Prod.fst a + (1 : Nat)))
                    (T.br (decide ((0 : Int) ≤ (↑j : Int) ∧ (↑j : Int) < (↑(Prod.fst a + (1 : Nat)) : Int)))
                      (T.br (Nat.ble ((0 : Nat) + j + (1 : Nat)) (Prod.fst a + (1 : Nat)))
                        (T.ret
                          (Ex.normal,
                            {
                              sl :=
                                [((14 : Nat),
                                    SV.v
                                      (AV.one
                                        (CV.f
                                          (FV.fs nl (5 : Nat) n fun a =>
                                            [FV.lit (Value.int IntKind.i64 (Ent.inc (x a))), FV.lit (Value.int IntKind.i64 (Ent.st (x a))), FV.lit (Value.int IntKind.i64 (Ent.stamp (x a))), FV.lit (Value.int IntKind.i64 (Ent.load (x a))),
                                              FV.lit (Value.bool (Ent.dr (x a)))])))),
                                  ((15 : Nat), SV.v (AI (↑n : Int))), ((16 : Nat), SV.v (AI (IntKind.wrap IntKind.i64 ((↑j : Int) + (1 : Int))))),
                                  ((3 : Nat), SV.v (AV.one (CV.sl false (1 : Nat) (5 : Nat) (0 : Nat) (0 : Nat) (Prod.fst a + (1 : Nat)) (Prod.fst a + (1 : Nat)) false (5 : Nat)))),
                                  ((8 : Nat),
                                    SV.v
                                      (AV.one
                                        (CV.f
                                          (FV.fs kl (1 : Nat) k fun a =>
                                            [FV.fs (Lst.nl (q a)) (5 : Nat) (Lst.n (q a)) fun a_1 =>
                                                [FV.lit (Value.int IntKind.i64 (Ent.inc (Lst.x (q a) a_1))), FV.lit (Value.int IntKind.i64 (Ent.st (Lst.x (q a) a_1))), FV.lit (Value.int IntKind.i64 (Ent.stamp (Lst.x (q a) a_1))),
                                                  FV.lit (Value.int IntKind.i64 (Ent.load (Lst.x (q a) a_1))), FV.lit (Value.bool (Ent.dr (Lst.x (q a) a_1)))]])))),
                                  ((9 : Nat), SV.v (AI (↑k : Int))), ((10 : Nat), SV.v (AI (↑i : Int)))],
                              H :=
                                [((1 : Nat),
                                    Ob.arr true (5 : Nat) (Prod.fst a + (1 : Nat)) fun i' =>
                                      [FV.lit
                                          (Value.int IntKind.i64
                                            (bif Nat.beq i' ((0 : Nat) + j) then
                                              Ent.inc
                                                (mxE
                                                  { inc := bif Nat.ble ((0 : Nat) + j + (1 : Nat)) (Prod.fst a) then Ent.inc (Prod.snd a ((0 : Nat) + ((0 : Nat) + j))) else Ent.inc (x j),
                                                    st := bif Nat.ble ((0 : Nat) + j + (1 : Nat)) (Prod.fst a) then Ent.st (Prod.snd a ((0 : Nat) + ((0 : Nat) + j))) else Ent.st (x j),
                                                    stamp := bif Nat.ble ((0 : Nat) + j + (1 : Nat)) (Prod.fst a) then Ent.stamp (Prod.snd a ((0 : Nat) + ((0 : Nat) + j))) else Ent.stamp (x j),
                                                    load := bif Nat.ble ((0 : Nat) + j + (1 : Nat)) (Prod.fst a) then Ent.load (Prod.snd a ((0 : Nat) + ((0 : Nat) + j))) else Ent.load (x j),
                                                    dr := bif Nat.ble ((0 : Nat) + j + (1 : Nat)) (Prod.fst a) then Ent.dr (Prod.snd a ((0 : Nat) + ((0 : Nat) + j))) else Ent.dr (x j) : Ent }
                                                  (x j))
                                            else bif Nat.ble (i' + (1 : Nat)) (Prod.fst a) then Ent.inc (Prod.snd a ((0 : Nat) + i')) else Ent.inc (x j))),
                                        FV.lit
                                          (Value.int IntKind.i64
                                            (bif Nat.beq i' ((0 : Nat) + j) then
                                              Ent.st
                                                (mxE
                                                  { inc := bif Nat.ble ((0 : Nat) + j + (1 : Nat)) (Prod.fst a) then Ent.inc (Prod.snd a ((0 : Nat) + ((0 : Nat) + j))) else Ent.inc (x j),
                                                    st := bif Nat.ble ((0 : Nat) + j + (1 : Nat)) (Prod.fst a) then Ent.st (Prod.snd a ((0 : Nat) + ((0 : Nat) + j))) else Ent.st (x j),
                                                    stamp := bif Nat.ble ((0 : Nat) + j + (1 : Nat)) (Prod.fst a) then Ent.stamp (Prod.snd a ((0 : Nat) + ((0 : Nat) + j))) else Ent.stamp (x j),
                                                    load := bif Nat.ble ((0 : Nat) + j + (1 : Nat)) (Prod.fst a) then Ent.load (Prod.snd a ((0 : Nat) + ((0 : Nat) + j))) else Ent.load (x j),
                                                    dr := bif Nat.ble ((0 : Nat) + j + (1 : Nat)) (Prod.fst a) then Ent.dr (Prod.snd a ((0 : Nat) + ((0 : Nat) + j))) else Ent.dr (x j) : Ent }
                                                  (x j))
                                            else bif Nat.ble (i' + (1 : Nat)) (Prod.fst a) then Ent.st (Prod.snd a ((0 : Nat) + i')) else Ent.st (x j))),
                                        FV.lit
                                          (Value.int IntKind.i64
                                            (bif Nat.beq i' ((0 : Nat) + j) then
                                              Ent.stamp
                                                (mxE
                                                  { inc := bif Nat.ble ((0 : Nat) + j + (1 : Nat)) (Prod.fst a) then Ent.inc (Prod.snd a ((0 : Nat) + ((0 : Nat) + j))) else Ent.inc (x j),
                                                    st := bif Nat.ble ((0 : Nat) + j + (1 : Nat)) (Prod.fst a) then Ent.st (Prod.snd a ((0 : Nat) + ((0 : Nat) + j))) else Ent.st (x j),
                                                    stamp := bif Nat.ble ((0 : Nat) + j + (1 : Nat)) (Prod.fst a) then Ent.stamp (Prod.snd a ((0 : Nat) + ((0 : Nat) + j))) else Ent.stamp (x j),
                                                    load := bif Nat.ble ((0 : Nat) + j + (1 : Nat)) (Prod.fst a) then Ent.load (Prod.snd a ((0 : Nat) + ((0 : Nat) + j))) else Ent.load (x j),
                                                    dr := bif Nat.ble ((0 : Nat) + j + (1 : Nat)) (Prod.fst a) then Ent.dr (Prod.snd a ((0 : Nat) + ((0 : Nat) + j))) else Ent.dr (x j) : Ent }
                                                  (x j))
                                            else bif Nat.ble (i' + (1 : Nat)) (Prod.fst a) then Ent.stamp (Prod.snd a ((0 : Nat) + i')) else Ent.stamp (x j))),
                                        FV.lit
                                          (Value.int IntKind.i64
                                            (bif Nat.beq i' ((0 : Nat) + j) then
                                              Ent.load
                                                (mxE
                                                  { inc := bif Nat.ble ((0 : Nat) + j + (1 : Nat)) (Prod.fst a) then Ent.inc (Prod.snd a ((0 : Nat) + ((0 : Nat) + j))) else Ent.inc (x j),
                                                    st := bif Nat.ble ((0 : Nat) + j + (1 : Nat)) (Prod.fst a) then Ent.st (Prod.snd a ((0 : Nat) + ((0 : Nat) + j))) else Ent.st (x j),
                                                    stamp := bif Nat.ble ((0 : Nat) + j + (1 : Nat)) (Prod.fst a) then Ent.stamp (Prod.snd a ((0 : Nat) + ((0 : Nat) + j))) else Ent.stamp (x j),
                                                    load := bif Nat.ble ((0 : Nat) + j + (1 : Nat)) (Prod.fst a) then Ent.load (Prod.snd a ((0 : Nat) + ((0 : Nat) + j))) else Ent.load (x j),
                                                    dr := bif Nat.ble ((0 : Nat) + j + (1 : Nat)) (Prod.fst a) then Ent.dr (Prod.snd a ((0 : Nat) + ((0 : Nat) + j))) else Ent.dr (x j) : Ent }
                                                  (x j))
                                            else bif Nat.ble (i' + (1 : Nat)) (Prod.fst a) then Ent.load (Prod.snd a ((0 : Nat) + i')) else Ent.load (x j))),
                                        FV.lit
                                          (Value.bool
                                            (bif Nat.beq i' ((0 : Nat) + j) then
                                              Ent.dr
                                                (mxE
                                                  { inc := bif Nat.ble ((0 : Nat) + j + (1 : Nat)) (Prod.fst a) then Ent.inc (Prod.snd a ((0 : Nat) + ((0 : Nat) + j))) else Ent.inc (x j),
                                                    st := bif Nat.ble ((0 : Nat) + j + (1 : Nat)) (Prod.fst a) then Ent.st (Prod.snd a ((0 : Nat) + ((0 : Nat) + j))) else Ent.st (x j),
                                                    stamp := bif Nat.ble ((0 : Nat) + j + (1 : Nat)) (Prod.fst a) then Ent.stamp (Prod.snd a ((0 : Nat) + ((0 : Nat) + j))) else Ent.stamp (x j),
                                                    load := bif Nat.ble ((0 : Nat) + j + (1 : Nat)) (Prod.fst a) then Ent.load (Prod.snd a ((0 : Nat) + ((0 : Nat) + j))) else Ent.load (x j),
                                                    dr := bif Nat.ble ((0 : Nat) + j + (1 : Nat)) (Prod.fst a) then Ent.dr (Prod.snd a ((0 : Nat) + ((0 : Nat) + j))) else Ent.dr (x j) : Ent }
                                                  (x j))
                                            else bif Nat.ble (i' + (1 : Nat)) (Prod.fst a) then Ent.dr (Prod.snd a ((0 : Nat) + i')) else Ent.dr (x j)))])],
                              nx := (2 : Nat), esc := false, base := (0 : Nat), wr := [] : St }))
                        T.bad)
                      T.bad)
                    T.bad)
                  T.bad)
                T.bad)
              T.bad))
          (T.br (!Nat.beq (Prod.fst a) (0 : Nat))
            (T.br (decide ((0 : Int) ≤ (↑j : Int) ∧ (↑j : Int) < (↑(Prod.fst a) : Int)))
              (T.br (!Nat.beq (Prod.fst a) (0 : Nat))
                (T.br (Nat.ble ((0 : Nat) + j + (1 : Nat)) (Prod.fst a))
                  (T.br (!Nat.beq (Prod.fst a) (0 : Nat))
                    (T.br (decide ((0 : Int) ≤ (↑j : Int) ∧ (↑j : Int) < (↑(Prod.fst a) : Int)))
                      (T.br (!Nat.beq (Prod.fst a) (0 : Nat))
                        (T.br (Nat.ble ((0 : Nat) + j + (1 : Nat)) (Prod.fst a))
                          (T.ret
                            (Ex.normal,
                              {
                                sl :=
                                  [((14 : Nat),
                                      SV.v
                                        (AV.one
                                          (CV.f
                                            (FV.fs nl (5 : Nat) n fun a =>
                                              [FV.lit (Value.int IntKind.i64 (Ent.inc (x a))), FV.lit (Value.int IntKind.i64 (Ent.st (x a))), FV.lit (Value.int IntKind.i64 (Ent.stamp (x a))), FV.lit (Value.int IntKind.i64 (Ent.load (x a))),
                                                FV.lit (Value.bool (Ent.dr (x a)))])))),
                                    ((15 : Nat), SV.v (AI (↑n : Int))), ((16 : Nat), SV.v (AI (IntKind.wrap IntKind.i64 ((↑j : Int) + (1 : Int))))),
                                    ((3 : Nat), SV.v (AV.one (CV.sl (Nat.beq (Prod.fst a) (0 : Nat)) (1 : Nat) (5 : Nat) (0 : Nat) (0 : Nat) (Prod.fst a) (Prod.fst a) false (5 : Nat)))),
                                    ((8 : Nat),
                                      SV.v
                                        (AV.one
                                          (CV.f
                                            (FV.fs kl (1 : Nat) k fun a =>
                                              [FV.fs (Lst.nl (q a)) (5 : Nat) (Lst.n (q a)) fun a_1 =>
                                                  [FV.lit (Value.int IntKind.i64 (Ent.inc (Lst.x (q a) a_1))), FV.lit (Value.int IntKind.i64 (Ent.st (Lst.x (q a) a_1))), FV.lit (Value.int IntKind.i64 (Ent.stamp (Lst.x (q a) a_1))),
                                                    FV.lit (Value.int IntKind.i64 (Ent.load (Lst.x (q a) a_1))), FV.lit (Value.bool (Ent.dr (Lst.x (q a) a_1)))]])))),
                                    ((9 : Nat), SV.v (AI (↑k : Int))), ((10 : Nat), SV.v (AI (↑i : Int)))],
                                H :=
                                  [((1 : Nat),
                                      Ob.arr (!Nat.beq (Prod.fst a) (0 : Nat)) (5 : Nat) (Prod.fst a) fun i' =>
                                        [FV.lit (Value.int IntKind.i64 (bif Nat.beq i' ((0 : Nat) + j) then Ent.inc (mxE (Prod.snd a ((0 : Nat) + j)) (x j)) else Ent.inc (Prod.snd a i'))),
                                          FV.lit (Value.int IntKind.i64 (bif Nat.beq i' ((0 : Nat) + j) then Ent.st (mxE (Prod.snd a ((0 : Nat) + j)) (x j)) else Ent.st (Prod.snd a i'))),
                                          FV.lit (Value.int IntKind.i64 (bif Nat.beq i' ((0 : Nat) + j) then Ent.stamp (mxE (Prod.snd a ((0 : Nat) + j)) (x j)) else Ent.stamp (Prod.snd a i'))),
                                          FV.lit (Value.int IntKind.i64 (bif Nat.beq i' ((0 : Nat) + j) then Ent.load (mxE (Prod.snd a ((0 : Nat) + j)) (x j)) else Ent.load (Prod.snd a i'))),
                                          FV.lit (Value.bool (bif Nat.beq i' ((0 : Nat) + j) then Ent.dr (mxE (Prod.snd a ((0 : Nat) + j)) (x j)) else Ent.dr (Prod.snd a i')))])],
                                nx := (2 : Nat), esc := false, base := (0 : Nat), wr := [] : St }))
                          T.bad)
                        T.bad)
                      T.bad)
                    T.bad)
                  T.bad)
                T.bad)
              T.bad)
            T.bad))
        T.bad)
      T.bad)
    (T.ret
      (Ex.exit (2 : Nat),
        {
          sl :=
            [((3 : Nat), SV.v (AV.one (CV.sl (Nat.beq (Prod.fst a) (0 : Nat)) (1 : Nat) (5 : Nat) (0 : Nat) (0 : Nat) (Prod.fst a) (Prod.fst a) false (5 : Nat)))),
              ((8 : Nat),
                SV.v
                  (AV.one
                    (CV.f
                      (FV.fs kl (1 : Nat) k fun a =>
                        [FV.fs (Lst.nl (q a)) (5 : Nat) (Lst.n (q a)) fun a_1 =>
                            [FV.lit (Value.int IntKind.i64 (Ent.inc (Lst.x (q a) a_1))), FV.lit (Value.int IntKind.i64 (Ent.st (Lst.x (q a) a_1))), FV.lit (Value.int IntKind.i64 (Ent.stamp (Lst.x (q a) a_1))),
                              FV.lit (Value.int IntKind.i64 (Ent.load (Lst.x (q a) a_1))), FV.lit (Value.bool (Ent.dr (Lst.x (q a) a_1)))]])))),
              ((9 : Nat), SV.v (AI (↑k : Int))), ((10 : Nat), SV.v (AI (↑i : Int)))],
          H :=
            [((1 : Nat),
                Ob.arr (!Nat.beq (Prod.fst a) (0 : Nat)) (5 : Nat) (Prod.fst a) fun a_1 =>
                  [FV.lit (Value.int IntKind.i64 (Ent.inc (Prod.snd a a_1))), FV.lit (Value.int IntKind.i64 (Ent.st (Prod.snd a a_1))), FV.lit (Value.int IntKind.i64 (Ent.stamp (Prod.snd a a_1))),
                    FV.lit (Value.int IntKind.i64 (Ent.load (Prod.snd a a_1))), FV.lit (Value.bool (Ent.dr (Prod.snd a a_1)))])],
          nx := (2 : Nat), esc := false, base := (0 : Nat), wr := [] : St })) := by kernel_rfl
theorem tree_ri (kl : Bool) (k : Nat) (q : Nat → Lst) (i : Nat) (j : Nat) (a : Acc) : (tgt_ri kl k q i j a).over (.br (.br (.br (.br (.br (.br (.br (.br (.tt (.ff (.br (.br .skip .skip) (.br (.br (.tt (.br (.tt (.br (.br (.br (.br (.br (.tt (.br (.tt (.br .leaf .skip)) .skip)) .skip) .skip) .skip) .skip) .skip)) .skip)) .skip) .skip)))) .skip) .skip) .skip) .skip) (.br (.br (.br (.br (.br (.br (.br (.br (.br (.br (.br (.br .leaf .skip) .skip) .skip) .skip) .skip) .skip) .skip) .skip) .skip) .skip) .skip) .skip)) .leaf) .skip) .skip) =
  T.br (!kl)
    (T.br (decide ((0 : Int) ≤ (↑i : Int) ∧ (↑i : Int) < (↑k : Int)))
      (T.br (decide ((↑j : Int) < (↑(Lst.n (q i)) : Int)))
        (T.br ((↑j : Int) == (↑(Prod.fst a) : Int))
          (T.br (!kl)
            (T.br (decide ((0 : Int) ≤ (↑i : Int) ∧ (↑i : Int) < (↑k : Int)))
              (T.br (!Lst.nl (q i))
                (T.br (decide ((0 : Int) ≤ (↑j : Int) ∧ (↑j : Int) < (↑(Lst.n (q i)) : Int)))
                  (T.br (Nat.ble (Prod.fst a + (1 : Nat)) (Prod.fst a)) (T.br (!Nat.beq (Prod.fst a) (0 : Nat)) T.bad T.bad)
                    (T.br (smallB (Prod.fst a + (1 : Nat)) (40 : Nat))
                      (T.br ((Nat.beq (Prod.fst a) (0 : Nat) || !Nat.beq (Prod.fst a) (0 : Nat)) && Nat.ble ((0 : Nat) + Prod.fst a) (Prod.fst a))
                        (T.br (decide ((0 : Int) ≤ (↑j : Int) ∧ (↑j : Int) < (↑(Prod.fst a + (1 : Nat)) : Int)))
                          (T.br (Nat.ble ((0 : Nat) + j + (1 : Nat)) (Prod.fst a + (1 : Nat)))
                            (T.br (!kl)
                              (T.br (decide ((0 : Int) ≤ (↑i : Int) ∧ (↑i : Int) < (↑k : Int)))
                                (T.br (!Lst.nl (q i))
                                  (T.br (decide ((0 : Int) ≤ (↑j : Int) ∧ (↑j : Int) < (↑(Lst.n (q i)) : Int)))
                                    (T.br (decide ((0 : Int) ≤ (↑j : Int) ∧ (↑j : Int) < (↑(Prod.fst a + (1 : Nat)) : Int)))
                                      (T.br (Nat.ble ((0 : Nat) + j + (1 : Nat)) (Prod.fst a + (1 : Nat)))
                                        (T.ret
                                          (Ex.normal,
                                            {
                                              sl :=
                                                [((0 : Nat),
                                                    SV.v
                                                      (AV.one
                                                        (CV.f
                                                          (FV.fs kl (1 : Nat) k fun a =>
                                                            [FV.fs (Lst.nl (q a)) (5 : Nat) (Lst.n (q a)) fun a_1 =>
                                                                [FV.lit (Value.int IntKind.i64 (Ent.inc (Lst.x (q a) a_1))), FV.lit (Value.int IntKind.i64 (Ent.st (Lst.x (q a) a_1))),
                                                                  FV.lit (Value.int IntKind.i64 (Ent.stamp (Lst.x (q a) a_1))), FV.lit (Value.int IntKind.i64 (Ent.load (Lst.x (q a) a_1))), FV.lit (Value.bool (Ent.dr (Lst.x (q a) a_1)))]])))),
                                                  ((4 : Nat), SV.v (AI (↑i : Int))), ((5 : Nat), SV.v (AI (IntKind.wrap IntKind.i64 ((↑j : Int) + (1 : Int))))),
                                                  ((3 : Nat), SV.v (AV.one (CV.sl false (1 : Nat) (5 : Nat) (0 : Nat) (0 : Nat) (Prod.fst a + (1 : Nat)) (Prod.fst a + (1 : Nat)) false (5 : Nat))))],
                                              H :=
                                                [((1 : Nat),
                                                    Ob.arr true (5 : Nat) (Prod.fst a + (1 : Nat)) fun i' =>
                                                      [FV.lit
                                                          (Value.int IntKind.i64
                                                            (bif Nat.beq i' ((0 : Nat) + j) then
                                                              Ent.inc
                                                                (mxE
                                                                  { inc := bif Nat.ble ((0 : Nat) + j + (1 : Nat)) (Prod.fst a) then Ent.inc (Prod.snd a ((0 : Nat) + ((0 : Nat) + j))) else Ent.inc (Lst.x (q i) j),
                                                                    st := bif Nat.ble ((0 : Nat) + j + (1 : Nat)) (Prod.fst a) then Ent.st (Prod.snd a ((0 : Nat) + ((0 : Nat) + j))) else Ent.st (Lst.x (q i) j),
                                                                    stamp := bif Nat.ble ((0 : Nat) + j + (1 : Nat)) (Prod.fst a) then Ent.stamp (Prod.snd a ((0 : Nat) + ((0 : Nat) + j))) else Ent.stamp (Lst.x (q i) j),
                                                                    load := bif Nat.ble ((0 : Nat) + j + (1 : Nat)) (Prod.fst a) then Ent.load (Prod.snd a ((0 : Nat) + ((0 : Nat) + j))) else Ent.load (Lst.x (q i) j),
                                                                    dr := bif Nat.ble ((0 : Nat) + j + (1 : Nat)) (Prod.fst a) then Ent.dr (Prod.snd a ((0 : Nat) + ((0 : Nat) + j))) else Ent.dr (Lst.x (q i) j) : Ent }
                                                                  (Lst.x (q i) j))
                                                            else bif Nat.ble (i' + (1 : Nat)) (Prod.fst a) then Ent.inc (Prod.snd a ((0 : Nat) + i')) else Ent.inc (Lst.x (q i) j))),
                                                        FV.lit
                                                          (Value.int IntKind.i64
                                                            (bif Nat.beq i' ((0 : Nat) + j) then
                                                              Ent.st
                                                                (mxE
                                                                  { inc := bif Nat.ble ((0 : Nat) + j + (1 : Nat)) (Prod.fst a) then Ent.inc (Prod.snd a ((0 : Nat) + ((0 : Nat) + j))) else Ent.inc (Lst.x (q i) j),
                                                                    st := bif Nat.ble ((0 : Nat) + j + (1 : Nat)) (Prod.fst a) then Ent.st (Prod.snd a ((0 : Nat) + ((0 : Nat) + j))) else Ent.st (Lst.x (q i) j),
                                                                    stamp := bif Nat.ble ((0 : Nat) + j + (1 : Nat)) (Prod.fst a) then Ent.stamp (Prod.snd a ((0 : Nat) + ((0 : Nat) + j))) else Ent.stamp (Lst.x (q i) j),
                                                                    load := bif Nat.ble ((0 : Nat) + j + (1 : Nat)) (Prod.fst a) then Ent.load (Prod.snd a ((0 : Nat) + ((0 : Nat) + j))) else Ent.load (Lst.x (q i) j),
                                                                    dr := bif Nat.ble ((0 : Nat) + j + (1 : Nat)) (Prod.fst a) then Ent.dr (Prod.snd a ((0 : Nat) + ((0 : Nat) + j))) else Ent.dr (Lst.x (q i) j) : Ent }
                                                                  (Lst.x (q i) j))
                                                            else bif Nat.ble (i' + (1 : Nat)) (Prod.fst a) then Ent.st (Prod.snd a ((0 : Nat) + i')) else Ent.st (Lst.x (q i) j))),
                                                        FV.lit
                                                          (Value.int IntKind.i64
                                                            (bif Nat.beq i' ((0 : Nat) + j) then
                                                              Ent.stamp
                                                                (mxE
                                                                  { inc := bif Nat.ble ((0 : Nat) + j + (1 : Nat)) (Prod.fst a) then Ent.inc (Prod.snd a ((0 : Nat) + ((0 : Nat) + j))) else Ent.inc (Lst.x (q i) j),
                                                                    st := bif Nat.ble ((0 : Nat) + j + (1 : Nat)) (Prod.fst a) then Ent.st (Prod.snd a ((0 : Nat) + ((0 : Nat) + j))) else Ent.st (Lst.x (q i) j),
                                                                    stamp := bif Nat.ble ((0 : Nat) + j + (1 : Nat)) (Prod.fst a) then Ent.stamp (Prod.snd a ((0 : Nat) + ((0 : Nat) + j))) else Ent.stamp (Lst.x (q i) j),
                                                                    load := bif Nat.ble ((0 : Nat) + j + (1 : Nat)) (Prod.fst a) then Ent.load (Prod.snd a ((0 : Nat) + ((0 : Nat) + j))) else Ent.load (Lst.x (q i) j),
                                                                    dr := bif Nat.ble ((0 : Nat) + j + (1 : Nat)) (Prod.fst a) then Ent.dr (Prod.snd a ((0 : Nat) + ((0 : Nat) + j))) else Ent.dr (Lst.x (q i) j) : Ent }
                                                                  (Lst.x (q i) j))
                                                            else bif Nat.ble (i' + (1 : Nat)) (Prod.fst a) then Ent.stamp (Prod.snd a ((0 : Nat) + i')) else Ent.stamp (Lst.x (q i) j))),
                                                        FV.lit
                                                          (Value.int IntKind.i64
                                                            (bif Nat.beq i' ((0 : Nat) + j) then
                                                              Ent.load
                                                                (mxE
                                                                  { inc := bif Nat.ble ((0 : Nat) + j + (1 : Nat)) (Prod.fst a) then Ent.inc (Prod.snd a ((0 : Nat) + ((0 : Nat) + j))) else Ent.inc (Lst.x (q i) j),
                                                                    st := bif Nat.ble ((0 : Nat) + j + (1 : Nat)) (Prod.fst a) then Ent.st (Prod.snd a ((0 : Nat) + ((0 : Nat) + j))) else Ent.st (Lst.x (q i) j),
                                                                    stamp := bif Nat.ble ((0 : Nat) + j + (1 : Nat)) (Prod.fst a) then Ent.stamp (Prod.snd a ((0 : Nat) + ((0 : Nat) + j))) else Ent.stamp (Lst.x (q i) j),
                                                                    load := bif Nat.ble ((0 : Nat) + j + (1 : Nat)) (Prod.fst a) then Ent.load (Prod.snd a ((0 : Nat) + ((0 : Nat) + j))) else Ent.load (Lst.x (q i) j),
                                                                    dr := bif Nat.ble ((0 : Nat) + j + (1 : Nat)) (Prod.fst a) then Ent.dr (Prod.snd a ((0 : Nat) + ((0 : Nat) + j))) else Ent.dr (Lst.x (q i) j) : Ent }
                                                                  (Lst.x (q i) j))
                                                            else bif Nat.ble (i' + (1 : Nat)) (Prod.fst a) then Ent.load (Prod.snd a ((0 : Nat) + i')) else Ent.load (Lst.x (q i) j))),
                                                        FV.lit
                                                          (Value.bool
                                                            (bif Nat.beq i' ((0 : Nat) + j) then
                                                              Ent.dr
                                                                (mxE
                                                                  { inc := bif Nat.ble ((0 : Nat) + j + (1 : Nat)) (Prod.fst a) then Ent.inc (Prod.snd a ((0 : Nat) + ((0 : Nat) + j))) else Ent.inc (Lst.x (q i) j),
                                                                    st := bif Nat.ble ((0 : Nat) + j + (1 : Nat)) (Prod.fst a) then Ent.st (Prod.snd a ((0 : Nat) + ((0 : Nat) + j))) else Ent.st (Lst.x (q i) j),
                                                                    stamp := bif Nat.ble ((0 : Nat) + j + (1 : Nat)) (Prod.fst a) then Ent.stamp (Prod.snd a ((0 : Nat) + ((0 : Nat) + j))) else Ent.stamp (Lst.x (q i) j),
                                                                    load := bif Nat.ble ((0 : Nat) + j + (1 : Nat)) (Prod.fst a) then Ent.load (Prod.snd a ((0 : Nat) + ((0 : Nat) + j))) else Ent.load (Lst.x (q i) j),
                                                                    dr := bif Nat.ble ((0 : Nat) + j + (1 : Nat)) (Prod.fst a) then Ent.dr (Prod.snd a ((0 : Nat) + ((0 : Nat) + j))) else Ent.dr (Lst.x (q i) j) : Ent }
                                                                  (Lst.x (q i) j))
                                                            else bif Nat.ble (i' + (1 : Nat)) (Prod.fst a) then Ent.dr (Prod.snd a ((0 : Nat) + i')) else Ent.dr (Lst.x (q i) j)))])],
                                              nx := (2 : Nat), esc := false, base := (0 : Nat), wr := [] : St }))
                                        T.bad)
                                      T.bad)
                                    T.bad)
                                  T.bad)
                                T.bad)
                              T.bad)
                            T.bad)
                          T.bad)
                        T.bad)
                      T.bad))
                  T.bad)
                T.bad)
              T.bad)
            T.bad)
          (T.br (!Nat.beq (Prod.fst a) (0 : Nat))
            (T.br (decide ((0 : Int) ≤ (↑j : Int) ∧ (↑j : Int) < (↑(Prod.fst a) : Int)))
              (T.br (!Nat.beq (Prod.fst a) (0 : Nat))
                (T.br (Nat.ble ((0 : Nat) + j + (1 : Nat)) (Prod.fst a))
                  (T.br (!kl)
                    (T.br (decide ((0 : Int) ≤ (↑i : Int) ∧ (↑i : Int) < (↑k : Int)))
                      (T.br (!Lst.nl (q i))
                        (T.br (decide ((0 : Int) ≤ (↑j : Int) ∧ (↑j : Int) < (↑(Lst.n (q i)) : Int)))
                          (T.br (!Nat.beq (Prod.fst a) (0 : Nat))
                            (T.br (decide ((0 : Int) ≤ (↑j : Int) ∧ (↑j : Int) < (↑(Prod.fst a) : Int)))
                              (T.br (!Nat.beq (Prod.fst a) (0 : Nat))
                                (T.br (Nat.ble ((0 : Nat) + j + (1 : Nat)) (Prod.fst a))
                                  (T.ret
                                    (Ex.normal,
                                      {
                                        sl :=
                                          [((0 : Nat),
                                              SV.v
                                                (AV.one
                                                  (CV.f
                                                    (FV.fs kl (1 : Nat) k fun a =>
                                                      [FV.fs (Lst.nl (q a)) (5 : Nat) (Lst.n (q a)) fun a_1 =>
                                                          [FV.lit (Value.int IntKind.i64 (Ent.inc (Lst.x (q a) a_1))), FV.lit (Value.int IntKind.i64 (Ent.st (Lst.x (q a) a_1))), FV.lit (Value.int IntKind.i64 (Ent.stamp (Lst.x (q a) a_1))),
                                                            FV.lit (Value.int IntKind.i64 (Ent.load (Lst.x (q a) a_1))), FV.lit (Value.bool (Ent.dr (Lst.x (q a) a_1)))]])))),
                                            ((4 : Nat), SV.v (AI (↑i : Int))), ((5 : Nat), SV.v (AI (IntKind.wrap IntKind.i64 ((↑j : Int) + (1 : Int))))),
                                            ((3 : Nat), SV.v (AV.one (CV.sl (Nat.beq (Prod.fst a) (0 : Nat)) (1 : Nat) (5 : Nat) (0 : Nat) (0 : Nat) (Prod.fst a) (Prod.fst a) false (5 : Nat))))],
                                        H :=
                                          [((1 : Nat),
                                              Ob.arr (!Nat.beq (Prod.fst a) (0 : Nat)) (5 : Nat) (Prod.fst a) fun i' =>
                                                [FV.lit (Value.int IntKind.i64 (bif Nat.beq i' ((0 : Nat) + j) then Ent.inc (mxE (Prod.snd a ((0 : Nat) + j)) (Lst.x (q i) j)) else Ent.inc (Prod.snd a i'))),
                                                  FV.lit (Value.int IntKind.i64 (bif Nat.beq i' ((0 : Nat) + j) then Ent.st (mxE (Prod.snd a ((0 : Nat) + j)) (Lst.x (q i) j)) else Ent.st (Prod.snd a i'))),
                                                  FV.lit (Value.int IntKind.i64 (bif Nat.beq i' ((0 : Nat) + j) then Ent.stamp (mxE (Prod.snd a ((0 : Nat) + j)) (Lst.x (q i) j)) else Ent.stamp (Prod.snd a i'))),
                                                  FV.lit (Value.int IntKind.i64 (bif Nat.beq i' ((0 : Nat) + j) then Ent.load (mxE (Prod.snd a ((0 : Nat) + j)) (Lst.x (q i) j)) else Ent.load (Prod.snd a i'))),
                                                  FV.lit (Value.bool (bif Nat.beq i' ((0 : Nat) + j) then Ent.dr (mxE (Prod.snd a ((0 : Nat) + j)) (Lst.x (q i) j)) else Ent.dr (Prod.snd a i')))])],
                                        nx := (2 : Nat), esc := false, base := (0 : Nat), wr := [] : St }))
                                  T.bad)
                                T.bad)
                              T.bad)
                            T.bad)
                          T.bad)
                        T.bad)
                      T.bad)
                    T.bad)
                  T.bad)
                T.bad)
              T.bad)
            T.bad))
        (T.ret
          (Ex.exit (2 : Nat),
            {
              sl :=
                [((0 : Nat),
                    SV.v
                      (AV.one
                        (CV.f
                          (FV.fs kl (1 : Nat) k fun a =>
                            [FV.fs (Lst.nl (q a)) (5 : Nat) (Lst.n (q a)) fun a_1 =>
                                [FV.lit (Value.int IntKind.i64 (Ent.inc (Lst.x (q a) a_1))), FV.lit (Value.int IntKind.i64 (Ent.st (Lst.x (q a) a_1))), FV.lit (Value.int IntKind.i64 (Ent.stamp (Lst.x (q a) a_1))),
                                  FV.lit (Value.int IntKind.i64 (Ent.load (Lst.x (q a) a_1))), FV.lit (Value.bool (Ent.dr (Lst.x (q a) a_1)))]])))),
                  ((4 : Nat), SV.v (AI (↑i : Int))), ((3 : Nat), SV.v (AV.one (CV.sl (Nat.beq (Prod.fst a) (0 : Nat)) (1 : Nat) (5 : Nat) (0 : Nat) (0 : Nat) (Prod.fst a) (Prod.fst a) false (5 : Nat))))],
              H :=
                [((1 : Nat),
                    Ob.arr (!Nat.beq (Prod.fst a) (0 : Nat)) (5 : Nat) (Prod.fst a) fun a_1 =>
                      [FV.lit (Value.int IntKind.i64 (Ent.inc (Prod.snd a a_1))), FV.lit (Value.int IntKind.i64 (Ent.st (Prod.snd a a_1))), FV.lit (Value.int IntKind.i64 (Ent.stamp (Prod.snd a a_1))),
                        FV.lit (Value.int IntKind.i64 (Ent.load (Prod.snd a a_1))), FV.lit (Value.bool (Ent.dr (Prod.snd a a_1)))])],
              nx := (2 : Nat), esc := false, base := (0 : Nat), wr := [] : St })))
      T.bad)
    T.bad := by kernel_rfl
theorem round_mi (nl : Bool) (n : Nat) (x : Nat → Ent) (kl : Bool) (k : Nat) (q : Nat → Lst) (io : Nat) (hb : n ≤ 1000) (hnl : nl = true → n = 0) (i : Nat) (a : Acc) (hi : i < n) (hI : (fun (i : Nat) (a : Acc) => (i ≤ a.1 ∧ a.1 ≤ 1000 : Prop)) i a) : ∃ s, (tgt_mi nl n x kl k q io i a).res = some (.normal, s) ∧ StLe 1 s (S_mi nl n x kl k q io (i + 1) ((fun (i : Nat) (a : Acc) => (stM x i a)) i a)) ∧ (fun (i : Nat) (a : Acc) => (i ≤ a.1 ∧ a.1 ≤ 1000 : Prop)) (i + 1) ((fun (i : Nat) (a : Acc) => (stM x i a)) i a) := by
  refine T.over_exP (g := fun s => (Ex.normal, s)) (tree_mi nl n x kl k q io i a) ?_
  obtain ⟨N, R⟩ := a
  obtain ⟨hj, hN⟩ := hI
  simp only at hj hN
  have e1 : ((i : Int) < (n : Int)) := by omega
  have e2 : (0 : Int) ≤ (i : Int) ∧ (i : Int) < (n : Int) := by omega
  have e3 : IntKind.wrap .i64 ((i : Int) + 1) = ((i + 1 : Nat) : Int) := by rw [wrapI (by omega)]; rfl
  have e4 : Nat.ble (N + 1) N = false := ble_false (by omega)
  obtain rfl : nl = false := by cases nl <;> simp_all <;> omega
  have en : (!false) = true := rfl
  by_cases h : i = N
  · have es : stM x i (N, R) = (N + 1, fun t => if t = i then x i else R t) := if_pos h
    have e5 : ((i : Int) == (N : Int)) = true := by simp [h]
    have e6 : smallB (N + 1) 40 = true := smallB_le (by omega) (by omega)
    have e7 : Nat.ble (0 + N) N = true := ble_tt (by omega)
    have e8 : (0 : Int) ≤ (i : Int) ∧ (i : Int) < ((N + 1 : Nat) : Int) := by omega
    have e9 : Nat.ble (0 + i + 1) (N + 1) = true := ble_tt (by omega)
    have e10 : Nat.ble (0 + i + 1) N = false := ble_false (by omega)
    simp only [T.res_br, T.res_ret, T.res_bad, decide_eq_true_eq, e1, e2, e3, e4, e5, e6, e7, e8, e9, en,  beq_or, Bool.and_self, Bool.not_false, Bool.false_eq_true, reduceIte, and_self]
    refine ⟨_, rfl, ?_, ?_⟩
    · rw [es]
      refine StLe.less (Nat.le_succ 1) (fun t => .inr (.inl rfl)) (fun b => ?_)
      rcases b with _ | _ | b
      · exact .inl rfl
      · refine Ob.le.arr fun t ht => ?_
        by_cases ht' : t = i
        · subst ht'
          simp only [Nat.zero_add, Nat.beq_refl, cond_true, show Nat.ble (t + 1) N = false from ble_false (by omega), cond_false]
          exact (congrArg Ent.fs (mxE_self (x t))).trans (congrArg Ent.fs (if_pos rfl).symm)
        · simp only [Nat.zero_add, beq_ff ht', ble_tt (show t + 1 ≤ N by omega), cond_true, cond_false, entE, Ent.fs, if_neg ht']
      · exact .inl rfl
    · rw [es]
      exact ⟨by simp only; omega, by simp only; omega⟩
  · have es : stM x i (N, R) = (N, fun t => if t = i then mxE (R i) (x i) else R t) := if_neg h
    have e5 : ((i : Int) == (N : Int)) = false := by simp; omega
    have e8 : (0 : Int) ≤ (i : Int) ∧ (i : Int) < (N : Int) := by omega
    have e9 : Nat.ble (0 + i + 1) N = true := ble_tt (by omega)
    have e10 : Nat.beq N 0 = false := beq_ff (by omega)
    simp only [T.res_br, T.res_ret, T.res_bad, decide_eq_true_eq, e1, e2, e3, e5, e8, e9, e10, en,  Bool.not_false, Bool.false_eq_true, reduceIte, and_self]
    refine ⟨_, rfl, ?_, ?_⟩
    · rw [es]
      refine StLe.less (Nat.le_succ 1) (fun t => .inr (.inl ?_)) (fun b => ?_)
      · simp only [S_mi, outS, e10]
      · rcases b with _ | _ | b
        · exact .inl rfl
        · refine (Ob.le.arr (e' := entE fun t => if t = i then mxE (R i) (x i) else R t) fun t ht => ?_).trans (by simp only [S_mi, outO, e10]; exact Ob.le.refl _)
          by_cases ht' : t = i
          · subst ht'
            simp only [Nat.zero_add, Nat.beq_refl, cond_true, entE, Ent.fs, if_true]
          · simp only [Nat.zero_add, beq_ff ht', cond_false, entE, Ent.fs, if_neg ht']
        · exact .inl rfl
    · rw [es]
      exact ⟨by simp only; omega, by simp only; omega⟩
theorem end_mi (nl : Bool) (n : Nat) (x : Nat → Ent) (kl : Bool) (k : Nat) (q : Nat → Lst) (io : Nat) (hb : n ≤ 1000) (hnl : nl = true → n = 0) (a : Acc) (hI : (fun (i : Nat) (a : Acc) => (i ≤ a.1 ∧ a.1 ≤ 1000 : Prop)) (n) a) : ∃ s, (tgt_mi nl n x kl k q io (n) a).res = some (.exit 2, s) ∧ StLe 1 s (⟨[(3, .v (outS 1 a.1)), (8, .v (.one (.f (.fs kl 1 k (lstE q))))), (9, .v (AI k)), (10, .v (AI io))], [(1, outO a.1 a.2)], 2, false, 0, []⟩) := by
  refine T.over_exP (g := fun s => (.exit 2, s)) (tree_mi nl n x kl k q io (n) a) ?_
  obtain ⟨N, R⟩ := a
  simp only [T.res_br, T.res_ret, T.res_bad, decide_eq_true_eq, Int.lt_irrefl, reduceIte]
  exact ⟨_, rfl, StLe.refl (Nat.le_succ 1)⟩
theorem loop_mi (nl : Bool) (n : Nat) (x : Nat → Ent) (kl : Bool) (k : Nat) (q : Nat → Lst) (io : Nat) (hb : n ≤ 1000) (hnl : nl = true → n = 0) (i : Nat) (a : Acc) (hi : i ≤ n) (hI : (fun (i : Nat) (a : Acc) => (i ≤ a.1 ∧ a.1 ≤ 1000 : Prop)) i a) {st0 : St} (h0 : StLe 1 st0 (S_mi nl n x kl k q io i a)) (hnx : st0.nx = 1) :
    CodeOk Try.prog Try.f18.ntmps (.loop (loopOf Try.f18 6)) st0 (.exit 2) ((fun (a : Acc) => ⟨[(3, .v (outS 1 a.1)), (8, .v (.one (.f (.fs kl 1 k (lstE q))))), (9, .v (AI k)), (10, .v (AI io))], [(1, outO a.1 a.2)], 2, false, 0, []⟩) (foldF (fun (i : Nat) (a : Acc) => (stM x i a)) (n - i) i a)) := by
  have := for_loop GOPF1 GKPF1 (K := 300) (F := 18) (N := Try.f18.ntmps) (c := loopOf Try.f18 6) (m := 1) (live := [14, 15, 16, 3, 8, 9, 10]) (after := [3, 8, 9, 10]) (S_mi nl n x kl k q io) (n) (fun (i : Nat) (a : Acc) => .inl (stM x i a)) (fun (a : Acc) => (.exit 2, ⟨[(3, .v (outS 1 a.1)), (8, .v (.one (.f (.fs kl 1 k (lstE q))))), (9, .v (AI k)), (10, .v (AI io))], [(1, outO a.1 a.2)], 2, false, 0, []⟩)) (fun (i : Nat) (a : Acc) => (i ≤ a.1 ∧ a.1 ≤ 1000 : Prop))
    (fun i a hi hI => by obtain ⟨s, h1, h2, h3⟩ := round_mi nl n x kl k q io hb hnl i a hi hI; exact ⟨_, s, h1, rfl, h2, h3⟩)
    (fun a hI => by obtain ⟨s, h1, h2⟩ := end_mi nl n x kl k q io hb hnl a hI; exact ⟨_, s, h1, by simp, rfl, h2⟩)
    (fun i a => by first | exact Nat.le_refl _ | (show 1 ≤ _; decide) | (simp only [S_mi]; omega)) hi hI h0 hnx
  rw [foldX_inl] at this
  exact this
theorem round_ri (kl : Bool) (k : Nat) (q : Nat → Lst) (io : Nat) (hb : (q io).n ≤ 1000) (hnl : (q io).nl = true → (q io).n = 0) (hk : io < k) (hkl : kl = true → k = 0) (i : Nat) (a : Acc) (hi : i < (q io).n) (hI : (fun (i : Nat) (a : Acc) => (i ≤ a.1 ∧ a.1 ≤ 1000 : Prop)) i a) : ∃ s, (tgt_ri kl k q io i a).res = some (.normal, s) ∧ StLe 1 s (S_ri kl k q io (i + 1) ((fun (i : Nat) (a : Acc) => (stM (q io).x i a)) i a)) ∧ (fun (i : Nat) (a : Acc) => (i ≤ a.1 ∧ a.1 ≤ 1000 : Prop)) (i + 1) ((fun (i : Nat) (a : Acc) => (stM (q io).x i a)) i a) := by
  refine T.over_exP (g := fun s => (Ex.normal, s)) (tree_ri kl k q io i a) ?_
  obtain ⟨N, R⟩ := a
  obtain ⟨hj, hN⟩ := hI
  simp only at hj hN
  have e1 : ((i : Int) < ((q io).n : Int)) := by omega
  have e2 : (0 : Int) ≤ (i : Int) ∧ (i : Int) < ((q io).n : Int) := by omega
  have e3 : IntKind.wrap .i64 ((i : Int) + 1) = ((i + 1 : Nat) : Int) := by rw [wrapI (by omega)]; rfl
  have e4 : Nat.ble (N + 1) N = false := ble_false (by omega)
  have en : (!(q io).nl) = true := by cases hq : (q io).nl <;> simp_all <;> omega
  have ek : (!kl) = true := by cases kl <;> simp_all <;> omega
  have ei : (0 : Int) ≤ (io : Int) ∧ (io : Int) < (k : Int) := by omega
  by_cases h : i = N
  · have es : stM (q io).x i (N, R) = (N + 1, fun t => if t = i then (q io).x i else R t) := if_pos h
    have e5 : ((i : Int) == (N : Int)) = true := by simp [h]
    have e6 : smallB (N + 1) 40 = true := smallB_le (by omega) (by omega)
    have e7 : Nat.ble (0 + N) N = true := ble_tt (by omega)
    have e8 : (0 : Int) ≤ (i : Int) ∧ (i : Int) < ((N + 1 : Nat) : Int) := by omega
    have e9 : Nat.ble (0 + i + 1) (N + 1) = true := ble_tt (by omega)
    have e10 : Nat.ble (0 + i + 1) N = false := ble_false (by omega)
    simp only [T.res_br, T.res_ret, T.res_bad, decide_eq_true_eq, e1, e2, e3, e4, e5, e6, e7, e8, e9, en, ek, ei,  beq_or, Bool.and_self, Bool.not_false, Bool.false_eq_true, reduceIte, and_self]
    refine ⟨_, rfl, ?_, ?_⟩
    · rw [es]
      refine StLe.less (Nat.le_succ 1) (fun t => .inr (.inl rfl)) (fun b => ?_)
      rcases b with _ | _ | b
      · exact .inl rfl
      · refine Ob.le.arr fun t ht => ?_
        by_cases ht' : t = i
        · subst ht'
          simp only [Nat.zero_add, Nat.beq_refl, cond_true, show Nat.ble (t + 1) N = false from ble_false (by omega), cond_false]
          exact (congrArg Ent.fs (mxE_self ((q io).x t))).trans (congrArg Ent.fs (if_pos rfl).symm)
        · simp only [Nat.zero_add, beq_ff ht', ble_tt (show t + 1 ≤ N by omega), cond_true, cond_false, entE, Ent.fs, if_neg ht']
      · exact .inl rfl
    · rw [es]
      exact ⟨by simp only; omega, by simp only; omega⟩
  · have es : stM (q io).x i (N, R) = (N, fun t => if t = i then mxE (R i) ((q io).x i) else R t) := if_neg h
    have e5 : ((i : Int) == (N : Int)) = false := by simp; omega
    have e8 : (0 : Int) ≤ (i : Int) ∧ (i : Int) < (N : Int) := by omega
    have e9 : Nat.ble (0 + i + 1) N = true := ble_tt (by omega)
    have e10 : Nat.beq N 0 = false := beq_ff (by omega)
    simp only [T.res_br, T.res_ret, T.res_bad, decide_eq_true_eq, e1, e2, e3, e5, e8, e9, e10, en, ek, ei,  Bool.not_false, Bool.false_eq_true, reduceIte, and_self]
    refine ⟨_, rfl, ?_, ?_⟩
    · rw [es]
      refine StLe.less (Nat.le_succ 1) (fun t => .inr (.inl ?_)) (fun b => ?_)
      · simp only [S_ri, outS, e10]
      · rcases b with _ | _ | b
        · exact .inl rfl
        · refine (Ob.le.arr (e' := entE fun t => if t = i then mxE (R i) ((q io).x i) else R t) fun t ht => ?_).trans (by simp only [S_ri, outO, e10]; exact Ob.le.refl _)
          by_cases ht' : t = i
          · subst ht'
            simp only [Nat.zero_add, Nat.beq_refl, cond_true, entE, Ent.fs, if_true]
          · simp only [Nat.zero_add, beq_ff ht', cond_false, entE, Ent.fs, if_neg ht']
        · exact .inl rfl
    · rw [es]
      exact ⟨by simp only; omega, by simp only; omega⟩
theorem end_ri (kl : Bool) (k : Nat) (q : Nat → Lst) (io : Nat) (hb : (q io).n ≤ 1000) (hnl : (q io).nl = true → (q io).n = 0) (hk : io < k) (hkl : kl = true → k = 0) (a : Acc) (hI : (fun (i : Nat) (a : Acc) => (i ≤ a.1 ∧ a.1 ≤ 1000 : Prop)) ((q io).n) a) : ∃ s, (tgt_ri kl k q io ((q io).n) a).res = some (.exit 2, s) ∧ StLe 1 s (⟨[(0, .v (.one (.f (.fs kl 1 k (lstE q))))), (4, .v (AI io)), (3, .v (outS 1 a.1))], [(1, outO a.1 a.2)], 2, false, 0, []⟩) := by
  refine T.over_exP (g := fun s => (.exit 2, s)) (tree_ri kl k q io ((q io).n) a) ?_
  obtain ⟨N, R⟩ := a
  have ek : (!kl) = true := by cases kl <;> simp_all <;> omega
  have ei : (0 : Int) ≤ (io : Int) ∧ (io : Int) < (k : Int) := by omega
  simp only [ek, ei, and_self, T.res_br, T.res_ret, T.res_bad, decide_eq_true_eq, Int.lt_irrefl, reduceIte]
  exact ⟨_, rfl, StLe.refl (Nat.le_succ 1)⟩
theorem loop_ri (kl : Bool) (k : Nat) (q : Nat → Lst) (io : Nat) (hb : (q io).n ≤ 1000) (hnl : (q io).nl = true → (q io).n = 0) (hk : io < k) (hkl : kl = true → k = 0) (i : Nat) (a : Acc) (hi : i ≤ (q io).n) (hI : (fun (i : Nat) (a : Acc) => (i ≤ a.1 ∧ a.1 ≤ 1000 : Prop)) i a) {st0 : St} (h0 : StLe 1 st0 (S_ri kl k q io i a)) (hnx : st0.nx = 1) :
    CodeOk Try.prog Try.f19.ntmps (.loop (loopOf Try.f19 6)) st0 (.exit 2) ((fun (a : Acc) => ⟨[(0, .v (.one (.f (.fs kl 1 k (lstE q))))), (4, .v (AI io)), (3, .v (outS 1 a.1))], [(1, outO a.1 a.2)], 2, false, 0, []⟩) (foldF (fun (i : Nat) (a : Acc) => (stM (q io).x i a)) ((q io).n - i) i a)) := by
  have := for_loop GOPF1 GKPF1 (K := 300) (F := 19) (N := Try.f19.ntmps) (c := loopOf Try.f19 6) (m := 1) (live := [0, 4, 5, 3]) (after := [0, 4, 3]) (S_ri kl k q io) ((q io).n) (fun (i : Nat) (a : Acc) => .inl (stM (q io).x i a)) (fun (a : Acc) => (.exit 2, ⟨[(0, .v (.one (.f (.fs kl 1 k (lstE q))))), (4, .v (AI io)), (3, .v (outS 1 a.1))], [(1, outO a.1 a.2)], 2, false, 0, []⟩)) (fun (i : Nat) (a : Acc) => (i ≤ a.1 ∧ a.1 ≤ 1000 : Prop))
    (fun i a hi hI => by obtain ⟨s, h1, h2, h3⟩ := round_ri kl k q io hb hnl hk hkl i a hi hI; exact ⟨_, s, h1, rfl, h2, h3⟩)
    (fun a hI => by obtain ⟨s, h1, h2⟩ := end_ri kl k q io hb hnl hk hkl a hI; exact ⟨_, s, h1, by simp, rfl, h2⟩)
    (fun i a => by first | exact Nat.le_refl _ | (show 1 ≤ _; decide) | (simp only [S_ri]; omega)) hi hI h0 hnx
  rw [foldX_inl] at this
  exact this
end Go.Proofs.Ytdoehlinboiohaa.En
