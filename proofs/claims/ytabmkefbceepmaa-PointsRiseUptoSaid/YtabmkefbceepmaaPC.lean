/- A round of ClientApart's loop. -/
import Derived.Test.YtabmkefbceepmaaPB
namespace Go.Proofs.Ytabmkefbceepmaa.En
open Go
set_option linter.unusedVariables false
set_option linter.unusedSimpArgs false
set_option maxRecDepth 20000
structure RawOp where
  kind : Int
  key : Int
  value : Int
  old : Int
  client : Int
  seq : Int
  bend : Int
  text : ByteArray
def RawOp.fs (x : RawOp) : List FV := [.lit (.int .i64 x.kind), .lit (.int .i64 x.key), .lit (.int .i64 x.value), .lit (.int .i64 x.old), .lit (.int .i64 x.client), .lit (.int .i64 x.seq), .lit (.int .i64 x.bend), .lit (.string x.text)]

noncomputable def GPC1 : Ctx := GS.with ss_RAgain ll0
noncomputable def tgt_known23  : T CallOut := evCallW [] GPC1 300 16 [] [] 0
theorem GKPC1 : KnownOk Try.prog GPC1 := KnownOk.lists ss_RAgain_ok ll0_ok
theorem tree_known23  : (tgt_known23 ).over (.ff (.tt (.tt (.tt (.tt (.tt (.tt (.tt (.tt (.tt (.tt (.tt (.tt (.tt (.tt (.tt (.tt (.tt (.tt (.tt .leaf)))))))))))))))))))) =
  T.ret (out0 (SV.v (AB true))) := by kernel_rfl
theorem res_known23  : (tgt_known23 ).res = some (out0 (.v (AB true))) := by
  refine T.over_eq _ (tree_known23 ) ?_
  simp only [T.res_br, T.res_ret, T.res_bad]

noncomputable def F_known23 : SumF
  | [], [], 0 => .ret (out0 (.v (AB true)))
  | _, _, _ => .bad
theorem sum_known23 : SumOk Try.prog 16 F_known23 := by
  refine ⟨fun args H nx r hr => ?_, fun args H nx => ?_⟩
  · unfold F_known23 at hr
    split at hr
    · have := T.ret_some hr
      subst this
      exact evCallW_ok (GS_ok.with _ _) GKPC1 (res_known23 )
    · exact (T.bad_some hr).elim
  · unfold F_known23
    split
    · exact ⟨Nat.zero_le _, fun b hb hw => absurd hb (Nat.not_lt_zero b)⟩
    · trivial
noncomputable def ss_known23 : List (Nat × SumF) := (16, canonSum F_known23) :: ss_RAgain
theorem ss_known23_ok : ∀ x ∈ ss_known23, SumOk Try.prog x.1 x.2 := List.forall_mem_cons.2 ⟨canonSum_ok sum_known23, ss_RAgain_ok⟩
def SA (nl : Bool) (n : Nat) (x : Nat → RawOp) (a b : Int) (i : Nat) (csq ckd : Int) (cky cvl cod : ByteArray) : St :=
  ⟨[(37, .v (.one (.f (.fs nl 8 n fun i => (x i).fs)))), (38, .v (AI n)), (39, .v (AI i)), (7, .v (AP 0)), (8, .v (AP 1)), (0, .v (AI a))],
    [(1, .cells [I b, I 0, I 0, Sg ⟨#[]⟩, Sg ⟨#[]⟩, Sg ⟨#[]⟩, Bo false]), (0, .cells [I a, I csq, I ckd, Sg cky, Sg cvl, Sg cod, Bo false])], 2, false, 0, []⟩

noncomputable def GPC2 : Ctx := GS.with ss_known23 ll0
noncomputable def tgt_apart (nl : Bool) (n : Nat) (x : Nat → RawOp) (a b : Int) (i : Nat) (csq ckd : Int) (cky cvl cod : ByteArray) : T (Ex × St) := evRound GPC2 300 4 Try.f4.ntmps (loopOf Try.f4 8) 2 [37, 38, 39, 7, 8, 0] [6] (SA nl n x a b i csq ckd cky cvl cod)
theorem GKPC2 : KnownOk Try.prog GPC2 := KnownOk.lists ss_known23_ok ll0_ok
theorem tree_apart (nl : Bool) (n : Nat) (x : Nat → RawOp) (a b : Int) (i : Nat) (csq ckd : Int) (cky cvl cod : ByteArray) : (tgt_apart nl n x a b i csq ckd cky cvl cod).over (.br (.br (.br (.br (.tt (.tt (.tt (.tt (.tt (.tt (.tt (.tt .skip)))))))) (.ff (.ff (.ff (.ff (.br (.tt (.tt (.tt .skip))) (.ff (.ff (.ff (.ff (.br (.tt (.tt (.tt (.tt (.tt (.tt (.tt (.tt .skip)))))))) (.ff (.ff (.ff (.ff (.br (.tt (.tt (.tt .skip))) (.ff (.ff (.br .skip .leaf))))))))))))))))))) .skip) .skip) .leaf) =
  T.br (decide ((↑i : Int) < (↑n : Int)))
    (T.br (!nl)
      (T.br (decide ((0 : Int) ≤ (↑i : Int) ∧ (↑i : Int) < (↑n : Int)))
        (T.br ((bif rightB ((1 : Int) + RawOp.kind (x i) % (4 : Int)) (keyS (RawOp.key (x i) % (16 : Int))) (opV (RawOp.kind (x i)) (RawOp.value (x i))) (opO (RawOp.kind (x i)) (RawOp.old (x i))) then (0 : Int) else (1 : Int)) != (0 : Int))
          T.bad
          (T.br ((bif rightB ((1 : Int) + RawOp.kind (x i) % (4 : Int)) (keyS (RawOp.key (x i) % (16 : Int))) (opV (RawOp.kind (x i)) (RawOp.value (x i))) (opO (RawOp.kind (x i)) (RawOp.old (x i))) then a else (0 : Int)) != a) T.bad
            (T.br
              (!hearB (rightB ((1 : Int) + RawOp.kind (x i) % (4 : Int)) (keyS (RawOp.key (x i) % (16 : Int))) (opV (RawOp.kind (x i)) (RawOp.value (x i))) (opO (RawOp.kind (x i)) (RawOp.old (x i)))) a
                  (bif rightB ((1 : Int) + RawOp.kind (x i) % (4 : Int)) (keyS (RawOp.key (x i) % (16 : Int))) (opV (RawOp.kind (x i)) (RawOp.value (x i))) (opO (RawOp.kind (x i)) (RawOp.old (x i))) then
                    IntKind.wrap IntKind.i64 (csq + (1 : Int))
                  else csq)
                  (9 : Int) (bif rightB ((1 : Int) + RawOp.kind (x i) % (4 : Int)) (keyS (RawOp.key (x i) % (16 : Int))) (opV (RawOp.kind (x i)) (RawOp.value (x i))) (opO (RawOp.kind (x i)) (RawOp.old (x i))) then a else (0 : Int))
                  (bif rightB ((1 : Int) + RawOp.kind (x i) % (4 : Int)) (keyS (RawOp.key (x i) % (16 : Int))) (opV (RawOp.kind (x i)) (RawOp.value (x i))) (opO (RawOp.kind (x i)) (RawOp.old (x i))) then
                    IntKind.wrap IntKind.i64 (csq + (1 : Int))
                  else (0 : Int))
                  (0 : Int))
              T.bad
              (T.br
                (!((bif
                          hearB (rightB ((1 : Int) + RawOp.kind (x i) % (4 : Int)) (keyS (RawOp.key (x i) % (16 : Int))) (opV (RawOp.kind (x i)) (RawOp.value (x i))) (opO (RawOp.kind (x i)) (RawOp.old (x i)))) a
                            (bif rightB ((1 : Int) + RawOp.kind (x i) % (4 : Int)) (keyS (RawOp.key (x i) % (16 : Int))) (opV (RawOp.kind (x i)) (RawOp.value (x i))) (opO (RawOp.kind (x i)) (RawOp.old (x i))) then
                              IntKind.wrap IntKind.i64 (csq + (1 : Int))
                            else csq)
                            (9 : Int) (bif rightB ((1 : Int) + RawOp.kind (x i) % (4 : Int)) (keyS (RawOp.key (x i) % (16 : Int))) (opV (RawOp.kind (x i)) (RawOp.value (x i))) (opO (RawOp.kind (x i)) (RawOp.old (x i))) then a else (0 : Int))
                            (bif rightB ((1 : Int) + RawOp.kind (x i) % (4 : Int)) (keyS (RawOp.key (x i) % (16 : Int))) (opV (RawOp.kind (x i)) (RawOp.value (x i))) (opO (RawOp.kind (x i)) (RawOp.old (x i))) then
                              IntKind.wrap IntKind.i64 (csq + (1 : Int))
                            else (0 : Int))
                            (0 : Int) then
                        (0 : Int)
                      else (0 : Int)) ==
                      (0 : Int) &&
                    ((bif
                            hearB (rightB ((1 : Int) + RawOp.kind (x i) % (4 : Int)) (keyS (RawOp.key (x i) % (16 : Int))) (opV (RawOp.kind (x i)) (RawOp.value (x i))) (opO (RawOp.kind (x i)) (RawOp.old (x i)))) a
                              (bif rightB ((1 : Int) + RawOp.kind (x i) % (4 : Int)) (keyS (RawOp.key (x i) % (16 : Int))) (opV (RawOp.kind (x i)) (RawOp.value (x i))) (opO (RawOp.kind (x i)) (RawOp.old (x i))) then
                                IntKind.wrap IntKind.i64 (csq + (1 : Int))
                              else csq)
                              (9 : Int)
                              (bif rightB ((1 : Int) + RawOp.kind (x i) % (4 : Int)) (keyS (RawOp.key (x i) % (16 : Int))) (opV (RawOp.kind (x i)) (RawOp.value (x i))) (opO (RawOp.kind (x i)) (RawOp.old (x i))) then a else (0 : Int))
                              (bif rightB ((1 : Int) + RawOp.kind (x i) % (4 : Int)) (keyS (RawOp.key (x i) % (16 : Int))) (opV (RawOp.kind (x i)) (RawOp.value (x i))) (opO (RawOp.kind (x i)) (RawOp.old (x i))) then
                                IntKind.wrap IntKind.i64 (csq + (1 : Int))
                              else (0 : Int))
                              (0 : Int) then
                          valS (RawOp.value (x i) % (6 : Int))
                        else { data := #[] }) ==
                        valS (RawOp.value (x i) % (6 : Int)) &&
                      true)))
                T.bad
                (T.br
                  (rightB ((1 : Int) + RawOp.kind (x i) % (4 : Int)) (keyS (RawOp.key (x i) % (16 : Int))) (opV (RawOp.kind (x i)) (RawOp.value (x i))) (opO (RawOp.kind (x i)) (RawOp.old (x i))) &&
                    !hearB (rightB ((1 : Int) + RawOp.kind (x i) % (4 : Int)) (keyS (RawOp.key (x i) % (16 : Int))) (opV (RawOp.kind (x i)) (RawOp.value (x i))) (opO (RawOp.kind (x i)) (RawOp.old (x i)))) a
                        (bif rightB ((1 : Int) + RawOp.kind (x i) % (4 : Int)) (keyS (RawOp.key (x i) % (16 : Int))) (opV (RawOp.kind (x i)) (RawOp.value (x i))) (opO (RawOp.kind (x i)) (RawOp.old (x i))) then
                          IntKind.wrap IntKind.i64 (csq + (1 : Int))
                        else csq)
                        (9 : Int) (bif rightB ((1 : Int) + RawOp.kind (x i) % (4 : Int)) (keyS (RawOp.key (x i) % (16 : Int))) (opV (RawOp.kind (x i)) (RawOp.value (x i))) (opO (RawOp.kind (x i)) (RawOp.old (x i))) then a else (0 : Int))
                        (bif rightB ((1 : Int) + RawOp.kind (x i) % (4 : Int)) (keyS (RawOp.key (x i) % (16 : Int))) (opV (RawOp.kind (x i)) (RawOp.value (x i))) (opO (RawOp.kind (x i)) (RawOp.old (x i))) then
                          IntKind.wrap IntKind.i64 (csq + (1 : Int))
                        else (0 : Int))
                        (0 : Int))
                  T.bad
                  (T.ret
                    (Ex.normal,
                      {
                        sl :=
                          [((37 : Nat),
                              SV.v
                                (AV.one
                                  (CV.f
                                    (FV.fs nl (8 : Nat) n fun i =>
                                      [FV.lit (Value.int IntKind.i64 (RawOp.kind (x i))), FV.lit (Value.int IntKind.i64 (RawOp.key (x i))), FV.lit (Value.int IntKind.i64 (RawOp.value (x i))), FV.lit (Value.int IntKind.i64 (RawOp.old (x i))),
                                        FV.lit (Value.int IntKind.i64 (RawOp.client (x i))), FV.lit (Value.int IntKind.i64 (RawOp.seq (x i))), FV.lit (Value.int IntKind.i64 (RawOp.bend (x i))), FV.lit (Value.string (RawOp.text (x i)))])))),
                            ((38 : Nat), SV.v (AI (↑n : Int))), ((39 : Nat), SV.v (AI (IntKind.wrap IntKind.i64 ((↑i : Int) + (1 : Int))))), ((7 : Nat), SV.v (AP (0 : Nat))), ((8 : Nat), SV.v (AP (1 : Nat))), ((0 : Nat), SV.v (AI a))],
                        H :=
                          [((0 : Nat),
                              Ob.cells
                                [I a,
                                  I
                                    (bif rightB ((1 : Int) + RawOp.kind (x i) % (4 : Int)) (keyS (RawOp.key (x i) % (16 : Int))) (opV (RawOp.kind (x i)) (RawOp.value (x i))) (opO (RawOp.kind (x i)) (RawOp.old (x i))) then
                                      IntKind.wrap IntKind.i64 (csq + (1 : Int))
                                    else csq),
                                  I
                                    (bif rightB ((1 : Int) + RawOp.kind (x i) % (4 : Int)) (keyS (RawOp.key (x i) % (16 : Int))) (opV (RawOp.kind (x i)) (RawOp.value (x i))) (opO (RawOp.kind (x i)) (RawOp.old (x i))) then
                                      (1 : Int) + RawOp.kind (x i) % (4 : Int)
                                    else ckd),
                                  Sg
                                    (bif rightB ((1 : Int) + RawOp.kind (x i) % (4 : Int)) (keyS (RawOp.key (x i) % (16 : Int))) (opV (RawOp.kind (x i)) (RawOp.value (x i))) (opO (RawOp.kind (x i)) (RawOp.old (x i))) then
                                      keyS (RawOp.key (x i) % (16 : Int))
                                    else cky),
                                  Sg
                                    (bif rightB ((1 : Int) + RawOp.kind (x i) % (4 : Int)) (keyS (RawOp.key (x i) % (16 : Int))) (opV (RawOp.kind (x i)) (RawOp.value (x i))) (opO (RawOp.kind (x i)) (RawOp.old (x i))) then
                                      opV (RawOp.kind (x i)) (RawOp.value (x i))
                                    else cvl),
                                  Sg
                                    (bif rightB ((1 : Int) + RawOp.kind (x i) % (4 : Int)) (keyS (RawOp.key (x i) % (16 : Int))) (opV (RawOp.kind (x i)) (RawOp.value (x i))) (opO (RawOp.kind (x i)) (RawOp.old (x i))) then
                                      opO (RawOp.kind (x i)) (RawOp.old (x i))
                                    else cod),
                                  Bo
                                    (rightB ((1 : Int) + RawOp.kind (x i) % (4 : Int)) (keyS (RawOp.key (x i) % (16 : Int))) (opV (RawOp.kind (x i)) (RawOp.value (x i))) (opO (RawOp.kind (x i)) (RawOp.old (x i))) &&
                                      !hearB (rightB ((1 : Int) + RawOp.kind (x i) % (4 : Int)) (keyS (RawOp.key (x i) % (16 : Int))) (opV (RawOp.kind (x i)) (RawOp.value (x i))) (opO (RawOp.kind (x i)) (RawOp.old (x i)))) a
                                          (bif rightB ((1 : Int) + RawOp.kind (x i) % (4 : Int)) (keyS (RawOp.key (x i) % (16 : Int))) (opV (RawOp.kind (x i)) (RawOp.value (x i))) (opO (RawOp.kind (x i)) (RawOp.old (x i))) then
                                            IntKind.wrap IntKind.i64 (csq + (1 : Int))
                                          else csq)
                                          (9 : Int)
                                          (bif rightB ((1 : Int) + RawOp.kind (x i) % (4 : Int)) (keyS (RawOp.key (x i) % (16 : Int))) (opV (RawOp.kind (x i)) (RawOp.value (x i))) (opO (RawOp.kind (x i)) (RawOp.old (x i))) then a
                                          else (0 : Int))
                                          (bif rightB ((1 : Int) + RawOp.kind (x i) % (4 : Int)) (keyS (RawOp.key (x i) % (16 : Int))) (opV (RawOp.kind (x i)) (RawOp.value (x i))) (opO (RawOp.kind (x i)) (RawOp.old (x i))) then
                                            IntKind.wrap IntKind.i64 (csq + (1 : Int))
                                          else (0 : Int))
                                          (0 : Int))]),
                            ((1 : Nat), Ob.cells [I b, I (0 : Int), I (0 : Int), Sg { data := #[] }, Sg { data := #[] }, Sg { data := #[] }, Bo false])],
                        nx := (2 : Nat), esc := false, base := (0 : Nat), wr := [] })))))))
        T.bad)
      T.bad)
    (T.ret
      (Ex.exit (0 : Nat),
        { sl := [], H := [((1 : Nat), Ob.cells [I b, I (0 : Int), I (0 : Int), Sg { data := #[] }, Sg { data := #[] }, Sg { data := #[] }, Bo false]), ((0 : Nat), Ob.cells [I a, I csq, I ckd, Sg cky, Sg cvl, Sg cod, Bo false])],
          nx := (2 : Nat), esc := false, base := (0 : Nat), wr := [] })) := by kernel_rfl
theorem StLe.heap {m : Nat} {s : St} {H' : Heap} (hm : m ≤ s.nx) (h : ∀ b, H'.get b = s.H.get b) : StLe m s { s with H := H' } :=
  ⟨id, fun f z w a ht hr => ⟨f, z, ht, hm, fun b hb => rfl, fun _ _ _ h => h, fun _ _ _ h => .inl h, fun _ _ hs => absurd trivial hs, fun b _ hl => by simp only [h] at hl; exact hl, ⟨fun b _ hl => by simp only [h] at hl ⊢; exact hr.own b trivial hl, fun b c _ _ hl hl' => by simp only [h] at hl hl'; exact hr.inj b c trivial trivial hl hl', hr.zok⟩, fun b hb hl => .inr ⟨b, trivial, by simp only [h] at hl; exact hl, rfl⟩, Fr.refl _ _, fun _ m' hm' hN b l hb hg => hN b l hb (by rw [← h]; exact hg)⟩⟩
theorem rightOp (k y v o : Int) : rightB (1 + k % 4) (keyS (y % 16)) (opV k v) (opO k o) = true := by
  have h1 := keyS_size y
  have h2 := valS_size v
  have h3 := valS_size o
  unfold rightB opV opO
  refine decide_eq_true ⟨by omega, by omega, h1.1, h1.2, ?_, ?_, ?_, ?_⟩
  · split
    · exact h2
    · decide
  · split
    · exact h3
    · decide
  · by_cases h : 1 + k % 4 = 2 ∨ 1 + k % 4 = 4
    · omega
    · rw [if_neg h]; exact .inr (.inr rfl)
  · by_cases h : 1 + k % 4 = 4
    · exact .inl h
    · rw [if_neg h]; exact .inr rfl
theorem bytes_self (a : ByteArray) : (a == a) = true := (MapKept.bytes_beq a a).2 rfl
theorem hearOk (a s : Int) : hearB true a s 9 a s 0 = true := by simp [hearB]
theorem round_apart (n : Nat) (x : Nat → RawOp) (a b : Int) (i : Nat) (csq ckd : Int) (cky cvl cod : ByteArray) (hi : i < n) (hn : (n : Int) ≤ 9223372036854775807) :
    ∃ csq' ckd' cky' cvl' cod' s, (tgt_apart false n x a b i csq ckd cky cvl cod).res = some (.normal, s) ∧ StLe 2 s (SA false n x a b (i + 1) csq' ckd' cky' cvl' cod') := by
  refine ⟨IntKind.wrap .i64 (csq + 1), 1 + (x i).kind % 4, keyS ((x i).key % 16), opV (x i).kind (x i).value, opO (x i).kind (x i).old,
    { SA false n x a b (i + 1) (IntKind.wrap .i64 (csq + 1)) (1 + (x i).kind % 4) (keyS ((x i).key % 16)) (opV (x i).kind (x i).value) (opO (x i).kind (x i).old) with
      H := [(0, .cells [I a, I (IntKind.wrap .i64 (csq + 1)), I (1 + (x i).kind % 4), Sg (keyS ((x i).key % 16)), Sg (opV (x i).kind (x i).value), Sg (opO (x i).kind (x i).old), Bo false]), (1, .cells [I b, I 0, I 0, Sg ⟨#[]⟩, Sg ⟨#[]⟩, Sg ⟨#[]⟩, Bo false])] },
    T.over_eq _ (tree_apart false n x a b i csq ckd cky cvl cod) ?_, StLe.heap (s := { SA false n x a b (i + 1) _ _ _ _ _ with H := _ }) (Nat.le_refl 2) fun b => by rcases b with _ | _ | b <;> rfl⟩
  simp only [rightOp, cond_true, hearOk, bytes_self, Bool.true_and, T.res_br, T.res_ret, T.res_bad, bne_self_eq_false, Bool.not_true, Bool.not_false, Bool.and_true, Bool.and_false, beq_self_eq_true, Bool.false_eq_true, if_false, if_true, decide_eq_true_eq]
  rw [if_pos (by omega), if_pos (by omega), wrapI (by omega)]
  rfl
theorem end_apart (nl : Bool) (n : Nat) (x : Nat → RawOp) (a b : Int) (csq ckd : Int) (cky cvl cod : ByteArray) :
    ∃ s, (tgt_apart nl n x a b n csq ckd cky cvl cod).res = some (.exit 0, s) ∧ StLe 2 s ⟨[], [], 2, false, 0, []⟩ := by
  refine ⟨⟨[], [(1, .cells [I b, I 0, I 0, Sg ⟨#[]⟩, Sg ⟨#[]⟩, Sg ⟨#[]⟩, Bo false]), (0, .cells [I a, I csq, I ckd, Sg cky, Sg cvl, Sg cod, Bo false])], 2, false, 0, []⟩, T.over_eq _ (tree_apart nl n x a b n csq ckd cky cvl cod) ?_, ?_⟩
  · simp only [T.res_br, T.res_ret, T.res_bad, decide_eq_true_eq, Int.lt_irrefl, if_false]
  · exact StLe.sift (s := ⟨[], [(1, .cells [I b, I 0, I 0, Sg ⟨#[]⟩, Sg ⟨#[]⟩, Sg ⟨#[]⟩, Bo false]), (0, .cells [I a, I csq, I ckd, Sg cky, Sg cvl, Sg cod, Bo false])], 2, false, 0, []⟩) (Nat.le_refl 2) fun _ => false
theorem loop_apart (nl : Bool) (n : Nat) (x : Nat → RawOp) (a b : Int) (csq ckd : Int) (cky cvl cod : ByteArray) (hn : (n : Int) ≤ 9223372036854775807) (hnl : nl = true → n = 0) {st0 : St} (h0 : StLe 2 st0 (SA nl n x a b 0 csq ckd cky cvl cod)) (hnx : st0.nx = 2) :
    CodeOk Try.prog Try.f4.ntmps (.loop (loopOf Try.f4 8)) st0 (.exit 0) ⟨[], [], 2, false, 0, []⟩ := by
  refine loop_to (GS_ok.with _ _) GKPC2 (K := 300) (F := 4) (live := [37, 38, 39, 7, 8, 0]) (after := [6]) (α := Nat × Int × Int × ByteArray × ByteArray × ByteArray) (fun p => SA nl n x a b p.1 p.2.1 p.2.2.1 p.2.2.2.1 p.2.2.2.2.1 p.2.2.2.2.2) (fun p => n - p.1) (fun p => p.1 ≤ n) (.exit 0) _ ?_ (fun p => Nat.le_refl 2) (p := (0, csq, ckd, cky, cvl, cod)) (Nat.zero_le _) h0 hnx
  rintro ⟨i, csq, ckd, cky, cvl, cod⟩ hi
  simp only at hi
  rcases Nat.lt_or_ge i n with h | h
  · obtain rfl : nl = false := by cases nl <;> simp_all
    obtain ⟨q1, q2, q3, q4, q5, s, h1, h2⟩ := round_apart n x a b i csq ckd cky cvl cod h hn
    exact ⟨_, s, h1, .inl ⟨rfl, (i + 1, q1, q2, q3, q4, q5), h2, h, by simp only; omega⟩⟩
  · obtain rfl : i = n := by omega
    obtain ⟨s, h1, h2⟩ := end_apart nl i x a b csq ckd cky cvl cod
    exact ⟨_, s, h1, .inr ⟨by simp, _, h2, rfl, rfl⟩⟩
def PreApart (nl : Bool) (n : Nat) (e : Nat → List FV) (n' i a a' : Int) (wt : Bool) (b1 b2 : Int) (b3 b4 b5 : ByteArray) (b6 : Bool) : Prop :=
  ∃ x : Nat → RawOp, e = (fun i => (x i).fs) ∧ n' = n ∧ i = 0 ∧ a' = a ∧ wt = false ∧ b1 = 0 ∧ b2 = 0 ∧ b3 = ⟨#[]⟩ ∧ b4 = ⟨#[]⟩ ∧ b5 = ⟨#[]⟩ ∧ b6 = false ∧ (n : Int) ≤ 9223372036854775807 ∧ (nl = true → n = 0)
noncomputable def L_apart : LoopF := mkLoop [37, 38, 39, 7, 8, 0] (loopOf Try.f4 8) Try.f4.ntmps fun sl H nx esc => match sl, H, nx, esc with
  | [(37, .v (.one (.f (.fs nl 8 n e)))), (38, .v (.one (.f (.lit (.int .i64 n'))))), (39, .v (.one (.f (.lit (.int .i64 i))))), (7, .v (.one (.ptr 0 0 0 0))), (8, .v (.one (.ptr 1 0 0 0))), (0, .v (.one (.f (.lit (.int .i64 a)))))],
    [(1, .cells [.f (.lit (.int .i64 b)), .f (.lit (.int .i64 b1)), .f (.lit (.int .i64 b2)), .f (.lit (.string b3)), .f (.lit (.string b4)), .f (.lit (.string b5)), .f (.lit (.bool b6))]),
     (0, .cells [.f (.lit (.int .i64 a')), .f (.lit (.int .i64 csq)), .f (.lit (.int .i64 ckd)), .f (.lit (.string cky)), .f (.lit (.string cvl)), .f (.lit (.string cod)), .f (.lit (.bool wt))])], 2, false =>
    .need (pb (PreApart nl n e n' i a a' wt b1 b2 b3 b4 b5 b6))
      (.ret (.exit 0, [], [], 2, false))
  | _, _, _, _ => .bad
theorem L_apart_ok : LoopOk Try.prog L_apart := by
  refine mkLoop_ok fun sl H nx esc e sl' H' nx' esc' h => ?_
  split at h
  · obtain ⟨hp, h2⟩ := T.need_some h
    obtain ⟨x, rfl, rfl, rfl, rfl, rfl, rfl, rfl, rfl, rfl, rfl, rfl, h3, h4⟩ := pb_of hp
    have := T.ret_some h2
    simp only [Prod.mk.injEq] at this
    obtain ⟨rfl, rfl, rfl, rfl, rfl⟩ := this
    exact loop_apart _ _ x _ _ _ _ _ _ _ h3 h4 (StLe.refl (Nat.le_refl 2)) rfl
  · exact (T.bad_some h).elim
noncomputable def ll_apart : List (Nat × Nat × LoopF) := (4, 8, L_apart) :: ll0
theorem ll_apart_ok : ∀ x ∈ ll_apart, LoopOk Try.prog x.2.2 := List.forall_mem_cons.2 ⟨L_apart_ok, ll0_ok⟩

noncomputable def GPC3 : Ctx := GS.with ss_known23 ll_apart
noncomputable def tgt_Apart (a b : Int) (nl : Bool) (n : Nat) (x : Nat → RawOp) : T CallOut := evCallW [] GPC3 300 4 [AI a, AI b, .one (.f (.fs nl 8 n fun i => (x i).fs))] [] 0
theorem GKPC3 : KnownOk Try.prog GPC3 := KnownOk.lists ss_known23_ok ll_apart_ok
theorem tree_Apart (a b : Int) (nl : Bool) (n : Nat) (x : Nat → RawOp) : (tgt_Apart a b nl n x).over (.br (.br (.ff (.ff (.ff (.ff (.ff (.ff (.ff (.br (.br .leaf .skip) .skip)))))))) .skip) .skip) =
  T.br (pb ((0 : Int) < (4 : Int) ∧ (4 : Int) ≤ (4611686018427387904 : Int)))
    (T.br (pb ((0 : Int) < (4 : Int) ∧ (4 : Int) ≤ (4611686018427387904 : Int)))
      (T.br (pb (loopOf Proofs.Try.f4 (8 : Nat) = loopOf Proofs.Try.f4 (8 : Nat) ∧ (104 : Nat) = (104 : Nat)))
        (T.br (pb (PreApart nl n (fun i => RawOp.fs (x i)) (↑n : Int) (0 : Int) (a % (4 : Int)) (clampI (a % (4 : Int))) false (0 : Int) (0 : Int) { data := #[] } { data := #[] } { data := #[] } false)) (T.ret (out0 (SV.v (AB true)))) T.bad)
        T.bad)
      T.bad)
    T.bad := by kernel_rfl
theorem res_Apart (a b : Int) (nl : Bool) (n : Nat) (x : Nat → RawOp) (h : (n : Int) ≤ 9223372036854775807 ∧ (nl = true → n = 0)) : (tgt_Apart a b nl n x).res = some (out0 (.v (AB true))) := by
  refine T.over_eq _ (tree_Apart a b nl n x) ?_
  simp only [T.res_br, T.res_ret, T.res_bad]
  have h1 : (0 : Int) < 4 ∧ (4 : Int) ≤ 4611686018427387904 := by omega
  have e1 : clampI (a % 4) = a % 4 := by unfold clampI; omega
  rw [if_pos (pb_true h1), if_pos (pb_true h1), if_pos (pb_true (by simp)), if_pos (pb_true ?_)]
  · exact ⟨x, rfl, rfl, rfl, e1, rfl, rfl, rfl, rfl, rfl, rfl, rfl, h.1, h.2⟩
end Go.Proofs.Ytabmkefbceepmaa.En
