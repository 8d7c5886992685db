/- PointsRise: the loop. -/
import Derived.Test.YtabmkefbceepmaaPL
namespace Go.Proofs.Ytabmkefbceepmaa.En
open Go
set_option linter.unusedVariables false
set_option linter.unusedSimpArgs false
set_option maxRecDepth 20000
def one17 : Nat → Int := fun _ => 1
def zero17 : Nat → Int := fun _ => 0
theorem runR_pos (x : Nat → Raw17) : ∀ n j, 1 ≤ runR x n one17 j
  | 0, j => Int.le_refl 1
  | n + 1, j => stR_pos _ _ (runR_pos x n) j
def SRr (x : Nat → Raw17) (n k i : Nat) : (Nat → Int) := runR (fun j => x ((j + k) % n)) i one17
def SRi (nl : Bool) (n : Nat) (x : Nat → Raw17) (k i : Nat) : St := SR17 nl n x k i (runR x i one17) (hofF (runR x i one17)) (SRr x n k i) (hofF (SRr x n k i)) (runR x i zero17 0) (runR x i zero17 1) (runR x i zero17 2)
def SRe (e q b : Nat → Int) : St := ⟨[(6, .v (AP 1)), (7, .v (AP 2)), (9, .v (AP 3))],
    [(3, .cells [I (b 0), I (b 1), I (b 2)]), (2, .cells [I 4, .f (.fs false 2 3 (ptE q (hofF q)))]), (1, .cells [I 4, .f (.fs false 2 3 (ptE e (hofF e)))]), (0, .cells [I 4, I 3])], 4, false, 0, []⟩
theorem end_R (nl : Bool) (n : Nat) (x : Nat → Raw17) (k : Nat) :
    ∃ s, (tgt_rise17 nl n x k n (runR x n one17) (hofF (runR x n one17)) (SRr x n k n) (hofF (SRr x n k n)) (runR x n zero17 0) (runR x n zero17 1) (runR x n zero17 2)).res = some (.exit 0, s) ∧ StLe 4 s (SRe (runR x n one17) (SRr x n k n) (runR x n zero17)) := by
  refine T.over_exP (g := fun s => (Ex.exit 0, s)) (tree_rise17 nl n x k n _ _ _ _ _ _ _) ?_
  simp only [T.res_br, T.res_ret, T.res_bad, decide_eq_true_eq, Int.lt_irrefl, reduceIte]
  exact ⟨_, rfl, StLe.same (Nat.le_refl 4) rfl rfl rfl fun b => by rcases b with _ | _ | _ | _ | b <;> rfl⟩
theorem loop_R (nl : Bool) (n : Nat) (x : Nat → Raw17) (k : Nat) (hk : k ≤ n) (hn : (n : Int) ≤ 4611686018427387903) (hnl : nl = true → n = 0) {st0 : St} (h0 : StLe 4 st0 (SRi nl n x k 0)) (hnx : st0.nx = 4) :
    CodeOk Try.prog Try.f10.ntmps (.loop (loopOf Try.f10 7)) st0 (.exit 0) (SRe (runR x n one17) (SRr x n k n) (runR x n zero17)) := by
  refine loop_toZ (GS_ok.with _ _) GKPK1 (K := 300) (F := 10) (live := [35, 36, 37, 6, 7, 8, 9, 0]) (after := [6, 7, 9]) (α := Nat) (fun p => SRi nl n x k p) (fun p => n - p) (fun p => p ≤ n) (.exit 0) _ ?_ (fun p => Nat.le_refl 4) (p := 0) (Nat.zero_le _) h0 hnx
  intro i hi
  rcases Nat.lt_or_ge i n with h | h
  · obtain rfl : nl = false := by cases nl <;> simp_all
    obtain ⟨s, h1, h2⟩ := round_R n x k i (runR x i one17) (SRr x n k i) (runR x i zero17) h hn hk (runR_pos x i) (runR_pos _ i)
    exact ⟨_, s, h1, .inl ⟨rfl, i + 1, h2, h, by show n - (i + 1) < n - i; omega⟩⟩
  · obtain rfl : i = n := by omega
    obtain ⟨s, h1, h2⟩ := end_R nl i x k
    exact ⟨_, s, h1, .inr ⟨by simp, _, h2, rfl, rfl⟩⟩
theorem hof_one : (fun i : Nat => Int.tmod (i : Int) 4) = hofF one17 := by
  funext j; simp [hofF, hof, one17]
def PreR (nl : Bool) (n : Nat) (e : Nat → List FV) (e' : Nat → List FV) (nl' : Bool) (n' : Nat) (ln i k h1 h2 h3 h4 : Int) (b1 b2 : Bool) (n1 n2 : Nat) (e1 e2 : Nat → List FV) (y0 y1 y2 : Int) : Prop :=
  (∃ x : Nat → Raw17, e = (fun i => (x i).fs)) ∧ e' = e ∧ nl' = nl ∧ n' = n ∧ ln = n ∧ i = 0 ∧ (∃ k' : Nat, k = k' ∧ k' ≤ n) ∧ h1 = 4 ∧ h2 = 4 ∧ h3 = 4 ∧ h4 = 3 ∧ b1 = false ∧ b2 = false ∧ n1 = 3 ∧ n2 = 3 ∧
    e1 = ptE one17 (fun i => Int.tmod i 4) ∧ e2 = ptE one17 (fun i => Int.tmod i 4) ∧ y0 = 0 ∧ y1 = 0 ∧ y2 = 0 ∧ (n : Int) ≤ 4611686018427387903 ∧ (nl = true → n = 0)
noncomputable def L_R17 : LoopF := mkLoop [35, 36, 37, 6, 7, 8, 9, 0] (loopOf Try.f10 7) Try.f10.ntmps fun sl H nx esc => match sl, H, nx, esc with
  | [(35, .v (.one (.f (.fs nl 3 n e)))), (36, .v (.one (.f (.lit (.int .i64 ln))))), (37, .v (.one (.f (.lit (.int .i64 i))))), (6, .v (.one (.ptr 1 0 0 0))), (7, .v (.one (.ptr 2 0 0 0))), (8, .v (.one (.f (.lit (.int .i64 k))))), (9, .v (.one (.ptr 3 0 0 0))), (0, .v (.one (.f (.fs nl' 3 n' e'))))],
    [(3, .cells [.f (.lit (.int .i64 y0)), .f (.lit (.int .i64 y1)), .f (.lit (.int .i64 y2))]), (2, .cells [.f (.lit (.int .i64 h1)), .f (.fs b1 2 n1 e1)]), (1, .cells [.f (.lit (.int .i64 h2)), .f (.fs b2 2 n2 e2)]), (0, .cells [.f (.lit (.int .i64 h3)), .f (.lit (.int .i64 h4))])], 4, false =>
    .need (pb (PreR nl n e e' nl' n' ln i k h1 h2 h3 h4 b1 b2 n1 n2 e1 e2 y0 y1 y2))
      (.ret (.exit 0, (SRe (runR (xOf e) n one17) (SRr (xOf e) n k.toNat n) (runR (xOf e) n zero17)).sl, (SRe (runR (xOf e) n one17) (SRr (xOf e) n k.toNat n) (runR (xOf e) n zero17)).H, 4, false))
  | _, _, _, _ => .bad
theorem L_R17_ok : LoopOk Try.prog L_R17 := by
  refine mkLoop_ok fun sl H nx esc e sl' H' nx' esc' h => ?_
  split at h
  · obtain ⟨hp, h2⟩ := T.need_some h
    obtain ⟨⟨x, rfl⟩, rfl, rfl, rfl, rfl, rfl, ⟨k, rfl, hk⟩, rfl, rfl, rfl, rfl, rfl, rfl, rfl, rfl, rfl, rfl, rfl, rfl, rfl, h3, h4⟩ := pb_of hp
    have := T.ret_some h2
    simp only [Prod.mk.injEq] at this
    obtain ⟨rfl, rfl, rfl, rfl, rfl⟩ := this
    rw [hof_one]
    exact loop_R _ _ x k hk h3 h4 (StLe.refl (Nat.le_refl 4)) rfl
  · exact (T.bad_some h).elim
noncomputable def ll_R17 : List (Nat × Nat × LoopF) := (10, 7, L_R17) :: ll_T17
theorem ll_R17_ok : ∀ x ∈ ll_R17, LoopOk Try.prog x.2.2 := List.forall_mem_cons.2 ⟨L_R17_ok, ll_T17_ok⟩

noncomputable def GPM1 : Ctx := GS.with ss_Known17 ll_R17
noncomputable def tgt_PRise (nl : Bool) (n : Nat) (x : Nat → Raw17) (k : Int) : T CallOut := evCallW [] GPM1 300 10 [.one (.f (.fs nl 3 n fun i => (x i).fs)), AI k] [] 0
theorem GKPM1 : KnownOk Try.prog GPM1 := KnownOk.lists ss_Known17_ok ll_R17_ok
theorem tree_PRise (nl : Bool) (n : Nat) (x : Nat → Raw17) (k : Int) : (tgt_PRise nl n x k).over (.br (.br (.br (.tt (.br (.br (.br (.br (.br (.br (.br (.br (.br (.br (.tt .leaf) .skip) .skip) .skip) .skip) .skip) .skip) .skip) (.br .skip (.br .skip (.br .skip (.tt (.tt (.br .skip (.br .skip (.br .skip (.br .skip (.br .leaf (.tt (.br (.br (.br (.br (.br (.br (.br (.br (.br (.br (.tt .leaf) .skip) .skip) .skip) .skip) .skip) .skip) .skip) (.br .skip (.br .skip (.br .skip (.tt (.ff (.tt (.br .skip (.br .skip (.br .skip (.br .skip (.br .leaf (.tt (.br (.br (.br (.br (.br (.br (.br (.br (.br (.br (.tt .leaf) .skip) .skip) .skip) .skip) .skip) .skip) .skip) (.br .skip (.br .skip (.br .skip (.tt (.ff (.ff (.tt (.br .skip (.br .skip (.br .skip (.br .skip (.br .leaf (.ff .leaf)))))))))))))) .skip) .skip)))))))))))))) .skip) .skip))))))))))))) .skip) .skip)) .skip) .skip) .skip) =
  T.br (pb ((0 : Int) < IntKind.wrap IntKind.i64 ((↑n : Int) + (1 : Int)) ∧ IntKind.wrap IntKind.i64 ((↑n : Int) + (1 : Int)) ≤ (4611686018427387904 : Int)))
    (T.br (pb (loopOf Proofs.Try.f10 (7 : Nat) = loopOf Proofs.Try.f10 (7 : Nat) ∧ (142 : Nat) = (142 : Nat)))
      (T.br
        (pb
          (PreR nl n (fun i => Raw17.fs (x i)) (fun i => Raw17.fs (x i)) nl n (↑n : Int) (0 : Int) (k % IntKind.wrap IntKind.i64 ((↑n : Int) + (1 : Int))) (4 : Int) (4 : Int) (4 : Int) (3 : Int) (!rtB (4 : Int) (3 : Int))
            (!rtB (4 : Int) (3 : Int)) (3 : Nat) (3 : Nat) (ptE (fun x => (1 : Int)) fun i => Int.tmod (↑i : Int) (4 : Int)) (ptE (fun x => (1 : Int)) fun i => Int.tmod (↑i : Int) (4 : Int)) (0 : Int) (0 : Int) (0 : Int)))
        (T.br (pb (PtN (ptE (runR (xOf fun i => Raw17.fs (x i)) n one17) (hofF (runR (xOf fun i => Raw17.fs (x i)) n one17))) false (3 : Nat)))
          (T.br
            (pb
              (PtN
                (ptE (SRr (xOf fun i => Raw17.fs (x i)) n (Int.toNat (k % IntKind.wrap IntKind.i64 ((↑n : Int) + (1 : Int)))) n)
                  (hofF (SRr (xOf fun i => Raw17.fs (x i)) n (Int.toNat (k % IntKind.wrap IntKind.i64 ((↑n : Int) + (1 : Int)))) n)))
                false (3 : Nat)))
            (T.br
              (!(((bif inB (3 : Nat) (0 : Int) then epOf (ptE (runR (xOf fun i => Raw17.fs (x i)) n one17) (hofF (runR (xOf fun i => Raw17.fs (x i)) n one17))) (0 : Nat) else (0 : Int)) ==
                    bif inB (3 : Nat) (0 : Int) then
                      epOf
                        (ptE (SRr (xOf fun i => Raw17.fs (x i)) n (Int.toNat (k % IntKind.wrap IntKind.i64 ((↑n : Int) + (1 : Int)))) n)
                          (hofF (SRr (xOf fun i => Raw17.fs (x i)) n (Int.toNat (k % IntKind.wrap IntKind.i64 ((↑n : Int) + (1 : Int)))) n)))
                        (0 : Nat)
                    else (0 : Int)) &&
                  (((bif inB (3 : Nat) (0 : Int) then hoOf (ptE (runR (xOf fun i => Raw17.fs (x i)) n one17) (hofF (runR (xOf fun i => Raw17.fs (x i)) n one17))) (0 : Nat) else (0 : Int)) ==
                      bif inB (3 : Nat) (0 : Int) then
                        hoOf
                          (ptE (SRr (xOf fun i => Raw17.fs (x i)) n (Int.toNat (k % IntKind.wrap IntKind.i64 ((↑n : Int) + (1 : Int)))) n)
                            (hofF (SRr (xOf fun i => Raw17.fs (x i)) n (Int.toNat (k % IntKind.wrap IntKind.i64 ((↑n : Int) + (1 : Int)))) n)))
                          (0 : Nat)
                      else (0 : Int)) &&
                    true)))
              (T.br
                (!(((bif inB (3 : Nat) (0 : Int) then epOf (ptE (runR (xOf fun i => Raw17.fs (x i)) n one17) (hofF (runR (xOf fun i => Raw17.fs (x i)) n one17))) (0 : Nat) else (0 : Int)) ==
                      bif inB (3 : Nat) (0 : Int) then
                        epOf
                          (ptE (SRr (xOf fun i => Raw17.fs (x i)) n (Int.toNat (k % IntKind.wrap IntKind.i64 ((↑n : Int) + (1 : Int)))) n)
                            (hofF (SRr (xOf fun i => Raw17.fs (x i)) n (Int.toNat (k % IntKind.wrap IntKind.i64 ((↑n : Int) + (1 : Int)))) n)))
                          (0 : Nat)
                      else (0 : Int)) &&
                    (((bif inB (3 : Nat) (0 : Int) then hoOf (ptE (runR (xOf fun i => Raw17.fs (x i)) n one17) (hofF (runR (xOf fun i => Raw17.fs (x i)) n one17))) (0 : Nat) else (0 : Int)) ==
                        bif inB (3 : Nat) (0 : Int) then
                          hoOf
                            (ptE (SRr (xOf fun i => Raw17.fs (x i)) n (Int.toNat (k % IntKind.wrap IntKind.i64 ((↑n : Int) + (1 : Int)))) n)
                              (hofF (SRr (xOf fun i => Raw17.fs (x i)) n (Int.toNat (k % IntKind.wrap IntKind.i64 ((↑n : Int) + (1 : Int)))) n)))
                            (0 : Nat)
                        else (0 : Int)) &&
                      true)))
                (T.br
                  (!(((bif inB (3 : Nat) (0 : Int) then epOf (ptE (runR (xOf fun i => Raw17.fs (x i)) n one17) (hofF (runR (xOf fun i => Raw17.fs (x i)) n one17))) (0 : Nat) else (0 : Int)) ==
                        bif inB (3 : Nat) (0 : Int) then
                          epOf
                            (ptE (SRr (xOf fun i => Raw17.fs (x i)) n (Int.toNat (k % IntKind.wrap IntKind.i64 ((↑n : Int) + (1 : Int)))) n)
                              (hofF (SRr (xOf fun i => Raw17.fs (x i)) n (Int.toNat (k % IntKind.wrap IntKind.i64 ((↑n : Int) + (1 : Int)))) n)))
                            (0 : Nat)
                        else (0 : Int)) &&
                      (((bif inB (3 : Nat) (0 : Int) then hoOf (ptE (runR (xOf fun i => Raw17.fs (x i)) n one17) (hofF (runR (xOf fun i => Raw17.fs (x i)) n one17))) (0 : Nat) else (0 : Int)) ==
                          bif inB (3 : Nat) (0 : Int) then
                            hoOf
                              (ptE (SRr (xOf fun i => Raw17.fs (x i)) n (Int.toNat (k % IntKind.wrap IntKind.i64 ((↑n : Int) + (1 : Int)))) n)
                                (hofF (SRr (xOf fun i => Raw17.fs (x i)) n (Int.toNat (k % IntKind.wrap IntKind.i64 ((↑n : Int) + (1 : Int)))) n)))
                              (0 : Nat)
                          else (0 : Int)) &&
                        true)))
                  (T.br
                    (!(((bif inB (3 : Nat) (0 : Int) then epOf (ptE (runR (xOf fun i => Raw17.fs (x i)) n one17) (hofF (runR (xOf fun i => Raw17.fs (x i)) n one17))) (0 : Nat) else (0 : Int)) ==
                          bif inB (3 : Nat) (0 : Int) then
                            epOf
                              (ptE (SRr (xOf fun i => Raw17.fs (x i)) n (Int.toNat (k % IntKind.wrap IntKind.i64 ((↑n : Int) + (1 : Int)))) n)
                                (hofF (SRr (xOf fun i => Raw17.fs (x i)) n (Int.toNat (k % IntKind.wrap IntKind.i64 ((↑n : Int) + (1 : Int)))) n)))
                              (0 : Nat)
                          else (0 : Int)) &&
                        (((bif inB (3 : Nat) (0 : Int) then hoOf (ptE (runR (xOf fun i => Raw17.fs (x i)) n one17) (hofF (runR (xOf fun i => Raw17.fs (x i)) n one17))) (0 : Nat) else (0 : Int)) ==
                            bif inB (3 : Nat) (0 : Int) then
                              hoOf
                                (ptE (SRr (xOf fun i => Raw17.fs (x i)) n (Int.toNat (k % IntKind.wrap IntKind.i64 ((↑n : Int) + (1 : Int)))) n)
                                  (hofF (SRr (xOf fun i => Raw17.fs (x i)) n (Int.toNat (k % IntKind.wrap IntKind.i64 ((↑n : Int) + (1 : Int)))) n)))
                                (0 : Nat)
                            else (0 : Int)) &&
                          true)))
                    (T.br
                      (!(((bif inB (3 : Nat) (0 : Int) then epOf (ptE (runR (xOf fun i => Raw17.fs (x i)) n one17) (hofF (runR (xOf fun i => Raw17.fs (x i)) n one17))) (0 : Nat) else (0 : Int)) ==
                            bif inB (3 : Nat) (0 : Int) then
                              epOf
                                (ptE (SRr (xOf fun i => Raw17.fs (x i)) n (Int.toNat (k % IntKind.wrap IntKind.i64 ((↑n : Int) + (1 : Int)))) n)
                                  (hofF (SRr (xOf fun i => Raw17.fs (x i)) n (Int.toNat (k % IntKind.wrap IntKind.i64 ((↑n : Int) + (1 : Int)))) n)))
                                (0 : Nat)
                            else (0 : Int)) &&
                          (((bif inB (3 : Nat) (0 : Int) then hoOf (ptE (runR (xOf fun i => Raw17.fs (x i)) n one17) (hofF (runR (xOf fun i => Raw17.fs (x i)) n one17))) (0 : Nat) else (0 : Int)) ==
                              bif inB (3 : Nat) (0 : Int) then
                                hoOf
                                  (ptE (SRr (xOf fun i => Raw17.fs (x i)) n (Int.toNat (k % IntKind.wrap IntKind.i64 ((↑n : Int) + (1 : Int)))) n)
                                    (hofF (SRr (xOf fun i => Raw17.fs (x i)) n (Int.toNat (k % IntKind.wrap IntKind.i64 ((↑n : Int) + (1 : Int)))) n)))
                                  (0 : Nat)
                              else (0 : Int)) &&
                            true)))
                      (T.br
                        (!(((bif inB (3 : Nat) (0 : Int) then epOf (ptE (runR (xOf fun i => Raw17.fs (x i)) n one17) (hofF (runR (xOf fun i => Raw17.fs (x i)) n one17))) (0 : Nat) else (0 : Int)) ==
                              bif inB (3 : Nat) (0 : Int) then
                                epOf
                                  (ptE (SRr (xOf fun i => Raw17.fs (x i)) n (Int.toNat (k % IntKind.wrap IntKind.i64 ((↑n : Int) + (1 : Int)))) n)
                                    (hofF (SRr (xOf fun i => Raw17.fs (x i)) n (Int.toNat (k % IntKind.wrap IntKind.i64 ((↑n : Int) + (1 : Int)))) n)))
                                  (0 : Nat)
                              else (0 : Int)) &&
                            (((bif inB (3 : Nat) (0 : Int) then hoOf (ptE (runR (xOf fun i => Raw17.fs (x i)) n one17) (hofF (runR (xOf fun i => Raw17.fs (x i)) n one17))) (0 : Nat) else (0 : Int)) ==
                                bif inB (3 : Nat) (0 : Int) then
                                  hoOf
                                    (ptE (SRr (xOf fun i => Raw17.fs (x i)) n (Int.toNat (k % IntKind.wrap IntKind.i64 ((↑n : Int) + (1 : Int)))) n)
                                      (hofF (SRr (xOf fun i => Raw17.fs (x i)) n (Int.toNat (k % IntKind.wrap IntKind.i64 ((↑n : Int) + (1 : Int)))) n)))
                                    (0 : Nat)
                                else (0 : Int)) &&
                              true)))
                        (T.br
                          (!(((bif inB (3 : Nat) (0 : Int) then epOf (ptE (runR (xOf fun i => Raw17.fs (x i)) n one17) (hofF (runR (xOf fun i => Raw17.fs (x i)) n one17))) (0 : Nat) else (0 : Int)) ==
                                bif inB (3 : Nat) (0 : Int) then
                                  epOf
                                    (ptE (SRr (xOf fun i => Raw17.fs (x i)) n (Int.toNat (k % IntKind.wrap IntKind.i64 ((↑n : Int) + (1 : Int)))) n)
                                      (hofF (SRr (xOf fun i => Raw17.fs (x i)) n (Int.toNat (k % IntKind.wrap IntKind.i64 ((↑n : Int) + (1 : Int)))) n)))
                                    (0 : Nat)
                                else (0 : Int)) &&
                              (((bif inB (3 : Nat) (0 : Int) then hoOf (ptE (runR (xOf fun i => Raw17.fs (x i)) n one17) (hofF (runR (xOf fun i => Raw17.fs (x i)) n one17))) (0 : Nat) else (0 : Int)) ==
                                  bif inB (3 : Nat) (0 : Int) then
                                    hoOf
                                      (ptE (SRr (xOf fun i => Raw17.fs (x i)) n (Int.toNat (k % IntKind.wrap IntKind.i64 ((↑n : Int) + (1 : Int)))) n)
                                        (hofF (SRr (xOf fun i => Raw17.fs (x i)) n (Int.toNat (k % IntKind.wrap IntKind.i64 ((↑n : Int) + (1 : Int)))) n)))
                                      (0 : Nat)
                                  else (0 : Int)) &&
                                true)))
                          (T.br
                            (!(((bif inB (3 : Nat) (0 : Int) then epOf (ptE (runR (xOf fun i => Raw17.fs (x i)) n one17) (hofF (runR (xOf fun i => Raw17.fs (x i)) n one17))) (0 : Nat) else (0 : Int)) ==
                                  bif inB (3 : Nat) (0 : Int) then
                                    epOf
                                      (ptE (SRr (xOf fun i => Raw17.fs (x i)) n (Int.toNat (k % IntKind.wrap IntKind.i64 ((↑n : Int) + (1 : Int)))) n)
                                        (hofF (SRr (xOf fun i => Raw17.fs (x i)) n (Int.toNat (k % IntKind.wrap IntKind.i64 ((↑n : Int) + (1 : Int)))) n)))
                                      (0 : Nat)
                                  else (0 : Int)) &&
                                (((bif inB (3 : Nat) (0 : Int) then hoOf (ptE (runR (xOf fun i => Raw17.fs (x i)) n one17) (hofF (runR (xOf fun i => Raw17.fs (x i)) n one17))) (0 : Nat) else (0 : Int)) ==
                                    bif inB (3 : Nat) (0 : Int) then
                                      hoOf
                                        (ptE (SRr (xOf fun i => Raw17.fs (x i)) n (Int.toNat (k % IntKind.wrap IntKind.i64 ((↑n : Int) + (1 : Int)))) n)
                                          (hofF (SRr (xOf fun i => Raw17.fs (x i)) n (Int.toNat (k % IntKind.wrap IntKind.i64 ((↑n : Int) + (1 : Int)))) n)))
                                        (0 : Nat)
                                    else (0 : Int)) &&
                                  true)))
                            (T.ret (out0 (SV.v (AB false)))) T.bad)
                          T.bad)
                        T.bad)
                      T.bad)
                    T.bad)
                  T.bad)
                T.bad)
              (T.br
                (!(((bif inB (3 : Nat) (0 : Int) then epOf (ptE (runR (xOf fun i => Raw17.fs (x i)) n one17) (hofF (runR (xOf fun i => Raw17.fs (x i)) n one17))) (0 : Nat) else (0 : Int)) ==
                      bif inB (3 : Nat) (0 : Int) then
                        epOf
                          (ptE (SRr (xOf fun i => Raw17.fs (x i)) n (Int.toNat (k % IntKind.wrap IntKind.i64 ((↑n : Int) + (1 : Int)))) n)
                            (hofF (SRr (xOf fun i => Raw17.fs (x i)) n (Int.toNat (k % IntKind.wrap IntKind.i64 ((↑n : Int) + (1 : Int)))) n)))
                          (0 : Nat)
                      else (0 : Int)) &&
                    (((bif inB (3 : Nat) (0 : Int) then hoOf (ptE (runR (xOf fun i => Raw17.fs (x i)) n one17) (hofF (runR (xOf fun i => Raw17.fs (x i)) n one17))) (0 : Nat) else (0 : Int)) ==
                        bif inB (3 : Nat) (0 : Int) then
                          hoOf
                            (ptE (SRr (xOf fun i => Raw17.fs (x i)) n (Int.toNat (k % IntKind.wrap IntKind.i64 ((↑n : Int) + (1 : Int)))) n)
                              (hofF (SRr (xOf fun i => Raw17.fs (x i)) n (Int.toNat (k % IntKind.wrap IntKind.i64 ((↑n : Int) + (1 : Int)))) n)))
                            (0 : Nat)
                        else (0 : Int)) &&
                      true)))
                T.bad
                (T.br
                  (!(((bif inB (3 : Nat) (0 : Int) then epOf (ptE (runR (xOf fun i => Raw17.fs (x i)) n one17) (hofF (runR (xOf fun i => Raw17.fs (x i)) n one17))) (0 : Nat) else (0 : Int)) ==
                        bif inB (3 : Nat) (0 : Int) then
                          epOf
                            (ptE (SRr (xOf fun i => Raw17.fs (x i)) n (Int.toNat (k % IntKind.wrap IntKind.i64 ((↑n : Int) + (1 : Int)))) n)
                              (hofF (SRr (xOf fun i => Raw17.fs (x i)) n (Int.toNat (k % IntKind.wrap IntKind.i64 ((↑n : Int) + (1 : Int)))) n)))
                            (0 : Nat)
                        else (0 : Int)) &&
                      (((bif inB (3 : Nat) (0 : Int) then hoOf (ptE (runR (xOf fun i => Raw17.fs (x i)) n one17) (hofF (runR (xOf fun i => Raw17.fs (x i)) n one17))) (0 : Nat) else (0 : Int)) ==
                          bif inB (3 : Nat) (0 : Int) then
                            hoOf
                              (ptE (SRr (xOf fun i => Raw17.fs (x i)) n (Int.toNat (k % IntKind.wrap IntKind.i64 ((↑n : Int) + (1 : Int)))) n)
                                (hofF (SRr (xOf fun i => Raw17.fs (x i)) n (Int.toNat (k % IntKind.wrap IntKind.i64 ((↑n : Int) + (1 : Int)))) n)))
                              (0 : Nat)
                          else (0 : Int)) &&
                        true)))
                  T.bad
                  (T.br
                    (!(((bif inB (3 : Nat) (0 : Int) then epOf (ptE (runR (xOf fun i => Raw17.fs (x i)) n one17) (hofF (runR (xOf fun i => Raw17.fs (x i)) n one17))) (0 : Nat) else (0 : Int)) ==
                          bif inB (3 : Nat) (0 : Int) then
                            epOf
                              (ptE (SRr (xOf fun i => Raw17.fs (x i)) n (Int.toNat (k % IntKind.wrap IntKind.i64 ((↑n : Int) + (1 : Int)))) n)
                                (hofF (SRr (xOf fun i => Raw17.fs (x i)) n (Int.toNat (k % IntKind.wrap IntKind.i64 ((↑n : Int) + (1 : Int)))) n)))
                              (0 : Nat)
                          else (0 : Int)) &&
                        (((bif inB (3 : Nat) (0 : Int) then hoOf (ptE (runR (xOf fun i => Raw17.fs (x i)) n one17) (hofF (runR (xOf fun i => Raw17.fs (x i)) n one17))) (0 : Nat) else (0 : Int)) ==
                            bif inB (3 : Nat) (0 : Int) then
                              hoOf
                                (ptE (SRr (xOf fun i => Raw17.fs (x i)) n (Int.toNat (k % IntKind.wrap IntKind.i64 ((↑n : Int) + (1 : Int)))) n)
                                  (hofF (SRr (xOf fun i => Raw17.fs (x i)) n (Int.toNat (k % IntKind.wrap IntKind.i64 ((↑n : Int) + (1 : Int)))) n)))
                                (0 : Nat)
                            else (0 : Int)) &&
                          true)))
                    T.bad
                    (T.br
                      (!(((bif inB (3 : Nat) (0 : Int) then epOf (ptE (runR (xOf fun i => Raw17.fs (x i)) n one17) (hofF (runR (xOf fun i => Raw17.fs (x i)) n one17))) (0 : Nat) else (0 : Int)) ==
                            bif inB (3 : Nat) (0 : Int) then
                              epOf
                                (ptE (SRr (xOf fun i => Raw17.fs (x i)) n (Int.toNat (k % IntKind.wrap IntKind.i64 ((↑n : Int) + (1 : Int)))) n)
                                  (hofF (SRr (xOf fun i => Raw17.fs (x i)) n (Int.toNat (k % IntKind.wrap IntKind.i64 ((↑n : Int) + (1 : Int)))) n)))
                                (0 : Nat)
                            else (0 : Int)) &&
                          (((bif inB (3 : Nat) (0 : Int) then hoOf (ptE (runR (xOf fun i => Raw17.fs (x i)) n one17) (hofF (runR (xOf fun i => Raw17.fs (x i)) n one17))) (0 : Nat) else (0 : Int)) ==
                              bif inB (3 : Nat) (0 : Int) then
                                hoOf
                                  (ptE (SRr (xOf fun i => Raw17.fs (x i)) n (Int.toNat (k % IntKind.wrap IntKind.i64 ((↑n : Int) + (1 : Int)))) n)
                                    (hofF (SRr (xOf fun i => Raw17.fs (x i)) n (Int.toNat (k % IntKind.wrap IntKind.i64 ((↑n : Int) + (1 : Int)))) n)))
                                  (0 : Nat)
                              else (0 : Int)) &&
                            true)))
                      T.bad
                      (T.br
                        (!(((bif inB (3 : Nat) (0 : Int) then epOf (ptE (runR (xOf fun i => Raw17.fs (x i)) n one17) (hofF (runR (xOf fun i => Raw17.fs (x i)) n one17))) (0 : Nat) else (0 : Int)) ==
                              bif inB (3 : Nat) (0 : Int) then
                                epOf
                                  (ptE (SRr (xOf fun i => Raw17.fs (x i)) n (Int.toNat (k % IntKind.wrap IntKind.i64 ((↑n : Int) + (1 : Int)))) n)
                                    (hofF (SRr (xOf fun i => Raw17.fs (x i)) n (Int.toNat (k % IntKind.wrap IntKind.i64 ((↑n : Int) + (1 : Int)))) n)))
                                  (0 : Nat)
                              else (0 : Int)) &&
                            (((bif inB (3 : Nat) (0 : Int) then hoOf (ptE (runR (xOf fun i => Raw17.fs (x i)) n one17) (hofF (runR (xOf fun i => Raw17.fs (x i)) n one17))) (0 : Nat) else (0 : Int)) ==
                                bif inB (3 : Nat) (0 : Int) then
                                  hoOf
                                    (ptE (SRr (xOf fun i => Raw17.fs (x i)) n (Int.toNat (k % IntKind.wrap IntKind.i64 ((↑n : Int) + (1 : Int)))) n)
                                      (hofF (SRr (xOf fun i => Raw17.fs (x i)) n (Int.toNat (k % IntKind.wrap IntKind.i64 ((↑n : Int) + (1 : Int)))) n)))
                                    (0 : Nat)
                                else (0 : Int)) &&
                              true)))
                        T.bad
                        (T.br
                          (!(((bif inB (3 : Nat) (0 : Int) then epOf (ptE (runR (xOf fun i => Raw17.fs (x i)) n one17) (hofF (runR (xOf fun i => Raw17.fs (x i)) n one17))) (0 : Nat) else (0 : Int)) ==
                                bif inB (3 : Nat) (0 : Int) then
                                  epOf
                                    (ptE (SRr (xOf fun i => Raw17.fs (x i)) n (Int.toNat (k % IntKind.wrap IntKind.i64 ((↑n : Int) + (1 : Int)))) n)
                                      (hofF (SRr (xOf fun i => Raw17.fs (x i)) n (Int.toNat (k % IntKind.wrap IntKind.i64 ((↑n : Int) + (1 : Int)))) n)))
                                    (0 : Nat)
                                else (0 : Int)) &&
                              (((bif inB (3 : Nat) (0 : Int) then hoOf (ptE (runR (xOf fun i => Raw17.fs (x i)) n one17) (hofF (runR (xOf fun i => Raw17.fs (x i)) n one17))) (0 : Nat) else (0 : Int)) ==
                                  bif inB (3 : Nat) (0 : Int) then
                                    hoOf
                                      (ptE (SRr (xOf fun i => Raw17.fs (x i)) n (Int.toNat (k % IntKind.wrap IntKind.i64 ((↑n : Int) + (1 : Int)))) n)
                                        (hofF (SRr (xOf fun i => Raw17.fs (x i)) n (Int.toNat (k % IntKind.wrap IntKind.i64 ((↑n : Int) + (1 : Int)))) n)))
                                      (0 : Nat)
                                  else (0 : Int)) &&
                                true)))
                          T.bad
                          (T.br
                            (!(((bif inB (3 : Nat) (0 : Int) then epOf (ptE (runR (xOf fun i => Raw17.fs (x i)) n one17) (hofF (runR (xOf fun i => Raw17.fs (x i)) n one17))) (0 : Nat) else (0 : Int)) ==
                                  bif inB (3 : Nat) (0 : Int) then
                                    epOf
                                      (ptE (SRr (xOf fun i => Raw17.fs (x i)) n (Int.toNat (k % IntKind.wrap IntKind.i64 ((↑n : Int) + (1 : Int)))) n)
                                        (hofF (SRr (xOf fun i => Raw17.fs (x i)) n (Int.toNat (k % IntKind.wrap IntKind.i64 ((↑n : Int) + (1 : Int)))) n)))
                                      (0 : Nat)
                                  else (0 : Int)) &&
                                (((bif inB (3 : Nat) (0 : Int) then hoOf (ptE (runR (xOf fun i => Raw17.fs (x i)) n one17) (hofF (runR (xOf fun i => Raw17.fs (x i)) n one17))) (0 : Nat) else (0 : Int)) ==
                                    bif inB (3 : Nat) (0 : Int) then
                                      hoOf
                                        (ptE (SRr (xOf fun i => Raw17.fs (x i)) n (Int.toNat (k % IntKind.wrap IntKind.i64 ((↑n : Int) + (1 : Int)))) n)
                                          (hofF (SRr (xOf fun i => Raw17.fs (x i)) n (Int.toNat (k % IntKind.wrap IntKind.i64 ((↑n : Int) + (1 : Int)))) n)))
                                        (0 : Nat)
                                    else (0 : Int)) &&
                                  true)))
                            T.bad
                            (T.br
                              ((bif inB (3 : Nat) (0 : Int) then epOf (ptE (runR (xOf fun i => Raw17.fs (x i)) n one17) (hofF (runR (xOf fun i => Raw17.fs (x i)) n one17))) (0 : Nat) else (0 : Int)) !=
                                if runR (xOf fun i => Raw17.fs (x i)) n zero17 (0 : Nat) > (1 : Int) then runR (xOf fun i => Raw17.fs (x i)) n zero17 (0 : Nat) else (1 : Int))
                              (T.ret (out0 (SV.v (AB false))))
                              (T.br (pb (PtN (ptE (runR (xOf fun i => Raw17.fs (x i)) n one17) (hofF (runR (xOf fun i => Raw17.fs (x i)) n one17))) false (3 : Nat)))
                                (T.br
                                  (pb
                                    (PtN
                                      (ptE (SRr (xOf fun i => Raw17.fs (x i)) n (Int.toNat (k % IntKind.wrap IntKind.i64 ((↑n : Int) + (1 : Int)))) n)
                                        (hofF (SRr (xOf fun i => Raw17.fs (x i)) n (Int.toNat (k % IntKind.wrap IntKind.i64 ((↑n : Int) + (1 : Int)))) n)))
                                      false (3 : Nat)))
                                  (T.br
                                    (!(((bif inB (3 : Nat) (1 : Int) then epOf (ptE (runR (xOf fun i => Raw17.fs (x i)) n one17) (hofF (runR (xOf fun i => Raw17.fs (x i)) n one17))) (1 : Nat) else (0 : Int)) ==
                                          bif inB (3 : Nat) (1 : Int) then
                                            epOf
                                              (ptE (SRr (xOf fun i => Raw17.fs (x i)) n (Int.toNat (k % IntKind.wrap IntKind.i64 ((↑n : Int) + (1 : Int)))) n)
                                                (hofF (SRr (xOf fun i => Raw17.fs (x i)) n (Int.toNat (k % IntKind.wrap IntKind.i64 ((↑n : Int) + (1 : Int)))) n)))
                                              (1 : Nat)
                                          else (0 : Int)) &&
                                        (((bif inB (3 : Nat) (1 : Int) then hoOf (ptE (runR (xOf fun i => Raw17.fs (x i)) n one17) (hofF (runR (xOf fun i => Raw17.fs (x i)) n one17))) (1 : Nat) else (0 : Int)) ==
                                            bif inB (3 : Nat) (1 : Int) then
                                              hoOf
                                                (ptE (SRr (xOf fun i => Raw17.fs (x i)) n (Int.toNat (k % IntKind.wrap IntKind.i64 ((↑n : Int) + (1 : Int)))) n)
                                                  (hofF (SRr (xOf fun i => Raw17.fs (x i)) n (Int.toNat (k % IntKind.wrap IntKind.i64 ((↑n : Int) + (1 : Int)))) n)))
                                                (1 : Nat)
                                            else (0 : Int)) &&
                                          true)))
                                    (T.br
                                      (!(((bif inB (3 : Nat) (1 : Int) then epOf (ptE (runR (xOf fun i => Raw17.fs (x i)) n one17) (hofF (runR (xOf fun i => Raw17.fs (x i)) n one17))) (1 : Nat) else (0 : Int)) ==
                                            bif inB (3 : Nat) (1 : Int) then
                                              epOf
                                                (ptE (SRr (xOf fun i => Raw17.fs (x i)) n (Int.toNat (k % IntKind.wrap IntKind.i64 ((↑n : Int) + (1 : Int)))) n)
                                                  (hofF (SRr (xOf fun i => Raw17.fs (x i)) n (Int.toNat (k % IntKind.wrap IntKind.i64 ((↑n : Int) + (1 : Int)))) n)))
                                                (1 : Nat)
                                            else (0 : Int)) &&
                                          (((bif inB (3 : Nat) (1 : Int) then hoOf (ptE (runR (xOf fun i => Raw17.fs (x i)) n one17) (hofF (runR (xOf fun i => Raw17.fs (x i)) n one17))) (1 : Nat) else (0 : Int)) ==
                                              bif inB (3 : Nat) (1 : Int) then
                                                hoOf
                                                  (ptE (SRr (xOf fun i => Raw17.fs (x i)) n (Int.toNat (k % IntKind.wrap IntKind.i64 ((↑n : Int) + (1 : Int)))) n)
                                                    (hofF (SRr (xOf fun i => Raw17.fs (x i)) n (Int.toNat (k % IntKind.wrap IntKind.i64 ((↑n : Int) + (1 : Int)))) n)))
                                                  (1 : Nat)
                                              else (0 : Int)) &&
                                            true)))
                                      (T.br
                                        (!(((bif inB (3 : Nat) (1 : Int) then epOf (ptE (runR (xOf fun i => Raw17.fs (x i)) n one17) (hofF (runR (xOf fun i => Raw17.fs (x i)) n one17))) (1 : Nat) else (0 : Int)) ==
                                              bif inB (3 : Nat) (1 : Int) then
                                                epOf
                                                  (ptE (SRr (xOf fun i => Raw17.fs (x i)) n (Int.toNat (k % IntKind.wrap IntKind.i64 ((↑n : Int) + (1 : Int)))) n)
                                                    (hofF (SRr (xOf fun i => Raw17.fs (x i)) n (Int.toNat (k % IntKind.wrap IntKind.i64 ((↑n : Int) + (1 : Int)))) n)))
                                                  (1 : Nat)
                                              else (0 : Int)) &&
                                            (((bif inB (3 : Nat) (1 : Int) then hoOf (ptE (runR (xOf fun i => Raw17.fs (x i)) n one17) (hofF (runR (xOf fun i => Raw17.fs (x i)) n one17))) (1 : Nat) else (0 : Int)) ==
                                                bif inB (3 : Nat) (1 : Int) then
                                                  hoOf
                                                    (ptE (SRr (xOf fun i => Raw17.fs (x i)) n (Int.toNat (k % IntKind.wrap IntKind.i64 ((↑n : Int) + (1 : Int)))) n)
                                                      (hofF (SRr (xOf fun i => Raw17.fs (x i)) n (Int.toNat (k % IntKind.wrap IntKind.i64 ((↑n : Int) + (1 : Int)))) n)))
                                                    (1 : Nat)
                                                else (0 : Int)) &&
                                              true)))
                                        (T.br
                                          (!(((bif inB (3 : Nat) (1 : Int) then epOf (ptE (runR (xOf fun i => Raw17.fs (x i)) n one17) (hofF (runR (xOf fun i => Raw17.fs (x i)) n one17))) (1 : Nat) else (0 : Int)) ==
                                                bif inB (3 : Nat) (1 : Int) then
                                                  epOf
                                                    (ptE (SRr (xOf fun i => Raw17.fs (x i)) n (Int.toNat (k % IntKind.wrap IntKind.i64 ((↑n : Int) + (1 : Int)))) n)
                                                      (hofF (SRr (xOf fun i => Raw17.fs (x i)) n (Int.toNat (k % IntKind.wrap IntKind.i64 ((↑n : Int) + (1 : Int)))) n)))
                                                    (1 : Nat)
                                                else (0 : Int)) &&
                                              (((bif inB (3 : Nat) (1 : Int) then hoOf (ptE (runR (xOf fun i => Raw17.fs (x i)) n one17) (hofF (runR (xOf fun i => Raw17.fs (x i)) n one17))) (1 : Nat) else (0 : Int)) ==
                                                  bif inB (3 : Nat) (1 : Int) then
                                                    hoOf
                                                      (ptE (SRr (xOf fun i => Raw17.fs (x i)) n (Int.toNat (k % IntKind.wrap IntKind.i64 ((↑n : Int) + (1 : Int)))) n)
                                                        (hofF (SRr (xOf fun i => Raw17.fs (x i)) n (Int.toNat (k % IntKind.wrap IntKind.i64 ((↑n : Int) + (1 : Int)))) n)))
                                                      (1 : Nat)
                                                  else (0 : Int)) &&
                                                true)))
                                          (T.br
                                            (!(((bif inB (3 : Nat) (1 : Int) then epOf (ptE (runR (xOf fun i => Raw17.fs (x i)) n one17) (hofF (runR (xOf fun i => Raw17.fs (x i)) n one17))) (1 : Nat) else (0 : Int)) ==
                                                  bif inB (3 : Nat) (1 : Int) then
                                                    epOf
                                                      (ptE (SRr (xOf fun i => Raw17.fs (x i)) n (Int.toNat (k % IntKind.wrap IntKind.i64 ((↑n : Int) + (1 : Int)))) n)
                                                        (hofF (SRr (xOf fun i => Raw17.fs (x i)) n (Int.toNat (k % IntKind.wrap IntKind.i64 ((↑n : Int) + (1 : Int)))) n)))
                                                      (1 : Nat)
                                                  else (0 : Int)) &&
                                                (((bif inB (3 : Nat) (1 : Int) then hoOf (ptE (runR (xOf fun i => Raw17.fs (x i)) n one17) (hofF (runR (xOf fun i => Raw17.fs (x i)) n one17))) (1 : Nat) else (0 : Int)) ==
                                                    bif inB (3 : Nat) (1 : Int) then
                                                      hoOf
                                                        (ptE (SRr (xOf fun i => Raw17.fs (x i)) n (Int.toNat (k % IntKind.wrap IntKind.i64 ((↑n : Int) + (1 : Int)))) n)
                                                          (hofF (SRr (xOf fun i => Raw17.fs (x i)) n (Int.toNat (k % IntKind.wrap IntKind.i64 ((↑n : Int) + (1 : Int)))) n)))
                                                        (1 : Nat)
                                                    else (0 : Int)) &&
                                                  true)))
                                            (T.br
                                              (!(((bif inB (3 : Nat) (1 : Int) then epOf (ptE (runR (xOf fun i => Raw17.fs (x i)) n one17) (hofF (runR (xOf fun i => Raw17.fs (x i)) n one17))) (1 : Nat) else (0 : Int)) ==
                                                    bif inB (3 : Nat) (1 : Int) then
                                                      epOf
                                                        (ptE (SRr (xOf fun i => Raw17.fs (x i)) n (Int.toNat (k % IntKind.wrap IntKind.i64 ((↑n : Int) + (1 : Int)))) n)
                                                          (hofF (SRr (xOf fun i => Raw17.fs (x i)) n (Int.toNat (k % IntKind.wrap IntKind.i64 ((↑n : Int) + (1 : Int)))) n)))
                                                        (1 : Nat)
                                                    else (0 : Int)) &&
                                                  (((bif inB (3 : Nat) (1 : Int) then hoOf (ptE (runR (xOf fun i => Raw17.fs (x i)) n one17) (hofF (runR (xOf fun i => Raw17.fs (x i)) n one17))) (1 : Nat) else (0 : Int)) ==
                                                      bif inB (3 : Nat) (1 : Int) then
                                                        hoOf
                                                          (ptE (SRr (xOf fun i => Raw17.fs (x i)) n (Int.toNat (k % IntKind.wrap IntKind.i64 ((↑n : Int) + (1 : Int)))) n)
                                                            (hofF (SRr (xOf fun i => Raw17.fs (x i)) n (Int.toNat (k % IntKind.wrap IntKind.i64 ((↑n : Int) + (1 : Int)))) n)))
                                                          (1 : Nat)
                                                      else (0 : Int)) &&
                                                    true)))
                                              (T.br
                                                (!(((bif inB (3 : Nat) (1 : Int) then epOf (ptE (runR (xOf fun i => Raw17.fs (x i)) n one17) (hofF (runR (xOf fun i => Raw17.fs (x i)) n one17))) (1 : Nat) else (0 : Int)) ==
                                                      bif inB (3 : Nat) (1 : Int) then
                                                        epOf
                                                          (ptE (SRr (xOf fun i => Raw17.fs (x i)) n (Int.toNat (k % IntKind.wrap IntKind.i64 ((↑n : Int) + (1 : Int)))) n)
                                                            (hofF (SRr (xOf fun i => Raw17.fs (x i)) n (Int.toNat (k % IntKind.wrap IntKind.i64 ((↑n : Int) + (1 : Int)))) n)))
                                                          (1 : Nat)
                                                      else (0 : Int)) &&
                                                    (((bif inB (3 : Nat) (1 : Int) then hoOf (ptE (runR (xOf fun i => Raw17.fs (x i)) n one17) (hofF (runR (xOf fun i => Raw17.fs (x i)) n one17))) (1 : Nat) else (0 : Int)) ==
                                                        bif inB (3 : Nat) (1 : Int) then
                                                          hoOf
                                                            (ptE (SRr (xOf fun i => Raw17.fs (x i)) n (Int.toNat (k % IntKind.wrap IntKind.i64 ((↑n : Int) + (1 : Int)))) n)
                                                              (hofF (SRr (xOf fun i => Raw17.fs (x i)) n (Int.toNat (k % IntKind.wrap IntKind.i64 ((↑n : Int) + (1 : Int)))) n)))
                                                            (1 : Nat)
                                                        else (0 : Int)) &&
                                                      true)))
                                                (T.br
                                                  (!(((bif inB (3 : Nat) (1 : Int) then epOf (ptE (runR (xOf fun i => Raw17.fs (x i)) n one17) (hofF (runR (xOf fun i => Raw17.fs (x i)) n one17))) (1 : Nat) else (0 : Int)) ==
                                                        bif inB (3 : Nat) (1 : Int) then
                                                          epOf
                                                            (ptE (SRr (xOf fun i => Raw17.fs (x i)) n (Int.toNat (k % IntKind.wrap IntKind.i64 ((↑n : Int) + (1 : Int)))) n)
                                                              (hofF (SRr (xOf fun i => Raw17.fs (x i)) n (Int.toNat (k % IntKind.wrap IntKind.i64 ((↑n : Int) + (1 : Int)))) n)))
                                                            (1 : Nat)
                                                        else (0 : Int)) &&
                                                      (((bif inB (3 : Nat) (1 : Int) then hoOf (ptE (runR (xOf fun i => Raw17.fs (x i)) n one17) (hofF (runR (xOf fun i => Raw17.fs (x i)) n one17))) (1 : Nat) else (0 : Int)) ==
                                                          bif inB (3 : Nat) (1 : Int) then
                                                            hoOf
                                                              (ptE (SRr (xOf fun i => Raw17.fs (x i)) n (Int.toNat (k % IntKind.wrap IntKind.i64 ((↑n : Int) + (1 : Int)))) n)
                                                                (hofF (SRr (xOf fun i => Raw17.fs (x i)) n (Int.toNat (k % IntKind.wrap IntKind.i64 ((↑n : Int) + (1 : Int)))) n)))
                                                              (1 : Nat)
                                                          else (0 : Int)) &&
                                                        true)))
                                                  (T.ret (out0 (SV.v (AB false)))) T.bad)
                                                T.bad)
                                              T.bad)
                                            T.bad)
                                          T.bad)
                                        T.bad)
                                      T.bad)
                                    (T.br
                                      (!(((bif inB (3 : Nat) (1 : Int) then epOf (ptE (runR (xOf fun i => Raw17.fs (x i)) n one17) (hofF (runR (xOf fun i => Raw17.fs (x i)) n one17))) (1 : Nat) else (0 : Int)) ==
                                            bif inB (3 : Nat) (1 : Int) then
                                              epOf
                                                (ptE (SRr (xOf fun i => Raw17.fs (x i)) n (Int.toNat (k % IntKind.wrap IntKind.i64 ((↑n : Int) + (1 : Int)))) n)
                                                  (hofF (SRr (xOf fun i => Raw17.fs (x i)) n (Int.toNat (k % IntKind.wrap IntKind.i64 ((↑n : Int) + (1 : Int)))) n)))
                                                (1 : Nat)
                                            else (0 : Int)) &&
                                          (((bif inB (3 : Nat) (1 : Int) then hoOf (ptE (runR (xOf fun i => Raw17.fs (x i)) n one17) (hofF (runR (xOf fun i => Raw17.fs (x i)) n one17))) (1 : Nat) else (0 : Int)) ==
                                              bif inB (3 : Nat) (1 : Int) then
                                                hoOf
                                                  (ptE (SRr (xOf fun i => Raw17.fs (x i)) n (Int.toNat (k % IntKind.wrap IntKind.i64 ((↑n : Int) + (1 : Int)))) n)
                                                    (hofF (SRr (xOf fun i => Raw17.fs (x i)) n (Int.toNat (k % IntKind.wrap IntKind.i64 ((↑n : Int) + (1 : Int)))) n)))
                                                  (1 : Nat)
                                              else (0 : Int)) &&
                                            true)))
                                      T.bad
                                      (T.br
                                        (!(((bif inB (3 : Nat) (1 : Int) then epOf (ptE (runR (xOf fun i => Raw17.fs (x i)) n one17) (hofF (runR (xOf fun i => Raw17.fs (x i)) n one17))) (1 : Nat) else (0 : Int)) ==
                                              bif inB (3 : Nat) (1 : Int) then
                                                epOf
                                                  (ptE (SRr (xOf fun i => Raw17.fs (x i)) n (Int.toNat (k % IntKind.wrap IntKind.i64 ((↑n : Int) + (1 : Int)))) n)
                                                    (hofF (SRr (xOf fun i => Raw17.fs (x i)) n (Int.toNat (k % IntKind.wrap IntKind.i64 ((↑n : Int) + (1 : Int)))) n)))
                                                  (1 : Nat)
                                              else (0 : Int)) &&
                                            (((bif inB (3 : Nat) (1 : Int) then hoOf (ptE (runR (xOf fun i => Raw17.fs (x i)) n one17) (hofF (runR (xOf fun i => Raw17.fs (x i)) n one17))) (1 : Nat) else (0 : Int)) ==
                                                bif inB (3 : Nat) (1 : Int) then
                                                  hoOf
                                                    (ptE (SRr (xOf fun i => Raw17.fs (x i)) n (Int.toNat (k % IntKind.wrap IntKind.i64 ((↑n : Int) + (1 : Int)))) n)
                                                      (hofF (SRr (xOf fun i => Raw17.fs (x i)) n (Int.toNat (k % IntKind.wrap IntKind.i64 ((↑n : Int) + (1 : Int)))) n)))
                                                    (1 : Nat)
                                                else (0 : Int)) &&
                                              true)))
                                        T.bad
                                        (T.br
                                          (!(((bif inB (3 : Nat) (1 : Int) then epOf (ptE (runR (xOf fun i => Raw17.fs (x i)) n one17) (hofF (runR (xOf fun i => Raw17.fs (x i)) n one17))) (1 : Nat) else (0 : Int)) ==
                                                bif inB (3 : Nat) (1 : Int) then
                                                  epOf
                                                    (ptE (SRr (xOf fun i => Raw17.fs (x i)) n (Int.toNat (k % IntKind.wrap IntKind.i64 ((↑n : Int) + (1 : Int)))) n)
                                                      (hofF (SRr (xOf fun i => Raw17.fs (x i)) n (Int.toNat (k % IntKind.wrap IntKind.i64 ((↑n : Int) + (1 : Int)))) n)))
                                                    (1 : Nat)
                                                else (0 : Int)) &&
                                              (((bif inB (3 : Nat) (1 : Int) then hoOf (ptE (runR (xOf fun i => Raw17.fs (x i)) n one17) (hofF (runR (xOf fun i => Raw17.fs (x i)) n one17))) (1 : Nat) else (0 : Int)) ==
                                                  bif inB (3 : Nat) (1 : Int) then
                                                    hoOf
                                                      (ptE (SRr (xOf fun i => Raw17.fs (x i)) n (Int.toNat (k % IntKind.wrap IntKind.i64 ((↑n : Int) + (1 : Int)))) n)
                                                        (hofF (SRr (xOf fun i => Raw17.fs (x i)) n (Int.toNat (k % IntKind.wrap IntKind.i64 ((↑n : Int) + (1 : Int)))) n)))
                                                      (1 : Nat)
                                                  else (0 : Int)) &&
                                                true)))
                                          T.bad
                                          (T.br
                                            (!(((bif inB (3 : Nat) (1 : Int) then epOf (ptE (runR (xOf fun i => Raw17.fs (x i)) n one17) (hofF (runR (xOf fun i => Raw17.fs (x i)) n one17))) (1 : Nat) else (0 : Int)) ==
                                                  bif inB (3 : Nat) (1 : Int) then
                                                    epOf
                                                      (ptE (SRr (xOf fun i => Raw17.fs (x i)) n (Int.toNat (k % IntKind.wrap IntKind.i64 ((↑n : Int) + (1 : Int)))) n)
                                                        (hofF (SRr (xOf fun i => Raw17.fs (x i)) n (Int.toNat (k % IntKind.wrap IntKind.i64 ((↑n : Int) + (1 : Int)))) n)))
                                                      (1 : Nat)
                                                  else (0 : Int)) &&
                                                (((bif inB (3 : Nat) (1 : Int) then hoOf (ptE (runR (xOf fun i => Raw17.fs (x i)) n one17) (hofF (runR (xOf fun i => Raw17.fs (x i)) n one17))) (1 : Nat) else (0 : Int)) ==
                                                    bif inB (3 : Nat) (1 : Int) then
                                                      hoOf
                                                        (ptE (SRr (xOf fun i => Raw17.fs (x i)) n (Int.toNat (k % IntKind.wrap IntKind.i64 ((↑n : Int) + (1 : Int)))) n)
                                                          (hofF (SRr (xOf fun i => Raw17.fs (x i)) n (Int.toNat (k % IntKind.wrap IntKind.i64 ((↑n : Int) + (1 : Int)))) n)))
                                                        (1 : Nat)
                                                    else (0 : Int)) &&
                                                  true)))
                                            T.bad
                                            (T.br
                                              (!(((bif inB (3 : Nat) (1 : Int) then epOf (ptE (runR (xOf fun i => Raw17.fs (x i)) n one17) (hofF (runR (xOf fun i => Raw17.fs (x i)) n one17))) (1 : Nat) else (0 : Int)) ==
                                                    bif inB (3 : Nat) (1 : Int) then
                                                      epOf
                                                        (ptE (SRr (xOf fun i => Raw17.fs (x i)) n (Int.toNat (k % IntKind.wrap IntKind.i64 ((↑n : Int) + (1 : Int)))) n)
                                                          (hofF (SRr (xOf fun i => Raw17.fs (x i)) n (Int.toNat (k % IntKind.wrap IntKind.i64 ((↑n : Int) + (1 : Int)))) n)))
                                                        (1 : Nat)
                                                    else (0 : Int)) &&
                                                  (((bif inB (3 : Nat) (1 : Int) then hoOf (ptE (runR (xOf fun i => Raw17.fs (x i)) n one17) (hofF (runR (xOf fun i => Raw17.fs (x i)) n one17))) (1 : Nat) else (0 : Int)) ==
                                                      bif inB (3 : Nat) (1 : Int) then
                                                        hoOf
                                                          (ptE (SRr (xOf fun i => Raw17.fs (x i)) n (Int.toNat (k % IntKind.wrap IntKind.i64 ((↑n : Int) + (1 : Int)))) n)
                                                            (hofF (SRr (xOf fun i => Raw17.fs (x i)) n (Int.toNat (k % IntKind.wrap IntKind.i64 ((↑n : Int) + (1 : Int)))) n)))
                                                          (1 : Nat)
                                                      else (0 : Int)) &&
                                                    true)))
                                              T.bad
                                              (T.br
                                                (!(((bif inB (3 : Nat) (1 : Int) then epOf (ptE (runR (xOf fun i => Raw17.fs (x i)) n one17) (hofF (runR (xOf fun i => Raw17.fs (x i)) n one17))) (1 : Nat) else (0 : Int)) ==
                                                      bif inB (3 : Nat) (1 : Int) then
                                                        epOf
                                                          (ptE (SRr (xOf fun i => Raw17.fs (x i)) n (Int.toNat (k % IntKind.wrap IntKind.i64 ((↑n : Int) + (1 : Int)))) n)
                                                            (hofF (SRr (xOf fun i => Raw17.fs (x i)) n (Int.toNat (k % IntKind.wrap IntKind.i64 ((↑n : Int) + (1 : Int)))) n)))
                                                          (1 : Nat)
                                                      else (0 : Int)) &&
                                                    (((bif inB (3 : Nat) (1 : Int) then hoOf (ptE (runR (xOf fun i => Raw17.fs (x i)) n one17) (hofF (runR (xOf fun i => Raw17.fs (x i)) n one17))) (1 : Nat) else (0 : Int)) ==
                                                        bif inB (3 : Nat) (1 : Int) then
                                                          hoOf
                                                            (ptE (SRr (xOf fun i => Raw17.fs (x i)) n (Int.toNat (k % IntKind.wrap IntKind.i64 ((↑n : Int) + (1 : Int)))) n)
                                                              (hofF (SRr (xOf fun i => Raw17.fs (x i)) n (Int.toNat (k % IntKind.wrap IntKind.i64 ((↑n : Int) + (1 : Int)))) n)))
                                                            (1 : Nat)
                                                        else (0 : Int)) &&
                                                      true)))
                                                T.bad
                                                (T.br
                                                  (!(((bif inB (3 : Nat) (1 : Int) then epOf (ptE (runR (xOf fun i => Raw17.fs (x i)) n one17) (hofF (runR (xOf fun i => Raw17.fs (x i)) n one17))) (1 : Nat) else (0 : Int)) ==
                                                        bif inB (3 : Nat) (1 : Int) then
                                                          epOf
                                                            (ptE (SRr (xOf fun i => Raw17.fs (x i)) n (Int.toNat (k % IntKind.wrap IntKind.i64 ((↑n : Int) + (1 : Int)))) n)
                                                              (hofF (SRr (xOf fun i => Raw17.fs (x i)) n (Int.toNat (k % IntKind.wrap IntKind.i64 ((↑n : Int) + (1 : Int)))) n)))
                                                            (1 : Nat)
                                                        else (0 : Int)) &&
                                                      (((bif inB (3 : Nat) (1 : Int) then hoOf (ptE (runR (xOf fun i => Raw17.fs (x i)) n one17) (hofF (runR (xOf fun i => Raw17.fs (x i)) n one17))) (1 : Nat) else (0 : Int)) ==
                                                          bif inB (3 : Nat) (1 : Int) then
                                                            hoOf
                                                              (ptE (SRr (xOf fun i => Raw17.fs (x i)) n (Int.toNat (k % IntKind.wrap IntKind.i64 ((↑n : Int) + (1 : Int)))) n)
                                                                (hofF (SRr (xOf fun i => Raw17.fs (x i)) n (Int.toNat (k % IntKind.wrap IntKind.i64 ((↑n : Int) + (1 : Int)))) n)))
                                                              (1 : Nat)
                                                          else (0 : Int)) &&
                                                        true)))
                                                  T.bad
                                                  (T.br
                                                    ((bif inB (3 : Nat) (1 : Int) then epOf (ptE (runR (xOf fun i => Raw17.fs (x i)) n one17) (hofF (runR (xOf fun i => Raw17.fs (x i)) n one17))) (1 : Nat) else (0 : Int)) !=
                                                      if runR (xOf fun i => Raw17.fs (x i)) n zero17 (1 : Nat) > (1 : Int) then runR (xOf fun i => Raw17.fs (x i)) n zero17 (1 : Nat) else (1 : Int))
                                                    (T.ret (out0 (SV.v (AB false))))
                                                    (T.br (pb (PtN (ptE (runR (xOf fun i => Raw17.fs (x i)) n one17) (hofF (runR (xOf fun i => Raw17.fs (x i)) n one17))) false (3 : Nat)))
                                                      (T.br
                                                        (pb
                                                          (PtN
                                                            (ptE (SRr (xOf fun i => Raw17.fs (x i)) n (Int.toNat (k % IntKind.wrap IntKind.i64 ((↑n : Int) + (1 : Int)))) n)
                                                              (hofF (SRr (xOf fun i => Raw17.fs (x i)) n (Int.toNat (k % IntKind.wrap IntKind.i64 ((↑n : Int) + (1 : Int)))) n)))
                                                            false (3 : Nat)))
                                                        (T.br
                                                          (!(((bif inB (3 : Nat) (2 : Int) then epOf (ptE (runR (xOf fun i => Raw17.fs (x i)) n one17) (hofF (runR (xOf fun i => Raw17.fs (x i)) n one17))) (2 : Nat) else (0 : Int)) ==
                                                                bif inB (3 : Nat) (2 : Int) then
                                                                  epOf
                                                                    (ptE (SRr (xOf fun i => Raw17.fs (x i)) n (Int.toNat (k % IntKind.wrap IntKind.i64 ((↑n : Int) + (1 : Int)))) n)
                                                                      (hofF (SRr (xOf fun i => Raw17.fs (x i)) n (Int.toNat (k % IntKind.wrap IntKind.i64 ((↑n : Int) + (1 : Int)))) n)))
                                                                    (2 : Nat)
                                                                else (0 : Int)) &&
                                                              (((bif inB (3 : Nat) (2 : Int) then hoOf (ptE (runR (xOf fun i => Raw17.fs (x i)) n one17) (hofF (runR (xOf fun i => Raw17.fs (x i)) n one17))) (2 : Nat) else (0 : Int)) ==
                                                                  bif inB (3 : Nat) (2 : Int) then
                                                                    hoOf
                                                                      (ptE (SRr (xOf fun i => Raw17.fs (x i)) n (Int.toNat (k % IntKind.wrap IntKind.i64 ((↑n : Int) + (1 : Int)))) n)
                                                                        (hofF (SRr (xOf fun i => Raw17.fs (x i)) n (Int.toNat (k % IntKind.wrap IntKind.i64 ((↑n : Int) + (1 : Int)))) n)))
                                                                      (2 : Nat)
                                                                  else (0 : Int)) &&
                                                                true)))
                                                          (T.br
                                                            (!(((bif inB (3 : Nat) (2 : Int) then epOf (ptE (runR (xOf fun i => Raw17.fs (x i)) n one17) (hofF (runR (xOf fun i => Raw17.fs (x i)) n one17))) (2 : Nat) else (0 : Int)) ==
                                                                  bif inB (3 : Nat) (2 : Int) then
                                                                    epOf
                                                                      (ptE (SRr (xOf fun i => Raw17.fs (x i)) n (Int.toNat (k % IntKind.wrap IntKind.i64 ((↑n : Int) + (1 : Int)))) n)
                                                                        (hofF (SRr (xOf fun i => Raw17.fs (x i)) n (Int.toNat (k % IntKind.wrap IntKind.i64 ((↑n : Int) + (1 : Int)))) n)))
                                                                      (2 : Nat)
                                                                  else (0 : Int)) &&
                                                                (((bif inB (3 : Nat) (2 : Int) then hoOf (ptE (runR (xOf fun i => Raw17.fs (x i)) n one17) (hofF (runR (xOf fun i => Raw17.fs (x i)) n one17))) (2 : Nat) else (0 : Int)) ==
                                                                    bif inB (3 : Nat) (2 : Int) then
                                                                      hoOf
                                                                        (ptE (SRr (xOf fun i => Raw17.fs (x i)) n (Int.toNat (k % IntKind.wrap IntKind.i64 ((↑n : Int) + (1 : Int)))) n)
                                                                          (hofF (SRr (xOf fun i => Raw17.fs (x i)) n (Int.toNat (k % IntKind.wrap IntKind.i64 ((↑n : Int) + (1 : Int)))) n)))
                                                                        (2 : Nat)
                                                                    else (0 : Int)) &&
                                                                  true)))
                                                            (T.br
                                                              (!(((bif inB (3 : Nat) (2 : Int) then epOf (ptE (runR (xOf fun i => Raw17.fs (x i)) n one17) (hofF (runR (xOf fun i => Raw17.fs (x i)) n one17))) (2 : Nat) else (0 : Int)) ==
                                                                    bif inB (3 : Nat) (2 : Int) then
                                                                      epOf
                                                                        (ptE (SRr (xOf fun i => Raw17.fs (x i)) n (Int.toNat (k % IntKind.wrap IntKind.i64 ((↑n : Int) + (1 : Int)))) n)
                                                                          (hofF (SRr (xOf fun i => Raw17.fs (x i)) n (Int.toNat (k % IntKind.wrap IntKind.i64 ((↑n : Int) + (1 : Int)))) n)))
                                                                        (2 : Nat)
                                                                    else (0 : Int)) &&
                                                                  (((bif inB (3 : Nat) (2 : Int) then hoOf (ptE (runR (xOf fun i => Raw17.fs (x i)) n one17) (hofF (runR (xOf fun i => Raw17.fs (x i)) n one17))) (2 : Nat) else (0 : Int)) ==
                                                                      bif inB (3 : Nat) (2 : Int) then
                                                                        hoOf
                                                                          (ptE (SRr (xOf fun i => Raw17.fs (x i)) n (Int.toNat (k % IntKind.wrap IntKind.i64 ((↑n : Int) + (1 : Int)))) n)
                                                                            (hofF (SRr (xOf fun i => Raw17.fs (x i)) n (Int.toNat (k % IntKind.wrap IntKind.i64 ((↑n : Int) + (1 : Int)))) n)))
                                                                          (2 : Nat)
                                                                      else (0 : Int)) &&
                                                                    true)))
                                                              (T.br
                                                                (!(((bif inB (3 : Nat) (2 : Int) then epOf (ptE (runR (xOf fun i => Raw17.fs (x i)) n one17) (hofF (runR (xOf fun i => Raw17.fs (x i)) n one17))) (2 : Nat) else (0 : Int)) ==
                                                                      bif inB (3 : Nat) (2 : Int) then
                                                                        epOf
                                                                          (ptE (SRr (xOf fun i => Raw17.fs (x i)) n (Int.toNat (k % IntKind.wrap IntKind.i64 ((↑n : Int) + (1 : Int)))) n)
                                                                            (hofF (SRr (xOf fun i => Raw17.fs (x i)) n (Int.toNat (k % IntKind.wrap IntKind.i64 ((↑n : Int) + (1 : Int)))) n)))
                                                                          (2 : Nat)
                                                                      else (0 : Int)) &&
                                                                    (((bif inB (3 : Nat) (2 : Int) then hoOf (ptE (runR (xOf fun i => Raw17.fs (x i)) n one17) (hofF (runR (xOf fun i => Raw17.fs (x i)) n one17))) (2 : Nat) else (0 : Int)) ==
                                                                        bif inB (3 : Nat) (2 : Int) then
                                                                          hoOf
                                                                            (ptE (SRr (xOf fun i => Raw17.fs (x i)) n (Int.toNat (k % IntKind.wrap IntKind.i64 ((↑n : Int) + (1 : Int)))) n)
                                                                              (hofF (SRr (xOf fun i => Raw17.fs (x i)) n (Int.toNat (k % IntKind.wrap IntKind.i64 ((↑n : Int) + (1 : Int)))) n)))
                                                                            (2 : Nat)
                                                                        else (0 : Int)) &&
                                                                      true)))
                                                                (T.br
                                                                  (!(((bif inB (3 : Nat) (2 : Int) then epOf (ptE (runR (xOf fun i => Raw17.fs (x i)) n one17) (hofF (runR (xOf fun i => Raw17.fs (x i)) n one17))) (2 : Nat) else (0 : Int)) ==
                                                                        bif inB (3 : Nat) (2 : Int) then
                                                                          epOf
                                                                            (ptE (SRr (xOf fun i => Raw17.fs (x i)) n (Int.toNat (k % IntKind.wrap IntKind.i64 ((↑n : Int) + (1 : Int)))) n)
                                                                              (hofF (SRr (xOf fun i => Raw17.fs (x i)) n (Int.toNat (k % IntKind.wrap IntKind.i64 ((↑n : Int) + (1 : Int)))) n)))
                                                                            (2 : Nat)
                                                                        else (0 : Int)) &&
                                                                      (((bif inB (3 : Nat) (2 : Int) then hoOf (ptE (runR (xOf fun i => Raw17.fs (x i)) n one17) (hofF (runR (xOf fun i => Raw17.fs (x i)) n one17))) (2 : Nat) else (0 : Int)) ==
                                                                          bif inB (3 : Nat) (2 : Int) then
                                                                            hoOf
                                                                              (ptE (SRr (xOf fun i => Raw17.fs (x i)) n (Int.toNat (k % IntKind.wrap IntKind.i64 ((↑n : Int) + (1 : Int)))) n)
                                                                                (hofF (SRr (xOf fun i => Raw17.fs (x i)) n (Int.toNat (k % IntKind.wrap IntKind.i64 ((↑n : Int) + (1 : Int)))) n)))
                                                                              (2 : Nat)
                                                                          else (0 : Int)) &&
                                                                        true)))
                                                                  (T.br
                                                                    (!(((bif inB (3 : Nat) (2 : Int) then epOf (ptE (runR (xOf fun i => Raw17.fs (x i)) n one17) (hofF (runR (xOf fun i => Raw17.fs (x i)) n one17))) (2 : Nat) else (0 : Int)) ==
                                                                          bif inB (3 : Nat) (2 : Int) then
                                                                            epOf
                                                                              (ptE (SRr (xOf fun i => Raw17.fs (x i)) n (Int.toNat (k % IntKind.wrap IntKind.i64 ((↑n : Int) + (1 : Int)))) n)
                                                                                (hofF (SRr (xOf fun i => Raw17.fs (x i)) n (Int.toNat (k % IntKind.wrap IntKind.i64 ((↑n : Int) + (1 : Int)))) n)))
                                                                              (2 : Nat)
                                                                          else (0 : Int)) &&
                                                                        (((bif inB (3 : Nat) (2 : Int) then hoOf (ptE (runR (xOf fun i => Raw17.fs (x i)) n one17) (hofF (runR (xOf fun i => Raw17.fs (x i)) n one17))) (2 : Nat)
                                                                            else (0 : Int)) ==
                                                                            bif inB (3 : Nat) (2 : Int) then
                                                                              hoOf
                                                                                (ptE (SRr (xOf fun i => Raw17.fs (x i)) n (Int.toNat (k % IntKind.wrap IntKind.i64 ((↑n : Int) + (1 : Int)))) n)
                                                                                  (hofF (SRr (xOf fun i => Raw17.fs (x i)) n (Int.toNat (k % IntKind.wrap IntKind.i64 ((↑n : Int) + (1 : Int)))) n)))
                                                                                (2 : Nat)
                                                                            else (0 : Int)) &&
                                                                          true)))
                                                                    (T.br
                                                                      (!(((bif inB (3 : Nat) (2 : Int) then epOf (ptE (runR (xOf fun i => Raw17.fs (x i)) n one17) (hofF (runR (xOf fun i => Raw17.fs (x i)) n one17))) (2 : Nat)
                                                                            else (0 : Int)) ==
                                                                            bif inB (3 : Nat) (2 : Int) then
                                                                              epOf
                                                                                (ptE (SRr (xOf fun i => Raw17.fs (x i)) n (Int.toNat (k % IntKind.wrap IntKind.i64 ((↑n : Int) + (1 : Int)))) n)
                                                                                  (hofF (SRr (xOf fun i => Raw17.fs (x i)) n (Int.toNat (k % IntKind.wrap IntKind.i64 ((↑n : Int) + (1 : Int)))) n)))
                                                                                (2 : Nat)
                                                                            else (0 : Int)) &&
                                                                          (((bif inB (3 : Nat) (2 : Int) then hoOf (ptE (runR (xOf fun i => Raw17.fs (x i)) n one17) (hofF (runR (xOf fun i => Raw17.fs (x i)) n one17))) (2 : Nat)
                                                                              else (0 : Int)) ==
                                                                              bif inB (3 : Nat) (2 : Int) then
                                                                                hoOf
                                                                                  (ptE (SRr (xOf fun i => Raw17.fs (x i)) n (Int.toNat (k % IntKind.wrap IntKind.i64 ((↑n : Int) + (1 : Int)))) n)
                                                                                    (hofF (SRr (xOf fun i => Raw17.fs (x i)) n (Int.toNat (k % IntKind.wrap IntKind.i64 ((↑n : Int) + (1 : Int)))) n)))
                                                                                  (2 : Nat)
                                                                              else (0 : Int)) &&
                                                                            true)))
                                                                      (T.br
                                                                        (!(((bif inB (3 : Nat) (2 : Int) then epOf (ptE (runR (xOf fun i => Raw17.fs (x i)) n one17) (hofF (runR (xOf fun i => Raw17.fs (x i)) n one17))) (2 : Nat)
                                                                              else (0 : Int)) ==
                                                                              bif inB (3 : Nat) (2 : Int) then
                                                                                epOf
                                                                                  (ptE (SRr (xOf fun i => Raw17.fs (x i)) n (Int.toNat (k % IntKind.wrap IntKind.i64 ((↑n : Int) + (1 : Int)))) n)
                                                                                    (hofF (SRr (xOf fun i => Raw17.fs (x i)) n (Int.toNat (k % IntKind.wrap IntKind.i64 ((↑n : Int) + (1 : Int)))) n)))
                                                                                  (2 : Nat)
                                                                              else (0 : Int)) &&
                                                                            (((bif inB (3 : Nat) (2 : Int) then hoOf (ptE (runR (xOf fun i => Raw17.fs (x i)) n one17) (hofF (runR (xOf fun i => Raw17.fs (x i)) n one17))) (2 : Nat)
                                                                                else (0 : Int)) ==
                                                                                bif inB (3 : Nat) (2 : Int) then
                                                                                  hoOf
                                                                                    (ptE (SRr (xOf fun i => Raw17.fs (x i)) n (Int.toNat (k % IntKind.wrap IntKind.i64 ((↑n : Int) + (1 : Int)))) n)
                                                                                      (hofF (SRr (xOf fun i => Raw17.fs (x i)) n (Int.toNat (k % IntKind.wrap IntKind.i64 ((↑n : Int) + (1 : Int)))) n)))
                                                                                    (2 : Nat)
                                                                                else (0 : Int)) &&
                                                                              true)))
                                                                        (T.ret (out0 (SV.v (AB false)))) T.bad)
                                                                      T.bad)
                                                                    T.bad)
                                                                  T.bad)
                                                                T.bad)
                                                              T.bad)
                                                            T.bad)
                                                          (T.br
                                                            (!(((bif inB (3 : Nat) (2 : Int) then epOf (ptE (runR (xOf fun i => Raw17.fs (x i)) n one17) (hofF (runR (xOf fun i => Raw17.fs (x i)) n one17))) (2 : Nat) else (0 : Int)) ==
                                                                  bif inB (3 : Nat) (2 : Int) then
                                                                    epOf
                                                                      (ptE (SRr (xOf fun i => Raw17.fs (x i)) n (Int.toNat (k % IntKind.wrap IntKind.i64 ((↑n : Int) + (1 : Int)))) n)
                                                                        (hofF (SRr (xOf fun i => Raw17.fs (x i)) n (Int.toNat (k % IntKind.wrap IntKind.i64 ((↑n : Int) + (1 : Int)))) n)))
                                                                      (2 : Nat)
                                                                  else (0 : Int)) &&
                                                                (((bif inB (3 : Nat) (2 : Int) then hoOf (ptE (runR (xOf fun i => Raw17.fs (x i)) n one17) (hofF (runR (xOf fun i => Raw17.fs (x i)) n one17))) (2 : Nat) else (0 : Int)) ==
                                                                    bif inB (3 : Nat) (2 : Int) then
                                                                      hoOf
                                                                        (ptE (SRr (xOf fun i => Raw17.fs (x i)) n (Int.toNat (k % IntKind.wrap IntKind.i64 ((↑n : Int) + (1 : Int)))) n)
                                                                          (hofF (SRr (xOf fun i => Raw17.fs (x i)) n (Int.toNat (k % IntKind.wrap IntKind.i64 ((↑n : Int) + (1 : Int)))) n)))
                                                                        (2 : Nat)
                                                                    else (0 : Int)) &&
                                                                  true)))
                                                            T.bad
                                                            (T.br
                                                              (!(((bif inB (3 : Nat) (2 : Int) then epOf (ptE (runR (xOf fun i => Raw17.fs (x i)) n one17) (hofF (runR (xOf fun i => Raw17.fs (x i)) n one17))) (2 : Nat) else (0 : Int)) ==
                                                                    bif inB (3 : Nat) (2 : Int) then
                                                                      epOf
                                                                        (ptE (SRr (xOf fun i => Raw17.fs (x i)) n (Int.toNat (k % IntKind.wrap IntKind.i64 ((↑n : Int) + (1 : Int)))) n)
                                                                          (hofF (SRr (xOf fun i => Raw17.fs (x i)) n (Int.toNat (k % IntKind.wrap IntKind.i64 ((↑n : Int) + (1 : Int)))) n)))
                                                                        (2 : Nat)
                                                                    else (0 : Int)) &&
                                                                  (((bif inB (3 : Nat) (2 : Int) then hoOf (ptE (runR (xOf fun i => Raw17.fs (x i)) n one17) (hofF (runR (xOf fun i => Raw17.fs (x i)) n one17))) (2 : Nat) else (0 : Int)) ==
                                                                      bif inB (3 : Nat) (2 : Int) then
                                                                        hoOf
                                                                          (ptE (SRr (xOf fun i => Raw17.fs (x i)) n (Int.toNat (k % IntKind.wrap IntKind.i64 ((↑n : Int) + (1 : Int)))) n)
                                                                            (hofF (SRr (xOf fun i => Raw17.fs (x i)) n (Int.toNat (k % IntKind.wrap IntKind.i64 ((↑n : Int) + (1 : Int)))) n)))
                                                                          (2 : Nat)
                                                                      else (0 : Int)) &&
                                                                    true)))
                                                              T.bad
                                                              (T.br
                                                                (!(((bif inB (3 : Nat) (2 : Int) then epOf (ptE (runR (xOf fun i => Raw17.fs (x i)) n one17) (hofF (runR (xOf fun i => Raw17.fs (x i)) n one17))) (2 : Nat) else (0 : Int)) ==
                                                                      bif inB (3 : Nat) (2 : Int) then
                                                                        epOf
                                                                          (ptE (SRr (xOf fun i => Raw17.fs (x i)) n (Int.toNat (k % IntKind.wrap IntKind.i64 ((↑n : Int) + (1 : Int)))) n)
                                                                            (hofF (SRr (xOf fun i => Raw17.fs (x i)) n (Int.toNat (k % IntKind.wrap IntKind.i64 ((↑n : Int) + (1 : Int)))) n)))
                                                                          (2 : Nat)
                                                                      else (0 : Int)) &&
                                                                    (((bif inB (3 : Nat) (2 : Int) then hoOf (ptE (runR (xOf fun i => Raw17.fs (x i)) n one17) (hofF (runR (xOf fun i => Raw17.fs (x i)) n one17))) (2 : Nat) else (0 : Int)) ==
                                                                        bif inB (3 : Nat) (2 : Int) then
                                                                          hoOf
                                                                            (ptE (SRr (xOf fun i => Raw17.fs (x i)) n (Int.toNat (k % IntKind.wrap IntKind.i64 ((↑n : Int) + (1 : Int)))) n)
                                                                              (hofF (SRr (xOf fun i => Raw17.fs (x i)) n (Int.toNat (k % IntKind.wrap IntKind.i64 ((↑n : Int) + (1 : Int)))) n)))
                                                                            (2 : Nat)
                                                                        else (0 : Int)) &&
                                                                      true)))
                                                                T.bad
                                                                (T.br
                                                                  (!(((bif inB (3 : Nat) (2 : Int) then epOf (ptE (runR (xOf fun i => Raw17.fs (x i)) n one17) (hofF (runR (xOf fun i => Raw17.fs (x i)) n one17))) (2 : Nat) else (0 : Int)) ==
                                                                        bif inB (3 : Nat) (2 : Int) then
                                                                          epOf
                                                                            (ptE (SRr (xOf fun i => Raw17.fs (x i)) n (Int.toNat (k % IntKind.wrap IntKind.i64 ((↑n : Int) + (1 : Int)))) n)
                                                                              (hofF (SRr (xOf fun i => Raw17.fs (x i)) n (Int.toNat (k % IntKind.wrap IntKind.i64 ((↑n : Int) + (1 : Int)))) n)))
                                                                            (2 : Nat)
                                                                        else (0 : Int)) &&
                                                                      (((bif inB (3 : Nat) (2 : Int) then hoOf (ptE (runR (xOf fun i => Raw17.fs (x i)) n one17) (hofF (runR (xOf fun i => Raw17.fs (x i)) n one17))) (2 : Nat) else (0 : Int)) ==
                                                                          bif inB (3 : Nat) (2 : Int) then
                                                                            hoOf
                                                                              (ptE (SRr (xOf fun i => Raw17.fs (x i)) n (Int.toNat (k % IntKind.wrap IntKind.i64 ((↑n : Int) + (1 : Int)))) n)
                                                                                (hofF (SRr (xOf fun i => Raw17.fs (x i)) n (Int.toNat (k % IntKind.wrap IntKind.i64 ((↑n : Int) + (1 : Int)))) n)))
                                                                              (2 : Nat)
                                                                          else (0 : Int)) &&
                                                                        true)))
                                                                  T.bad
                                                                  (T.br
                                                                    (!(((bif inB (3 : Nat) (2 : Int) then epOf (ptE (runR (xOf fun i => Raw17.fs (x i)) n one17) (hofF (runR (xOf fun i => Raw17.fs (x i)) n one17))) (2 : Nat) else (0 : Int)) ==
                                                                          bif inB (3 : Nat) (2 : Int) then
                                                                            epOf
                                                                              (ptE (SRr (xOf fun i => Raw17.fs (x i)) n (Int.toNat (k % IntKind.wrap IntKind.i64 ((↑n : Int) + (1 : Int)))) n)
                                                                                (hofF (SRr (xOf fun i => Raw17.fs (x i)) n (Int.toNat (k % IntKind.wrap IntKind.i64 ((↑n : Int) + (1 : Int)))) n)))
                                                                              (2 : Nat)
                                                                          else (0 : Int)) &&
                                                                        (((bif inB (3 : Nat) (2 : Int) then hoOf (ptE (runR (xOf fun i => Raw17.fs (x i)) n one17) (hofF (runR (xOf fun i => Raw17.fs (x i)) n one17))) (2 : Nat)
                                                                            else (0 : Int)) ==
                                                                            bif inB (3 : Nat) (2 : Int) then
                                                                              hoOf
                                                                                (ptE (SRr (xOf fun i => Raw17.fs (x i)) n (Int.toNat (k % IntKind.wrap IntKind.i64 ((↑n : Int) + (1 : Int)))) n)
                                                                                  (hofF (SRr (xOf fun i => Raw17.fs (x i)) n (Int.toNat (k % IntKind.wrap IntKind.i64 ((↑n : Int) + (1 : Int)))) n)))
                                                                                (2 : Nat)
                                                                            else (0 : Int)) &&
                                                                          true)))
                                                                    T.bad
                                                                    (T.br
                                                                      (!(((bif inB (3 : Nat) (2 : Int) then epOf (ptE (runR (xOf fun i => Raw17.fs (x i)) n one17) (hofF (runR (xOf fun i => Raw17.fs (x i)) n one17))) (2 : Nat)
                                                                            else (0 : Int)) ==
                                                                            bif inB (3 : Nat) (2 : Int) then
                                                                              epOf
                                                                                (ptE (SRr (xOf fun i => Raw17.fs (x i)) n (Int.toNat (k % IntKind.wrap IntKind.i64 ((↑n : Int) + (1 : Int)))) n)
                                                                                  (hofF (SRr (xOf fun i => Raw17.fs (x i)) n (Int.toNat (k % IntKind.wrap IntKind.i64 ((↑n : Int) + (1 : Int)))) n)))
                                                                                (2 : Nat)
                                                                            else (0 : Int)) &&
                                                                          (((bif inB (3 : Nat) (2 : Int) then hoOf (ptE (runR (xOf fun i => Raw17.fs (x i)) n one17) (hofF (runR (xOf fun i => Raw17.fs (x i)) n one17))) (2 : Nat)
                                                                              else (0 : Int)) ==
                                                                              bif inB (3 : Nat) (2 : Int) then
                                                                                hoOf
                                                                                  (ptE (SRr (xOf fun i => Raw17.fs (x i)) n (Int.toNat (k % IntKind.wrap IntKind.i64 ((↑n : Int) + (1 : Int)))) n)
                                                                                    (hofF (SRr (xOf fun i => Raw17.fs (x i)) n (Int.toNat (k % IntKind.wrap IntKind.i64 ((↑n : Int) + (1 : Int)))) n)))
                                                                                  (2 : Nat)
                                                                              else (0 : Int)) &&
                                                                            true)))
                                                                      T.bad
                                                                      (T.br
                                                                        (!(((bif inB (3 : Nat) (2 : Int) then epOf (ptE (runR (xOf fun i => Raw17.fs (x i)) n one17) (hofF (runR (xOf fun i => Raw17.fs (x i)) n one17))) (2 : Nat)
                                                                              else (0 : Int)) ==
                                                                              bif inB (3 : Nat) (2 : Int) then
                                                                                epOf
                                                                                  (ptE (SRr (xOf fun i => Raw17.fs (x i)) n (Int.toNat (k % IntKind.wrap IntKind.i64 ((↑n : Int) + (1 : Int)))) n)
                                                                                    (hofF (SRr (xOf fun i => Raw17.fs (x i)) n (Int.toNat (k % IntKind.wrap IntKind.i64 ((↑n : Int) + (1 : Int)))) n)))
                                                                                  (2 : Nat)
                                                                              else (0 : Int)) &&
                                                                            (((bif inB (3 : Nat) (2 : Int) then hoOf (ptE (runR (xOf fun i => Raw17.fs (x i)) n one17) (hofF (runR (xOf fun i => Raw17.fs (x i)) n one17))) (2 : Nat)
                                                                                else (0 : Int)) ==
                                                                                bif inB (3 : Nat) (2 : Int) then
                                                                                  hoOf
                                                                                    (ptE (SRr (xOf fun i => Raw17.fs (x i)) n (Int.toNat (k % IntKind.wrap IntKind.i64 ((↑n : Int) + (1 : Int)))) n)
                                                                                      (hofF (SRr (xOf fun i => Raw17.fs (x i)) n (Int.toNat (k % IntKind.wrap IntKind.i64 ((↑n : Int) + (1 : Int)))) n)))
                                                                                    (2 : Nat)
                                                                                else (0 : Int)) &&
                                                                              true)))
                                                                        T.bad
                                                                        (T.br
                                                                          ((bif inB (3 : Nat) (2 : Int) then epOf (ptE (runR (xOf fun i => Raw17.fs (x i)) n one17) (hofF (runR (xOf fun i => Raw17.fs (x i)) n one17))) (2 : Nat)
                                                                            else (0 : Int)) !=
                                                                            if runR (xOf fun i => Raw17.fs (x i)) n zero17 (2 : Nat) > (1 : Int) then runR (xOf fun i => Raw17.fs (x i)) n zero17 (2 : Nat) else (1 : Int))
                                                                          (T.ret (out0 (SV.v (AB false)))) (T.ret (out0 (SV.v (AB true)))))))))))))
                                                        T.bad)
                                                      T.bad))))))))))
                                  T.bad)
                                T.bad))))))))))
            T.bad)
          T.bad)
        T.bad)
      T.bad)
    T.bad := by kernel_rfl
theorem res_PRise (nl : Bool) (n : Nat) (x : Nat → Raw17) (k : Int) (h : (n : Int) ≤ 4611686018427387903 ∧ (nl = true → n = 0)) : (tgt_PRise nl n x k).res = some (out0 (.v (AB true))) := by
  refine T.over_eq _ (tree_PRise nl n x k) ?_
  simp only [T.res_br, T.res_ret, T.res_bad]
  have h1 : IntKind.wrap .i64 ((n : Int) + 1) = (n : Int) + 1 := wrapI (by omega)
  have h2 : (0 : Int) < (n : Int) + 1 ∧ (n : Int) + 1 ≤ 4611686018427387904 := by omega
  have hk : ∃ k' : Nat, k % ((n : Int) + 1) = k' ∧ k' ≤ n := by
    have g1 := Int.emod_nonneg k (show (n : Int) + 1 ≠ 0 by omega)
    have g2 := Int.emod_lt_of_pos k (show (0 : Int) < (n : Int) + 1 by omega)
    exact ⟨(k % ((n : Int) + 1)).toNat, by omega, by omega⟩
  have hP : ∀ a b, pb (PtN (ptE a b) false 3) = true := fun a b => pb_true (ptN3 a b)
  have ee : ∀ a b, epOf (ptE a b) = a := fun _ _ => rfl
  have eh : ∀ a b, hoOf (ptE a b) = b := fun _ _ => rfl
  have i0 : inB 3 0 = true := rfl
  have i1 : inB 3 1 = true := rfl
  have i2 : inB 3 2 = true := rfl
  obtain ⟨k', hk1, hk2⟩ := hk
  have hq : SRr (xOf fun i => (x i).fs) n k' n = runR (xOf fun i => (x i).fs) n one17 := funext fun j => runR_turn _ n k' hk2 one17 j
  have hb : ∀ j, runR (xOf fun i => (x i).fs) n one17 j = max 1 (runR (xOf fun i => (x i).fs) n zero17 j) := fun j => runR_best _ n j
  rw [h1, hk1, if_pos (pb_true h2), if_pos (pb_true (by simp)), if_pos (pb_true ?_)]
  · simp only [Int.toNat_natCast, hq, hP, ee, eh, i0, i1, i2, cond_true, beq_self_eq_true, Bool.and_true, Bool.not_true, Bool.false_eq_true, reduceIte, hb, bne_iff_ne, ne_eq, Decidable.not_not, gt_iff_lt]
    repeat' split
    all_goals first | rfl | (exfalso; omega)
  · exact ⟨⟨x, rfl⟩, rfl, rfl, rfl, rfl, rfl, ⟨k', rfl, hk2⟩, rfl, rfl, rfl, rfl, by decide, by decide, rfl, rfl, rfl, rfl, rfl, rfl, rfl, h.1, h.2⟩
end Go.Proofs.Ytabmkefbceepmaa.En
