/- A round of PointsApart. -/
import Derived.Test.YtabmkefbceepmaaPH
namespace Go.Proofs.Ytabmkefbceepmaa.En
open Go
set_option linter.unusedVariables false
set_option linter.unusedSimpArgs false
set_option maxRecDepth 20000
structure Raw17 where
  shard : Int
  epoch : Int
  host : Int
def Raw17.fs (a : Raw17) : List FV := [.lit (.int .i64 a.shard), .lit (.int .i64 a.epoch), .lit (.int .i64 a.host)]
def xOf (e : Nat → List FV) : Nat → Raw17 := fun i => match e i with | [.lit (.int _ a), .lit (.int _ b), .lit (.int _ c)] => ⟨a, b, c⟩ | _ => ⟨0, 0, 0⟩
abbrev Q17 := (Nat → Int) × (Nat → Int)
def stA (b : Bool) (c : Raw17) (q : Q17) : Q17 := bif b then
  (updP (learnB 4 5 q.1 (c.shard % 5) (c.epoch % 20) (c.host % 4)) q.1 (c.shard % 5).toNat (c.epoch % 20), updP (learnB 4 5 q.1 (c.shard % 5) (c.epoch % 20) (c.host % 4)) q.2 (c.shard % 5).toNat (c.host % 4)) else q
def runA (x : Nat → Raw17) (sel : Raw17 → Bool) : Nat → Nat → Q17 → Q17
  | 0, _, q => q
  | m + 1, i, q => runA x sel m (i + 1) (stA (sel (x i)) (x i) q)
def selK (k : Int) (c : Raw17) : Bool := c.shard % 5 == k
theorem updP_other {b : Bool} {f : Nat → Int} {k j : Nat} {x : Int} (h : j ≠ k) : updP b f k x j = f j := by
  have : Nat.beq j k = false := by cases e : Nat.beq j k with
    | false => rfl
    | true => exact absurd (Nat.eq_of_beq_eq_true e) h
  simp only [updP, this, Bool.and_false, cond_false]
theorem runA_agree (x : Nat → Raw17) (k : Int) (hk : 0 ≤ k) : ∀ (m i : Nat) (q r : Q17), q.1 k.toNat = r.1 k.toNat → q.2 k.toNat = r.2 k.toNat →
    (runA x (fun _ => true) m i q).1 k.toNat = (runA x (selK k) m i r).1 k.toNat ∧ (runA x (fun _ => true) m i q).2 k.toNat = (runA x (selK k) m i r).2 k.toNat
  | 0, i, q, r, h1, h2 => ⟨h1, h2⟩
  | m + 1, i, q, r, h1, h2 => by
    simp only [runA]
    cases hs : selK k (x i) with
    | true =>
      have e : (x i).shard % 5 = k := by simpa [selK] using hs
      have hl : learnB 4 5 q.1 ((x i).shard % 5) ((x i).epoch % 20) ((x i).host % 4) = learnB 4 5 r.1 ((x i).shard % 5) ((x i).epoch % 20) ((x i).host % 4) := by
        simp only [learnB, e, h1]
      refine runA_agree x k hk m (i + 1) _ _ ?_ ?_
      · simp only [stA, cond_true, updP, hl, h1]
      · simp only [stA, cond_true, updP, hl, h2]
    | false =>
      have e : (x i).shard % 5 ≠ k := by simpa [selK] using hs
      have e2 : k.toNat ≠ ((x i).shard % 5).toNat := by omega
      refine runA_agree x k hk m (i + 1) _ _ ?_ ?_
      · simp only [stA, cond_true, cond_false]
        rw [updP_other e2, h1]
      · simp only [stA, cond_true, cond_false]
        rw [updP_other e2, h2]
def SA17 (nl : Bool) (n : Nat) (x : Nat → Raw17) (k : Int) (i : Nat) (eP hP eR hR : Nat → Int) : St :=
  ⟨[(28, .v (.one (.f (.fs nl 3 n fun i => (x i).fs)))), (29, .v (AI n)), (30, .v (AI i)), (6, .v (AP 1)), (8, .v (AP 3)), (7, .v (AP 2)), (1, .v (AI k))],
    [(3, .cells [I 4, .f (.fs false 2 5 (ptE eR hR))]), (2, .cells [I 4, .f (.fs false 2 5 (ptE (fun _ => 1) fun i => Int.tmod i 4))]), (1, .cells [I 4, .f (.fs false 2 5 (ptE eP hP))]), (0, .cells [I 4, I 5])], 4, false, 0, []⟩

noncomputable def GPI1 : Ctx := GS.with ss_Known17 ll_tell
noncomputable def tgt_apart17 (nl : Bool) (n : Nat) (x : Nat → Raw17) (k : Int) (i : Nat) (eP hP eR hR : Nat → Int) : T (Ex × St) := evRoundZ GPI1 300 11 Try.f11.ntmps (loopOf Try.f11 7) 4 [28, 29, 30, 6, 8, 7, 1] [6, 8, 7, 1] (SA17 nl n x k i eP hP eR hR)
theorem GKPI1 : KnownOk Try.prog GPI1 := KnownOk.lists ss_Known17_ok ll_tell_ok
theorem tree_apart17 (nl : Bool) (n : Nat) (x : Nat → Raw17) (k : Int) (i : Nat) (eP hP eR hR : Nat → Int) : (tgt_apart17 nl n x k i eP hP eR hR).over (.br (.br (.br (.br (.br (.br (.br (.br (.br .leaf .skip) .leaf) .skip) .skip) .skip) .skip) .skip) .skip) .leaf) =
  T.br (decide ((↑i : Int) < (↑n : Int)))
    (T.br (!nl)
      (T.br (decide ((0 : Int) ≤ (↑i : Int) ∧ (↑i : Int) < (↑n : Int)))
        (T.br (pb ((0 : Int) < (5 : Int) ∧ (5 : Int) ≤ (4611686018427387904 : Int)))
          (T.br (pb ((0 : Int) < (20 : Int) ∧ (20 : Int) ≤ (4611686018427387904 : Int)))
            (T.br (pb ((0 : Int) < (4 : Int) ∧ (4 : Int) ≤ (4611686018427387904 : Int)))
              (T.br (pb (PtN (ptE eP hP) false (5 : Nat)))
                (T.br (Raw17.shard (x i) % (5 : Int) == k)
                  (T.br (pb (PtN (ptE eR hR) false (5 : Nat)))
                    (T.ret
                      (Ex.normal,
                        {
                          sl :=
                            [((28 : Nat),
                                SV.v (AV.one (CV.f (FV.fs nl (3 : Nat) n fun i => [FV.lit (Value.int IntKind.i64 (Raw17.shard (x i))), FV.lit (Value.int IntKind.i64 (Raw17.epoch (x i))), FV.lit (Value.int IntKind.i64 (Raw17.host (x i)))])))),
                              ((29 : Nat), SV.v (AI (↑n : Int))), ((30 : Nat), SV.v (AI (IntKind.wrap IntKind.i64 ((↑i : Int) + (1 : Int))))), ((6 : Nat), SV.v (AP (1 : Nat))), ((8 : Nat), SV.v (AP (3 : Nat))),
                              ((7 : Nat), SV.v (AP (2 : Nat))), ((1 : Nat), SV.v (AI k))],
                          H :=
                            [((3 : Nat),
                                Ob.cells
                                  [I (4 : Int),
                                    CV.f
                                      (FV.fs false (2 : Nat) (5 : Nat) fun a =>
                                        [FV.lit
                                            (Value.int IntKind.i64
                                              (updP (learnB (4 : Int) (5 : Nat) (epOf (ptE eR hR)) (Raw17.shard (x i) % (5 : Int)) (Raw17.epoch (x i) % (20 : Int)) (Raw17.host (x i) % (4 : Int))) (epOf (ptE eR hR))
                                                (Int.toNat (Raw17.shard (x i) % (5 : Int))) (Raw17.epoch (x i) % (20 : Int)) a)),
                                          FV.lit
                                            (Value.int IntKind.i64
                                              (updP (learnB (4 : Int) (5 : Nat) (epOf (ptE eR hR)) (Raw17.shard (x i) % (5 : Int)) (Raw17.epoch (x i) % (20 : Int)) (Raw17.host (x i) % (4 : Int))) (hoOf (ptE eR hR))
                                                (Int.toNat (Raw17.shard (x i) % (5 : Int))) (Raw17.host (x i) % (4 : Int)) a))])]),
                              ((1 : Nat),
                                Ob.cells
                                  [I (4 : Int),
                                    CV.f
                                      (FV.fs false (2 : Nat) (5 : Nat) fun a =>
                                        [FV.lit
                                            (Value.int IntKind.i64
                                              (updP (learnB (4 : Int) (5 : Nat) (epOf (ptE eP hP)) (Raw17.shard (x i) % (5 : Int)) (Raw17.epoch (x i) % (20 : Int)) (Raw17.host (x i) % (4 : Int))) (epOf (ptE eP hP))
                                                (Int.toNat (Raw17.shard (x i) % (5 : Int))) (Raw17.epoch (x i) % (20 : Int)) a)),
                                          FV.lit
                                            (Value.int IntKind.i64
                                              (updP (learnB (4 : Int) (5 : Nat) (epOf (ptE eP hP)) (Raw17.shard (x i) % (5 : Int)) (Raw17.epoch (x i) % (20 : Int)) (Raw17.host (x i) % (4 : Int))) (hoOf (ptE eP hP))
                                                (Int.toNat (Raw17.shard (x i) % (5 : Int))) (Raw17.host (x i) % (4 : Int)) a))])]),
                              ((2 : Nat), Ob.cells [I (4 : Int), CV.f (FV.fs false (2 : Nat) (5 : Nat) fun a => [FV.lit (Value.int IntKind.i64 (1 : Int)), FV.lit (Value.int IntKind.i64 (Int.tmod (↑a : Int) (4 : Int)))])]),
                              ((0 : Nat), Ob.cells [I (4 : Int), I (5 : Int)])],
                          nx := (4 : Nat), esc := false, base := (0 : Nat), wr := [] : St }))
                    T.bad)
                  (T.ret
                    (Ex.normal,
                      {
                        sl :=
                          [((28 : Nat),
                              SV.v (AV.one (CV.f (FV.fs nl (3 : Nat) n fun i => [FV.lit (Value.int IntKind.i64 (Raw17.shard (x i))), FV.lit (Value.int IntKind.i64 (Raw17.epoch (x i))), FV.lit (Value.int IntKind.i64 (Raw17.host (x i)))])))),
                            ((29 : Nat), SV.v (AI (↑n : Int))), ((30 : Nat), SV.v (AI (IntKind.wrap IntKind.i64 ((↑i : Int) + (1 : Int))))), ((6 : Nat), SV.v (AP (1 : Nat))), ((8 : Nat), SV.v (AP (3 : Nat))), ((7 : Nat), SV.v (AP (2 : Nat))),
                            ((1 : Nat), SV.v (AI k))],
                        H :=
                          [((1 : Nat),
                              Ob.cells
                                [I (4 : Int),
                                  CV.f
                                    (FV.fs false (2 : Nat) (5 : Nat) fun a =>
                                      [FV.lit
                                          (Value.int IntKind.i64
                                            (updP (learnB (4 : Int) (5 : Nat) (epOf (ptE eP hP)) (Raw17.shard (x i) % (5 : Int)) (Raw17.epoch (x i) % (20 : Int)) (Raw17.host (x i) % (4 : Int))) (epOf (ptE eP hP))
                                              (Int.toNat (Raw17.shard (x i) % (5 : Int))) (Raw17.epoch (x i) % (20 : Int)) a)),
                                        FV.lit
                                          (Value.int IntKind.i64
                                            (updP (learnB (4 : Int) (5 : Nat) (epOf (ptE eP hP)) (Raw17.shard (x i) % (5 : Int)) (Raw17.epoch (x i) % (20 : Int)) (Raw17.host (x i) % (4 : Int))) (hoOf (ptE eP hP))
                                              (Int.toNat (Raw17.shard (x i) % (5 : Int))) (Raw17.host (x i) % (4 : Int)) a))])]),
                            ((3 : Nat), Ob.cells [I (4 : Int), CV.f (FV.fs false (2 : Nat) (5 : Nat) fun a => [FV.lit (Value.int IntKind.i64 (eR a)), FV.lit (Value.int IntKind.i64 (hR a))])]),
                            ((2 : Nat), Ob.cells [I (4 : Int), CV.f (FV.fs false (2 : Nat) (5 : Nat) fun a => [FV.lit (Value.int IntKind.i64 (1 : Int)), FV.lit (Value.int IntKind.i64 (Int.tmod (↑a : Int) (4 : Int)))])]),
                            ((0 : Nat), Ob.cells [I (4 : Int), I (5 : Int)])],
                        nx := (4 : Nat), esc := false, base := (0 : Nat), wr := [] : St })))
                T.bad)
              T.bad)
            T.bad)
          T.bad)
        T.bad)
      T.bad)
    (T.ret
      (Ex.exit (0 : Nat),
        { sl := [((6 : Nat), SV.v (AP (1 : Nat))), ((8 : Nat), SV.v (AP (3 : Nat))), ((7 : Nat), SV.v (AP (2 : Nat))), ((1 : Nat), SV.v (AI k))],
          H :=
            [((3 : Nat), Ob.cells [I (4 : Int), CV.f (FV.fs false (2 : Nat) (5 : Nat) fun a => [FV.lit (Value.int IntKind.i64 (eR a)), FV.lit (Value.int IntKind.i64 (hR a))])]),
              ((2 : Nat), Ob.cells [I (4 : Int), CV.f (FV.fs false (2 : Nat) (5 : Nat) fun a => [FV.lit (Value.int IntKind.i64 (1 : Int)), FV.lit (Value.int IntKind.i64 (Int.tmod (↑a : Int) (4 : Int)))])]),
              ((1 : Nat), Ob.cells [I (4 : Int), CV.f (FV.fs false (2 : Nat) (5 : Nat) fun a => [FV.lit (Value.int IntKind.i64 (eP a)), FV.lit (Value.int IntKind.i64 (hP a))])]), ((0 : Nat), Ob.cells [I (4 : Int), I (5 : Int)])],
          nx := (4 : Nat), esc := false, base := (0 : Nat), wr := [] : St })) := by kernel_rfl
theorem ptN5 (a b : Nat → Int) : PtN (ptE a b) false 5 := ⟨⟨_, _, rfl⟩, by decide, by decide⟩
theorem round_A (n : Nat) (x : Nat → Raw17) (k : Int) (i : Nat) (q r : Q17) (hi : i < n) (hn : (n : Int) ≤ 9223372036854775807) :
    ∃ s, (tgt_apart17 false n x k i q.1 q.2 r.1 r.2).res = some (.normal, s) ∧ StLe 4 s (SA17 false n x k (i + 1) (stA true (x i) q).1 (stA true (x i) q).2 (stA (selK k (x i)) (x i) r).1 (stA (selK k (x i)) (x i) r).2) := by
  refine T.over_exP (g := fun s => (Ex.normal, s)) (tree_apart17 false n x k i q.1 q.2 r.1 r.2) ?_
  have e1 : (0 : Int) ≤ (i : Int) ∧ (i : Int) < (n : Int) := by omega
  have e2 : (i : Int) < (n : Int) := by omega
  have e3 : IntKind.wrap .i64 ((i : Int) + 1) = ((i + 1 : Nat) : Int) := by rw [wrapI (by omega)]; rfl
  have h4 : (0 : Int) < 4 ∧ (4 : Int) ≤ 4611686018427387904 := by omega
  have h5 : (0 : Int) < 5 ∧ (5 : Int) ≤ 4611686018427387904 := by omega
  have h20 : (0 : Int) < 20 ∧ (20 : Int) ≤ 4611686018427387904 := by omega
  simp only [T.res_br, T.res_ret, T.res_bad, decide_eq_true_eq, e1, e2, e3, pb_true h4, pb_true h5, pb_true h20, pb_true (ptN5 q.1 q.2), pb_true (ptN5 r.1 r.2), Bool.not_false, and_self, reduceIte, selK]
  cases hs : (x i).shard % 5 == k with
  | true =>
    simp only [reduceIte]
    exact ⟨_, rfl, StLe.same (Nat.le_refl 4) rfl rfl rfl fun b => by rcases b with _ | _ | _ | _ | b <;> rfl⟩
  | false =>
    simp only [Bool.false_eq_true, reduceIte]
    exact ⟨_, rfl, StLe.same (Nat.le_refl 4) rfl rfl rfl fun b => by rcases b with _ | _ | _ | _ | b <;> rfl⟩
def SAe (k : Int) (q r : Q17) : St := ⟨[(6, .v (AP 1)), (8, .v (AP 3)), (7, .v (AP 2)), (1, .v (AI k))], [(3, .cells [I 4, .f (.fs false 2 5 (ptE r.1 r.2))]), (2, .cells [I 4, .f (.fs false 2 5 (ptE (fun _ => 1) fun i => Int.tmod i 4))]), (1, .cells [I 4, .f (.fs false 2 5 (ptE q.1 q.2))]), (0, .cells [I 4, I 5])], 4, false, 0, []⟩
theorem end_A (nl : Bool) (n : Nat) (x : Nat → Raw17) (k : Int) (q r : Q17) :
    ∃ s, (tgt_apart17 nl n x k n q.1 q.2 r.1 r.2).res = some (.exit 0, s) ∧ StLe 4 s (SAe k q r) := by
  refine T.over_exP (g := fun s => (Ex.exit 0, s)) (tree_apart17 nl n x k n q.1 q.2 r.1 r.2) ?_
  simp only [T.res_br, T.res_ret, T.res_bad, decide_eq_true_eq, Int.lt_irrefl, reduceIte]
  exact ⟨_, rfl, StLe.same (Nat.le_refl 4) rfl rfl rfl fun b => by rcases b with _ | _ | _ | _ | b <;> rfl⟩
theorem loop_A (nl : Bool) (n : Nat) (x : Nat → Raw17) (k : Int) (q r : Q17) (hn : (n : Int) ≤ 9223372036854775807) (hnl : nl = true → n = 0) {st0 : St} (h0 : StLe 4 st0 (SA17 nl n x k 0 q.1 q.2 r.1 r.2)) (hnx : st0.nx = 4) :
    CodeOk Try.prog Try.f11.ntmps (.loop (loopOf Try.f11 7)) st0 (.exit 0) (SAe k (runA x (fun _ => true) n 0 q) (runA x (selK k) n 0 r)) := by
  refine loop_toZ (GS_ok.with _ _) GKPI1 (K := 300) (F := 11) (live := [28, 29, 30, 6, 8, 7, 1]) (after := [6, 8, 7, 1]) (α := Nat × Q17 × Q17) (fun p => SA17 nl n x k p.1 p.2.1.1 p.2.1.2 p.2.2.1 p.2.2.2) (fun p => n - p.1)
    (fun p => p.1 ≤ n ∧ runA x (fun _ => true) (n - p.1) p.1 p.2.1 = runA x (fun _ => true) n 0 q ∧ runA x (selK k) (n - p.1) p.1 p.2.2 = runA x (selK k) n 0 r) (.exit 0) _ ?_ (fun p => Nat.le_refl 4) (p := (0, q, r)) ⟨Nat.zero_le _, rfl, rfl⟩ h0 hnx
  rintro ⟨i, q1, r1⟩ ⟨hi, hq, hr⟩
  simp only at hi hq hr
  rcases Nat.lt_or_ge i n with h | h
  · obtain rfl : nl = false := by cases nl <;> simp_all
    obtain ⟨s, h1, h2⟩ := round_A n x k i q1 r1 h hn
    have e : n - i = (n - (i + 1)) + 1 := by omega
    rw [e] at hq hr
    exact ⟨_, s, h1, .inl ⟨rfl, (i + 1, stA true (x i) q1, stA (selK k (x i)) (x i) r1), h2, ⟨h, hq, hr⟩, by simp only; omega⟩⟩
  · obtain rfl : i = n := by omega
    obtain ⟨s, h1, h2⟩ := end_A nl i x k q1 r1
    rw [Nat.sub_self] at hq hr
    simp only [runA] at hq hr
    subst hq hr
    exact ⟨_, s, h1, .inr ⟨by simp, _, h2, rfl, rfl⟩⟩
def PreA (nl : Bool) (n : Nat) (e : Nat → List FV) (n' i h1 h2 h3 h4 h5 : Int) (b1 b2 b3 : Bool) (n1 n2 n3 : Nat) (e1 e2 e3 : Nat → List FV) : Prop :=
  ∃ x : Nat → Raw17, e = (fun i => (x i).fs) ∧ n' = n ∧ i = 0 ∧ h1 = 4 ∧ h2 = 4 ∧ h3 = 4 ∧ h4 = 4 ∧ h5 = 5 ∧ b1 = false ∧ b2 = false ∧ b3 = false ∧ n1 = 5 ∧ n2 = 5 ∧ n3 = 5 ∧
    e1 = ptE (fun _ => 1) (fun i => Int.tmod i 4) ∧ e2 = ptE (fun _ => 1) (fun i => Int.tmod i 4) ∧ e3 = ptE (fun _ => 1) (fun i => Int.tmod i 4) ∧ (n : Int) ≤ 9223372036854775807 ∧ (nl = true → n = 0)
def q017 : Q17 := (fun _ => 1, fun i => Int.tmod i 4)
noncomputable def L_A17 : LoopF := mkLoop [28, 29, 30, 6, 8, 7, 1] (loopOf Try.f11 7) Try.f11.ntmps fun sl H nx esc => match sl, H, nx, esc with
  | [(28, .v (.one (.f (.fs nl 3 n e)))), (29, .v (.one (.f (.lit (.int .i64 n'))))), (30, .v (.one (.f (.lit (.int .i64 i))))), (6, .v (.one (.ptr 1 0 0 0))), (8, .v (.one (.ptr 3 0 0 0))), (7, .v (.one (.ptr 2 0 0 0))), (1, .v (.one (.f (.lit (.int .i64 k)))))],
    [(3, .cells [.f (.lit (.int .i64 h1)), .f (.fs b1 2 n1 e1)]), (2, .cells [.f (.lit (.int .i64 h2)), .f (.fs b2 2 n2 e2)]), (1, .cells [.f (.lit (.int .i64 h3)), .f (.fs b3 2 n3 e3)]), (0, .cells [.f (.lit (.int .i64 h4)), .f (.lit (.int .i64 h5))])], 4, false =>
    .need (pb (PreA nl n e n' i h1 h2 h3 h4 h5 b1 b2 b3 n1 n2 n3 e1 e2 e3))
      (.ret (.exit 0, (SAe k (runA (xOf e) (fun _ => true) n 0 q017) (runA (xOf e) (selK k) n 0 q017)).sl, (SAe k (runA (xOf e) (fun _ => true) n 0 q017) (runA (xOf e) (selK k) n 0 q017)).H, 4, false))
  | _, _, _, _ => .bad
theorem L_A17_ok : LoopOk Try.prog L_A17 := by
  refine mkLoop_ok fun sl H nx esc e sl' H' nx' esc' h => ?_
  split at h
  · obtain ⟨hp, h2⟩ := T.need_some h
    obtain ⟨x, rfl, rfl, rfl, rfl, rfl, rfl, rfl, rfl, rfl, rfl, rfl, rfl, rfl, rfl, rfl, rfl, rfl, h3, h4⟩ := pb_of hp
    have := T.ret_some h2
    simp only [Prod.mk.injEq] at this
    obtain ⟨rfl, rfl, rfl, rfl, rfl⟩ := this
    exact loop_A _ _ x _ q017 q017 h3 h4 (StLe.refl (Nat.le_refl 4)) rfl
  · exact (T.bad_some h).elim
noncomputable def ll_A17 : List (Nat × Nat × LoopF) := (11, 7, L_A17) :: ll_tell
theorem ll_A17_ok : ∀ x ∈ ll_A17, LoopOk Try.prog x.2.2 := List.forall_mem_cons.2 ⟨L_A17_ok, ll_tell_ok⟩

noncomputable def GPI2 : Ctx := GS.with ss_Known17 ll_A17
noncomputable def tgt_PApart (nl : Bool) (n : Nat) (x : Nat → Raw17) (k : Int) : T CallOut := evCallW [] GPI2 300 11 [.one (.f (.fs nl 3 n fun i => (x i).fs)), AI k] [] 0
theorem GKPI2 : KnownOk Try.prog GPI2 := KnownOk.lists ss_Known17_ok ll_A17_ok
theorem tree_PApart (nl : Bool) (n : Nat) (x : Nat → Raw17) (k : Int) : (tgt_PApart nl n x k).over (.br (.br (.br (.br (.br (.br (.ff (.ff (.ff (.ff (.ff (.ff (.ff (.ff (.br .leaf (.tt (.tt (.tt (.ff (.ff (.ff (.ff (.ff (.ff (.ff (.ff (.tt (.tt (.tt (.ff (.ff (.ff (.ff (.ff (.ff (.ff (.ff (.tt (.tt (.tt (.ff (.ff (.ff (.ff (.ff (.ff (.ff (.ff (.tt (.tt (.tt (.ff (.ff (.ff (.ff (.ff (.ff (.ff (.ff (.tt (.tt (.tt (.ff (.ff (.ff (.ff (.ff (.ff (.ff (.ff (.ff .leaf))))))))))))))))))))))))))))))))))))))))))))))))))))))))))))))))) .skip) .skip) .skip) .skip) .skip) .skip) =
  T.br (pb ((0 : Int) < (5 : Int) ∧ (5 : Int) ≤ (4611686018427387904 : Int)))
    (T.br (pb (loopOf Proofs.Try.f11 (7 : Nat) = loopOf Proofs.Try.f11 (7 : Nat) ∧ (95 : Nat) = (95 : Nat)))
      (T.br
        (pb
          (PreA nl n (fun i => Raw17.fs (x i)) (↑n : Int) (0 : Int) (4 : Int) (4 : Int) (4 : Int) (4 : Int) (5 : Int) (!rtB (4 : Int) (5 : Int)) (!rtB (4 : Int) (5 : Int)) (!rtB (4 : Int) (5 : Int)) (5 : Nat) (5 : Nat) (5 : Nat)
            (ptE (fun x => (1 : Int)) fun i => Int.tmod (↑i : Int) (4 : Int)) (ptE (fun x => (1 : Int)) fun i => Int.tmod (↑i : Int) (4 : Int)) (ptE (fun x => (1 : Int)) fun i => Int.tmod (↑i : Int) (4 : Int))))
        (T.br (pb (PtN (ptE (Prod.fst (runA (xOf fun i => Raw17.fs (x i)) (fun x => true) n (0 : Nat) q017)) (Prod.snd (runA (xOf fun i => Raw17.fs (x i)) (fun x => true) n (0 : Nat) q017))) false (5 : Nat)))
          (T.br (pb (PtN (ptE (Prod.fst (runA (xOf fun i => Raw17.fs (x i)) (selK (k % (5 : Int))) n (0 : Nat) q017)) (Prod.snd (runA (xOf fun i => Raw17.fs (x i)) (selK (k % (5 : Int))) n (0 : Nat) q017))) false (5 : Nat)))
            (T.br (pb (PtN (ptE (fun x => (1 : Int)) fun i => Int.tmod (↑i : Int) (4 : Int)) false (5 : Nat)))
              (T.br
                (!(((bif inB (5 : Nat) (k % (5 : Int)) then
                        epOf (ptE (Prod.fst (runA (xOf fun i => Raw17.fs (x i)) (fun x => true) n (0 : Nat) q017)) (Prod.snd (runA (xOf fun i => Raw17.fs (x i)) (fun x => true) n (0 : Nat) q017))) (Int.toNat (k % (5 : Int)))
                      else (0 : Int)) ==
                      bif inB (5 : Nat) (k % (5 : Int)) then
                        epOf (ptE (Prod.fst (runA (xOf fun i => Raw17.fs (x i)) (selK (k % (5 : Int))) n (0 : Nat) q017)) (Prod.snd (runA (xOf fun i => Raw17.fs (x i)) (selK (k % (5 : Int))) n (0 : Nat) q017))) (Int.toNat (k % (5 : Int)))
                      else (0 : Int)) &&
                    (((bif inB (5 : Nat) (k % (5 : Int)) then
                          hoOf (ptE (Prod.fst (runA (xOf fun i => Raw17.fs (x i)) (fun x => true) n (0 : Nat) q017)) (Prod.snd (runA (xOf fun i => Raw17.fs (x i)) (fun x => true) n (0 : Nat) q017))) (Int.toNat (k % (5 : Int)))
                        else (0 : Int)) ==
                        bif inB (5 : Nat) (k % (5 : Int)) then
                          hoOf (ptE (Prod.fst (runA (xOf fun i => Raw17.fs (x i)) (selK (k % (5 : Int))) n (0 : Nat) q017)) (Prod.snd (runA (xOf fun i => Raw17.fs (x i)) (selK (k % (5 : Int))) n (0 : Nat) q017))) (Int.toNat (k % (5 : Int)))
                        else (0 : Int)) &&
                      true)))
                (T.ret (out0 (SV.v (AB false)))) (T.ret (out0 (SV.v (AB true)))))
              T.bad)
            T.bad)
          T.bad)
        T.bad)
      T.bad)
    T.bad := by kernel_rfl
theorem res_PApart (nl : Bool) (n : Nat) (x : Nat → Raw17) (k : Int) (h : (n : Int) ≤ 9223372036854775807 ∧ (nl = true → n = 0)) : (tgt_PApart nl n x k).res = some (out0 (.v (AB true))) := by
  refine T.over_eq _ (tree_PApart nl n x k) ?_
  simp only [T.res_br, T.res_ret, T.res_bad]
  have h5 : (0 : Int) < 5 ∧ (5 : Int) ≤ 4611686018427387904 := by omega
  have hP : PreA nl n (fun i => Raw17.fs (x i)) (↑n : Int) (0 : Int) (4 : Int) (4 : Int) (4 : Int) (4 : Int) (5 : Int) (!rtB (4 : Int) (5 : Int)) (!rtB (4 : Int) (5 : Int)) (!rtB (4 : Int) (5 : Int)) (5 : Nat) (5 : Nat) (5 : Nat) (ptE (fun x => (1 : Int)) fun i => Int.tmod (↑i : Int) (4 : Int)) (ptE (fun x => (1 : Int)) fun i => Int.tmod (↑i : Int) (4 : Int)) (ptE (fun x => (1 : Int)) fun i => Int.tmod (↑i : Int) (4 : Int)) :=
    ⟨x, rfl, rfl, rfl, rfl, rfl, rfl, rfl, rfl, by decide, by decide, by decide, rfl, rfl, rfl, rfl, rfl, rfl, h.1, h.2⟩
  rw [if_pos (pb_true h5), if_pos (pb_true (by simp)), if_pos (pb_true hP), if_pos (pb_true (ptN5 _ _)), if_pos (pb_true (ptN5 _ _)), if_pos (pb_true (ptN5 _ _))]
  have hk : (0 : Int) ≤ k % 5 := by omega
  obtain ⟨g1, g2⟩ := runA_agree (xOf fun i => (x i).fs) (k % 5) hk n 0 q017 q017 rfl rfl
  have ee : ∀ a b, epOf (ptE a b) = a := fun _ _ => rfl
  have eh : ∀ a b, hoOf (ptE a b) = b := fun _ _ => rfl
  simp only [ee, eh, g1, g2, beq_self_eq_true, Bool.and_true, Bool.not_true, Bool.false_eq_true, reduceIte]
end Go.Proofs.Ytabmkefbceepmaa.En
