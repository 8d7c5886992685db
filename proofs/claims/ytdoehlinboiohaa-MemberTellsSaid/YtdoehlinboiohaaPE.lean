/- MemberGreatest. -/
import Derived.Test.YtdoehlinboiohaaPD
namespace Go.Proofs.Ytdoehlinboiohaa.En
open Go
set_option linter.unusedVariables false
set_option linter.unusedSimpArgs false
set_option maxRecDepth 20000
set_option maxHeartbeats 1000000
def S_gr (nl : Bool) (n : Nat) (x : Nat → Ent) (nl2 : Bool) (n2 : Nat) (x2 : Nat → Ent) (m : Ent) (i : Nat) (a : Bool) : St :=
  ⟨[(27, .v (.one (.f (.fs nl 5 n (entE x))))), (28, .v (AI n)), (29, .v (AI i)), (5, .v (.one (.f (.fs nl 5 n (entE x))))), (6, .v (.one (.f (.fs nl2 5 n2 (entE x2))))), (7, .v (AP 0)), (8, .v (AB a))], [(0, .cells m.cv)], 1, false, 0, []⟩

theorem entOf_ite (c : Nat → Bool) (e e' : Nat → List FV) (x y : Nat → Ent) (i : Nat) (h : e i = (x i).fs) (h' : e' i = (y i).fs) : entOf (fun i => iteL (c i) (e i) (e' i)) i = cond (c i) (x i) (y i) := by
  simp only [entOf, h, h']
  cases c i <;> rfl
theorem mxE_eq (a b : Ent) : mxE a b = if lessB a b = true then b else a := by
  rw [mxE, less_mx]
  by_cases h : 0 < compI b a
  · rw [if_pos h, if_pos (decide_eq_true h)]
  · rw [if_neg h, if_neg (by simpa using h)]
theorem mxE_assoc (a b c : Ent) : mxE (mxE a b) c = mxE a (mxE b c) := by
  have h1 := lessP a b
  have h2 := lessP b c
  have h3 := lessP a c
  simp only [mxE_eq]
  cases k1 : lessB a b <;> cases k2 : lessB b c <;> cases k3 : lessB a c <;> simp only [k1, k2, k3, Bool.false_eq_true, if_true, if_false, true_iff, false_iff] at h1 h2 h3 ⊢ <;> (exfalso; omega)
theorem mxE_left (a b : Ent) : lessB (mxE a b) a = false := by
  rw [mxE_eq]
  rcases less_tri a b with ⟨h1, h2, _⟩ | ⟨h1, h2, _⟩ | ⟨h1, h2, _⟩ <;> simp [h1, h2, less_irr]
theorem mxE_right (a b : Ent) : lessB (mxE a b) b = false := by
  rw [mxE_eq]
  cases h : lessB a b <;> simp [h, less_irr]
/-- not less -/
theorem ge_trans {a b c : Ent} (h1 : lessB a b = false) (h2 : lessB b c = false) : lessB a c = false := by
  have k1 := lessP a b
  have k2 := lessP b c
  have k3 := lessP a c
  rw [h1] at k1
  rw [h2] at k2
  cases h : lessB a c with
  | false => rfl
  | true => rw [h] at k3; simp only [Bool.false_eq_true, false_iff, true_iff] at k1 k2 k3; omega
theorem fold_mx (x : Nat → Ent) : ∀ k i a, foldF (fun i a => mxE a (x i)) (k + 1) i a = mxE a (foldF (fun i a => mxE a (x i)) k (i + 1) (x i))
  | 0, i, a => rfl
  | k + 1, i, a => by
    have e1 : foldF (fun i a => mxE a (x i)) (k + 1 + 1) i a = foldF (fun i a => mxE a (x i)) (k + 1) (i + 1) (mxE a (x i)) := rfl
    rw [e1, fold_mx x k (i + 1) (mxE a (x i)), mxE_assoc, ← fold_mx x k (i + 1) (x i)]
theorem fold_ge (x : Nat → Ent) : ∀ k i a, lessB (foldF (fun i a => mxE a (x i)) k i a) a = false ∧ ∀ j, i ≤ j → j < i + k → lessB (foldF (fun i a => mxE a (x i)) k i a) (x j) = false
  | 0, i, a => ⟨less_irr a, fun j h1 h2 => by omega⟩
  | k + 1, i, a => by
    obtain ⟨h1, h2⟩ := fold_ge x k (i + 1) (mxE a (x i))
    refine ⟨ge_trans h1 (mxE_left _ _), fun j h3 h4 => ?_⟩
    rcases Nat.lt_or_ge i j with h | h
    · exact h2 j h (by omega)
    · obtain rfl : j = i := by omega
      exact ge_trans h1 (mxE_right _ _)
theorem fold_mem (x : Nat → Ent) : ∀ k i a, foldF (fun i a => mxE a (x i)) k i a = a ∨ ∃ j, i ≤ j ∧ j < i + k ∧ x j = foldF (fun i a => mxE a (x i)) k i a
  | 0, i, a => .inl rfl
  | k + 1, i, a => by
    have e : foldF (fun i a => mxE a (x i)) (k + 1) i a = foldF (fun i a => mxE a (x i)) k (i + 1) (mxE a (x i)) := rfl
    rw [e]
    rcases fold_mem x k (i + 1) (mxE a (x i)) with h | ⟨j, h1, h2, h3⟩
    · rw [h, mxE_eq]
      split
      · exact .inr ⟨i, Nat.le_refl _, by omega, rfl⟩
      · exact .inl rfl
    · exact .inr ⟨j, by omega, by omega, h3⟩
theorem maxE_ge (x : Nat → Ent) (n i : Nat) (h : i < n) : lessB (maxE x n) (x i) = false := by
  obtain ⟨k, rfl⟩ : ∃ k, n = k + 1 := ⟨n - 1, by omega⟩
  obtain ⟨h1, h2⟩ := fold_ge x k 1 (x 0)
  rcases Nat.eq_zero_or_pos i with rfl | hp
  · exact h1
  · exact h2 i hp (by omega)
theorem maxE_mem (x : Nat → Ent) (n : Nat) (h : 0 < n) : ∃ i, i < n ∧ x i = maxE x n := by
  obtain ⟨k, rfl⟩ : ∃ k, n = k + 1 := ⟨n - 1, by omega⟩
  rcases fold_mem x k 1 (x 0) with h1 | ⟨j, h1, h2, h3⟩
  · exact ⟨0, h, h1.symm⟩
  · exact ⟨j, by omega, h3⟩
theorem maxE_app (x y w : Nat → Ent) (n m : Nat) (hn : 0 < n) (hm : 0 < m) (hx : ∀ i, i < n → w i = x i) (hy : ∀ i, i < m → w (i + n) = y i) : maxE w (n + m) = mxE (maxE x n) (maxE y m) := by
  obtain ⟨k, rfl⟩ : ∃ k, n = k + 1 := ⟨n - 1, by omega⟩
  obtain ⟨l, rfl⟩ : ∃ l, m = l + 1 := ⟨m - 1, by omega⟩
  have e1 : maxE w (k + 1 + (l + 1)) = foldF (fun i a => mxE a (w i)) (k + (l + 1)) 1 (w 0) := by
    rw [show k + 1 + (l + 1) = (k + (l + 1)) + 1 by omega]; rfl
  rw [e1, foldF_add, hx 0 hn]
  have e2 : foldF (fun i a => mxE a (w i)) k 1 (x 0) = maxE x (k + 1) := foldF_congr (d := 0) k 1 (x 0) fun j a h1 h2 => by rw [Nat.add_zero, hx j (by omega)]
  have e3 : ∀ a, foldF (fun i a => mxE a (w i)) (l + 1) (1 + k) a = foldF (fun i a => mxE a (y i)) (l + 1) 0 a := fun a => by
    rw [show 1 + k = 0 + (k + 1) by omega]
    exact foldF_congr (l + 1) 0 a fun j b h1 h2 => by rw [hy j (by omega)]
  rw [e2, e3, fold_mx]
  rfl

noncomputable def GPE1 : Ctx := GS.with ss_Known12 ll_tb
noncomputable def tgt_gr (nl : Bool) (n : Nat) (x : Nat → Ent) (nl2 : Bool) (n2 : Nat) (x2 : Nat → Ent) (m : Ent) (i : Nat) (a : Bool) : T (Ex × St) := evRound GPE1 300 4 Try.f4.ntmps (loopOf Try.f4 6) 1 [27, 28, 29, 5, 6, 7, 8] [5, 6, 7, 8] (S_gr nl n x nl2 n2 x2 m i a)
theorem GKPE1 : KnownOk Try.prog GPE1 := KnownOk.lists ss_Known12_ok ll_tb_ok
theorem GOPE1 : CtxOk Try.prog GPE1 := GS_ok.with _ _
theorem tree_gr (nl : Bool) (n : Nat) (x : Nat → Ent) (nl2 : Bool) (n2 : Nat) (x2 : Nat → Ent) (m : Ent) (i : Nat) (a : Bool) : (tgt_gr nl n x nl2 n2 x2 m i a).over (.br (.br (.br (.br (.tt (.tt (.tt (.br .skip .leaf)))) (.ff (.ff (.ff (.br .skip .leaf))))) .skip) .skip) .leaf) =
  T.br (decide ((↑i : Int) < (↑n : Int)))
    (T.br (!nl)
      (T.br (decide ((0 : Int) ≤ (↑i : Int) ∧ (↑i : Int) < (↑n : Int)))
        (T.br a
          (T.br (lessB m (x i)) T.bad
            (T.ret
              (Ex.normal,
                {
                  sl :=
                    [((27 : Nat),
                        SV.v
                          (AV.one
                            (CV.f
                              (FV.fs nl (5 : Nat) n fun a =>
                                [FV.lit (Value.int IntKind.i64 (Ent.inc (x a))), FV.lit (Value.int IntKind.i64 (Ent.st (x a))), FV.lit (Value.int IntKind.i64 (Ent.stamp (x a))), FV.lit (Value.int IntKind.i64 (Ent.load (x a))),
                                  FV.lit (Value.bool (Ent.dr (x a)))])))),
                      ((28 : Nat), SV.v (AI (↑n : Int))), ((29 : Nat), SV.v (AI (IntKind.wrap IntKind.i64 ((↑i : Int) + (1 : Int))))),
                      ((5 : Nat),
                        SV.v
                          (AV.one
                            (CV.f
                              (FV.fs nl (5 : Nat) n fun a =>
                                [FV.lit (Value.int IntKind.i64 (Ent.inc (x a))), FV.lit (Value.int IntKind.i64 (Ent.st (x a))), FV.lit (Value.int IntKind.i64 (Ent.stamp (x a))), FV.lit (Value.int IntKind.i64 (Ent.load (x a))),
                                  FV.lit (Value.bool (Ent.dr (x a)))])))),
                      ((6 : Nat),
                        SV.v
                          (AV.one
                            (CV.f
                              (FV.fs nl2 (5 : Nat) n2 fun a =>
                                [FV.lit (Value.int IntKind.i64 (Ent.inc (x2 a))), FV.lit (Value.int IntKind.i64 (Ent.st (x2 a))), FV.lit (Value.int IntKind.i64 (Ent.stamp (x2 a))), FV.lit (Value.int IntKind.i64 (Ent.load (x2 a))),
                                  FV.lit (Value.bool (Ent.dr (x2 a)))])))),
                      ((7 : Nat), SV.v (AP (0 : Nat))), ((8 : Nat), SV.v (AB true))],
                  H := [((0 : Nat), Ob.cells [I (Ent.inc m), I (Ent.st m), I (Ent.stamp m), I (Ent.load m), Bo (Ent.dr m)])], nx := (1 : Nat), esc := false, base := (0 : Nat), wr := [] : St })))
          (T.br (lessB m (x i)) T.bad
            (T.ret
              (Ex.normal,
                {
                  sl :=
                    [((27 : Nat),
                        SV.v
                          (AV.one
                            (CV.f
                              (FV.fs nl (5 : Nat) n fun a =>
                                [FV.lit (Value.int IntKind.i64 (Ent.inc (x a))), FV.lit (Value.int IntKind.i64 (Ent.st (x a))), FV.lit (Value.int IntKind.i64 (Ent.stamp (x a))), FV.lit (Value.int IntKind.i64 (Ent.load (x a))),
                                  FV.lit (Value.bool (Ent.dr (x a)))])))),
                      ((28 : Nat), SV.v (AI (↑n : Int))), ((29 : Nat), SV.v (AI (IntKind.wrap IntKind.i64 ((↑i : Int) + (1 : Int))))),
                      ((5 : Nat),
                        SV.v
                          (AV.one
                            (CV.f
                              (FV.fs nl (5 : Nat) n fun a =>
                                [FV.lit (Value.int IntKind.i64 (Ent.inc (x a))), FV.lit (Value.int IntKind.i64 (Ent.st (x a))), FV.lit (Value.int IntKind.i64 (Ent.stamp (x a))), FV.lit (Value.int IntKind.i64 (Ent.load (x a))),
                                  FV.lit (Value.bool (Ent.dr (x a)))])))),
                      ((6 : Nat),
                        SV.v
                          (AV.one
                            (CV.f
                              (FV.fs nl2 (5 : Nat) n2 fun a =>
                                [FV.lit (Value.int IntKind.i64 (Ent.inc (x2 a))), FV.lit (Value.int IntKind.i64 (Ent.st (x2 a))), FV.lit (Value.int IntKind.i64 (Ent.stamp (x2 a))), FV.lit (Value.int IntKind.i64 (Ent.load (x2 a))),
                                  FV.lit (Value.bool (Ent.dr (x2 a)))])))),
                      ((7 : Nat), SV.v (AP (0 : Nat))),
                      ((8 : Nat), SV.v (AB (Ent.inc (x i) == Ent.inc m && (Ent.st (x i) == Ent.st m && (Ent.stamp (x i) == Ent.stamp m && (Ent.load (x i) == Ent.load m && (Ent.dr (x i) == Ent.dr m && true)))))))],
                  H := [((0 : Nat), Ob.cells [I (Ent.inc m), I (Ent.st m), I (Ent.stamp m), I (Ent.load m), Bo (Ent.dr m)])], nx := (1 : Nat), esc := false, base := (0 : Nat), wr := [] : St }))))
        T.bad)
      T.bad)
    (T.ret
      (Ex.exit (0 : Nat),
        {
          sl :=
            [((5 : Nat),
                SV.v
                  (AV.one
                    (CV.f
                      (FV.fs nl (5 : Nat) n fun a =>
                        [FV.lit (Value.int IntKind.i64 (Ent.inc (x a))), FV.lit (Value.int IntKind.i64 (Ent.st (x a))), FV.lit (Value.int IntKind.i64 (Ent.stamp (x a))), FV.lit (Value.int IntKind.i64 (Ent.load (x a))),
                          FV.lit (Value.bool (Ent.dr (x a)))])))),
              ((6 : Nat),
                SV.v
                  (AV.one
                    (CV.f
                      (FV.fs nl2 (5 : Nat) n2 fun a =>
                        [FV.lit (Value.int IntKind.i64 (Ent.inc (x2 a))), FV.lit (Value.int IntKind.i64 (Ent.st (x2 a))), FV.lit (Value.int IntKind.i64 (Ent.stamp (x2 a))), FV.lit (Value.int IntKind.i64 (Ent.load (x2 a))),
                          FV.lit (Value.bool (Ent.dr (x2 a)))])))),
              ((7 : Nat), SV.v (AP (0 : Nat))), ((8 : Nat), SV.v (AB a))],
          H := [((0 : Nat), Ob.cells [I (Ent.inc m), I (Ent.st m), I (Ent.stamp m), I (Ent.load m), Bo (Ent.dr m)])], nx := (1 : Nat), esc := false, base := (0 : Nat), wr := [] : St })) := by kernel_rfl
theorem round_gr (nl : Bool) (n : Nat) (x : Nat → Ent) (nl2 : Bool) (n2 : Nat) (x2 : Nat → Ent) (m : Ent) (hb : (n : Int) ≤ 9223372036854775807) (hnl : nl = true → n = 0) (hle : ∀ i, i < n → lessB m (x i) = false) (i : Nat) (a : Bool) (hi : i < n) (hI : (fun (i : Nat) (a : Bool) => (True : Prop)) i a) : ∃ s, (tgt_gr nl n x nl2 n2 x2 m i a).res = some (.normal, s) ∧ StLe 1 s (S_gr nl n x nl2 n2 x2 m (i + 1) ((fun (i : Nat) (a : Bool) => (a || eqE (x i) m)) i a)) ∧ (fun (i : Nat) (a : Bool) => (True : Prop)) (i + 1) ((fun (i : Nat) (a : Bool) => (a || eqE (x i) m)) i a) := by
  refine T.over_exP (g := fun s => (Ex.normal, s)) (tree_gr nl n x nl2 n2 x2 m i a) ?_
  have e1 : ((i : Int) < (n : Int)) := by omega
  have e2 : (0 : Int) ≤ (i : Int) ∧ (i : Int) < (n : Int) := by omega
  have e3 : IntKind.wrap .i64 ((i : Int) + 1) = ((i + 1 : Nat) : Int) := by rw [wrapI (by omega)]; rfl
  obtain rfl : nl = false := by cases nl <;> simp_all <;> omega
  have e4 := hle i hi
  cases a <;> simp only [T.res_br, T.res_ret, T.res_bad, decide_eq_true_eq, e1, e2, e3, e4, Bool.not_false, Bool.false_eq_true, reduceIte, and_self] <;> exact ⟨_, rfl, StLe.refl (Nat.le_refl 1), trivial⟩
theorem end_gr (nl : Bool) (n : Nat) (x : Nat → Ent) (nl2 : Bool) (n2 : Nat) (x2 : Nat → Ent) (m : Ent) (hb : (n : Int) ≤ 9223372036854775807) (hnl : nl = true → n = 0) (hle : ∀ i, i < n → lessB m (x i) = false) (a : Bool) (hI : (fun (i : Nat) (a : Bool) => (True : Prop)) (n) a) : ∃ s, (tgt_gr nl n x nl2 n2 x2 m (n) a).res = some (.exit 0, s) ∧ StLe 1 s (⟨[(5, .v (.one (.f (.fs nl 5 n (entE x))))), (6, .v (.one (.f (.fs nl2 5 n2 (entE x2))))), (7, .v (AP 0)), (8, .v (AB a))], [(0, .cells m.cv)], 1, false, 0, []⟩) := by
  refine T.over_exP (g := fun s => (.exit 0, s)) (tree_gr nl n x nl2 n2 x2 m (n) a) ?_
  simp only [T.res_br, T.res_ret, T.res_bad, decide_eq_true_eq, Int.lt_irrefl, reduceIte]
  exact ⟨_, rfl, StLe.refl (Nat.le_refl 1)⟩
theorem loop_gr (nl : Bool) (n : Nat) (x : Nat → Ent) (nl2 : Bool) (n2 : Nat) (x2 : Nat → Ent) (m : Ent) (hb : (n : Int) ≤ 9223372036854775807) (hnl : nl = true → n = 0) (hle : ∀ i, i < n → lessB m (x i) = false) (i : Nat) (a : Bool) (hi : i ≤ n) (hI : (fun (i : Nat) (a : Bool) => (True : Prop)) i a) {st0 : St} (h0 : StLe 1 st0 (S_gr nl n x nl2 n2 x2 m i a)) (hnx : st0.nx = 1) :
    CodeOk Try.prog Try.f4.ntmps (.loop (loopOf Try.f4 6)) st0 (.exit 0) ((fun (a : Bool) => ⟨[(5, .v (.one (.f (.fs nl 5 n (entE x))))), (6, .v (.one (.f (.fs nl2 5 n2 (entE x2))))), (7, .v (AP 0)), (8, .v (AB a))], [(0, .cells m.cv)], 1, false, 0, []⟩) (foldF (fun (i : Nat) (a : Bool) => (a || eqE (x i) m)) (n - i) i a)) := by
  have := for_loop GOPE1 GKPE1 (K := 300) (F := 4) (N := Try.f4.ntmps) (c := loopOf Try.f4 6) (m := 1) (live := [27, 28, 29, 5, 6, 7, 8]) (after := [5, 6, 7, 8]) (S_gr nl n x nl2 n2 x2 m) (n) (fun (i : Nat) (a : Bool) => .inl (a || eqE (x i) m)) (fun (a : Bool) => (.exit 0, ⟨[(5, .v (.one (.f (.fs nl 5 n (entE x))))), (6, .v (.one (.f (.fs nl2 5 n2 (entE x2))))), (7, .v (AP 0)), (8, .v (AB a))], [(0, .cells m.cv)], 1, false, 0, []⟩)) (fun (i : Nat) (a : Bool) => (True : Prop))
    (fun i a hi hI => by obtain ⟨s, h1, h2, h3⟩ := round_gr nl n x nl2 n2 x2 m hb hnl hle i a hi hI; exact ⟨_, s, h1, rfl, h2, h3⟩)
    (fun a hI => by obtain ⟨s, h1, h2⟩ := end_gr nl n x nl2 n2 x2 m hb hnl hle a hI; exact ⟨_, s, h1, by simp, rfl, h2⟩)
    (fun i a => by first | exact Nat.le_refl _ | (show 1 ≤ _; decide) | (simp only [S_gr]; omega)) hi hI h0 hnx
  rw [foldX_inl] at this
  exact this
noncomputable def L_gr : LoopF := mkLoopF [27, 28, 29, 5, 6, 7, 8] (loopOf Try.f4 6) Try.f4.ntmps fun sl H nx => match sl, H, nx with
  | [(27, .v (.one (.f (.fs nl 5 n e)))), (28, .v (.one (.f (.lit (.int .i64 k))))), (29, .v (.one (.f (.lit (.int .i64 i))))), (5, .v (.one (.f (.fs nl5 5 n5 e5)))), (6, .v (.one (.f (.fs nl2 5 n2 e2)))), (7, .v (.one (.ptr 0 0 0 0))), (8, .v (.one (.f (.lit (.bool a)))))], [(0, .cells [.f (.lit (.int .i64 m1)), .f (.lit (.int .i64 m2)), .f (.lit (.int .i64 m3)), .f (.lit (.int .i64 m4)), .f (.lit (.bool m5))])], 1 => .need (pb (EntS nl n e ∧ EntE e2 ∧ k = n ∧ i = 0 ∧ nl5 = nl ∧ n5 = n ∧ e5 = e ∧ ∀ i, i < n → lessB ⟨m1, m2, m3, m4, m5⟩ (entOf e i) = false)) (.ret (.exit 0, (St.mk [(5, .v (.one (.f (.fs nl 5 n e)))), (6, .v (.one (.f (.fs nl2 5 n2 e2)))), (7, .v (AP 0)), (8, .v (AB (foldF (fun i a => a || eqE (entOf e i) ⟨m1, m2, m3, m4, m5⟩) n 0 a)))] [(0, .cells [I m1, I m2, I m3, I m4, Bo m5])] 1 false 0 []).sl, (St.mk [(5, .v (.one (.f (.fs nl 5 n e)))), (6, .v (.one (.f (.fs nl2 5 n2 e2)))), (7, .v (AP 0)), (8, .v (AB (foldF (fun i a => a || eqE (entOf e i) ⟨m1, m2, m3, m4, m5⟩) n 0 a)))] [(0, .cells [I m1, I m2, I m3, I m4, Bo m5])] 1 false 0 []).H, 1, false))
  | _, _, _ => .bad
theorem L_gr_ok : LoopOk Try.prog L_gr := by
  refine mkLoopF_ok fun sl H nx e sl' H' nx' esc' h => ?_
  split at h
  · rename_i nl n e k i nl5 n5 e5 nl2 n2 e2 a m1 m2 m3 m4 m5
    obtain ⟨hp, hret⟩ := T.need_some h
    have hp := pb_of hp
    have := T.ret_some hret
    simp only [Prod.mk.injEq] at this
    obtain ⟨rfl, rfl, rfl, rfl, rfl⟩ := this
    clear hret h
    obtain ⟨⟨⟨x, rfl⟩, h1, h2⟩, ⟨x2, rfl⟩, rfl, rfl, rfl, rfl, rfl, h3⟩ := hp
    exact loop_gr _ _ x _ _ x2 ⟨m1, m2, m3, m4, m5⟩ h1 h2 h3 0 a (Nat.zero_le _) trivial (StLe.refl (Nat.le_refl 1)) rfl
  · exact (T.bad_some h).elim
noncomputable def ll_gr : List (Nat × Nat × LoopF) := (4, 6, L_gr) :: ll_tb
theorem ll_gr_ok : ∀ x ∈ ll_gr, LoopOk Try.prog x.2.2 := List.forall_mem_cons.2 ⟨L_gr_ok, ll_tb_ok⟩
noncomputable def GPE2 : Ctx := GS.with ss_Known12 ll_gr
noncomputable def tgt_MGreatest (nl : Bool) (n : Nat) (x : Nat → Ent) (nl2 : Bool) (n2 : Nat) (x2 : Nat → Ent) : T CallOut := evCallW [] GPE2 300 4 [.one (.f (.fs nl 5 n (entE x))), .one (.f (.fs nl2 5 n2 (entE x2)))] [] 0
theorem GKPE2 : KnownOk Try.prog GPE2 := KnownOk.lists ss_Known12_ok ll_gr_ok
theorem GOPE2 : CtxOk Try.prog GPE2 := GS_ok.with _ _
theorem tree_MGreatest (nl : Bool) (n : Nat) (x : Nat → Ent) (nl2 : Bool) (n2 : Nat) (x2 : Nat → Ent) : (tgt_MGreatest nl n x nl2 n2 x2).over (.br (.br (.br (.br (.tt (.tt (.tt (.br (.br (.br (.br (.br (.tt (.tt (.tt (.br (.br (.br (.br (.br (.br (.br (.br (.br (.br (.tt (.tt (.tt (.tt (.tt (.tt (.tt (.br (.tt (.br .leaf .skip)) .skip)))))))) .skip) .skip) .skip) .skip) .skip) .skip) .skip) .skip) .skip) (.br .skip (.br .skip (.br .skip (.br .skip (.br .skip (.br .skip (.br .skip .leaf))))))))))) .skip) (.br (.tt .skip) (.br (.tt (.br (.br (.tt (.tt (.tt (.br (.br (.br (.br (.br (.br (.br (.br (.br (.br (.tt (.tt (.tt (.tt (.tt (.tt (.tt (.br (.tt (.br .leaf .skip)) .skip)))))))) .skip) .skip) .skip) .skip) .skip) .skip) .skip) .skip) .skip) (.br .skip (.br .skip (.br .skip (.br .skip (.br .skip (.br .skip (.br .skip .leaf))))))))))) .skip) .skip)) .skip))) (.br (.tt .skip) (.br (.tt (.br (.br (.br (.tt (.tt (.tt (.br (.br (.br (.br (.br (.br (.br (.br (.br (.br (.tt (.tt (.tt (.tt (.tt (.tt (.tt (.br (.tt (.br .leaf .skip)) .skip)))))))) .skip) .skip) .skip) .skip) .skip) .skip) .skip) .skip) .skip) (.br .skip (.br .skip (.br .skip (.br .skip (.br .skip (.br .skip (.br .skip .leaf))))))))))) .skip) .skip) (.br (.tt .skip) (.br (.br (.br (.br (.tt (.tt (.tt (.br (.br (.br (.br (.br (.br (.br (.br (.br (.br (.tt (.tt (.tt (.tt (.tt (.tt (.tt (.br (.tt (.br .leaf .skip)) .skip)))))))) .skip) .skip) .skip) .skip) .skip) .skip) .skip) .skip) .skip) (.br .skip (.br .skip (.br .skip (.br .skip (.br .skip (.br .skip (.br .skip .leaf))))))))))) .skip) .skip) .skip) .skip)))) .skip))) .skip) .skip)))) (.ff (.ff (.ff (.br (.br (.br (.br (.br (.tt (.tt (.tt (.br (.br (.br (.br (.br .skip (.br .skip (.br .skip (.br (.br .skip (.br (.br (.br (.br (.br (.br (.br (.br (.br (.br (.br .leaf .skip) .skip) .skip) .skip) .skip) .skip) .skip) .skip) .skip) (.br .skip (.br .skip (.br .skip (.br (.br .skip (.br .skip (.br .skip (.br (.br .skip (.br .leaf .skip)) .skip)))) .skip))))) .skip)) .skip)))) .skip) .skip) .skip) (.br .skip (.br .skip (.br .skip (.br .skip (.br .skip (.br .skip (.br .skip .leaf))))))))))) .skip) (.br (.tt .skip) (.br (.tt (.br (.br (.tt (.tt (.tt (.br (.br (.br (.br (.br .skip (.br .skip (.br .skip (.br (.br .skip (.br (.br (.br (.br (.br (.br (.br (.br (.br (.br (.br .leaf .skip) .skip) .skip) .skip) .skip) .skip) .skip) .skip) .skip) (.br .skip (.br .skip (.br .skip (.br (.br .skip (.br .skip (.br .skip (.br (.br .skip (.br .leaf .skip)) .skip)))) .skip))))) .skip)) .skip)))) .skip) .skip) .skip) (.br .skip (.br .skip (.br .skip (.br .skip (.br .skip (.br .skip (.br .skip .leaf))))))))))) .skip) .skip)) .skip))) (.br (.tt .skip) (.br (.tt (.br (.br (.br (.tt (.tt (.tt (.br (.br (.br (.br (.br .skip (.br .skip (.br .skip (.br (.br .skip (.br (.br (.br (.br (.br (.br (.br (.br (.br (.br (.br .leaf .skip) .skip) .skip) .skip) .skip) .skip) .skip) .skip) .skip) (.br .skip (.br .skip (.br .skip (.br (.br .skip (.br .skip (.br .skip (.br (.br .skip (.br .leaf .skip)) .skip)))) .skip))))) .skip)) .skip)))) .skip) .skip) .skip) (.br .skip (.br .skip (.br .skip (.br .skip (.br .skip (.br .skip (.br .skip .leaf))))))))))) .skip) .skip) (.br (.tt .skip) (.br (.br (.br (.br (.tt (.tt (.tt (.br (.br (.br (.br (.br .skip (.br .skip (.br .skip (.br (.br .skip (.br (.br (.br (.br (.br (.br (.br (.br (.br (.br (.br .leaf .skip) .skip) .skip) .skip) .skip) .skip) .skip) .skip) .skip) (.br .skip (.br .skip (.br .skip (.br (.br .skip (.br .skip (.br .skip (.br (.br .skip (.br .leaf .skip)) .skip)))) .skip))))) .skip)) .skip)))) .skip) .skip) .skip) (.br .skip (.br .skip (.br .skip (.br .skip (.br .skip (.br .skip (.br .skip .leaf))))))))))) .skip) .skip) .skip) .skip)))) .skip))) .skip) .skip))))) .skip) .skip) .skip) =
  T.br (pb (EntL nl n (entE x) ∧ (0 : Int) ≤ (8 : Int) ∧ (8 : Int) ≤ (1000 : Int)))
    (T.br (pb (EntL nl2 n2 (entE x2) ∧ (0 : Int) ≤ (8 : Int) ∧ (8 : Int) ≤ (1000 : Int)))
      (T.br (pb (EntL (Nat.beq (min n (8 : Nat)) (0 : Nat)) (min n (8 : Nat)) (entE fun j => entR (entOf (entE x) j))))
        (T.br ((↑(min n (8 : Nat)) : Int) == (0 : Int))
          (T.br (pb (loopOf Proofs.Try.f4 (6 : Nat) = loopOf Proofs.Try.f4 (6 : Nat) ∧ (73 : Nat) = (73 : Nat)))
            (T.br
              (pb
                (EntS (Nat.beq (min n (8 : Nat)) (0 : Nat)) (min n (8 : Nat)) (entE fun j => entR (entOf (entE x) j)) ∧
                  EntE (entE fun j => entR (entOf (entE x2) j)) ∧
                    (↑(min n (8 : Nat)) : Int) = (↑(min n (8 : Nat)) : Int) ∧
                      (0 : Int) = (0 : Int) ∧
                        Nat.beq (min n (8 : Nat)) (0 : Nat) = Nat.beq (min n (8 : Nat)) (0 : Nat) ∧
                          min n (8 : Nat) = min n (8 : Nat) ∧
                            ((entE fun j => entR (entOf (entE x) j)) = entE fun j => entR (entOf (entE x) j)) ∧
                              ∀ (i : Nat), i < min n (8 : Nat) → lessB (maxE (fun j => entR (entOf (entE x) j)) (min n (8 : Nat))) (entOf (entE fun j => entR (entOf (entE x) j)) i) = false))
              (T.br (Nat.beq (min n (8 : Nat)) (0 : Nat))
                (T.br (Nat.beq (min n2 (8 : Nat)) (0 : Nat))
                  (T.br (pb (EntL false (0 : Nat) (selL (chunks (5 : Nat) (0 : Nat) []))))
                    (T.br
                      (foldF (fun i a => a || eqE (entOf (entE fun j => entR (entOf (entE x) j)) i) (maxE (fun j => entR (entOf (entE x) j)) (min n (8 : Nat)))) (min n (8 : Nat)) (0 : Nat)
                        (Ent.inc (maxE (fun j => entR (entOf (entE x) j)) (min n (8 : Nat))) == (0 : Int) &&
                          (Ent.st (maxE (fun j => entR (entOf (entE x) j)) (min n (8 : Nat))) == (0 : Int) &&
                            (Ent.stamp (maxE (fun j => entR (entOf (entE x) j)) (min n (8 : Nat))) == (0 : Int) &&
                              (Ent.load (maxE (fun j => entR (entOf (entE x) j)) (min n (8 : Nat))) == (0 : Int) && (Ent.dr (maxE (fun j => entR (entOf (entE x) j)) (min n (8 : Nat))) == false && true))))))
                      (T.br
                        (foldF (fun i a => a || eqE (entOf (entE fun j => entR (entOf (entE x) j)) i) (maxE (fun j => entR (entOf (entE x) j)) (min n (8 : Nat)))) (min n (8 : Nat)) (0 : Nat)
                          (Ent.inc (maxE (fun j => entR (entOf (entE x) j)) (min n (8 : Nat))) == (0 : Int) &&
                            (Ent.st (maxE (fun j => entR (entOf (entE x) j)) (min n (8 : Nat))) == (0 : Int) &&
                              (Ent.stamp (maxE (fun j => entR (entOf (entE x) j)) (min n (8 : Nat))) == (0 : Int) &&
                                (Ent.load (maxE (fun j => entR (entOf (entE x) j)) (min n (8 : Nat))) == (0 : Int) && (Ent.dr (maxE (fun j => entR (entOf (entE x) j)) (min n (8 : Nat))) == false && true))))))
                        (T.br
                          (foldF (fun i a => a || eqE (entOf (entE fun j => entR (entOf (entE x) j)) i) (maxE (fun j => entR (entOf (entE x) j)) (min n (8 : Nat)))) (min n (8 : Nat)) (0 : Nat)
                            (Ent.inc (maxE (fun j => entR (entOf (entE x) j)) (min n (8 : Nat))) == (0 : Int) &&
                              (Ent.st (maxE (fun j => entR (entOf (entE x) j)) (min n (8 : Nat))) == (0 : Int) &&
                                (Ent.stamp (maxE (fun j => entR (entOf (entE x) j)) (min n (8 : Nat))) == (0 : Int) &&
                                  (Ent.load (maxE (fun j => entR (entOf (entE x) j)) (min n (8 : Nat))) == (0 : Int) && (Ent.dr (maxE (fun j => entR (entOf (entE x) j)) (min n (8 : Nat))) == false && true))))))
                          (T.br
                            (foldF (fun i a => a || eqE (entOf (entE fun j => entR (entOf (entE x) j)) i) (maxE (fun j => entR (entOf (entE x) j)) (min n (8 : Nat)))) (min n (8 : Nat)) (0 : Nat)
                              (Ent.inc (maxE (fun j => entR (entOf (entE x) j)) (min n (8 : Nat))) == (0 : Int) &&
                                (Ent.st (maxE (fun j => entR (entOf (entE x) j)) (min n (8 : Nat))) == (0 : Int) &&
                                  (Ent.stamp (maxE (fun j => entR (entOf (entE x) j)) (min n (8 : Nat))) == (0 : Int) &&
                                    (Ent.load (maxE (fun j => entR (entOf (entE x) j)) (min n (8 : Nat))) == (0 : Int) && (Ent.dr (maxE (fun j => entR (entOf (entE x) j)) (min n (8 : Nat))) == false && true))))))
                            (T.br ((↑(min n (8 : Nat)) : Int) == (0 : Int))
                              (T.br ((↑(min n (8 : Nat)) : Int) == (0 : Int))
                                (T.br ((↑(min n (8 : Nat)) : Int) == (0 : Int))
                                  (T.br
                                    (foldF (fun i a => a || eqE (entOf (entE fun j => entR (entOf (entE x) j)) i) (maxE (fun j => entR (entOf (entE x) j)) (min n (8 : Nat)))) (min n (8 : Nat)) (0 : Nat)
                                      (Ent.inc (maxE (fun j => entR (entOf (entE x) j)) (min n (8 : Nat))) == (0 : Int) &&
                                        (Ent.st (maxE (fun j => entR (entOf (entE x) j)) (min n (8 : Nat))) == (0 : Int) &&
                                          (Ent.stamp (maxE (fun j => entR (entOf (entE x) j)) (min n (8 : Nat))) == (0 : Int) &&
                                            (Ent.load (maxE (fun j => entR (entOf (entE x) j)) (min n (8 : Nat))) == (0 : Int) && (Ent.dr (maxE (fun j => entR (entOf (entE x) j)) (min n (8 : Nat))) == false && true))))))
                                    (T.br ((↑(min n (8 : Nat)) : Int) == (0 : Int))
                                      (T.br
                                        (foldF (fun i a => a || eqE (entOf (entE fun j => entR (entOf (entE x) j)) i) (maxE (fun j => entR (entOf (entE x) j)) (min n (8 : Nat)))) (min n (8 : Nat)) (0 : Nat)
                                          (Ent.inc (maxE (fun j => entR (entOf (entE x) j)) (min n (8 : Nat))) == (0 : Int) &&
                                            (Ent.st (maxE (fun j => entR (entOf (entE x) j)) (min n (8 : Nat))) == (0 : Int) &&
                                              (Ent.stamp (maxE (fun j => entR (entOf (entE x) j)) (min n (8 : Nat))) == (0 : Int) &&
                                                (Ent.load (maxE (fun j => entR (entOf (entE x) j)) (min n (8 : Nat))) == (0 : Int) && (Ent.dr (maxE (fun j => entR (entOf (entE x) j)) (min n (8 : Nat))) == false && true))))))
                                        (T.br
                                          (foldF (fun i a => a || eqE (entOf (entE fun j => entR (entOf (entE x) j)) i) (maxE (fun j => entR (entOf (entE x) j)) (min n (8 : Nat)))) (min n (8 : Nat)) (0 : Nat)
                                            (Ent.inc (maxE (fun j => entR (entOf (entE x) j)) (min n (8 : Nat))) == (0 : Int) &&
                                              (Ent.st (maxE (fun j => entR (entOf (entE x) j)) (min n (8 : Nat))) == (0 : Int) &&
                                                (Ent.stamp (maxE (fun j => entR (entOf (entE x) j)) (min n (8 : Nat))) == (0 : Int) &&
                                                  (Ent.load (maxE (fun j => entR (entOf (entE x) j)) (min n (8 : Nat))) == (0 : Int) && (Ent.dr (maxE (fun j => entR (entOf (entE x) j)) (min n (8 : Nat))) == false && true))))))
                                          (T.br
                                            (foldF (fun i a => a || eqE (entOf (entE fun j => entR (entOf (entE x) j)) i) (maxE (fun j => entR (entOf (entE x) j)) (min n (8 : Nat)))) (min n (8 : Nat)) (0 : Nat)
                                              (Ent.inc (maxE (fun j => entR (entOf (entE x) j)) (min n (8 : Nat))) == (0 : Int) &&
                                                (Ent.st (maxE (fun j => entR (entOf (entE x) j)) (min n (8 : Nat))) == (0 : Int) &&
                                                  (Ent.stamp (maxE (fun j => entR (entOf (entE x) j)) (min n (8 : Nat))) == (0 : Int) &&
                                                    (Ent.load (maxE (fun j => entR (entOf (entE x) j)) (min n (8 : Nat))) == (0 : Int) && (Ent.dr (maxE (fun j => entR (entOf (entE x) j)) (min n (8 : Nat))) == false && true))))))
                                            (T.ret (out0 (SV.v (AB true)))) T.bad)
                                          T.bad)
                                        T.bad)
                                      T.bad)
                                    T.bad)
                                  T.bad)
                                T.bad)
                              T.bad)
                            T.bad)
                          T.bad)
                        T.bad)
                      (T.br
                        (foldF (fun i a => a || eqE (entOf (entE fun j => entR (entOf (entE x) j)) i) (maxE (fun j => entR (entOf (entE x) j)) (min n (8 : Nat)))) (min n (8 : Nat)) (0 : Nat)
                          (Ent.inc (maxE (fun j => entR (entOf (entE x) j)) (min n (8 : Nat))) == (0 : Int) &&
                            (Ent.st (maxE (fun j => entR (entOf (entE x) j)) (min n (8 : Nat))) == (0 : Int) &&
                              (Ent.stamp (maxE (fun j => entR (entOf (entE x) j)) (min n (8 : Nat))) == (0 : Int) &&
                                (Ent.load (maxE (fun j => entR (entOf (entE x) j)) (min n (8 : Nat))) == (0 : Int) && (Ent.dr (maxE (fun j => entR (entOf (entE x) j)) (min n (8 : Nat))) == false && true))))))
                        T.bad
                        (T.br
                          (foldF (fun i a => a || eqE (entOf (entE fun j => entR (entOf (entE x) j)) i) (maxE (fun j => entR (entOf (entE x) j)) (min n (8 : Nat)))) (min n (8 : Nat)) (0 : Nat)
                            (Ent.inc (maxE (fun j => entR (entOf (entE x) j)) (min n (8 : Nat))) == (0 : Int) &&
                              (Ent.st (maxE (fun j => entR (entOf (entE x) j)) (min n (8 : Nat))) == (0 : Int) &&
                                (Ent.stamp (maxE (fun j => entR (entOf (entE x) j)) (min n (8 : Nat))) == (0 : Int) &&
                                  (Ent.load (maxE (fun j => entR (entOf (entE x) j)) (min n (8 : Nat))) == (0 : Int) && (Ent.dr (maxE (fun j => entR (entOf (entE x) j)) (min n (8 : Nat))) == false && true))))))
                          T.bad
                          (T.br
                            (foldF (fun i a => a || eqE (entOf (entE fun j => entR (entOf (entE x) j)) i) (maxE (fun j => entR (entOf (entE x) j)) (min n (8 : Nat)))) (min n (8 : Nat)) (0 : Nat)
                              (Ent.inc (maxE (fun j => entR (entOf (entE x) j)) (min n (8 : Nat))) == (0 : Int) &&
                                (Ent.st (maxE (fun j => entR (entOf (entE x) j)) (min n (8 : Nat))) == (0 : Int) &&
                                  (Ent.stamp (maxE (fun j => entR (entOf (entE x) j)) (min n (8 : Nat))) == (0 : Int) &&
                                    (Ent.load (maxE (fun j => entR (entOf (entE x) j)) (min n (8 : Nat))) == (0 : Int) && (Ent.dr (maxE (fun j => entR (entOf (entE x) j)) (min n (8 : Nat))) == false && true))))))
                            T.bad
                            (T.br
                              (foldF (fun i a => a || eqE (entOf (entE fun j => entR (entOf (entE x) j)) i) (maxE (fun j => entR (entOf (entE x) j)) (min n (8 : Nat)))) (min n (8 : Nat)) (0 : Nat)
                                (Ent.inc (maxE (fun j => entR (entOf (entE x) j)) (min n (8 : Nat))) == (0 : Int) &&
                                  (Ent.st (maxE (fun j => entR (entOf (entE x) j)) (min n (8 : Nat))) == (0 : Int) &&
                                    (Ent.stamp (maxE (fun j => entR (entOf (entE x) j)) (min n (8 : Nat))) == (0 : Int) &&
                                      (Ent.load (maxE (fun j => entR (entOf (entE x) j)) (min n (8 : Nat))) == (0 : Int) && (Ent.dr (maxE (fun j => entR (entOf (entE x) j)) (min n (8 : Nat))) == false && true))))))
                              T.bad
                              (T.br
                                (foldF (fun i a => a || eqE (entOf (entE fun j => entR (entOf (entE x) j)) i) (maxE (fun j => entR (entOf (entE x) j)) (min n (8 : Nat)))) (min n (8 : Nat)) (0 : Nat)
                                  (Ent.inc (maxE (fun j => entR (entOf (entE x) j)) (min n (8 : Nat))) == (0 : Int) &&
                                    (Ent.st (maxE (fun j => entR (entOf (entE x) j)) (min n (8 : Nat))) == (0 : Int) &&
                                      (Ent.stamp (maxE (fun j => entR (entOf (entE x) j)) (min n (8 : Nat))) == (0 : Int) &&
                                        (Ent.load (maxE (fun j => entR (entOf (entE x) j)) (min n (8 : Nat))) == (0 : Int) && (Ent.dr (maxE (fun j => entR (entOf (entE x) j)) (min n (8 : Nat))) == false && true))))))
                                T.bad
                                (T.br
                                  (foldF (fun i a => a || eqE (entOf (entE fun j => entR (entOf (entE x) j)) i) (maxE (fun j => entR (entOf (entE x) j)) (min n (8 : Nat)))) (min n (8 : Nat)) (0 : Nat)
                                    (Ent.inc (maxE (fun j => entR (entOf (entE x) j)) (min n (8 : Nat))) == (0 : Int) &&
                                      (Ent.st (maxE (fun j => entR (entOf (entE x) j)) (min n (8 : Nat))) == (0 : Int) &&
                                        (Ent.stamp (maxE (fun j => entR (entOf (entE x) j)) (min n (8 : Nat))) == (0 : Int) &&
                                          (Ent.load (maxE (fun j => entR (entOf (entE x) j)) (min n (8 : Nat))) == (0 : Int) && (Ent.dr (maxE (fun j => entR (entOf (entE x) j)) (min n (8 : Nat))) == false && true))))))
                                  T.bad
                                  (T.br
                                    (foldF (fun i a => a || eqE (entOf (entE fun j => entR (entOf (entE x) j)) i) (maxE (fun j => entR (entOf (entE x) j)) (min n (8 : Nat)))) (min n (8 : Nat)) (0 : Nat)
                                      (Ent.inc (maxE (fun j => entR (entOf (entE x) j)) (min n (8 : Nat))) == (0 : Int) &&
                                        (Ent.st (maxE (fun j => entR (entOf (entE x) j)) (min n (8 : Nat))) == (0 : Int) &&
                                          (Ent.stamp (maxE (fun j => entR (entOf (entE x) j)) (min n (8 : Nat))) == (0 : Int) &&
                                            (Ent.load (maxE (fun j => entR (entOf (entE x) j)) (min n (8 : Nat))) == (0 : Int) && (Ent.dr (maxE (fun j => entR (entOf (entE x) j)) (min n (8 : Nat))) == false && true))))))
                                    T.bad (T.ret (out0 (SV.v (AB false))))))))))))
                    T.bad)
                  (T.br (Nat.ble ((0 : Nat) + min n2 (8 : Nat)) (0 : Nat)) T.bad
                    (T.br (smallB ((0 : Nat) + min n2 (8 : Nat)) (40 : Nat))
                      (T.br (Nat.ble ((0 : Nat) + min n2 (8 : Nat)) ((0 : Nat) + min n2 (8 : Nat)) && true)
                        (T.br (pb (EntL false ((0 : Nat) + min n2 (8 : Nat)) fun i => iteL (Nat.ble (i + (1 : Nat)) (0 : Nat)) (selL (chunks (5 : Nat) (0 : Nat) []) i) (entE (fun j => entR (entOf (entE x2) j)) (i - (0 : Nat)))))
                          (T.br
                            (foldF (fun i a => a || eqE (entOf (entE fun j => entR (entOf (entE x) j)) i) (maxE (fun j => entR (entOf (entE x) j)) (min n (8 : Nat)))) (min n (8 : Nat)) (0 : Nat)
                              (Ent.inc (maxE (fun j => entR (entOf (entE x) j)) (min n (8 : Nat))) == (0 : Int) &&
                                (Ent.st (maxE (fun j => entR (entOf (entE x) j)) (min n (8 : Nat))) == (0 : Int) &&
                                  (Ent.stamp (maxE (fun j => entR (entOf (entE x) j)) (min n (8 : Nat))) == (0 : Int) &&
                                    (Ent.load (maxE (fun j => entR (entOf (entE x) j)) (min n (8 : Nat))) == (0 : Int) && (Ent.dr (maxE (fun j => entR (entOf (entE x) j)) (min n (8 : Nat))) == false && true))))))
                            (T.br
                              (foldF (fun i a => a || eqE (entOf (entE fun j => entR (entOf (entE x) j)) i) (maxE (fun j => entR (entOf (entE x) j)) (min n (8 : Nat)))) (min n (8 : Nat)) (0 : Nat)
                                (Ent.inc (maxE (fun j => entR (entOf (entE x) j)) (min n (8 : Nat))) == (0 : Int) &&
                                  (Ent.st (maxE (fun j => entR (entOf (entE x) j)) (min n (8 : Nat))) == (0 : Int) &&
                                    (Ent.stamp (maxE (fun j => entR (entOf (entE x) j)) (min n (8 : Nat))) == (0 : Int) &&
                                      (Ent.load (maxE (fun j => entR (entOf (entE x) j)) (min n (8 : Nat))) == (0 : Int) && (Ent.dr (maxE (fun j => entR (entOf (entE x) j)) (min n (8 : Nat))) == false && true))))))
                              (T.br
                                (foldF (fun i a => a || eqE (entOf (entE fun j => entR (entOf (entE x) j)) i) (maxE (fun j => entR (entOf (entE x) j)) (min n (8 : Nat)))) (min n (8 : Nat)) (0 : Nat)
                                  (Ent.inc (maxE (fun j => entR (entOf (entE x) j)) (min n (8 : Nat))) == (0 : Int) &&
                                    (Ent.st (maxE (fun j => entR (entOf (entE x) j)) (min n (8 : Nat))) == (0 : Int) &&
                                      (Ent.stamp (maxE (fun j => entR (entOf (entE x) j)) (min n (8 : Nat))) == (0 : Int) &&
                                        (Ent.load (maxE (fun j => entR (entOf (entE x) j)) (min n (8 : Nat))) == (0 : Int) && (Ent.dr (maxE (fun j => entR (entOf (entE x) j)) (min n (8 : Nat))) == false && true))))))
                                (T.br
                                  (foldF (fun i a => a || eqE (entOf (entE fun j => entR (entOf (entE x) j)) i) (maxE (fun j => entR (entOf (entE x) j)) (min n (8 : Nat)))) (min n (8 : Nat)) (0 : Nat)
                                    (Ent.inc (maxE (fun j => entR (entOf (entE x) j)) (min n (8 : Nat))) == (0 : Int) &&
                                      (Ent.st (maxE (fun j => entR (entOf (entE x) j)) (min n (8 : Nat))) == (0 : Int) &&
                                        (Ent.stamp (maxE (fun j => entR (entOf (entE x) j)) (min n (8 : Nat))) == (0 : Int) &&
                                          (Ent.load (maxE (fun j => entR (entOf (entE x) j)) (min n (8 : Nat))) == (0 : Int) && (Ent.dr (maxE (fun j => entR (entOf (entE x) j)) (min n (8 : Nat))) == false && true))))))
                                  (T.br ((↑(min n (8 : Nat)) : Int) == (0 : Int))
                                    (T.br ((↑(min n (8 : Nat)) : Int) == (0 : Int))
                                      (T.br ((↑(min n (8 : Nat)) : Int) == (0 : Int))
                                        (T.br
                                          (foldF (fun i a => a || eqE (entOf (entE fun j => entR (entOf (entE x) j)) i) (maxE (fun j => entR (entOf (entE x) j)) (min n (8 : Nat)))) (min n (8 : Nat)) (0 : Nat)
                                            (Ent.inc (maxE (fun j => entR (entOf (entE x) j)) (min n (8 : Nat))) == (0 : Int) &&
                                              (Ent.st (maxE (fun j => entR (entOf (entE x) j)) (min n (8 : Nat))) == (0 : Int) &&
                                                (Ent.stamp (maxE (fun j => entR (entOf (entE x) j)) (min n (8 : Nat))) == (0 : Int) &&
                                                  (Ent.load (maxE (fun j => entR (entOf (entE x) j)) (min n (8 : Nat))) == (0 : Int) && (Ent.dr (maxE (fun j => entR (entOf (entE x) j)) (min n (8 : Nat))) == false && true))))))
                                          (T.br ((↑(min n (8 : Nat)) : Int) == (0 : Int))
                                            (T.br
                                              (foldF (fun i a => a || eqE (entOf (entE fun j => entR (entOf (entE x) j)) i) (maxE (fun j => entR (entOf (entE x) j)) (min n (8 : Nat)))) (min n (8 : Nat)) (0 : Nat)
                                                (Ent.inc (maxE (fun j => entR (entOf (entE x) j)) (min n (8 : Nat))) == (0 : Int) &&
                                                  (Ent.st (maxE (fun j => entR (entOf (entE x) j)) (min n (8 : Nat))) == (0 : Int) &&
                                                    (Ent.stamp (maxE (fun j => entR (entOf (entE x) j)) (min n (8 : Nat))) == (0 : Int) &&
                                                      (Ent.load (maxE (fun j => entR (entOf (entE x) j)) (min n (8 : Nat))) == (0 : Int) && (Ent.dr (maxE (fun j => entR (entOf (entE x) j)) (min n (8 : Nat))) == false && true))))))
                                              (T.br
                                                (foldF (fun i a => a || eqE (entOf (entE fun j => entR (entOf (entE x) j)) i) (maxE (fun j => entR (entOf (entE x) j)) (min n (8 : Nat)))) (min n (8 : Nat)) (0 : Nat)
                                                  (Ent.inc (maxE (fun j => entR (entOf (entE x) j)) (min n (8 : Nat))) == (0 : Int) &&
                                                    (Ent.st (maxE (fun j => entR (entOf (entE x) j)) (min n (8 : Nat))) == (0 : Int) &&
                                                      (Ent.stamp (maxE (fun j => entR (entOf (entE x) j)) (min n (8 : Nat))) == (0 : Int) &&
                                                        (Ent.load (maxE (fun j => entR (entOf (entE x) j)) (min n (8 : Nat))) == (0 : Int) && (Ent.dr (maxE (fun j => entR (entOf (entE x) j)) (min n (8 : Nat))) == false && true))))))
                                                (T.br
                                                  (foldF (fun i a => a || eqE (entOf (entE fun j => entR (entOf (entE x) j)) i) (maxE (fun j => entR (entOf (entE x) j)) (min n (8 : Nat)))) (min n (8 : Nat)) (0 : Nat)
                                                    (Ent.inc (maxE (fun j => entR (entOf (entE x) j)) (min n (8 : Nat))) == (0 : Int) &&
                                                      (Ent.st (maxE (fun j => entR (entOf (entE x) j)) (min n (8 : Nat))) == (0 : Int) &&
                                                        (Ent.stamp (maxE (fun j => entR (entOf (entE x) j)) (min n (8 : Nat))) == (0 : Int) &&
                                                          (Ent.load (maxE (fun j => entR (entOf (entE x) j)) (min n (8 : Nat))) == (0 : Int) && (Ent.dr (maxE (fun j => entR (entOf (entE x) j)) (min n (8 : Nat))) == false && true))))))
                                                  (T.ret (out0 (SV.v (AB true)))) T.bad)
                                                T.bad)
                                              T.bad)
                                            T.bad)
                                          T.bad)
                                        T.bad)
                                      T.bad)
                                    T.bad)
                                  T.bad)
                                T.bad)
                              T.bad)
                            (T.br
                              (foldF (fun i a => a || eqE (entOf (entE fun j => entR (entOf (entE x) j)) i) (maxE (fun j => entR (entOf (entE x) j)) (min n (8 : Nat)))) (min n (8 : Nat)) (0 : Nat)
                                (Ent.inc (maxE (fun j => entR (entOf (entE x) j)) (min n (8 : Nat))) == (0 : Int) &&
                                  (Ent.st (maxE (fun j => entR (entOf (entE x) j)) (min n (8 : Nat))) == (0 : Int) &&
                                    (Ent.stamp (maxE (fun j => entR (entOf (entE x) j)) (min n (8 : Nat))) == (0 : Int) &&
                                      (Ent.load (maxE (fun j => entR (entOf (entE x) j)) (min n (8 : Nat))) == (0 : Int) && (Ent.dr (maxE (fun j => entR (entOf (entE x) j)) (min n (8 : Nat))) == false && true))))))
                              T.bad
                              (T.br
                                (foldF (fun i a => a || eqE (entOf (entE fun j => entR (entOf (entE x) j)) i) (maxE (fun j => entR (entOf (entE x) j)) (min n (8 : Nat)))) (min n (8 : Nat)) (0 : Nat)
                                  (Ent.inc (maxE (fun j => entR (entOf (entE x) j)) (min n (8 : Nat))) == (0 : Int) &&
                                    (Ent.st (maxE (fun j => entR (entOf (entE x) j)) (min n (8 : Nat))) == (0 : Int) &&
                                      (Ent.stamp (maxE (fun j => entR (entOf (entE x) j)) (min n (8 : Nat))) == (0 : Int) &&
                                        (Ent.load (maxE (fun j => entR (entOf (entE x) j)) (min n (8 : Nat))) == (0 : Int) && (Ent.dr (maxE (fun j => entR (entOf (entE x) j)) (min n (8 : Nat))) == false && true))))))
                                T.bad
                                (T.br
                                  (foldF (fun i a => a || eqE (entOf (entE fun j => entR (entOf (entE x) j)) i) (maxE (fun j => entR (entOf (entE x) j)) (min n (8 : Nat)))) (min n (8 : Nat)) (0 : Nat)
                                    (Ent.inc (maxE (fun j => entR (entOf (entE x) j)) (min n (8 : Nat))) == (0 : Int) &&
                                      (Ent.st (maxE (fun j => entR (entOf (entE x) j)) (min n (8 : Nat))) == (0 : Int) &&
                                        (Ent.stamp (maxE (fun j => entR (entOf (entE x) j)) (min n (8 : Nat))) == (0 : Int) &&
                                          (Ent.load (maxE (fun j => entR (entOf (entE x) j)) (min n (8 : Nat))) == (0 : Int) && (Ent.dr (maxE (fun j => entR (entOf (entE x) j)) (min n (8 : Nat))) == false && true))))))
                                  T.bad
                                  (T.br
                                    (foldF (fun i a => a || eqE (entOf (entE fun j => entR (entOf (entE x) j)) i) (maxE (fun j => entR (entOf (entE x) j)) (min n (8 : Nat)))) (min n (8 : Nat)) (0 : Nat)
                                      (Ent.inc (maxE (fun j => entR (entOf (entE x) j)) (min n (8 : Nat))) == (0 : Int) &&
                                        (Ent.st (maxE (fun j => entR (entOf (entE x) j)) (min n (8 : Nat))) == (0 : Int) &&
                                          (Ent.stamp (maxE (fun j => entR (entOf (entE x) j)) (min n (8 : Nat))) == (0 : Int) &&
                                            (Ent.load (maxE (fun j => entR (entOf (entE x) j)) (min n (8 : Nat))) == (0 : Int) && (Ent.dr (maxE (fun j => entR (entOf (entE x) j)) (min n (8 : Nat))) == false && true))))))
                                    T.bad
                                    (T.br
                                      (foldF (fun i a => a || eqE (entOf (entE fun j => entR (entOf (entE x) j)) i) (maxE (fun j => entR (entOf (entE x) j)) (min n (8 : Nat)))) (min n (8 : Nat)) (0 : Nat)
                                        (Ent.inc (maxE (fun j => entR (entOf (entE x) j)) (min n (8 : Nat))) == (0 : Int) &&
                                          (Ent.st (maxE (fun j => entR (entOf (entE x) j)) (min n (8 : Nat))) == (0 : Int) &&
                                            (Ent.stamp (maxE (fun j => entR (entOf (entE x) j)) (min n (8 : Nat))) == (0 : Int) &&
                                              (Ent.load (maxE (fun j => entR (entOf (entE x) j)) (min n (8 : Nat))) == (0 : Int) && (Ent.dr (maxE (fun j => entR (entOf (entE x) j)) (min n (8 : Nat))) == false && true))))))
                                      T.bad
                                      (T.br
                                        (foldF (fun i a => a || eqE (entOf (entE fun j => entR (entOf (entE x) j)) i) (maxE (fun j => entR (entOf (entE x) j)) (min n (8 : Nat)))) (min n (8 : Nat)) (0 : Nat)
                                          (Ent.inc (maxE (fun j => entR (entOf (entE x) j)) (min n (8 : Nat))) == (0 : Int) &&
                                            (Ent.st (maxE (fun j => entR (entOf (entE x) j)) (min n (8 : Nat))) == (0 : Int) &&
                                              (Ent.stamp (maxE (fun j => entR (entOf (entE x) j)) (min n (8 : Nat))) == (0 : Int) &&
                                                (Ent.load (maxE (fun j => entR (entOf (entE x) j)) (min n (8 : Nat))) == (0 : Int) && (Ent.dr (maxE (fun j => entR (entOf (entE x) j)) (min n (8 : Nat))) == false && true))))))
                                        T.bad
                                        (T.br
                                          (foldF (fun i a => a || eqE (entOf (entE fun j => entR (entOf (entE x) j)) i) (maxE (fun j => entR (entOf (entE x) j)) (min n (8 : Nat)))) (min n (8 : Nat)) (0 : Nat)
                                            (Ent.inc (maxE (fun j => entR (entOf (entE x) j)) (min n (8 : Nat))) == (0 : Int) &&
                                              (Ent.st (maxE (fun j => entR (entOf (entE x) j)) (min n (8 : Nat))) == (0 : Int) &&
                                                (Ent.stamp (maxE (fun j => entR (entOf (entE x) j)) (min n (8 : Nat))) == (0 : Int) &&
                                                  (Ent.load (maxE (fun j => entR (entOf (entE x) j)) (min n (8 : Nat))) == (0 : Int) && (Ent.dr (maxE (fun j => entR (entOf (entE x) j)) (min n (8 : Nat))) == false && true))))))
                                          T.bad (T.ret (out0 (SV.v (AB false))))))))))))
                          T.bad)
                        T.bad)
                      T.bad)))
                (T.br (Nat.ble ((0 : Nat) + min n (8 : Nat)) (0 : Nat)) T.bad
                  (T.br (smallB ((0 : Nat) + min n (8 : Nat)) (40 : Nat))
                    (T.br (Nat.beq (min n2 (8 : Nat)) (0 : Nat))
                      (T.br (Nat.ble ((0 : Nat) + min n (8 : Nat)) ((0 : Nat) + min n (8 : Nat)) && true)
                        (T.br (pb (EntL false ((0 : Nat) + min n (8 : Nat)) fun i => iteL (Nat.ble (i + (1 : Nat)) (0 : Nat)) (selL (chunks (5 : Nat) (0 : Nat) []) i) (entE (fun j => entR (entOf (entE x) j)) (i - (0 : Nat)))))
                          (T.br
                            (foldF (fun i a => a || eqE (entOf (entE fun j => entR (entOf (entE x) j)) i) (maxE (fun j => entR (entOf (entE x) j)) (min n (8 : Nat)))) (min n (8 : Nat)) (0 : Nat)
                              (Ent.inc (maxE (fun j => entR (entOf (entE x) j)) (min n (8 : Nat))) == (0 : Int) &&
                                (Ent.st (maxE (fun j => entR (entOf (entE x) j)) (min n (8 : Nat))) == (0 : Int) &&
                                  (Ent.stamp (maxE (fun j => entR (entOf (entE x) j)) (min n (8 : Nat))) == (0 : Int) &&
                                    (Ent.load (maxE (fun j => entR (entOf (entE x) j)) (min n (8 : Nat))) == (0 : Int) && (Ent.dr (maxE (fun j => entR (entOf (entE x) j)) (min n (8 : Nat))) == false && true))))))
                            (T.br
                              (foldF (fun i a => a || eqE (entOf (entE fun j => entR (entOf (entE x) j)) i) (maxE (fun j => entR (entOf (entE x) j)) (min n (8 : Nat)))) (min n (8 : Nat)) (0 : Nat)
                                (Ent.inc (maxE (fun j => entR (entOf (entE x) j)) (min n (8 : Nat))) == (0 : Int) &&
                                  (Ent.st (maxE (fun j => entR (entOf (entE x) j)) (min n (8 : Nat))) == (0 : Int) &&
                                    (Ent.stamp (maxE (fun j => entR (entOf (entE x) j)) (min n (8 : Nat))) == (0 : Int) &&
                                      (Ent.load (maxE (fun j => entR (entOf (entE x) j)) (min n (8 : Nat))) == (0 : Int) && (Ent.dr (maxE (fun j => entR (entOf (entE x) j)) (min n (8 : Nat))) == false && true))))))
                              (T.br
                                (foldF (fun i a => a || eqE (entOf (entE fun j => entR (entOf (entE x) j)) i) (maxE (fun j => entR (entOf (entE x) j)) (min n (8 : Nat)))) (min n (8 : Nat)) (0 : Nat)
                                  (Ent.inc (maxE (fun j => entR (entOf (entE x) j)) (min n (8 : Nat))) == (0 : Int) &&
                                    (Ent.st (maxE (fun j => entR (entOf (entE x) j)) (min n (8 : Nat))) == (0 : Int) &&
                                      (Ent.stamp (maxE (fun j => entR (entOf (entE x) j)) (min n (8 : Nat))) == (0 : Int) &&
                                        (Ent.load (maxE (fun j => entR (entOf (entE x) j)) (min n (8 : Nat))) == (0 : Int) && (Ent.dr (maxE (fun j => entR (entOf (entE x) j)) (min n (8 : Nat))) == false && true))))))
                                (T.br
                                  (foldF (fun i a => a || eqE (entOf (entE fun j => entR (entOf (entE x) j)) i) (maxE (fun j => entR (entOf (entE x) j)) (min n (8 : Nat)))) (min n (8 : Nat)) (0 : Nat)
                                    (Ent.inc (maxE (fun j => entR (entOf (entE x) j)) (min n (8 : Nat))) == (0 : Int) &&
                                      (Ent.st (maxE (fun j => entR (entOf (entE x) j)) (min n (8 : Nat))) == (0 : Int) &&
                                        (Ent.stamp (maxE (fun j => entR (entOf (entE x) j)) (min n (8 : Nat))) == (0 : Int) &&
                                          (Ent.load (maxE (fun j => entR (entOf (entE x) j)) (min n (8 : Nat))) == (0 : Int) && (Ent.dr (maxE (fun j => entR (entOf (entE x) j)) (min n (8 : Nat))) == false && true))))))
                                  (T.br ((↑(min n (8 : Nat)) : Int) == (0 : Int))
                                    (T.br ((↑(min n (8 : Nat)) : Int) == (0 : Int))
                                      (T.br ((↑(min n (8 : Nat)) : Int) == (0 : Int))
                                        (T.br
                                          (foldF (fun i a => a || eqE (entOf (entE fun j => entR (entOf (entE x) j)) i) (maxE (fun j => entR (entOf (entE x) j)) (min n (8 : Nat)))) (min n (8 : Nat)) (0 : Nat)
                                            (Ent.inc (maxE (fun j => entR (entOf (entE x) j)) (min n (8 : Nat))) == (0 : Int) &&
                                              (Ent.st (maxE (fun j => entR (entOf (entE x) j)) (min n (8 : Nat))) == (0 : Int) &&
                                                (Ent.stamp (maxE (fun j => entR (entOf (entE x) j)) (min n (8 : Nat))) == (0 : Int) &&
                                                  (Ent.load (maxE (fun j => entR (entOf (entE x) j)) (min n (8 : Nat))) == (0 : Int) && (Ent.dr (maxE (fun j => entR (entOf (entE x) j)) (min n (8 : Nat))) == false && true))))))
                                          (T.br ((↑(min n (8 : Nat)) : Int) == (0 : Int))
                                            (T.br
                                              (foldF (fun i a => a || eqE (entOf (entE fun j => entR (entOf (entE x) j)) i) (maxE (fun j => entR (entOf (entE x) j)) (min n (8 : Nat)))) (min n (8 : Nat)) (0 : Nat)
                                                (Ent.inc (maxE (fun j => entR (entOf (entE x) j)) (min n (8 : Nat))) == (0 : Int) &&
                                                  (Ent.st (maxE (fun j => entR (entOf (entE x) j)) (min n (8 : Nat))) == (0 : Int) &&
                                                    (Ent.stamp (maxE (fun j => entR (entOf (entE x) j)) (min n (8 : Nat))) == (0 : Int) &&
                                                      (Ent.load (maxE (fun j => entR (entOf (entE x) j)) (min n (8 : Nat))) == (0 : Int) && (Ent.dr (maxE (fun j => entR (entOf (entE x) j)) (min n (8 : Nat))) == false && true))))))
                                              (T.br
                                                (foldF (fun i a => a || eqE (entOf (entE fun j => entR (entOf (entE x) j)) i) (maxE (fun j => entR (entOf (entE x) j)) (min n (8 : Nat)))) (min n (8 : Nat)) (0 : Nat)
                                                  (Ent.inc (maxE (fun j => entR (entOf (entE x) j)) (min n (8 : Nat))) == (0 : Int) &&
                                                    (Ent.st (maxE (fun j => entR (entOf (entE x) j)) (min n (8 : Nat))) == (0 : Int) &&
                                                      (Ent.stamp (maxE (fun j => entR (entOf (entE x) j)) (min n (8 : Nat))) == (0 : Int) &&
                                                        (Ent.load (maxE (fun j => entR (entOf (entE x) j)) (min n (8 : Nat))) == (0 : Int) && (Ent.dr (maxE (fun j => entR (entOf (entE x) j)) (min n (8 : Nat))) == false && true))))))
                                                (T.br
                                                  (foldF (fun i a => a || eqE (entOf (entE fun j => entR (entOf (entE x) j)) i) (maxE (fun j => entR (entOf (entE x) j)) (min n (8 : Nat)))) (min n (8 : Nat)) (0 : Nat)
                                                    (Ent.inc (maxE (fun j => entR (entOf (entE x) j)) (min n (8 : Nat))) == (0 : Int) &&
                                                      (Ent.st (maxE (fun j => entR (entOf (entE x) j)) (min n (8 : Nat))) == (0 : Int) &&
                                                        (Ent.stamp (maxE (fun j => entR (entOf (entE x) j)) (min n (8 : Nat))) == (0 : Int) &&
                                                          (Ent.load (maxE (fun j => entR (entOf (entE x) j)) (min n (8 : Nat))) == (0 : Int) && (Ent.dr (maxE (fun j => entR (entOf (entE x) j)) (min n (8 : Nat))) == false && true))))))
                                                  (T.ret (out0 (SV.v (AB true)))) T.bad)
                                                T.bad)
                                              T.bad)
                                            T.bad)
                                          T.bad)
                                        T.bad)
                                      T.bad)
                                    T.bad)
                                  T.bad)
                                T.bad)
                              T.bad)
                            (T.br
                              (foldF (fun i a => a || eqE (entOf (entE fun j => entR (entOf (entE x) j)) i) (maxE (fun j => entR (entOf (entE x) j)) (min n (8 : Nat)))) (min n (8 : Nat)) (0 : Nat)
                                (Ent.inc (maxE (fun j => entR (entOf (entE x) j)) (min n (8 : Nat))) == (0 : Int) &&
                                  (Ent.st (maxE (fun j => entR (entOf (entE x) j)) (min n (8 : Nat))) == (0 : Int) &&
                                    (Ent.stamp (maxE (fun j => entR (entOf (entE x) j)) (min n (8 : Nat))) == (0 : Int) &&
                                      (Ent.load (maxE (fun j => entR (entOf (entE x) j)) (min n (8 : Nat))) == (0 : Int) && (Ent.dr (maxE (fun j => entR (entOf (entE x) j)) (min n (8 : Nat))) == false && true))))))
                              T.bad
                              (T.br
                                (foldF (fun i a => a || eqE (entOf (entE fun j => entR (entOf (entE x) j)) i) (maxE (fun j => entR (entOf (entE x) j)) (min n (8 : Nat)))) (min n (8 : Nat)) (0 : Nat)
                                  (Ent.inc (maxE (fun j => entR (entOf (entE x) j)) (min n (8 : Nat))) == (0 : Int) &&
                                    (Ent.st (maxE (fun j => entR (entOf (entE x) j)) (min n (8 : Nat))) == (0 : Int) &&
                                      (Ent.stamp (maxE (fun j => entR (entOf (entE x) j)) (min n (8 : Nat))) == (0 : Int) &&
                                        (Ent.load (maxE (fun j => entR (entOf (entE x) j)) (min n (8 : Nat))) == (0 : Int) && (Ent.dr (maxE (fun j => entR (entOf (entE x) j)) (min n (8 : Nat))) == false && true))))))
                                T.bad
                                (T.br
                                  (foldF (fun i a => a || eqE (entOf (entE fun j => entR (entOf (entE x) j)) i) (maxE (fun j => entR (entOf (entE x) j)) (min n (8 : Nat)))) (min n (8 : Nat)) (0 : Nat)
                                    (Ent.inc (maxE (fun j => entR (entOf (entE x) j)) (min n (8 : Nat))) == (0 : Int) &&
                                      (Ent.st (maxE (fun j => entR (entOf (entE x) j)) (min n (8 : Nat))) == (0 : Int) &&
                                        (Ent.stamp (maxE (fun j => entR (entOf (entE x) j)) (min n (8 : Nat))) == (0 : Int) &&
                                          (Ent.load (maxE (fun j => entR (entOf (entE x) j)) (min n (8 : Nat))) == (0 : Int) && (Ent.dr (maxE (fun j => entR (entOf (entE x) j)) (min n (8 : Nat))) == false && true))))))
                                  T.bad
                                  (T.br
                                    (foldF (fun i a => a || eqE (entOf (entE fun j => entR (entOf (entE x) j)) i) (maxE (fun j => entR (entOf (entE x) j)) (min n (8 : Nat)))) (min n (8 : Nat)) (0 : Nat)
                                      (Ent.inc (maxE (fun j => entR (entOf (entE x) j)) (min n (8 : Nat))) == (0 : Int) &&
                                        (Ent.st (maxE (fun j => entR (entOf (entE x) j)) (min n (8 : Nat))) == (0 : Int) &&
                                          (Ent.stamp (maxE (fun j => entR (entOf (entE x) j)) (min n (8 : Nat))) == (0 : Int) &&
                                            (Ent.load (maxE (fun j => entR (entOf (entE x) j)) (min n (8 : Nat))) == (0 : Int) && (Ent.dr (maxE (fun j => entR (entOf (entE x) j)) (min n (8 : Nat))) == false && true))))))
                                    T.bad
                                    (T.br
                                      (foldF (fun i a => a || eqE (entOf (entE fun j => entR (entOf (entE x) j)) i) (maxE (fun j => entR (entOf (entE x) j)) (min n (8 : Nat)))) (min n (8 : Nat)) (0 : Nat)
                                        (Ent.inc (maxE (fun j => entR (entOf (entE x) j)) (min n (8 : Nat))) == (0 : Int) &&
                                          (Ent.st (maxE (fun j => entR (entOf (entE x) j)) (min n (8 : Nat))) == (0 : Int) &&
                                            (Ent.stamp (maxE (fun j => entR (entOf (entE x) j)) (min n (8 : Nat))) == (0 : Int) &&
                                              (Ent.load (maxE (fun j => entR (entOf (entE x) j)) (min n (8 : Nat))) == (0 : Int) && (Ent.dr (maxE (fun j => entR (entOf (entE x) j)) (min n (8 : Nat))) == false && true))))))
                                      T.bad
                                      (T.br
                                        (foldF (fun i a => a || eqE (entOf (entE fun j => entR (entOf (entE x) j)) i) (maxE (fun j => entR (entOf (entE x) j)) (min n (8 : Nat)))) (min n (8 : Nat)) (0 : Nat)
                                          (Ent.inc (maxE (fun j => entR (entOf (entE x) j)) (min n (8 : Nat))) == (0 : Int) &&
                                            (Ent.st (maxE (fun j => entR (entOf (entE x) j)) (min n (8 : Nat))) == (0 : Int) &&
                                              (Ent.stamp (maxE (fun j => entR (entOf (entE x) j)) (min n (8 : Nat))) == (0 : Int) &&
                                                (Ent.load (maxE (fun j => entR (entOf (entE x) j)) (min n (8 : Nat))) == (0 : Int) && (Ent.dr (maxE (fun j => entR (entOf (entE x) j)) (min n (8 : Nat))) == false && true))))))
                                        T.bad
                                        (T.br
                                          (foldF (fun i a => a || eqE (entOf (entE fun j => entR (entOf (entE x) j)) i) (maxE (fun j => entR (entOf (entE x) j)) (min n (8 : Nat)))) (min n (8 : Nat)) (0 : Nat)
                                            (Ent.inc (maxE (fun j => entR (entOf (entE x) j)) (min n (8 : Nat))) == (0 : Int) &&
                                              (Ent.st (maxE (fun j => entR (entOf (entE x) j)) (min n (8 : Nat))) == (0 : Int) &&
                                                (Ent.stamp (maxE (fun j => entR (entOf (entE x) j)) (min n (8 : Nat))) == (0 : Int) &&
                                                  (Ent.load (maxE (fun j => entR (entOf (entE x) j)) (min n (8 : Nat))) == (0 : Int) && (Ent.dr (maxE (fun j => entR (entOf (entE x) j)) (min n (8 : Nat))) == false && true))))))
                                          T.bad (T.ret (out0 (SV.v (AB false))))))))))))
                          T.bad)
                        T.bad)
                      (T.br (Nat.ble ((0 : Nat) + min n (8 : Nat) + min n2 (8 : Nat)) ((0 : Nat) + min n (8 : Nat))) T.bad
                        (T.br (smallB ((0 : Nat) + min n (8 : Nat) + min n2 (8 : Nat)) (40 : Nat))
                          (T.br (Nat.ble ((0 : Nat) + ((0 : Nat) + min n (8 : Nat))) ((0 : Nat) + min n (8 : Nat)))
                            (T.br (Nat.ble ((0 : Nat) + min n (8 : Nat) + min n2 (8 : Nat)) ((0 : Nat) + min n (8 : Nat) + min n2 (8 : Nat)) && true)
                              (T.br
                                (pb
                                  (EntL false ((0 : Nat) + min n (8 : Nat) + min n2 (8 : Nat)) fun i =>
                                    iteL (Nat.ble (i + (1 : Nat)) ((0 : Nat) + min n (8 : Nat)))
                                      (iteL (Nat.ble ((0 : Nat) + i + (1 : Nat)) (0 : Nat)) (selL (chunks (5 : Nat) (0 : Nat) []) ((0 : Nat) + i)) (entE (fun j => entR (entOf (entE x) j)) ((0 : Nat) + i - (0 : Nat))))
                                      (entE (fun j => entR (entOf (entE x2) j)) (i - ((0 : Nat) + min n (8 : Nat))))))
                                (T.br
                                  (foldF (fun i a => a || eqE (entOf (entE fun j => entR (entOf (entE x) j)) i) (maxE (fun j => entR (entOf (entE x) j)) (min n (8 : Nat)))) (min n (8 : Nat)) (0 : Nat)
                                    (Ent.inc (maxE (fun j => entR (entOf (entE x) j)) (min n (8 : Nat))) == (0 : Int) &&
                                      (Ent.st (maxE (fun j => entR (entOf (entE x) j)) (min n (8 : Nat))) == (0 : Int) &&
                                        (Ent.stamp (maxE (fun j => entR (entOf (entE x) j)) (min n (8 : Nat))) == (0 : Int) &&
                                          (Ent.load (maxE (fun j => entR (entOf (entE x) j)) (min n (8 : Nat))) == (0 : Int) && (Ent.dr (maxE (fun j => entR (entOf (entE x) j)) (min n (8 : Nat))) == false && true))))))
                                  (T.br
                                    (foldF (fun i a => a || eqE (entOf (entE fun j => entR (entOf (entE x) j)) i) (maxE (fun j => entR (entOf (entE x) j)) (min n (8 : Nat)))) (min n (8 : Nat)) (0 : Nat)
                                      (Ent.inc (maxE (fun j => entR (entOf (entE x) j)) (min n (8 : Nat))) == (0 : Int) &&
                                        (Ent.st (maxE (fun j => entR (entOf (entE x) j)) (min n (8 : Nat))) == (0 : Int) &&
                                          (Ent.stamp (maxE (fun j => entR (entOf (entE x) j)) (min n (8 : Nat))) == (0 : Int) &&
                                            (Ent.load (maxE (fun j => entR (entOf (entE x) j)) (min n (8 : Nat))) == (0 : Int) && (Ent.dr (maxE (fun j => entR (entOf (entE x) j)) (min n (8 : Nat))) == false && true))))))
                                    (T.br
                                      (foldF (fun i a => a || eqE (entOf (entE fun j => entR (entOf (entE x) j)) i) (maxE (fun j => entR (entOf (entE x) j)) (min n (8 : Nat)))) (min n (8 : Nat)) (0 : Nat)
                                        (Ent.inc (maxE (fun j => entR (entOf (entE x) j)) (min n (8 : Nat))) == (0 : Int) &&
                                          (Ent.st (maxE (fun j => entR (entOf (entE x) j)) (min n (8 : Nat))) == (0 : Int) &&
                                            (Ent.stamp (maxE (fun j => entR (entOf (entE x) j)) (min n (8 : Nat))) == (0 : Int) &&
                                              (Ent.load (maxE (fun j => entR (entOf (entE x) j)) (min n (8 : Nat))) == (0 : Int) && (Ent.dr (maxE (fun j => entR (entOf (entE x) j)) (min n (8 : Nat))) == false && true))))))
                                      (T.br
                                        (foldF (fun i a => a || eqE (entOf (entE fun j => entR (entOf (entE x) j)) i) (maxE (fun j => entR (entOf (entE x) j)) (min n (8 : Nat)))) (min n (8 : Nat)) (0 : Nat)
                                          (Ent.inc (maxE (fun j => entR (entOf (entE x) j)) (min n (8 : Nat))) == (0 : Int) &&
                                            (Ent.st (maxE (fun j => entR (entOf (entE x) j)) (min n (8 : Nat))) == (0 : Int) &&
                                              (Ent.stamp (maxE (fun j => entR (entOf (entE x) j)) (min n (8 : Nat))) == (0 : Int) &&
                                                (Ent.load (maxE (fun j => entR (entOf (entE x) j)) (min n (8 : Nat))) == (0 : Int) && (Ent.dr (maxE (fun j => entR (entOf (entE x) j)) (min n (8 : Nat))) == false && true))))))
                                        (T.br ((↑(min n (8 : Nat)) : Int) == (0 : Int))
                                          (T.br ((↑(min n (8 : Nat)) : Int) == (0 : Int))
                                            (T.br ((↑(min n (8 : Nat)) : Int) == (0 : Int))
                                              (T.br
                                                (foldF (fun i a => a || eqE (entOf (entE fun j => entR (entOf (entE x) j)) i) (maxE (fun j => entR (entOf (entE x) j)) (min n (8 : Nat)))) (min n (8 : Nat)) (0 : Nat)
                                                  (Ent.inc (maxE (fun j => entR (entOf (entE x) j)) (min n (8 : Nat))) == (0 : Int) &&
                                                    (Ent.st (maxE (fun j => entR (entOf (entE x) j)) (min n (8 : Nat))) == (0 : Int) &&
                                                      (Ent.stamp (maxE (fun j => entR (entOf (entE x) j)) (min n (8 : Nat))) == (0 : Int) &&
                                                        (Ent.load (maxE (fun j => entR (entOf (entE x) j)) (min n (8 : Nat))) == (0 : Int) && (Ent.dr (maxE (fun j => entR (entOf (entE x) j)) (min n (8 : Nat))) == false && true))))))
                                                (T.br ((↑(min n (8 : Nat)) : Int) == (0 : Int))
                                                  (T.br
                                                    (foldF (fun i a => a || eqE (entOf (entE fun j => entR (entOf (entE x) j)) i) (maxE (fun j => entR (entOf (entE x) j)) (min n (8 : Nat)))) (min n (8 : Nat)) (0 : Nat)
                                                      (Ent.inc (maxE (fun j => entR (entOf (entE x) j)) (min n (8 : Nat))) == (0 : Int) &&
                                                        (Ent.st (maxE (fun j => entR (entOf (entE x) j)) (min n (8 : Nat))) == (0 : Int) &&
                                                          (Ent.stamp (maxE (fun j => entR (entOf (entE x) j)) (min n (8 : Nat))) == (0 : Int) &&
                                                            (Ent.load (maxE (fun j => entR (entOf (entE x) j)) (min n (8 : Nat))) == (0 : Int) && (Ent.dr (maxE (fun j => entR (entOf (entE x) j)) (min n (8 : Nat))) == false && true))))))
                                                    (T.br
                                                      (foldF (fun i a => a || eqE (entOf (entE fun j => entR (entOf (entE x) j)) i) (maxE (fun j => entR (entOf (entE x) j)) (min n (8 : Nat)))) (min n (8 : Nat)) (0 : Nat)
                                                        (Ent.inc (maxE (fun j => entR (entOf (entE x) j)) (min n (8 : Nat))) == (0 : Int) &&
                                                          (Ent.st (maxE (fun j => entR (entOf (entE x) j)) (min n (8 : Nat))) == (0 : Int) &&
                                                            (Ent.stamp (maxE (fun j => entR (entOf (entE x) j)) (min n (8 : Nat))) == (0 : Int) &&
                                                              (Ent.load (maxE (fun j => entR (entOf (entE x) j)) (min n (8 : Nat))) == (0 : Int) && (Ent.dr (maxE (fun j => entR (entOf (entE x) j)) (min n (8 : Nat))) == false && true))))))
                                                      (T.br
                                                        (foldF (fun i a => a || eqE (entOf (entE fun j => entR (entOf (entE x) j)) i) (maxE (fun j => entR (entOf (entE x) j)) (min n (8 : Nat)))) (min n (8 : Nat)) (0 : Nat)
                                                          (Ent.inc (maxE (fun j => entR (entOf (entE x) j)) (min n (8 : Nat))) == (0 : Int) &&
                                                            (Ent.st (maxE (fun j => entR (entOf (entE x) j)) (min n (8 : Nat))) == (0 : Int) &&
                                                              (Ent.stamp (maxE (fun j => entR (entOf (entE x) j)) (min n (8 : Nat))) == (0 : Int) &&
                                                                (Ent.load (maxE (fun j => entR (entOf (entE x) j)) (min n (8 : Nat))) == (0 : Int) && (Ent.dr (maxE (fun j => entR (entOf (entE x) j)) (min n (8 : Nat))) == false && true))))))
                                                        (T.ret (out0 (SV.v (AB true)))) T.bad)
                                                      T.bad)
                                                    T.bad)
                                                  T.bad)
                                                T.bad)
                                              T.bad)
                                            T.bad)
                                          T.bad)
                                        T.bad)
                                      T.bad)
                                    T.bad)
                                  (T.br
                                    (foldF (fun i a => a || eqE (entOf (entE fun j => entR (entOf (entE x) j)) i) (maxE (fun j => entR (entOf (entE x) j)) (min n (8 : Nat)))) (min n (8 : Nat)) (0 : Nat)
                                      (Ent.inc (maxE (fun j => entR (entOf (entE x) j)) (min n (8 : Nat))) == (0 : Int) &&
                                        (Ent.st (maxE (fun j => entR (entOf (entE x) j)) (min n (8 : Nat))) == (0 : Int) &&
                                          (Ent.stamp (maxE (fun j => entR (entOf (entE x) j)) (min n (8 : Nat))) == (0 : Int) &&
                                            (Ent.load (maxE (fun j => entR (entOf (entE x) j)) (min n (8 : Nat))) == (0 : Int) && (Ent.dr (maxE (fun j => entR (entOf (entE x) j)) (min n (8 : Nat))) == false && true))))))
                                    T.bad
                                    (T.br
                                      (foldF (fun i a => a || eqE (entOf (entE fun j => entR (entOf (entE x) j)) i) (maxE (fun j => entR (entOf (entE x) j)) (min n (8 : Nat)))) (min n (8 : Nat)) (0 : Nat)
                                        (Ent.inc (maxE (fun j => entR (entOf (entE x) j)) (min n (8 : Nat))) == (0 : Int) &&
                                          (Ent.st (maxE (fun j => entR (entOf (entE x) j)) (min n (8 : Nat))) == (0 : Int) &&
                                            (Ent.stamp (maxE (fun j => entR (entOf (entE x) j)) (min n (8 : Nat))) == (0 : Int) &&
                                              (Ent.load (maxE (fun j => entR (entOf (entE x) j)) (min n (8 : Nat))) == (0 : Int) && (Ent.dr (maxE (fun j => entR (entOf (entE x) j)) (min n (8 : Nat))) == false && true))))))
                                      T.bad
                                      (T.br
                                        (foldF (fun i a => a || eqE (entOf (entE fun j => entR (entOf (entE x) j)) i) (maxE (fun j => entR (entOf (entE x) j)) (min n (8 : Nat)))) (min n (8 : Nat)) (0 : Nat)
                                          (Ent.inc (maxE (fun j => entR (entOf (entE x) j)) (min n (8 : Nat))) == (0 : Int) &&
                                            (Ent.st (maxE (fun j => entR (entOf (entE x) j)) (min n (8 : Nat))) == (0 : Int) &&
                                              (Ent.stamp (maxE (fun j => entR (entOf (entE x) j)) (min n (8 : Nat))) == (0 : Int) &&
                                                (Ent.load (maxE (fun j => entR (entOf (entE x) j)) (min n (8 : Nat))) == (0 : Int) && (Ent.dr (maxE (fun j => entR (entOf (entE x) j)) (min n (8 : Nat))) == false && true))))))
                                        T.bad
                                        (T.br
                                          (foldF (fun i a => a || eqE (entOf (entE fun j => entR (entOf (entE x) j)) i) (maxE (fun j => entR (entOf (entE x) j)) (min n (8 : Nat)))) (min n (8 : Nat)) (0 : Nat)
                                            (Ent.inc (maxE (fun j => entR (entOf (entE x) j)) (min n (8 : Nat))) == (0 : Int) &&
                                              (Ent.st (maxE (fun j => entR (entOf (entE x) j)) (min n (8 : Nat))) == (0 : Int) &&
                                                (Ent.stamp (maxE (fun j => entR (entOf (entE x) j)) (min n (8 : Nat))) == (0 : Int) &&
                                                  (Ent.load (maxE (fun j => entR (entOf (entE x) j)) (min n (8 : Nat))) == (0 : Int) && (Ent.dr (maxE (fun j => entR (entOf (entE x) j)) (min n (8 : Nat))) == false && true))))))
                                          T.bad
                                          (T.br
                                            (foldF (fun i a => a || eqE (entOf (entE fun j => entR (entOf (entE x) j)) i) (maxE (fun j => entR (entOf (entE x) j)) (min n (8 : Nat)))) (min n (8 : Nat)) (0 : Nat)
                                              (Ent.inc (maxE (fun j => entR (entOf (entE x) j)) (min n (8 : Nat))) == (0 : Int) &&
                                                (Ent.st (maxE (fun j => entR (entOf (entE x) j)) (min n (8 : Nat))) == (0 : Int) &&
                                                  (Ent.stamp (maxE (fun j => entR (entOf (entE x) j)) (min n (8 : Nat))) == (0 : Int) &&
                                                    (Ent.load (maxE (fun j => entR (entOf (entE x) j)) (min n (8 : Nat))) == (0 : Int) && (Ent.dr (maxE (fun j => entR (entOf (entE x) j)) (min n (8 : Nat))) == false && true))))))
                                            T.bad
                                            (T.br
                                              (foldF (fun i a => a || eqE (entOf (entE fun j => entR (entOf (entE x) j)) i) (maxE (fun j => entR (entOf (entE x) j)) (min n (8 : Nat)))) (min n (8 : Nat)) (0 : Nat)
                                                (Ent.inc (maxE (fun j => entR (entOf (entE x) j)) (min n (8 : Nat))) == (0 : Int) &&
                                                  (Ent.st (maxE (fun j => entR (entOf (entE x) j)) (min n (8 : Nat))) == (0 : Int) &&
                                                    (Ent.stamp (maxE (fun j => entR (entOf (entE x) j)) (min n (8 : Nat))) == (0 : Int) &&
                                                      (Ent.load (maxE (fun j => entR (entOf (entE x) j)) (min n (8 : Nat))) == (0 : Int) && (Ent.dr (maxE (fun j => entR (entOf (entE x) j)) (min n (8 : Nat))) == false && true))))))
                                              T.bad
                                              (T.br
                                                (foldF (fun i a => a || eqE (entOf (entE fun j => entR (entOf (entE x) j)) i) (maxE (fun j => entR (entOf (entE x) j)) (min n (8 : Nat)))) (min n (8 : Nat)) (0 : Nat)
                                                  (Ent.inc (maxE (fun j => entR (entOf (entE x) j)) (min n (8 : Nat))) == (0 : Int) &&
                                                    (Ent.st (maxE (fun j => entR (entOf (entE x) j)) (min n (8 : Nat))) == (0 : Int) &&
                                                      (Ent.stamp (maxE (fun j => entR (entOf (entE x) j)) (min n (8 : Nat))) == (0 : Int) &&
                                                        (Ent.load (maxE (fun j => entR (entOf (entE x) j)) (min n (8 : Nat))) == (0 : Int) && (Ent.dr (maxE (fun j => entR (entOf (entE x) j)) (min n (8 : Nat))) == false && true))))))
                                                T.bad (T.ret (out0 (SV.v (AB false))))))))))))
                                T.bad)
                              T.bad)
                            T.bad)
                          T.bad)))
                    T.bad)))
              T.bad)
            T.bad)
          (T.br (pb (loopOf Proofs.Try.f4 (6 : Nat) = loopOf Proofs.Try.f4 (6 : Nat) ∧ (73 : Nat) = (73 : Nat)))
            (T.br
              (pb
                (EntS (Nat.beq (min n (8 : Nat)) (0 : Nat)) (min n (8 : Nat)) (entE fun j => entR (entOf (entE x) j)) ∧
                  EntE (entE fun j => entR (entOf (entE x2) j)) ∧
                    (↑(min n (8 : Nat)) : Int) = (↑(min n (8 : Nat)) : Int) ∧
                      (0 : Int) = (0 : Int) ∧
                        Nat.beq (min n (8 : Nat)) (0 : Nat) = Nat.beq (min n (8 : Nat)) (0 : Nat) ∧
                          min n (8 : Nat) = min n (8 : Nat) ∧
                            ((entE fun j => entR (entOf (entE x) j)) = entE fun j => entR (entOf (entE x) j)) ∧
                              ∀ (i : Nat), i < min n (8 : Nat) → lessB (maxE (fun j => entR (entOf (entE x) j)) (min n (8 : Nat))) (entOf (entE fun j => entR (entOf (entE x) j)) i) = false))
              (T.br (Nat.beq (min n (8 : Nat)) (0 : Nat))
                (T.br (Nat.beq (min n2 (8 : Nat)) (0 : Nat))
                  (T.br (pb (EntL false (0 : Nat) (selL (chunks (5 : Nat) (0 : Nat) []))))
                    (T.br (foldF (fun i a => a || eqE (entOf (entE fun j => entR (entOf (entE x) j)) i) (maxE (fun j => entR (entOf (entE x) j)) (min n (8 : Nat)))) (min n (8 : Nat)) (0 : Nat) false)
                      (T.br (foldF (fun i a => a || eqE (entOf (entE fun j => entR (entOf (entE x) j)) i) (maxE (fun j => entR (entOf (entE x) j)) (min n (8 : Nat)))) (min n (8 : Nat)) (0 : Nat) false)
                        (T.br (foldF (fun i a => a || eqE (entOf (entE fun j => entR (entOf (entE x) j)) i) (maxE (fun j => entR (entOf (entE x) j)) (min n (8 : Nat)))) (min n (8 : Nat)) (0 : Nat) false)
                          (T.br (foldF (fun i a => a || eqE (entOf (entE fun j => entR (entOf (entE x) j)) i) (maxE (fun j => entR (entOf (entE x) j)) (min n (8 : Nat)))) (min n (8 : Nat)) (0 : Nat) false)
                            (T.br ((↑(min n (8 : Nat)) : Int) == (0 : Int)) T.bad
                              (T.br ((↑(min n (8 : Nat)) : Int) == (0 : Int)) T.bad
                                (T.br ((↑(min n (8 : Nat)) : Int) == (0 : Int)) T.bad
                                  (T.br (foldF (fun i a => a || eqE (entOf (entE fun j => entR (entOf (entE x) j)) i) (maxE (fun j => entR (entOf (entE x) j)) (min n (8 : Nat)))) (min n (8 : Nat)) (0 : Nat) false)
                                    (T.br ((↑(min n (8 : Nat)) : Int) == (0 : Int)) T.bad
                                      (T.br (foldF (fun i a => a || eqE (entOf (entE fun j => entR (entOf (entE x) j)) i) (maxE (fun j => entR (entOf (entE x) j)) (min n (8 : Nat)))) (min n (8 : Nat)) (0 : Nat) false)
                                        (T.br ((↑(min n2 (8 : Nat)) : Int) == (0 : Int))
                                          (T.br ((↑(min n2 (8 : Nat)) : Int) == (0 : Int))
                                            (T.br ((↑(min n2 (8 : Nat)) : Int) == (0 : Int))
                                              (T.br ((↑(min n2 (8 : Nat)) : Int) == (0 : Int))
                                                (T.br ((↑(min n2 (8 : Nat)) : Int) == (0 : Int))
                                                  (T.br ((↑(min n2 (8 : Nat)) : Int) == (0 : Int))
                                                    (T.br ((↑(min n2 (8 : Nat)) : Int) == (0 : Int))
                                                      (T.br (foldF (fun i a => a || eqE (entOf (entE fun j => entR (entOf (entE x) j)) i) (maxE (fun j => entR (entOf (entE x) j)) (min n (8 : Nat)))) (min n (8 : Nat)) (0 : Nat) false)
                                                        (T.br ((↑(min n2 (8 : Nat)) : Int) == (0 : Int))
                                                          (T.br (foldF (fun i a => a || eqE (entOf (entE fun j => entR (entOf (entE x) j)) i) (maxE (fun j => entR (entOf (entE x) j)) (min n (8 : Nat)))) (min n (8 : Nat)) (0 : Nat) false)
                                                            (T.ret (out0 (SV.v (AB true)))) T.bad)
                                                          T.bad)
                                                        T.bad)
                                                      T.bad)
                                                    T.bad)
                                                  T.bad)
                                                T.bad)
                                              T.bad)
                                            T.bad)
                                          (T.br ((↑(min n2 (8 : Nat)) : Int) == (0 : Int)) T.bad
                                            (T.br ((↑(min n2 (8 : Nat)) : Int) == (0 : Int)) T.bad
                                              (T.br ((↑(min n2 (8 : Nat)) : Int) == (0 : Int)) T.bad
                                                (T.br (pb (EntL (Nat.beq (min n2 (8 : Nat)) (0 : Nat)) (min n2 (8 : Nat)) (entE fun j => entR (entOf (entE x2) j))))
                                                  (T.br ((↑(min n2 (8 : Nat)) : Int) == (0 : Int)) T.bad
                                                    (T.br ((↑(min n2 (8 : Nat)) : Int) == (0 : Int)) T.bad
                                                      (T.br ((↑(min n2 (8 : Nat)) : Int) == (0 : Int)) T.bad
                                                        (T.br (foldF (fun i a => a || eqE (entOf (entE fun j => entR (entOf (entE x) j)) i) (maxE (fun j => entR (entOf (entE x) j)) (min n (8 : Nat)))) (min n (8 : Nat)) (0 : Nat) false)
                                                          (T.br ((↑(min n2 (8 : Nat)) : Int) == (0 : Int)) T.bad
                                                            (T.br (foldF (fun i a => a || eqE (entOf (entE fun j => entR (entOf (entE x) j)) i) (maxE (fun j => entR (entOf (entE x) j)) (min n (8 : Nat)))) (min n (8 : Nat)) (0 : Nat) false)
                                                              (T.ret
                                                                (out0
                                                                  (SV.v
                                                                    (AB
                                                                      ((0 : Int) == Ent.inc (mxE (maxE (fun j => entR (entOf (entE x) j)) (min n (8 : Nat))) (maxE (fun j => entR (entOf (entE x2) j)) (min n2 (8 : Nat)))) &&
                                                                        ((0 : Int) == Ent.st (mxE (maxE (fun j => entR (entOf (entE x) j)) (min n (8 : Nat))) (maxE (fun j => entR (entOf (entE x2) j)) (min n2 (8 : Nat)))) &&
                                                                          ((0 : Int) == Ent.stamp (mxE (maxE (fun j => entR (entOf (entE x) j)) (min n (8 : Nat))) (maxE (fun j => entR (entOf (entE x2) j)) (min n2 (8 : Nat)))) &&
                                                                            ((0 : Int) == Ent.load (mxE (maxE (fun j => entR (entOf (entE x) j)) (min n (8 : Nat))) (maxE (fun j => entR (entOf (entE x2) j)) (min n2 (8 : Nat)))) &&
                                                                              (Ent.dr (maxE (entOf (selL (chunks (5 : Nat) (0 : Nat) []))) (0 : Nat)) ==
                                                                                  Ent.dr (mxE (maxE (fun j => entR (entOf (entE x) j)) (min n (8 : Nat))) (maxE (fun j => entR (entOf (entE x2) j)) (min n2 (8 : Nat)))) &&
                                                                                true)))))))))
                                                              T.bad))
                                                          T.bad))))
                                                  T.bad)))))
                                        T.bad))
                                    T.bad))))
                            T.bad)
                          T.bad)
                        T.bad)
                      (T.br (foldF (fun i a => a || eqE (entOf (entE fun j => entR (entOf (entE x) j)) i) (maxE (fun j => entR (entOf (entE x) j)) (min n (8 : Nat)))) (min n (8 : Nat)) (0 : Nat) false) T.bad
                        (T.br (foldF (fun i a => a || eqE (entOf (entE fun j => entR (entOf (entE x) j)) i) (maxE (fun j => entR (entOf (entE x) j)) (min n (8 : Nat)))) (min n (8 : Nat)) (0 : Nat) false) T.bad
                          (T.br (foldF (fun i a => a || eqE (entOf (entE fun j => entR (entOf (entE x) j)) i) (maxE (fun j => entR (entOf (entE x) j)) (min n (8 : Nat)))) (min n (8 : Nat)) (0 : Nat) false) T.bad
                            (T.br (foldF (fun i a => a || eqE (entOf (entE fun j => entR (entOf (entE x) j)) i) (maxE (fun j => entR (entOf (entE x) j)) (min n (8 : Nat)))) (min n (8 : Nat)) (0 : Nat) false) T.bad
                              (T.br (foldF (fun i a => a || eqE (entOf (entE fun j => entR (entOf (entE x) j)) i) (maxE (fun j => entR (entOf (entE x) j)) (min n (8 : Nat)))) (min n (8 : Nat)) (0 : Nat) false) T.bad
                                (T.br (foldF (fun i a => a || eqE (entOf (entE fun j => entR (entOf (entE x) j)) i) (maxE (fun j => entR (entOf (entE x) j)) (min n (8 : Nat)))) (min n (8 : Nat)) (0 : Nat) false) T.bad
                                  (T.br (foldF (fun i a => a || eqE (entOf (entE fun j => entR (entOf (entE x) j)) i) (maxE (fun j => entR (entOf (entE x) j)) (min n (8 : Nat)))) (min n (8 : Nat)) (0 : Nat) false) T.bad
                                    (T.ret (out0 (SV.v (AB false))))))))))))
                    T.bad)
                  (T.br (Nat.ble ((0 : Nat) + min n2 (8 : Nat)) (0 : Nat)) T.bad
                    (T.br (smallB ((0 : Nat) + min n2 (8 : Nat)) (40 : Nat))
                      (T.br (Nat.ble ((0 : Nat) + min n2 (8 : Nat)) ((0 : Nat) + min n2 (8 : Nat)) && true)
                        (T.br (pb (EntL false ((0 : Nat) + min n2 (8 : Nat)) fun i => iteL (Nat.ble (i + (1 : Nat)) (0 : Nat)) (selL (chunks (5 : Nat) (0 : Nat) []) i) (entE (fun j => entR (entOf (entE x2) j)) (i - (0 : Nat)))))
                          (T.br (foldF (fun i a => a || eqE (entOf (entE fun j => entR (entOf (entE x) j)) i) (maxE (fun j => entR (entOf (entE x) j)) (min n (8 : Nat)))) (min n (8 : Nat)) (0 : Nat) false)
                            (T.br (foldF (fun i a => a || eqE (entOf (entE fun j => entR (entOf (entE x) j)) i) (maxE (fun j => entR (entOf (entE x) j)) (min n (8 : Nat)))) (min n (8 : Nat)) (0 : Nat) false)
                              (T.br (foldF (fun i a => a || eqE (entOf (entE fun j => entR (entOf (entE x) j)) i) (maxE (fun j => entR (entOf (entE x) j)) (min n (8 : Nat)))) (min n (8 : Nat)) (0 : Nat) false)
                                (T.br (foldF (fun i a => a || eqE (entOf (entE fun j => entR (entOf (entE x) j)) i) (maxE (fun j => entR (entOf (entE x) j)) (min n (8 : Nat)))) (min n (8 : Nat)) (0 : Nat) false)
                                  (T.br ((↑(min n (8 : Nat)) : Int) == (0 : Int)) T.bad
                                    (T.br ((↑(min n (8 : Nat)) : Int) == (0 : Int)) T.bad
                                      (T.br ((↑(min n (8 : Nat)) : Int) == (0 : Int)) T.bad
                                        (T.br (foldF (fun i a => a || eqE (entOf (entE fun j => entR (entOf (entE x) j)) i) (maxE (fun j => entR (entOf (entE x) j)) (min n (8 : Nat)))) (min n (8 : Nat)) (0 : Nat) false)
                                          (T.br ((↑(min n (8 : Nat)) : Int) == (0 : Int)) T.bad
                                            (T.br (foldF (fun i a => a || eqE (entOf (entE fun j => entR (entOf (entE x) j)) i) (maxE (fun j => entR (entOf (entE x) j)) (min n (8 : Nat)))) (min n (8 : Nat)) (0 : Nat) false)
                                              (T.br ((↑(min n2 (8 : Nat)) : Int) == (0 : Int))
                                                (T.br ((↑(min n2 (8 : Nat)) : Int) == (0 : Int))
                                                  (T.br ((↑(min n2 (8 : Nat)) : Int) == (0 : Int))
                                                    (T.br ((↑(min n2 (8 : Nat)) : Int) == (0 : Int))
                                                      (T.br ((↑(min n2 (8 : Nat)) : Int) == (0 : Int))
                                                        (T.br ((↑(min n2 (8 : Nat)) : Int) == (0 : Int))
                                                          (T.br ((↑(min n2 (8 : Nat)) : Int) == (0 : Int))
                                                            (T.br (foldF (fun i a => a || eqE (entOf (entE fun j => entR (entOf (entE x) j)) i) (maxE (fun j => entR (entOf (entE x) j)) (min n (8 : Nat)))) (min n (8 : Nat)) (0 : Nat) false)
                                                              (T.br ((↑(min n2 (8 : Nat)) : Int) == (0 : Int))
                                                                (T.br
                                                                  (foldF (fun i a => a || eqE (entOf (entE fun j => entR (entOf (entE x) j)) i) (maxE (fun j => entR (entOf (entE x) j)) (min n (8 : Nat)))) (min n (8 : Nat)) (0 : Nat) false)
                                                                  (T.ret (out0 (SV.v (AB true)))) T.bad)
                                                                T.bad)
                                                              T.bad)
                                                            T.bad)
                                                          T.bad)
                                                        T.bad)
                                                      T.bad)
                                                    T.bad)
                                                  T.bad)
                                                (T.br ((↑(min n2 (8 : Nat)) : Int) == (0 : Int)) T.bad
                                                  (T.br ((↑(min n2 (8 : Nat)) : Int) == (0 : Int)) T.bad
                                                    (T.br ((↑(min n2 (8 : Nat)) : Int) == (0 : Int)) T.bad
                                                      (T.br (pb (EntL (Nat.beq (min n2 (8 : Nat)) (0 : Nat)) (min n2 (8 : Nat)) (entE fun j => entR (entOf (entE x2) j))))
                                                        (T.br ((↑(min n2 (8 : Nat)) : Int) == (0 : Int)) T.bad
                                                          (T.br ((↑(min n2 (8 : Nat)) : Int) == (0 : Int)) T.bad
                                                            (T.br ((↑(min n2 (8 : Nat)) : Int) == (0 : Int)) T.bad
                                                              (T.br (foldF (fun i a => a || eqE (entOf (entE fun j => entR (entOf (entE x) j)) i) (maxE (fun j => entR (entOf (entE x) j)) (min n (8 : Nat)))) (min n (8 : Nat)) (0 : Nat) false)
                                                                (T.br ((↑(min n2 (8 : Nat)) : Int) == (0 : Int)) T.bad
                                                                  (T.br
                                                                    (foldF (fun i a => a || eqE (entOf (entE fun j => entR (entOf (entE x) j)) i) (maxE (fun j => entR (entOf (entE x) j)) (min n (8 : Nat)))) (min n (8 : Nat)) (0 : Nat) false)
                                                                    (T.ret
                                                                      (out0
                                                                        (SV.v
                                                                          (AB
                                                                            (Ent.inc
                                                                                  (maxE
                                                                                    (entOf fun i => iteL (Nat.ble (i + (1 : Nat)) (0 : Nat)) (selL (chunks (5 : Nat) (0 : Nat) []) i) (entE (fun j => entR (entOf (entE x2) j)) (i - (0 : Nat))))
                                                                                    ((0 : Nat) + min n2 (8 : Nat))) ==
                                                                                Ent.inc (mxE (maxE (fun j => entR (entOf (entE x) j)) (min n (8 : Nat))) (maxE (fun j => entR (entOf (entE x2) j)) (min n2 (8 : Nat)))) &&
                                                                              (Ent.st
                                                                                    (maxE
                                                                                      (entOf fun i =>
                                                                                        iteL (Nat.ble (i + (1 : Nat)) (0 : Nat)) (selL (chunks (5 : Nat) (0 : Nat) []) i) (entE (fun j => entR (entOf (entE x2) j)) (i - (0 : Nat))))
                                                                                      ((0 : Nat) + min n2 (8 : Nat))) ==
                                                                                  Ent.st (mxE (maxE (fun j => entR (entOf (entE x) j)) (min n (8 : Nat))) (maxE (fun j => entR (entOf (entE x2) j)) (min n2 (8 : Nat)))) &&
                                                                                (Ent.stamp
                                                                                      (maxE
                                                                                        (entOf fun i =>
                                                                                          iteL (Nat.ble (i + (1 : Nat)) (0 : Nat)) (selL (chunks (5 : Nat) (0 : Nat) []) i) (entE (fun j => entR (entOf (entE x2) j)) (i - (0 : Nat))))
                                                                                        ((0 : Nat) + min n2 (8 : Nat))) ==
                                                                                    Ent.stamp (mxE (maxE (fun j => entR (entOf (entE x) j)) (min n (8 : Nat))) (maxE (fun j => entR (entOf (entE x2) j)) (min n2 (8 : Nat)))) &&
                                                                                  (Ent.load
                                                                                        (maxE
                                                                                          (entOf fun i =>
                                                                                            iteL (Nat.ble (i + (1 : Nat)) (0 : Nat)) (selL (chunks (5 : Nat) (0 : Nat) []) i) (entE (fun j => entR (entOf (entE x2) j)) (i - (0 : Nat))))
                                                                                          ((0 : Nat) + min n2 (8 : Nat))) ==
                                                                                      Ent.load (mxE (maxE (fun j => entR (entOf (entE x) j)) (min n (8 : Nat))) (maxE (fun j => entR (entOf (entE x2) j)) (min n2 (8 : Nat)))) &&
                                                                                    (Ent.dr
                                                                                          (maxE
                                                                                            (entOf fun i =>
                                                                                              iteL (Nat.ble (i + (1 : Nat)) (0 : Nat)) (selL (chunks (5 : Nat) (0 : Nat) []) i) (entE (fun j => entR (entOf (entE x2) j)) (i - (0 : Nat))))
                                                                                            ((0 : Nat) + min n2 (8 : Nat))) ==
                                                                                        Ent.dr (mxE (maxE (fun j => entR (entOf (entE x) j)) (min n (8 : Nat))) (maxE (fun j => entR (entOf (entE x2) j)) (min n2 (8 : Nat)))) &&
                                                                                      true)))))))))
                                                                    T.bad))
                                                                T.bad))))
                                                        T.bad)))))
                                              T.bad))
                                          T.bad))))
                                  T.bad)
                                T.bad)
                              T.bad)
                            (T.br (foldF (fun i a => a || eqE (entOf (entE fun j => entR (entOf (entE x) j)) i) (maxE (fun j => entR (entOf (entE x) j)) (min n (8 : Nat)))) (min n (8 : Nat)) (0 : Nat) false) T.bad
                              (T.br (foldF (fun i a => a || eqE (entOf (entE fun j => entR (entOf (entE x) j)) i) (maxE (fun j => entR (entOf (entE x) j)) (min n (8 : Nat)))) (min n (8 : Nat)) (0 : Nat) false) T.bad
                                (T.br (foldF (fun i a => a || eqE (entOf (entE fun j => entR (entOf (entE x) j)) i) (maxE (fun j => entR (entOf (entE x) j)) (min n (8 : Nat)))) (min n (8 : Nat)) (0 : Nat) false) T.bad
                                  (T.br (foldF (fun i a => a || eqE (entOf (entE fun j => entR (entOf (entE x) j)) i) (maxE (fun j => entR (entOf (entE x) j)) (min n (8 : Nat)))) (min n (8 : Nat)) (0 : Nat) false) T.bad
                                    (T.br (foldF (fun i a => a || eqE (entOf (entE fun j => entR (entOf (entE x) j)) i) (maxE (fun j => entR (entOf (entE x) j)) (min n (8 : Nat)))) (min n (8 : Nat)) (0 : Nat) false) T.bad
                                      (T.br (foldF (fun i a => a || eqE (entOf (entE fun j => entR (entOf (entE x) j)) i) (maxE (fun j => entR (entOf (entE x) j)) (min n (8 : Nat)))) (min n (8 : Nat)) (0 : Nat) false) T.bad
                                        (T.br (foldF (fun i a => a || eqE (entOf (entE fun j => entR (entOf (entE x) j)) i) (maxE (fun j => entR (entOf (entE x) j)) (min n (8 : Nat)))) (min n (8 : Nat)) (0 : Nat) false) T.bad
                                          (T.ret (out0 (SV.v (AB false))))))))))))
                          T.bad)
                        T.bad)
                      T.bad)))
                (T.br (Nat.ble ((0 : Nat) + min n (8 : Nat)) (0 : Nat)) T.bad
                  (T.br (smallB ((0 : Nat) + min n (8 : Nat)) (40 : Nat))
                    (T.br (Nat.beq (min n2 (8 : Nat)) (0 : Nat))
                      (T.br (Nat.ble ((0 : Nat) + min n (8 : Nat)) ((0 : Nat) + min n (8 : Nat)) && true)
                        (T.br (pb (EntL false ((0 : Nat) + min n (8 : Nat)) fun i => iteL (Nat.ble (i + (1 : Nat)) (0 : Nat)) (selL (chunks (5 : Nat) (0 : Nat) []) i) (entE (fun j => entR (entOf (entE x) j)) (i - (0 : Nat)))))
                          (T.br (foldF (fun i a => a || eqE (entOf (entE fun j => entR (entOf (entE x) j)) i) (maxE (fun j => entR (entOf (entE x) j)) (min n (8 : Nat)))) (min n (8 : Nat)) (0 : Nat) false)
                            (T.br (foldF (fun i a => a || eqE (entOf (entE fun j => entR (entOf (entE x) j)) i) (maxE (fun j => entR (entOf (entE x) j)) (min n (8 : Nat)))) (min n (8 : Nat)) (0 : Nat) false)
                              (T.br (foldF (fun i a => a || eqE (entOf (entE fun j => entR (entOf (entE x) j)) i) (maxE (fun j => entR (entOf (entE x) j)) (min n (8 : Nat)))) (min n (8 : Nat)) (0 : Nat) false)
                                (T.br (foldF (fun i a => a || eqE (entOf (entE fun j => entR (entOf (entE x) j)) i) (maxE (fun j => entR (entOf (entE x) j)) (min n (8 : Nat)))) (min n (8 : Nat)) (0 : Nat) false)
                                  (T.br ((↑(min n (8 : Nat)) : Int) == (0 : Int)) T.bad
                                    (T.br ((↑(min n (8 : Nat)) : Int) == (0 : Int)) T.bad
                                      (T.br ((↑(min n (8 : Nat)) : Int) == (0 : Int)) T.bad
                                        (T.br (foldF (fun i a => a || eqE (entOf (entE fun j => entR (entOf (entE x) j)) i) (maxE (fun j => entR (entOf (entE x) j)) (min n (8 : Nat)))) (min n (8 : Nat)) (0 : Nat) false)
                                          (T.br ((↑(min n (8 : Nat)) : Int) == (0 : Int)) T.bad
                                            (T.br (foldF (fun i a => a || eqE (entOf (entE fun j => entR (entOf (entE x) j)) i) (maxE (fun j => entR (entOf (entE x) j)) (min n (8 : Nat)))) (min n (8 : Nat)) (0 : Nat) false)
                                              (T.br ((↑(min n2 (8 : Nat)) : Int) == (0 : Int))
                                                (T.br ((↑(min n2 (8 : Nat)) : Int) == (0 : Int))
                                                  (T.br ((↑(min n2 (8 : Nat)) : Int) == (0 : Int))
                                                    (T.br ((↑(min n2 (8 : Nat)) : Int) == (0 : Int))
                                                      (T.br ((↑(min n2 (8 : Nat)) : Int) == (0 : Int))
                                                        (T.br ((↑(min n2 (8 : Nat)) : Int) == (0 : Int))
                                                          (T.br ((↑(min n2 (8 : Nat)) : Int) == (0 : Int))
                                                            (T.br (foldF (fun i a => a || eqE (entOf (entE fun j => entR (entOf (entE x) j)) i) (maxE (fun j => entR (entOf (entE x) j)) (min n (8 : Nat)))) (min n (8 : Nat)) (0 : Nat) false)
                                                              (T.br ((↑(min n2 (8 : Nat)) : Int) == (0 : Int))
                                                                (T.br
                                                                  (foldF (fun i a => a || eqE (entOf (entE fun j => entR (entOf (entE x) j)) i) (maxE (fun j => entR (entOf (entE x) j)) (min n (8 : Nat)))) (min n (8 : Nat)) (0 : Nat) false)
                                                                  (T.ret (out0 (SV.v (AB true)))) T.bad)
                                                                T.bad)
                                                              T.bad)
                                                            T.bad)
                                                          T.bad)
                                                        T.bad)
                                                      T.bad)
                                                    T.bad)
                                                  T.bad)
                                                (T.br ((↑(min n2 (8 : Nat)) : Int) == (0 : Int)) T.bad
                                                  (T.br ((↑(min n2 (8 : Nat)) : Int) == (0 : Int)) T.bad
                                                    (T.br ((↑(min n2 (8 : Nat)) : Int) == (0 : Int)) T.bad
                                                      (T.br (pb (EntL (Nat.beq (min n2 (8 : Nat)) (0 : Nat)) (min n2 (8 : Nat)) (entE fun j => entR (entOf (entE x2) j))))
                                                        (T.br ((↑(min n2 (8 : Nat)) : Int) == (0 : Int)) T.bad
                                                          (T.br ((↑(min n2 (8 : Nat)) : Int) == (0 : Int)) T.bad
                                                            (T.br ((↑(min n2 (8 : Nat)) : Int) == (0 : Int)) T.bad
                                                              (T.br (foldF (fun i a => a || eqE (entOf (entE fun j => entR (entOf (entE x) j)) i) (maxE (fun j => entR (entOf (entE x) j)) (min n (8 : Nat)))) (min n (8 : Nat)) (0 : Nat) false)
                                                                (T.br ((↑(min n2 (8 : Nat)) : Int) == (0 : Int)) T.bad
                                                                  (T.br
                                                                    (foldF (fun i a => a || eqE (entOf (entE fun j => entR (entOf (entE x) j)) i) (maxE (fun j => entR (entOf (entE x) j)) (min n (8 : Nat)))) (min n (8 : Nat)) (0 : Nat) false)
                                                                    (T.ret
                                                                      (out0
                                                                        (SV.v
                                                                          (AB
                                                                            (Ent.inc
                                                                                  (maxE
                                                                                    (entOf fun i => iteL (Nat.ble (i + (1 : Nat)) (0 : Nat)) (selL (chunks (5 : Nat) (0 : Nat) []) i) (entE (fun j => entR (entOf (entE x) j)) (i - (0 : Nat))))
                                                                                    ((0 : Nat) + min n (8 : Nat))) ==
                                                                                Ent.inc (mxE (maxE (fun j => entR (entOf (entE x) j)) (min n (8 : Nat))) (maxE (fun j => entR (entOf (entE x2) j)) (min n2 (8 : Nat)))) &&
                                                                              (Ent.st
                                                                                    (maxE
                                                                                      (entOf fun i => iteL (Nat.ble (i + (1 : Nat)) (0 : Nat)) (selL (chunks (5 : Nat) (0 : Nat) []) i) (entE (fun j => entR (entOf (entE x) j)) (i - (0 : Nat))))
                                                                                      ((0 : Nat) + min n (8 : Nat))) ==
                                                                                  Ent.st (mxE (maxE (fun j => entR (entOf (entE x) j)) (min n (8 : Nat))) (maxE (fun j => entR (entOf (entE x2) j)) (min n2 (8 : Nat)))) &&
                                                                                (Ent.stamp
                                                                                      (maxE
                                                                                        (entOf fun i =>
                                                                                          iteL (Nat.ble (i + (1 : Nat)) (0 : Nat)) (selL (chunks (5 : Nat) (0 : Nat) []) i) (entE (fun j => entR (entOf (entE x) j)) (i - (0 : Nat))))
                                                                                        ((0 : Nat) + min n (8 : Nat))) ==
                                                                                    Ent.stamp (mxE (maxE (fun j => entR (entOf (entE x) j)) (min n (8 : Nat))) (maxE (fun j => entR (entOf (entE x2) j)) (min n2 (8 : Nat)))) &&
                                                                                  (Ent.load
                                                                                        (maxE
                                                                                          (entOf fun i =>
                                                                                            iteL (Nat.ble (i + (1 : Nat)) (0 : Nat)) (selL (chunks (5 : Nat) (0 : Nat) []) i) (entE (fun j => entR (entOf (entE x) j)) (i - (0 : Nat))))
                                                                                          ((0 : Nat) + min n (8 : Nat))) ==
                                                                                      Ent.load (mxE (maxE (fun j => entR (entOf (entE x) j)) (min n (8 : Nat))) (maxE (fun j => entR (entOf (entE x2) j)) (min n2 (8 : Nat)))) &&
                                                                                    (Ent.dr
                                                                                          (maxE
                                                                                            (entOf fun i =>
                                                                                              iteL (Nat.ble (i + (1 : Nat)) (0 : Nat)) (selL (chunks (5 : Nat) (0 : Nat) []) i) (entE (fun j => entR (entOf (entE x) j)) (i - (0 : Nat))))
                                                                                            ((0 : Nat) + min n (8 : Nat))) ==
                                                                                        Ent.dr (mxE (maxE (fun j => entR (entOf (entE x) j)) (min n (8 : Nat))) (maxE (fun j => entR (entOf (entE x2) j)) (min n2 (8 : Nat)))) &&
                                                                                      true)))))))))
                                                                    T.bad))
                                                                T.bad))))
                                                        T.bad)))))
                                              T.bad))
                                          T.bad))))
                                  T.bad)
                                T.bad)
                              T.bad)
                            (T.br (foldF (fun i a => a || eqE (entOf (entE fun j => entR (entOf (entE x) j)) i) (maxE (fun j => entR (entOf (entE x) j)) (min n (8 : Nat)))) (min n (8 : Nat)) (0 : Nat) false) T.bad
                              (T.br (foldF (fun i a => a || eqE (entOf (entE fun j => entR (entOf (entE x) j)) i) (maxE (fun j => entR (entOf (entE x) j)) (min n (8 : Nat)))) (min n (8 : Nat)) (0 : Nat) false) T.bad
                                (T.br (foldF (fun i a => a || eqE (entOf (entE fun j => entR (entOf (entE x) j)) i) (maxE (fun j => entR (entOf (entE x) j)) (min n (8 : Nat)))) (min n (8 : Nat)) (0 : Nat) false) T.bad
                                  (T.br (foldF (fun i a => a || eqE (entOf (entE fun j => entR (entOf (entE x) j)) i) (maxE (fun j => entR (entOf (entE x) j)) (min n (8 : Nat)))) (min n (8 : Nat)) (0 : Nat) false) T.bad
                                    (T.br (foldF (fun i a => a || eqE (entOf (entE fun j => entR (entOf (entE x) j)) i) (maxE (fun j => entR (entOf (entE x) j)) (min n (8 : Nat)))) (min n (8 : Nat)) (0 : Nat) false) T.bad
                                      (T.br (foldF (fun i a => a || eqE (entOf (entE fun j => entR (entOf (entE x) j)) i) (maxE (fun j => entR (entOf (entE x) j)) (min n (8 : Nat)))) (min n (8 : Nat)) (0 : Nat) false) T.bad
                                        (T.br (foldF (fun i a => a || eqE (entOf (entE fun j => entR (entOf (entE x) j)) i) (maxE (fun j => entR (entOf (entE x) j)) (min n (8 : Nat)))) (min n (8 : Nat)) (0 : Nat) false) T.bad
                                          (T.ret (out0 (SV.v (AB false))))))))))))
                          T.bad)
                        T.bad)
                      (T.br (Nat.ble ((0 : Nat) + min n (8 : Nat) + min n2 (8 : Nat)) ((0 : Nat) + min n (8 : Nat))) T.bad
                        (T.br (smallB ((0 : Nat) + min n (8 : Nat) + min n2 (8 : Nat)) (40 : Nat))
                          (T.br (Nat.ble ((0 : Nat) + ((0 : Nat) + min n (8 : Nat))) ((0 : Nat) + min n (8 : Nat)))
                            (T.br (Nat.ble ((0 : Nat) + min n (8 : Nat) + min n2 (8 : Nat)) ((0 : Nat) + min n (8 : Nat) + min n2 (8 : Nat)) && true)
                              (T.br
                                (pb
                                  (EntL false ((0 : Nat) + min n (8 : Nat) + min n2 (8 : Nat)) fun i =>
                                    iteL (Nat.ble (i + (1 : Nat)) ((0 : Nat) + min n (8 : Nat)))
                                      (iteL (Nat.ble ((0 : Nat) + i + (1 : Nat)) (0 : Nat)) (selL (chunks (5 : Nat) (0 : Nat) []) ((0 : Nat) + i)) (entE (fun j => entR (entOf (entE x) j)) ((0 : Nat) + i - (0 : Nat))))
                                      (entE (fun j => entR (entOf (entE x2) j)) (i - ((0 : Nat) + min n (8 : Nat))))))
                                (T.br (foldF (fun i a => a || eqE (entOf (entE fun j => entR (entOf (entE x) j)) i) (maxE (fun j => entR (entOf (entE x) j)) (min n (8 : Nat)))) (min n (8 : Nat)) (0 : Nat) false)
                                  (T.br (foldF (fun i a => a || eqE (entOf (entE fun j => entR (entOf (entE x) j)) i) (maxE (fun j => entR (entOf (entE x) j)) (min n (8 : Nat)))) (min n (8 : Nat)) (0 : Nat) false)
                                    (T.br (foldF (fun i a => a || eqE (entOf (entE fun j => entR (entOf (entE x) j)) i) (maxE (fun j => entR (entOf (entE x) j)) (min n (8 : Nat)))) (min n (8 : Nat)) (0 : Nat) false)
                                      (T.br (foldF (fun i a => a || eqE (entOf (entE fun j => entR (entOf (entE x) j)) i) (maxE (fun j => entR (entOf (entE x) j)) (min n (8 : Nat)))) (min n (8 : Nat)) (0 : Nat) false)
                                        (T.br ((↑(min n (8 : Nat)) : Int) == (0 : Int)) T.bad
                                          (T.br ((↑(min n (8 : Nat)) : Int) == (0 : Int)) T.bad
                                            (T.br ((↑(min n (8 : Nat)) : Int) == (0 : Int)) T.bad
                                              (T.br (foldF (fun i a => a || eqE (entOf (entE fun j => entR (entOf (entE x) j)) i) (maxE (fun j => entR (entOf (entE x) j)) (min n (8 : Nat)))) (min n (8 : Nat)) (0 : Nat) false)
                                                (T.br ((↑(min n (8 : Nat)) : Int) == (0 : Int)) T.bad
                                                  (T.br (foldF (fun i a => a || eqE (entOf (entE fun j => entR (entOf (entE x) j)) i) (maxE (fun j => entR (entOf (entE x) j)) (min n (8 : Nat)))) (min n (8 : Nat)) (0 : Nat) false)
                                                    (T.br ((↑(min n2 (8 : Nat)) : Int) == (0 : Int))
                                                      (T.br ((↑(min n2 (8 : Nat)) : Int) == (0 : Int))
                                                        (T.br ((↑(min n2 (8 : Nat)) : Int) == (0 : Int))
                                                          (T.br ((↑(min n2 (8 : Nat)) : Int) == (0 : Int))
                                                            (T.br ((↑(min n2 (8 : Nat)) : Int) == (0 : Int))
                                                              (T.br ((↑(min n2 (8 : Nat)) : Int) == (0 : Int))
                                                                (T.br ((↑(min n2 (8 : Nat)) : Int) == (0 : Int))
                                                                  (T.br
                                                                    (foldF (fun i a => a || eqE (entOf (entE fun j => entR (entOf (entE x) j)) i) (maxE (fun j => entR (entOf (entE x) j)) (min n (8 : Nat)))) (min n (8 : Nat)) (0 : Nat) false)
                                                                    (T.br ((↑(min n2 (8 : Nat)) : Int) == (0 : Int))
                                                                      (T.br
                                                                        (foldF (fun i a => a || eqE (entOf (entE fun j => entR (entOf (entE x) j)) i) (maxE (fun j => entR (entOf (entE x) j)) (min n (8 : Nat)))) (min n (8 : Nat)) (0 : Nat)
                                                                          false)
                                                                        (T.ret (out0 (SV.v (AB true)))) T.bad)
                                                                      T.bad)
                                                                    T.bad)
                                                                  T.bad)
                                                                T.bad)
                                                              T.bad)
                                                            T.bad)
                                                          T.bad)
                                                        T.bad)
                                                      (T.br ((↑(min n2 (8 : Nat)) : Int) == (0 : Int)) T.bad
                                                        (T.br ((↑(min n2 (8 : Nat)) : Int) == (0 : Int)) T.bad
                                                          (T.br ((↑(min n2 (8 : Nat)) : Int) == (0 : Int)) T.bad
                                                            (T.br (pb (EntL (Nat.beq (min n2 (8 : Nat)) (0 : Nat)) (min n2 (8 : Nat)) (entE fun j => entR (entOf (entE x2) j))))
                                                              (T.br ((↑(min n2 (8 : Nat)) : Int) == (0 : Int)) T.bad
                                                                (T.br ((↑(min n2 (8 : Nat)) : Int) == (0 : Int)) T.bad
                                                                  (T.br ((↑(min n2 (8 : Nat)) : Int) == (0 : Int)) T.bad
                                                                    (T.br
                                                                      (foldF (fun i a => a || eqE (entOf (entE fun j => entR (entOf (entE x) j)) i) (maxE (fun j => entR (entOf (entE x) j)) (min n (8 : Nat)))) (min n (8 : Nat)) (0 : Nat)
                                                                        false)
                                                                      (T.br ((↑(min n2 (8 : Nat)) : Int) == (0 : Int)) T.bad
                                                                        (T.br
                                                                          (foldF (fun i a => a || eqE (entOf (entE fun j => entR (entOf (entE x) j)) i) (maxE (fun j => entR (entOf (entE x) j)) (min n (8 : Nat)))) (min n (8 : Nat)) (0 : Nat)
                                                                            false)
                                                                          (T.ret
                                                                            (out0
                                                                              (SV.v
                                                                                (AB
                                                                                  (Ent.inc
                                                                                        (maxE
                                                                                          (entOf fun i =>
                                                                                            iteL (Nat.ble (i + (1 : Nat)) ((0 : Nat) + min n (8 : Nat)))
                                                                                              (iteL (Nat.ble ((0 : Nat) + i + (1 : Nat)) (0 : Nat)) (selL (chunks (5 : Nat) (0 : Nat) []) ((0 : Nat) + i))
                                                                                                (entE (fun j => entR (entOf (entE x) j)) ((0 : Nat) + i - (0 : Nat))))
                                                                                              (entE (fun j => entR (entOf (entE x2) j)) (i - ((0 : Nat) + min n (8 : Nat)))))
                                                                                          ((0 : Nat) + min n (8 : Nat) + min n2 (8 : Nat))) ==
                                                                                      Ent.inc (mxE (maxE (fun j => entR (entOf (entE x) j)) (min n (8 : Nat))) (maxE (fun j => entR (entOf (entE x2) j)) (min n2 (8 : Nat)))) &&
                                                                                    (Ent.st
                                                                                          (maxE
                                                                                            (entOf fun i =>
                                                                                              iteL (Nat.ble (i + (1 : Nat)) ((0 : Nat) + min n (8 : Nat)))
                                                                                                (iteL (Nat.ble ((0 : Nat) + i + (1 : Nat)) (0 : Nat)) (selL (chunks (5 : Nat) (0 : Nat) []) ((0 : Nat) + i))
                                                                                                  (entE (fun j => entR (entOf (entE x) j)) ((0 : Nat) + i - (0 : Nat))))
                                                                                                (entE (fun j => entR (entOf (entE x2) j)) (i - ((0 : Nat) + min n (8 : Nat)))))
                                                                                            ((0 : Nat) + min n (8 : Nat) + min n2 (8 : Nat))) ==
                                                                                        Ent.st (mxE (maxE (fun j => entR (entOf (entE x) j)) (min n (8 : Nat))) (maxE (fun j => entR (entOf (entE x2) j)) (min n2 (8 : Nat)))) &&
                                                                                      (Ent.stamp
                                                                                            (maxE
                                                                                              (entOf fun i =>
                                                                                                iteL (Nat.ble (i + (1 : Nat)) ((0 : Nat) + min n (8 : Nat)))
                                                                                                  (iteL (Nat.ble ((0 : Nat) + i + (1 : Nat)) (0 : Nat)) (selL (chunks (5 : Nat) (0 : Nat) []) ((0 : Nat) + i))
                                                                                                    (entE (fun j => entR (entOf (entE x) j)) ((0 : Nat) + i - (0 : Nat))))
                                                                                                  (entE (fun j => entR (entOf (entE x2) j)) (i - ((0 : Nat) + min n (8 : Nat)))))
                                                                                              ((0 : Nat) + min n (8 : Nat) + min n2 (8 : Nat))) ==
                                                                                          Ent.stamp (mxE (maxE (fun j => entR (entOf (entE x) j)) (min n (8 : Nat))) (maxE (fun j => entR (entOf (entE x2) j)) (min n2 (8 : Nat)))) &&
                                                                                        (Ent.load
                                                                                              (maxE
                                                                                                (entOf fun i =>
                                                                                                  iteL (Nat.ble (i + (1 : Nat)) ((0 : Nat) + min n (8 : Nat)))
                                                                                                    (iteL (Nat.ble ((0 : Nat) + i + (1 : Nat)) (0 : Nat)) (selL (chunks (5 : Nat) (0 : Nat) []) ((0 : Nat) + i))
                                                                                                      (entE (fun j => entR (entOf (entE x) j)) ((0 : Nat) + i - (0 : Nat))))
                                                                                                    (entE (fun j => entR (entOf (entE x2) j)) (i - ((0 : Nat) + min n (8 : Nat)))))
                                                                                                ((0 : Nat) + min n (8 : Nat) + min n2 (8 : Nat))) ==
                                                                                            Ent.load (mxE (maxE (fun j => entR (entOf (entE x) j)) (min n (8 : Nat))) (maxE (fun j => entR (entOf (entE x2) j)) (min n2 (8 : Nat)))) &&
                                                                                          (Ent.dr
                                                                                                (maxE
                                                                                                  (entOf fun i =>
                                                                                                    iteL (Nat.ble (i + (1 : Nat)) ((0 : Nat) + min n (8 : Nat)))
                                                                                                      (iteL (Nat.ble ((0 : Nat) + i + (1 : Nat)) (0 : Nat)) (selL (chunks (5 : Nat) (0 : Nat) []) ((0 : Nat) + i))
                                                                                                        (entE (fun j => entR (entOf (entE x) j)) ((0 : Nat) + i - (0 : Nat))))
                                                                                                      (entE (fun j => entR (entOf (entE x2) j)) (i - ((0 : Nat) + min n (8 : Nat)))))
                                                                                                  ((0 : Nat) + min n (8 : Nat) + min n2 (8 : Nat))) ==
                                                                                              Ent.dr (mxE (maxE (fun j => entR (entOf (entE x) j)) (min n (8 : Nat))) (maxE (fun j => entR (entOf (entE x2) j)) (min n2 (8 : Nat)))) &&
                                                                                            true)))))))))
                                                                          T.bad))
                                                                      T.bad))))
                                                              T.bad)))))
                                                    T.bad))
                                                T.bad))))
                                        T.bad)
                                      T.bad)
                                    T.bad)
                                  (T.br (foldF (fun i a => a || eqE (entOf (entE fun j => entR (entOf (entE x) j)) i) (maxE (fun j => entR (entOf (entE x) j)) (min n (8 : Nat)))) (min n (8 : Nat)) (0 : Nat) false) T.bad
                                    (T.br (foldF (fun i a => a || eqE (entOf (entE fun j => entR (entOf (entE x) j)) i) (maxE (fun j => entR (entOf (entE x) j)) (min n (8 : Nat)))) (min n (8 : Nat)) (0 : Nat) false) T.bad
                                      (T.br (foldF (fun i a => a || eqE (entOf (entE fun j => entR (entOf (entE x) j)) i) (maxE (fun j => entR (entOf (entE x) j)) (min n (8 : Nat)))) (min n (8 : Nat)) (0 : Nat) false) T.bad
                                        (T.br (foldF (fun i a => a || eqE (entOf (entE fun j => entR (entOf (entE x) j)) i) (maxE (fun j => entR (entOf (entE x) j)) (min n (8 : Nat)))) (min n (8 : Nat)) (0 : Nat) false) T.bad
                                          (T.br (foldF (fun i a => a || eqE (entOf (entE fun j => entR (entOf (entE x) j)) i) (maxE (fun j => entR (entOf (entE x) j)) (min n (8 : Nat)))) (min n (8 : Nat)) (0 : Nat) false) T.bad
                                            (T.br (foldF (fun i a => a || eqE (entOf (entE fun j => entR (entOf (entE x) j)) i) (maxE (fun j => entR (entOf (entE x) j)) (min n (8 : Nat)))) (min n (8 : Nat)) (0 : Nat) false) T.bad
                                              (T.br (foldF (fun i a => a || eqE (entOf (entE fun j => entR (entOf (entE x) j)) i) (maxE (fun j => entR (entOf (entE x) j)) (min n (8 : Nat)))) (min n (8 : Nat)) (0 : Nat) false) T.bad
                                                (T.ret (out0 (SV.v (AB false))))))))))))
                                T.bad)
                              T.bad)
                            T.bad)
                          T.bad)))
                    T.bad)))
              T.bad)
            T.bad))
        T.bad)
      T.bad)
    T.bad := by kernel_rfl
theorem res_MGreatest (nl : Bool) (n : Nat) (x : Nat → Ent) (nl2 : Bool) (n2 : Nat) (x2 : Nat → Ent) (h : LnOk nl n ∧ LnOk nl2 n2) : (tgt_MGreatest nl n x nl2 n2 x2).res = some (out0 (.v (AB true))) := by
  refine T.over_eq _ (tree_MGreatest nl n x nl2 n2 x2) ?_
  simp only [T.res_br, T.res_ret, T.res_bad]
  obtain ⟨hA, hB⟩ := h
  simp only [Nat.zero_add, Nat.sub_zero, Bool.and_true, eq_self, and_self, pb_tt]
  refine ite_tt (pb_true ⟨⟨entN _ x, hA⟩, by decide, by decide⟩) (ite_tt (pb_true ⟨⟨entN _ x2, hB⟩, by decide, by decide⟩) ?_)
  have hN := Nat.min_le_right n 8
  have hM := Nat.min_le_right n2 8
  simp only [entOf_entE]
  generalize min n 8 = N at hN ⊢
  generalize min n2 8 = M at hM ⊢
  have hLN : LnOk (Nat.beq N 0) N := ⟨by omega, fun h => Nat.eq_of_beq_eq_true h⟩
  have hLM : LnOk (Nat.beq M 0) M := ⟨by omega, fun h => Nat.eq_of_beq_eq_true h⟩
  have f2 := pb_true (show EntL (Nat.beq N 0) N (entE (fun j => entR (x j))) from ⟨entN _ (fun j => entR (x j)), hLN⟩)
  have f4 : pb True = true := pb_tt
  have f25 := pb_true (show EntL (Nat.beq M 0) M (entE (fun j => entR (x2 j))) from ⟨entN _ (fun j => entR (x2 j)), hLM⟩)
  have f5 : pb (EntS (Nat.beq N 0) N (entE (fun j => entR (x j))) ∧ EntE (entE (fun j => entR (x2 j))) ∧ True ∧ True ∧ True ∧ True ∧ True ∧ ∀ i, i < N → lessB (maxE (fun j => entR (x j)) N) (entR (x i)) = false) = true :=
    pb_true ⟨⟨EntE_ok (fun j => entR (x j)), hLN⟩, EntE_ok (fun j => entR (x2 j)), trivial, trivial, trivial, trivial, trivial, fun i hi => maxE_ge (fun j => entR (x j)) N i hi⟩
  have f11 : smallB M 40 = true := smallB_le (by omega) (by omega)
  have f15 : smallB N 40 = true := smallB_le (by omega) (by omega)
  have f19 : smallB (N + M) 40 = true := smallB_le (by omega) (by omega)
  have f12 : Nat.ble M M = true := ble_tt (Nat.le_refl _)
  have f16 : Nat.ble N N = true := ble_tt (Nat.le_refl _)
  have f21 : Nat.ble (N + M) (N + M) = true := ble_tt (Nat.le_refl _)
  simp only [f2, f4, f5, if_true]
  have key : ∀ x y : Bool, x = y → some (out0 (.v (AB x))) = some (out0 (.v (AB y))) := fun a b e => by rw [e]
  have eq0 : ∀ a b : Ent, a = b → (Ent.inc a == Ent.inc b && (Ent.st a == Ent.st b && (Ent.stamp a == Ent.stamp b && (Ent.load a == Ent.load b && (Ent.dr a == Ent.dr b))))) = true := fun a b h => by subst h; simp
  have fN0 : Nat.beq N 0 = true ∨ Nat.beq N 0 = false := by cases Nat.beq N 0 <;> simp
  have fM0 : Nat.beq M 0 = true ∨ Nat.beq M 0 = false := by cases Nat.beq M 0 <;> simp
  have nz : ∀ k : Nat, Nat.beq k 0 = false → 0 < k ∧ Nat.ble k 0 = false ∧ ((k : Int) == 0) = false := fun k h => by
    have h0 : 0 < k := by
      rcases Nat.eq_zero_or_pos k with rfl | h0
      · cases h
      · exact h0
    refine ⟨h0, ble_false (by omega), ?_⟩
    simp; omega
  rcases fN0 with hN0 | hN0
  · obtain rfl := Nat.eq_of_beq_eq_true hN0
    have f3 : (((0 : Nat) : Int) == 0) = true := rfl
    have f9 : foldF (fun i a => a || eqE (entR (x i)) (maxE (fun j => entR (x j)) 0)) 0 0 ((maxE (fun j => entR (x j)) 0).inc == 0 && ((maxE (fun j => entR (x j)) 0).st == 0 && ((maxE (fun j => entR (x j)) 0).stamp == 0 && ((maxE (fun j => entR (x j)) 0).load == 0 && (maxE (fun j => entR (x j)) 0).dr == false)))) = true := rfl
    rcases fM0 with hM0 | hM0
    · have f8 : pb (EntL false 0 (selL (chunks 5 0 []))) = true := pb_true ⟨fun i h => absurd h (Nat.not_lt_zero i), by decide, fun h => by cases h⟩
      simp only [f2, f4, f5, f11, f15, f19, f12, f16, f21, f25, hN0, hM0, if_true, if_false, Bool.false_eq_true, f3, f8, f9]
      try rfl
    · obtain ⟨m1, m2, m3⟩ := nz M hM0
      have f13 : pb (EntL false M fun i => iteL (Nat.ble (i + 1) 0) (selL (chunks 5 0 []) i) (entE (fun j => entR (x2 j)) i)) = true := pb_true ⟨fun i h => rfl, ⟨by omega, fun h => by cases h⟩⟩
      simp only [f2, f4, f5, f11, f15, f19, f12, f16, f21, f25, hN0, hM0, if_true, if_false, Bool.false_eq_true, f3, f9, f13, m2, m3]
      try rfl
  · obtain ⟨n1, n2, n3⟩ := nz N hN0
    have f23 : foldF (fun i a => a || eqE (entR (x i)) (maxE (fun j => entR (x j)) N)) N 0 false = true := by
      obtain ⟨j, h1, h2⟩ := maxE_mem (fun j => entR (x j)) N n1
      exact foldF_or _ _ _ (.inr ⟨j, Nat.zero_le _, by omega, by rw [h2]; exact eqE_refl _⟩)
    rcases fM0 with hM0 | hM0
    · obtain rfl := Nat.eq_of_beq_eq_true hM0
      have f24 : (((0 : Nat) : Int) == 0) = true := rfl
      have f17 : pb (EntL false N fun i => iteL (Nat.ble (i + 1) 0) (selL (chunks 5 0 []) i) (entE (fun j => entR (x j)) i)) = true := pb_true ⟨fun i h => rfl, ⟨by omega, fun h => by cases h⟩⟩
      simp only [f2, f4, f5, f11, f15, f19, f12, f16, f21, f25, hN0, hM0, if_true, if_false, Bool.false_eq_true, f23, f17, f24, n2, n3]
      try rfl
    · obtain ⟨m1, m2, m3⟩ := nz M hM0
      have f26 : pb (EntL false M (entE fun j => entR (x2 j))) = true := by rw [← hM0]; exact f25
      have f18 : Nat.ble (N + M) N = false := ble_false (by omega)
      have f22 : pb (EntL false (N + M) fun i => iteL (Nat.ble (i + 1) N) (iteL (Nat.ble (i + 1) 0) (selL (chunks 5 0 []) i) (entE (fun j => entR (x j)) i)) (entE (fun j => entR (x2 j)) (i - N))) = true := pb_true ⟨fun i h => rfl, ⟨by omega, fun h => by cases h⟩⟩
      simp only [f2, f4, f5, f11, f15, f19, f12, f16, f21, f25, hN0, hM0, if_true, if_false, Bool.false_eq_true, f23, f18, f22, f26, n2, n3, m2, m3]
      refine key _ _ (eq0 _ _ (maxE_app (fun j => entR (x j)) (fun j => entR (x2 j)) _ N M n1 m1 (fun i hi => ?_) fun i hi => ?_))
      · exact (entOf_ite (fun i => Nat.ble (i + 1) N) (fun i => iteL (Nat.ble (i + 1) 0) (selL (chunks 5 0 []) i) (entE (fun j => entR (x j)) i)) (fun i => entE (fun j => entR (x2 j)) (i - N)) (fun j => entR (x j)) (fun j => entR (x2 (j - N))) i rfl rfl).trans (by simp only [ble_tt (show i + 1 ≤ N from hi), cond_true])
      · exact (entOf_ite (fun i => Nat.ble (i + 1) N) (fun i => iteL (Nat.ble (i + 1) 0) (selL (chunks 5 0 []) i) (entE (fun j => entR (x j)) i)) (fun i => entE (fun j => entR (x2 j)) (i - N)) (fun j => entR (x j)) (fun j => entR (x2 (j - N))) (i + N) rfl rfl).trans (by simp only [ble_false (show ¬ i + N + 1 ≤ N by omega), cond_false, Nat.add_sub_cancel])
end Go.Proofs.Ytdoehlinboiohaa.En
