/- Lists that are merged: all of it. -/
import Derived.Test.YtdoehlinboiohaaPF
namespace Go.Proofs.Ytdoehlinboiohaa.En
open Go
set_option linter.unusedVariables false
set_option linter.unusedSimpArgs false
set_option maxRecDepth 20000
set_option maxHeartbeats 1000000
def mergeL (x : Nat → Ent) (n : Nat) (a : Acc) : Acc := foldF (fun i a => stM x i a) n 0 a
theorem stM_fst (x : Nat → Ent) (j : Nat) (a : Acc) (h : j ≤ a.1) : (stM x j a).1 = max a.1 (j + 1) := by
  unfold stM
  split <;> simp only <;> omega
theorem mergeL_fst (x : Nat → Ent) (a : Acc) : ∀ n, (mergeL x n a).1 = max a.1 n
  | 0 => by simp [mergeL, foldF]
  | n + 1 => by
    have := mergeL_fst x a n
    rw [mergeL, foldF_succ, Nat.zero_add, stM_fst]
    · show max (mergeL x n a).1 (n + 1) = _
      omega
    · show n ≤ (mergeL x n a).1
      omega
theorem mergeL_snd (x : Nat → Ent) (a : Acc) (t : Nat) : ∀ n, t < max a.1 n → (mergeL x n a).2 t = if t < a.1 then (if t < n then mxE (a.2 t) (x t) else a.2 t) else x t
  | 0, h => by
    have h : t < a.1 := by omega
    rw [if_pos h, if_neg (Nat.not_lt_zero t)]
    rfl
  | n + 1, h => by
    have h1 := mergeL_fst x a n
    have e : mergeL x (n + 1) a = stM x n (mergeL x n a) := by rw [mergeL, foldF_succ, Nat.zero_add]; rfl
    rw [e]
    unfold stM
    by_cases ht : t = n
    · subst ht
      split
      · rename_i h2
        rw [h1] at h2
        simp only [if_true]
        rw [if_neg (by omega)]
      · rename_i h2
        rw [h1] at h2
        simp only [if_true]
        have h3 : t < a.1 := by omega
        rw [mergeL_snd x a t t (by omega)]
        simp only [h3, if_true, Nat.lt_irrefl, if_false, Nat.lt_succ_self]
    · have ih := mergeL_snd x a t n (by omega)
      split <;> simp only [ht, if_false] <;> rw [ih]
      all_goals
        by_cases h3 : t < a.1
        · simp only [h3, if_true]
          by_cases h4 : t < n
          · rw [if_pos h4, if_pos (by omega)]
          · rw [if_neg h4, if_neg (by omega)]
        · simp only [h3, if_false]
def acc0 : Acc := (0, fun _ => default)
def mergeQ (q : Nat → Lst) (k : Nat) : Acc := foldF (fun i a => mergeL (q i).x (q i).n a) k 0 acc0
def S_mo (kl : Bool) (k : Nat) (q : Nat → Lst) (i : Nat) (a : Acc) : St :=
  ⟨[(8, .v (.one (.f (.fs kl 1 k (lstE q))))), (9, .v (AI k)), (10, .v (AI i)), (3, .v (outS 0 a.1))], [(0, outO a.1 a.2)], 1, false, 0, []⟩
def S_ro (kl : Bool) (k : Nat) (q : Nat → Lst) (i : Nat) (a : Acc) : St :=
  ⟨[(0, .v (.one (.f (.fs kl 1 k (lstE q))))), (4, .v (AI i)), (3, .v (outS 0 a.1))], [(0, outO a.1 a.2)], 1, false, 0, []⟩
def LstOk (kl : Bool) (k : Nat) (q : Nat → Lst) : Prop := k ≤ 1000 ∧ (kl = true → k = 0) ∧ ∀ i, i < k → (q i).n ≤ 1000 ∧ ((q i).nl = true → (q i).n = 0)

noncomputable def L_mi : LoopF := mkLoopF [14, 15, 16, 3, 8, 9, 10] (loopOf Try.f18 6) Try.f18.ntmps fun sl H nx => match sl, H, nx with
  | [(14, .v (.one (.f (.fs nl 5 n e)))), (15, .v (.one (.f (.lit (.int .i64 m))))), (16, .v (.one (.f (.lit (.int .i64 j))))), (3, .v (.one (.sl ob 0 5 0 0 N M false 5))), (8, .v (.one (.f (.fs kl 1 k E)))), (9, .v (.one (.f (.lit (.int .i64 k1))))), (10, .v (.one (.f (.lit (.int .i64 i)))))], [(0, .arr live 5 O eR)], 1 => .need (pb (EntE e ∧ n ≤ 1000 ∧ (nl = true → n = 0) ∧ m = n ∧ j = 0 ∧ (∃ q, E = lstE q) ∧ k1 = k ∧ 0 ≤ i ∧ N ≤ 1000 ∧ M = N ∧ O = N ∧ ob = Nat.beq N 0 ∧ live = !(Nat.beq N 0) ∧ EntE eR)) (.ret (.exit 2, (St.mk [(3, .v (outS 1 (mergeL (entOf e) n (N, entOf eR)).1)), (8, .v (.one (.f (.fs kl 1 k E)))), (9, .v (AI k1)), (10, .v (AI i))] [(1, outO (mergeL (entOf e) n (N, entOf eR)).1 (mergeL (entOf e) n (N, entOf eR)).2)] 2 false 0 []).sl, (St.mk [(3, .v (outS 1 (mergeL (entOf e) n (N, entOf eR)).1)), (8, .v (.one (.f (.fs kl 1 k E)))), (9, .v (AI k1)), (10, .v (AI i))] [(1, outO (mergeL (entOf e) n (N, entOf eR)).1 (mergeL (entOf e) n (N, entOf eR)).2)] 2 false 0 []).H, 2, false))
  | _, _, _ => .bad
theorem L_mi_ok : LoopOk Try.prog L_mi := by
  refine mkLoopF_ok fun sl H nx e sl' H' nx' esc' h => ?_
  split at h
  · rename_i nl n e m j ob N M kl k E k1 i live O eR
    obtain ⟨hp, hret⟩ := T.need_some h
    have hp := pb_of hp
    have := T.ret_some hret
    simp only [Prod.mk.injEq] at this
    obtain ⟨rfl, rfl, rfl, rfl, rfl⟩ := this
    clear hret h
    obtain ⟨⟨x, rfl⟩, h1, h2, rfl, rfl, ⟨q, rfl⟩, rfl, h3, h4, rfl, rfl, rfl, rfl, ⟨R, rfl⟩⟩ := hp
    obtain ⟨io, rfl⟩ : ∃ io : Nat, i = io := ⟨i.toNat, by omega⟩
    exact loop_mi nl n x kl k q io h1 h2 0 (O, R) (Nat.zero_le _) ⟨Nat.zero_le _, h4⟩ (StLe.move (Nat.le_refl 1) 0 Nat.zero_lt_one (fun t => by
      by_cases h14 : 14 = t
      · subst h14
        exact .inl rfl
      by_cases h15 : 15 = t
      · subst h15
        exact .inl rfl
      by_cases h16 : 16 = t
      · subst h16
        exact .inl rfl
      by_cases h3 : 3 = t
      · subst h3
        exact .inl rfl
      by_cases h8 : 8 = t
      · subst h8
        exact .inl rfl
      by_cases h9 : 9 = t
      · subst h9
        exact .inl rfl
      by_cases h10 : 10 = t
      · subst h10
        exact .inl rfl
      left
      simp only [S_mi, Slots.get_cons, h14, h15, h16, h3, h8, h9, h10, if_false]
      rfl
      ) (fun c h1 h2 => by rcases c with _ | _ | c <;> first | exact absurd rfl h1 | exact absurd rfl h2 | rfl) (fun h => h) rfl (fun c => by rcases c with _ | c <;> (intro h; cases h))) rfl
  · exact (T.bad_some h).elim
noncomputable def ll_mi : List (Nat × Nat × LoopF) := (18, 6, L_mi) :: ll_gr
theorem ll_mi_ok : ∀ x ∈ ll_mi, LoopOk Try.prog x.2.2 := List.forall_mem_cons.2 ⟨L_mi_ok, ll_gr_ok⟩
noncomputable def L_ri : LoopF := mkLoopF [0, 4, 5, 3] (loopOf Try.f19 6) Try.f19.ntmps fun sl H nx => match sl, H, nx with
  | [(0, .v (.one (.f (.fs kl 1 k E)))), (4, .v (.one (.f (.lit (.int .i64 i))))), (5, .v (.one (.f (.lit (.int .i64 j))))), (3, .v (.one (.sl ob 0 5 0 0 N M false 5)))], [(0, .arr live 5 O eR)], 1 => .need (pb ((∃ q, E = lstE q ∧ LstOk kl k q) ∧ j = 0 ∧ 0 ≤ i ∧ i < (k : Int) ∧ N ≤ 1000 ∧ M = N ∧ O = N ∧ ob = Nat.beq N 0 ∧ live = !(Nat.beq N 0) ∧ EntE eR)) (.ret (.exit 2, (St.mk [(0, .v (.one (.f (.fs kl 1 k E)))), (4, .v (AI i)), (3, .v (outS 1 (mergeL (lstOf E i.toNat).x (lstOf E i.toNat).n (N, entOf eR)).1))] [(1, outO (mergeL (lstOf E i.toNat).x (lstOf E i.toNat).n (N, entOf eR)).1 (mergeL (lstOf E i.toNat).x (lstOf E i.toNat).n (N, entOf eR)).2)] 2 false 0 []).sl, (St.mk [(0, .v (.one (.f (.fs kl 1 k E)))), (4, .v (AI i)), (3, .v (outS 1 (mergeL (lstOf E i.toNat).x (lstOf E i.toNat).n (N, entOf eR)).1))] [(1, outO (mergeL (lstOf E i.toNat).x (lstOf E i.toNat).n (N, entOf eR)).1 (mergeL (lstOf E i.toNat).x (lstOf E i.toNat).n (N, entOf eR)).2)] 2 false 0 []).H, 2, false))
  | _, _, _ => .bad
theorem L_ri_ok : LoopOk Try.prog L_ri := by
  refine mkLoopF_ok fun sl H nx e sl' H' nx' esc' h => ?_
  split at h
  · rename_i kl k E i j ob N M live O eR
    obtain ⟨hp, hret⟩ := T.need_some h
    have hp := pb_of hp
    have := T.ret_some hret
    simp only [Prod.mk.injEq] at this
    obtain ⟨rfl, rfl, rfl, rfl, rfl⟩ := this
    clear hret h
    obtain ⟨⟨q, rfl, h1, h2, h5⟩, rfl, h3, h6, h4, rfl, rfl, rfl, rfl, ⟨R, rfl⟩⟩ := hp
    obtain ⟨io, rfl⟩ : ∃ io : Nat, i = io := ⟨i.toNat, by omega⟩
    obtain ⟨h7, h8⟩ := h5 io (by omega)
    exact loop_ri kl k q io h7 h8 (by omega) h2 0 (O, R) (Nat.zero_le _) ⟨Nat.zero_le _, h4⟩ (StLe.move (Nat.le_refl 1) 0 Nat.zero_lt_one (fun t => by
      by_cases h0 : 0 = t
      · subst h0
        exact .inl rfl
      by_cases h4 : 4 = t
      · subst h4
        exact .inl rfl
      by_cases h5 : 5 = t
      · subst h5
        exact .inl rfl
      by_cases h3 : 3 = t
      · subst h3
        exact .inl rfl
      left
      simp only [S_ri, Slots.get_cons, h0, h4, h5, h3, if_false]
      rfl
      ) (fun c h1 h2 => by rcases c with _ | _ | c <;> first | exact absurd rfl h1 | exact absurd rfl h2 | rfl) (fun h => h) rfl (fun c => by rcases c with _ | c <;> (intro h; cases h))) rfl
  · exact (T.bad_some h).elim
noncomputable def ll_ri : List (Nat × Nat × LoopF) := (19, 6, L_ri) :: ll_mi
theorem ll_ri_ok : ∀ x ∈ ll_ri, LoopOk Try.prog x.2.2 := List.forall_mem_cons.2 ⟨L_ri_ok, ll_mi_ok⟩
noncomputable def GPG1 : Ctx := GS.with ss_Known12 ll_ri
noncomputable def tgt_mo (kl : Bool) (k : Nat) (q : Nat → Lst) (i : Nat) (a : Acc) : T (Ex × St) := evRound GPG1 300 18 Try.f18.ntmps (loopOf Try.f18 3) 0 [8, 9, 10, 3] [3] (S_mo kl k q i a)
noncomputable def tgt_ro (kl : Bool) (k : Nat) (q : Nat → Lst) (i : Nat) (a : Acc) : T (Ex × St) := evRound GPG1 300 19 Try.f19.ntmps (loopOf Try.f19 3) 0 [0, 4, 3] [3] (S_ro kl k q i a)
theorem GKPG1 : KnownOk Try.prog GPG1 := KnownOk.lists ss_Known12_ok ll_ri_ok
theorem GOPG1 : CtxOk Try.prog GPG1 := GS_ok.with _ _
theorem tree_mo (kl : Bool) (k : Nat) (q : Nat → Lst) (i : Nat) (a : Acc) : (tgt_mo kl k q i a).over (.br (.br (.br (.br (.br .leaf .skip) .skip) .skip) .skip) .leaf) =
  T.br (decide ((↑i : Int) < (↑k : Int)))
    (T.br (!kl)
      (T.br (decide ((0 : Int) ≤ (↑i : Int) ∧ (↑i : Int) < (↑k : Int)))
        (T.br (pb (loopOf Proofs.Try.f18 (6 : Nat) = loopOf Proofs.Try.f18 (6 : Nat) ∧ (43 : Nat) = (43 : Nat)))
          (T.br
            (pb
              (EntE (entE (Lst.x (q i))) ∧
                Lst.n (q i) ≤ (1000 : Nat) ∧
                  (Lst.nl (q i) = true → Lst.n (q i) = (0 : Nat)) ∧
                    (↑(Lst.n (q i)) : Int) = (↑(Lst.n (q i)) : Int) ∧
                      (0 : Int) = (0 : Int) ∧
                        (∃ q_1, lstE q = lstE q_1) ∧
                          (↑k : Int) = (↑k : Int) ∧
                            (0 : Int) ≤ (↑i : Int) ∧
                              Prod.fst a ≤ (1000 : Nat) ∧
                                Prod.fst a = Prod.fst a ∧
                                  Prod.fst a = Prod.fst a ∧ Nat.beq (Prod.fst a) (0 : Nat) = Nat.beq (Prod.fst a) (0 : Nat) ∧ (!Nat.beq (Prod.fst a) (0 : Nat)) = !Nat.beq (Prod.fst a) (0 : Nat) ∧ EntE (entE (Prod.snd a))))
            (T.ret
              (Ex.normal,
                {
                  sl :=
                    [((8 : Nat),
                        SV.v
                          (AV.one
                            (CV.f
                              (FV.fs kl (1 : Nat) k fun a =>
                                [FV.fs (Lst.nl (q a)) (5 : Nat) (Lst.n (q a)) fun a_1 =>
                                    [FV.lit (Value.int IntKind.i64 (Ent.inc (Lst.x (q a) a_1))), FV.lit (Value.int IntKind.i64 (Ent.st (Lst.x (q a) a_1))), FV.lit (Value.int IntKind.i64 (Ent.stamp (Lst.x (q a) a_1))),
                                      FV.lit (Value.int IntKind.i64 (Ent.load (Lst.x (q a) a_1))), FV.lit (Value.bool (Ent.dr (Lst.x (q a) a_1)))]])))),
                      ((9 : Nat), SV.v (AI (↑k : Int))), ((10 : Nat), SV.v (AI (IntKind.wrap IntKind.i64 ((↑i : Int) + (1 : Int))))),
                      ((3 : Nat),
                        SV.v
                          (AV.one
                            (CV.sl (Nat.beq (Prod.fst (mergeL (Lst.x (q i)) (Lst.n (q i)) (Prod.fst a, Prod.snd a))) (0 : Nat)) (0 : Nat) (5 : Nat) (0 : Nat) (0 : Nat) (Prod.fst (mergeL (Lst.x (q i)) (Lst.n (q i)) (Prod.fst a, Prod.snd a)))
                              (Prod.fst (mergeL (Lst.x (q i)) (Lst.n (q i)) (Prod.fst a, Prod.snd a))) false (5 : Nat))))],
                  H :=
                    [((0 : Nat),
                        Ob.arr (!Nat.beq (Prod.fst (mergeL (Lst.x (q i)) (Lst.n (q i)) (Prod.fst a, Prod.snd a))) (0 : Nat)) (5 : Nat) (Prod.fst (mergeL (Lst.x (q i)) (Lst.n (q i)) (Prod.fst a, Prod.snd a))) fun a_1 =>
                          [FV.lit (Value.int IntKind.i64 (Ent.inc (Prod.snd (mergeL (Lst.x (q i)) (Lst.n (q i)) (Prod.fst a, Prod.snd a)) a_1))),
                            FV.lit (Value.int IntKind.i64 (Ent.st (Prod.snd (mergeL (Lst.x (q i)) (Lst.n (q i)) (Prod.fst a, Prod.snd a)) a_1))),
                            FV.lit (Value.int IntKind.i64 (Ent.stamp (Prod.snd (mergeL (Lst.x (q i)) (Lst.n (q i)) (Prod.fst a, Prod.snd a)) a_1))),
                            FV.lit (Value.int IntKind.i64 (Ent.load (Prod.snd (mergeL (Lst.x (q i)) (Lst.n (q i)) (Prod.fst a, Prod.snd a)) a_1))),
                            FV.lit (Value.bool (Ent.dr (Prod.snd (mergeL (Lst.x (q i)) (Lst.n (q i)) (Prod.fst a, Prod.snd a)) a_1)))])],
                  nx := (1 : Nat), esc := false, base := (0 : Nat), wr := [(0 : Nat)] : St }))
            T.bad)
          T.bad)
        T.bad)
      T.bad)
    (T.ret
      (Ex.exit (0 : Nat),
        { sl := [((3 : Nat), SV.v (AV.one (CV.sl (Nat.beq (Prod.fst a) (0 : Nat)) (0 : Nat) (5 : Nat) (0 : Nat) (0 : Nat) (Prod.fst a) (Prod.fst a) false (5 : Nat))))],
          H :=
            [((0 : Nat),
                Ob.arr (!Nat.beq (Prod.fst a) (0 : Nat)) (5 : Nat) (Prod.fst a) fun a_1 =>
                  [FV.lit (Value.int IntKind.i64 (Ent.inc (Prod.snd a a_1))), FV.lit (Value.int IntKind.i64 (Ent.st (Prod.snd a a_1))), FV.lit (Value.int IntKind.i64 (Ent.stamp (Prod.snd a a_1))),
                    FV.lit (Value.int IntKind.i64 (Ent.load (Prod.snd a a_1))), FV.lit (Value.bool (Ent.dr (Prod.snd a a_1)))])],
          nx := (1 : Nat), esc := false, base := (0 : Nat), wr := [] : St })) := by kernel_rfl
theorem tree_ro (kl : Bool) (k : Nat) (q : Nat → Lst) (i : Nat) (a : Acc) : (tgt_ro kl k q i a).over (.br (.br (.br .leaf .skip) .skip) .leaf) =
  T.br (decide ((↑i : Int) < (↑k : Int)))
    (T.br (pb (loopOf Proofs.Try.f19 (6 : Nat) = loopOf Proofs.Try.f19 (6 : Nat) ∧ (52 : Nat) = (52 : Nat)))
      (T.br
        (pb
          ((∃ q_1, lstE q = lstE q_1 ∧ LstOk kl k q_1) ∧
            (0 : Int) = (0 : Int) ∧
              (0 : Int) ≤ (↑i : Int) ∧
                (↑i : Int) < (↑k : Int) ∧
                  Prod.fst a ≤ (1000 : Nat) ∧
                    Prod.fst a = Prod.fst a ∧ Prod.fst a = Prod.fst a ∧ Nat.beq (Prod.fst a) (0 : Nat) = Nat.beq (Prod.fst a) (0 : Nat) ∧ (!Nat.beq (Prod.fst a) (0 : Nat)) = !Nat.beq (Prod.fst a) (0 : Nat) ∧ EntE (entE (Prod.snd a))))
        (T.ret
          (Ex.normal,
            {
              sl :=
                [((0 : Nat),
                    SV.v
                      (AV.one
                        (CV.f
                          (FV.fs kl (1 : Nat) k fun a =>
                            [FV.fs (Lst.nl (q a)) (5 : Nat) (Lst.n (q a)) fun a_1 =>
                                [FV.lit (Value.int IntKind.i64 (Ent.inc (Lst.x (q a) a_1))), FV.lit (Value.int IntKind.i64 (Ent.st (Lst.x (q a) a_1))), FV.lit (Value.int IntKind.i64 (Ent.stamp (Lst.x (q a) a_1))),
                                  FV.lit (Value.int IntKind.i64 (Ent.load (Lst.x (q a) a_1))), FV.lit (Value.bool (Ent.dr (Lst.x (q a) a_1)))]])))),
                  ((4 : Nat), SV.v (AI (IntKind.wrap IntKind.i64 ((↑i : Int) + (1 : Int))))),
                  ((3 : Nat),
                    SV.v
                      (AV.one
                        (CV.sl (Nat.beq (Prod.fst (mergeL (Lst.x (lstOf (lstE q) i)) (Lst.n (lstOf (lstE q) i)) (Prod.fst a, Prod.snd a))) (0 : Nat)) (0 : Nat) (5 : Nat) (0 : Nat) (0 : Nat)
                          (Prod.fst (mergeL (Lst.x (lstOf (lstE q) i)) (Lst.n (lstOf (lstE q) i)) (Prod.fst a, Prod.snd a))) (Prod.fst (mergeL (Lst.x (lstOf (lstE q) i)) (Lst.n (lstOf (lstE q) i)) (Prod.fst a, Prod.snd a))) false
                          (5 : Nat))))],
              H :=
                [((0 : Nat),
                    Ob.arr (!Nat.beq (Prod.fst (mergeL (Lst.x (lstOf (lstE q) i)) (Lst.n (lstOf (lstE q) i)) (Prod.fst a, Prod.snd a))) (0 : Nat)) (5 : Nat)
                      (Prod.fst (mergeL (Lst.x (lstOf (lstE q) i)) (Lst.n (lstOf (lstE q) i)) (Prod.fst a, Prod.snd a))) fun a_1 =>
                      [FV.lit (Value.int IntKind.i64 (Ent.inc (Prod.snd (mergeL (Lst.x (lstOf (lstE q) i)) (Lst.n (lstOf (lstE q) i)) (Prod.fst a, Prod.snd a)) a_1))),
                        FV.lit (Value.int IntKind.i64 (Ent.st (Prod.snd (mergeL (Lst.x (lstOf (lstE q) i)) (Lst.n (lstOf (lstE q) i)) (Prod.fst a, Prod.snd a)) a_1))),
                        FV.lit (Value.int IntKind.i64 (Ent.stamp (Prod.snd (mergeL (Lst.x (lstOf (lstE q) i)) (Lst.n (lstOf (lstE q) i)) (Prod.fst a, Prod.snd a)) a_1))),
                        FV.lit (Value.int IntKind.i64 (Ent.load (Prod.snd (mergeL (Lst.x (lstOf (lstE q) i)) (Lst.n (lstOf (lstE q) i)) (Prod.fst a, Prod.snd a)) a_1))),
                        FV.lit (Value.bool (Ent.dr (Prod.snd (mergeL (Lst.x (lstOf (lstE q) i)) (Lst.n (lstOf (lstE q) i)) (Prod.fst a, Prod.snd a)) a_1)))])],
              nx := (1 : Nat), esc := false, base := (0 : Nat), wr := [(0 : Nat)] : St }))
        T.bad)
      T.bad)
    (T.ret
      (Ex.exit (0 : Nat),
        { sl := [((3 : Nat), SV.v (AV.one (CV.sl (Nat.beq (Prod.fst a) (0 : Nat)) (0 : Nat) (5 : Nat) (0 : Nat) (0 : Nat) (Prod.fst a) (Prod.fst a) false (5 : Nat))))],
          H :=
            [((0 : Nat),
                Ob.arr (!Nat.beq (Prod.fst a) (0 : Nat)) (5 : Nat) (Prod.fst a) fun a_1 =>
                  [FV.lit (Value.int IntKind.i64 (Ent.inc (Prod.snd a a_1))), FV.lit (Value.int IntKind.i64 (Ent.st (Prod.snd a a_1))), FV.lit (Value.int IntKind.i64 (Ent.stamp (Prod.snd a a_1))),
                    FV.lit (Value.int IntKind.i64 (Ent.load (Prod.snd a a_1))), FV.lit (Value.bool (Ent.dr (Prod.snd a a_1)))])],
          nx := (1 : Nat), esc := false, base := (0 : Nat), wr := [] : St })) := by kernel_rfl
theorem round_mo (kl : Bool) (k : Nat) (q : Nat → Lst) (hq : LstOk kl k q) (i : Nat) (a : Acc) (hi : i < k) (hI : (fun (i : Nat) (a : Acc) => (a.1 ≤ 1000 : Prop)) i a) : ∃ s, (tgt_mo kl k q i a).res = some (.normal, s) ∧ StLe 0 s (S_mo kl k q (i + 1) ((fun (i : Nat) (a : Acc) => (mergeL (q i).x (q i).n a)) i a)) ∧ (fun (i : Nat) (a : Acc) => (a.1 ≤ 1000 : Prop)) (i + 1) ((fun (i : Nat) (a : Acc) => (mergeL (q i).x (q i).n a)) i a) := by
  refine T.over_exP (g := fun s => (Ex.normal, s)) (tree_mo kl k q i a) ?_
  obtain ⟨N, R⟩ := a
  obtain ⟨hk, hkl, hl⟩ := hq
  obtain ⟨h1, h2⟩ := hl i hi
  simp only at hI
  have e1 : ((i : Int) < (k : Int)) := by omega
  have e2 : (0 : Int) ≤ (i : Int) ∧ (i : Int) < (k : Int) := by omega
  have e3 : IntKind.wrap .i64 ((i : Int) + 1) = ((i + 1 : Nat) : Int) := by rw [wrapI (by omega)]; rfl
  have ek : (!kl) = true := by cases kl <;> simp_all <;> omega
  simp only [T.res_br, T.res_ret, T.res_bad, decide_eq_true_eq, e1, e2, e3, ek, reduceIte, eq_self, and_self, pb_tt]
  refine ⟨_, (if_pos (pb_true (by exact ⟨EntE_ok _, h1, h2, (by first | trivial | omega | assumption), (by first | trivial | omega | assumption), ⟨q, rfl⟩, (by first | trivial | omega | assumption), (by first | trivial | omega | assumption), (by first | trivial | omega | assumption), (by first | trivial | omega | assumption), (by first | trivial | omega | assumption), (by first | trivial | omega | assumption), (by first | trivial | omega | assumption), EntE_ok _⟩))).trans rfl, StLe.less (Nat.zero_le _) (fun t => .inr (.inl rfl)) (fun b => .inl rfl), ?_⟩
  show (mergeL _ _ (N, R)).1 ≤ 1000
  rw [mergeL_fst]
  simp only
  omega
theorem end_mo (kl : Bool) (k : Nat) (q : Nat → Lst) (hq : LstOk kl k q) (a : Acc) (hI : (fun (i : Nat) (a : Acc) => (a.1 ≤ 1000 : Prop)) (k) a) : ∃ s, (tgt_mo kl k q (k) a).res = some (.exit 0, s) ∧ StLe 0 s (⟨[(3, .v (outS 0 a.1))], [(0, outO a.1 a.2)], 1, false, 0, []⟩) := by
  refine T.over_exP (g := fun s => (.exit 0, s)) (tree_mo kl k q (k) a) ?_
  obtain ⟨N, R⟩ := a
  simp only [T.res_br, T.res_ret, T.res_bad, decide_eq_true_eq, Int.lt_irrefl, reduceIte]
  exact ⟨_, rfl, StLe.refl (Nat.zero_le _)⟩
theorem loop_mo (kl : Bool) (k : Nat) (q : Nat → Lst) (hq : LstOk kl k q) (i : Nat) (a : Acc) (hi : i ≤ k) (hI : (fun (i : Nat) (a : Acc) => (a.1 ≤ 1000 : Prop)) i a) {st0 : St} (h0 : StLe 0 st0 (S_mo kl k q i a)) (hnx : st0.nx = 0) :
    CodeOk Try.prog Try.f18.ntmps (.loop (loopOf Try.f18 3)) st0 (.exit 0) ((fun (a : Acc) => ⟨[(3, .v (outS 0 a.1))], [(0, outO a.1 a.2)], 1, false, 0, []⟩) (foldF (fun (i : Nat) (a : Acc) => (mergeL (q i).x (q i).n a)) (k - i) i a)) := by
  have := for_loop GOPG1 GKPG1 (K := 300) (F := 18) (N := Try.f18.ntmps) (c := loopOf Try.f18 3) (m := 0) (live := [8, 9, 10, 3]) (after := [3]) (S_mo kl k q) (k) (fun (i : Nat) (a : Acc) => .inl (mergeL (q i).x (q i).n a)) (fun (a : Acc) => (.exit 0, ⟨[(3, .v (outS 0 a.1))], [(0, outO a.1 a.2)], 1, false, 0, []⟩)) (fun (i : Nat) (a : Acc) => (a.1 ≤ 1000 : Prop))
    (fun i a hi hI => by obtain ⟨s, h1, h2, h3⟩ := round_mo kl k q hq i a hi hI; exact ⟨_, s, h1, rfl, h2, h3⟩)
    (fun a hI => by obtain ⟨s, h1, h2⟩ := end_mo kl k q hq a hI; exact ⟨_, s, h1, by simp, rfl, h2⟩)
    (fun i a => by first | exact Nat.le_refl _ | (show 0 ≤ _; decide) | (simp only [S_mo]; omega)) hi hI h0 hnx
  rw [foldX_inl] at this
  exact this
theorem round_ro (kl : Bool) (k : Nat) (q : Nat → Lst) (hq : LstOk kl k q) (i : Nat) (a : Acc) (hi : i < k) (hI : (fun (i : Nat) (a : Acc) => (a.1 ≤ 1000 : Prop)) i a) : ∃ s, (tgt_ro kl k q i a).res = some (.normal, s) ∧ StLe 0 s (S_ro kl k q (i + 1) ((fun (i : Nat) (a : Acc) => (mergeL (q i).x (q i).n a)) i a)) ∧ (fun (i : Nat) (a : Acc) => (a.1 ≤ 1000 : Prop)) (i + 1) ((fun (i : Nat) (a : Acc) => (mergeL (q i).x (q i).n a)) i a) := by
  refine T.over_exP (g := fun s => (Ex.normal, s)) (tree_ro kl k q i a) ?_
  obtain ⟨N, R⟩ := a
  obtain ⟨hk, hkl, hl⟩ := hq
  obtain ⟨h1, h2⟩ := hl i hi
  simp only at hI
  have e1 : ((i : Int) < (k : Int)) := by omega
  have e2 : (0 : Int) ≤ (i : Int) ∧ (i : Int) < (k : Int) := by omega
  have e3 : IntKind.wrap .i64 ((i : Int) + 1) = ((i + 1 : Nat) : Int) := by rw [wrapI (by omega)]; rfl
  have ek : (!kl) = true := by cases kl <;> simp_all <;> omega
  simp only [T.res_br, T.res_ret, T.res_bad, decide_eq_true_eq, e1, e2, e3, ek, reduceIte, eq_self, and_self, pb_tt]
  refine ⟨_, (if_pos (pb_true (by exact ⟨⟨q, rfl, hk, hkl, hl⟩, (by first | trivial | omega | assumption), (by first | trivial | omega | assumption), (by first | trivial | omega | assumption), (by first | trivial | omega | assumption), (by first | trivial | omega | assumption), (by first | trivial | omega | assumption), (by first | trivial | omega | assumption), (by first | trivial | omega | assumption), EntE_ok _⟩))).trans rfl, StLe.less (Nat.zero_le _) (fun t => .inr (.inl rfl)) (fun b => .inl rfl), ?_⟩
  show (mergeL _ _ (N, R)).1 ≤ 1000
  rw [mergeL_fst]
  simp only
  omega
theorem end_ro (kl : Bool) (k : Nat) (q : Nat → Lst) (hq : LstOk kl k q) (a : Acc) (hI : (fun (i : Nat) (a : Acc) => (a.1 ≤ 1000 : Prop)) (k) a) : ∃ s, (tgt_ro kl k q (k) a).res = some (.exit 0, s) ∧ StLe 0 s (⟨[(3, .v (outS 0 a.1))], [(0, outO a.1 a.2)], 1, false, 0, []⟩) := by
  refine T.over_exP (g := fun s => (.exit 0, s)) (tree_ro kl k q (k) a) ?_
  obtain ⟨N, R⟩ := a
  simp only [T.res_br, T.res_ret, T.res_bad, decide_eq_true_eq, Int.lt_irrefl, reduceIte]
  exact ⟨_, rfl, StLe.refl (Nat.zero_le _)⟩
theorem loop_ro (kl : Bool) (k : Nat) (q : Nat → Lst) (hq : LstOk kl k q) (i : Nat) (a : Acc) (hi : i ≤ k) (hI : (fun (i : Nat) (a : Acc) => (a.1 ≤ 1000 : Prop)) i a) {st0 : St} (h0 : StLe 0 st0 (S_ro kl k q i a)) (hnx : st0.nx = 0) :
    CodeOk Try.prog Try.f19.ntmps (.loop (loopOf Try.f19 3)) st0 (.exit 0) ((fun (a : Acc) => ⟨[(3, .v (outS 0 a.1))], [(0, outO a.1 a.2)], 1, false, 0, []⟩) (foldF (fun (i : Nat) (a : Acc) => (mergeL (q i).x (q i).n a)) (k - i) i a)) := by
  have := for_loop GOPG1 GKPG1 (K := 300) (F := 19) (N := Try.f19.ntmps) (c := loopOf Try.f19 3) (m := 0) (live := [0, 4, 3]) (after := [3]) (S_ro kl k q) (k) (fun (i : Nat) (a : Acc) => .inl (mergeL (q i).x (q i).n a)) (fun (a : Acc) => (.exit 0, ⟨[(3, .v (outS 0 a.1))], [(0, outO a.1 a.2)], 1, false, 0, []⟩)) (fun (i : Nat) (a : Acc) => (a.1 ≤ 1000 : Prop))
    (fun i a hi hI => by obtain ⟨s, h1, h2, h3⟩ := round_ro kl k q hq i a hi hI; exact ⟨_, s, h1, rfl, h2, h3⟩)
    (fun a hI => by obtain ⟨s, h1, h2⟩ := end_ro kl k q hq a hI; exact ⟨_, s, h1, by simp, rfl, h2⟩)
    (fun i a => by first | exact Nat.le_refl _ | (show 0 ≤ _; decide) | (simp only [S_ro]; omega)) hi hI h0 hnx
  rw [foldX_inl] at this
  exact this
noncomputable def L_mo : LoopF := mkLoopF [8, 9, 10, 3] (loopOf Try.f18 3) Try.f18.ntmps fun sl H nx => match sl, H, nx with
  | [(8, .v (.one (.f (.fs kl 1 k E)))), (9, .v (.one (.f (.lit (.int .i64 k1))))), (10, .v (.one (.f (.lit (.int .i64 i))))), (3, .v (.one (.f (.lit (.slice none 0 0)))))], [], 0 => .need (pb ((∃ q, E = lstE q ∧ LstOk kl k q) ∧ i = 0 ∧ k1 = k)) (.ret (.exit 0, (St.mk [(3, .v (outS 0 (mergeQ (lstOf E) k).1))] [(0, outO (mergeQ (lstOf E) k).1 (mergeQ (lstOf E) k).2)] 1 false 0 []).sl, (St.mk [(3, .v (outS 0 (mergeQ (lstOf E) k).1))] [(0, outO (mergeQ (lstOf E) k).1 (mergeQ (lstOf E) k).2)] 1 false 0 []).H, 1, false))
  | _, _, _ => .bad
theorem L_mo_ok : LoopOk Try.prog L_mo := by
  refine mkLoopF_ok fun sl H nx e sl' H' nx' esc' h => ?_
  split at h
  · rename_i kl k E k1 i
    obtain ⟨hp, hret⟩ := T.need_some h
    have hp := pb_of hp
    have := T.ret_some hret
    simp only [Prod.mk.injEq] at this
    obtain ⟨rfl, rfl, rfl, rfl, rfl⟩ := this
    clear hret h
    obtain ⟨⟨q, rfl, hq⟩, rfl, rfl⟩ := hp
    exact loop_mo kl k q hq 0 acc0 (Nat.zero_le _) (Nat.zero_le _) (StLe.row (Nat.zero_le _) (fun t => by
      by_cases h3 : 3 = t
      · subst h3
        exact .inr (.inr ⟨rfl, _, _, _, rfl⟩)
      left
      simp only [S_mo, Slots.get_cons, h3, if_false]
      rfl) (fun b hb => by rcases b with _ | b <;> first | exact absurd rfl hb | rfl) (fun h => by cases h)) rfl
  · exact (T.bad_some h).elim
noncomputable def ll_mo : List (Nat × Nat × LoopF) := (18, 3, L_mo) :: ll_ri
theorem ll_mo_ok : ∀ x ∈ ll_mo, LoopOk Try.prog x.2.2 := List.forall_mem_cons.2 ⟨L_mo_ok, ll_ri_ok⟩
noncomputable def L_ro : LoopF := mkLoopF [0, 4, 3] (loopOf Try.f19 3) Try.f19.ntmps fun sl H nx => match sl, H, nx with
  | [(0, .v (.one (.f (.fs kl 1 k E)))), (4, .v (.one (.f (.lit (.int .i64 i))))), (3, .v (.one (.f (.lit (.slice none 0 0)))))], [], 0 => .need (pb ((∃ q, E = lstE q ∧ LstOk kl k q) ∧ i = 0)) (.ret (.exit 0, (St.mk [(3, .v (outS 0 (mergeQ (lstOf E) k).1))] [(0, outO (mergeQ (lstOf E) k).1 (mergeQ (lstOf E) k).2)] 1 false 0 []).sl, (St.mk [(3, .v (outS 0 (mergeQ (lstOf E) k).1))] [(0, outO (mergeQ (lstOf E) k).1 (mergeQ (lstOf E) k).2)] 1 false 0 []).H, 1, false))
  | _, _, _ => .bad
theorem L_ro_ok : LoopOk Try.prog L_ro := by
  refine mkLoopF_ok fun sl H nx e sl' H' nx' esc' h => ?_
  split at h
  · rename_i kl k E i
    obtain ⟨hp, hret⟩ := T.need_some h
    have hp := pb_of hp
    have := T.ret_some hret
    simp only [Prod.mk.injEq] at this
    obtain ⟨rfl, rfl, rfl, rfl, rfl⟩ := this
    clear hret h
    obtain ⟨⟨q, rfl, hq⟩, rfl⟩ := hp
    exact loop_ro kl k q hq 0 acc0 (Nat.zero_le _) (Nat.zero_le _) (StLe.row (Nat.zero_le _) (fun t => by
      by_cases h3 : 3 = t
      · subst h3
        exact .inr (.inr ⟨rfl, _, _, _, rfl⟩)
      left
      simp only [S_ro, Slots.get_cons, h3, if_false]
      rfl) (fun b hb => by rcases b with _ | b <;> first | exact absurd rfl hb | rfl) (fun h => by cases h)) rfl
  · exact (T.bad_some h).elim
noncomputable def ll_ro : List (Nat × Nat × LoopF) := (19, 3, L_ro) :: ll_mo
theorem ll_ro_ok : ∀ x ∈ ll_ro, LoopOk Try.prog x.2.2 := List.forall_mem_cons.2 ⟨L_ro_ok, ll_mo_ok⟩
noncomputable def GPG2 : Ctx := GS.with ss_Known12 ll_ro
noncomputable def tgt_MergeZ (kl : Bool) (k : Nat) (q : Nat → Lst) : T CallOut := evCallZ [] GPG2 300 18 [.one (.f (.fs kl 1 k (lstE q)))] [] 0
noncomputable def tgt_RMergeZ (kl : Bool) (k : Nat) (q : Nat → Lst) : T CallOut := evCallZ [] GPG2 300 19 [.one (.f (.fs kl 1 k (lstE q)))] [] 0
theorem GKPG2 : KnownOk Try.prog GPG2 := KnownOk.lists ss_Known12_ok ll_ro_ok
theorem GOPG2 : CtxOk Try.prog GPG2 := GS_ok.with _ _
theorem tree_MergeZ (kl : Bool) (k : Nat) (q : Nat → Lst) : (tgt_MergeZ kl k q).over (.br (.br (.br (.br (.br .leaf (.br (.br .leaf .skip) .skip)) .skip) .skip) .skip) .skip) =
  T.br (pb (loopOf Proofs.Try.f18 (3 : Nat) = loopOf Proofs.Try.f18 (3 : Nat) ∧ (43 : Nat) = (43 : Nat)))
    (T.br (pb ((∃ q_1, lstE q = lstE q_1 ∧ LstOk kl k q_1) ∧ (0 : Int) = (0 : Int) ∧ (↑k : Int) = (↑k : Int)))
      (T.br (decide ((0 : Int) ≤ (↑(Prod.fst (mergeQ q k)) : Int) ∧ (↑(Prod.fst (mergeQ q k)) : Int) ≤ (↑(Prod.fst (mergeQ q k)) : Int)))
        (T.br (decide ((0 : Int) ≤ (↑(Prod.fst (mergeQ q k)) : Int) ∧ (↑(Prod.fst (mergeQ q k)) : Int) ≤ (↑(Prod.fst (mergeQ q k)) : Int)))
          (T.br (Nat.beq (Prod.fst (mergeQ q k)) (0 : Nat)) (T.ret (out0 (SV.v (AV.one (CV.f (FV.z0 (Nat.beq (Prod.fst (mergeQ q k)) (0 : Nat))))))))
            (T.br (!Nat.beq (Prod.fst (mergeQ q k)) (0 : Nat))
              (T.br (Nat.ble (Prod.fst (mergeQ q k) - (0 : Nat)) (Prod.fst (mergeQ q k)) && (!Nat.beq (Prod.fst (mergeQ q k)) (0 : Nat) || Nat.beq (Prod.fst (mergeQ q k) - (0 : Nat)) (0 : Nat)))
                (T.ret
                  (out0
                    (SV.v
                      (AV.one
                        (CV.f
                          (FV.fs false (5 : Nat) (Prod.fst (mergeQ q k) - (0 : Nat)) fun a =>
                            [FV.lit (Value.int IntKind.i64 (Ent.inc (Prod.snd (mergeQ q k) a))), FV.lit (Value.int IntKind.i64 (Ent.st (Prod.snd (mergeQ q k) a))), FV.lit (Value.int IntKind.i64 (Ent.stamp (Prod.snd (mergeQ q k) a))),
                              FV.lit (Value.int IntKind.i64 (Ent.load (Prod.snd (mergeQ q k) a))), FV.lit (Value.bool (Ent.dr (Prod.snd (mergeQ q k) a)))]))))))
                T.bad)
              T.bad))
          T.bad)
        T.bad)
      T.bad)
    T.bad := by kernel_rfl
theorem tree_RMergeZ (kl : Bool) (k : Nat) (q : Nat → Lst) : (tgt_RMergeZ kl k q).over (.br (.br (.br .leaf .skip) .skip) .skip) =
  T.br (pb (loopOf Proofs.Try.f19 (3 : Nat) = loopOf Proofs.Try.f19 (3 : Nat) ∧ (52 : Nat) = (52 : Nat)))
    (T.br (pb ((∃ q_1, lstE q = lstE q_1 ∧ LstOk kl k q_1) ∧ (0 : Int) = (0 : Int)))
      (T.br (Nat.ble (Prod.fst (mergeQ q k)) (Prod.fst (mergeQ q k)) && (!Nat.beq (Prod.fst (mergeQ q k)) (0 : Nat) || Nat.beq (Prod.fst (mergeQ q k)) (0 : Nat)))
        (T.ret
          (out0
            (SV.v
              (AV.one
                (CV.f
                  (FV.fs (Nat.beq (Prod.fst (mergeQ q k)) (0 : Nat)) (5 : Nat) (Prod.fst (mergeQ q k)) fun a =>
                    [FV.lit (Value.int IntKind.i64 (Ent.inc (Prod.snd (mergeQ q k) a))), FV.lit (Value.int IntKind.i64 (Ent.st (Prod.snd (mergeQ q k) a))), FV.lit (Value.int IntKind.i64 (Ent.stamp (Prod.snd (mergeQ q k) a))),
                      FV.lit (Value.int IntKind.i64 (Ent.load (Prod.snd (mergeQ q k) a))), FV.lit (Value.bool (Ent.dr (Prod.snd (mergeQ q k) a)))]))))))
        T.bad)
      T.bad)
    T.bad := by kernel_rfl
theorem mergeQ_le (q : Nat → Lst) : ∀ k, (∀ i, i < k → (q i).n ≤ 1000) → (mergeQ q k).1 ≤ 1000
  | 0, _ => Nat.zero_le _
  | k + 1, h => by
    have ih := mergeQ_le q k fun i hi => h i (by omega)
    have h1 := h k (Nat.lt_succ_self k)
    rw [mergeQ, foldF_succ, Nat.zero_add, mergeL_fst]
    show max (mergeQ q k).1 (q k).n ≤ 1000
    omega
theorem to_MergeZ (kl : Bool) (k : Nat) (q : Nat → Lst) (h : LstOk kl k q) : CallTo Try.prog 18 [.one (.f (.fs kl 1 k (lstE q)))] [] 0 (out0 (.v (.one (.f (.fs (Nat.beq (mergeQ q k).1 0) 5 (mergeQ q k).1 (entE (mergeQ q k).2)))))) := by
  obtain ⟨v, h1, h2⟩ : ∃ v : FV, (tgt_MergeZ kl k q).res = some (out0 (.v (.one (.f v)))) ∧ v.le (.fs (Nat.beq (mergeQ q k).1 0) 5 (mergeQ q k).1 (entE (mergeQ q k).2)) := by
    refine T.over_exP (g := fun v => out0 (.v (.one (.f v)))) (tree_MergeZ kl k q) ?_
    simp only [T.res_br, T.res_ret, T.res_bad, eq_self, and_self, pb_tt, reduceIte]
    rw [if_pos (pb_true (by exact ⟨⟨q, rfl, h⟩, trivial⟩))]
    generalize mergeQ q k = p
    obtain ⟨N, R⟩ := p
    have e1 : (0 : Int) ≤ (N : Int) ∧ (N : Int) ≤ (N : Int) := by omega
    simp only [e1, and_self, decide_true, reduceIte]
    cases hN : Nat.beq N 0 with
    | true =>
      obtain rfl := Nat.eq_of_beq_eq_true hN
      exact ⟨_, rfl, FV.le_z0⟩
    | false =>
      have e2 : Nat.ble N N = true := ble_tt (Nat.le_refl _)
      simp only [Nat.sub_zero, e2, hN, Bool.not_false, Bool.or_false, Bool.and_self, Bool.false_eq_true, reduceIte]
      exact ⟨_, rfl, FV.le.refl _⟩
  exact (evCallZ_ok GOPG2 GKPG2 h1).less (Nat.zero_le _) (.inr (.inr ⟨_, _, rfl, rfl, CV.le.f h2⟩)) (fun b => .inl rfl) rfl rfl
theorem to_RMergeZ (kl : Bool) (k : Nat) (q : Nat → Lst) (h : LstOk kl k q) : CallTo Try.prog 19 [.one (.f (.fs kl 1 k (lstE q)))] [] 0 (out0 (.v (.one (.f (.fs (Nat.beq (mergeQ q k).1 0) 5 (mergeQ q k).1 (entE (mergeQ q k).2)))))) := by
  have h1 : (tgt_RMergeZ kl k q).res = some (out0 (.v (.one (.f (.fs (Nat.beq (mergeQ q k).1 0) 5 (mergeQ q k).1 (entE (mergeQ q k).2)))))) := by
    refine T.over_eq _ (tree_RMergeZ kl k q) ?_
    have e2 : ∀ N, (Nat.ble N N && (!Nat.beq N 0 || Nat.beq N 0)) = true := fun N => by rw [ble_tt (Nat.le_refl _), Bool.or_comm, beq_or]; rfl
    simp only [T.res_br, T.res_ret, T.res_bad, eq_self, and_self, pb_tt, e2, reduceIte]
    rw [if_pos (pb_true (by exact ⟨⟨q, rfl, h⟩, trivial⟩))]
  exact evCallZ_ok GOPG2 GKPG2 h1

end Go.Proofs.Ytdoehlinboiohaa.En
