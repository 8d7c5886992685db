/- Views: who is here. -/
import Derived.Test.YtdoehlinboiohaaUC
namespace Go.Proofs.Ytdoehlinboiohaa.En
open Go
set_option linter.unusedVariables false
set_option linter.unusedSimpArgs false
set_option maxRecDepth 20000
set_option maxHeartbeats 1000000
abbrev AccI := Nat × (Nat → Int)
abbrev outI (b N : Nat) : AV := .one (.sl (Nat.beq N 0) b 1 0 0 N N false 1)
abbrev outJ (N : Nat) (R : Nat → Int) : Ob := .arr (!(Nat.beq N 0)) 1 N (intE R)
/-- one more host that may be here -/
def stH (t : Nat → Ent) (i : Nat) (a : AccI) : AccI := if (t i).st = 2 then a else (a.1 + 1, fun j => if j = a.1 then (i : Int) else a.2 j)
def S_hi (n : Nat) (t : Nat → Ent) (i : Nat) (a : AccI) : St :=
  ⟨[(9, .v (.one (.sl false 0 5 0 0 n n true 5))), (10, .v (AI n)), (11, .v (AI i)), (3, .v (outI 1 a.1))], [(0, .arr true 5 n (entE t)), (1, outJ a.1 a.2)], 2, false, 0, []⟩
def S_hh (n : Nat) (t : Nat → Ent) (i : Nat) (a : AccI) : St :=
  ⟨[(0, .v (.one (.sl false 0 5 0 0 n n true 5))), (4, .v (AI i)), (3, .v (outI 1 a.1))], [(0, .arr true 5 n (entE t)), (1, outJ a.1 a.2)], 2, false, 0, []⟩

noncomputable def GUD1 : Ctx := GS.with ss_vheard ll_hv
noncomputable def tgt_hi (n : Nat) (t : Nat → Ent) (i : Nat) (a : AccI) : T (Ex × St) := evRound GUD1 300 29 Try.f29.ntmps (loopOf Try.f29 3) 1 [9, 10, 11, 3] [3] (S_hi n t i a)
theorem GKUD1 : KnownOk Try.prog GUD1 := KnownOk.lists ss_vheard_ok ll_hv_ok
theorem GOUD1 : CtxOk Try.prog GUD1 := GS_ok.with _ _
theorem tree_hi (n : Nat) (t : Nat → Ent) (i : Nat) (a : AccI) : (tgt_hi n t i a).over (.br (.tt (.br (.tt (.br (.br (.tt (.ff (.br (.br .skip .skip) (.br (.br .leaf .skip) .skip)))) .leaf) .skip)) .skip)) .leaf) =
  T.br (decide ((↑i : Int) < (↑n : Int))) (T.br (decide ((0 : Int) ≤ (↑i : Int) ∧ (↑i : Int) < (↑n : Int))) (T.br (Nat.ble ((0 : Nat) + i + (1 : Nat)) n) (T.br (Ent.st (t ((0 : Nat) + i)) != (2 : Int)) (T.br (Nat.ble (Prod.fst a + (1 : Nat)) (Prod.fst a)) (T.br (!Nat.beq (Prod.fst a) (0 : Nat)) T.bad T.bad) (T.br (smallB (Prod.fst a + (1 : Nat)) (8 : Nat)) (T.br ((Nat.beq (Prod.fst a) (0 : Nat) || !Nat.beq (Prod.fst a) (0 : Nat)) && Nat.ble ((0 : Nat) + Prod.fst a) (Prod.fst a)) (T.ret (Ex.normal, { sl := [((9 : Nat), SV.v (AV.one (CV.sl false (0 : Nat) (5 : Nat) (0 : Nat) (0 : Nat) n n true (5 : Nat)))), ((10 : Nat), SV.v (AI (↑n : Int))), ((11 : Nat), SV.v (AI (IntKind.wrap IntKind.i64 ((↑i : Int) + (1 : Int))))), ((3 : Nat), SV.v (AV.one (CV.sl false (1 : Nat) (1 : Nat) (0 : Nat) (0 : Nat) (Prod.fst a + (1 : Nat)) (Prod.fst a + (1 : Nat)) false (1 : Nat))))], H := [((0 : Nat), Ob.arr true (5 : Nat) n fun a => [FV.lit (Value.int IntKind.i64 (Ent.inc (t a))), FV.lit (Value.int IntKind.i64 (Ent.st (t a))), FV.lit (Value.int IntKind.i64 (Ent.stamp (t a))), FV.lit (Value.int IntKind.i64 (Ent.load (t a))), FV.lit (Value.bool (Ent.dr (t a)))]), ((1 : Nat), Ob.arr true (1 : Nat) (Prod.fst a + (1 : Nat)) fun i_1 => [FV.lit (Value.int IntKind.i64 (bif Nat.ble (i_1 + (1 : Nat)) (Prod.fst a) then Prod.snd a ((0 : Nat) + i_1) else (↑i : Int)))])], nx := (2 : Nat), esc := false, base := (0 : Nat), wr := [] : St })) T.bad) T.bad)) (T.ret (Ex.normal, { sl := [((9 : Nat), SV.v (AV.one (CV.sl false (0 : Nat) (5 : Nat) (0 : Nat) (0 : Nat) n n true (5 : Nat)))), ((10 : Nat), SV.v (AI (↑n : Int))), ((11 : Nat), SV.v (AI (IntKind.wrap IntKind.i64 ((↑i : Int) + (1 : Int))))), ((3 : Nat), SV.v (AV.one (CV.sl (Nat.beq (Prod.fst a) (0 : Nat)) (1 : Nat) (1 : Nat) (0 : Nat) (0 : Nat) (Prod.fst a) (Prod.fst a) false (1 : Nat))))], H := [((0 : Nat), Ob.arr true (5 : Nat) n fun a => [FV.lit (Value.int IntKind.i64 (Ent.inc (t a))), FV.lit (Value.int IntKind.i64 (Ent.st (t a))), FV.lit (Value.int IntKind.i64 (Ent.stamp (t a))), FV.lit (Value.int IntKind.i64 (Ent.load (t a))), FV.lit (Value.bool (Ent.dr (t a)))]), ((1 : Nat), Ob.arr (!Nat.beq (Prod.fst a) (0 : Nat)) (1 : Nat) (Prod.fst a) fun a_1 => [FV.lit (Value.int IntKind.i64 (Prod.snd a a_1))])], nx := (2 : Nat), esc := false, base := (0 : Nat), wr := [] : St }))) T.bad) T.bad) (T.ret (Ex.exit (0 : Nat), { sl := [((3 : Nat), SV.v (AV.one (CV.sl (Nat.beq (Prod.fst a) (0 : Nat)) (1 : Nat) (1 : Nat) (0 : Nat) (0 : Nat) (Prod.fst a) (Prod.fst a) false (1 : Nat))))], H := [((0 : Nat), Ob.arr true (5 : Nat) n fun a => [FV.lit (Value.int IntKind.i64 (Ent.inc (t a))), FV.lit (Value.int IntKind.i64 (Ent.st (t a))), FV.lit (Value.int IntKind.i64 (Ent.stamp (t a))), FV.lit (Value.int IntKind.i64 (Ent.load (t a))), FV.lit (Value.bool (Ent.dr (t a)))]), ((1 : Nat), Ob.arr (!Nat.beq (Prod.fst a) (0 : Nat)) (1 : Nat) (Prod.fst a) fun a_1 => [FV.lit (Value.int IntKind.i64 (Prod.snd a a_1))])], nx := (2 : Nat), esc := false, base := (0 : Nat), wr := [] : St })) := by kernel_rfl
theorem round_hi (n : Nat) (t : Nat → Ent) (hn : n ≤ 5) (i : Nat) (a : AccI) (hi : i < n) (hI : (fun (i : Nat) (a : AccI) => (a.1 ≤ i : Prop)) i a) : ∃ s, (tgt_hi n t i a).res = some (.normal, s) ∧ StLe 1 s (S_hi n t (i + 1) ((fun (i : Nat) (a : AccI) => (stH t i a)) i a)) ∧ (fun (i : Nat) (a : AccI) => (a.1 ≤ i : Prop)) (i + 1) ((fun (i : Nat) (a : AccI) => (stH t i a)) i a) := by
  refine T.over_exP (g := fun s => (Ex.normal, s)) (tree_hi n t i a) ?_
  obtain ⟨N, R⟩ := a
  have hN : N ≤ i := hI
  have e1 : ((i : Int) < (n : Int)) := by omega
  have e2 : (0 : Int) ≤ (i : Int) ∧ (i : Int) < (n : Int) := by omega
  have e3 : IntKind.wrap .i64 ((i : Int) + 1) = ((i + 1 : Nat) : Int) := by rw [wrapI (by omega)]; rfl
  have e4 : Nat.ble (i + 1) n = true := ble_tt (by omega)
  have e5 : Nat.ble (N + 1) N = false := ble_false (by omega)
  have e6 : smallB (N + 1) 8 = true := smallB_le (by omega) (by omega)
  have e7 : Nat.ble N N = true := ble_tt (Nat.le_refl N)
  simp only [T.res_br, T.res_ret, T.res_bad, decide_eq_true e1, decide_eq_true e2, e3, e4, Nat.zero_add, reduceIte]
  by_cases h : (t i).st = 2
  · have c3 : ((t i).st != 2) = false := by simp [h]
    have es : stH t i (N, R) = (N, R) := if_pos h
    simp only [c3, es, Bool.false_eq_true, reduceIte]
    exact ⟨_, rfl, StLe.less (Nat.le_succ 1) (fun t => .inr (.inl rfl)) (fun b => .inl rfl), Nat.le_succ_of_le hN⟩
  · have c3 : ((t i).st != 2) = true := by simp [h]
    have es : stH t i (N, R) = (N + 1, fun j => if j = N then (i : Int) else R j) := if_neg h
    simp only [c3, es, e5, e6, e7, beq_or, Bool.and_self, Bool.false_eq_true, reduceIte]
    refine ⟨_, rfl, StLe.less (Nat.le_succ 1) (fun t => .inr (.inl rfl)) (fun b => ?_), Nat.succ_le_succ hN⟩
    rcases b with _ | _ | b
    · exact .inl rfl
    · refine .arr fun j hj => ?_
      by_cases h1 : j = N
      · subst h1
        simp only [e5, cond_false, if_true, intE]
      · simp only [ble_tt (show j + 1 ≤ N by omega), cond_true, if_neg h1, intE]
    · exact .inl rfl
theorem end_hi (n : Nat) (t : Nat → Ent) (hn : n ≤ 5) (a : AccI) (hI : (fun (i : Nat) (a : AccI) => (a.1 ≤ i : Prop)) (n) a) : ∃ s, (tgt_hi n t (n) a).res = some (.exit 0, s) ∧ StLe 1 s (⟨[(3, .v (outI 1 a.1))], [(0, .arr true 5 n (entE t)), (1, outJ a.1 a.2)], 2, false, 0, []⟩) := by
  refine T.over_exP (g := fun s => (.exit 0, s)) (tree_hi n t (n) a) ?_
  obtain ⟨N, R⟩ := a
  simp only [T.res_br, T.res_ret, T.res_bad, decide_eq_true_eq, Int.lt_irrefl, reduceIte]
  exact ⟨_, rfl, StLe.refl (Nat.le_succ 1)⟩
theorem loop_hi (n : Nat) (t : Nat → Ent) (hn : n ≤ 5) (i : Nat) (a : AccI) (hi : i ≤ n) (hI : (fun (i : Nat) (a : AccI) => (a.1 ≤ i : Prop)) i a) {st0 : St} (h0 : StLe 1 st0 (S_hi n t i a)) (hnx : st0.nx = 1) :
    CodeOk Try.prog Try.f29.ntmps (.loop (loopOf Try.f29 3)) st0 (.exit 0) ((fun (a : AccI) => ⟨[(3, .v (outI 1 a.1))], [(0, .arr true 5 n (entE t)), (1, outJ a.1 a.2)], 2, false, 0, []⟩) (foldF (fun (i : Nat) (a : AccI) => (stH t i a)) (n - i) i a)) := by
  have := for_loop GOUD1 GKUD1 (K := 300) (F := 29) (N := Try.f29.ntmps) (c := loopOf Try.f29 3) (m := 1) (live := [9, 10, 11, 3]) (after := [3]) (S_hi n t) (n) (fun (i : Nat) (a : AccI) => .inl (stH t i a)) (fun (a : AccI) => (.exit 0, ⟨[(3, .v (outI 1 a.1))], [(0, .arr true 5 n (entE t)), (1, outJ a.1 a.2)], 2, false, 0, []⟩)) (fun (i : Nat) (a : AccI) => (a.1 ≤ i : Prop))
    (fun i a hi hI => by obtain ⟨s, h1, h2, h3⟩ := round_hi n t hn i a hi hI; exact ⟨_, s, h1, rfl, h2, h3⟩)
    (fun a hI => by obtain ⟨s, h1, h2⟩ := end_hi n t hn a hI; exact ⟨_, s, h1, by simp, rfl, h2⟩)
    (fun i a => by first | exact Nat.le_refl _ | (show 1 ≤ _; decide) | (simp only [S_hi]; omega)) hi hI h0 hnx
  rw [foldX_inl] at this
  exact this
def hereQ (t : Nat → Ent) (n : Nat) : AccI := foldF (stH t) n 0 (0, fun _ => 0)

noncomputable def L_hi : LoopF := mkLoopF [9, 10, 11, 3] (loopOf Try.f29 3) Try.f29.ntmps fun sl H nx => match sl, H, nx with
  | [(9, .v (.one (.sl false 0 5 0 0 n c true 5))), (10, .v (.one (.f (.lit (.int .i64 k))))), (11, .v (.one (.f (.lit (.int .i64 i))))), (3, .v (.one (.f (.lit (.slice none 0 0)))))], [(0, .arr true 5 N e)], 1 => .need (pb (n = c ∧ n = N ∧ n ≤ 5 ∧ EntE e ∧ i = 0 ∧ k = n)) (.ret (.exit 0, (St.mk [(3, .v (outI 1 (hereQ (entOf e) n).1))] [(0, .arr true 5 n e), (1, outJ (hereQ (entOf e) n).1 (hereQ (entOf e) n).2)] 2 false 0 []).sl, (St.mk [(3, .v (outI 1 (hereQ (entOf e) n).1))] [(0, .arr true 5 n e), (1, outJ (hereQ (entOf e) n).1 (hereQ (entOf e) n).2)] 2 false 0 []).H, 2, false))
  | _, _, _ => .bad
theorem L_hi_ok : LoopOk Try.prog L_hi := by
  refine mkLoopF_ok fun sl H nx e sl' H' nx' esc' h => ?_
  split at h
  · rename_i n c k i N e
    obtain ⟨hp, hret⟩ := T.need_some h
    have hp := pb_of hp
    have := T.ret_some hret
    simp only [Prod.mk.injEq] at this
    obtain ⟨rfl, rfl, rfl, rfl, rfl⟩ := this
    clear hret h
    obtain ⟨rfl, rfl, hn, ⟨t, rfl⟩, rfl, rfl⟩ := hp
    exact loop_hi n t hn 0 (0, fun _ => 0) (Nat.zero_le _) (Nat.zero_le _) (StLe.row (Nat.le_refl 1) (fun t => by
      by_cases h3 : 3 = t
      · subst h3
        exact .inr (.inr ⟨rfl, _, _, _, rfl⟩)
      left
      simp only [S_hi, Slots.get_cons, h3, if_false]
      rfl) (fun b hb => by rcases b with _ | _ | b <;> first | exact absurd rfl hb | rfl) (fun h => by cases h)) rfl
  · exact (T.bad_some h).elim
noncomputable def ll_hi : List (Nat × Nat × LoopF) := (29, 3, L_hi) :: ll_hv
theorem ll_hi_ok : ∀ x ∈ ll_hi, LoopOk Try.prog x.2.2 := List.forall_mem_cons.2 ⟨L_hi_ok, ll_hv_ok⟩
noncomputable def GUD2 : Ctx := GS.with ss_vheard ll_hi
noncomputable def tgt_vhere (n : Nat) (me la pr si : Int) (su : Nat → Int) (t : Nat → Ent) : T CallOut := evCallZ [] GUD2 300 29 [AP 0] (hv n me la pr si su t) 3
theorem GKUD2 : KnownOk Try.prog GUD2 := KnownOk.lists ss_vheard_ok ll_hi_ok
theorem GOUD2 : CtxOk Try.prog GUD2 := GS_ok.with _ _
theorem tree_vhere (n : Nat) (me la pr si : Int) (su : Nat → Int) (t : Nat → Ent) : (tgt_vhere n me la pr si su t).over (.br (.br (.br (.br (.br .leaf (.br (.br .leaf .skip) .skip)) .skip) .skip) .skip) .skip) =
  T.br (pb (loopOf Proofs.Try.f29 (3 : Nat) = loopOf Proofs.Try.f29 (3 : Nat) ∧ (26 : Nat) = (26 : Nat))) (T.br (pb (n = n ∧ n = n ∧ n ≤ (5 : Nat) ∧ EntE (entE t) ∧ (0 : Int) = (0 : Int) ∧ (↑n : Int) = (↑n : Int))) (T.br (decide ((0 : Int) ≤ (↑(Prod.fst (hereQ t n)) : Int) ∧ (↑(Prod.fst (hereQ t n)) : Int) ≤ (↑(Prod.fst (hereQ t n)) : Int))) (T.br (decide ((0 : Int) ≤ (↑(Prod.fst (hereQ t n)) : Int) ∧ (↑(Prod.fst (hereQ t n)) : Int) ≤ (↑(Prod.fst (hereQ t n)) : Int))) (T.br (Nat.beq (Prod.fst (hereQ t n)) (0 : Nat)) (T.ret { v := SV.v (AV.one (CV.f (FV.z0 (Nat.beq (Prod.fst (hereQ t n)) (0 : Nat))))), H := [((2 : Nat), Ob.arr true (5 : Nat) n fun a => [FV.lit (Value.int IntKind.i64 (Ent.inc (t a))), FV.lit (Value.int IntKind.i64 (Ent.st (t a))), FV.lit (Value.int IntKind.i64 (Ent.stamp (t a))), FV.lit (Value.int IntKind.i64 (Ent.load (t a))), FV.lit (Value.bool (Ent.dr (t a)))]), ((0 : Nat), Ob.cells [I me, I la, I pr, I si, CV.sl false (1 : Nat) (1 : Nat) (0 : Nat) (0 : Nat) n n true (1 : Nat), CV.sl false (2 : Nat) (5 : Nat) (0 : Nat) (0 : Nat) n n true (5 : Nat)]), ((1 : Nat), Ob.arr true (1 : Nat) n fun a => [FV.lit (Value.int IntKind.i64 (su a))])], nx := (3 : Nat), esc := false, wr := [] : CallOut }) (T.br (!Nat.beq (Prod.fst (hereQ t n)) (0 : Nat)) (T.br (Nat.ble (Prod.fst (hereQ t n) - (0 : Nat)) (Prod.fst (hereQ t n)) && (!Nat.beq (Prod.fst (hereQ t n)) (0 : Nat) || Nat.beq (Prod.fst (hereQ t n) - (0 : Nat)) (0 : Nat))) (T.ret { v := SV.v (AV.one (CV.f (FV.fs false (1 : Nat) (Prod.fst (hereQ t n) - (0 : Nat)) fun a => [FV.lit (Value.int IntKind.i64 (Prod.snd (hereQ t n) a))]))), H := [((2 : Nat), Ob.arr true (5 : Nat) n fun a => [FV.lit (Value.int IntKind.i64 (Ent.inc (t a))), FV.lit (Value.int IntKind.i64 (Ent.st (t a))), FV.lit (Value.int IntKind.i64 (Ent.stamp (t a))), FV.lit (Value.int IntKind.i64 (Ent.load (t a))), FV.lit (Value.bool (Ent.dr (t a)))]), ((0 : Nat), Ob.cells [I me, I la, I pr, I si, CV.sl false (1 : Nat) (1 : Nat) (0 : Nat) (0 : Nat) n n true (1 : Nat), CV.sl false (2 : Nat) (5 : Nat) (0 : Nat) (0 : Nat) n n true (5 : Nat)]), ((1 : Nat), Ob.arr true (1 : Nat) n fun a => [FV.lit (Value.int IntKind.i64 (su a))])], nx := (3 : Nat), esc := false, wr := [] : CallOut }) T.bad) T.bad)) T.bad) T.bad) T.bad) T.bad := by kernel_rfl
theorem to_vhere (n : Nat) (me la pr si : Int) (su : Nat → Int) (t : Nat → Ent) (hn : n ≤ 5) : CallTo Try.prog 29 [AP 0] (hv n me la pr si su t) 3 ⟨.v (.one (.f (.fs (Nat.beq (hereQ t n).1 0) 1 (hereQ t n).1 (intE (hereQ t n).2)))), hv n me la pr si su t, 3, false, []⟩ := by
  obtain ⟨v, h1, h2⟩ : ∃ v : FV, (tgt_vhere n me la pr si su t).res = some ⟨.v (.one (.f v)), [(2, .arr true 5 n (entE t)), (0, .cells [I me, I la, I pr, I si, .sl false 1 1 0 0 n n true 1, .sl false 2 5 0 0 n n true 5]), (1, .arr true 1 n (intE su))], 3, false, []⟩ ∧ v.le (.fs (Nat.beq (hereQ t n).1 0) 1 (hereQ t n).1 (intE (hereQ t n).2)) := by
    refine T.over_exP (g := fun v => (⟨.v (.one (.f v)), [(2, .arr true 5 n (entE t)), (0, .cells [I me, I la, I pr, I si, .sl false 1 1 0 0 n n true 1, .sl false 2 5 0 0 n n true 5]), (1, .arr true 1 n (intE su))], 3, false, []⟩ : CallOut)) (tree_vhere n me la pr si su t) ?_
    simp only [T.res_br, T.res_ret, T.res_bad, eq_self, and_self, pb_tt, reduceIte, hn, EntE_ok]
    generalize hereQ t n = p
    obtain ⟨N, R⟩ := p
    have e1 : (0 : Int) ≤ (N : Int) ∧ (N : Int) ≤ (N : Int) := by omega
    simp only [e1, and_self, decide_true, reduceIte]
    cases hN : Nat.beq N 0 with
    | true =>
      obtain rfl := Nat.eq_of_beq_eq_true hN
      exact ⟨_, rfl, FV.le_z0⟩
    | false =>
      have e2 : Nat.ble N N = true := ble_tt (Nat.le_refl _)
      simp only [Nat.sub_zero, e2, hN, Bool.not_false, Bool.or_false, Bool.and_self, Bool.false_eq_true, reduceIte]
      exact ⟨_, rfl, FV.le.refl _⟩
  exact (evCallZ_ok GOUD2 GKUD2 h1).less (Nat.le_refl 3) (.inr (.inr ⟨_, _, rfl, rfl, CV.le.f h2⟩)) (fun b => by rcases b with _ | _ | _ | b <;> exact .inl rfl) rfl rfl

noncomputable def F_vhere : SumF
  | [.one (.ptr 0 0 0 0)], [(0, .cells [.f (.lit (.int .i64 me)), .f (.lit (.int .i64 la)), .f (.lit (.int .i64 pr)), .f (.lit (.int .i64 si)), .sl false 1 1 0 0 n c1 true 1, .sl false 2 5 0 0 n2 c2 true 5]), (1, .arr true 1 N1 e1), (2, .arr true 5 N2 e2)], 3 => .need (pb (VPre n c1 n2 c2 N1 N2 e1 e2 ∧ n ≤ 5)) (.ret (⟨.v (.one (.f (.fs (Nat.beq (hereQ (entOf e2) n).1 0) 1 (hereQ (entOf e2) n).1 (intE (hereQ (entOf e2) n).2)))), [(0, .cells [I me, I la, I pr, I si, .sl false 1 1 0 0 n c1 true 1, .sl false 2 5 0 0 n2 c2 true 5]), (1, .arr true 1 N1 e1), (2, .arr true 5 N2 e2)], 3, false, []⟩))
  | _, _, _ => .bad
theorem sum_vhere : SumOk Try.prog 29 F_vhere := by
  refine ⟨fun args H nx r hr => ?_, fun args H nx => ?_⟩
  · unfold F_vhere at hr
    split at hr
    · rename_i me la pr si n c1 n2 c2 N1 e1 N2 e2
      obtain ⟨h0, hr⟩ := T.need_some hr
      have := T.ret_some hr
      subst this
      have h := pb_of h0
      obtain ⟨⟨rfl, rfl, rfl, rfl, rfl, ⟨su, rfl⟩, ⟨t, rfl⟩⟩, h⟩ := h
      exact to_vhere n me la pr si su t h
    · exact (T.bad_some hr).elim
  · unfold F_vhere
    split
    · exact T.Every.need ⟨by first | exact Nat.le_refl _ | (dsimp only; omega), fun b hb hw => by
        have : b = 0 ∨ b = 1 ∨ b = 2 := by omega
        rcases this with rfl | rfl | rfl <;> first | rfl | exact absurd (by dsimp only; decide) hw⟩
    · trivial
noncomputable def sm_vhere : SumF := canonSum F_vhere
theorem sm_vhere_ok : SumOk Try.prog 29 sm_vhere := canonSum_ok sum_vhere
noncomputable def ss_vhere : List (Nat × SumF) := (29, sm_vhere) :: ss_vheard
theorem ss_vhere_ok : ∀ x ∈ ss_vhere, SumOk Try.prog x.1 x.2 := List.forall_mem_cons.2 ⟨sm_vhere_ok, ss_vheard_ok⟩
end Go.Proofs.Ytdoehlinboiohaa.En
