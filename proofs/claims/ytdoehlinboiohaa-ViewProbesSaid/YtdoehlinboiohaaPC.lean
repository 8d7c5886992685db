/- Tables of raw entries. -/
import Derived.Test.YtdoehlinboiohaaPB
namespace Go.Proofs.Ytdoehlinboiohaa.En
open Go
set_option linter.unusedVariables false
set_option linter.unusedSimpArgs false
set_option maxRecDepth 20000
set_option maxHeartbeats 1000000
def S_tb (nl : Bool) (n : Nat) (x : Nat → Ent) (m : Nat) (i : Nat) (a : Unit) : St :=
  ⟨[(0, .v (.one (.f (.fs nl 5 n (entE x))))), (1, .v (AI m)), (5, .v (.one (.sl (Nat.beq i 0) 0 5 0 0 i i false 5))), (6, .v (AI i))], [(0, .arr (!(Nat.beq i 0)) 5 i (entE fun j => entR (x j)))], 1, false, 0, []⟩

noncomputable def GPC1 : Ctx := GS.with ss_Max ll_rm
noncomputable def tgt_tb (nl : Bool) (n : Nat) (x : Nat → Ent) (m : Nat) (i : Nat) (a : Unit) : T (Ex × St) := evRound GPC1 300 16 Try.f16.ntmps (loopOf Try.f16 3) 0 [0, 1, 5, 6] [5] (S_tb nl n x m i a)
theorem GKPC1 : KnownOk Try.prog GPC1 := KnownOk.lists ss_Max_ok ll_rm_ok
theorem GOPC1 : CtxOk Try.prog GPC1 := GS_ok.with _ _
theorem tree_tb (nl : Bool) (n : Nat) (x : Nat → Ent) (m : Nat) (i : Nat) (a : Unit) : (tgt_tb nl n x m i a).over (.br (.tt (.tt (.tt (.br (.br (.br (.tt (.ff (.br (.br .skip .skip) (.br (.br .leaf .skip) .skip)))) .skip) .skip) .leaf)))) (.ff (.ff (.ff (.ff .leaf))))) =
  T.br (decide ((↑i : Int) < (↑n : Int))) (T.br (decide ((↑i : Int) < (↑m : Int))) (T.br (!nl) (T.br (decide ((0 : Int) ≤ (↑i : Int) ∧ (↑i : Int) < (↑n : Int))) (T.br (Nat.ble (i + (1 : Nat)) i) (T.br (!Nat.beq i (0 : Nat)) T.bad T.bad) (T.br (smallB (i + (1 : Nat)) (40 : Nat)) (T.br ((Nat.beq i (0 : Nat) || !Nat.beq i (0 : Nat)) && Nat.ble ((0 : Nat) + i) i) (T.ret (Ex.normal, { sl := [((0 : Nat), SV.v (AV.one (CV.f (FV.fs nl (5 : Nat) n fun a => [FV.lit (Value.int IntKind.i64 (Ent.inc (x a))), FV.lit (Value.int IntKind.i64 (Ent.st (x a))), FV.lit (Value.int IntKind.i64 (Ent.stamp (x a))), FV.lit (Value.int IntKind.i64 (Ent.load (x a))), FV.lit (Value.bool (Ent.dr (x a)))])))), ((1 : Nat), SV.v (AI (↑m : Int))), ((5 : Nat), SV.v (AV.one (CV.sl false (0 : Nat) (5 : Nat) (0 : Nat) (0 : Nat) (i + (1 : Nat)) (i + (1 : Nat)) false (5 : Nat)))), ((6 : Nat), SV.v (AI (IntKind.wrap IntKind.i64 ((↑i : Int) + (1 : Int)))))], H := [((0 : Nat), Ob.arr true (5 : Nat) (i + (1 : Nat)) fun i_1 => [FV.lit (Value.int IntKind.i64 (bif Nat.ble (i_1 + (1 : Nat)) i then Ent.inc (entR (x ((0 : Nat) + i_1))) else Ent.inc (entR (x i)))), FV.lit (Value.int IntKind.i64 (bif Nat.ble (i_1 + (1 : Nat)) i then Ent.st (entR (x ((0 : Nat) + i_1))) else Ent.st (entR (x i)))), FV.lit (Value.int IntKind.i64 (bif Nat.ble (i_1 + (1 : Nat)) i then Ent.stamp (entR (x ((0 : Nat) + i_1))) else Ent.stamp (entR (x i)))), FV.lit (Value.int IntKind.i64 (bif Nat.ble (i_1 + (1 : Nat)) i then Ent.load (entR (x ((0 : Nat) + i_1))) else Ent.load (entR (x i)))), FV.lit (Value.bool (bif Nat.ble (i_1 + (1 : Nat)) i then Ent.dr (entR (x ((0 : Nat) + i_1))) else Ent.dr (entR (x i))))])], nx := (1 : Nat), esc := false, base := (0 : Nat), wr := [] : St })) T.bad) T.bad)) T.bad) T.bad) (T.ret (Ex.exit (0 : Nat), { sl := [((5 : Nat), SV.v (AV.one (CV.sl (Nat.beq i (0 : Nat)) (0 : Nat) (5 : Nat) (0 : Nat) (0 : Nat) i i false (5 : Nat))))], H := [((0 : Nat), Ob.arr (!Nat.beq i (0 : Nat)) (5 : Nat) i fun a => [FV.lit (Value.int IntKind.i64 (Ent.inc (entR (x a)))), FV.lit (Value.int IntKind.i64 (Ent.st (entR (x a)))), FV.lit (Value.int IntKind.i64 (Ent.stamp (entR (x a)))), FV.lit (Value.int IntKind.i64 (Ent.load (entR (x a)))), FV.lit (Value.bool (Ent.dr (entR (x a))))])], nx := (1 : Nat), esc := false, base := (0 : Nat), wr := [] : St }))) (T.ret (Ex.exit (0 : Nat), { sl := [((5 : Nat), SV.v (AV.one (CV.sl (Nat.beq i (0 : Nat)) (0 : Nat) (5 : Nat) (0 : Nat) (0 : Nat) i i false (5 : Nat))))], H := [((0 : Nat), Ob.arr (!Nat.beq i (0 : Nat)) (5 : Nat) i fun a => [FV.lit (Value.int IntKind.i64 (Ent.inc (entR (x a)))), FV.lit (Value.int IntKind.i64 (Ent.st (entR (x a)))), FV.lit (Value.int IntKind.i64 (Ent.stamp (entR (x a)))), FV.lit (Value.int IntKind.i64 (Ent.load (entR (x a)))), FV.lit (Value.bool (Ent.dr (entR (x a))))])], nx := (1 : Nat), esc := false, base := (0 : Nat), wr := [] : St })) := by kernel_rfl
theorem round_tb (nl : Bool) (n : Nat) (x : Nat → Ent) (m : Nat) (hb : (n : Int) ≤ 9223372036854775807) (hnl : nl = true → n = 0) (hm : m ≤ 1000) (i : Nat) (a : Unit) (hi : i < min n m) (hI : (fun (i : Nat) (a : Unit) => (True : Prop)) i a) : ∃ s, (tgt_tb nl n x m i a).res = some (.normal, s) ∧ StLe 0 s (S_tb nl n x m (i + 1) ((fun (i : Nat) (a : Unit) => (())) i a)) ∧ (fun (i : Nat) (a : Unit) => (True : Prop)) (i + 1) ((fun (i : Nat) (a : Unit) => (())) i a) := by
  refine T.over_exP (g := fun s => (Ex.normal, s)) (tree_tb nl n x m i a) ?_
  have e1 : ((i : Int) < (n : Int)) := by omega
  have e1' : ((i : Int) < (m : Int)) := by omega
  have e2 : (0 : Int) ≤ (i : Int) ∧ (i : Int) < (n : Int) := by omega
  have e3 : IntKind.wrap .i64 ((i : Int) + 1) = ((i + 1 : Nat) : Int) := by rw [wrapI (by omega)]; rfl
  obtain rfl : nl = false := by cases nl <;> simp_all <;> omega
  have e4 : Nat.ble (i + 1) i = false := ble_false (by omega)
  have e5 : smallB (i + 1) 40 = true := smallB_le (by omega) (by omega)
  have e6 : Nat.ble (0 + i) i = true := ble_tt (by omega)
  simp only [T.res_br, T.res_ret, T.res_bad, decide_eq_true_eq, e1, e1', e2, e3, e4, e5, e6, beq_or, Bool.and_self, Bool.not_false, Bool.false_eq_true, reduceIte, and_self]
  refine ⟨_, rfl, StLe.less (Nat.zero_le _) (fun t => .inr (.inl rfl)) (fun b => ?_), trivial⟩
  rcases b with _ | b
  · refine Ob.le.arr fun j hj => ?_
    rcases Nat.lt_or_ge j i with h | h
    · simp only [ble_tt (show j + 1 ≤ i by omega), cond_true, Nat.zero_add]
    · obtain rfl : j = i := by omega
      simp only [ble_false (show ¬ j + 1 ≤ j by omega), cond_false]
  · exact .inl rfl
theorem end_tb (nl : Bool) (n : Nat) (x : Nat → Ent) (m : Nat) (hb : (n : Int) ≤ 9223372036854775807) (hnl : nl = true → n = 0) (hm : m ≤ 1000) (a : Unit) (hI : (fun (i : Nat) (a : Unit) => (True : Prop)) (min n m) a) : ∃ s, (tgt_tb nl n x m (min n m) a).res = some (.exit 0, s) ∧ StLe 0 s (⟨[(5, .v (.one (.sl (Nat.beq (min n m) 0) 0 5 0 0 (min n m) (min n m) false 5)))], [(0, .arr (!(Nat.beq (min n m) 0)) 5 (min n m) (entE fun j => entR (x j)))], 1, false, 0, []⟩) := by
  refine T.over_exP (g := fun s => (.exit 0, s)) (tree_tb nl n x m (min n m) a) ?_
  rcases Nat.lt_or_ge m n with h | h
  · have e0 : min n m = m := by omega
    have e1 : ((m : Int) < (n : Int)) := by omega
    simp only [e0, T.res_br, T.res_ret, T.res_bad, decide_eq_true_eq, e1, Int.lt_irrefl, reduceIte]
    exact ⟨_, rfl, StLe.refl (Nat.zero_le _)⟩
  · have e0 : min n m = n := by omega
    simp only [e0, T.res_br, T.res_ret, T.res_bad, decide_eq_true_eq, Int.lt_irrefl, reduceIte]
    exact ⟨_, rfl, StLe.refl (Nat.zero_le _)⟩
theorem loop_tb (nl : Bool) (n : Nat) (x : Nat → Ent) (m : Nat) (hb : (n : Int) ≤ 9223372036854775807) (hnl : nl = true → n = 0) (hm : m ≤ 1000) (i : Nat) (a : Unit) (hi : i ≤ min n m) (hI : (fun (i : Nat) (a : Unit) => (True : Prop)) i a) {st0 : St} (h0 : StLe 0 st0 (S_tb nl n x m i a)) (hnx : st0.nx = 0) :
    CodeOk Try.prog Try.f16.ntmps (.loop (loopOf Try.f16 3)) st0 (.exit 0) ((fun (a : Unit) => ⟨[(5, .v (.one (.sl (Nat.beq (min n m) 0) 0 5 0 0 (min n m) (min n m) false 5)))], [(0, .arr (!(Nat.beq (min n m) 0)) 5 (min n m) (entE fun j => entR (x j)))], 1, false, 0, []⟩) (foldF (fun (i : Nat) (a : Unit) => (())) (min n m - i) i a)) := by
  have := for_loop GOPC1 GKPC1 (K := 300) (F := 16) (N := Try.f16.ntmps) (c := loopOf Try.f16 3) (m := 0) (live := [0, 1, 5, 6]) (after := [5]) (S_tb nl n x m) (min n m) (fun (i : Nat) (a : Unit) => .inl (())) (fun (a : Unit) => (.exit 0, ⟨[(5, .v (.one (.sl (Nat.beq (min n m) 0) 0 5 0 0 (min n m) (min n m) false 5)))], [(0, .arr (!(Nat.beq (min n m) 0)) 5 (min n m) (entE fun j => entR (x j)))], 1, false, 0, []⟩)) (fun (i : Nat) (a : Unit) => (True : Prop))
    (fun i a hi hI => by obtain ⟨s, h1, h2, h3⟩ := round_tb nl n x m hb hnl hm i a hi hI; exact ⟨_, s, h1, rfl, h2, h3⟩)
    (fun a hI => by obtain ⟨s, h1, h2⟩ := end_tb nl n x m hb hnl hm a hI; exact ⟨_, s, h1, by simp, rfl, h2⟩)
    (fun i a => by first | exact Nat.le_refl _ | (show 0 ≤ _; decide) | (simp only [S_tb]; omega)) hi hI h0 hnx
  rw [foldX_inl] at this
  exact this
noncomputable def L_tb : LoopF := mkLoopF [0, 1, 5, 6] (loopOf Try.f16 3) Try.f16.ntmps fun sl H nx => match sl, H, nx with
  | [(0, .v (.one (.f (.fs nl 5 n e)))), (1, .v (.one (.f (.lit (.int .i64 m))))), (5, .v (.one (.f (.lit (.slice none 0 0))))), (6, .v (.one (.f (.lit (.int .i64 i)))))], [], 0 => .need (pb (EntS nl n e ∧ i = 0 ∧ 0 ≤ m ∧ m ≤ 1000)) (.ret (.exit 0, (St.mk [(5, .v (.one (.sl (Nat.beq (min n m.toNat) 0) 0 5 0 0 (min n m.toNat) (min n m.toNat) false 5)))] [(0, .arr (!(Nat.beq (min n m.toNat) 0)) 5 (min n m.toNat) (entE fun j => entR (entOf e j)))] 1 false 0 []).sl, (St.mk [(5, .v (.one (.sl (Nat.beq (min n m.toNat) 0) 0 5 0 0 (min n m.toNat) (min n m.toNat) false 5)))] [(0, .arr (!(Nat.beq (min n m.toNat) 0)) 5 (min n m.toNat) (entE fun j => entR (entOf e j)))] 1 false 0 []).H, 1, false))
  | _, _, _ => .bad
theorem L_tb_ok : LoopOk Try.prog L_tb := by
  refine mkLoopF_ok fun sl H nx e sl' H' nx' esc' h => ?_
  split at h
  · rename_i nl n e m i
    obtain ⟨hp, hret⟩ := T.need_some h
    have hp := pb_of hp
    have := T.ret_some hret
    simp only [Prod.mk.injEq] at this
    obtain ⟨rfl, rfl, rfl, rfl, rfl⟩ := this
    clear hret h
    obtain ⟨⟨⟨x, rfl⟩, h1, h2⟩, rfl, h3, h4⟩ := hp
    obtain ⟨mm, rfl⟩ : ∃ mm : Nat, m = mm := ⟨m.toNat, by omega⟩
    refine loop_tb _ _ x mm h1 h2 (by omega) 0 () (Nat.zero_le _) trivial (StLe.row (Nat.zero_le _) (fun t => ?_) (fun b hb => ?_) (fun h => by cases h)) rfl
    · by_cases h5 : 5 = t
      · subst h5
        exact .inr (.inr ⟨rfl, _, _, _, rfl⟩)
      · left
        simp only [S_tb, Slots.get_cons, h5, if_false]
        rfl
    · rcases b with _ | b
      · exact absurd rfl hb
      · rfl
  · exact (T.bad_some h).elim
noncomputable def ll_tb : List (Nat × Nat × LoopF) := (16, 3, L_tb) :: ll_rm
theorem ll_tb_ok : ∀ x ∈ ll_tb, LoopOk Try.prog x.2.2 := List.forall_mem_cons.2 ⟨L_tb_ok, ll_rm_ok⟩
noncomputable def GPC2 : Ctx := GS.with ss_Max ll_tb
noncomputable def tgt_Table (nl : Bool) (n : Nat) (x : Nat → Ent) (m : Int) : T CallOut := evCallZ [] GPC2 300 16 [.one (.f (.fs nl 5 n (entE x))), AI m] [] 0
theorem GKPC2 : KnownOk Try.prog GPC2 := KnownOk.lists ss_Max_ok ll_tb_ok
theorem GOPC2 : CtxOk Try.prog GPC2 := GS_ok.with _ _
theorem tree_Table (nl : Bool) (n : Nat) (x : Nat → Ent) (m : Int) : (tgt_Table nl n x m).over (.br (.br (.br .leaf .skip) .skip) .skip) =
  T.br (pb (loopOf Proofs.Try.f16 (3 : Nat) = loopOf Proofs.Try.f16 (3 : Nat) ∧ (27 : Nat) = (27 : Nat)))
    (T.br (pb (EntS nl n (entE x) ∧ (0 : Int) = (0 : Int) ∧ (0 : Int) ≤ m ∧ m ≤ (1000 : Int)))
      (T.br (Nat.ble (min n (Int.toNat m)) (min n (Int.toNat m)) && (!Nat.beq (min n (Int.toNat m)) (0 : Nat) || Nat.beq (min n (Int.toNat m)) (0 : Nat)))
        (T.ret
          (out0
            (SV.v
              (AV.one
                (CV.f
                  (FV.fs (Nat.beq (min n (Int.toNat m)) (0 : Nat)) (5 : Nat) (min n (Int.toNat m)) fun a =>
                    [FV.lit (Value.int IntKind.i64 (Ent.inc (entR (entOf (entE x) a)))), FV.lit (Value.int IntKind.i64 (Ent.st (entR (entOf (entE x) a)))), FV.lit (Value.int IntKind.i64 (Ent.stamp (entR (entOf (entE x) a)))),
                      FV.lit (Value.int IntKind.i64 (Ent.load (entR (entOf (entE x) a)))), FV.lit (Value.bool (Ent.dr (entR (entOf (entE x) a))))]))))))
        T.bad)
      T.bad)
    T.bad := by kernel_rfl
theorem res_Table (nl : Bool) (n : Nat) (x : Nat → Ent) (m : Int) (h : LnOk nl n ∧ 0 ≤ m ∧ m ≤ 1000) : (tgt_Table nl n x m).res = some (out0 (.v (.one (.f (.fs (Nat.beq (min n m.toNat) 0) 5 (min n m.toNat) (entE fun j => entR (x j))))))) := by
  refine T.over_eq _ (tree_Table nl n x m) ?_
  simp only [T.res_br, T.res_ret, T.res_bad]
  obtain ⟨h1, h2, h3⟩ := h
  simp only [eq_self, and_self, pb_tt, if_true]
  rw [if_pos (pb_true (by exact ⟨⟨EntE_ok x, h1⟩, trivial, h2, h3⟩)), if_pos (by rw [ble_tt (Nat.le_refl _), Bool.or_comm, beq_or]; rfl)]
  rfl
noncomputable def F_Table : SumF
  | [.one (.f (.fs nl 5 n e)), .one (.f (.lit (.int .i64 m)))], [], 0 => .need (pb (EntL nl n e ∧ 0 ≤ m ∧ m ≤ 1000)) (.ret (out0 (.v (.one (.f (.fs (Nat.beq (min n m.toNat) 0) 5 (min n m.toNat) (entE fun j => entR (entOf e j))))))))
  | _, _, _ => .bad
theorem sum_Table : SumOk Try.prog 16 F_Table := by
  refine ⟨fun args H nx r hr => ?_, fun args H nx => ?_⟩
  · unfold F_Table at hr
    split at hr
    · rename_i nl n e m
      obtain ⟨h0, hr⟩ := T.need_some hr
      have := T.ret_some hr
      subst this
      have h := pb_of h0
      obtain ⟨⟨he, h1⟩, h2, h3⟩ := h
      exact (evCallZ_ok GOPC2 GKPC2 (res_Table _ _ (entOf e) _ ⟨h1, h2, h3⟩)).args (.cons (CV.le.f (FV.le_fs he)) (.refl _))
    · exact (T.bad_some hr).elim
  · unfold F_Table
    split
    · exact T.Every.need ⟨Nat.zero_le _, fun b hb hw => absurd hb (Nat.not_lt_zero b)⟩
    · trivial
noncomputable def sm_Table : SumF := canonSum F_Table
theorem sm_Table_ok : SumOk Try.prog 16 sm_Table := canonSum_ok sum_Table
noncomputable def ss_Table : List (Nat × SumF) := (16, sm_Table) :: ss_Max
theorem ss_Table_ok : ∀ x ∈ ss_Table, SumOk Try.prog x.1 x.2 := List.forall_mem_cons.2 ⟨sm_Table_ok, ss_Max_ok⟩
end Go.Proofs.Ytdoehlinboiohaa.En
