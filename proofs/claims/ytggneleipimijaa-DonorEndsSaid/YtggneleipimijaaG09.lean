/- Texts put together: RC, RD. -/
import Derived.Test.YtggneleipimijaaG08
/- Rows of numbers: Clone, IndexFunc, DeleteFunc. -/
namespace Go.Proofs.Ytggneleipimijaa.En
open Go
set_option linter.unusedVariables false
set_option linter.unusedSimpArgs false
set_option maxRecDepth 20000
set_option maxHeartbeats 1000000
/-- where the first one is that is me; -1: there is none -/
def idxF (me : Int) (x : Nat → Int) : Nat → Nat → Int
  | 0, _ => -1
  | c + 1, i => match x i == me with | true => (i : Int) | false => idxF me x c (i + 1)
def S_ix (n N cap : Nat) (ex : Bool) (x : Nat → Int) (me : Int) (i : Nat) (a : Unit) : St :=
  ⟨[(6, .v (.one (.sl false 0 1 0 0 n cap ex 1))), (7, .v (AI n)), (8, .v (AI i)), (0, .v (.one (.sl false 0 1 0 0 n cap ex 1))), (1, .v (.one (.fn 27 [(1, 0, 0, 0)])))], [(0, .arr true 1 N (intE x)), (1, .cells [I me])], 2, false, 0, []⟩
def S_dl (n N cap : Nat) (ex : Bool) (me : Int) (j : Nat) (a : Nat × (Nat → Int)) : St :=
  ⟨[(0, .v (.one (.sl false 0 1 0 0 n cap ex 1))), (1, .v (.one (.fn 27 [(1, 0, 0, 0)]))), (5, .v (AI a.1)), (6, .v (AI j))], [(0, .arr true 1 N (intE a.2)), (1, .cells [I me])], 2, false, 0, []⟩

noncomputable def GRC1 : Ctx := GS.with ss_Table ll_tb
noncomputable def tgt_Next1 (k me : Int) : T CallOut := evCallW [] GRC1 300 27 [AI k, AP 0] [(0, .cells [I me])] 1
theorem GKRC1 : KnownOk Try.prog GRC1 := KnownOk.lists ss_Table_ok ll_tb_ok
theorem GORC1 : CtxOk Try.prog GRC1 := GS_ok.with _ _
theorem tree_Next1 (k me : Int) : (tgt_Next1 k me).over .leaf = T.ret ⟨SV.v (AB (k == me)), [(0, Ob.cells [I me])], 1, false, []⟩ := by kernel_rfl
theorem res_Next1 (k me : Int) : (tgt_Next1 k me).res = some (⟨.v (AB (k == me)), [(0, .cells [I me])], 1, false, []⟩) := by
  refine T.over_eq _ (tree_Next1 k me) ?_
  simp only [T.res_br, T.res_ret, T.res_bad]
  skip
noncomputable def F_Next1 : SumF
  | [.one (.f (.lit (.int .i64 k))), .one (.ptr 0 0 0 0)], [(0, .cells [.f (.lit (.int .i64 me))])], 1 => .ret (⟨.v (AB (k == me)), [(0, .cells [I me])], 1, false, []⟩)
  | _, _, _ => .bad
theorem sum_Next1 : SumOk Try.prog 27 F_Next1 := by
  refine ⟨fun args H nx r hr => ?_, fun args H nx => ?_⟩
  · unfold F_Next1 at hr
    split at hr
    · have := T.ret_some hr
      subst this
      exact evCallW_ok GORC1 GKRC1 (res_Next1 _ _)
    · exact (T.bad_some hr).elim
  · unfold F_Next1
    split
    · exact ⟨by first | exact Nat.le_refl _ | (dsimp only; omega), fun b hb hw => by
        have : b = 0 := by omega
        rcases this with rfl <;> first | rfl | exact absurd (by dsimp only; decide) hw⟩
    · trivial
noncomputable def sm_Next1 : SumF := canonSum F_Next1
theorem sm_Next1_ok : SumOk Try.prog 27 sm_Next1 := canonSum_ok sum_Next1
noncomputable def ss_Next1 : List (Nat × SumF) := (27, sm_Next1) :: ss_Table
theorem ss_Next1_ok : ∀ x ∈ ss_Next1, SumOk Try.prog x.1 x.2 := List.forall_mem_cons.2 ⟨sm_Next1_ok, ss_Table_ok⟩
noncomputable def GRC2 : Ctx := GS.with ss_Next1 ll_tb
noncomputable def tgt_ix (n N cap : Nat) (ex : Bool) (x : Nat → Int) (me : Int) (i : Nat) (a : Unit) : T (Ex × St) := evRound GRC2 300 39 Try.f39.ntmps (loopOf Try.f39 2) 2 [6, 7, 8, 0, 1] [4] (S_ix n N cap ex x me i a)
noncomputable def tgt_dl (n N cap : Nat) (ex : Bool) (me : Int) (j : Nat) (a : Nat × (Nat → Int)) : T (Ex × St) := evRound GRC2 300 25 Try.f25.ntmps (loopOf Try.f25 5) 2 [0, 1, 5, 6] [0, 1, 5] (S_dl n N cap ex me j a)
theorem GKRC2 : KnownOk Try.prog GRC2 := KnownOk.lists ss_Next1_ok ll_tb_ok
theorem GORC2 : CtxOk Try.prog GRC2 := GS_ok.with _ _
theorem tree_ix (n N cap : Nat) (ex : Bool) (x : Nat → Int) (me : Int) (i : Nat) (a : Unit) : (tgt_ix n N cap ex x me i a).over (.br (.tt (.br (.tt (.br (.br .leaf .leaf) .skip)) .skip)) .leaf) = T.br (decide ((↑i : Int) < (↑n : Int))) (T.br (decide ((0 : Int) ≤ (↑i : Int) ∧ (↑i : Int) < (↑n : Int))) (T.br (Nat.ble (0 + i + 1) N) (T.br (x (0 + i) == me) (T.ret (Ex.ret, ⟨[(4, SV.v (AI (↑i : Int)))], [(1, Ob.cells [I me]), (0, Ob.arr true 1 N fun a => [FV.lit (.int .i64 (x a))])], 2, false, 0, []⟩)) (T.ret (Ex.normal, ⟨[(6, SV.v (AV.one (CV.sl false 0 1 0 0 n cap ex 1))), (7, SV.v (AI (↑n : Int))), (8, SV.v (AI (IntKind.wrap IntKind.i64 ((↑i : Int) + (1 : Int))))), (0, SV.v (AV.one (CV.sl false 0 1 0 0 n cap ex 1))), (1, SV.v (AV.one (CV.fn 27 [(1, 0, 0, 0)])))], [(1, Ob.cells [I me]), (0, Ob.arr true 1 N fun a => [FV.lit (.int .i64 (x a))])], 2, false, 0, []⟩))) T.bad) T.bad) (T.ret (Ex.exit 0, ⟨[], [(0, Ob.arr true 1 N fun a => [FV.lit (.int .i64 (x a))]), (1, Ob.cells [I me])], 2, false, 0, []⟩)) := by kernel_rfl
theorem tree_dl (n N cap : Nat) (ex : Bool) (me : Int) (j : Nat) (a : Nat × (Nat → Int)) : (tgt_dl n N cap ex me j a).over (.br (.tt (.br (.tt (.br (.br (.tt (.br (.tt (.br .leaf .skip)) .skip)) .leaf) .skip)) .skip)) .leaf) = T.br (decide ((↑j : Int) < (↑n : Int))) (T.br (decide ((0 : Int) ≤ (↑j : Int) ∧ (↑j : Int) < (↑n : Int))) (T.br (Nat.ble (0 + j + 1) N) (T.br (!Prod.snd a (0 + j) == me) (T.br (decide ((0 : Int) ≤ (↑(Prod.fst a) : Int) ∧ (↑(Prod.fst a) : Int) < (↑n : Int))) (T.br (Nat.ble (0 + Prod.fst a + 1) N) (T.ret (Ex.normal, ⟨[(0, SV.v (AV.one (CV.sl false 0 1 0 0 n cap ex 1))), (1, SV.v (AV.one (CV.fn 27 [(1, 0, 0, 0)]))), (5, SV.v (AI (IntKind.wrap IntKind.i64 ((↑(Prod.fst a) : Int) + (1 : Int))))), (6, SV.v (AI (IntKind.wrap IntKind.i64 ((↑j : Int) + (1 : Int)))))], [(1, Ob.cells [I me]), (0, Ob.arr true 1 N fun i' => [FV.lit (.int .i64 (bif Nat.beq i' (0 + Prod.fst a) then Prod.snd a (0 + j) else Prod.snd a i'))])], 2, false, 0, []⟩)) T.bad) T.bad) (T.ret (Ex.normal, ⟨[(0, SV.v (AV.one (CV.sl false 0 1 0 0 n cap ex 1))), (1, SV.v (AV.one (CV.fn 27 [(1, 0, 0, 0)]))), (5, SV.v (AI (↑(Prod.fst a) : Int))), (6, SV.v (AI (IntKind.wrap IntKind.i64 ((↑j : Int) + (1 : Int)))))], [(1, Ob.cells [I me]), (0, Ob.arr true 1 N fun a_1 => [FV.lit (.int .i64 (Prod.snd a a_1))])], 2, false, 0, []⟩))) T.bad) T.bad) (T.ret (Ex.exit 0, ⟨[(0, SV.v (AV.one (CV.sl false 0 1 0 0 n cap ex 1))), (1, SV.v (AV.one (CV.fn 27 [(1, 0, 0, 0)]))), (5, SV.v (AI (↑(Prod.fst a) : Int)))], [(0, Ob.arr true 1 N fun a_1 => [FV.lit (.int .i64 (Prod.snd a a_1))]), (1, Ob.cells [I me])], 2, false, 0, []⟩)) := by kernel_rfl
def endIx (N : Nat) (x : Nat → Int) (me : Int) (k : Int) : Ex × St := if k = -1 then (.exit 0, ⟨[], [(0, .arr true 1 N (intE x)), (1, .cells [I me])], 2, false, 0, []⟩) else (.ret, ⟨[(4, .v (AI k))], [(0, .arr true 1 N (intE x)), (1, .cells [I me])], 2, false, 0, []⟩)
def fIx (N : Nat) (x : Nat → Int) (me : Int) (i : Nat) (_ : Unit) : Unit ⊕ (Ex × St) := match x i == me with | true => .inr (.ret, ⟨[(4, .v (AI i))], [(0, .arr true 1 N (intE x)), (1, .cells [I me])], 2, false, 0, []⟩) | false => .inl ()
theorem foldX_ix (N : Nat) (x : Nat → Int) (me : Int) : ∀ (c i : Nat), foldX (fIx N x me) (fun _ => ((Ex.exit 0, ⟨[], [(0, .arr true 1 N (intE x)), (1, .cells [I me])], 2, false, 0, []⟩) : Ex × St)) c i () = endIx N x me (idxF me x c i)
  | 0, i => by simp [foldX, idxF, endIx]
  | c + 1, i => by
    simp only [foldX, fIx, idxF]
    cases x i == me
    · exact foldX_ix N x me c (i + 1)
    · have : ¬ ((i : Int) = -1) := by omega
      simp [endIx, this]
theorem loop_ix (n N cap : Nat) (ex : Bool) (x : Nat → Int) (me : Int) (hn : n ≤ N) (hb : (n : Int) ≤ 9223372036854775807) {st0 : St} (h0 : StLe 2 st0 (S_ix n N cap ex x me 0 ())) (hnx : st0.nx = 2) :
    CodeOk Try.prog Try.f39.ntmps (.loop (loopOf Try.f39 2)) st0 (endIx N x me (idxF me x n 0)).1 (endIx N x me (idxF me x n 0)).2 := by
  rw [← foldX_ix]
  refine for_loop GORC2 GKRC2 (K := 300) (F := 39) (m := 2) (live := [6, 7, 8, 0, 1]) (after := [4]) (S_ix n N cap ex x me) n _ _ (fun _ _ => True) (fun i a hi _ => ?_) (fun a _ => ?_) (fun i a => Nat.le_refl _) (Nat.zero_le _) trivial h0 hnx
  · have e1 : (i : Int) < (n : Int) := by omega
    have e2 : (0 : Int) ≤ (i : Int) ∧ (i : Int) < (n : Int) := by omega
    have e3 : IntKind.wrap .i64 ((i : Int) + 1) = ((i + 1 : Nat) : Int) := by rw [wrapI (by omega)]; rfl
    have e4 : Nat.ble (i + 1) N = true := ble_tt (by omega)
    have bb : ∀ b : Nat, Heap.get [(1, Ob.cells [I me]), (0, Ob.arr true 1 N (intE x))] b = Heap.get [(0, Ob.arr true 1 N (intE x)), (1, Ob.cells [I me])] b := fun b => by rcases b with _ | _ | b <;> rfl
    cases hq : (x i == me) with
    | true =>
      refine ⟨.ret, ⟨[(4, .v (AI i))], [(1, .cells [I me]), (0, .arr true 1 N (intE x))], 2, false, 0, []⟩, T.over_eq _ (tree_ix n N cap ex x me i a) ?_, by simp only [fIx, hq]; exact ⟨by simp, trivial, StLe.less (Nat.le_refl 2) (fun t => .inr (.inl rfl)) (fun b => .inl (bb b))⟩⟩
      simp only [T.res_br, T.res_ret, T.res_bad, decide_eq_true e1, decide_eq_true e2, e3, e4, hq, Nat.zero_add, reduceIte]
    | false =>
      refine ⟨.normal, ⟨(S_ix n N cap ex x me (i + 1) ()).sl, [(1, .cells [I me]), (0, .arr true 1 N (intE x))], 2, false, 0, []⟩, T.over_eq _ (tree_ix n N cap ex x me i a) ?_, by simp only [fIx, hq]; exact ⟨trivial, StLe.less (Nat.le_refl 2) (fun t => .inr (.inl rfl)) (fun b => .inl (bb b)), trivial⟩⟩
      simp only [T.res_br, T.res_ret, T.res_bad, decide_eq_true e1, decide_eq_true e2, e3, e4, hq, Nat.zero_add, Bool.false_eq_true, reduceIte]
      rfl
  · refine ⟨.exit 0, _, T.over_eq _ (tree_ix n N cap ex x me n a) ?_, by simp, rfl, StLe.refl (Nat.le_refl _)⟩
    simp only [T.res_br, T.res_ret, T.res_bad, decide_eq_true_eq, Int.lt_irrefl, reduceIte]

def dlF (me : Int) (j : Nat) (a : Nat × (Nat → Int)) : Nat × (Nat → Int) := match a.2 j == me with | true => a | false => (a.1 + 1, fun k => bif Nat.beq k a.1 then a.2 j else a.2 k)

theorem round_dl (n N cap : Nat) (ex : Bool) (me : Int) (hn : n ≤ N) (hb : (n : Int) ≤ 9223372036854775807) (i : Nat) (a : Nat × (Nat → Int)) (hi : i < n) (hI : (fun (i : Nat) (a : Nat × (Nat → Int)) => (a.1 < i : Prop)) i a) : ∃ st', (tgt_dl n N cap ex me i a).res = some (.normal, st') ∧ StLe 2 st' (S_dl n N cap ex me (i + 1) ((fun (i : Nat) (a : Nat × (Nat → Int)) => (dlF me i a)) i a)) ∧ (fun (i : Nat) (a : Nat × (Nat → Int)) => (a.1 < i : Prop)) (i + 1) ((fun (i : Nat) (a : Nat × (Nat → Int)) => (dlF me i a)) i a) := by
  refine T.over_exP (g := fun s => (Ex.normal, s)) (tree_dl n N cap ex me i a) ?_
  obtain ⟨c, x⟩ := a
  have hI' : c < i := hI
  have e1 : (i : Int) < (n : Int) := by omega
  have e2 : (0 : Int) ≤ (i : Int) ∧ (i : Int) < (n : Int) := by omega
  have e2' : (0 : Int) ≤ (c : Int) ∧ (c : Int) < (n : Int) := by omega
  have e3 : IntKind.wrap .i64 ((i : Int) + 1) = ((i + 1 : Nat) : Int) := by rw [wrapI (by omega)]; rfl
  have e3' : IntKind.wrap .i64 ((c : Int) + 1) = ((c + 1 : Nat) : Int) := by rw [wrapI (by omega)]; rfl
  have e4 : Nat.ble (i + 1) N = true := ble_tt (by omega)
  have e4' : Nat.ble (c + 1) N = true := ble_tt (by omega)
  cases hq : (x i == me)
  · have es : dlF me i (c, x) = (c + 1, fun k => bif Nat.beq k c then x i else x k) := by simp only [dlF, hq]
    simp only [es, T.res_br, T.res_ret, T.res_bad, decide_eq_true e1, decide_eq_true e2, decide_eq_true e2', e3, e3', e4, e4', hq, Nat.zero_add, Bool.not_false, reduceIte]
    exact ⟨_, rfl, StLe.less (Nat.le_refl 2) (fun t => .inr (.inl rfl)) (fun b => by rcases b with _ | _ | b <;> exact .inl rfl), Nat.succ_lt_succ hI'⟩
  · have es : dlF me i (c, x) = (c, x) := by simp only [dlF, hq]
    simp only [es, T.res_br, T.res_ret, T.res_bad, decide_eq_true e1, decide_eq_true e2, e3, e4, hq, Nat.zero_add, Bool.not_true, Bool.false_eq_true, reduceIte]
    exact ⟨_, rfl, StLe.less (Nat.le_refl 2) (fun t => .inr (.inl rfl)) (fun b => by rcases b with _ | _ | b <;> exact .inl rfl), Nat.lt_succ_of_lt hI'⟩
theorem end_dl (n N cap : Nat) (ex : Bool) (me : Int) (hn : n ≤ N) (hb : (n : Int) ≤ 9223372036854775807) (a : Nat × (Nat → Int)) (hI : (fun (i : Nat) (a : Nat × (Nat → Int)) => (a.1 < i : Prop)) (n) a) : ∃ st', (tgt_dl n N cap ex me (n) a).res = some (.exit 0, st') ∧ StLe 2 st' (⟨[(0, .v (.one (.sl false 0 1 0 0 n cap ex 1))), (1, .v (.one (.fn 27 [(1, 0, 0, 0)]))), (5, .v (AI a.1))], [(0, .arr true 1 N (intE a.2)), (1, .cells [I me])], 2, false, 0, []⟩) := by
  refine T.over_exP (g := fun s => (.exit 0, s)) (tree_dl n N cap ex me (n) a) ?_
  obtain ⟨c, x⟩ := a
  simp only [T.res_br, T.res_ret, T.res_bad, decide_eq_true_eq, Int.lt_irrefl, reduceIte]
  exact ⟨_, rfl, StLe.refl (Nat.le_refl 2)⟩
theorem loop_dl (n N cap : Nat) (ex : Bool) (me : Int) (hn : n ≤ N) (hb : (n : Int) ≤ 9223372036854775807) (i : Nat) (a : Nat × (Nat → Int)) (hi : i ≤ n) (hI : (fun (i : Nat) (a : Nat × (Nat → Int)) => (a.1 < i : Prop)) i a) {st0 : St} (h0 : StLe 2 st0 (S_dl n N cap ex me i a)) (hnx : st0.nx = 2) :
    CodeOk Try.prog Try.f25.ntmps (.loop (loopOf Try.f25 5)) st0 (.exit 0) ((fun (a : Nat × (Nat → Int)) => ⟨[(0, .v (.one (.sl false 0 1 0 0 n cap ex 1))), (1, .v (.one (.fn 27 [(1, 0, 0, 0)]))), (5, .v (AI a.1))], [(0, .arr true 1 N (intE a.2)), (1, .cells [I me])], 2, false, 0, []⟩) (foldF (fun (i : Nat) (a : Nat × (Nat → Int)) => (dlF me i a)) (n - i) i a)) := by
  have := for_loop GORC2 GKRC2 (K := 300) (F := 25) (N := Try.f25.ntmps) (c := loopOf Try.f25 5) (m := 2) (live := [0, 1, 5, 6]) (after := [0, 1, 5]) (S_dl n N cap ex me) (n) (fun (i : Nat) (a : Nat × (Nat → Int)) => .inl (dlF me i a)) (fun (a : Nat × (Nat → Int)) => (.exit 0, ⟨[(0, .v (.one (.sl false 0 1 0 0 n cap ex 1))), (1, .v (.one (.fn 27 [(1, 0, 0, 0)]))), (5, .v (AI a.1))], [(0, .arr true 1 N (intE a.2)), (1, .cells [I me])], 2, false, 0, []⟩)) (fun (i : Nat) (a : Nat × (Nat → Int)) => (a.1 < i : Prop))
    (fun i a hi hI => by obtain ⟨s, h1, h2, h3⟩ := round_dl n N cap ex me hn hb i a hi hI; exact ⟨_, s, h1, rfl, h2, h3⟩)
    (fun a hI => by obtain ⟨s, h1, h2⟩ := end_dl n N cap ex me hn hb a hI; exact ⟨_, s, h1, by simp, rfl, h2⟩)
    (fun i a => by first | exact Nat.le_refl _ | (show 2 ≤ _; decide) | (simp only [S_dl]; omega)) hi hI h0 hnx
  rw [foldX_inl] at this
  exact this
noncomputable def L_ix : LoopF := mkLoopF [6, 7, 8, 0, 1] (loopOf Try.f39 2) Try.f39.ntmps fun sl H nx => match keyed [6, 7, 8, 0, 1] sl, keyed [0, 1] H with
  | some [.v (.one (.sl false z1 z2 z3 z4 n cap ex z5)), .v (.one (.f (.lit (.int .i64 k)))), .v (.one (.f (.lit (.int .i64 i)))), .v (.one (.sl false z6 z7 z8 z9 n2 cap2 ex2 z10)), .v (.one (.fn g [(z11, z12, z13, z14)]))], some [.arr true z15 N e, .cells [.f (.lit (.int .i64 me))]] => onlyB (Nat.beq nx 2 && (Nat.beq z1 0 && (Nat.beq z2 1 && (Nat.beq z3 0 && (Nat.beq z4 0 && (Nat.beq z5 1 && (Nat.beq z6 0 && (Nat.beq z7 1 && (Nat.beq z8 0 && (Nat.beq z9 0 && (Nat.beq z10 1 && (Nat.beq z11 1 && (Nat.beq z12 0 && (Nat.beq z13 0 && (Nat.beq z14 0 && (Nat.beq z15 1)))))))))))))))) (onlyB (Nat.beq g 27) (.need (pb (IntE e ∧ n ≤ N ∧ (n : Int) ≤ 9223372036854775807 ∧ k = n ∧ i = 0 ∧ n = n2 ∧ cap = cap2 ∧ ex = ex2)) (.br (pb (idxF me (intOf e) n 0 = -1)) (.ret (.exit 0, (St.mk [] [(0, .arr true 1 N e), (1, .cells [I me])] 2 false 0 []).sl, (St.mk [] [(0, .arr true 1 N e), (1, .cells [I me])] 2 false 0 []).H, 2, false)) (.ret (.ret, (St.mk [(4, .v (AI (idxF me (intOf e) n 0)))] [(0, .arr true 1 N e), (1, .cells [I me])] 2 false 0 []).sl, (St.mk [(4, .v (AI (idxF me (intOf e) n 0)))] [(0, .arr true 1 N e), (1, .cells [I me])] 2 false 0 []).H, 2, false)))))
  | _, _ => .bad
theorem L_ix_ok : LoopOk Try.prog L_ix := by
  refine mkLoopF_ok fun sl H nx e sl' H' nx' esc' h => ?_
  split at h
  · rename_i z1 z2 z3 z4 n cap ex z5 k i z6 z7 z8 z9 n2 cap2 ex2 z10 g z11 z12 z13 z14 z15 N e me hsl hH
    have hsl := keyed_eq hsl
    have hH := keyed_eq hH
    subst hsl hH
    have h5 := onlyB_some h
    clear h
    obtain ⟨hck, h⟩ := h5
    simp only [Bool.and_eq_true, nbeq_iff] at hck
    obtain ⟨rfl, rfl, rfl, rfl, rfl, rfl, rfl, rfl, rfl, rfl, rfl, rfl, rfl, rfl, rfl, rfl⟩ := hck
    have h5 := onlyB_some h
    clear h
    have hw := h5.1
    have h := h5.2
    clear h5
    obtain ⟨hp, hret⟩ := T.need_some h
    have hp := pb_of hp
    rcases T.br_some hret with ⟨hc, hret⟩ | ⟨hc, hret⟩
    · have hc := pb_of hc
      have := T.ret_some hret
      simp only [Prod.mk.injEq] at this
      obtain ⟨rfl, rfl, rfl, rfl, rfl⟩ := this
      clear hret h
      obtain ⟨⟨x, rfl⟩, hn, hb, rfl, rfl, rfl, rfl, rfl⟩ := hp
      obtain rfl := Nat.eq_of_beq_eq_true hw
      have := loop_ix n N cap ex x me hn hb (StLe.refl (Nat.le_refl 2)) rfl
      have e : endIx N x me (idxF me x n 0) = endIx N x me (-1) := congrArg _ hc
      rw [e] at this
      exact this
    · have hc := pb_no hc
      have := T.ret_some hret
      simp only [Prod.mk.injEq] at this
      obtain ⟨rfl, rfl, rfl, rfl, rfl⟩ := this
      clear hret h
      obtain ⟨⟨x, rfl⟩, hn, hb, rfl, rfl, rfl, rfl, rfl⟩ := hp
      obtain rfl := Nat.eq_of_beq_eq_true hw
      have := loop_ix n N cap ex x me hn hb (StLe.refl (Nat.le_refl 2)) rfl
      have e : endIx N x me (idxF me x n 0) = (.ret, ⟨[(4, .v (AI (idxF me x n 0)))], [(0, .arr true 1 N (intE x)), (1, .cells [I me])], 2, false, 0, []⟩) := if_neg hc
      rw [e] at this
      exact this
  · exact (T.bad_some h).elim
noncomputable def ll_ix : List (Nat × Nat × LoopF) := (39, 2, L_ix) :: ll_tb
theorem ll_ix_ok : ∀ x ∈ ll_ix, LoopOk Try.prog x.2.2 := List.forall_mem_cons.2 ⟨L_ix_ok, ll_tb_ok⟩
noncomputable def L_dl : LoopF := mkLoopF [0, 1, 5, 6] (loopOf Try.f25 5) Try.f25.ntmps fun sl H nx => match keyed [0, 1, 5, 6] sl, keyed [0, 1] H with
  | some [.v (.one (.sl false z1 z2 z3 z4 n cap ex z5)), .v (.one (.fn g [(z6, z7, z8, z9)])), .v (.one (.f (.lit (.int .i64 c)))), .v (.one (.f (.lit (.int .i64 j))))], some [.arr true z10 N e, .cells [.f (.lit (.int .i64 me))]] => onlyB (Nat.beq nx 2 && (Nat.beq z1 0 && (Nat.beq z2 1 && (Nat.beq z3 0 && (Nat.beq z4 0 && (Nat.beq z5 1 && (Nat.beq z6 1 && (Nat.beq z7 0 && (Nat.beq z8 0 && (Nat.beq z9 0 && (Nat.beq z10 1))))))))))) (onlyB (Nat.beq g 27) (.need (pb (IntE e ∧ n ≤ N ∧ (n : Int) ≤ 9223372036854775807 ∧ 0 ≤ c ∧ c < (n : Int) ∧ j = c + 1)) (.ret (.exit 0, (St.mk [(0, .v (.one (.sl false 0 1 0 0 n cap ex 1))), (1, .v (.one (.fn 27 [(1, 0, 0, 0)]))), (5, .v (AI (foldF (dlF me) (n - (c.toNat + 1)) (c.toNat + 1) (c.toNat, intOf e)).1))] [(0, .arr true 1 N (intE (foldF (dlF me) (n - (c.toNat + 1)) (c.toNat + 1) (c.toNat, intOf e)).2)), (1, .cells [I me])] 2 false 0 []).sl, (St.mk [(0, .v (.one (.sl false 0 1 0 0 n cap ex 1))), (1, .v (.one (.fn 27 [(1, 0, 0, 0)]))), (5, .v (AI (foldF (dlF me) (n - (c.toNat + 1)) (c.toNat + 1) (c.toNat, intOf e)).1))] [(0, .arr true 1 N (intE (foldF (dlF me) (n - (c.toNat + 1)) (c.toNat + 1) (c.toNat, intOf e)).2)), (1, .cells [I me])] 2 false 0 []).H, 2, false))))
  | _, _ => .bad
theorem L_dl_ok : LoopOk Try.prog L_dl := by
  refine mkLoopF_ok fun sl H nx e sl' H' nx' esc' h => ?_
  split at h
  · rename_i z1 z2 z3 z4 n cap ex z5 g z6 z7 z8 z9 c j z10 N e me hsl hH
    have hsl := keyed_eq hsl
    have hH := keyed_eq hH
    subst hsl hH
    have h5 := onlyB_some h
    clear h
    obtain ⟨hck, h⟩ := h5
    simp only [Bool.and_eq_true, nbeq_iff] at hck
    obtain ⟨rfl, rfl, rfl, rfl, rfl, rfl, rfl, rfl, rfl, rfl, rfl⟩ := hck
    have h5 := onlyB_some h
    clear h
    have hw := h5.1
    have h := h5.2
    clear h5
    obtain ⟨hp, hret⟩ := T.need_some h
    have hp := pb_of hp
    have := T.ret_some hret
    simp only [Prod.mk.injEq] at this
    obtain ⟨rfl, rfl, rfl, rfl, rfl⟩ := this
    clear hret h
    obtain ⟨⟨x, rfl⟩, hn, hb, h0, h1, rfl⟩ := hp
    obtain rfl := Nat.eq_of_beq_eq_true hw
    obtain ⟨c, rfl⟩ : ∃ c' : Nat, c = c' := ⟨c.toNat, by omega⟩
    exact loop_dl n N cap ex me hn hb (c + 1) (c, x) (by omega) (Nat.lt_succ_self _) (StLe.refl (Nat.le_refl 2)) rfl
  · exact (T.bad_some h).elim
noncomputable def ll_dl : List (Nat × Nat × LoopF) := (25, 5, L_dl) :: ll_ix
theorem ll_dl_ok : ∀ x ∈ ll_dl, LoopOk Try.prog x.2.2 := List.forall_mem_cons.2 ⟨L_dl_ok, ll_ix_ok⟩
noncomputable def GRC3 : Ctx := GS.with ss_Next1 ll_dl
noncomputable def tgt_Index (n N cap : Nat) (ex : Bool) (x : Nat → Int) (me : Int) : T CallOut := evCallW [] GRC3 300 39 [.one (.sl false 0 1 0 0 n cap ex 1), .one (.fn 27 [(1, 0, 0, 0)])] [(0, .arr true 1 N (intE x)), (1, .cells [I me])] 2
theorem GKRC3 : KnownOk Try.prog GRC3 := KnownOk.lists ss_Next1_ok ll_dl_ok
theorem GORC3 : CtxOk Try.prog GRC3 := GS_ok.with _ _
theorem tree_Index (n N cap : Nat) (ex : Bool) (x : Nat → Int) (me : Int) : (tgt_Index n N cap ex x me).over (.br (.br (.br .leaf .leaf) .skip) .skip) = T.br (pb (Code.loop (loopOf Proofs.Try.f39 2) = Code.loop (loopOf Proofs.Try.f39 2) ∧ 19 = 19)) (T.br (pb (IntE (intE x) ∧ n ≤ N ∧ (↑n : Int) ≤ (9223372036854775807 : Int) ∧ (↑n : Int) = (↑n : Int) ∧ (0 : Int) = (0 : Int) ∧ n = n ∧ cap = cap ∧ ex = ex)) (T.br (pb (idxF me x n 0 = (-1 : Int))) (T.ret ⟨SV.v (AI (-1 : Int)), [(0, Ob.arr true 1 N fun a => [FV.lit (.int .i64 (x a))]), (1, Ob.cells [I me])], 2, false, []⟩) (T.ret ⟨SV.v (AI (idxF me x n 0)), [(0, Ob.arr true 1 N fun a => [FV.lit (.int .i64 (x a))]), (1, Ob.cells [I me])], 2, false, []⟩)) T.bad) T.bad := by kernel_rfl
theorem res_Index (n N cap : Nat) (ex : Bool) (x : Nat → Int) (me : Int) (h : n ≤ N ∧ (n : Int) ≤ 9223372036854775807) : (tgt_Index n N cap ex x me).res = some (⟨.v (AI (idxF me x n 0)), [(0, .arr true 1 N (intE x)), (1, .cells [I me])], 2, false, []⟩) := by
  refine T.over_eq _ (tree_Index n N cap ex x me) ?_
  simp only [T.res_br, T.res_ret, T.res_bad]
  obtain ⟨h1, h2⟩ := h
  simp only [IntE_ok, h1, h2, eq_self, and_self, pb_tt, reduceIte]
  by_cases hc : idxF me x n 0 = -1
  · rw [if_pos (pb_true hc), hc]
  · rw [pb_false hc]; rfl
noncomputable def F_Index : SumF
  | [.one (.sl false 0 1 0 0 n cap ex 1), .one (.fn g [(1, 0, 0, 0)])], [(0, .arr true 1 N e), (1, .cells [.f (.lit (.int .i64 me))])], 2 => .need (pb (IntE e ∧ n ≤ N ∧ (n : Int) ≤ 9223372036854775807 ∧ g = 27)) (.ret (⟨.v (AI (idxF me (intOf e) n 0)), [(0, .arr true 1 N e), (1, .cells [I me])], 2, false, []⟩))
  | _, _, _ => .bad
theorem sum_Index : SumOk Try.prog 39 F_Index := by
  refine ⟨fun args H nx r hr => ?_, fun args H nx => ?_⟩
  · unfold F_Index at hr
    split at hr
    · rename_i n cap ex g N e me
      obtain ⟨h0, hr⟩ := T.need_some hr
      have := T.ret_some hr
      subst this
      have h := pb_of h0
      obtain ⟨⟨x, rfl⟩, h1, h2, rfl⟩ := h
      exact evCallW_ok GORC3 GKRC3 (res_Index n N cap ex x me ⟨h1, h2⟩)
    · exact (T.bad_some hr).elim
  · unfold F_Index
    split
    · exact T.Every.need ⟨by first | exact Nat.le_refl _ | (dsimp only; omega), fun b hb hw => by
        have : b = 0 ∨ b = 1 := by omega
        rcases this with rfl | rfl <;> first | rfl | exact absurd (by dsimp only; decide) hw⟩
    · trivial
noncomputable def sm_Index : SumF := canonSum F_Index
theorem sm_Index_ok : SumOk Try.prog 39 sm_Index := canonSum_ok sum_Index
noncomputable def ss_Index : List (Nat × SumF) := (39, sm_Index) :: ss_Next1
theorem ss_Index_ok : ∀ x ∈ ss_Index, SumOk Try.prog x.1 x.2 := List.forall_mem_cons.2 ⟨sm_Index_ok, ss_Next1_ok⟩
noncomputable def GRC4 : Ctx := GS.with ss_Index ll_dl
noncomputable def tgt_Del (n N cap : Nat) (x : Nat → Int) (me : Int) : T CallOut := evCallW [] GRC4 300 25 [.one (.sl false 0 1 0 0 n cap false 1), .one (.fn 27 [(1, 0, 0, 0)])] [(0, .arr true 1 N (intE x)), (1, .cells [I me])] 2
theorem GKRC4 : KnownOk Try.prog GRC4 := KnownOk.lists ss_Index_ok ll_dl_ok
theorem GORC4 : CtxOk Try.prog GRC4 := GS_ok.with _ _
theorem tree_Del (n N cap : Nat) (x : Nat → Int) (me : Int) : (tgt_Del n N cap x me).over (.br (.br .leaf (.br (.br (.br (.ff (.br (.br (.br (.ff (.br (.br .leaf .leaf) .skip)) .skip) (.br (.br (.ff (.br (.br .leaf .leaf) .skip)) .skip) .skip)) .skip)) .skip) .skip) .skip)) .skip) = T.br (pb (IntE (intE x) ∧ n ≤ N ∧ (↑n : Int) ≤ (9223372036854775807 : Int) ∧ 27 = 27)) (T.br (idxF me x n 0 == (-1 : Int)) (T.ret ⟨SV.v (AV.one (CV.sl false 0 1 0 0 n cap false 1)), [(0, Ob.arr true 1 N fun a => [FV.lit (.int .i64 (x a))]), (1, Ob.cells [I me])], 2, false, []⟩) (T.br (pb (Code.loop (loopOf Proofs.Try.f25 5) = Code.loop (loopOf Proofs.Try.f25 5) ∧ 42 = 42)) (T.br (pb (IntE (intE x) ∧ n ≤ N ∧ (↑n : Int) ≤ (9223372036854775807 : Int) ∧ (0 : Int) ≤ idxF me x n 0 ∧ idxF me x n 0 < (↑n : Int) ∧ IntKind.wrap IntKind.i64 (idxF me x n 0 + (1 : Int)) = idxF me x n 0 + (1 : Int))) (T.br (decide ((0 : Int) ≤ (↑(Prod.fst (foldF (dlF me) (n - (Int.toNat (idxF me x n 0) + 1)) (Int.toNat (idxF me x n 0) + 1) (Int.toNat (idxF me x n 0), x))) : Int) ∧ (↑(Prod.fst (foldF (dlF me) (n - (Int.toNat (idxF me x n 0) + 1)) (Int.toNat (idxF me x n 0) + 1) (Int.toNat (idxF me x n 0), x))) : Int) ≤ (↑n : Int))) (T.br (Nat.ble n cap) (T.br (Nat.beq cap (Prod.fst (foldF (dlF me) (n - (Int.toNat (idxF me x n 0) + 1)) (Int.toNat (idxF me x n 0) + 1) (Int.toNat (idxF me x n 0), x)))) (T.br (decide ((0 : Int) ≤ (↑(Prod.fst (foldF (dlF me) (n - (Int.toNat (idxF me x n 0) + 1)) (Int.toNat (idxF me x n 0) + 1) (Int.toNat (idxF me x n 0), x))) : Int) ∧ (↑(Prod.fst (foldF (dlF me) (n - (Int.toNat (idxF me x n 0) + 1)) (Int.toNat (idxF me x n 0) + 1) (Int.toNat (idxF me x n 0), x))) : Int) ≤ (↑cap : Int))) (T.br (Nat.ble n cap) (T.br (Nat.beq cap 0) (T.ret ⟨SV.v (AV.one (CV.f (FV.fs false 1 0 fun x => []))), [(0, Ob.arr true 1 N fun a => [FV.lit (.int .i64 (Prod.snd (foldF (dlF me) (n - (Int.toNat (idxF me x n 0) + 1)) (Int.toNat (idxF me x n 0) + 1) (Int.toNat (idxF me x n 0), x)) a))]), (1, Ob.cells [I me])], 2, false, []⟩) (T.ret ⟨SV.v (AV.one (CV.sl false 0 1 0 0 (Prod.fst (foldF (dlF me) (n - (Int.toNat (idxF me x n 0) + 1)) (Int.toNat (idxF me x n 0) + 1) (Int.toNat (idxF me x n 0), x)) - 0) (cap - 0) false 1)), [(0, Ob.arr true 1 N fun a => [FV.lit (.int .i64 (Prod.snd (foldF (dlF me) (n - (Int.toNat (idxF me x n 0) + 1)) (Int.toNat (idxF me x n 0) + 1) (Int.toNat (idxF me x n 0), x)) a))]), (1, Ob.cells [I me])], 2, false, []⟩)) T.bad) T.bad) (T.br (Nat.ble (0 + Prod.fst (foldF (dlF me) (n - (Int.toNat (idxF me x n 0) + 1)) (Int.toNat (idxF me x n 0) + 1) (Int.toNat (idxF me x n 0), x)) + (n - Prod.fst (foldF (dlF me) (n - (Int.toNat (idxF me x n 0) + 1)) (Int.toNat (idxF me x n 0) + 1) (Int.toNat (idxF me x n 0), x)))) N) (T.br (decide ((0 : Int) ≤ (↑(Prod.fst (foldF (dlF me) (n - (Int.toNat (idxF me x n 0) + 1)) (Int.toNat (idxF me x n 0) + 1) (Int.toNat (idxF me x n 0), x))) : Int) ∧ (↑(Prod.fst (foldF (dlF me) (n - (Int.toNat (idxF me x n 0) + 1)) (Int.toNat (idxF me x n 0) + 1) (Int.toNat (idxF me x n 0), x))) : Int) ≤ (↑cap : Int))) (T.br (Nat.ble n cap) (T.br (Nat.beq cap 0) (T.ret ⟨SV.v (AV.one (CV.f (FV.fs false 1 0 fun x => []))), [(0, Ob.arr true 1 N fun i => [FV.lit (.int .i64 (bif Nat.ble (0 + Prod.fst (foldF (dlF me) (n - (Int.toNat (idxF me x n 0) + 1)) (Int.toNat (idxF me x n 0) + 1) (Int.toNat (idxF me x n 0), x))) i && Nat.ble (i + 1) (0 + Prod.fst (foldF (dlF me) (n - (Int.toNat (idxF me x n 0) + 1)) (Int.toNat (idxF me x n 0) + 1) (Int.toNat (idxF me x n 0), x)) + (n - Prod.fst (foldF (dlF me) (n - (Int.toNat (idxF me x n 0) + 1)) (Int.toNat (idxF me x n 0) + 1) (Int.toNat (idxF me x n 0), x)))) then (0 : Int) else Prod.snd (foldF (dlF me) (n - (Int.toNat (idxF me x n 0) + 1)) (Int.toNat (idxF me x n 0) + 1) (Int.toNat (idxF me x n 0), x)) i))]), (1, Ob.cells [I me])], 2, false, []⟩) (T.ret ⟨SV.v (AV.one (CV.sl false 0 1 0 0 (Prod.fst (foldF (dlF me) (n - (Int.toNat (idxF me x n 0) + 1)) (Int.toNat (idxF me x n 0) + 1) (Int.toNat (idxF me x n 0), x)) - 0) (cap - 0) false 1)), [(0, Ob.arr true 1 N fun i => [FV.lit (.int .i64 (bif Nat.ble (0 + Prod.fst (foldF (dlF me) (n - (Int.toNat (idxF me x n 0) + 1)) (Int.toNat (idxF me x n 0) + 1) (Int.toNat (idxF me x n 0), x))) i && Nat.ble (i + 1) (0 + Prod.fst (foldF (dlF me) (n - (Int.toNat (idxF me x n 0) + 1)) (Int.toNat (idxF me x n 0) + 1) (Int.toNat (idxF me x n 0), x)) + (n - Prod.fst (foldF (dlF me) (n - (Int.toNat (idxF me x n 0) + 1)) (Int.toNat (idxF me x n 0) + 1) (Int.toNat (idxF me x n 0), x)))) then (0 : Int) else Prod.snd (foldF (dlF me) (n - (Int.toNat (idxF me x n 0) + 1)) (Int.toNat (idxF me x n 0) + 1) (Int.toNat (idxF me x n 0), x)) i))]), (1, Ob.cells [I me])], 2, false, []⟩)) T.bad) T.bad) T.bad)) T.bad) T.bad) T.bad) T.bad)) T.bad := by kernel_rfl
/-- the numbers that are not me -/
def filL (me : Int) (x : Nat → Int) (n : Nat) : List Int := (rowL x 0 n).filter fun y => !(y == me)
theorem rowL_succ (x : Nat → Int) (n : Nat) : rowL x 0 (n + 1) = rowL x 0 n ++ [x n] := by simp [rowL, List.range_succ]
theorem filL_succ (me : Int) (x : Nat → Int) (n : Nat) : filL me x (n + 1) = filL me x n ++ (match x n == me with | true => [] | false => [x n]) := by
  unfold filL
  rw [rowL_succ, List.filter_append]
  cases h : x n == me <;> simp [h]
theorem rowL_congr {x y : Nat → Int} {n : Nat} (h : ∀ i, i < n → x i = y i) : rowL x 0 n = rowL y 0 n := by
  unfold rowL
  refine List.map_congr_left fun i hi => ?_
  rw [Nat.zero_add]
  exact h i (List.mem_range.1 hi)
theorem idx_some (me : Int) (x : Nat → Int) : ∀ (c i : Nat), (idxF me x c i = -1 ∧ ∀ j, i ≤ j → j < i + c → (x j == me) = false) ∨ ∃ k : Nat, idxF me x c i = k ∧ i ≤ k ∧ k < i + c ∧ x k = me ∧ ∀ j, i ≤ j → j < k → (x j == me) = false
  | 0, i => .inl ⟨rfl, fun j h1 h2 => by omega⟩
  | c + 1, i => by
    simp only [idxF]
    cases hq : x i == me
    · rcases idx_some me x c (i + 1) with ⟨h1, h2⟩ | ⟨k, h1, h2, h3, h4, h5⟩
      · refine .inl ⟨h1, fun j h3 h4 => ?_⟩
        rcases Nat.eq_or_lt_of_le h3 with rfl | h
        · exact hq
        · exact h2 j h (by omega)
      · refine .inr ⟨k, h1, by omega, by omega, h4, fun j h6 h7 => ?_⟩
        rcases Nat.eq_or_lt_of_le h6 with rfl | h
        · exact hq
        · exact h5 j h h7
    · exact .inr ⟨i, rfl, Nat.le_refl _, by omega, by simpa using hq, fun j h1 h2 => by omega⟩
theorem fil_all (me : Int) (x : Nat → Int) : ∀ n, (∀ j, j < n → (x j == me) = false) → filL me x n = rowL x 0 n
  | 0, _ => rfl
  | n + 1, h => by rw [filL_succ, rowL_succ, fil_all me x n fun j hj => h j (by omega), h n (Nat.lt_succ_self n)]
theorem dl_inv (me : Int) (x : Nat → Int) : ∀ (d j : Nat) (a : Nat × (Nat → Int)), a.1 < j → rowL a.2 0 a.1 = filL me x j → (∀ k, j ≤ k → a.2 k = x k) →
    (foldF (dlF me) d j a).1 < j + d ∧ rowL (foldF (dlF me) d j a).2 0 (foldF (dlF me) d j a).1 = filL me x (j + d)
  | 0, j, a, h1, h2, _ => ⟨h1, h2⟩
  | d + 1, j, (c, y), h1, h2, h3 => by
    simp only at h1 h2 h3
    have hj := h3 j (Nat.le_refl _)
    show (foldF (dlF me) d (j + 1) (dlF me j (c, y))).1 < _ ∧ rowL (foldF (dlF me) d (j + 1) (dlF me j (c, y))).2 0 (foldF (dlF me) d (j + 1) (dlF me j (c, y))).1 = _
    rw [show j + (d + 1) = j + 1 + d by omega]
    cases hq : y j == me
    · rw [show dlF me j (c, y) = (c + 1, fun k => bif Nat.beq k c then y j else y k) by simp only [dlF, hq]]
      refine dl_inv me x d (j + 1) (c + 1, fun k => bif Nat.beq k c then y j else y k) (Nat.succ_lt_succ h1) ?_ (fun k hk => ?_)
      · simp only
        rw [rowL_succ, filL_succ, ← hj, hq, ← h2]
        simp only [Nat.beq_refl, cond_true, hj]
        congr 1
        exact rowL_congr fun i hi => by rw [beq_ff (by omega)]; rfl
      · simp only
        rw [beq_ff (by omega)]
        exact h3 k (by omega)
    · rw [show dlF me j (c, y) = (c, y) by simp only [dlF, hq]]
      refine dl_inv me x d (j + 1) (c, y) (Nat.lt_succ_of_lt h1) ?_ (fun k hk => h3 k (by omega))
      show rowL y 0 c = _
      rw [filL_succ, ← hj, hq, h2, List.append_nil]
/-- what DeleteFunc leaves: how many, and the row -/
def dlR (me : Int) (x : Nat → Int) (n : Nat) : Nat × (Nat → Int) := foldF (dlF me) (n - ((idxF me x n 0).toNat + 1)) ((idxF me x n 0).toNat + 1) ((idxF me x n 0).toNat, x)
def delI (me : Int) (x : Nat → Int) (n : Nat) : Nat × (Nat → Int) := if idxF me x n 0 = -1 then (n, x) else
  ((dlR me x n).1, fun i => bif Nat.ble (dlR me x n).1 i && Nat.ble (i + 1) ((dlR me x n).1 + (n - (dlR me x n).1)) then 0 else (dlR me x n).2 i)
theorem dlR_ok {me : Int} {x : Nat → Int} {n : Nat} (h : idxF me x n 0 ≠ -1) : (0 ≤ idxF me x n 0 ∧ idxF me x n 0 < (n : Int)) ∧ (dlR me x n).1 < n ∧ rowL (dlR me x n).2 0 (dlR me x n).1 = filL me x n := by
  rcases idx_some me x n 0 with ⟨h1, _⟩ | ⟨k, h1, h2, h3, h4, h5⟩
  · exact absurd h1 h
  · have hk : k < n := by omega
    have hf : filL me x (k + 1) = rowL x 0 k := by
      rw [filL_succ, fil_all me x k fun j hj => h5 j (Nat.zero_le _) hj]
      have : (x k == me) = true := by simp [h4]
      rw [this, List.append_nil]
    have := dl_inv me x (n - (k + 1)) (k + 1) (k, x) (Nat.lt_succ_self _) hf.symm (fun _ _ => rfl)
    rw [show k + 1 + (n - (k + 1)) = n by omega] at this
    unfold dlR
    rw [h1, Int.toNat_natCast]
    exact ⟨by omega, this⟩
theorem delI_ok (me : Int) (x : Nat → Int) (n : Nat) : (delI me x n).1 ≤ n ∧ rowL (delI me x n).2 0 (delI me x n).1 = filL me x n := by
  unfold delI
  split
  · rename_i h
    rcases idx_some me x n 0 with ⟨_, h2⟩ | ⟨k, h1, _⟩
    · exact ⟨Nat.le_refl _, (fil_all me x n fun j hj => h2 j (Nat.zero_le _) (by omega)).symm⟩
    · omega
  · rename_i h
    obtain ⟨_, h1, h2⟩ := dlR_ok h
    refine ⟨Nat.le_of_lt h1, ?_⟩
    simp only
    rw [← h2]
    refine rowL_congr fun i hi => ?_
    rw [show Nat.ble (dlR me x n).1 i = false from ble_false (by omega)]
    rfl
theorem res_Del (n N cap : Nat) (x : Nat → Int) (me : Int) (h : n ≤ N ∧ n ≤ cap ∧ (n : Int) ≤ 9223372036854775807) : (tgt_Del n N cap x me).res = some ⟨.v (.one (.sl false 0 1 0 0 (delI me x n).1 cap false 1)), [(0, .arr true 1 N (intE (delI me x n).2)), (1, .cells [I me])], 2, false, []⟩ := by
  refine T.over_eq _ (tree_Del n N cap x me) ?_
  obtain ⟨h1, h2, h3⟩ := h
  have hd : dlR me x n = foldF (dlF me) (n - ((idxF me x n 0).toNat + 1)) ((idxF me x n 0).toNat + 1) ((idxF me x n 0).toNat, x) := rfl
  simp only [T.res_br, T.res_ret, T.res_bad, ← hd]
  by_cases hi : idxF me x n 0 = -1
  · have e : delI me x n = (n, x) := if_pos hi
    simp only [e, IntE_ok, h1, h3, hi, eq_self, and_self, pb_tt, beq_self_eq_true, reduceIte]
  · obtain ⟨⟨i0, i1⟩, d1, _⟩ := dlR_ok hi
    have e : delI me x n = ((dlR me x n).1, fun i => bif Nat.ble (dlR me x n).1 i && Nat.ble (i + 1) ((dlR me x n).1 + (n - (dlR me x n).1)) then 0 else (dlR me x n).2 i) := if_neg hi
    have e1 : (idxF me x n 0 == -1) = false := by simpa using hi
    have e2 : IntKind.wrap .i64 (idxF me x n 0 + 1) = idxF me x n 0 + 1 := wrapI (by omega)
    have e3 : (0 : Int) ≤ ((dlR me x n).1 : Int) ∧ ((dlR me x n).1 : Int) ≤ (n : Int) := by omega
    have e4 : Nat.ble n cap = true := ble_tt h2
    have e5 : Nat.beq cap (dlR me x n).1 = false := beq_ff (by omega)
    have e6 : Nat.ble ((dlR me x n).1 + (n - (dlR me x n).1)) N = true := ble_tt (by omega)
    have e7 : (0 : Int) ≤ ((dlR me x n).1 : Int) ∧ ((dlR me x n).1 : Int) ≤ (cap : Int) := by omega
    have e8 : Nat.beq cap 0 = false := beq_ff (by omega)
    simp only [e, e1, e2, e4, e5, e6, e8, decide_eq_true e3, decide_eq_true e7, IntE_ok, h1, h3, i0, i1, Nat.zero_add, Nat.sub_zero, eq_self, and_self, pb_tt, Bool.false_eq_true, reduceIte]

noncomputable def GRC5 : Ctx := GS.with ss_Index ll_dl
noncomputable def tgt_Clone (nl : Bool) (n : Nat) (x : Nat → Int) : T CallOut := evCallW [] GRC5 300 26 [.one (.f (.fs nl 1 n (intE x)))] [] 0
theorem GKRC5 : KnownOk Try.prog GRC5 := KnownOk.lists ss_Index_ok ll_dl_ok
theorem GORC5 : CtxOk Try.prog GRC5 := GS_ok.with _ _
theorem tree_Clone (nl : Bool) (n : Nat) (x : Nat → Int) : (tgt_Clone nl n x).over (.br .leaf (.br .leaf (.br (.tt .skip) (.br (.tt .leaf) .skip)))) = T.br nl (T.ret (out0 (SV.v (AV.one Nil)))) (T.br (Nat.beq n 0) (T.ret ⟨SV.v (AV.one (CV.sl false 0 0 0 0 0 0 true 1)), [(0, Ob.cells [])], 1, false, []⟩) (T.br (Nat.ble (0 + n) 0) T.bad (T.br (smallB (0 + n) 8) (T.ret ⟨SV.v (AV.one (CV.sl false 1 1 0 0 (0 + n) (0 + n) false 1)), [(1, Ob.arr true 1 (0 + n) fun i => [FV.lit (.int .i64 (x (i - 0)))]), (0, Ob.cells [])], 2, false, []⟩) T.bad))) := by kernel_rfl
end Go.Proofs.Ytggneleipimijaa.En
/- Rows of numbers: DeleteFunc, Sort, BinarySearch are known. -/
namespace Go.Proofs.Ytggneleipimijaa.En
open Go
set_option linter.unusedVariables false
set_option linter.unusedSimpArgs false
set_option maxRecDepth 20000
set_option maxHeartbeats 1000000
/-- the row, sorted -/
def sortI (x : Nat → Int) (n : Nat) : Nat → Int := putL x 0 ((rowL x 0 n).mergeSort fun x y => decide (x ≤ y))
theorem to_Sort (n N cap : Nat) (ex : Bool) (x : Nat → Int) (h : n ≤ N ∧ (n : Int) < 4611686018427387904) : CallTo Try.prog 28 [.one (.sl false 0 1 0 0 n cap ex 1)] [(0, .arr true 1 N (intE x))] 1 ⟨.tup [], [(0, .arr true 1 N (intE (sortI x n)))], 1, false, [0]⟩ := by
  refine row_to (x := x) (ys := (rowL x 0 n).mergeSort fun x y => decide (x ≤ y)) (N := N) rfl (by omega) (by rw [List.length_mergeSort, rowL_length]) fun k o c w hc hh hk => ?_
  have := Try.slices_Sort_int k o c (rowL x 0 n) w hh hk (by rw [rowL_length]; omega)
  rw [rowL_length] at this
  refine this.mono fun e w' hq => ?_
  obtain ⟨rfl, m, os, hw⟩ := hq
  exact ⟨⟨_, rfl, fun f z _ _ _ _ _ => ⟨#[], rfl, rfl, fun i a b h1 _ => by simp at h1⟩⟩, m, os, hw⟩
theorem Rel.drewN {S : Nat → Prop} {f : Fn} {nx : Nat} {z : Z} {w : World} {H : Heap} (h : Rel S f nx z w H) (q : Nat) : Rel S f nx z { w with drawn := w.drawn + q } H :=
  ⟨fun b hb hl => ⟨(h.own b hb hl).1, ⟨(h.own b hb hl).2.lt, (h.own b hb hl).2.own, (h.own b hb hl).2.room, (h.own b hb hl).2.cell, (h.own b hb hl).2.map⟩⟩, h.inj, h.zok⟩
/-- a call that reads an own row of numbers, and draws -/
theorem read_to {P : Program} {g b a n cap N nx : Nat} {ex : Bool} {x : Nat → Int} {H : Heap} {t : Int} {vr : SV} (hH : H.get b = .arr true 1 N (intE x)) (hn : a + n ≤ N)
    (hC : ∀ (k o c : Nat) (w : World), n ≤ c → (∀ j, j < n → w.cell? ⟨k, o + j, none⟩ = some (.int .i64 (x (a + j)))) → Calls P g #[.slice (some ⟨k, o, none⟩) n c, .int .i64 t] w fun e w' =>
      (∃ v, e = .returned v ∧ ∀ (f : Fn) (z : Z), RS f nx z vr v) ∧ ∃ q, w' = w.drewN q) :
    CallTo P g [.one (.sl false b 1 a 0 n cap ex 1), AI t] H nx ⟨vr, H, nx, false, []⟩ := by
  intro f z w vs hr ha R hR
  obtain ⟨v, u, rfl⟩ : ∃ v u, vs = #[v, u] := by
    have := ha.1
    simp only [List.length_cons, List.length_nil, Array.length_toList] at this
    match vs, this with
    | ⟨[v, u]⟩, _ => exact ⟨v, u, rfl⟩
  have hv : RA f nx z (.one (.sl false b 1 a 0 n cap ex 1)) v := ha.2 0 _ _ rfl rfl
  have hu : RA f nx z (AI t) u := ha.2 1 _ _ rfl rfl
  obtain rfl : u = Value.int .i64 t := by
    have hu' : RF z (.lit (.int .i64 t)) u := hu
    cases hu' with | lit _ _ => rfl
  obtain ⟨hb, _, hX⟩ := hv
  obtain ⟨c, rfl, c1, c2, c3, c4⟩ := hX rfl
  have hl : (H.get b).live := by rw [hH]; rfl
  obtain ⟨_, hok⟩ := hr.own b trivial hl
  have hcell : ∀ i, i < N → w.cell? ⟨(f b).k, (f b).d + i, none⟩ = some (.int .i64 (x i)) := fun i hi => by
    have hat : (H.get b).at 1 i 0 = some (.f (.lit (.int .i64 (x i)))) := by rw [hH]; simp [Ob.at, hi, intE]
    obtain ⟨h1, v, h2, h3⟩ := hok.cell 1 i 0 _ hat
    obtain rfl : v = Value.int .i64 (x i) := by cases h3 with | lit _ _ => rfl
    simp only [ad, Nat.mul_one, Nat.add_zero] at h2
    exact h2
  have hadr : (⟨(f b).k, (f b).d + a, none⟩ : Addr) = ad f b 1 a 0 := by simp [ad]
  have := hC (f b).k ((f b).d + a) c w c1 fun j hj => by rw [Nat.add_assoc]; exact hcell (a + j) (by omega)
  rw [hadr] at this
  refine this.mono fun e w' hq => ?_
  obtain ⟨⟨v, rfl, hvr⟩, q, rfl⟩ := hq
  exact hR f z _ v (Post.drew (k := w.drawn + q) (Post.reflA (Rel.drewN hr q))) (hvr f z)
def SortedL (x : Nat → Int) (n : Nat) : Prop := (rowL x 0 n).Pairwise (· ≤ ·)
def belowI (x : Nat → Int) (n : Nat) (t : Int) : Nat := (rowL x 0 n).countP (· < t)
theorem to_BS (n N cap : Nat) (ex : Bool) (x : Nat → Int) (t : Int) (h : n ≤ N ∧ (n : Int) < 4611686018427387904 ∧ SortedL x n) : CallTo Try.prog 29 [.one (.sl false 0 1 0 0 n cap ex 1), AI t] [(0, .arr true 1 N (intE x))] 1 ⟨.tup [AI (belowI x n t : Nat), AB ((rowL x 0 n).contains t)], [(0, .arr true 1 N (intE x))], 1, false, []⟩ := by
  refine read_to (x := x) (N := N) rfl (by omega) fun k o c w hc hh => ?_
  have hz : (rowL x 0 n).take n = rowL x 0 n := List.take_of_length_le (by rw [rowL_length]; exact Nat.le_refl _)
  have := Try.slices_BinarySearch_int k o n c (rowL x 0 n) t w (by rw [rowL_length]; exact Nat.le_refl _) (by omega) (fun j hj => by
    rw [rowL_length] at hj
    rw [hh j hj, List.getD_eq_getElem?_getD, rowL_get x 0 n j hj]; rfl) (by rw [hz]; exact h.2.2)
  rw [hz] at this
  refine this.mono fun e w' hq => ?_
  obtain ⟨rfl, q, hw⟩ := hq
  refine ⟨⟨_, rfl, fun f z => ⟨_, rfl, rfl, fun i a b h1 h2 => ?_⟩⟩, q, hw⟩
  rcases i with _ | _ | i
  · cases h1; cases h2; exact RF.lit _ rfl
  · cases h1; cases h2; exact RF.lit _ rfl
  · simp at h1

noncomputable def GRD1 : Ctx := GS.with ss_Table ll_tb
noncomputable def tgt_S2 (x y : Int) : T CallOut := evCallW [] GRD1 300 28 [.one (.sl false 0 0 0 0 2 2 true 1)] [(0, .cells [I x, I y])] 1
noncomputable def tgt_Nx0 (me : Int) (nl : Bool) (x : Nat → Int) : T CallOut := evCallW [] GRD1 300 14 [AI me, .one (.f (.fs nl 1 0 (intE x)))] [] 0
theorem GKRD1 : KnownOk Try.prog GRD1 := KnownOk.lists ss_Table_ok ll_tb_ok
theorem GORD1 : CtxOk Try.prog GRD1 := GS_ok.with _ _
theorem tree_S2 (x y : Int) : (tgt_S2 x y).over (.ff (.ff (.ff (.ff (.tt (.tt (.tt (.tt (.tt (.tt (.tt (.tt (.ff (.tt (.tt (.tt (.tt (.tt (.tt (.tt (.tt (.tt (.tt (.tt (.br (.tt (.tt (.tt (.br (.tt (.tt (.tt (.tt (.tt (.tt (.tt (.tt (.tt (.tt (.ff (.tt (.tt (.tt (.ff (.tt (.tt (.tt (.tt (.ff (.ff (.ff (.ff (.ff (.ff (.ff (.ff (.ff (.ff (.ff (.ff (.ff .leaf)))))))))))))))))))))))))))))))) (.ff (.ff (.ff (.tt (.br (.tt (.tt (.tt (.tt (.tt (.ff (.tt (.tt (.tt (.ff (.tt (.tt (.tt (.tt (.ff (.ff (.ff (.ff (.ff (.ff (.ff (.ff (.ff (.ff (.ff (.ff (.ff .leaf))))))))))))))))))))))))))) (.ff .leaf)))))))))) (.ff (.ff (.ff (.ff (.ff (.ff (.ff (.tt (.br (.tt (.tt (.tt (.tt (.tt (.ff (.tt (.tt (.tt (.ff (.tt (.tt (.tt (.tt (.ff (.ff (.ff (.ff (.ff (.ff (.ff (.ff (.ff (.ff (.ff (.ff (.ff .leaf))))))))))))))))))))))))))) (.ff .leaf))))))))))))))))))))))))))))))))))) = T.br (y != y) (T.br (!x != x) (T.ret ⟨SV.tup [], [(0, Ob.cells [I y, I x])], 1, false, []⟩) (T.br (decide (y < x)) (T.ret ⟨SV.tup [], [(0, Ob.cells [I y, I x])], 1, false, []⟩) (T.ret ⟨SV.tup [], [(0, Ob.cells [I x, I y])], 1, false, []⟩))) (T.br (decide (y < x)) (T.ret ⟨SV.tup [], [(0, Ob.cells [I y, I x])], 1, false, []⟩) (T.ret ⟨SV.tup [], [(0, Ob.cells [I x, I y])], 1, false, []⟩)) := by kernel_rfl
theorem tree_Nx0 (me : Int) (nl : Bool) (x : Nat → Int) : (tgt_Nx0 me nl x).over (.br (.ff (.tt (.tt .leaf))) (.tt (.ff (.tt (.tt .leaf))))) = T.br nl (T.ret (out0 (SV.v (AV.one Nil)))) (T.ret (out0 (SV.v (AV.one Nil)))) := by kernel_rfl
theorem res_S2 (x y : Int) : (tgt_S2 x y).res = some ⟨.tup [], [(0, .cells [I (min x y), I (max x y)])], 1, false, []⟩ := by
  refine T.over_eq _ (tree_S2 x y) ?_
  by_cases h : y < x
  · have e1 : min x y = y := by omega
    have e2 : max x y = x := by omega
    simp [T.res_br, T.res_ret, h, e1, e2]
  · have e1 : min x y = x := by omega
    have e2 : max x y = y := by omega
    simp [T.res_br, T.res_ret, h, e1, e2]

noncomputable def F_S2 : SumF
  | [.one (.sl false 0 0 0 0 2 2 true 1)], [(0, .cells [.f (.lit (.int .i64 x)), .f (.lit (.int .i64 y))])], 1 => .ret (⟨.tup [], [(0, .cells [I (min x y), I (max x y)])], 1, false, [0]⟩)
  | _, _, _ => .bad
theorem sum_S2 : SumOk Try.prog 28 F_S2 := by
  refine ⟨fun args H nx r hr => ?_, fun args H nx => ?_⟩
  · unfold F_S2 at hr
    split at hr
    · rename_i x y
      have := T.ret_some hr
      subst this
      exact by have h9 := evCallW_ok GORD1 GKRD1 (res_S2 x y); exact h9
    · exact (T.bad_some hr).elim
  · unfold F_S2
    split
    · exact ⟨by first | exact Nat.le_refl _ | (dsimp only; omega), fun b hb hw => by
        have : b = 0 := by omega
        subst this <;> first | rfl | exact absurd (by dsimp only; decide) hw⟩
    · trivial
noncomputable def sm_S2 : SumF := canonSum F_S2
theorem sm_S2_ok : SumOk Try.prog 28 sm_S2 := canonSum_ok sum_S2
noncomputable def ss_S2 : List (Nat × SumF) := (28, sm_S2) :: ss_Table
theorem ss_S2_ok : ∀ x ∈ ss_S2, SumOk Try.prog x.1 x.2 := List.forall_mem_cons.2 ⟨sm_S2_ok, ss_Table_ok⟩
noncomputable def F_SortR : SumF
  | [.one (.sl false 0 1 0 0 n cap ex 1)], [(0, .arr true 1 N e)], 1 => .need (pb (IntE e ∧ n ≤ N ∧ (n : Int) < 4611686018427387904)) (.ret (⟨.tup [], [(0, .arr true 1 N (intE (sortI (intOf e) n)))], 1, false, [0]⟩))
  | _, _, _ => .bad
theorem sum_SortR : SumOk Try.prog 28 F_SortR := by
  refine ⟨fun args H nx r hr => ?_, fun args H nx => ?_⟩
  · unfold F_SortR at hr
    split at hr
    · rename_i n cap ex N e
      obtain ⟨h0, hr⟩ := T.need_some hr
      have := T.ret_some hr
      subst this
      have h := pb_of h0
      obtain ⟨⟨x, rfl⟩, h1⟩ := h
      exact to_Sort n N cap ex x h1
    · exact (T.bad_some hr).elim
  · unfold F_SortR
    split
    · exact T.Every.need ⟨by first | exact Nat.le_refl _ | (dsimp only; omega), fun b hb hw => by
        have : b = 0 := by omega
        subst this <;> first | rfl | exact absurd (by dsimp only; decide) hw⟩
    · trivial
noncomputable def sm_SortR : SumF := orSum sm_S2 (canonSum F_SortR)
theorem sm_SortR_ok : SumOk Try.prog 28 sm_SortR := orSum_ok sm_S2_ok (canonSum_ok sum_SortR)
noncomputable def ss_SortR : List (Nat × SumF) := (28, sm_SortR) :: ss_S2
theorem ss_SortR_ok : ∀ x ∈ ss_SortR, SumOk Try.prog x.1 x.2 := List.forall_mem_cons.2 ⟨sm_SortR_ok, ss_S2_ok⟩
noncomputable def F_BS : SumF
  | [.one (.sl false 0 1 0 0 n cap ex 1), .one (.f (.lit (.int .i64 t)))], [(0, .arr true 1 N e)], 1 => .need (pb (IntE e ∧ n ≤ N ∧ (n : Int) < 4611686018427387904 ∧ SortedL (intOf e) n)) (.ret (⟨.tup [AI (belowI (intOf e) n t : Nat), AB ((rowL (intOf e) 0 n).contains t)], [(0, .arr true 1 N e)], 1, false, []⟩))
  | _, _, _ => .bad
theorem sum_BS : SumOk Try.prog 29 F_BS := by
  refine ⟨fun args H nx r hr => ?_, fun args H nx => ?_⟩
  · unfold F_BS at hr
    split at hr
    · rename_i n cap ex t N e
      obtain ⟨h0, hr⟩ := T.need_some hr
      have := T.ret_some hr
      subst this
      have h := pb_of h0
      obtain ⟨⟨x, rfl⟩, h1⟩ := h
      exact to_BS n N cap ex x t h1
    · exact (T.bad_some hr).elim
  · unfold F_BS
    split
    · exact T.Every.need ⟨by first | exact Nat.le_refl _ | (dsimp only; omega), fun b hb hw => by
        have : b = 0 := by omega
        subst this <;> first | rfl | exact absurd (by dsimp only; decide) hw⟩
    · trivial
noncomputable def sm_BS : SumF := canonSum F_BS
theorem sm_BS_ok : SumOk Try.prog 29 sm_BS := canonSum_ok sum_BS
noncomputable def ss_BS : List (Nat × SumF) := (29, sm_BS) :: ss_SortR
theorem ss_BS_ok : ∀ x ∈ ss_BS, SumOk Try.prog x.1 x.2 := List.forall_mem_cons.2 ⟨sm_BS_ok, ss_SortR_ok⟩
noncomputable def F_Del : SumF
  | [.one (.sl false 0 1 0 0 n cap false 1), .one (.fn g [(1, 0, 0, 0)])], [(0, .arr true 1 N e), (1, .cells [.f (.lit (.int .i64 me))])], 2 => .need (pb (IntE e ∧ g = 27 ∧ n ≤ N ∧ n ≤ cap ∧ (n : Int) ≤ 9223372036854775807)) (.ret (⟨.v (.one (.sl false 0 1 0 0 (delI me (intOf e) n).1 cap false 1)), [(0, .arr true 1 N (intE (delI me (intOf e) n).2)), (1, .cells [I me])], 2, false, [0]⟩))
  | _, _, _ => .bad
theorem sum_Del : SumOk Try.prog 25 F_Del := by
  refine ⟨fun args H nx r hr => ?_, fun args H nx => ?_⟩
  · unfold F_Del at hr
    split at hr
    · rename_i n cap g N e me
      obtain ⟨h0, hr⟩ := T.need_some hr
      have := T.ret_some hr
      subst this
      have h := pb_of h0
      obtain ⟨⟨x, rfl⟩, rfl, h1⟩ := h
      exact by have h9 := evCallW_ok GORC4 GKRC4 (res_Del n N cap x me h1); exact h9
    · exact (T.bad_some hr).elim
  · unfold F_Del
    split
    · exact T.Every.need ⟨by first | exact Nat.le_refl _ | (dsimp only; omega), fun b hb hw => by
        have : b = 0 ∨ b = 1 := by omega
        rcases this with rfl | rfl <;> first | rfl | exact absurd (by dsimp only; decide) hw⟩
    · trivial
noncomputable def sm_Del : SumF := canonSum F_Del
theorem sm_Del_ok : SumOk Try.prog 25 sm_Del := canonSum_ok sum_Del
noncomputable def ss_Del : List (Nat × SumF) := (25, sm_Del) :: ss_BS
theorem ss_Del_ok : ∀ x ∈ ss_Del, SumOk Try.prog x.1 x.2 := List.forall_mem_cons.2 ⟨sm_Del_ok, ss_BS_ok⟩
theorem res_Clone (n : Nat) (x : Nat → Int) (h : 1 ≤ n ∧ n ≤ 1048576) : (tgt_Clone false n x).res = some ⟨.v (.one (.sl false 1 1 0 0 n n false 1)), [(1, .arr true 1 n (intE x)), (0, .cells [])], 2, false, []⟩ := by
  refine T.over_eq _ (tree_Clone false n x) ?_
  have e1 : Nat.beq n 0 = false := beq_ff (by omega)
  have e2 : Nat.ble n 0 = false := ble_false (by omega)
  have e3 : smallB n 8 = true := smallB_le (by omega) (by omega)
  simp only [T.res_br, T.res_ret, T.res_bad, e1, e2, e3, Bool.false_eq_true, reduceIte, Nat.zero_add, Nat.sub_zero]

noncomputable def F_Clone : SumF
  | [.one (.f (.fs nl 1 n e))], [], 0 => .need (pb (IntE e ∧ nl = false ∧ 1 ≤ n ∧ n ≤ 1048576)) (.ret (⟨.v (.one (.sl false 1 1 0 0 n n false 1)), [(1, .arr true 1 n (intE (intOf e))), (0, .cells [])], 2, false, []⟩))
  | _, _, _ => .bad
theorem sum_Clone : SumOk Try.prog 26 F_Clone := by
  refine ⟨fun args H nx r hr => ?_, fun args H nx => ?_⟩
  · unfold F_Clone at hr
    split at hr
    · rename_i nl n e
      obtain ⟨h0, hr⟩ := T.need_some hr
      have := T.ret_some hr
      subst this
      have h := pb_of h0
      obtain ⟨⟨x, rfl⟩, rfl, h1⟩ := h
      exact evCallW_ok GORC5 GKRC5 (res_Clone n x h1)
    · exact (T.bad_some hr).elim
  · unfold F_Clone
    split
    · exact T.Every.need ⟨Nat.zero_le _, fun b hb hw => absurd hb (Nat.not_lt_zero b)⟩
    · trivial
noncomputable def sm_Clone : SumF := canonSum F_Clone
theorem sm_Clone_ok : SumOk Try.prog 26 sm_Clone := canonSum_ok sum_Clone
noncomputable def ss_Clone : List (Nat × SumF) := (26, sm_Clone) :: ss_Del
theorem ss_Clone_ok : ∀ x ∈ ss_Clone, SumOk Try.prog x.1 x.2 := List.forall_mem_cons.2 ⟨sm_Clone_ok, ss_Del_ok⟩
noncomputable def GRD2 : Ctx := GS.with ss_Clone ll_tb
noncomputable def tgt_Nx (me : Int) (nl : Bool) (n : Nat) (x : Nat → Int) : T CallOut := evCallW [] GRD2 300 14 [AI me, .one (.f (.fs nl 1 n (intE x)))] [] 0
theorem GKRD2 : KnownOk Try.prog GRD2 := KnownOk.lists ss_Clone_ok ll_tb_ok
theorem GORD2 : CtxOk Try.prog GRD2 := GS_ok.with _ _
theorem tree_Nx (me : Int) (nl : Bool) (n : Nat) (x : Nat → Int) : (tgt_Nx me nl n x).over (.br (.br (.br .leaf (.br (.br (.br .skip (.tt (.br (.tt (.br (.br .skip (.tt (.br (.tt (.br (.ff (.tt (.tt (.tt (.ff (.tt (.tt (.tt (.tt (.br (.tt (.ff (.tt (.ff (.ff (.tt (.ff (.tt (.ff (.tt (.tt (.ff (.tt (.ff (.tt (.tt (.ff (.tt .leaf)))))))))))))))))) (.ff (.tt (.tt (.ff (.tt .leaf))))))))))))))) .skip)) .skip))) .skip)) .skip))) .skip) .skip)) .skip) .skip) = T.br (pb (IntE (intE x) ∧ nl = false ∧ 1 ≤ n ∧ n ≤ 1048576)) (T.br (pb (IntE (intE x) ∧ 27 = 27 ∧ n ≤ n ∧ n ≤ n ∧ (↑n : Int) ≤ (9223372036854775807 : Int))) (T.br ((↑(Prod.fst (delI me x n)) : Int) == (0 : Int)) (T.ret (out0 (SV.v (AV.one Nil)))) (T.br (pb (IntE (intE (Prod.snd (delI me x n))) ∧ Prod.fst (delI me x n) ≤ n ∧ (↑(Prod.fst (delI me x n)) : Int) < (4611686018427387904 : Int))) (T.br (pb (IntE (intE (sortI (Prod.snd (delI me x n)) (Prod.fst (delI me x n)))) ∧ Prod.fst (delI me x n) ≤ n ∧ (↑(Prod.fst (delI me x n)) : Int) < (4611686018427387904 : Int) ∧ SortedL (sortI (Prod.snd (delI me x n)) (Prod.fst (delI me x n))) (Prod.fst (delI me x n)))) (T.br (decide ((↑(Prod.fst (delI me x n)) : Int) = (0 : Int))) T.bad (T.br (decide ((0 : Int) ≤ Int.tmod (↑(belowI (sortI (Prod.snd (delI me x n)) (Prod.fst (delI me x n))) (Prod.fst (delI me x n)) me) : Int) (↑(Prod.fst (delI me x n)) : Int) ∧ Int.tmod (↑(belowI (sortI (Prod.snd (delI me x n)) (Prod.fst (delI me x n))) (Prod.fst (delI me x n)) me) : Int) (↑(Prod.fst (delI me x n)) : Int) < (↑(Prod.fst (delI me x n)) : Int))) (T.br (Nat.ble (0 + Int.toNat (Int.tmod (↑(belowI (sortI (Prod.snd (delI me x n)) (Prod.fst (delI me x n))) (Prod.fst (delI me x n)) me) : Int) (↑(Prod.fst (delI me x n)) : Int)) + 1) n) (T.br (decide ((↑(Prod.fst (delI me x n)) : Int) = (0 : Int))) T.bad (T.br (decide ((0 : Int) ≤ Int.tmod (IntKind.wrap IntKind.i64 (IntKind.wrap IntKind.i64 ((↑(belowI (sortI (Prod.snd (delI me x n)) (Prod.fst (delI me x n))) (Prod.fst (delI me x n)) me) : Int) + (↑(Prod.fst (delI me x n)) : Int)) - (1 : Int))) (↑(Prod.fst (delI me x n)) : Int) ∧ Int.tmod (IntKind.wrap IntKind.i64 (IntKind.wrap IntKind.i64 ((↑(belowI (sortI (Prod.snd (delI me x n)) (Prod.fst (delI me x n))) (Prod.fst (delI me x n)) me) : Int) + (↑(Prod.fst (delI me x n)) : Int)) - (1 : Int))) (↑(Prod.fst (delI me x n)) : Int) < (↑(Prod.fst (delI me x n)) : Int))) (T.br (Nat.ble (0 + Int.toNat (Int.tmod (IntKind.wrap IntKind.i64 (IntKind.wrap IntKind.i64 ((↑(belowI (sortI (Prod.snd (delI me x n)) (Prod.fst (delI me x n))) (Prod.fst (delI me x n)) me) : Int) + (↑(Prod.fst (delI me x n)) : Int)) - (1 : Int))) (↑(Prod.fst (delI me x n)) : Int)) + 1) n) (T.br (max (sortI (Prod.snd (delI me x n)) (Prod.fst (delI me x n)) (0 + Int.toNat (Int.tmod (↑(belowI (sortI (Prod.snd (delI me x n)) (Prod.fst (delI me x n))) (Prod.fst (delI me x n)) me) : Int) (↑(Prod.fst (delI me x n)) : Int)))) (sortI (Prod.snd (delI me x n)) (Prod.fst (delI me x n)) (0 + Int.toNat (Int.tmod (IntKind.wrap IntKind.i64 (IntKind.wrap IntKind.i64 ((↑(belowI (sortI (Prod.snd (delI me x n)) (Prod.fst (delI me x n))) (Prod.fst (delI me x n)) me) : Int) + (↑(Prod.fst (delI me x n)) : Int)) - (1 : Int))) (↑(Prod.fst (delI me x n)) : Int)))) == min (sortI (Prod.snd (delI me x n)) (Prod.fst (delI me x n)) (0 + Int.toNat (Int.tmod (↑(belowI (sortI (Prod.snd (delI me x n)) (Prod.fst (delI me x n))) (Prod.fst (delI me x n)) me) : Int) (↑(Prod.fst (delI me x n)) : Int)))) (sortI (Prod.snd (delI me x n)) (Prod.fst (delI me x n)) (0 + Int.toNat (Int.tmod (IntKind.wrap IntKind.i64 (IntKind.wrap IntKind.i64 ((↑(belowI (sortI (Prod.snd (delI me x n)) (Prod.fst (delI me x n))) (Prod.fst (delI me x n)) me) : Int) + (↑(Prod.fst (delI me x n)) : Int)) - (1 : Int))) (↑(Prod.fst (delI me x n)) : Int))))) (T.ret ⟨SV.v (AV.one (CV.sl false 3 0 0 0 1 1 true 1)), [(3, Ob.cells [I (min (sortI (Prod.snd (delI me x n)) (Prod.fst (delI me x n)) (0 + Int.toNat (Int.tmod (↑(belowI (sortI (Prod.snd (delI me x n)) (Prod.fst (delI me x n))) (Prod.fst (delI me x n)) me) : Int) (↑(Prod.fst (delI me x n)) : Int)))) (sortI (Prod.snd (delI me x n)) (Prod.fst (delI me x n)) (0 + Int.toNat (Int.tmod (IntKind.wrap IntKind.i64 (IntKind.wrap IntKind.i64 ((↑(belowI (sortI (Prod.snd (delI me x n)) (Prod.fst (delI me x n))) (Prod.fst (delI me x n)) me) : Int) + (↑(Prod.fst (delI me x n)) : Int)) - (1 : Int))) (↑(Prod.fst (delI me x n)) : Int))))), I (0 : Int)]), (2, Ob.arr true 1 n fun a => [FV.lit (.int .i64 (sortI (Prod.snd (delI me x n)) (Prod.fst (delI me x n)) a))]), (0, Ob.cells [I me]), (1, Ob.cells [])], 4, false, []⟩) (T.ret ⟨SV.v (AV.one (CV.sl false 3 0 0 0 2 2 true 1)), [(3, Ob.cells [I (min (sortI (Prod.snd (delI me x n)) (Prod.fst (delI me x n)) (0 + Int.toNat (Int.tmod (↑(belowI (sortI (Prod.snd (delI me x n)) (Prod.fst (delI me x n))) (Prod.fst (delI me x n)) me) : Int) (↑(Prod.fst (delI me x n)) : Int)))) (sortI (Prod.snd (delI me x n)) (Prod.fst (delI me x n)) (0 + Int.toNat (Int.tmod (IntKind.wrap IntKind.i64 (IntKind.wrap IntKind.i64 ((↑(belowI (sortI (Prod.snd (delI me x n)) (Prod.fst (delI me x n))) (Prod.fst (delI me x n)) me) : Int) + (↑(Prod.fst (delI me x n)) : Int)) - (1 : Int))) (↑(Prod.fst (delI me x n)) : Int))))), I (max (sortI (Prod.snd (delI me x n)) (Prod.fst (delI me x n)) (0 + Int.toNat (Int.tmod (↑(belowI (sortI (Prod.snd (delI me x n)) (Prod.fst (delI me x n))) (Prod.fst (delI me x n)) me) : Int) (↑(Prod.fst (delI me x n)) : Int)))) (sortI (Prod.snd (delI me x n)) (Prod.fst (delI me x n)) (0 + Int.toNat (Int.tmod (IntKind.wrap IntKind.i64 (IntKind.wrap IntKind.i64 ((↑(belowI (sortI (Prod.snd (delI me x n)) (Prod.fst (delI me x n))) (Prod.fst (delI me x n)) me) : Int) + (↑(Prod.fst (delI me x n)) : Int)) - (1 : Int))) (↑(Prod.fst (delI me x n)) : Int)))))]), (2, Ob.arr true 1 n fun a => [FV.lit (.int .i64 (sortI (Prod.snd (delI me x n)) (Prod.fst (delI me x n)) a))]), (0, Ob.cells [I me]), (1, Ob.cells [])], 4, false, []⟩)) T.bad) T.bad)) T.bad) T.bad)) T.bad) T.bad)) T.bad) T.bad := by kernel_rfl
theorem rowL_putL (x : Nat → Int) (l : List Int) : rowL (putL x 0 l) 0 l.length = l := by
  apply List.ext_getElem
  · rw [rowL_length]
  · intro i h1 h2
    simp [rowL, putL, h2]
theorem sortI_ok (x : Nat → Int) (n : Nat) : rowL (sortI x n) 0 n = (rowL x 0 n).mergeSort fun x y => decide (x ≤ y) := by
  have := rowL_putL x ((rowL x 0 n).mergeSort fun x y => decide (x ≤ y))
  rwa [List.length_mergeSort, rowL_length] at this
theorem sortI_sorted (x : Nat → Int) (n : Nat) : SortedL (sortI x n) n := by
  unfold SortedL
  rw [sortI_ok]
  have := List.pairwise_mergeSort (le := fun x y : Int => decide (x ≤ y)) (fun a b c h1 h2 => by simp at *; omega) (fun a b => by simp; omega) (rowL x 0 n)
  exact this.imp fun h => by simpa using h
def nxD (me : Int) (x : Nat → Int) (n : Nat) : Nat := (delI me x n).1
def nxS (me : Int) (x : Nat → Int) (n : Nat) : Nat → Int := sortI (delI me x n).2 (nxD me x n)
def nxK (me : Int) (x : Nat → Int) (n : Nat) : Nat := belowI (nxS me x n) (nxD me x n) me
def nxB (me : Int) (x : Nat → Int) (n : Nat) : Int := nxS me x n (nxK me x n % nxD me x n)
def nxA (me : Int) (x : Nat → Int) (n : Nat) : Int := nxS me x n ((nxK me x n + nxD me x n - 1) % nxD me x n)
def nxR (me : Int) (x : Nat → Int) (n : Nat) : CallOut := if nxD me x n = 0 then out0 (.v (.one Nil)) else if max (nxB me x n) (nxA me x n) = min (nxB me x n) (nxA me x n) then ⟨.v (.one (.sl false 3 0 0 0 1 1 true 1)), [(3, .cells [I (min (nxB me x n) (nxA me x n)), I 0]), (2, .arr true 1 n (intE (nxS me x n))), (0, .cells [I me]), (1, .cells [])], 4, false, []⟩
  else ⟨.v (.one (.sl false 3 0 0 0 2 2 true 1)), [(3, .cells [I (min (nxB me x n) (nxA me x n)), I (max (nxB me x n) (nxA me x n))]), (2, .arr true 1 n (intE (nxS me x n))), (0, .cells [I me]), (1, .cells [])], 4, false, []⟩
theorem belowI_le (x : Nat → Int) (n : Nat) (t : Int) : belowI x n t ≤ n := by
  have := List.countP_le_length (p := fun y : Int => decide (y < t)) (l := rowL x 0 n)
  rwa [rowL_length] at this
theorem res_Nx (me : Int) (n : Nat) (x : Nat → Int) (h : 1 ≤ n ∧ n ≤ 1048576) : (tgt_Nx me false n x).res = some (nxR me x n) := by
  refine T.over_eq _ (tree_Nx me false n x) ?_
  obtain ⟨h1, h2⟩ := h
  have hd : nxD me x n = (delI me x n).1 := rfl
  have hs : nxS me x n = sortI (delI me x n).2 (nxD me x n) := rfl
  have hk : nxK me x n = belowI (nxS me x n) (nxD me x n) me := rfl
  have hso : SortedL (nxS me x n) (nxD me x n) := sortI_sorted _ _
  have hb : nxB me x n = nxS me x n (nxK me x n % nxD me x n) := rfl
  have ha : nxA me x n = nxS me x n ((nxK me x n + nxD me x n - 1) % nxD me x n) := rfl
  have d1 : nxD me x n ≤ n := (delI_ok me x n).1
  have d2 : nxK me x n ≤ nxD me x n := belowI_le _ _ _
  have f1 : (n : Int) ≤ 9223372036854775807 := by omega
  simp only [T.res_br, T.res_ret, T.res_bad, ← hd, ← hs, ← hk, IntE_ok, h1, h2, f1, eq_self, Nat.le_refl, and_self, pb_tt, reduceIte]
  unfold nxR
  by_cases h0 : nxD me x n = 0
  · simp only [h0, reduceIte]
    rfl
  · have m1 : nxK me x n % nxD me x n < nxD me x n := Nat.mod_lt _ (by omega)
    have m2 : (nxK me x n + nxD me x n - 1) % nxD me x n < nxD me x n := Nat.mod_lt _ (by omega)
    have e1 : (((nxD me x n : Nat) : Int) == 0) = false := by simpa using h0
    have e2 : ¬ (((nxD me x n : Nat) : Int) = 0) := by omega
    have e3 : ((nxD me x n : Nat) : Int) < 4611686018427387904 := by omega
    have t1 : Int.tmod (nxK me x n : Int) (nxD me x n : Int) = ((nxK me x n % nxD me x n : Nat) : Int) := by rw [Int.tmod_eq_emod_of_nonneg (by omega)]; rfl
    have w1 : IntKind.wrap IntKind.i64 ((nxK me x n : Int) + (nxD me x n : Int)) = ((nxK me x n + nxD me x n : Nat) : Int) := by rw [wrapI (by omega)]; omega
    have w2 : IntKind.wrap IntKind.i64 (((nxK me x n + nxD me x n : Nat) : Int) - 1) = ((nxK me x n + nxD me x n - 1 : Nat) : Int) := by rw [wrapI (by omega)]; omega
    have t2 : Int.tmod ((nxK me x n + nxD me x n - 1 : Nat) : Int) (nxD me x n : Int) = (((nxK me x n + nxD me x n - 1) % nxD me x n : Nat) : Int) := by rw [Int.tmod_eq_emod_of_nonneg (by omega)]; rfl
    have g1 : (0 : Int) ≤ ((nxK me x n % nxD me x n : Nat) : Int) ∧ ((nxK me x n % nxD me x n : Nat) : Int) < (nxD me x n : Int) := by omega
    have g2 : (0 : Int) ≤ (((nxK me x n + nxD me x n - 1) % nxD me x n : Nat) : Int) ∧ (((nxK me x n + nxD me x n - 1) % nxD me x n : Nat) : Int) < (nxD me x n : Int) := by omega
    have b1 : Nat.ble (nxK me x n % nxD me x n + 1) n = true := ble_tt (by omega)
    have b2 : Nat.ble ((nxK me x n + nxD me x n - 1) % nxD me x n + 1) n = true := ble_tt (by omega)
    simp only [e1, e2, e3, t1, w1, w2, t2, decide_eq_true g1, decide_eq_true g2, Int.toNat_natCast, Nat.zero_add, b1, b2, d1, hso, h0, ← ha, ← hb, decide_false, and_self, pb_tt, Bool.false_eq_true, beq_iff_eq, if_false, if_true]
    split <;> rfl

noncomputable def GRD3 : Ctx := GS.with ss_Clone ll_tb
noncomputable def tgt_Nz (me : Int) (nl : Bool) (n : Nat) (x : Nat → Int) : T CallOut := evCallZ [] GRD3 300 14 [AI me, .one (.f (.fs nl 1 n (intE x)))] [] 0
theorem GKRD3 : KnownOk Try.prog GRD3 := KnownOk.lists ss_Clone_ok ll_tb_ok
theorem GORD3 : CtxOk Try.prog GRD3 := GS_ok.with _ _
theorem tree_Nz (me : Int) (nl : Bool) (n : Nat) (x : Nat → Int) : (tgt_Nz me nl n x).over (.br (.br (.br .leaf (.br (.br (.br .skip (.tt (.br (.tt (.br (.br .skip (.tt (.br (.tt (.br (.ff (.tt (.tt (.tt (.ff (.tt (.tt (.tt (.tt (.br (.tt (.ff (.tt (.ff (.ff (.tt (.ff (.tt (.ff (.tt (.tt (.ff (.tt (.ff (.tt (.tt (.ff (.tt .leaf)))))))))))))))))) (.ff (.tt (.tt (.ff (.tt .leaf))))))))))))))) .skip)) .skip))) .skip)) .skip))) .skip) .skip)) .skip) .skip) = T.br (pb (IntE (intE x) ∧ nl = false ∧ 1 ≤ n ∧ n ≤ 1048576)) (T.br (pb (IntE (intE x) ∧ 27 = 27 ∧ n ≤ n ∧ n ≤ n ∧ (↑n : Int) ≤ (9223372036854775807 : Int))) (T.br ((↑(Prod.fst (delI me x n)) : Int) == (0 : Int)) (T.ret (out0 (SV.v (AV.one Nil)))) (T.br (pb (IntE (intE (Prod.snd (delI me x n))) ∧ Prod.fst (delI me x n) ≤ n ∧ (↑(Prod.fst (delI me x n)) : Int) < (4611686018427387904 : Int))) (T.br (pb (IntE (intE (sortI (Prod.snd (delI me x n)) (Prod.fst (delI me x n)))) ∧ Prod.fst (delI me x n) ≤ n ∧ (↑(Prod.fst (delI me x n)) : Int) < (4611686018427387904 : Int) ∧ SortedL (sortI (Prod.snd (delI me x n)) (Prod.fst (delI me x n))) (Prod.fst (delI me x n)))) (T.br (decide ((↑(Prod.fst (delI me x n)) : Int) = (0 : Int))) T.bad (T.br (decide ((0 : Int) ≤ Int.tmod (↑(belowI (sortI (Prod.snd (delI me x n)) (Prod.fst (delI me x n))) (Prod.fst (delI me x n)) me) : Int) (↑(Prod.fst (delI me x n)) : Int) ∧ Int.tmod (↑(belowI (sortI (Prod.snd (delI me x n)) (Prod.fst (delI me x n))) (Prod.fst (delI me x n)) me) : Int) (↑(Prod.fst (delI me x n)) : Int) < (↑(Prod.fst (delI me x n)) : Int))) (T.br (Nat.ble (0 + Int.toNat (Int.tmod (↑(belowI (sortI (Prod.snd (delI me x n)) (Prod.fst (delI me x n))) (Prod.fst (delI me x n)) me) : Int) (↑(Prod.fst (delI me x n)) : Int)) + 1) n) (T.br (decide ((↑(Prod.fst (delI me x n)) : Int) = (0 : Int))) T.bad (T.br (decide ((0 : Int) ≤ Int.tmod (IntKind.wrap IntKind.i64 (IntKind.wrap IntKind.i64 ((↑(belowI (sortI (Prod.snd (delI me x n)) (Prod.fst (delI me x n))) (Prod.fst (delI me x n)) me) : Int) + (↑(Prod.fst (delI me x n)) : Int)) - (1 : Int))) (↑(Prod.fst (delI me x n)) : Int) ∧ Int.tmod (IntKind.wrap IntKind.i64 (IntKind.wrap IntKind.i64 ((↑(belowI (sortI (Prod.snd (delI me x n)) (Prod.fst (delI me x n))) (Prod.fst (delI me x n)) me) : Int) + (↑(Prod.fst (delI me x n)) : Int)) - (1 : Int))) (↑(Prod.fst (delI me x n)) : Int) < (↑(Prod.fst (delI me x n)) : Int))) (T.br (Nat.ble (0 + Int.toNat (Int.tmod (IntKind.wrap IntKind.i64 (IntKind.wrap IntKind.i64 ((↑(belowI (sortI (Prod.snd (delI me x n)) (Prod.fst (delI me x n))) (Prod.fst (delI me x n)) me) : Int) + (↑(Prod.fst (delI me x n)) : Int)) - (1 : Int))) (↑(Prod.fst (delI me x n)) : Int)) + 1) n) (T.br (max (sortI (Prod.snd (delI me x n)) (Prod.fst (delI me x n)) (0 + Int.toNat (Int.tmod (↑(belowI (sortI (Prod.snd (delI me x n)) (Prod.fst (delI me x n))) (Prod.fst (delI me x n)) me) : Int) (↑(Prod.fst (delI me x n)) : Int)))) (sortI (Prod.snd (delI me x n)) (Prod.fst (delI me x n)) (0 + Int.toNat (Int.tmod (IntKind.wrap IntKind.i64 (IntKind.wrap IntKind.i64 ((↑(belowI (sortI (Prod.snd (delI me x n)) (Prod.fst (delI me x n))) (Prod.fst (delI me x n)) me) : Int) + (↑(Prod.fst (delI me x n)) : Int)) - (1 : Int))) (↑(Prod.fst (delI me x n)) : Int)))) == min (sortI (Prod.snd (delI me x n)) (Prod.fst (delI me x n)) (0 + Int.toNat (Int.tmod (↑(belowI (sortI (Prod.snd (delI me x n)) (Prod.fst (delI me x n))) (Prod.fst (delI me x n)) me) : Int) (↑(Prod.fst (delI me x n)) : Int)))) (sortI (Prod.snd (delI me x n)) (Prod.fst (delI me x n)) (0 + Int.toNat (Int.tmod (IntKind.wrap IntKind.i64 (IntKind.wrap IntKind.i64 ((↑(belowI (sortI (Prod.snd (delI me x n)) (Prod.fst (delI me x n))) (Prod.fst (delI me x n)) me) : Int) + (↑(Prod.fst (delI me x n)) : Int)) - (1 : Int))) (↑(Prod.fst (delI me x n)) : Int))))) (T.ret (out0 (SV.v (AV.one (CV.f (FV.fs false 1 1 fun a => [FV.lit (.int .i64 (min (sortI (Prod.snd (delI me x n)) (Prod.fst (delI me x n)) (0 + Int.toNat (Int.tmod (↑(belowI (sortI (Prod.snd (delI me x n)) (Prod.fst (delI me x n))) (Prod.fst (delI me x n)) me) : Int) (↑(Prod.fst (delI me x n)) : Int)))) (sortI (Prod.snd (delI me x n)) (Prod.fst (delI me x n)) (0 + Int.toNat (Int.tmod (IntKind.wrap IntKind.i64 (IntKind.wrap IntKind.i64 ((↑(belowI (sortI (Prod.snd (delI me x n)) (Prod.fst (delI me x n))) (Prod.fst (delI me x n)) me) : Int) + (↑(Prod.fst (delI me x n)) : Int)) - (1 : Int))) (↑(Prod.fst (delI me x n)) : Int))))))])))))) (T.ret (out0 (SV.v (AV.one (CV.f (FV.fs false 1 2 fun a => [FV.lit (.int .i64 (bif Nat.beq a 0 then min (sortI (Prod.snd (delI me x n)) (Prod.fst (delI me x n)) (0 + Int.toNat (Int.tmod (↑(belowI (sortI (Prod.snd (delI me x n)) (Prod.fst (delI me x n))) (Prod.fst (delI me x n)) me) : Int) (↑(Prod.fst (delI me x n)) : Int)))) (sortI (Prod.snd (delI me x n)) (Prod.fst (delI me x n)) (0 + Int.toNat (Int.tmod (IntKind.wrap IntKind.i64 (IntKind.wrap IntKind.i64 ((↑(belowI (sortI (Prod.snd (delI me x n)) (Prod.fst (delI me x n))) (Prod.fst (delI me x n)) me) : Int) + (↑(Prod.fst (delI me x n)) : Int)) - (1 : Int))) (↑(Prod.fst (delI me x n)) : Int)))) else max (sortI (Prod.snd (delI me x n)) (Prod.fst (delI me x n)) (0 + Int.toNat (Int.tmod (↑(belowI (sortI (Prod.snd (delI me x n)) (Prod.fst (delI me x n))) (Prod.fst (delI me x n)) me) : Int) (↑(Prod.fst (delI me x n)) : Int)))) (sortI (Prod.snd (delI me x n)) (Prod.fst (delI me x n)) (0 + Int.toNat (Int.tmod (IntKind.wrap IntKind.i64 (IntKind.wrap IntKind.i64 ((↑(belowI (sortI (Prod.snd (delI me x n)) (Prod.fst (delI me x n))) (Prod.fst (delI me x n)) me) : Int) + (↑(Prod.fst (delI me x n)) : Int)) - (1 : Int))) (↑(Prod.fst (delI me x n)) : Int))))))]))))))) T.bad) T.bad)) T.bad) T.bad)) T.bad) T.bad)) T.bad) T.bad := by kernel_rfl
end Go.Proofs.Ytggneleipimijaa.En
