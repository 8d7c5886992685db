/- Texts put together: RC. -/
import Derived.Test.YtbobakclbdaepaaGreatG16
/- Rows of numbers: Clone, IndexFunc, DeleteFunc. -/
namespace Go.Proofs.YtbobakclbdaepaaGreat.En
open Go
set_option linter.unusedVariables false
set_option linter.unusedSimpArgs false
set_option maxRecDepth 20000
set_option maxHeartbeats 1000000
/-- where the first one is that is me; -1: there is none -/
def idxF (me : Int) (x : Nat → Int) : Nat → Nat → Int
  | 0, _ => -1
  | c + 1, i => match x i == me with | true => (i : Int) | false => idxF me x c (i + 1)
def S_ix (n N cap : Nat) (ex : Bool) (x : Nat → Int) (me : Int) (i : Nat) (a : Unit) : St :=
  ⟨[(6, .v (.one (.sl false 0 1 0 0 n cap ex 1))), (7, .v (AI n)), (8, .v (AI i)), (0, .v (.one (.sl false 0 1 0 0 n cap ex 1))), (1, .v (.one (.fn 93 [(1, 0, 0, 0)])))], [(0, .arr true 1 N (intE x)), (1, .cells [I me])], 2, false, 0, []⟩
def S_dl (n N cap : Nat) (ex : Bool) (me : Int) (j : Nat) (a : Nat × (Nat → Int)) : St :=
  ⟨[(0, .v (.one (.sl false 0 1 0 0 n cap ex 1))), (1, .v (.one (.fn 93 [(1, 0, 0, 0)]))), (5, .v (AI a.1)), (6, .v (AI j))], [(0, .arr true 1 N (intE a.2)), (1, .cells [I me])], 2, false, 0, []⟩

noncomputable def GRC1 : Ctx := GS.with ss_Compare ll0
noncomputable def tgt_Next1 (k me : Int) : T CallOut := evCallW [] GRC1 300 93 [AI k, AP 0] [(0, .cells [I me])] 1
theorem GKRC1 : KnownOk Tryz.prog GRC1 := KnownOk.lists ss_Compare_ok ll0_ok
theorem GORC1 : CtxOk Tryz.prog GRC1 := GS_ok.with _ _
theorem tree_Next1 (k me : Int) : (tgt_Next1 k me).over .leaf = T.ret ⟨SV.v (AB (k == me)), [(0, Ob.cells [I me])], 1, false, []⟩ := by kernel_rfl
theorem res_Next1 (k me : Int) : (tgt_Next1 k me).res = some (⟨.v (AB (k == me)), [(0, .cells [I me])], 1, false, []⟩) := by
  refine T.over_eq _ (tree_Next1 k me) ?_
  simp only [T.res_br, T.res_ret, T.res_bad]
  skip
noncomputable def F_Next1 : SumF
  | [.one (.f (.lit (.int .i64 k))), .one (.ptr 0 0 0 0)], [(0, .cells [.f (.lit (.int .i64 me))])], 1 => .ret (⟨.v (AB (k == me)), [(0, .cells [I me])], 1, false, []⟩)
  | _, _, _ => .bad
theorem sum_Next1 : SumOk Tryz.prog 93 F_Next1 := by
  refine ⟨fun args H nx r hr => ?_, fun args H nx => ?_⟩
  · unfold F_Next1 at hr
    split at hr
    · have := T.ret_some hr
      subst this
      exact evCallW_ok GORC1 GKRC1 (res_Next1 _ _)
    · exact (T.bad_some hr).elim
  · unfold F_Next1
    split
    · exact ⟨by first | exact Nat.le_refl _ | (dsimp only; omega), fun b hb hw => by
        have : b = 0 := by omega
        rcases this with rfl <;> first | rfl | exact absurd (by dsimp only; decide) hw⟩
    · trivial
noncomputable def sm_Next1 : SumF := canonSum F_Next1
theorem sm_Next1_ok : SumOk Tryz.prog 93 sm_Next1 := canonSum_ok sum_Next1
noncomputable def ss_Next1 : List (Nat × SumF) := (93, sm_Next1) :: ss_Compare
theorem ss_Next1_ok : ∀ x ∈ ss_Next1, SumOk Tryz.prog x.1 x.2 := List.forall_mem_cons.2 ⟨sm_Next1_ok, ss_Compare_ok⟩
noncomputable def GRC2 : Ctx := GS.with ss_Next1 ll0
noncomputable def tgt_ix (n N cap : Nat) (ex : Bool) (x : Nat → Int) (me : Int) (i : Nat) (a : Unit) : T (Ex × St) := evRound GRC2 300 74 Tryz.f74.ntmps (loopOf Tryz.f74 2) 2 [6, 7, 8, 0, 1] [4] (S_ix n N cap ex x me i a)
noncomputable def tgt_dl (n N cap : Nat) (ex : Bool) (me : Int) (j : Nat) (a : Nat × (Nat → Int)) : T (Ex × St) := evRound GRC2 300 91 Tryz.f91.ntmps (loopOf Tryz.f91 5) 2 [0, 1, 5, 6] [0, 1, 5] (S_dl n N cap ex me j a)
theorem GKRC2 : KnownOk Tryz.prog GRC2 := KnownOk.lists ss_Next1_ok ll0_ok
theorem GORC2 : CtxOk Tryz.prog GRC2 := GS_ok.with _ _
theorem tree_ix (n N cap : Nat) (ex : Bool) (x : Nat → Int) (me : Int) (i : Nat) (a : Unit) : (tgt_ix n N cap ex x me i a).over (.br (.tt (.br (.tt (.br (.br .leaf .leaf) .skip)) .skip)) .leaf) = T.br (decide ((↑i : Int) < (↑n : Int))) (T.br (decide ((0 : Int) ≤ (↑i : Int) ∧ (↑i : Int) < (↑n : Int))) (T.br (Nat.ble (0 + i + 1) N) (T.br (x (0 + i) == me) (T.ret (Ex.ret, ⟨[(4, SV.v (AI (↑i : Int)))], [(1, Ob.cells [I me]), (0, Ob.arr true 1 N fun a => [FV.lit (.int .i64 (x a))])], 2, false, 0, []⟩)) (T.ret (Ex.normal, ⟨[(6, SV.v (AV.one (CV.sl false 0 1 0 0 n cap ex 1))), (7, SV.v (AI (↑n : Int))), (8, SV.v (AI (IntKind.wrap IntKind.i64 ((↑i : Int) + (1 : Int))))), (0, SV.v (AV.one (CV.sl false 0 1 0 0 n cap ex 1))), (1, SV.v (AV.one (CV.fn 93 [(1, 0, 0, 0)])))], [(1, Ob.cells [I me]), (0, Ob.arr true 1 N fun a => [FV.lit (.int .i64 (x a))])], 2, false, 0, []⟩))) T.bad) T.bad) (T.ret (Ex.exit 0, ⟨[], [(0, Ob.arr true 1 N fun a => [FV.lit (.int .i64 (x a))]), (1, Ob.cells [I me])], 2, false, 0, []⟩)) := by kernel_rfl
theorem tree_dl (n N cap : Nat) (ex : Bool) (me : Int) (j : Nat) (a : Nat × (Nat → Int)) : (tgt_dl n N cap ex me j a).over (.br (.tt (.br (.tt (.br (.br (.tt (.br (.tt (.br .leaf .skip)) .skip)) .leaf) .skip)) .skip)) .leaf) = T.br (decide ((↑j : Int) < (↑n : Int))) (T.br (decide ((0 : Int) ≤ (↑j : Int) ∧ (↑j : Int) < (↑n : Int))) (T.br (Nat.ble (0 + j + 1) N) (T.br (!Prod.snd a (0 + j) == me) (T.br (decide ((0 : Int) ≤ (↑(Prod.fst a) : Int) ∧ (↑(Prod.fst a) : Int) < (↑n : Int))) (T.br (Nat.ble (0 + Prod.fst a + 1) N) (T.ret (Ex.normal, ⟨[(0, SV.v (AV.one (CV.sl false 0 1 0 0 n cap ex 1))), (1, SV.v (AV.one (CV.fn 93 [(1, 0, 0, 0)]))), (5, SV.v (AI (IntKind.wrap IntKind.i64 ((↑(Prod.fst a) : Int) + (1 : Int))))), (6, SV.v (AI (IntKind.wrap IntKind.i64 ((↑j : Int) + (1 : Int)))))], [(1, Ob.cells [I me]), (0, Ob.arr true 1 N fun i' => [FV.lit (.int .i64 (bif Nat.beq i' (0 + Prod.fst a) then Prod.snd a (0 + j) else Prod.snd a i'))])], 2, false, 0, []⟩)) T.bad) T.bad) (T.ret (Ex.normal, ⟨[(0, SV.v (AV.one (CV.sl false 0 1 0 0 n cap ex 1))), (1, SV.v (AV.one (CV.fn 93 [(1, 0, 0, 0)]))), (5, SV.v (AI (↑(Prod.fst a) : Int))), (6, SV.v (AI (IntKind.wrap IntKind.i64 ((↑j : Int) + (1 : Int)))))], [(1, Ob.cells [I me]), (0, Ob.arr true 1 N fun a_1 => [FV.lit (.int .i64 (Prod.snd a a_1))])], 2, false, 0, []⟩))) T.bad) T.bad) (T.ret (Ex.exit 0, ⟨[(0, SV.v (AV.one (CV.sl false 0 1 0 0 n cap ex 1))), (1, SV.v (AV.one (CV.fn 93 [(1, 0, 0, 0)]))), (5, SV.v (AI (↑(Prod.fst a) : Int)))], [(0, Ob.arr true 1 N fun a_1 => [FV.lit (.int .i64 (Prod.snd a a_1))]), (1, Ob.cells [I me])], 2, false, 0, []⟩)) := by kernel_rfl
def endIx (N : Nat) (x : Nat → Int) (me : Int) (k : Int) : Ex × St := if k = -1 then (.exit 0, ⟨[], [(0, .arr true 1 N (intE x)), (1, .cells [I me])], 2, false, 0, []⟩) else (.ret, ⟨[(4, .v (AI k))], [(0, .arr true 1 N (intE x)), (1, .cells [I me])], 2, false, 0, []⟩)
def fIx (N : Nat) (x : Nat → Int) (me : Int) (i : Nat) (_ : Unit) : Unit ⊕ (Ex × St) := match x i == me with | true => .inr (.ret, ⟨[(4, .v (AI i))], [(0, .arr true 1 N (intE x)), (1, .cells [I me])], 2, false, 0, []⟩) | false => .inl ()
theorem foldX_ix (N : Nat) (x : Nat → Int) (me : Int) : ∀ (c i : Nat), foldX (fIx N x me) (fun _ => ((Ex.exit 0, ⟨[], [(0, .arr true 1 N (intE x)), (1, .cells [I me])], 2, false, 0, []⟩) : Ex × St)) c i () = endIx N x me (idxF me x c i)
  | 0, i => by simp [foldX, idxF, endIx]
  | c + 1, i => by
    simp only [foldX, fIx, idxF]
    cases x i == me
    · exact foldX_ix N x me c (i + 1)
    · have : ¬ ((i : Int) = -1) := by omega
      simp [endIx, this]
theorem loop_ix (n N cap : Nat) (ex : Bool) (x : Nat → Int) (me : Int) (hn : n ≤ N) (hb : (n : Int) ≤ 9223372036854775807) {st0 : St} (h0 : StLe 2 st0 (S_ix n N cap ex x me 0 ())) (hnx : st0.nx = 2) :
    CodeOk Tryz.prog Tryz.f74.ntmps (.loop (loopOf Tryz.f74 2)) st0 (endIx N x me (idxF me x n 0)).1 (endIx N x me (idxF me x n 0)).2 := by
  rw [← foldX_ix]
  refine for_loop GORC2 GKRC2 (K := 300) (F := 74) (m := 2) (live := [6, 7, 8, 0, 1]) (after := [4]) (S_ix n N cap ex x me) n _ _ (fun _ _ => True) (fun i a hi _ => ?_) (fun a _ => ?_) (fun i a => Nat.le_refl _) (Nat.zero_le _) trivial h0 hnx
  · have e1 : (i : Int) < (n : Int) := by omega
    have e2 : (0 : Int) ≤ (i : Int) ∧ (i : Int) < (n : Int) := by omega
    have e3 : IntKind.wrap .i64 ((i : Int) + 1) = ((i + 1 : Nat) : Int) := by rw [wrapI (by omega)]; rfl
    have e4 : Nat.ble (i + 1) N = true := ble_tt (by omega)
    have bb : ∀ b : Nat, Heap.get [(1, Ob.cells [I me]), (0, Ob.arr true 1 N (intE x))] b = Heap.get [(0, Ob.arr true 1 N (intE x)), (1, Ob.cells [I me])] b := fun b => by rcases b with _ | _ | b <;> rfl
    cases hq : (x i == me) with
    | true =>
      refine ⟨.ret, ⟨[(4, .v (AI i))], [(1, .cells [I me]), (0, .arr true 1 N (intE x))], 2, false, 0, []⟩, T.over_eq _ (tree_ix n N cap ex x me i a) ?_, by simp only [fIx, hq]; exact ⟨by simp, trivial, StLe.less (Nat.le_refl 2) (fun t => .inr (.inl rfl)) (fun b => .inl (bb b))⟩⟩
      simp only [T.res_br, T.res_ret, T.res_bad, decide_eq_true e1, decide_eq_true e2, e3, e4, hq, Nat.zero_add, reduceIte]
    | false =>
      refine ⟨.normal, ⟨(S_ix n N cap ex x me (i + 1) ()).sl, [(1, .cells [I me]), (0, .arr true 1 N (intE x))], 2, false, 0, []⟩, T.over_eq _ (tree_ix n N cap ex x me i a) ?_, by simp only [fIx, hq]; exact ⟨trivial, StLe.less (Nat.le_refl 2) (fun t => .inr (.inl rfl)) (fun b => .inl (bb b)), trivial⟩⟩
      simp only [T.res_br, T.res_ret, T.res_bad, decide_eq_true e1, decide_eq_true e2, e3, e4, hq, Nat.zero_add, Bool.false_eq_true, reduceIte]
      rfl
  · refine ⟨.exit 0, _, T.over_eq _ (tree_ix n N cap ex x me n a) ?_, by simp, rfl, StLe.refl (Nat.le_refl _)⟩
    simp only [T.res_br, T.res_ret, T.res_bad, decide_eq_true_eq, Int.lt_irrefl, reduceIte]

def dlF (me : Int) (j : Nat) (a : Nat × (Nat → Int)) : Nat × (Nat → Int) := match a.2 j == me with | true => a | false => (a.1 + 1, fun k => bif Nat.beq k a.1 then a.2 j else a.2 k)

theorem round_dl (n N cap : Nat) (ex : Bool) (me : Int) (hn : n ≤ N) (hb : (n : Int) ≤ 9223372036854775807) (i : Nat) (a : Nat × (Nat → Int)) (hi : i < n) (hI : (fun (i : Nat) (a : Nat × (Nat → Int)) => (a.1 < i : Prop)) i a) : ∃ st', (tgt_dl n N cap ex me i a).res = some (.normal, st') ∧ StLe 2 st' (S_dl n N cap ex me (i + 1) ((fun (i : Nat) (a : Nat × (Nat → Int)) => (dlF me i a)) i a)) ∧ (fun (i : Nat) (a : Nat × (Nat → Int)) => (a.1 < i : Prop)) (i + 1) ((fun (i : Nat) (a : Nat × (Nat → Int)) => (dlF me i a)) i a) := by
  refine T.over_exP (g := fun s => (Ex.normal, s)) (tree_dl n N cap ex me i a) ?_
  obtain ⟨c, x⟩ := a
  have hI' : c < i := hI
  have e1 : (i : Int) < (n : Int) := by omega
  have e2 : (0 : Int) ≤ (i : Int) ∧ (i : Int) < (n : Int) := by omega
  have e2' : (0 : Int) ≤ (c : Int) ∧ (c : Int) < (n : Int) := by omega
  have e3 : IntKind.wrap .i64 ((i : Int) + 1) = ((i + 1 : Nat) : Int) := by rw [wrapI (by omega)]; rfl
  have e3' : IntKind.wrap .i64 ((c : Int) + 1) = ((c + 1 : Nat) : Int) := by rw [wrapI (by omega)]; rfl
  have e4 : Nat.ble (i + 1) N = true := ble_tt (by omega)
  have e4' : Nat.ble (c + 1) N = true := ble_tt (by omega)
  cases hq : (x i == me)
  · have es : dlF me i (c, x) = (c + 1, fun k => bif Nat.beq k c then x i else x k) := by simp only [dlF, hq]
    simp only [es, T.res_br, T.res_ret, T.res_bad, decide_eq_true e1, decide_eq_true e2, decide_eq_true e2', e3, e3', e4, e4', hq, Nat.zero_add, Bool.not_false, reduceIte]
    exact ⟨_, rfl, StLe.less (Nat.le_refl 2) (fun t => .inr (.inl rfl)) (fun b => by rcases b with _ | _ | b <;> exact .inl rfl), Nat.succ_lt_succ hI'⟩
  · have es : dlF me i (c, x) = (c, x) := by simp only [dlF, hq]
    simp only [es, T.res_br, T.res_ret, T.res_bad, decide_eq_true e1, decide_eq_true e2, e3, e4, hq, Nat.zero_add, Bool.not_true, Bool.false_eq_true, reduceIte]
    exact ⟨_, rfl, StLe.less (Nat.le_refl 2) (fun t => .inr (.inl rfl)) (fun b => by rcases b with _ | _ | b <;> exact .inl rfl), Nat.lt_succ_of_lt hI'⟩
theorem end_dl (n N cap : Nat) (ex : Bool) (me : Int) (hn : n ≤ N) (hb : (n : Int) ≤ 9223372036854775807) (a : Nat × (Nat → Int)) (hI : (fun (i : Nat) (a : Nat × (Nat → Int)) => (a.1 < i : Prop)) (n) a) : ∃ st', (tgt_dl n N cap ex me (n) a).res = some (.exit 0, st') ∧ StLe 2 st' (⟨[(0, .v (.one (.sl false 0 1 0 0 n cap ex 1))), (1, .v (.one (.fn 93 [(1, 0, 0, 0)]))), (5, .v (AI a.1))], [(0, .arr true 1 N (intE a.2)), (1, .cells [I me])], 2, false, 0, []⟩) := by
  refine T.over_exP (g := fun s => (.exit 0, s)) (tree_dl n N cap ex me (n) a) ?_
  obtain ⟨c, x⟩ := a
  simp only [T.res_br, T.res_ret, T.res_bad, decide_eq_true_eq, Int.lt_irrefl, reduceIte]
  exact ⟨_, rfl, StLe.refl (Nat.le_refl 2)⟩
theorem loop_dl (n N cap : Nat) (ex : Bool) (me : Int) (hn : n ≤ N) (hb : (n : Int) ≤ 9223372036854775807) (i : Nat) (a : Nat × (Nat → Int)) (hi : i ≤ n) (hI : (fun (i : Nat) (a : Nat × (Nat → Int)) => (a.1 < i : Prop)) i a) {st0 : St} (h0 : StLe 2 st0 (S_dl n N cap ex me i a)) (hnx : st0.nx = 2) :
    CodeOk Tryz.prog Tryz.f91.ntmps (.loop (loopOf Tryz.f91 5)) st0 (.exit 0) ((fun (a : Nat × (Nat → Int)) => ⟨[(0, .v (.one (.sl false 0 1 0 0 n cap ex 1))), (1, .v (.one (.fn 93 [(1, 0, 0, 0)]))), (5, .v (AI a.1))], [(0, .arr true 1 N (intE a.2)), (1, .cells [I me])], 2, false, 0, []⟩) (foldF (fun (i : Nat) (a : Nat × (Nat → Int)) => (dlF me i a)) (n - i) i a)) := by
  have := for_loop GORC2 GKRC2 (K := 300) (F := 91) (N := Tryz.f91.ntmps) (c := loopOf Tryz.f91 5) (m := 2) (live := [0, 1, 5, 6]) (after := [0, 1, 5]) (S_dl n N cap ex me) (n) (fun (i : Nat) (a : Nat × (Nat → Int)) => .inl (dlF me i a)) (fun (a : Nat × (Nat → Int)) => (.exit 0, ⟨[(0, .v (.one (.sl false 0 1 0 0 n cap ex 1))), (1, .v (.one (.fn 93 [(1, 0, 0, 0)]))), (5, .v (AI a.1))], [(0, .arr true 1 N (intE a.2)), (1, .cells [I me])], 2, false, 0, []⟩)) (fun (i : Nat) (a : Nat × (Nat → Int)) => (a.1 < i : Prop))
    (fun i a hi hI => by obtain ⟨s, h1, h2, h3⟩ := round_dl n N cap ex me hn hb i a hi hI; exact ⟨_, s, h1, rfl, h2, h3⟩)
    (fun a hI => by obtain ⟨s, h1, h2⟩ := end_dl n N cap ex me hn hb a hI; exact ⟨_, s, h1, by simp, rfl, h2⟩)
    (fun i a => by first | exact Nat.le_refl _ | (show 2 ≤ _; decide) | (simp only [S_dl]; omega)) hi hI h0 hnx
  rw [foldX_inl] at this
  exact this
noncomputable def L_ix : LoopF := mkLoopF [6, 7, 8, 0, 1] (loopOf Tryz.f74 2) Tryz.f74.ntmps fun sl H nx => match keyed [6, 7, 8, 0, 1] sl, keyed [0, 1] H with
  | some [.v (.one (.sl false z1 z2 z3 z4 n cap ex z5)), .v (.one (.f (.lit (.int .i64 k)))), .v (.one (.f (.lit (.int .i64 i)))), .v (.one (.sl false z6 z7 z8 z9 n2 cap2 ex2 z10)), .v (.one (.fn g [(z11, z12, z13, z14)]))], some [.arr true z15 N e, .cells [.f (.lit (.int .i64 me))]] => onlyB (Nat.beq nx 2 && (Nat.beq z1 0 && (Nat.beq z2 1 && (Nat.beq z3 0 && (Nat.beq z4 0 && (Nat.beq z5 1 && (Nat.beq z6 0 && (Nat.beq z7 1 && (Nat.beq z8 0 && (Nat.beq z9 0 && (Nat.beq z10 1 && (Nat.beq z11 1 && (Nat.beq z12 0 && (Nat.beq z13 0 && (Nat.beq z14 0 && (Nat.beq z15 1)))))))))))))))) (onlyB (Nat.beq g 93) (.need (pb (IntE e ∧ n ≤ N ∧ (n : Int) ≤ 9223372036854775807 ∧ k = n ∧ i = 0 ∧ n = n2 ∧ cap = cap2 ∧ ex = ex2)) (.br (pb (idxF me (intOf e) n 0 = -1)) (.ret (.exit 0, (St.mk [] [(0, .arr true 1 N e), (1, .cells [I me])] 2 false 0 []).sl, (St.mk [] [(0, .arr true 1 N e), (1, .cells [I me])] 2 false 0 []).H, 2, false)) (.ret (.ret, (St.mk [(4, .v (AI (idxF me (intOf e) n 0)))] [(0, .arr true 1 N e), (1, .cells [I me])] 2 false 0 []).sl, (St.mk [(4, .v (AI (idxF me (intOf e) n 0)))] [(0, .arr true 1 N e), (1, .cells [I me])] 2 false 0 []).H, 2, false)))))
  | _, _ => .bad
theorem L_ix_ok : LoopOk Tryz.prog L_ix := by
  refine mkLoopF_ok fun sl H nx e sl' H' nx' esc' h => ?_
  split at h
  · rename_i z1 z2 z3 z4 n cap ex z5 k i z6 z7 z8 z9 n2 cap2 ex2 z10 g z11 z12 z13 z14 z15 N e me hsl hH
    have hsl := keyed_eq hsl
    have hH := keyed_eq hH
    subst hsl hH
    have h5 := onlyB_some h
    clear h
    obtain ⟨hck, h⟩ := h5
    simp only [Bool.and_eq_true, nbeq_iff] at hck
    obtain ⟨rfl, rfl, rfl, rfl, rfl, rfl, rfl, rfl, rfl, rfl, rfl, rfl, rfl, rfl, rfl, rfl⟩ := hck
    have h5 := onlyB_some h
    clear h
    have hw := h5.1
    have h := h5.2
    clear h5
    obtain ⟨hp, hret⟩ := T.need_some h
    have hp := pb_of hp
    rcases T.br_some hret with ⟨hc, hret⟩ | ⟨hc, hret⟩
    · have hc := pb_of hc
      have := T.ret_some hret
      simp only [Prod.mk.injEq] at this
      obtain ⟨rfl, rfl, rfl, rfl, rfl⟩ := this
      clear hret h
      obtain ⟨⟨x, rfl⟩, hn, hb, rfl, rfl, rfl, rfl, rfl⟩ := hp
      obtain rfl := Nat.eq_of_beq_eq_true hw
      have := loop_ix n N cap ex x me hn hb (StLe.refl (Nat.le_refl 2)) rfl
      have e : endIx N x me (idxF me x n 0) = endIx N x me (-1) := congrArg _ hc
      rw [e] at this
      exact this
    · have hc := pb_no hc
      have := T.ret_some hret
      simp only [Prod.mk.injEq] at this
      obtain ⟨rfl, rfl, rfl, rfl, rfl⟩ := this
      clear hret h
      obtain ⟨⟨x, rfl⟩, hn, hb, rfl, rfl, rfl, rfl, rfl⟩ := hp
      obtain rfl := Nat.eq_of_beq_eq_true hw
      have := loop_ix n N cap ex x me hn hb (StLe.refl (Nat.le_refl 2)) rfl
      have e : endIx N x me (idxF me x n 0) = (.ret, ⟨[(4, .v (AI (idxF me x n 0)))], [(0, .arr true 1 N (intE x)), (1, .cells [I me])], 2, false, 0, []⟩) := if_neg hc
      rw [e] at this
      exact this
  · exact (T.bad_some h).elim
noncomputable def ll_ix : List (Nat × Nat × LoopF) := (74, 2, L_ix) :: ll0
theorem ll_ix_ok : ∀ x ∈ ll_ix, LoopOk Tryz.prog x.2.2 := List.forall_mem_cons.2 ⟨L_ix_ok, ll0_ok⟩
noncomputable def L_dl : LoopF := mkLoopF [0, 1, 5, 6] (loopOf Tryz.f91 5) Tryz.f91.ntmps fun sl H nx => match keyed [0, 1, 5, 6] sl, keyed [0, 1] H with
  | some [.v (.one (.sl false z1 z2 z3 z4 n cap ex z5)), .v (.one (.fn g [(z6, z7, z8, z9)])), .v (.one (.f (.lit (.int .i64 c)))), .v (.one (.f (.lit (.int .i64 j))))], some [.arr true z10 N e, .cells [.f (.lit (.int .i64 me))]] => onlyB (Nat.beq nx 2 && (Nat.beq z1 0 && (Nat.beq z2 1 && (Nat.beq z3 0 && (Nat.beq z4 0 && (Nat.beq z5 1 && (Nat.beq z6 1 && (Nat.beq z7 0 && (Nat.beq z8 0 && (Nat.beq z9 0 && (Nat.beq z10 1))))))))))) (onlyB (Nat.beq g 93) (.need (pb (IntE e ∧ n ≤ N ∧ (n : Int) ≤ 9223372036854775807 ∧ 0 ≤ c ∧ c < (n : Int) ∧ j = c + 1)) (.ret (.exit 0, (St.mk [(0, .v (.one (.sl false 0 1 0 0 n cap ex 1))), (1, .v (.one (.fn 93 [(1, 0, 0, 0)]))), (5, .v (AI (foldF (dlF me) (n - (c.toNat + 1)) (c.toNat + 1) (c.toNat, intOf e)).1))] [(0, .arr true 1 N (intE (foldF (dlF me) (n - (c.toNat + 1)) (c.toNat + 1) (c.toNat, intOf e)).2)), (1, .cells [I me])] 2 false 0 []).sl, (St.mk [(0, .v (.one (.sl false 0 1 0 0 n cap ex 1))), (1, .v (.one (.fn 93 [(1, 0, 0, 0)]))), (5, .v (AI (foldF (dlF me) (n - (c.toNat + 1)) (c.toNat + 1) (c.toNat, intOf e)).1))] [(0, .arr true 1 N (intE (foldF (dlF me) (n - (c.toNat + 1)) (c.toNat + 1) (c.toNat, intOf e)).2)), (1, .cells [I me])] 2 false 0 []).H, 2, false))))
  | _, _ => .bad
theorem L_dl_ok : LoopOk Tryz.prog L_dl := by
  refine mkLoopF_ok fun sl H nx e sl' H' nx' esc' h => ?_
  split at h
  · rename_i z1 z2 z3 z4 n cap ex z5 g z6 z7 z8 z9 c j z10 N e me hsl hH
    have hsl := keyed_eq hsl
    have hH := keyed_eq hH
    subst hsl hH
    have h5 := onlyB_some h
    clear h
    obtain ⟨hck, h⟩ := h5
    simp only [Bool.and_eq_true, nbeq_iff] at hck
    obtain ⟨rfl, rfl, rfl, rfl, rfl, rfl, rfl, rfl, rfl, rfl, rfl⟩ := hck
    have h5 := onlyB_some h
    clear h
    have hw := h5.1
    have h := h5.2
    clear h5
    obtain ⟨hp, hret⟩ := T.need_some h
    have hp := pb_of hp
    have := T.ret_some hret
    simp only [Prod.mk.injEq] at this
    obtain ⟨rfl, rfl, rfl, rfl, rfl⟩ := this
    clear hret h
    obtain ⟨⟨x, rfl⟩, hn, hb, h0, h1, rfl⟩ := hp
    obtain rfl := Nat.eq_of_beq_eq_true hw
    obtain ⟨c, rfl⟩ : ∃ c' : Nat, c = c' := ⟨c.toNat, by omega⟩
    exact loop_dl n N cap ex me hn hb (c + 1) (c, x) (by omega) (Nat.lt_succ_self _) (StLe.refl (Nat.le_refl 2)) rfl
  · exact (T.bad_some h).elim
noncomputable def ll_dl : List (Nat × Nat × LoopF) := (91, 5, L_dl) :: ll_ix
theorem ll_dl_ok : ∀ x ∈ ll_dl, LoopOk Tryz.prog x.2.2 := List.forall_mem_cons.2 ⟨L_dl_ok, ll_ix_ok⟩
noncomputable def GRC3 : Ctx := GS.with ss_Next1 ll_dl
noncomputable def tgt_Index (n N cap : Nat) (ex : Bool) (x : Nat → Int) (me : Int) : T CallOut := evCallW [] GRC3 300 74 [.one (.sl false 0 1 0 0 n cap ex 1), .one (.fn 93 [(1, 0, 0, 0)])] [(0, .arr true 1 N (intE x)), (1, .cells [I me])] 2
theorem GKRC3 : KnownOk Tryz.prog GRC3 := KnownOk.lists ss_Next1_ok ll_dl_ok
theorem GORC3 : CtxOk Tryz.prog GRC3 := GS_ok.with _ _
theorem tree_Index (n N cap : Nat) (ex : Bool) (x : Nat → Int) (me : Int) : (tgt_Index n N cap ex x me).over (.br (.br (.br .leaf .leaf) .skip) .skip) = T.br (pb (Code.loop (loopOf Proofs.Tryz.f74 2) = Code.loop (loopOf Proofs.Tryz.f74 2) ∧ 19 = 19)) (T.br (pb (IntE (intE x) ∧ n ≤ N ∧ (↑n : Int) ≤ (9223372036854775807 : Int) ∧ (↑n : Int) = (↑n : Int) ∧ (0 : Int) = (0 : Int) ∧ n = n ∧ cap = cap ∧ ex = ex)) (T.br (pb (idxF me x n 0 = (-1 : Int))) (T.ret ⟨SV.v (AI (-1 : Int)), [(0, Ob.arr true 1 N fun a => [FV.lit (.int .i64 (x a))]), (1, Ob.cells [I me])], 2, false, []⟩) (T.ret ⟨SV.v (AI (idxF me x n 0)), [(0, Ob.arr true 1 N fun a => [FV.lit (.int .i64 (x a))]), (1, Ob.cells [I me])], 2, false, []⟩)) T.bad) T.bad := by kernel_rfl
theorem res_Index (n N cap : Nat) (ex : Bool) (x : Nat → Int) (me : Int) (h : n ≤ N ∧ (n : Int) ≤ 9223372036854775807) : (tgt_Index n N cap ex x me).res = some (⟨.v (AI (idxF me x n 0)), [(0, .arr true 1 N (intE x)), (1, .cells [I me])], 2, false, []⟩) := by
  refine T.over_eq _ (tree_Index n N cap ex x me) ?_
  simp only [T.res_br, T.res_ret, T.res_bad]
  obtain ⟨h1, h2⟩ := h
  simp only [IntE_ok, h1, h2, eq_self, and_self, pb_tt, reduceIte]
  by_cases hc : idxF me x n 0 = -1
  · rw [if_pos (pb_true hc), hc]
  · rw [pb_false hc]; rfl
noncomputable def F_Index : SumF
  | [.one (.sl false 0 1 0 0 n cap ex 1), .one (.fn g [(1, 0, 0, 0)])], [(0, .arr true 1 N e), (1, .cells [.f (.lit (.int .i64 me))])], 2 => .need (pb (IntE e ∧ n ≤ N ∧ (n : Int) ≤ 9223372036854775807 ∧ g = 93)) (.ret (⟨.v (AI (idxF me (intOf e) n 0)), [(0, .arr true 1 N e), (1, .cells [I me])], 2, false, []⟩))
  | _, _, _ => .bad
theorem sum_Index : SumOk Tryz.prog 74 F_Index := by
  refine ⟨fun args H nx r hr => ?_, fun args H nx => ?_⟩
  · unfold F_Index at hr
    split at hr
    · rename_i n cap ex g N e me
      obtain ⟨h0, hr⟩ := T.need_some hr
      have := T.ret_some hr
      subst this
      have h := pb_of h0
      obtain ⟨⟨x, rfl⟩, h1, h2, rfl⟩ := h
      exact evCallW_ok GORC3 GKRC3 (res_Index n N cap ex x me ⟨h1, h2⟩)
    · exact (T.bad_some hr).elim
  · unfold F_Index
    split
    · exact T.Every.need ⟨by first | exact Nat.le_refl _ | (dsimp only; omega), fun b hb hw => by
        have : b = 0 ∨ b = 1 := by omega
        rcases this with rfl | rfl <;> first | rfl | exact absurd (by dsimp only; decide) hw⟩
    · trivial
noncomputable def sm_Index : SumF := canonSum F_Index
theorem sm_Index_ok : SumOk Tryz.prog 74 sm_Index := canonSum_ok sum_Index
noncomputable def ss_Index : List (Nat × SumF) := (74, sm_Index) :: ss_Next1
theorem ss_Index_ok : ∀ x ∈ ss_Index, SumOk Tryz.prog x.1 x.2 := List.forall_mem_cons.2 ⟨sm_Index_ok, ss_Next1_ok⟩
noncomputable def GRC4 : Ctx := GS.with ss_Index ll_dl
noncomputable def tgt_Del (n N cap : Nat) (x : Nat → Int) (me : Int) : T CallOut := evCallW [] GRC4 300 91 [.one (.sl false 0 1 0 0 n cap false 1), .one (.fn 93 [(1, 0, 0, 0)])] [(0, .arr true 1 N (intE x)), (1, .cells [I me])] 2
theorem GKRC4 : KnownOk Tryz.prog GRC4 := KnownOk.lists ss_Index_ok ll_dl_ok
theorem GORC4 : CtxOk Tryz.prog GRC4 := GS_ok.with _ _
theorem tree_Del (n N cap : Nat) (x : Nat → Int) (me : Int) : (tgt_Del n N cap x me).over (.br (.br .leaf (.br (.br (.br (.ff (.br (.br (.br (.ff (.br (.br .leaf .leaf) .skip)) .skip) (.br (.br (.ff (.br (.br .leaf .leaf) .skip)) .skip) .skip)) .skip)) .skip) .skip) .skip)) .skip) = T.br (pb (IntE (intE x) ∧ n ≤ N ∧ (↑n : Int) ≤ (9223372036854775807 : Int) ∧ 93 = 93)) (T.br (idxF me x n 0 == (-1 : Int)) (T.ret ⟨SV.v (AV.one (CV.sl false 0 1 0 0 n cap false 1)), [(0, Ob.arr true 1 N fun a => [FV.lit (.int .i64 (x a))]), (1, Ob.cells [I me])], 2, false, []⟩) (T.br (pb (Code.loop (loopOf Proofs.Tryz.f91 5) = Code.loop (loopOf Proofs.Tryz.f91 5) ∧ 42 = 42)) (T.br (pb (IntE (intE x) ∧ n ≤ N ∧ (↑n : Int) ≤ (9223372036854775807 : Int) ∧ (0 : Int) ≤ idxF me x n 0 ∧ idxF me x n 0 < (↑n : Int) ∧ IntKind.wrap IntKind.i64 (idxF me x n 0 + (1 : Int)) = idxF me x n 0 + (1 : Int))) (T.br (decide ((0 : Int) ≤ (↑(Prod.fst (foldF (dlF me) (n - (Int.toNat (idxF me x n 0) + 1)) (Int.toNat (idxF me x n 0) + 1) (Int.toNat (idxF me x n 0), x))) : Int) ∧ (↑(Prod.fst (foldF (dlF me) (n - (Int.toNat (idxF me x n 0) + 1)) (Int.toNat (idxF me x n 0) + 1) (Int.toNat (idxF me x n 0), x))) : Int) ≤ (↑n : Int))) (T.br (Nat.ble n cap) (T.br (Nat.beq cap (Prod.fst (foldF (dlF me) (n - (Int.toNat (idxF me x n 0) + 1)) (Int.toNat (idxF me x n 0) + 1) (Int.toNat (idxF me x n 0), x)))) (T.br (decide ((0 : Int) ≤ (↑(Prod.fst (foldF (dlF me) (n - (Int.toNat (idxF me x n 0) + 1)) (Int.toNat (idxF me x n 0) + 1) (Int.toNat (idxF me x n 0), x))) : Int) ∧ (↑(Prod.fst (foldF (dlF me) (n - (Int.toNat (idxF me x n 0) + 1)) (Int.toNat (idxF me x n 0) + 1) (Int.toNat (idxF me x n 0), x))) : Int) ≤ (↑cap : Int))) (T.br (Nat.ble n cap) (T.br (Nat.beq cap 0) (T.ret ⟨SV.v (AV.one (CV.f (FV.fs false 1 0 fun x => []))), [(0, Ob.arr true 1 N fun a => [FV.lit (.int .i64 (Prod.snd (foldF (dlF me) (n - (Int.toNat (idxF me x n 0) + 1)) (Int.toNat (idxF me x n 0) + 1) (Int.toNat (idxF me x n 0), x)) a))]), (1, Ob.cells [I me])], 2, false, []⟩) (T.ret ⟨SV.v (AV.one (CV.sl false 0 1 0 0 (Prod.fst (foldF (dlF me) (n - (Int.toNat (idxF me x n 0) + 1)) (Int.toNat (idxF me x n 0) + 1) (Int.toNat (idxF me x n 0), x)) - 0) (cap - 0) false 1)), [(0, Ob.arr true 1 N fun a => [FV.lit (.int .i64 (Prod.snd (foldF (dlF me) (n - (Int.toNat (idxF me x n 0) + 1)) (Int.toNat (idxF me x n 0) + 1) (Int.toNat (idxF me x n 0), x)) a))]), (1, Ob.cells [I me])], 2, false, []⟩)) T.bad) T.bad) (T.br (Nat.ble (0 + Prod.fst (foldF (dlF me) (n - (Int.toNat (idxF me x n 0) + 1)) (Int.toNat (idxF me x n 0) + 1) (Int.toNat (idxF me x n 0), x)) + (n - Prod.fst (foldF (dlF me) (n - (Int.toNat (idxF me x n 0) + 1)) (Int.toNat (idxF me x n 0) + 1) (Int.toNat (idxF me x n 0), x)))) N) (T.br (decide ((0 : Int) ≤ (↑(Prod.fst (foldF (dlF me) (n - (Int.toNat (idxF me x n 0) + 1)) (Int.toNat (idxF me x n 0) + 1) (Int.toNat (idxF me x n 0), x))) : Int) ∧ (↑(Prod.fst (foldF (dlF me) (n - (Int.toNat (idxF me x n 0) + 1)) (Int.toNat (idxF me x n 0) + 1) (Int.toNat (idxF me x n 0), x))) : Int) ≤ (↑cap : Int))) (T.br (Nat.ble n cap) (T.br (Nat.beq cap 0) (T.ret ⟨SV.v (AV.one (CV.f (FV.fs false 1 0 fun x => []))), [(0, Ob.arr true 1 N fun i => [FV.lit (.int .i64 (bif Nat.ble (0 + Prod.fst (foldF (dlF me) (n - (Int.toNat (idxF me x n 0) + 1)) (Int.toNat (idxF me x n 0) + 1) (Int.toNat (idxF me x n 0), x))) i && Nat.ble (i + 1) (0 + Prod.fst (foldF (dlF me) (n - (Int.toNat (idxF me x n 0) + 1)) (Int.toNat (idxF me x n 0) + 1) (Int.toNat (idxF me x n 0), x)) + (n - Prod.fst (foldF (dlF me) (n - (Int.toNat (idxF me x n 0) + 1)) (Int.toNat (idxF me x n 0) + 1) (Int.toNat (idxF me x n 0), x)))) then (0 : Int) else Prod.snd (foldF (dlF me) (n - (Int.toNat (idxF me x n 0) + 1)) (Int.toNat (idxF me x n 0) + 1) (Int.toNat (idxF me x n 0), x)) i))]), (1, Ob.cells [I me])], 2, false, []⟩) (T.ret ⟨SV.v (AV.one (CV.sl false 0 1 0 0 (Prod.fst (foldF (dlF me) (n - (Int.toNat (idxF me x n 0) + 1)) (Int.toNat (idxF me x n 0) + 1) (Int.toNat (idxF me x n 0), x)) - 0) (cap - 0) false 1)), [(0, Ob.arr true 1 N fun i => [FV.lit (.int .i64 (bif Nat.ble (0 + Prod.fst (foldF (dlF me) (n - (Int.toNat (idxF me x n 0) + 1)) (Int.toNat (idxF me x n 0) + 1) (Int.toNat (idxF me x n 0), x))) i && Nat.ble (i + 1) (0 + Prod.fst (foldF (dlF me) (n - (Int.toNat (idxF me x n 0) + 1)) (Int.toNat (idxF me x n 0) + 1) (Int.toNat (idxF me x n 0), x)) + (n - Prod.fst (foldF (dlF me) (n - (Int.toNat (idxF me x n 0) + 1)) (Int.toNat (idxF me x n 0) + 1) (Int.toNat (idxF me x n 0), x)))) then (0 : Int) else Prod.snd (foldF (dlF me) (n - (Int.toNat (idxF me x n 0) + 1)) (Int.toNat (idxF me x n 0) + 1) (Int.toNat (idxF me x n 0), x)) i))]), (1, Ob.cells [I me])], 2, false, []⟩)) T.bad) T.bad) T.bad)) T.bad) T.bad) T.bad) T.bad)) T.bad := by kernel_rfl
/-- the numbers that are not me -/
def filL (me : Int) (x : Nat → Int) (n : Nat) : List Int := (rowL x 0 n).filter fun y => !(y == me)
theorem rowL_succ (x : Nat → Int) (n : Nat) : rowL x 0 (n + 1) = rowL x 0 n ++ [x n] := by simp [rowL, List.range_succ]
theorem filL_succ (me : Int) (x : Nat → Int) (n : Nat) : filL me x (n + 1) = filL me x n ++ (match x n == me with | true => [] | false => [x n]) := by
  unfold filL
  rw [rowL_succ, List.filter_append]
  cases h : x n == me <;> simp [h]
theorem rowL_congr {x y : Nat → Int} {n : Nat} (h : ∀ i, i < n → x i = y i) : rowL x 0 n = rowL y 0 n := by
  unfold rowL
  refine List.map_congr_left fun i hi => ?_
  rw [Nat.zero_add]
  exact h i (List.mem_range.1 hi)
theorem idx_some (me : Int) (x : Nat → Int) : ∀ (c i : Nat), (idxF me x c i = -1 ∧ ∀ j, i ≤ j → j < i + c → (x j == me) = false) ∨ ∃ k : Nat, idxF me x c i = k ∧ i ≤ k ∧ k < i + c ∧ x k = me ∧ ∀ j, i ≤ j → j < k → (x j == me) = false
  | 0, i => .inl ⟨rfl, fun j h1 h2 => by omega⟩
  | c + 1, i => by
    simp only [idxF]
    cases hq : x i == me
    · rcases idx_some me x c (i + 1) with ⟨h1, h2⟩ | ⟨k, h1, h2, h3, h4, h5⟩
      · refine .inl ⟨h1, fun j h3 h4 => ?_⟩
        rcases Nat.eq_or_lt_of_le h3 with rfl | h
        · exact hq
        · exact h2 j h (by omega)
      · refine .inr ⟨k, h1, by omega, by omega, h4, fun j h6 h7 => ?_⟩
        rcases Nat.eq_or_lt_of_le h6 with rfl | h
        · exact hq
        · exact h5 j h h7
    · exact .inr ⟨i, rfl, Nat.le_refl _, by omega, by simpa using hq, fun j h1 h2 => by omega⟩
theorem fil_all (me : Int) (x : Nat → Int) : ∀ n, (∀ j, j < n → (x j == me) = false) → filL me x n = rowL x 0 n
  | 0, _ => rfl
  | n + 1, h => by rw [filL_succ, rowL_succ, fil_all me x n fun j hj => h j (by omega), h n (Nat.lt_succ_self n)]
theorem dl_inv (me : Int) (x : Nat → Int) : ∀ (d j : Nat) (a : Nat × (Nat → Int)), a.1 < j → rowL a.2 0 a.1 = filL me x j → (∀ k, j ≤ k → a.2 k = x k) →
    (foldF (dlF me) d j a).1 < j + d ∧ rowL (foldF (dlF me) d j a).2 0 (foldF (dlF me) d j a).1 = filL me x (j + d)
  | 0, j, a, h1, h2, _ => ⟨h1, h2⟩
  | d + 1, j, (c, y), h1, h2, h3 => by
    simp only at h1 h2 h3
    have hj := h3 j (Nat.le_refl _)
    show (foldF (dlF me) d (j + 1) (dlF me j (c, y))).1 < _ ∧ rowL (foldF (dlF me) d (j + 1) (dlF me j (c, y))).2 0 (foldF (dlF me) d (j + 1) (dlF me j (c, y))).1 = _
    rw [show j + (d + 1) = j + 1 + d by omega]
    cases hq : y j == me
    · rw [show dlF me j (c, y) = (c + 1, fun k => bif Nat.beq k c then y j else y k) by simp only [dlF, hq]]
      refine dl_inv me x d (j + 1) (c + 1, fun k => bif Nat.beq k c then y j else y k) (Nat.succ_lt_succ h1) ?_ (fun k hk => ?_)
      · simp only
        rw [rowL_succ, filL_succ, ← hj, hq, ← h2]
        simp only [Nat.beq_refl, cond_true, hj]
        congr 1
        exact rowL_congr fun i hi => by rw [beq_ff (by omega)]; rfl
      · simp only
        rw [beq_ff (by omega)]
        exact h3 k (by omega)
    · rw [show dlF me j (c, y) = (c, y) by simp only [dlF, hq]]
      refine dl_inv me x d (j + 1) (c, y) (Nat.lt_succ_of_lt h1) ?_ (fun k hk => h3 k (by omega))
      show rowL y 0 c = _
      rw [filL_succ, ← hj, hq, h2, List.append_nil]
/-- what DeleteFunc leaves: how many, and the row -/
def dlR (me : Int) (x : Nat → Int) (n : Nat) : Nat × (Nat → Int) := foldF (dlF me) (n - ((idxF me x n 0).toNat + 1)) ((idxF me x n 0).toNat + 1) ((idxF me x n 0).toNat, x)
def delI (me : Int) (x : Nat → Int) (n : Nat) : Nat × (Nat → Int) := if idxF me x n 0 = -1 then (n, x) else
  ((dlR me x n).1, fun i => bif Nat.ble (dlR me x n).1 i && Nat.ble (i + 1) ((dlR me x n).1 + (n - (dlR me x n).1)) then 0 else (dlR me x n).2 i)
theorem dlR_ok {me : Int} {x : Nat → Int} {n : Nat} (h : idxF me x n 0 ≠ -1) : (0 ≤ idxF me x n 0 ∧ idxF me x n 0 < (n : Int)) ∧ (dlR me x n).1 < n ∧ rowL (dlR me x n).2 0 (dlR me x n).1 = filL me x n := by
  rcases idx_some me x n 0 with ⟨h1, _⟩ | ⟨k, h1, h2, h3, h4, h5⟩
  · exact absurd h1 h
  · have hk : k < n := by omega
    have hf : filL me x (k + 1) = rowL x 0 k := by
      rw [filL_succ, fil_all me x k fun j hj => h5 j (Nat.zero_le _) hj]
      have : (x k == me) = true := by simp [h4]
      rw [this, List.append_nil]
    have := dl_inv me x (n - (k + 1)) (k + 1) (k, x) (Nat.lt_succ_self _) hf.symm (fun _ _ => rfl)
    rw [show k + 1 + (n - (k + 1)) = n by omega] at this
    unfold dlR
    rw [h1, Int.toNat_natCast]
    exact ⟨by omega, this⟩
theorem delI_ok (me : Int) (x : Nat → Int) (n : Nat) : (delI me x n).1 ≤ n ∧ rowL (delI me x n).2 0 (delI me x n).1 = filL me x n := by
  unfold delI
  split
  · rename_i h
    rcases idx_some me x n 0 with ⟨_, h2⟩ | ⟨k, h1, _⟩
    · exact ⟨Nat.le_refl _, (fil_all me x n fun j hj => h2 j (Nat.zero_le _) (by omega)).symm⟩
    · omega
  · rename_i h
    obtain ⟨_, h1, h2⟩ := dlR_ok h
    refine ⟨Nat.le_of_lt h1, ?_⟩
    simp only
    rw [← h2]
    refine rowL_congr fun i hi => ?_
    rw [show Nat.ble (dlR me x n).1 i = false from ble_false (by omega)]
    rfl
theorem res_Del (n N cap : Nat) (x : Nat → Int) (me : Int) (h : n ≤ N ∧ n ≤ cap ∧ (n : Int) ≤ 9223372036854775807) : (tgt_Del n N cap x me).res = some ⟨.v (.one (.sl false 0 1 0 0 (delI me x n).1 cap false 1)), [(0, .arr true 1 N (intE (delI me x n).2)), (1, .cells [I me])], 2, false, []⟩ := by
  refine T.over_eq _ (tree_Del n N cap x me) ?_
  obtain ⟨h1, h2, h3⟩ := h
  have hd : dlR me x n = foldF (dlF me) (n - ((idxF me x n 0).toNat + 1)) ((idxF me x n 0).toNat + 1) ((idxF me x n 0).toNat, x) := rfl
  simp only [T.res_br, T.res_ret, T.res_bad, ← hd]
  by_cases hi : idxF me x n 0 = -1
  · have e : delI me x n = (n, x) := if_pos hi
    simp only [e, IntE_ok, h1, h3, hi, eq_self, and_self, pb_tt, beq_self_eq_true, reduceIte]
  · obtain ⟨⟨i0, i1⟩, d1, _⟩ := dlR_ok hi
    have e : delI me x n = ((dlR me x n).1, fun i => bif Nat.ble (dlR me x n).1 i && Nat.ble (i + 1) ((dlR me x n).1 + (n - (dlR me x n).1)) then 0 else (dlR me x n).2 i) := if_neg hi
    have e1 : (idxF me x n 0 == -1) = false := by simpa using hi
    have e2 : IntKind.wrap .i64 (idxF me x n 0 + 1) = idxF me x n 0 + 1 := wrapI (by omega)
    have e3 : (0 : Int) ≤ ((dlR me x n).1 : Int) ∧ ((dlR me x n).1 : Int) ≤ (n : Int) := by omega
    have e4 : Nat.ble n cap = true := ble_tt h2
    have e5 : Nat.beq cap (dlR me x n).1 = false := beq_ff (by omega)
    have e6 : Nat.ble ((dlR me x n).1 + (n - (dlR me x n).1)) N = true := ble_tt (by omega)
    have e7 : (0 : Int) ≤ ((dlR me x n).1 : Int) ∧ ((dlR me x n).1 : Int) ≤ (cap : Int) := by omega
    have e8 : Nat.beq cap 0 = false := beq_ff (by omega)
    simp only [e, e1, e2, e4, e5, e6, e8, decide_eq_true e3, decide_eq_true e7, IntE_ok, h1, h3, i0, i1, Nat.zero_add, Nat.sub_zero, eq_self, and_self, pb_tt, Bool.false_eq_true, reduceIte]

noncomputable def GRC5 : Ctx := GS.with ss_Index ll_dl
noncomputable def tgt_Clone (nl : Bool) (n : Nat) (x : Nat → Int) : T CallOut := evCallW [] GRC5 300 92 [.one (.f (.fs nl 1 n (intE x)))] [] 0
theorem GKRC5 : KnownOk Tryz.prog GRC5 := KnownOk.lists ss_Index_ok ll_dl_ok
theorem GORC5 : CtxOk Tryz.prog GRC5 := GS_ok.with _ _
theorem tree_Clone (nl : Bool) (n : Nat) (x : Nat → Int) : (tgt_Clone nl n x).over (.br .leaf (.br .leaf (.br (.tt .skip) (.br (.tt .leaf) .skip)))) = T.br nl (T.ret (out0 (SV.v (AV.one Nil)))) (T.br (Nat.beq n 0) (T.ret ⟨SV.v (AV.one (CV.sl false 0 0 0 0 0 0 true 1)), [(0, Ob.cells [])], 1, false, []⟩) (T.br (Nat.ble (0 + n) 0) T.bad (T.br (smallB (0 + n) 8) (T.ret ⟨SV.v (AV.one (CV.sl false 1 1 0 0 (0 + n) (0 + n) false 1)), [(1, Ob.arr true 1 (0 + n) fun i => [FV.lit (.int .i64 (x (i - 0)))]), (0, Ob.cells [])], 2, false, []⟩) T.bad))) := by kernel_rfl
end Go.Proofs.YtbobakclbdaepaaGreat.En
