/- ViewApart: tables that are handed over. -/
import Derived.Test.YtdoehlinboiohaaUE
import Derived.Test.YtdoehlinboiohaaF12
namespace Go.Proofs.Ytdoehlinboiohaa.En
open Go
set_option linter.unusedVariables false
set_option linter.unusedSimpArgs false
set_option maxRecDepth 20000
set_option maxHeartbeats 1000000
noncomputable def GUF1 : Ctx := GS.with ss_view ll_sm
noncomputable def tgt_TableO (nl : Bool) (n : Nat) (x : Nat → Ent) (m : Int) : T CallOut := evCallW [0] GUF1 300 16 [.one (.f (.fs nl 5 n (entE x))), AI m] [] 0
noncomputable def tgt_vtableO (n : Nat) (me la pr si : Int) (su : Nat → Int) (t : Nat → Ent) : T CallOut := evCallW [] GUF1 300 30 [AP 0] (hv n me la pr si su t) 3
noncomputable def tgt_vhereO (n : Nat) (me la pr si : Int) (su : Nat → Int) (t : Nat → Ent) : T CallOut := evCallW [] GUF1 300 29 [AP 0] (hv n me la pr si su t) 3
theorem GKUF1 : KnownOk Try.prog GUF1 := KnownOk.lists ss_view_ok ll_sm_ok
theorem GOUF1 : CtxOk Try.prog GUF1 := GS_ok.with _ _
theorem tree_TableO (nl : Bool) (n : Nat) (x : Nat → Ent) (m : Int) : (tgt_TableO nl n x m).over (.br (.br .leaf .skip) .skip) =
  T.br (pb (loopOf Proofs.Try.f16 (3 : Nat) = loopOf Proofs.Try.f16 (3 : Nat) ∧ (27 : Nat) = (27 : Nat)))
    (T.br (pb (EntS nl n (entE x) ∧ (0 : Int) = (0 : Int) ∧ (0 : Int) ≤ m ∧ m ≤ (1000 : Int)))
      (T.ret
        { v := SV.v (AV.one (CV.sl (Nat.beq (min n (Int.toNat m)) (0 : Nat)) (0 : Nat) (5 : Nat) (0 : Nat) (0 : Nat) (min n (Int.toNat m)) (min n (Int.toNat m)) false (5 : Nat))),
          H :=
            [((0 : Nat),
                Ob.arr (!Nat.beq (min n (Int.toNat m)) (0 : Nat)) (5 : Nat) (min n (Int.toNat m)) fun a =>
                  [FV.lit (Value.int IntKind.i64 (Ent.inc (entR (entOf (entE x) a)))), FV.lit (Value.int IntKind.i64 (Ent.st (entR (entOf (entE x) a)))), FV.lit (Value.int IntKind.i64 (Ent.stamp (entR (entOf (entE x) a)))),
                    FV.lit (Value.int IntKind.i64 (Ent.load (entR (entOf (entE x) a)))), FV.lit (Value.bool (Ent.dr (entR (entOf (entE x) a))))])],
          nx := (1 : Nat), esc := false, wr := [(0 : Nat)] : CallOut })
      T.bad)
    T.bad := by kernel_rfl
theorem res_TableO (nl : Bool) (n : Nat) (x : Nat → Ent) (m : Int) (h : LnOk nl n ∧ 0 ≤ m ∧ m ≤ 1000) : (tgt_TableO nl n x m).res = some (⟨.v (.one (.sl (Nat.beq (min n m.toNat) 0) 0 5 0 0 (min n m.toNat) (min n m.toNat) false 5)), [(0, .arr (!(Nat.beq (min n m.toNat) 0)) 5 (min n m.toNat) (entE fun j => entR (x j)))], 1, false, [0]⟩) := by
  refine T.over_eq _ (tree_TableO nl n x m) ?_
  simp only [T.res_br, T.res_ret, T.res_bad]
  obtain ⟨h1, h2, h3⟩ := h
  simp only [eq_self, and_self, pb_tt, if_true]
  exact ite_tt (pb_true (by exact ⟨⟨EntE_ok x, h1⟩, trivial, h2, h3⟩)) rfl
theorem tree_vtableO (n : Nat) (me la pr si : Int) (su : Nat → Int) (t : Nat → Ent) : (tgt_vtableO n me la pr si su t).over (.ff (.br (.br (.tt (.tt (.tt .leaf))) (.br (.tt .skip) (.br (.tt (.br (.br (.br .leaf (.tt .leaf)) .skip) .skip)) .skip))) .skip)) =
  T.br (Nat.ble ((0 : Nat) + n) n) (T.br (Nat.beq n (0 : Nat)) (T.ret { v := SV.v (AV.one (CV.f (FV.z0 false))), H := [((0 : Nat), Ob.cells [I me, I la, I pr, I si, CV.sl false (1 : Nat) (1 : Nat) (0 : Nat) (0 : Nat) n n true (1 : Nat), CV.sl false (2 : Nat) (5 : Nat) (0 : Nat) (0 : Nat) n n true (5 : Nat)]), ((1 : Nat), Ob.arr true (1 : Nat) n fun a => [FV.lit (Value.int IntKind.i64 (su a))]), ((2 : Nat), Ob.arr true (5 : Nat) n fun a => [FV.lit (Value.int IntKind.i64 (Ent.inc (t a))), FV.lit (Value.int IntKind.i64 (Ent.st (t a))), FV.lit (Value.int IntKind.i64 (Ent.stamp (t a))), FV.lit (Value.int IntKind.i64 (Ent.load (t a))), FV.lit (Value.bool (Ent.dr (t a)))])], nx := (3 : Nat), esc := false, wr := [] : CallOut }) (T.br (Nat.ble ((0 : Nat) + n) (0 : Nat)) T.bad (T.br (smallB ((0 : Nat) + n) (40 : Nat)) (T.br (decide ((0 : Int) ≤ (↑((0 : Nat) + n) : Int) ∧ (↑((0 : Nat) + n) : Int) ≤ (↑((0 : Nat) + n) : Int))) (T.br (decide ((0 : Int) ≤ (↑((0 : Nat) + n) : Int) ∧ (↑((0 : Nat) + n) : Int) ≤ (↑((0 : Nat) + n) : Int))) (T.br (Nat.beq ((0 : Nat) + n) (0 : Nat)) (T.ret { v := SV.v (AV.one (CV.f (FV.z0 false))), H := [((0 : Nat), Ob.cells [I me, I la, I pr, I si, CV.sl false (1 : Nat) (1 : Nat) (0 : Nat) (0 : Nat) n n true (1 : Nat), CV.sl false (2 : Nat) (5 : Nat) (0 : Nat) (0 : Nat) n n true (5 : Nat)]), ((1 : Nat), Ob.arr true (1 : Nat) n fun a => [FV.lit (Value.int IntKind.i64 (su a))]), ((2 : Nat), Ob.arr true (5 : Nat) n fun a => [FV.lit (Value.int IntKind.i64 (Ent.inc (t a))), FV.lit (Value.int IntKind.i64 (Ent.st (t a))), FV.lit (Value.int IntKind.i64 (Ent.stamp (t a))), FV.lit (Value.int IntKind.i64 (Ent.load (t a))), FV.lit (Value.bool (Ent.dr (t a)))])], nx := (3 : Nat), esc := false, wr := [] : CallOut }) (T.ret { v := SV.v (AV.one (CV.sl false (4 : Nat) (5 : Nat) (0 : Nat) (0 : Nat) ((0 : Nat) + n - (0 : Nat)) ((0 : Nat) + n - (0 : Nat)) true (5 : Nat))), H := [((4 : Nat), Ob.arr true (5 : Nat) ((0 : Nat) + n) fun i => [FV.lit (Value.int IntKind.i64 (Ent.inc (t ((0 : Nat) + (i - (0 : Nat)))))), FV.lit (Value.int IntKind.i64 (Ent.st (t ((0 : Nat) + (i - (0 : Nat)))))), FV.lit (Value.int IntKind.i64 (Ent.stamp (t ((0 : Nat) + (i - (0 : Nat)))))), FV.lit (Value.int IntKind.i64 (Ent.load (t ((0 : Nat) + (i - (0 : Nat)))))), FV.lit (Value.bool (Ent.dr (t ((0 : Nat) + (i - (0 : Nat))))))]), ((3 : Nat), Ob.cells []), ((0 : Nat), Ob.cells [I me, I la, I pr, I si, CV.sl false (1 : Nat) (1 : Nat) (0 : Nat) (0 : Nat) n n true (1 : Nat), CV.sl false (2 : Nat) (5 : Nat) (0 : Nat) (0 : Nat) n n true (5 : Nat)]), ((1 : Nat), Ob.arr true (1 : Nat) n fun a => [FV.lit (Value.int IntKind.i64 (su a))]), ((2 : Nat), Ob.arr true (5 : Nat) n fun a => [FV.lit (Value.int IntKind.i64 (Ent.inc (t a))), FV.lit (Value.int IntKind.i64 (Ent.st (t a))), FV.lit (Value.int IntKind.i64 (Ent.stamp (t a))), FV.lit (Value.int IntKind.i64 (Ent.load (t a))), FV.lit (Value.bool (Ent.dr (t a)))])], nx := (5 : Nat), esc := false, wr := [] : CallOut })) T.bad) T.bad) T.bad))) T.bad := by kernel_rfl
theorem tree_vhereO (n : Nat) (me la pr si : Int) (su : Nat → Int) (t : Nat → Ent) : (tgt_vhereO n me la pr si su t).over (.br (.br (.br (.br (.br .leaf (.br .leaf .skip)) .skip) .skip) .skip) .skip) =
  T.br (pb (loopOf Proofs.Try.f29 (3 : Nat) = loopOf Proofs.Try.f29 (3 : Nat) ∧ (26 : Nat) = (26 : Nat))) (T.br (pb (n = n ∧ n = n ∧ n ≤ (5 : Nat) ∧ EntE (entE t) ∧ (0 : Int) = (0 : Int) ∧ (↑n : Int) = (↑n : Int))) (T.br (decide ((0 : Int) ≤ (↑(Prod.fst (hereQ t n)) : Int) ∧ (↑(Prod.fst (hereQ t n)) : Int) ≤ (↑(Prod.fst (hereQ t n)) : Int))) (T.br (decide ((0 : Int) ≤ (↑(Prod.fst (hereQ t n)) : Int) ∧ (↑(Prod.fst (hereQ t n)) : Int) ≤ (↑(Prod.fst (hereQ t n)) : Int))) (T.br (Nat.beq (Prod.fst (hereQ t n)) (0 : Nat)) (T.ret { v := SV.v (AV.one (CV.f (FV.z0 (Nat.beq (Prod.fst (hereQ t n)) (0 : Nat))))), H := [((2 : Nat), Ob.arr true (5 : Nat) n fun a => [FV.lit (Value.int IntKind.i64 (Ent.inc (t a))), FV.lit (Value.int IntKind.i64 (Ent.st (t a))), FV.lit (Value.int IntKind.i64 (Ent.stamp (t a))), FV.lit (Value.int IntKind.i64 (Ent.load (t a))), FV.lit (Value.bool (Ent.dr (t a)))]), ((0 : Nat), Ob.cells [I me, I la, I pr, I si, CV.sl false (1 : Nat) (1 : Nat) (0 : Nat) (0 : Nat) n n true (1 : Nat), CV.sl false (2 : Nat) (5 : Nat) (0 : Nat) (0 : Nat) n n true (5 : Nat)]), ((1 : Nat), Ob.arr true (1 : Nat) n fun a => [FV.lit (Value.int IntKind.i64 (su a))])], nx := (3 : Nat), esc := false, wr := [] : CallOut }) (T.br (!Nat.beq (Prod.fst (hereQ t n)) (0 : Nat)) (T.ret { v := SV.v (AV.one (CV.sl false (3 : Nat) (1 : Nat) (0 : Nat) (0 : Nat) (Prod.fst (hereQ t n) - (0 : Nat)) (Prod.fst (hereQ t n) - (0 : Nat)) true (1 : Nat))), H := [((2 : Nat), Ob.arr true (5 : Nat) n fun a => [FV.lit (Value.int IntKind.i64 (Ent.inc (t a))), FV.lit (Value.int IntKind.i64 (Ent.st (t a))), FV.lit (Value.int IntKind.i64 (Ent.stamp (t a))), FV.lit (Value.int IntKind.i64 (Ent.load (t a))), FV.lit (Value.bool (Ent.dr (t a)))]), ((3 : Nat), Ob.arr (!Nat.beq (Prod.fst (hereQ t n)) (0 : Nat)) (1 : Nat) (Prod.fst (hereQ t n)) fun a => [FV.lit (Value.int IntKind.i64 (Prod.snd (hereQ t n) a))]), ((0 : Nat), Ob.cells [I me, I la, I pr, I si, CV.sl false (1 : Nat) (1 : Nat) (0 : Nat) (0 : Nat) n n true (1 : Nat), CV.sl false (2 : Nat) (5 : Nat) (0 : Nat) (0 : Nat) n n true (5 : Nat)]), ((1 : Nat), Ob.arr true (1 : Nat) n fun a => [FV.lit (Value.int IntKind.i64 (su a))])], nx := (4 : Nat), esc := false, wr := [] : CallOut }) T.bad)) T.bad) T.bad) T.bad) T.bad := by kernel_rfl
noncomputable def F_TableO : SumF
  | [.one (.f (.fs nl 5 n e)), .one (.f (.lit (.int .i64 m)))], [], 0 => .need (pb (EntL nl n e ∧ 0 ≤ m ∧ m ≤ 1000)) (.ret (⟨.v (.one (.sl (Nat.beq (min n m.toNat) 0) 0 5 0 0 (min n m.toNat) (min n m.toNat) false 5)), [(0, .arr (!(Nat.beq (min n m.toNat) 0)) 5 (min n m.toNat) (entE fun j => entR (entOf e j)))], 1, false, [0]⟩))
  | _, _, _ => .bad
theorem sum_TableO : SumOk Try.prog 16 F_TableO := by
  refine ⟨fun args H nx r hr => ?_, fun args H nx => ?_⟩
  · unfold F_TableO at hr
    split at hr
    · rename_i nl n e m
      obtain ⟨h0, hr⟩ := T.need_some hr
      have := T.ret_some hr
      subst this
      have h := pb_of h0
      obtain ⟨⟨he, h1⟩, h2, h3⟩ := h
      exact (evCallW_ok GOUF1 GKUF1 (res_TableO _ _ (entOf e) _ ⟨h1, h2, h3⟩)).args (.cons (CV.le.f (FV.le_fs he)) (.refl _))
    · exact (T.bad_some hr).elim
  · unfold F_TableO
    split
    · exact T.Every.need ⟨Nat.zero_le _, fun b hb hw => absurd hb (Nat.not_lt_zero b)⟩
    · trivial
noncomputable def sm_TableO : SumF := canonSum F_TableO
theorem sm_TableO_ok : SumOk Try.prog 16 sm_TableO := canonSum_ok sum_TableO
noncomputable def ss_TableO : List (Nat × SumF) := (16, sm_TableO) :: ss_view
theorem ss_TableO_ok : ∀ x ∈ ss_TableO, SumOk Try.prog x.1 x.2 := List.forall_mem_cons.2 ⟨sm_TableO_ok, ss_view_ok⟩
theorem res_vtableO (n : Nat) (me la pr si : Int) (su : Nat → Int) (t : Nat → Ent) (h : 0 < n ∧ n ≤ 5) : (tgt_vtableO n me la pr si su t).res = some ⟨.v (.one (.sl false 4 5 0 0 n n true 5)), [(4, .arr true 5 n (entE t)), (3, .cells []), (0, .cells [I me, I la, I pr, I si, .sl false 1 1 0 0 n n true 1, .sl false 2 5 0 0 n n true 5]), (1, .arr true 1 n (intE su)), (2, .arr true 5 n (entE t))], 5, false, []⟩ := by
  refine T.over_eq _ (tree_vtableO n me la pr si su t) ?_
  have e1 : Nat.ble n n = true := ble_tt (Nat.le_refl _)
  have e2 : Nat.beq n 0 = false := beq_ff (by omega)
  have e3 : Nat.ble n 0 = false := ble_false (by omega)
  have e4 : smallB n 40 = true := smallB_le (by omega) (by omega)
  have e5 : (0 : Int) ≤ (n : Int) ∧ (n : Int) ≤ (n : Int) := by omega
  simp only [T.res_br, T.res_ret, T.res_bad, e1, e2, e3, e4, e5, Nat.zero_add, Nat.sub_zero, and_self, decide_true, Bool.and_self, Bool.false_eq_true, reduceIte]
theorem res_vhereO (n : Nat) (me la pr si : Int) (su : Nat → Int) (t : Nat → Ent) (h : n ≤ 5 ∧ (hereQ t n).1 ≠ 0) : (tgt_vhereO n me la pr si su t).res = some ⟨.v (.one (.sl false 3 1 0 0 (hereQ t n).1 (hereQ t n).1 true 1)), [(2, .arr true 5 n (entE t)), (3, .arr true 1 (hereQ t n).1 (intE (hereQ t n).2)), (0, .cells [I me, I la, I pr, I si, .sl false 1 1 0 0 n n true 1, .sl false 2 5 0 0 n n true 5]), (1, .arr true 1 n (intE su))], 4, false, []⟩ := by
  refine T.over_eq _ (tree_vhereO n me la pr si su t) ?_
  obtain ⟨hn, h0⟩ := h
  have e2 : Nat.beq (hereQ t n).1 0 = false := beq_ff h0
  have e5 : (0 : Int) ≤ ((hereQ t n).1 : Int) ∧ ((hereQ t n).1 : Int) ≤ ((hereQ t n).1 : Int) := by omega
  simp only [T.res_br, T.res_ret, T.res_bad, hn, EntE_ok, e2, e5, eq_self, and_self, pb_tt, decide_true, Nat.sub_zero, Bool.not_false, Bool.false_eq_true, reduceIte]

noncomputable def F_vtableO : SumF
  | [.one (.ptr 0 0 0 0)], [(0, .cells [.f (.lit (.int .i64 me)), .f (.lit (.int .i64 la)), .f (.lit (.int .i64 pr)), .f (.lit (.int .i64 si)), .sl false 1 1 0 0 n c1 true 1, .sl false 2 5 0 0 n2 c2 true 5]), (1, .arr true 1 N1 e1), (2, .arr true 5 N2 e2)], 3 => .need (pb (VPre n c1 n2 c2 N1 N2 e1 e2 ∧ 0 < n ∧ n ≤ 5)) (.ret (⟨.v (.one (.sl false 4 5 0 0 n n true 5)), [(4, .arr true 5 n e2), (3, .cells []), (0, .cells [I me, I la, I pr, I si, .sl false 1 1 0 0 n c1 true 1, .sl false 2 5 0 0 n2 c2 true 5]), (1, .arr true 1 N1 e1), (2, .arr true 5 N2 e2)], 5, false, []⟩))
  | _, _, _ => .bad
theorem sum_vtableO : SumOk Try.prog 30 F_vtableO := by
  refine ⟨fun args H nx r hr => ?_, fun args H nx => ?_⟩
  · unfold F_vtableO at hr
    split at hr
    · rename_i me la pr si n c1 n2 c2 N1 e1 N2 e2
      obtain ⟨h0, hr⟩ := T.need_some hr
      have := T.ret_some hr
      subst this
      have h := pb_of h0
      obtain ⟨⟨rfl, rfl, rfl, rfl, rfl, ⟨su, rfl⟩, ⟨t, rfl⟩⟩, h⟩ := h
      exact evCallW_ok GOUF1 GKUF1 (res_vtableO n me la pr si su t h)
    · exact (T.bad_some hr).elim
  · unfold F_vtableO
    split
    · exact T.Every.need ⟨by first | exact Nat.le_refl _ | (dsimp only; omega), fun b hb hw => by
        have : b = 0 ∨ b = 1 ∨ b = 2 := by omega
        rcases this with rfl | rfl | rfl <;> first | rfl | exact absurd (by dsimp only; decide) hw⟩
    · trivial
noncomputable def sm_vtableO : SumF := canonSum F_vtableO
theorem sm_vtableO_ok : SumOk Try.prog 30 sm_vtableO := canonSum_ok sum_vtableO
noncomputable def ss_vtableO : List (Nat × SumF) := (30, sm_vtableO) :: ss_TableO
theorem ss_vtableO_ok : ∀ x ∈ ss_vtableO, SumOk Try.prog x.1 x.2 := List.forall_mem_cons.2 ⟨sm_vtableO_ok, ss_TableO_ok⟩
noncomputable def F_vhereO : SumF
  | [.one (.ptr 0 0 0 0)], [(0, .cells [.f (.lit (.int .i64 me)), .f (.lit (.int .i64 la)), .f (.lit (.int .i64 pr)), .f (.lit (.int .i64 si)), .sl false 1 1 0 0 n c1 true 1, .sl false 2 5 0 0 n2 c2 true 5]), (1, .arr true 1 N1 e1), (2, .arr true 5 N2 e2)], 3 => .need (pb (VPre n c1 n2 c2 N1 N2 e1 e2 ∧ n ≤ 5 ∧ (hereQ (entOf e2) n).1 ≠ 0)) (.ret (⟨.v (.one (.sl false 3 1 0 0 (hereQ (entOf e2) n).1 (hereQ (entOf e2) n).1 true 1)), [(2, .arr true 5 N2 e2), (3, .arr true 1 (hereQ (entOf e2) n).1 (intE (hereQ (entOf e2) n).2)), (0, .cells [I me, I la, I pr, I si, .sl false 1 1 0 0 n c1 true 1, .sl false 2 5 0 0 n2 c2 true 5]), (1, .arr true 1 N1 e1)], 4, false, []⟩))
  | _, _, _ => .bad
theorem sum_vhereO : SumOk Try.prog 29 F_vhereO := by
  refine ⟨fun args H nx r hr => ?_, fun args H nx => ?_⟩
  · unfold F_vhereO at hr
    split at hr
    · rename_i me la pr si n c1 n2 c2 N1 e1 N2 e2
      obtain ⟨h0, hr⟩ := T.need_some hr
      have := T.ret_some hr
      subst this
      have h := pb_of h0
      obtain ⟨⟨rfl, rfl, rfl, rfl, rfl, ⟨su, rfl⟩, ⟨t, rfl⟩⟩, h⟩ := h
      exact evCallW_ok GOUF1 GKUF1 (res_vhereO n me la pr si su t h)
    · exact (T.bad_some hr).elim
  · unfold F_vhereO
    split
    · exact T.Every.need ⟨by first | exact Nat.le_refl _ | (dsimp only; omega), fun b hb hw => by
        have : b = 0 ∨ b = 1 ∨ b = 2 := by omega
        rcases this with rfl | rfl | rfl <;> first | rfl | exact absurd (by dsimp only; decide) hw⟩
    · trivial
noncomputable def sm_vhereO : SumF := canonSum F_vhereO
theorem sm_vhereO_ok : SumOk Try.prog 29 sm_vhereO := canonSum_ok sum_vhereO
noncomputable def ss_vhereO : List (Nat × SumF) := (29, sm_vhereO) :: ss_vtableO
theorem ss_vhereO_ok : ∀ x ∈ ss_vhereO, SumOk Try.prog x.1 x.2 := List.forall_mem_cons.2 ⟨sm_vhereO_ok, ss_vtableO_ok⟩
def S_ah (u v : V) (bt lt : Bool) (nt : Nat) (et : Nat → List FV) (bw : Bool) (nw : Nat) (ew : Nat → List FV) (N : Nat) (i : Nat) (a : Nat → Int) : St :=
  ⟨[(3, .v (AP 0)), (4, .v (AP 3)), (5, .v (.one (.sl bt 6 5 0 0 nt nt false 5))), (6, .v (.one (.f (.fs bw 5 nw ew)))), (9, .v (.one (.sl false 7 1 0 0 N N true 1))), (48, .v (AI N)), (49, .v (AI i))], [(0, .cells [I 0, I u.la, I u.pr, I u.si, .sl false 1 1 0 0 5 5 true 1, .sl false 2 5 0 0 5 5 true 5]), (1, .arr true 1 5 (intE u.sp)), (2, .arr true 5 5 (entE u.tb)), (3, .cells [I 0, I v.la, I v.pr, I v.si, .sl false 4 1 0 0 5 5 true 1, .sl false 5 5 0 0 5 5 true 5]), (4, .arr true 1 5 (intE v.sp)), (5, .arr true 5 5 (entE v.tb)), (6, .arr lt 5 nt et), (7, .arr true 1 N (intE a))], 8, false, 0, []⟩
def S_at (u v : V) (bt lt : Bool) (nt : Nat) (bw : Bool) (nw : Nat) (ew : Nat → List FV) (i : Nat) (a : Nat → Ent) : St :=
  ⟨[(3, .v (AP 0)), (4, .v (AP 3)), (5, .v (.one (.sl bt 6 5 0 0 nt nt false 5))), (6, .v (.one (.f (.fs bw 5 nw ew)))), (57, .v (AI nt)), (58, .v (AI i))], [(0, .cells [I 0, I u.la, I u.pr, I u.si, .sl false 1 1 0 0 5 5 true 1, .sl false 2 5 0 0 5 5 true 5]), (1, .arr true 1 5 (intE u.sp)), (2, .arr true 5 5 (entE u.tb)), (3, .cells [I 0, I v.la, I v.pr, I v.si, .sl false 4 1 0 0 5 5 true 1, .sl false 5 5 0 0 5 5 true 5]), (4, .arr true 1 5 (intE v.sp)), (5, .arr true 5 5 (entE v.tb)), (6, .arr lt 5 nt (entE a))], 7, false, 0, []⟩

noncomputable def GUF2 : Ctx := GS.with ss_vhereO ll_sm
noncomputable def tgt_ah (u v : V) (bt lt : Bool) (nt : Nat) (et : Nat → List FV) (bw : Bool) (nw : Nat) (ew : Nat → List FV) (N : Nat) (i : Nat) (a : Nat → Int) : T (Ex × St) := evRound GUF2 300 13 Try.f13.ntmps (loopOf Try.f13 16) 8 [3, 4, 5, 6, 9, 48, 49] [3, 4, 5, 6] (S_ah u v bt lt nt et bw nw ew N i a)
noncomputable def tgt_at (u v : V) (bt lt : Bool) (nt : Nat) (bw : Bool) (nw : Nat) (ew : Nat → List FV) (i : Nat) (a : Nat → Ent) : T (Ex × St) := evRound GUF2 300 13 Try.f13.ntmps (loopOf Try.f13 21) 7 [3, 4, 5, 6, 57, 58] [3, 4, 6] (S_at u v bt lt nt bw nw ew i a)
theorem GKUF2 : KnownOk Try.prog GUF2 := KnownOk.lists ss_vhereO_ok ll_sm_ok
theorem GOUF2 : CtxOk Try.prog GUF2 := GS_ok.with _ _
theorem tree_ah (u v : V) (bt lt : Bool) (nt : Nat) (et : Nat → List FV) (bw : Bool) (nw : Nat) (ew : Nat → List FV) (N : Nat) (i : Nat) (a : Nat → Int) : (tgt_ah u v bt lt nt et bw nw ew N i a).over (.br (.tt (.br (.tt (.br .leaf .skip)) .skip)) .leaf) =
  T.br (decide ((↑i : Int) < (↑N : Int))) (T.br (decide ((0 : Int) ≤ (↑i : Int) ∧ (↑i : Int) < (↑N : Int))) (T.br (Nat.ble ((0 : Nat) + i + (1 : Nat)) N) (T.ret (Ex.normal, { sl := [((3 : Nat), SV.v (AP (0 : Nat))), ((4 : Nat), SV.v (AP (3 : Nat))), ((5 : Nat), SV.v (AV.one (CV.sl bt (6 : Nat) (5 : Nat) (0 : Nat) (0 : Nat) nt nt false (5 : Nat)))), ((6 : Nat), SV.v (AV.one (CV.f (FV.fs bw (5 : Nat) nw fun a => ew a)))), ((9 : Nat), SV.v (AV.one (CV.sl false (7 : Nat) (1 : Nat) (0 : Nat) (0 : Nat) N N true (1 : Nat)))), ((48 : Nat), SV.v (AI (↑N : Int))), ((49 : Nat), SV.v (AI (IntKind.wrap IntKind.i64 ((↑i : Int) + (1 : Int)))))], H := [((0 : Nat), Ob.cells [I (0 : Int), I (V.la u), I (V.pr u), I (V.si u), CV.sl false (1 : Nat) (1 : Nat) (0 : Nat) (0 : Nat) (5 : Nat) (5 : Nat) true (1 : Nat), CV.sl false (2 : Nat) (5 : Nat) (0 : Nat) (0 : Nat) (5 : Nat) (5 : Nat) true (5 : Nat)]), ((1 : Nat), Ob.arr true (1 : Nat) (5 : Nat) fun a => [FV.lit (Value.int IntKind.i64 (V.sp u a))]), ((2 : Nat), Ob.arr true (5 : Nat) (5 : Nat) fun a => [FV.lit (Value.int IntKind.i64 (Ent.inc (V.tb u a))), FV.lit (Value.int IntKind.i64 (Ent.st (V.tb u a))), FV.lit (Value.int IntKind.i64 (Ent.stamp (V.tb u a))), FV.lit (Value.int IntKind.i64 (Ent.load (V.tb u a))), FV.lit (Value.bool (Ent.dr (V.tb u a)))]), ((3 : Nat), Ob.cells [I (0 : Int), I (V.la v), I (V.pr v), I (V.si v), CV.sl false (4 : Nat) (1 : Nat) (0 : Nat) (0 : Nat) (5 : Nat) (5 : Nat) true (1 : Nat), CV.sl false (5 : Nat) (5 : Nat) (0 : Nat) (0 : Nat) (5 : Nat) (5 : Nat) true (5 : Nat)]), ((4 : Nat), Ob.arr true (1 : Nat) (5 : Nat) fun a => [FV.lit (Value.int IntKind.i64 (V.sp v a))]), ((5 : Nat), Ob.arr true (5 : Nat) (5 : Nat) fun a => [FV.lit (Value.int IntKind.i64 (Ent.inc (V.tb v a))), FV.lit (Value.int IntKind.i64 (Ent.st (V.tb v a))), FV.lit (Value.int IntKind.i64 (Ent.stamp (V.tb v a))), FV.lit (Value.int IntKind.i64 (Ent.load (V.tb v a))), FV.lit (Value.bool (Ent.dr (V.tb v a)))]), ((6 : Nat), Ob.arr lt (5 : Nat) nt fun a => et a), ((7 : Nat), Ob.arr true (1 : Nat) N fun i' => [FV.lit (Value.int IntKind.i64 (bif Nat.beq i' ((0 : Nat) + i) then (-1 : Int) else a i'))])], nx := (8 : Nat), esc := false, base := (0 : Nat), wr := [] : St })) T.bad) T.bad) (T.ret (Ex.exit (2 : Nat), { sl := [((3 : Nat), SV.v (AP (0 : Nat))), ((4 : Nat), SV.v (AP (3 : Nat))), ((5 : Nat), SV.v (AV.one (CV.sl bt (6 : Nat) (5 : Nat) (0 : Nat) (0 : Nat) nt nt false (5 : Nat)))), ((6 : Nat), SV.v (AV.one (CV.f (FV.fs bw (5 : Nat) nw fun a => ew a))))], H := [((0 : Nat), Ob.cells [I (0 : Int), I (V.la u), I (V.pr u), I (V.si u), CV.sl false (1 : Nat) (1 : Nat) (0 : Nat) (0 : Nat) (5 : Nat) (5 : Nat) true (1 : Nat), CV.sl false (2 : Nat) (5 : Nat) (0 : Nat) (0 : Nat) (5 : Nat) (5 : Nat) true (5 : Nat)]), ((1 : Nat), Ob.arr true (1 : Nat) (5 : Nat) fun a => [FV.lit (Value.int IntKind.i64 (V.sp u a))]), ((2 : Nat), Ob.arr true (5 : Nat) (5 : Nat) fun a => [FV.lit (Value.int IntKind.i64 (Ent.inc (V.tb u a))), FV.lit (Value.int IntKind.i64 (Ent.st (V.tb u a))), FV.lit (Value.int IntKind.i64 (Ent.stamp (V.tb u a))), FV.lit (Value.int IntKind.i64 (Ent.load (V.tb u a))), FV.lit (Value.bool (Ent.dr (V.tb u a)))]), ((3 : Nat), Ob.cells [I (0 : Int), I (V.la v), I (V.pr v), I (V.si v), CV.sl false (4 : Nat) (1 : Nat) (0 : Nat) (0 : Nat) (5 : Nat) (5 : Nat) true (1 : Nat), CV.sl false (5 : Nat) (5 : Nat) (0 : Nat) (0 : Nat) (5 : Nat) (5 : Nat) true (5 : Nat)]), ((4 : Nat), Ob.arr true (1 : Nat) (5 : Nat) fun a => [FV.lit (Value.int IntKind.i64 (V.sp v a))]), ((5 : Nat), Ob.arr true (5 : Nat) (5 : Nat) fun a => [FV.lit (Value.int IntKind.i64 (Ent.inc (V.tb v a))), FV.lit (Value.int IntKind.i64 (Ent.st (V.tb v a))), FV.lit (Value.int IntKind.i64 (Ent.stamp (V.tb v a))), FV.lit (Value.int IntKind.i64 (Ent.load (V.tb v a))), FV.lit (Value.bool (Ent.dr (V.tb v a)))]), ((6 : Nat), Ob.arr lt (5 : Nat) nt fun a => et a), ((7 : Nat), Ob.arr true (1 : Nat) N fun a_1 => [FV.lit (Value.int IntKind.i64 (a a_1))])], nx := (8 : Nat), esc := false, base := (0 : Nat), wr := [] : St })) := by kernel_rfl
theorem tree_at (u v : V) (bt lt : Bool) (nt : Nat) (bw : Bool) (nw : Nat) (ew : Nat → List FV) (i : Nat) (a : Nat → Ent) : (tgt_at u v bt lt nt bw nw ew i a).over (.br (.br (.br (.br (.br (.br (.br (.br (.br .leaf .skip) .skip) .skip) .skip) .skip) .skip) .skip) .skip) .leaf) =
  T.br (decide ((↑i : Int) < (↑nt : Int))) (T.br (!bt) (T.br (decide ((0 : Int) ≤ (↑i : Int) ∧ (↑i : Int) < (↑nt : Int))) (T.br lt (T.br (Nat.ble ((0 : Nat) + i + (1 : Nat)) nt) (T.br (!bt) (T.br (decide ((0 : Int) ≤ (↑i : Int) ∧ (↑i : Int) < (↑nt : Int))) (T.br lt (T.br (Nat.ble ((0 : Nat) + i + (1 : Nat)) nt) (T.ret (Ex.normal, { sl := [((3 : Nat), SV.v (AP (0 : Nat))), ((4 : Nat), SV.v (AP (3 : Nat))), ((5 : Nat), SV.v (AV.one (CV.sl bt (6 : Nat) (5 : Nat) (0 : Nat) (0 : Nat) nt nt false (5 : Nat)))), ((6 : Nat), SV.v (AV.one (CV.f (FV.fs bw (5 : Nat) nw fun a => ew a)))), ((57 : Nat), SV.v (AI (↑nt : Int))), ((58 : Nat), SV.v (AI (IntKind.wrap IntKind.i64 ((↑i : Int) + (1 : Int)))))], H := [((0 : Nat), Ob.cells [I (0 : Int), I (V.la u), I (V.pr u), I (V.si u), CV.sl false (1 : Nat) (1 : Nat) (0 : Nat) (0 : Nat) (5 : Nat) (5 : Nat) true (1 : Nat), CV.sl false (2 : Nat) (5 : Nat) (0 : Nat) (0 : Nat) (5 : Nat) (5 : Nat) true (5 : Nat)]), ((1 : Nat), Ob.arr true (1 : Nat) (5 : Nat) fun a => [FV.lit (Value.int IntKind.i64 (V.sp u a))]), ((2 : Nat), Ob.arr true (5 : Nat) (5 : Nat) fun a => [FV.lit (Value.int IntKind.i64 (Ent.inc (V.tb u a))), FV.lit (Value.int IntKind.i64 (Ent.st (V.tb u a))), FV.lit (Value.int IntKind.i64 (Ent.stamp (V.tb u a))), FV.lit (Value.int IntKind.i64 (Ent.load (V.tb u a))), FV.lit (Value.bool (Ent.dr (V.tb u a)))]), ((3 : Nat), Ob.cells [I (0 : Int), I (V.la v), I (V.pr v), I (V.si v), CV.sl false (4 : Nat) (1 : Nat) (0 : Nat) (0 : Nat) (5 : Nat) (5 : Nat) true (1 : Nat), CV.sl false (5 : Nat) (5 : Nat) (0 : Nat) (0 : Nat) (5 : Nat) (5 : Nat) true (5 : Nat)]), ((4 : Nat), Ob.arr true (1 : Nat) (5 : Nat) fun a => [FV.lit (Value.int IntKind.i64 (V.sp v a))]), ((5 : Nat), Ob.arr true (5 : Nat) (5 : Nat) fun a => [FV.lit (Value.int IntKind.i64 (Ent.inc (V.tb v a))), FV.lit (Value.int IntKind.i64 (Ent.st (V.tb v a))), FV.lit (Value.int IntKind.i64 (Ent.stamp (V.tb v a))), FV.lit (Value.int IntKind.i64 (Ent.load (V.tb v a))), FV.lit (Value.bool (Ent.dr (V.tb v a)))]), ((6 : Nat), Ob.arr lt (5 : Nat) nt fun i' => [FV.lit (Value.int IntKind.i64 (bif Nat.beq i' ((0 : Nat) + i) then Ent.inc (a i') else Ent.inc (a i'))), FV.lit (Value.int IntKind.i64 (bif Nat.beq i' ((0 : Nat) + i) then Ent.st (a i') else Ent.st (a i'))), FV.lit (Value.int IntKind.i64 (bif Nat.beq i' ((0 : Nat) + i) then Ent.stamp (a i') else Ent.stamp (a i'))), FV.lit (Value.int IntKind.i64 (bif Nat.beq i' ((0 : Nat) + i) then IntKind.wrap IntKind.i64 (Ent.load (a ((0 : Nat) + i)) + (1 : Int)) else Ent.load (a i'))), FV.lit (Value.bool (bif Nat.beq i' ((0 : Nat) + i) then Ent.dr (a i') else Ent.dr (a i')))])], nx := (7 : Nat), esc := false, base := (0 : Nat), wr := [] : St })) T.bad) T.bad) T.bad) T.bad) T.bad) T.bad) T.bad) T.bad) (T.ret (Ex.exit (4 : Nat), { sl := [((3 : Nat), SV.v (AP (0 : Nat))), ((4 : Nat), SV.v (AP (3 : Nat))), ((6 : Nat), SV.v (AV.one (CV.f (FV.fs bw (5 : Nat) nw fun a => ew a))))], H := [((0 : Nat), Ob.cells [I (0 : Int), I (V.la u), I (V.pr u), I (V.si u), CV.sl false (1 : Nat) (1 : Nat) (0 : Nat) (0 : Nat) (5 : Nat) (5 : Nat) true (1 : Nat), CV.sl false (2 : Nat) (5 : Nat) (0 : Nat) (0 : Nat) (5 : Nat) (5 : Nat) true (5 : Nat)]), ((1 : Nat), Ob.arr true (1 : Nat) (5 : Nat) fun a => [FV.lit (Value.int IntKind.i64 (V.sp u a))]), ((2 : Nat), Ob.arr true (5 : Nat) (5 : Nat) fun a => [FV.lit (Value.int IntKind.i64 (Ent.inc (V.tb u a))), FV.lit (Value.int IntKind.i64 (Ent.st (V.tb u a))), FV.lit (Value.int IntKind.i64 (Ent.stamp (V.tb u a))), FV.lit (Value.int IntKind.i64 (Ent.load (V.tb u a))), FV.lit (Value.bool (Ent.dr (V.tb u a)))]), ((3 : Nat), Ob.cells [I (0 : Int), I (V.la v), I (V.pr v), I (V.si v), CV.sl false (4 : Nat) (1 : Nat) (0 : Nat) (0 : Nat) (5 : Nat) (5 : Nat) true (1 : Nat), CV.sl false (5 : Nat) (5 : Nat) (0 : Nat) (0 : Nat) (5 : Nat) (5 : Nat) true (5 : Nat)]), ((4 : Nat), Ob.arr true (1 : Nat) (5 : Nat) fun a => [FV.lit (Value.int IntKind.i64 (V.sp v a))]), ((5 : Nat), Ob.arr true (5 : Nat) (5 : Nat) fun a => [FV.lit (Value.int IntKind.i64 (Ent.inc (V.tb v a))), FV.lit (Value.int IntKind.i64 (Ent.st (V.tb v a))), FV.lit (Value.int IntKind.i64 (Ent.stamp (V.tb v a))), FV.lit (Value.int IntKind.i64 (Ent.load (V.tb v a))), FV.lit (Value.bool (Ent.dr (V.tb v a)))]), ((6 : Nat), Ob.arr lt (5 : Nat) nt fun a_1 => [FV.lit (Value.int IntKind.i64 (Ent.inc (a a_1))), FV.lit (Value.int IntKind.i64 (Ent.st (a a_1))), FV.lit (Value.int IntKind.i64 (Ent.stamp (a a_1))), FV.lit (Value.int IntKind.i64 (Ent.load (a a_1))), FV.lit (Value.bool (Ent.dr (a a_1)))])], nx := (7 : Nat), esc := false, base := (0 : Nat), wr := [] : St })) := by kernel_rfl
end Go.Proofs.Ytdoehlinboiohaa.En
