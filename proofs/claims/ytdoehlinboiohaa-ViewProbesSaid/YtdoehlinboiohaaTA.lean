/- Views: the small functions. -/
import Derived.Test.YtdoehlinboiohaaPC
namespace Go.Proofs.Ytdoehlinboiohaa.En
open Go
set_option linter.unusedVariables false
set_option linter.unusedSimpArgs false
set_option maxRecDepth 20000
set_option maxHeartbeats 1000000
abbrev intE (x : Nat → Int) : Nat → List FV := fun i => [.lit (.int .i64 (x i))]
def IntE (e : Nat → List FV) : Prop := ∃ x, e = intE x
def intOf (e : Nat → List FV) : Nat → Int := fun i => match e i with | [.lit (.int _ a)] => a | _ => 0
theorem intOf_intE (x : Nat → Int) : intOf (intE x) = x := rfl
theorem IntE_ok (x : Nat → Int) : IntE (intE x) := ⟨x, rfl⟩
/-- a view's memory -/
abbrev hv (n : Nat) (me la pr si : Int) (su : Nat → Int) (t : Nat → Ent) : Heap :=
  [(0, .cells [I me, I la, I pr, I si, .sl false 1 1 0 0 n n true 1, .sl false 2 5 0 0 n n true 5]), (1, .arr true 1 n (intE su)), (2, .arr true 5 n (entE t))]
def updT (t : Nat → Ent) (k : Nat) (x : Ent) : Nat → Ent := fun i => ⟨bif Nat.beq i k then x.inc else (t i).inc, bif Nat.beq i k then x.st else (t i).st, bif Nat.beq i k then x.stamp else (t i).stamp, bif Nat.beq i k then x.load else (t i).load, bif Nat.beq i k then x.dr else (t i).dr⟩
def updI (c : Bool) (su : Nat → Int) (k : Nat) (x : Int) : Nat → Int := fun i => bif c && Nat.beq i k then x else su i
theorem updT_eq (t : Nat → Ent) (k : Nat) (x : Ent) (i : Nat) : updT t k x i = if i = k then x else t i := by
  unfold updT
  by_cases h : i = k
  · subst h; simp
  · simp [beq_ff h, h]
theorem updI_eq (c : Bool) (su : Nat → Int) (k : Nat) (x : Int) (i : Nat) : updI c su k x i = if c = true ∧ i = k then x else su i := by
  unfold updI
  by_cases h : i = k
  · subst h; cases c <;> simp
  · cases c <;> simp [beq_ff h, h]
def setB (x was : Ent) : Bool := decide (x.st = 1 ∧ (was.st ≠ 1 ∨ was.inc ≠ x.inc))

abbrev hr (n : Nat) (me la pr si : Int) (su : Nat → Int) (t : Nat → Ent) : Heap :=
  [(0, .cells [I me, .sl false 1 5 0 0 n n true 5, .sl false 2 1 0 0 n n true 1, I pr, I si, I la]), (1, .arr true 5 n (entE t)), (2, .arr true 1 n (intE su))]
def clampH (h : Int) : Int := max 1 (min h 5)
def clampM (m h : Int) : Int := max 0 (min m (clampH h - 1))
def ent0 : Ent := ⟨0, 0, 0, 0, false⟩
def nextI (n : Nat) (me la : Int) : Int := if Int.tmod (IntKind.wrap .i64 (la + 1)) n = me then Int.tmod (IntKind.wrap .i64 (Int.tmod (IntKind.wrap .i64 (la + 1)) n + 1)) n else Int.tmod (IntKind.wrap .i64 (la + 1)) n
def atE (n : Nat) (t : Nat → Ent) (k : Int) : Ent := if 0 ≤ k ∧ k < (n : Int) then t k.toNat else ent0
/-- one more host, when the clock ticks -/
def tickB (me now : Int) (su : Nat → Int) (t : Nat → Ent) (i : Nat) : Bool := decide ((i : Int) ≠ me ∧ (t i).st = 1 ∧ 8 ≤ IntKind.wrap .i64 (now - su i))
def tkT (me now : Int) (su : Nat → Int) (i : Nat) (t : Nat → Ent) : Nat → Ent := bif tickB me now su t i then updT t i { t i with st := 2 } else t

def VPre (n c1 n2 c2 N1 N2 : Nat) (e1 e2 : Nat → List FV) : Prop := n = c1 ∧ n = n2 ∧ n = c2 ∧ n = N1 ∧ n = N2 ∧ IntE e1 ∧ EntE e2
theorem VPre_ok (n : Nat) (su : Nat → Int) (t : Nat → Ent) : VPre n n n n n n (intE su) (entE t) := ⟨rfl, rfl, rfl, rfl, rfl, ⟨su, rfl⟩, ⟨t, rfl⟩⟩

noncomputable def GTA1 : Ctx := GS.with ss_Table ll_tb
noncomputable def tgt_vset (n : Nat) (me la pr si : Int) (su : Nat → Int) (t : Nat → Ent) (now : Int) (k : Nat) (a : Ent) : T CallOut := evCallW [0, 1, 2] GTA1 300 42 [AP 0, AI now, AI k, .agg a.cv] (hv n me la pr si su t) 3
noncomputable def tgt_vnext (n : Nat) (me la pr si : Int) (su : Nat → Int) (t : Nat → Ent) : T CallOut := evCallW [] GTA1 300 41 [AP 0] (hv n me la pr si su t) 3
noncomputable def tgt_ventry (n : Nat) (me la pr si : Int) (su : Nat → Int) (t : Nat → Ent) (k : Int) : T CallOut := evCallW [] GTA1 300 28 [AP 0, AI k] (hv n me la pr si su t) 3
noncomputable def tgt_vnew (m h i : Int) : T CallOut := evCallW [0, 1, 2] GTA1 300 24 [AI m, AI h, AI i] [] 0
noncomputable def tgt_vtable (n : Nat) (me la pr si : Int) (su : Nat → Int) (t : Nat → Ent) : T CallOut := evCallZ [] GTA1 300 30 [AP 0] (hv n me la pr si su t) 3
theorem GKTA1 : KnownOk Try.prog GTA1 := KnownOk.lists ss_Table_ok ll_tb_ok
theorem GOTA1 : CtxOk Try.prog GTA1 := GS_ok.with _ _
theorem tree_vset (n : Nat) (me la pr si : Int) (su : Nat → Int) (t : Nat → Ent) (now : Int) (k : Nat) (a : Ent) : (tgt_vset n me la pr si su t now k a).over (.tt (.br (.tt (.br (.br (.tt (.tt (.tt (.br (.tt (.tt (.tt (.tt (.tt (.tt (.tt (.tt (.tt (.br (.tt (.br (.tt (.br (.tt (.br .leaf .skip)) .skip)) .skip)) .skip)))))))))) (.ff (.ff (.ff (.ff (.tt (.ff (.tt (.br (.tt (.br (.tt (.br (.tt (.br (.tt (.br .leaf .skip)) .skip)) .skip)) .skip)) (.tt (.br (.tt (.br .leaf .skip)) .skip)))))))))))))) (.ff (.ff (.ff (.ff (.ff (.ff (.tt (.br (.tt (.br .leaf .skip)) .skip))))))))) .skip)) .skip)) =
  T.br (decide ((0 : Int) ≤ (↑k : Int) ∧ (↑k : Int) < (↑n : Int))) (T.br (Nat.ble ((0 : Nat) + k + (1 : Nat)) n) (T.br (Ent.st a == (1 : Int)) (T.br (Ent.st (t ((0 : Nat) + k)) != (1 : Int)) (T.br (decide ((0 : Int) ≤ (↑k : Int) ∧ (↑k : Int) < (↑n : Int))) (T.br (Nat.ble ((0 : Nat) + k + (1 : Nat)) n) (T.br (decide ((0 : Int) ≤ (↑k : Int) ∧ (↑k : Int) < (↑n : Int))) (T.br (Nat.ble ((0 : Nat) + k + (1 : Nat)) n) (T.ret { v := SV.tup [], H := [((0 : Nat), Ob.cells [I me, I la, I pr, I si, CV.sl false (1 : Nat) (1 : Nat) (0 : Nat) (0 : Nat) n n true (1 : Nat), CV.sl false (2 : Nat) (5 : Nat) (0 : Nat) (0 : Nat) n n true (5 : Nat)]), ((1 : Nat), Ob.arr true (1 : Nat) n fun i' => [FV.lit (Value.int IntKind.i64 (bif Nat.beq i' ((0 : Nat) + k) then now else su i'))]), ((2 : Nat), Ob.arr true (5 : Nat) n fun i' => [FV.lit (Value.int IntKind.i64 (bif Nat.beq i' ((0 : Nat) + k) then Ent.inc a else Ent.inc (t i'))), FV.lit (Value.int IntKind.i64 (bif Nat.beq i' ((0 : Nat) + k) then Ent.st a else Ent.st (t i'))), FV.lit (Value.int IntKind.i64 (bif Nat.beq i' ((0 : Nat) + k) then Ent.stamp a else Ent.stamp (t i'))), FV.lit (Value.int IntKind.i64 (bif Nat.beq i' ((0 : Nat) + k) then Ent.load a else Ent.load (t i'))), FV.lit (Value.bool (bif Nat.beq i' ((0 : Nat) + k) then Ent.dr a else Ent.dr (t i')))])], nx := (3 : Nat), esc := false, wr := [(0 : Nat), (1 : Nat), (2 : Nat)] : CallOut }) T.bad) T.bad) T.bad) T.bad) (T.br (Ent.inc (t ((0 : Nat) + k)) != Ent.inc a) (T.br (decide ((0 : Int) ≤ (↑k : Int) ∧ (↑k : Int) < (↑n : Int))) (T.br (Nat.ble ((0 : Nat) + k + (1 : Nat)) n) (T.br (decide ((0 : Int) ≤ (↑k : Int) ∧ (↑k : Int) < (↑n : Int))) (T.br (Nat.ble ((0 : Nat) + k + (1 : Nat)) n) (T.ret { v := SV.tup [], H := [((0 : Nat), Ob.cells [I me, I la, I pr, I si, CV.sl false (1 : Nat) (1 : Nat) (0 : Nat) (0 : Nat) n n true (1 : Nat), CV.sl false (2 : Nat) (5 : Nat) (0 : Nat) (0 : Nat) n n true (5 : Nat)]), ((1 : Nat), Ob.arr true (1 : Nat) n fun i' => [FV.lit (Value.int IntKind.i64 (bif Nat.beq i' ((0 : Nat) + k) then now else su i'))]), ((2 : Nat), Ob.arr true (5 : Nat) n fun i' => [FV.lit (Value.int IntKind.i64 (bif Nat.beq i' ((0 : Nat) + k) then Ent.inc a else Ent.inc (t i'))), FV.lit (Value.int IntKind.i64 (bif Nat.beq i' ((0 : Nat) + k) then Ent.st a else Ent.st (t i'))), FV.lit (Value.int IntKind.i64 (bif Nat.beq i' ((0 : Nat) + k) then Ent.stamp a else Ent.stamp (t i'))), FV.lit (Value.int IntKind.i64 (bif Nat.beq i' ((0 : Nat) + k) then Ent.load a else Ent.load (t i'))), FV.lit (Value.bool (bif Nat.beq i' ((0 : Nat) + k) then Ent.dr a else Ent.dr (t i')))])], nx := (3 : Nat), esc := false, wr := [(0 : Nat), (1 : Nat), (2 : Nat)] : CallOut }) T.bad) T.bad) T.bad) T.bad) (T.br (decide ((0 : Int) ≤ (↑k : Int) ∧ (↑k : Int) < (↑n : Int))) (T.br (Nat.ble ((0 : Nat) + k + (1 : Nat)) n) (T.ret { v := SV.tup [], H := [((0 : Nat), Ob.cells [I me, I la, I pr, I si, CV.sl false (1 : Nat) (1 : Nat) (0 : Nat) (0 : Nat) n n true (1 : Nat), CV.sl false (2 : Nat) (5 : Nat) (0 : Nat) (0 : Nat) n n true (5 : Nat)]), ((1 : Nat), Ob.arr true (1 : Nat) n fun a => [FV.lit (Value.int IntKind.i64 (su a))]), ((2 : Nat), Ob.arr true (5 : Nat) n fun i' => [FV.lit (Value.int IntKind.i64 (bif Nat.beq i' ((0 : Nat) + k) then Ent.inc a else Ent.inc (t i'))), FV.lit (Value.int IntKind.i64 (bif Nat.beq i' ((0 : Nat) + k) then Ent.st a else Ent.st (t i'))), FV.lit (Value.int IntKind.i64 (bif Nat.beq i' ((0 : Nat) + k) then Ent.stamp a else Ent.stamp (t i'))), FV.lit (Value.int IntKind.i64 (bif Nat.beq i' ((0 : Nat) + k) then Ent.load a else Ent.load (t i'))), FV.lit (Value.bool (bif Nat.beq i' ((0 : Nat) + k) then Ent.dr a else Ent.dr (t i')))])], nx := (3 : Nat), esc := false, wr := [(0 : Nat), (1 : Nat), (2 : Nat)] : CallOut }) T.bad) T.bad))) (T.br (decide ((0 : Int) ≤ (↑k : Int) ∧ (↑k : Int) < (↑n : Int))) (T.br (Nat.ble ((0 : Nat) + k + (1 : Nat)) n) (T.ret { v := SV.tup [], H := [((0 : Nat), Ob.cells [I me, I la, I pr, I si, CV.sl false (1 : Nat) (1 : Nat) (0 : Nat) (0 : Nat) n n true (1 : Nat), CV.sl false (2 : Nat) (5 : Nat) (0 : Nat) (0 : Nat) n n true (5 : Nat)]), ((1 : Nat), Ob.arr true (1 : Nat) n fun a => [FV.lit (Value.int IntKind.i64 (su a))]), ((2 : Nat), Ob.arr true (5 : Nat) n fun i' => [FV.lit (Value.int IntKind.i64 (bif Nat.beq i' ((0 : Nat) + k) then Ent.inc a else Ent.inc (t i'))), FV.lit (Value.int IntKind.i64 (bif Nat.beq i' ((0 : Nat) + k) then Ent.st a else Ent.st (t i'))), FV.lit (Value.int IntKind.i64 (bif Nat.beq i' ((0 : Nat) + k) then Ent.stamp a else Ent.stamp (t i'))), FV.lit (Value.int IntKind.i64 (bif Nat.beq i' ((0 : Nat) + k) then Ent.load a else Ent.load (t i'))), FV.lit (Value.bool (bif Nat.beq i' ((0 : Nat) + k) then Ent.dr a else Ent.dr (t i')))])], nx := (3 : Nat), esc := false, wr := [(0 : Nat), (1 : Nat), (2 : Nat)] : CallOut }) T.bad) T.bad)) T.bad) T.bad := by kernel_rfl
theorem res_vset (n : Nat) (me la pr si : Int) (su : Nat → Int) (t : Nat → Ent) (now : Int) (k : Nat) (a : Ent) (h : k < n) : (tgt_vset n me la pr si su t now k a).res = some (⟨.tup [], hv n me la pr si (updI (setB a (t k)) su k now) (updT t k a), 3, false, [0, 1, 2]⟩) := by
  refine T.over_eq _ (tree_vset n me la pr si su t now k a) ?_
  simp only [T.res_br, T.res_ret, T.res_bad]
  have e1 : (0 : Int) ≤ (k : Int) ∧ (k : Int) < (n : Int) := by omega
  have e2 : Nat.ble (k + 1) n = true := ble_tt (by omega)
  have hs : setB a (t k) = (a.st == 1 && ((t k).st != 1 || (t k).inc != a.inc)) := by
    rw [Bool.eq_iff_iff]
    simp [setB]
  rw [hs]
  simp only [e1, e2, Nat.zero_add, and_self, decide_true, reduceIte]
  cases g1 : (a.st == 1) <;> cases g2 : ((t k).st != 1) <;> cases g3 : ((t k).inc != a.inc) <;> simp only [Bool.false_eq_true, reduceIte] <;> rfl
theorem tree_vnext (n : Nat) (me la pr si : Int) (su : Nat → Int) (t : Nat → Ent) : (tgt_vnext n me la pr si su t).over (.br .skip (.br (.br .skip .leaf) .leaf)) =
  T.br (decide ((↑n : Int) = (0 : Int))) T.bad
    (T.br (Int.tmod (IntKind.wrap IntKind.i64 (la + (1 : Int))) (↑n : Int) == me)
      (T.br (decide ((↑n : Int) = (0 : Int))) T.bad
        (T.ret
          { v := SV.v (AI (Int.tmod (IntKind.wrap IntKind.i64 (Int.tmod (IntKind.wrap IntKind.i64 (la + (1 : Int))) (↑n : Int) + (1 : Int))) (↑n : Int))),
            H :=
              [((0 : Nat), Ob.cells [I me, I la, I pr, I si, CV.sl false (1 : Nat) (1 : Nat) (0 : Nat) (0 : Nat) n n true (1 : Nat), CV.sl false (2 : Nat) (5 : Nat) (0 : Nat) (0 : Nat) n n true (5 : Nat)]),
                ((1 : Nat), Ob.arr true (1 : Nat) n fun a => [FV.lit (Value.int IntKind.i64 (su a))]),
                ((2 : Nat),
                  Ob.arr true (5 : Nat) n fun a =>
                    [FV.lit (Value.int IntKind.i64 (Ent.inc (t a))), FV.lit (Value.int IntKind.i64 (Ent.st (t a))), FV.lit (Value.int IntKind.i64 (Ent.stamp (t a))), FV.lit (Value.int IntKind.i64 (Ent.load (t a))),
                      FV.lit (Value.bool (Ent.dr (t a)))])],
            nx := (3 : Nat), esc := false, wr := [] : CallOut }))
      (T.ret
        { v := SV.v (AI (Int.tmod (IntKind.wrap IntKind.i64 (la + (1 : Int))) (↑n : Int))),
          H :=
            [((0 : Nat), Ob.cells [I me, I la, I pr, I si, CV.sl false (1 : Nat) (1 : Nat) (0 : Nat) (0 : Nat) n n true (1 : Nat), CV.sl false (2 : Nat) (5 : Nat) (0 : Nat) (0 : Nat) n n true (5 : Nat)]),
              ((1 : Nat), Ob.arr true (1 : Nat) n fun a => [FV.lit (Value.int IntKind.i64 (su a))]),
              ((2 : Nat),
                Ob.arr true (5 : Nat) n fun a =>
                  [FV.lit (Value.int IntKind.i64 (Ent.inc (t a))), FV.lit (Value.int IntKind.i64 (Ent.st (t a))), FV.lit (Value.int IntKind.i64 (Ent.stamp (t a))), FV.lit (Value.int IntKind.i64 (Ent.load (t a))),
                    FV.lit (Value.bool (Ent.dr (t a)))])],
          nx := (3 : Nat), esc := false, wr := [] : CallOut })) := by kernel_rfl
theorem res_vnext (n : Nat) (me la pr si : Int) (su : Nat → Int) (t : Nat → Ent) (h : 0 < n) : (tgt_vnext n me la pr si su t).res = some (⟨.v (AI (nextI n me la)), hv n me la pr si su t, 3, false, []⟩) := by
  refine T.over_eq _ (tree_vnext n me la pr si su t) ?_
  simp only [T.res_br, T.res_ret, T.res_bad]
  have e1 : ¬ (n : Int) = 0 := by omega
  simp only [e1, decide_false, Bool.false_eq_true, reduceIte, beq_iff_eq, nextI]
  split <;> rfl
theorem tree_ventry (n : Nat) (me la pr si : Int) (su : Nat → Int) (t : Nat → Ent) (k : Int) : (tgt_ventry n me la pr si su t k).over (.br (.tt (.tt (.tt (.tt (.tt (.tt (.tt (.tt .leaf)))))))) (.ff (.ff (.ff (.ff (.ff (.ff (.ff (.br .leaf (.tt (.br (.tt (.br .leaf .skip)) .skip))))))))))) =
  T.br (decide (k < (0 : Int))) (T.ret { v := SV.v (AV.agg [I (0 : Int), I (0 : Int), I (0 : Int), I (0 : Int), Bo false]), H := [((0 : Nat), Ob.cells [I me, I la, I pr, I si, CV.sl false (1 : Nat) (1 : Nat) (0 : Nat) (0 : Nat) n n true (1 : Nat), CV.sl false (2 : Nat) (5 : Nat) (0 : Nat) (0 : Nat) n n true (5 : Nat)]), ((1 : Nat), Ob.arr true (1 : Nat) n fun a => [FV.lit (Value.int IntKind.i64 (su a))]), ((2 : Nat), Ob.arr true (5 : Nat) n fun a => [FV.lit (Value.int IntKind.i64 (Ent.inc (t a))), FV.lit (Value.int IntKind.i64 (Ent.st (t a))), FV.lit (Value.int IntKind.i64 (Ent.stamp (t a))), FV.lit (Value.int IntKind.i64 (Ent.load (t a))), FV.lit (Value.bool (Ent.dr (t a)))])], nx := (3 : Nat), esc := false, wr := [] : CallOut }) (T.br (decide (k ≥ (↑n : Int))) (T.ret { v := SV.v (AV.agg [I (0 : Int), I (0 : Int), I (0 : Int), I (0 : Int), Bo false]), H := [((0 : Nat), Ob.cells [I me, I la, I pr, I si, CV.sl false (1 : Nat) (1 : Nat) (0 : Nat) (0 : Nat) n n true (1 : Nat), CV.sl false (2 : Nat) (5 : Nat) (0 : Nat) (0 : Nat) n n true (5 : Nat)]), ((1 : Nat), Ob.arr true (1 : Nat) n fun a => [FV.lit (Value.int IntKind.i64 (su a))]), ((2 : Nat), Ob.arr true (5 : Nat) n fun a => [FV.lit (Value.int IntKind.i64 (Ent.inc (t a))), FV.lit (Value.int IntKind.i64 (Ent.st (t a))), FV.lit (Value.int IntKind.i64 (Ent.stamp (t a))), FV.lit (Value.int IntKind.i64 (Ent.load (t a))), FV.lit (Value.bool (Ent.dr (t a)))])], nx := (3 : Nat), esc := false, wr := [] : CallOut }) (T.br (decide ((0 : Int) ≤ k ∧ k < (↑n : Int))) (T.br (Nat.ble ((0 : Nat) + Int.toNat k + (1 : Nat)) n) (T.ret { v := SV.v (AV.agg [I (Ent.inc (t ((0 : Nat) + Int.toNat k))), I (Ent.st (t ((0 : Nat) + Int.toNat k))), I (Ent.stamp (t ((0 : Nat) + Int.toNat k))), I (Ent.load (t ((0 : Nat) + Int.toNat k))), Bo (Ent.dr (t ((0 : Nat) + Int.toNat k)))]), H := [((0 : Nat), Ob.cells [I me, I la, I pr, I si, CV.sl false (1 : Nat) (1 : Nat) (0 : Nat) (0 : Nat) n n true (1 : Nat), CV.sl false (2 : Nat) (5 : Nat) (0 : Nat) (0 : Nat) n n true (5 : Nat)]), ((1 : Nat), Ob.arr true (1 : Nat) n fun a => [FV.lit (Value.int IntKind.i64 (su a))]), ((2 : Nat), Ob.arr true (5 : Nat) n fun a => [FV.lit (Value.int IntKind.i64 (Ent.inc (t a))), FV.lit (Value.int IntKind.i64 (Ent.st (t a))), FV.lit (Value.int IntKind.i64 (Ent.stamp (t a))), FV.lit (Value.int IntKind.i64 (Ent.load (t a))), FV.lit (Value.bool (Ent.dr (t a)))])], nx := (3 : Nat), esc := false, wr := [] : CallOut }) T.bad) T.bad)) := by kernel_rfl
theorem res_ventry (n : Nat) (me la pr si : Int) (su : Nat → Int) (t : Nat → Ent) (k : Int) : (tgt_ventry n me la pr si su t k).res = some (⟨.v (.agg (atE n t k).cv), hv n me la pr si su t, 3, false, []⟩) := by
  refine T.over_eq _ (tree_ventry n me la pr si su t k) ?_
  simp only [T.res_br, T.res_ret, T.res_bad]
  by_cases h : 0 ≤ k ∧ k < (n : Int)
  · have e1 : ¬ k < 0 := by omega
    have e2 : ¬ (k ≥ (n : Int)) := by omega
    have e3 : Nat.ble (k.toNat + 1) n = true := ble_tt (by omega)
    simp only [e1, e2, e3, h, Nat.zero_add, and_self, decide_true, decide_false, Bool.false_eq_true, reduceIte, atE]
  · have hx : k < 0 ∨ k ≥ (n : Int) := by omega
    have ha : atE n t k = ent0 := if_neg h
    rw [ha]
    by_cases h1 : k < 0
    · simp only [h1, decide_true, reduceIte]; rfl
    · have h2 : k ≥ (n : Int) := by omega
      simp only [h1, h2, decide_true, decide_false, Bool.false_eq_true, reduceIte]; rfl
theorem tree_vnew (m h i : Int) : (tgt_vnew m h i).over (.br (.br (.tt (.br (.tt (.br .leaf .skip)) .skip)) .skip) .skip) =
  T.br (decide (((0 : Int) ≤ if (if (5 : Int) < h then (5 : Int) else h) > (1 : Int) then if (5 : Int) < h then (5 : Int) else h else (1 : Int)) ∧ ((if (if (5 : Int) < h then (5 : Int) else h) > (1 : Int) then if (5 : Int) < h then (5 : Int) else h else (1 : Int)) ≤ if (if (5 : Int) < h then (5 : Int) else h) > (1 : Int) then if (5 : Int) < h then (5 : Int) else h else (1 : Int)) ∧ (if (if (5 : Int) < h then (5 : Int) else h) > (1 : Int) then if (5 : Int) < h then (5 : Int) else h else (1 : Int)) * (8 : Int) ≤ (281474976710656 : Int) ∧ (if (if (5 : Int) < h then (5 : Int) else h) > (1 : Int) then if (5 : Int) < h then (5 : Int) else h else (1 : Int)) ≤ (9223372036854775807 : Int))) (T.br (decide (((0 : Int) ≤ if (if (5 : Int) < h then (5 : Int) else h) > (1 : Int) then if (5 : Int) < h then (5 : Int) else h else (1 : Int)) ∧ ((if (if (5 : Int) < h then (5 : Int) else h) > (1 : Int) then if (5 : Int) < h then (5 : Int) else h else (1 : Int)) ≤ if (if (5 : Int) < h then (5 : Int) else h) > (1 : Int) then if (5 : Int) < h then (5 : Int) else h else (1 : Int)) ∧ (if (if (5 : Int) < h then (5 : Int) else h) > (1 : Int) then if (5 : Int) < h then (5 : Int) else h else (1 : Int)) * (40 : Int) ≤ (281474976710656 : Int) ∧ (if (if (5 : Int) < h then (5 : Int) else h) > (1 : Int) then if (5 : Int) < h then (5 : Int) else h else (1 : Int)) ≤ (9223372036854775807 : Int))) (T.br (decide (((0 : Int) ≤ if (if IntKind.wrap IntKind.i64 ((if (if (5 : Int) < h then (5 : Int) else h) > (1 : Int) then if (5 : Int) < h then (5 : Int) else h else (1 : Int)) - (1 : Int)) < m then IntKind.wrap IntKind.i64 ((if (if (5 : Int) < h then (5 : Int) else h) > (1 : Int) then if (5 : Int) < h then (5 : Int) else h else (1 : Int)) - (1 : Int)) else m) > (0 : Int) then if IntKind.wrap IntKind.i64 ((if (if (5 : Int) < h then (5 : Int) else h) > (1 : Int) then if (5 : Int) < h then (5 : Int) else h else (1 : Int)) - (1 : Int)) < m then IntKind.wrap IntKind.i64 ((if (if (5 : Int) < h then (5 : Int) else h) > (1 : Int) then if (5 : Int) < h then (5 : Int) else h else (1 : Int)) - (1 : Int)) else m else (0 : Int)) ∧ (if (if IntKind.wrap IntKind.i64 ((if (if (5 : Int) < h then (5 : Int) else h) > (1 : Int) then if (5 : Int) < h then (5 : Int) else h else (1 : Int)) - (1 : Int)) < m then IntKind.wrap IntKind.i64 ((if (if (5 : Int) < h then (5 : Int) else h) > (1 : Int) then if (5 : Int) < h then (5 : Int) else h else (1 : Int)) - (1 : Int)) else m) > (0 : Int) then if IntKind.wrap IntKind.i64 ((if (if (5 : Int) < h then (5 : Int) else h) > (1 : Int) then if (5 : Int) < h then (5 : Int) else h else (1 : Int)) - (1 : Int)) < m then IntKind.wrap IntKind.i64 ((if (if (5 : Int) < h then (5 : Int) else h) > (1 : Int) then if (5 : Int) < h then (5 : Int) else h else (1 : Int)) - (1 : Int)) else m else (0 : Int)) < (↑(Int.toNat (if (if (5 : Int) < h then (5 : Int) else h) > (1 : Int) then if (5 : Int) < h then (5 : Int) else h else (1 : Int))) : Int))) (T.br (Nat.ble ((0 : Nat) + Int.toNat (if (if IntKind.wrap IntKind.i64 ((if (if (5 : Int) < h then (5 : Int) else h) > (1 : Int) then if (5 : Int) < h then (5 : Int) else h else (1 : Int)) - (1 : Int)) < m then IntKind.wrap IntKind.i64 ((if (if (5 : Int) < h then (5 : Int) else h) > (1 : Int) then if (5 : Int) < h then (5 : Int) else h else (1 : Int)) - (1 : Int)) else m) > (0 : Int) then if IntKind.wrap IntKind.i64 ((if (if (5 : Int) < h then (5 : Int) else h) > (1 : Int) then if (5 : Int) < h then (5 : Int) else h else (1 : Int)) - (1 : Int)) < m then IntKind.wrap IntKind.i64 ((if (if (5 : Int) < h then (5 : Int) else h) > (1 : Int) then if (5 : Int) < h then (5 : Int) else h else (1 : Int)) - (1 : Int)) else m else (0 : Int)) + (1 : Nat)) (Int.toNat (if (if (5 : Int) < h then (5 : Int) else h) > (1 : Int) then if (5 : Int) < h then (5 : Int) else h else (1 : Int)))) (T.ret { v := SV.v (AP (2 : Nat)), H := [((2 : Nat), Ob.cells [I (if (if IntKind.wrap IntKind.i64 ((if (if (5 : Int) < h then (5 : Int) else h) > (1 : Int) then if (5 : Int) < h then (5 : Int) else h else (1 : Int)) - (1 : Int)) < m then IntKind.wrap IntKind.i64 ((if (if (5 : Int) < h then (5 : Int) else h) > (1 : Int) then if (5 : Int) < h then (5 : Int) else h else (1 : Int)) - (1 : Int)) else m) > (0 : Int) then if IntKind.wrap IntKind.i64 ((if (if (5 : Int) < h then (5 : Int) else h) > (1 : Int) then if (5 : Int) < h then (5 : Int) else h else (1 : Int)) - (1 : Int)) < m then IntKind.wrap IntKind.i64 ((if (if (5 : Int) < h then (5 : Int) else h) > (1 : Int) then if (5 : Int) < h then (5 : Int) else h else (1 : Int)) - (1 : Int)) else m else (0 : Int)), I (if (if IntKind.wrap IntKind.i64 ((if (if (5 : Int) < h then (5 : Int) else h) > (1 : Int) then if (5 : Int) < h then (5 : Int) else h else (1 : Int)) - (1 : Int)) < m then IntKind.wrap IntKind.i64 ((if (if (5 : Int) < h then (5 : Int) else h) > (1 : Int) then if (5 : Int) < h then (5 : Int) else h else (1 : Int)) - (1 : Int)) else m) > (0 : Int) then if IntKind.wrap IntKind.i64 ((if (if (5 : Int) < h then (5 : Int) else h) > (1 : Int) then if (5 : Int) < h then (5 : Int) else h else (1 : Int)) - (1 : Int)) < m then IntKind.wrap IntKind.i64 ((if (if (5 : Int) < h then (5 : Int) else h) > (1 : Int) then if (5 : Int) < h then (5 : Int) else h else (1 : Int)) - (1 : Int)) else m else (0 : Int)), I (-1 : Int), I (0 : Int), CV.sl false (0 : Nat) (1 : Nat) (0 : Nat) (0 : Nat) (Int.toNat (if (if (5 : Int) < h then (5 : Int) else h) > (1 : Int) then if (5 : Int) < h then (5 : Int) else h else (1 : Int))) (Int.toNat (if (if (5 : Int) < h then (5 : Int) else h) > (1 : Int) then if (5 : Int) < h then (5 : Int) else h else (1 : Int))) true (1 : Nat), CV.sl false (1 : Nat) (5 : Nat) (0 : Nat) (0 : Nat) (Int.toNat (if (if (5 : Int) < h then (5 : Int) else h) > (1 : Int) then if (5 : Int) < h then (5 : Int) else h else (1 : Int))) (Int.toNat (if (if (5 : Int) < h then (5 : Int) else h) > (1 : Int) then if (5 : Int) < h then (5 : Int) else h else (1 : Int))) true (5 : Nat)]), ((1 : Nat), Ob.arr true (5 : Nat) (Int.toNat (if (if (5 : Int) < h then (5 : Int) else h) > (1 : Int) then if (5 : Int) < h then (5 : Int) else h else (1 : Int))) fun i' => [FV.lit (Value.int IntKind.i64 (bif Nat.beq i' ((0 : Nat) + Int.toNat (if (if IntKind.wrap IntKind.i64 ((if (if (5 : Int) < h then (5 : Int) else h) > (1 : Int) then if (5 : Int) < h then (5 : Int) else h else (1 : Int)) - (1 : Int)) < m then IntKind.wrap IntKind.i64 ((if (if (5 : Int) < h then (5 : Int) else h) > (1 : Int) then if (5 : Int) < h then (5 : Int) else h else (1 : Int)) - (1 : Int)) else m) > (0 : Int) then if IntKind.wrap IntKind.i64 ((if (if (5 : Int) < h then (5 : Int) else h) > (1 : Int) then if (5 : Int) < h then (5 : Int) else h else (1 : Int)) - (1 : Int)) < m then IntKind.wrap IntKind.i64 ((if (if (5 : Int) < h then (5 : Int) else h) > (1 : Int) then if (5 : Int) < h then (5 : Int) else h else (1 : Int)) - (1 : Int)) else m else (0 : Int))) then i else (0 : Int))), FV.lit (Value.int IntKind.i64 (bif Nat.beq i' ((0 : Nat) + Int.toNat (if (if IntKind.wrap IntKind.i64 ((if (if (5 : Int) < h then (5 : Int) else h) > (1 : Int) then if (5 : Int) < h then (5 : Int) else h else (1 : Int)) - (1 : Int)) < m then IntKind.wrap IntKind.i64 ((if (if (5 : Int) < h then (5 : Int) else h) > (1 : Int) then if (5 : Int) < h then (5 : Int) else h else (1 : Int)) - (1 : Int)) else m) > (0 : Int) then if IntKind.wrap IntKind.i64 ((if (if (5 : Int) < h then (5 : Int) else h) > (1 : Int) then if (5 : Int) < h then (5 : Int) else h else (1 : Int)) - (1 : Int)) < m then IntKind.wrap IntKind.i64 ((if (if (5 : Int) < h then (5 : Int) else h) > (1 : Int) then if (5 : Int) < h then (5 : Int) else h else (1 : Int)) - (1 : Int)) else m else (0 : Int))) then (0 : Int) else (0 : Int))), FV.lit (Value.int IntKind.i64 (bif Nat.beq i' ((0 : Nat) + Int.toNat (if (if IntKind.wrap IntKind.i64 ((if (if (5 : Int) < h then (5 : Int) else h) > (1 : Int) then if (5 : Int) < h then (5 : Int) else h else (1 : Int)) - (1 : Int)) < m then IntKind.wrap IntKind.i64 ((if (if (5 : Int) < h then (5 : Int) else h) > (1 : Int) then if (5 : Int) < h then (5 : Int) else h else (1 : Int)) - (1 : Int)) else m) > (0 : Int) then if IntKind.wrap IntKind.i64 ((if (if (5 : Int) < h then (5 : Int) else h) > (1 : Int) then if (5 : Int) < h then (5 : Int) else h else (1 : Int)) - (1 : Int)) < m then IntKind.wrap IntKind.i64 ((if (if (5 : Int) < h then (5 : Int) else h) > (1 : Int) then if (5 : Int) < h then (5 : Int) else h else (1 : Int)) - (1 : Int)) else m else (0 : Int))) then (0 : Int) else (0 : Int))), FV.lit (Value.int IntKind.i64 (bif Nat.beq i' ((0 : Nat) + Int.toNat (if (if IntKind.wrap IntKind.i64 ((if (if (5 : Int) < h then (5 : Int) else h) > (1 : Int) then if (5 : Int) < h then (5 : Int) else h else (1 : Int)) - (1 : Int)) < m then IntKind.wrap IntKind.i64 ((if (if (5 : Int) < h then (5 : Int) else h) > (1 : Int) then if (5 : Int) < h then (5 : Int) else h else (1 : Int)) - (1 : Int)) else m) > (0 : Int) then if IntKind.wrap IntKind.i64 ((if (if (5 : Int) < h then (5 : Int) else h) > (1 : Int) then if (5 : Int) < h then (5 : Int) else h else (1 : Int)) - (1 : Int)) < m then IntKind.wrap IntKind.i64 ((if (if (5 : Int) < h then (5 : Int) else h) > (1 : Int) then if (5 : Int) < h then (5 : Int) else h else (1 : Int)) - (1 : Int)) else m else (0 : Int))) then (0 : Int) else (0 : Int))), FV.lit (Value.bool (bif Nat.beq i' ((0 : Nat) + Int.toNat (if (if IntKind.wrap IntKind.i64 ((if (if (5 : Int) < h then (5 : Int) else h) > (1 : Int) then if (5 : Int) < h then (5 : Int) else h else (1 : Int)) - (1 : Int)) < m then IntKind.wrap IntKind.i64 ((if (if (5 : Int) < h then (5 : Int) else h) > (1 : Int) then if (5 : Int) < h then (5 : Int) else h else (1 : Int)) - (1 : Int)) else m) > (0 : Int) then if IntKind.wrap IntKind.i64 ((if (if (5 : Int) < h then (5 : Int) else h) > (1 : Int) then if (5 : Int) < h then (5 : Int) else h else (1 : Int)) - (1 : Int)) < m then IntKind.wrap IntKind.i64 ((if (if (5 : Int) < h then (5 : Int) else h) > (1 : Int) then if (5 : Int) < h then (5 : Int) else h else (1 : Int)) - (1 : Int)) else m else (0 : Int))) then false else false))]), ((0 : Nat), Ob.arr true (1 : Nat) (Int.toNat (if (if (5 : Int) < h then (5 : Int) else h) > (1 : Int) then if (5 : Int) < h then (5 : Int) else h else (1 : Int))) fun x => [FV.lit (Value.int IntKind.i64 (0 : Int))])], nx := (3 : Nat), esc := false, wr := [(0 : Nat), (1 : Nat), (2 : Nat)] : CallOut }) T.bad) T.bad) T.bad) T.bad := by kernel_rfl
theorem res_vnew (m h i : Int) : (tgt_vnew m h i).res = some (⟨.v (AP 2), [(2, .cells [I (clampM m h), I (clampM m h), I (-1), I 0, .sl false 0 1 0 0 (clampH h).toNat (clampH h).toNat true 1, .sl false 1 5 0 0 (clampH h).toNat (clampH h).toNat true 5]), (1, .arr true 5 (clampH h).toNat (entE (updT (fun _ => ent0) (clampM m h).toNat { ent0 with inc := i }))), (0, .arr true 1 (clampH h).toNat (intE fun _ => 0))], 3, false, [0, 1, 2]⟩) := by
  refine T.over_eq _ (tree_vnew m h i) ?_
  simp only [T.res_br, T.res_ret, T.res_bad]
  have h0 : 1 ≤ clampH h ∧ clampH h ≤ 5 := by unfold clampH; omega
  have hH : (if (if (5 : Int) < h then (5 : Int) else h) > (1 : Int) then if (5 : Int) < h then (5 : Int) else h else (1 : Int)) = clampH h := by
    unfold clampH
    repeat' split
    all_goals omega
  simp only [hH]
  have hw : IntKind.wrap .i64 (clampH h - 1) = clampH h - 1 := wrapI (by omega)
  simp only [hw]
  have hM : (if (if clampH h - 1 < m then clampH h - 1 else m) > (0 : Int) then if clampH h - 1 < m then clampH h - 1 else m else (0 : Int)) = clampM m h := by
    unfold clampM
    repeat' split
    all_goals omega
  simp only [hM]
  have hm : 0 ≤ clampM m h ∧ clampM m h < clampH h := by unfold clampM; omega
  obtain ⟨n, hn⟩ : ∃ n : Nat, clampH h = n := ⟨(clampH h).toNat, by omega⟩
  obtain ⟨k, hk⟩ : ∃ k : Nat, clampM m h = k := ⟨(clampM m h).toNat, by omega⟩
  rw [hn] at h0 hm
  rw [hk] at hm
  simp only [hn, hk, Int.toNat_natCast, Nat.zero_add]
  have e1 : (0 : Int) ≤ (n : Int) ∧ (n : Int) ≤ (n : Int) ∧ (n : Int) * ((8 : Nat) : Int) ≤ 281474976710656 ∧ (n : Int) ≤ 9223372036854775807 := by omega
  have e2 : (0 : Int) ≤ (n : Int) ∧ (n : Int) ≤ (n : Int) ∧ (n : Int) * ((40 : Nat) : Int) ≤ 281474976710656 ∧ (n : Int) ≤ 9223372036854775807 := by omega
  have e5 : (n : Int) * 8 ≤ 281474976710656 := by omega
  have e6 : (n : Int) * 40 ≤ 281474976710656 := by omega
  have e3 : (0 : Int) ≤ (k : Int) ∧ (k : Int) < (n : Int) := by omega
  have e4 : Nat.ble (k + 1) n = true := ble_tt (by omega)
  simp only [e1, e2, e3, e4, e5, e6, and_self, decide_true, reduceIte]
  rfl
theorem tree_vtable (n : Nat) (me la pr si : Int) (su : Nat → Int) (t : Nat → Ent) : (tgt_vtable n me la pr si su t).over (.ff (.br (.br (.tt (.tt (.tt .leaf))) (.br (.tt .skip) (.br (.tt (.br (.br (.br .leaf (.tt (.br .leaf .skip))) .skip) .skip)) .skip))) .skip)) =
  T.br (Nat.ble ((0 : Nat) + n) n) (T.br (Nat.beq n (0 : Nat)) (T.ret { v := SV.v (AV.one (CV.f (FV.z0 false))), H := [((0 : Nat), Ob.cells [I me, I la, I pr, I si, CV.sl false (1 : Nat) (1 : Nat) (0 : Nat) (0 : Nat) n n true (1 : Nat), CV.sl false (2 : Nat) (5 : Nat) (0 : Nat) (0 : Nat) n n true (5 : Nat)]), ((1 : Nat), Ob.arr true (1 : Nat) n fun a => [FV.lit (Value.int IntKind.i64 (su a))]), ((2 : Nat), Ob.arr true (5 : Nat) n fun a => [FV.lit (Value.int IntKind.i64 (Ent.inc (t a))), FV.lit (Value.int IntKind.i64 (Ent.st (t a))), FV.lit (Value.int IntKind.i64 (Ent.stamp (t a))), FV.lit (Value.int IntKind.i64 (Ent.load (t a))), FV.lit (Value.bool (Ent.dr (t a)))])], nx := (3 : Nat), esc := false, wr := [] : CallOut }) (T.br (Nat.ble ((0 : Nat) + n) (0 : Nat)) T.bad (T.br (smallB ((0 : Nat) + n) (40 : Nat)) (T.br (decide ((0 : Int) ≤ (↑((0 : Nat) + n) : Int) ∧ (↑((0 : Nat) + n) : Int) ≤ (↑((0 : Nat) + n) : Int))) (T.br (decide ((0 : Int) ≤ (↑((0 : Nat) + n) : Int) ∧ (↑((0 : Nat) + n) : Int) ≤ (↑((0 : Nat) + n) : Int))) (T.br (Nat.beq ((0 : Nat) + n) (0 : Nat)) (T.ret { v := SV.v (AV.one (CV.f (FV.z0 false))), H := [((0 : Nat), Ob.cells [I me, I la, I pr, I si, CV.sl false (1 : Nat) (1 : Nat) (0 : Nat) (0 : Nat) n n true (1 : Nat), CV.sl false (2 : Nat) (5 : Nat) (0 : Nat) (0 : Nat) n n true (5 : Nat)]), ((1 : Nat), Ob.arr true (1 : Nat) n fun a => [FV.lit (Value.int IntKind.i64 (su a))]), ((2 : Nat), Ob.arr true (5 : Nat) n fun a => [FV.lit (Value.int IntKind.i64 (Ent.inc (t a))), FV.lit (Value.int IntKind.i64 (Ent.st (t a))), FV.lit (Value.int IntKind.i64 (Ent.stamp (t a))), FV.lit (Value.int IntKind.i64 (Ent.load (t a))), FV.lit (Value.bool (Ent.dr (t a)))])], nx := (3 : Nat), esc := false, wr := [] : CallOut }) (T.br (Nat.ble ((0 : Nat) + n - (0 : Nat)) ((0 : Nat) + n) && true) (T.ret { v := SV.v (AV.one (CV.f (FV.fs false (5 : Nat) ((0 : Nat) + n - (0 : Nat)) fun i => [FV.lit (Value.int IntKind.i64 (Ent.inc (t ((0 : Nat) + (i - (0 : Nat)))))), FV.lit (Value.int IntKind.i64 (Ent.st (t ((0 : Nat) + (i - (0 : Nat)))))), FV.lit (Value.int IntKind.i64 (Ent.stamp (t ((0 : Nat) + (i - (0 : Nat)))))), FV.lit (Value.int IntKind.i64 (Ent.load (t ((0 : Nat) + (i - (0 : Nat)))))), FV.lit (Value.bool (Ent.dr (t ((0 : Nat) + (i - (0 : Nat))))))]))), H := [((0 : Nat), Ob.cells [I me, I la, I pr, I si, CV.sl false (1 : Nat) (1 : Nat) (0 : Nat) (0 : Nat) n n true (1 : Nat), CV.sl false (2 : Nat) (5 : Nat) (0 : Nat) (0 : Nat) n n true (5 : Nat)]), ((1 : Nat), Ob.arr true (1 : Nat) n fun a => [FV.lit (Value.int IntKind.i64 (su a))]), ((2 : Nat), Ob.arr true (5 : Nat) n fun a => [FV.lit (Value.int IntKind.i64 (Ent.inc (t a))), FV.lit (Value.int IntKind.i64 (Ent.st (t a))), FV.lit (Value.int IntKind.i64 (Ent.stamp (t a))), FV.lit (Value.int IntKind.i64 (Ent.load (t a))), FV.lit (Value.bool (Ent.dr (t a)))])], nx := (3 : Nat), esc := false, wr := [] : CallOut }) T.bad)) T.bad) T.bad) T.bad))) T.bad := by kernel_rfl
theorem res_vtable (n : Nat) (me la pr si : Int) (su : Nat → Int) (t : Nat → Ent) (h : 0 < n ∧ n ≤ 5) : (tgt_vtable n me la pr si su t).res = some (⟨.v (.one (.f (.fs false 5 n (entE t)))), hv n me la pr si su t, 3, false, []⟩) := by
  refine T.over_eq _ (tree_vtable n me la pr si su t) ?_
  simp only [T.res_br, T.res_ret, T.res_bad]
  have e1 : Nat.ble n n = true := ble_tt (Nat.le_refl _)
  have e2 : Nat.beq n 0 = false := beq_ff (by omega)
  have e3 : Nat.ble n 0 = false := ble_false (by omega)
  have e4 : smallB n 40 = true := smallB_le (by omega) (by omega)
  have e5 : (0 : Int) ≤ (n : Int) ∧ (n : Int) ≤ (n : Int) := by omega
  simp only [e1, e2, e3, e4, e5, Nat.zero_add, Nat.sub_zero, and_self, decide_true, Bool.and_self, Bool.false_eq_true, reduceIte, Bool.or_false, Bool.not_false, Bool.and_true, Bool.true_or]
noncomputable def F_vnew : SumF
  | [.one (.f (.lit (.int .i64 m))), .one (.f (.lit (.int .i64 h))), .one (.f (.lit (.int .i64 i)))], [], 0 => .ret (⟨.v (AP 2), [(2, .cells [I (clampM m h), I (clampM m h), I (-1), I 0, .sl false 0 1 0 0 (clampH h).toNat (clampH h).toNat true 1, .sl false 1 5 0 0 (clampH h).toNat (clampH h).toNat true 5]), (1, .arr true 5 (clampH h).toNat (entE (updT (fun _ => ent0) (clampM m h).toNat { ent0 with inc := i }))), (0, .arr true 1 (clampH h).toNat (intE fun _ => 0))], 3, false, [0, 1, 2]⟩)
  | _, _, _ => .bad
theorem sum_vnew : SumOk Try.prog 24 F_vnew := by
  refine ⟨fun args H nx r hr => ?_, fun args H nx => ?_⟩
  · unfold F_vnew at hr
    split at hr
    · rename_i m h i
      have := T.ret_some hr
      subst this
      exact evCallW_ok GOTA1 GKTA1 (res_vnew _ _ _)
    · exact (T.bad_some hr).elim
  · unfold F_vnew
    split
    · exact ⟨Nat.zero_le _, fun b hb hw => absurd hb (Nat.not_lt_zero b)⟩
    · trivial
noncomputable def sm_vnew : SumF := canonSum F_vnew
theorem sm_vnew_ok : SumOk Try.prog 24 sm_vnew := canonSum_ok sum_vnew
noncomputable def ss_vnew : List (Nat × SumF) := (24, sm_vnew) :: ss_Table
theorem ss_vnew_ok : ∀ x ∈ ss_vnew, SumOk Try.prog x.1 x.2 := List.forall_mem_cons.2 ⟨sm_vnew_ok, ss_Table_ok⟩
noncomputable def F_vset : SumF
  | [.one (.ptr 0 0 0 0), .one (.f (.lit (.int .i64 now))), .one (.f (.lit (.int .i64 k))), .agg [.f (.lit (.int .i64 a1)), .f (.lit (.int .i64 a2)), .f (.lit (.int .i64 a3)), .f (.lit (.int .i64 a4)), .f (.lit (.bool a5))]], [(0, .cells [.f (.lit (.int .i64 me)), .f (.lit (.int .i64 la)), .f (.lit (.int .i64 pr)), .f (.lit (.int .i64 si)), .sl false 1 1 0 0 n c1 true 1, .sl false 2 5 0 0 n2 c2 true 5]), (1, .arr true 1 N1 e1), (2, .arr true 5 N2 e2)], 3 => .need (pb (VPre n c1 n2 c2 N1 N2 e1 e2 ∧ 0 ≤ k ∧ k < (n : Int))) (.ret (⟨.tup [], hv n me la pr si (updI (setB ⟨a1, a2, a3, a4, a5⟩ ((entOf e2) k.toNat)) (intOf e1) k.toNat now) (updT (entOf e2) k.toNat ⟨a1, a2, a3, a4, a5⟩), 3, false, [0, 1, 2]⟩))
  | _, _, _ => .bad
theorem sum_vset : SumOk Try.prog 42 F_vset := by
  refine ⟨fun args H nx r hr => ?_, fun args H nx => ?_⟩
  · unfold F_vset at hr
    split at hr
    · rename_i now k a1 a2 a3 a4 a5 me la pr si n c1 n2 c2 N1 e1 N2 e2
      obtain ⟨h0, hr⟩ := T.need_some hr
      have := T.ret_some hr
      subst this
      have h := pb_of h0
      obtain ⟨⟨rfl, rfl, rfl, rfl, rfl, ⟨su, rfl⟩, ⟨t, rfl⟩⟩, h⟩ := h
      exact by obtain ⟨k, rfl⟩ : ∃ k' : Nat, k = k' := ⟨k.toNat, by omega⟩; exact evCallW_ok GOTA1 GKTA1 (res_vset n me la pr si su t now k ⟨a1, a2, a3, a4, a5⟩ (by omega))
    · exact (T.bad_some hr).elim
  · unfold F_vset
    split
    · exact T.Every.need ⟨by first | exact Nat.le_refl _ | (dsimp only; omega), fun b hb hw => by
        have : b = 0 ∨ b = 1 ∨ b = 2 := by omega
        rcases this with rfl | rfl | rfl <;> first | rfl | exact absurd (by dsimp only; decide) hw⟩
    · trivial
noncomputable def sm_vset : SumF := canonSum F_vset
theorem sm_vset_ok : SumOk Try.prog 42 sm_vset := canonSum_ok sum_vset
noncomputable def ss_vset : List (Nat × SumF) := (42, sm_vset) :: ss_vnew
theorem ss_vset_ok : ∀ x ∈ ss_vset, SumOk Try.prog x.1 x.2 := List.forall_mem_cons.2 ⟨sm_vset_ok, ss_vnew_ok⟩
noncomputable def F_vnext : SumF
  | [.one (.ptr 0 0 0 0)], [(0, .cells [.f (.lit (.int .i64 me)), .f (.lit (.int .i64 la)), .f (.lit (.int .i64 pr)), .f (.lit (.int .i64 si)), .sl false 1 1 0 0 n c1 true 1, .sl false 2 5 0 0 n2 c2 true 5]), (1, .arr true 1 N1 e1), (2, .arr true 5 N2 e2)], 3 => .need (pb (VPre n c1 n2 c2 N1 N2 e1 e2 ∧ 0 < n)) (.ret (⟨.v (AI (nextI n me la)), [(0, .cells [I me, I la, I pr, I si, .sl false 1 1 0 0 n c1 true 1, .sl false 2 5 0 0 n2 c2 true 5]), (1, .arr true 1 N1 e1), (2, .arr true 5 N2 e2)], 3, false, []⟩))
  | _, _, _ => .bad
theorem sum_vnext : SumOk Try.prog 41 F_vnext := by
  refine ⟨fun args H nx r hr => ?_, fun args H nx => ?_⟩
  · unfold F_vnext at hr
    split at hr
    · rename_i me la pr si n c1 n2 c2 N1 e1 N2 e2
      obtain ⟨h0, hr⟩ := T.need_some hr
      have := T.ret_some hr
      subst this
      have h := pb_of h0
      obtain ⟨⟨rfl, rfl, rfl, rfl, rfl, ⟨su, rfl⟩, ⟨t, rfl⟩⟩, h⟩ := h
      exact evCallW_ok GOTA1 GKTA1 (res_vnext n me la pr si su t h)
    · exact (T.bad_some hr).elim
  · unfold F_vnext
    split
    · exact T.Every.need ⟨by first | exact Nat.le_refl _ | (dsimp only; omega), fun b hb hw => by
        have : b = 0 ∨ b = 1 ∨ b = 2 := by omega
        rcases this with rfl | rfl | rfl <;> first | rfl | exact absurd (by dsimp only; decide) hw⟩
    · trivial
noncomputable def sm_vnext : SumF := canonSum F_vnext
theorem sm_vnext_ok : SumOk Try.prog 41 sm_vnext := canonSum_ok sum_vnext
noncomputable def ss_vnext : List (Nat × SumF) := (41, sm_vnext) :: ss_vset
theorem ss_vnext_ok : ∀ x ∈ ss_vnext, SumOk Try.prog x.1 x.2 := List.forall_mem_cons.2 ⟨sm_vnext_ok, ss_vset_ok⟩
noncomputable def F_ventry : SumF
  | [.one (.ptr 0 0 0 0), .one (.f (.lit (.int .i64 k)))], [(0, .cells [.f (.lit (.int .i64 me)), .f (.lit (.int .i64 la)), .f (.lit (.int .i64 pr)), .f (.lit (.int .i64 si)), .sl false 1 1 0 0 n c1 true 1, .sl false 2 5 0 0 n2 c2 true 5]), (1, .arr true 1 N1 e1), (2, .arr true 5 N2 e2)], 3 => .need (pb (VPre n c1 n2 c2 N1 N2 e1 e2)) (.ret (⟨.v (.agg (atE n (entOf e2) k).cv), [(0, .cells [I me, I la, I pr, I si, .sl false 1 1 0 0 n c1 true 1, .sl false 2 5 0 0 n2 c2 true 5]), (1, .arr true 1 N1 e1), (2, .arr true 5 N2 e2)], 3, false, []⟩))
  | _, _, _ => .bad
theorem sum_ventry : SumOk Try.prog 28 F_ventry := by
  refine ⟨fun args H nx r hr => ?_, fun args H nx => ?_⟩
  · unfold F_ventry at hr
    split at hr
    · rename_i k me la pr si n c1 n2 c2 N1 e1 N2 e2
      obtain ⟨h0, hr⟩ := T.need_some hr
      have := T.ret_some hr
      subst this
      have h := pb_of h0
      obtain ⟨rfl, rfl, rfl, rfl, rfl, ⟨su, rfl⟩, ⟨t, rfl⟩⟩ := h
      exact evCallW_ok GOTA1 GKTA1 (res_ventry n me la pr si su t k)
    · exact (T.bad_some hr).elim
  · unfold F_ventry
    split
    · exact T.Every.need ⟨by first | exact Nat.le_refl _ | (dsimp only; omega), fun b hb hw => by
        have : b = 0 ∨ b = 1 ∨ b = 2 := by omega
        rcases this with rfl | rfl | rfl <;> first | rfl | exact absurd (by dsimp only; decide) hw⟩
    · trivial
noncomputable def sm_ventry : SumF := canonSum F_ventry
theorem sm_ventry_ok : SumOk Try.prog 28 sm_ventry := canonSum_ok sum_ventry
noncomputable def ss_ventry : List (Nat × SumF) := (28, sm_ventry) :: ss_vnext
theorem ss_ventry_ok : ∀ x ∈ ss_ventry, SumOk Try.prog x.1 x.2 := List.forall_mem_cons.2 ⟨sm_ventry_ok, ss_vnext_ok⟩
noncomputable def F_vtable : SumF
  | [.one (.ptr 0 0 0 0)], [(0, .cells [.f (.lit (.int .i64 me)), .f (.lit (.int .i64 la)), .f (.lit (.int .i64 pr)), .f (.lit (.int .i64 si)), .sl false 1 1 0 0 n c1 true 1, .sl false 2 5 0 0 n2 c2 true 5]), (1, .arr true 1 N1 e1), (2, .arr true 5 N2 e2)], 3 => .need (pb (VPre n c1 n2 c2 N1 N2 e1 e2 ∧ 0 < n ∧ n ≤ 5)) (.ret (⟨.v (.one (.f (.fs false 5 n (entE (entOf e2))))), [(0, .cells [I me, I la, I pr, I si, .sl false 1 1 0 0 n c1 true 1, .sl false 2 5 0 0 n2 c2 true 5]), (1, .arr true 1 N1 e1), (2, .arr true 5 N2 e2)], 3, false, []⟩))
  | _, _, _ => .bad
theorem sum_vtable : SumOk Try.prog 30 F_vtable := by
  refine ⟨fun args H nx r hr => ?_, fun args H nx => ?_⟩
  · unfold F_vtable at hr
    split at hr
    · rename_i me la pr si n c1 n2 c2 N1 e1 N2 e2
      obtain ⟨h0, hr⟩ := T.need_some hr
      have := T.ret_some hr
      subst this
      have h := pb_of h0
      obtain ⟨⟨rfl, rfl, rfl, rfl, rfl, ⟨su, rfl⟩, ⟨t, rfl⟩⟩, h⟩ := h
      exact evCallZ_ok GOTA1 GKTA1 (res_vtable n me la pr si su t h)
    · exact (T.bad_some hr).elim
  · unfold F_vtable
    split
    · exact T.Every.need ⟨by first | exact Nat.le_refl _ | (dsimp only; omega), fun b hb hw => by
        have : b = 0 ∨ b = 1 ∨ b = 2 := by omega
        rcases this with rfl | rfl | rfl <;> first | rfl | exact absurd (by dsimp only; decide) hw⟩
    · trivial
noncomputable def sm_vtable : SumF := canonSum F_vtable
theorem sm_vtable_ok : SumOk Try.prog 30 sm_vtable := canonSum_ok sum_vtable
noncomputable def ss_vtable : List (Nat × SumF) := (30, sm_vtable) :: ss_ventry
theorem ss_vtable_ok : ∀ x ∈ ss_vtable, SumOk Try.prog x.1 x.2 := List.forall_mem_cons.2 ⟨sm_vtable_ok, ss_ventry_ok⟩
noncomputable def GTA2 : Ctx := GS.with ss_vtable ll_tb
noncomputable def tgt_vjudge (n : Nat) (me la pr si : Int) (su : Nat → Int) (t : Nat → Ent) (now : Int) (k : Nat) (s : Int) : T CallOut := evCallW [0, 1, 2] GTA2 300 40 [AP 0, AI now, AI k, AI s] (hv n me la pr si su t) 3
theorem GKTA2 : KnownOk Try.prog GTA2 := KnownOk.lists ss_vtable_ok ll_tb_ok
theorem GOTA2 : CtxOk Try.prog GTA2 := GS_ok.with _ _
theorem tree_vjudge (n : Nat) (me la pr si : Int) (su : Nat → Int) (t : Nat → Ent) (now : Int) (k : Nat) (s : Int) : (tgt_vjudge n me la pr si su t now k s).over (.tt (.br (.tt (.br (.br .leaf .skip) .skip)) .skip)) =
  T.br (decide ((0 : Int) ≤ (↑k : Int) ∧ (↑k : Int) < (↑n : Int))) (T.br (Nat.ble ((0 : Nat) + k + (1 : Nat)) n) (T.br (pb (VPre n n n n n n (intE su) (entE t) ∧ (0 : Int) ≤ (↑k : Int) ∧ (↑k : Int) < (↑n : Int))) (T.ret { v := SV.tup [], H := [((0 : Nat), Ob.cells [I me, I la, I pr, I si, CV.sl false (1 : Nat) (1 : Nat) (0 : Nat) (0 : Nat) n n true (1 : Nat), CV.sl false (2 : Nat) (5 : Nat) (0 : Nat) (0 : Nat) n n true (5 : Nat)]), ((1 : Nat), Ob.arr true (1 : Nat) n fun a => [FV.lit (Value.int IntKind.i64 (updI (setB { inc := Ent.inc (t ((0 : Nat) + k)), st := s, stamp := Ent.stamp (t ((0 : Nat) + k)), load := Ent.load (t ((0 : Nat) + k)), dr := Ent.dr (t ((0 : Nat) + k)) : Ent } (entOf (entE t) k)) su k now a))]), ((2 : Nat), Ob.arr true (5 : Nat) n fun a => [FV.lit (Value.int IntKind.i64 (Ent.inc (updT t k { inc := Ent.inc (t ((0 : Nat) + k)), st := s, stamp := Ent.stamp (t ((0 : Nat) + k)), load := Ent.load (t ((0 : Nat) + k)), dr := Ent.dr (t ((0 : Nat) + k)) : Ent } a))), FV.lit (Value.int IntKind.i64 (Ent.st (updT t k { inc := Ent.inc (t ((0 : Nat) + k)), st := s, stamp := Ent.stamp (t ((0 : Nat) + k)), load := Ent.load (t ((0 : Nat) + k)), dr := Ent.dr (t ((0 : Nat) + k)) : Ent } a))), FV.lit (Value.int IntKind.i64 (Ent.stamp (updT t k { inc := Ent.inc (t ((0 : Nat) + k)), st := s, stamp := Ent.stamp (t ((0 : Nat) + k)), load := Ent.load (t ((0 : Nat) + k)), dr := Ent.dr (t ((0 : Nat) + k)) : Ent } a))), FV.lit (Value.int IntKind.i64 (Ent.load (updT t k { inc := Ent.inc (t ((0 : Nat) + k)), st := s, stamp := Ent.stamp (t ((0 : Nat) + k)), load := Ent.load (t ((0 : Nat) + k)), dr := Ent.dr (t ((0 : Nat) + k)) : Ent } a))), FV.lit (Value.bool (Ent.dr (updT t k { inc := Ent.inc (t ((0 : Nat) + k)), st := s, stamp := Ent.stamp (t ((0 : Nat) + k)), load := Ent.load (t ((0 : Nat) + k)), dr := Ent.dr (t ((0 : Nat) + k)) : Ent } a)))])], nx := (3 : Nat), esc := false, wr := [(0 : Nat), (1 : Nat), (2 : Nat)] : CallOut }) T.bad) T.bad) T.bad := by kernel_rfl
theorem res_vjudge (n : Nat) (me la pr si : Int) (su : Nat → Int) (t : Nat → Ent) (now : Int) (k : Nat) (s : Int) (h : k < n) : (tgt_vjudge n me la pr si su t now k s).res = some (⟨.tup [], hv n me la pr si (updI (setB { t k with st := s } (t k)) su k now) (updT t k { t k with st := s }), 3, false, [0, 1, 2]⟩) := by
  refine T.over_eq _ (tree_vjudge n me la pr si su t now k s) ?_
  simp only [T.res_br, T.res_ret, T.res_bad]
  have e1 : (0 : Int) ≤ (k : Int) ∧ (k : Int) < (n : Int) := by omega
  have e2 : Nat.ble (k + 1) n = true := ble_tt (by omega)
  exact ite_tt (decide_eq_true e1) (ite_tt (by rw [Nat.zero_add]; exact e2) (ite_tt (pb_true ⟨VPre_ok n su t, e1⟩) (by simp only [Nat.zero_add]; rfl)))
noncomputable def F_vjudge : SumF
  | [.one (.ptr 0 0 0 0), .one (.f (.lit (.int .i64 now))), .one (.f (.lit (.int .i64 k))), .one (.f (.lit (.int .i64 s)))], [(0, .cells [.f (.lit (.int .i64 me)), .f (.lit (.int .i64 la)), .f (.lit (.int .i64 pr)), .f (.lit (.int .i64 si)), .sl false 1 1 0 0 n c1 true 1, .sl false 2 5 0 0 n2 c2 true 5]), (1, .arr true 1 N1 e1), (2, .arr true 5 N2 e2)], 3 => .need (pb (VPre n c1 n2 c2 N1 N2 e1 e2 ∧ 0 ≤ k ∧ k < (n : Int))) (.ret (⟨.tup [], hv n me la pr si (updI (setB { (entOf e2) k.toNat with st := s } ((entOf e2) k.toNat)) (intOf e1) k.toNat now) (updT (entOf e2) k.toNat { (entOf e2) k.toNat with st := s }), 3, false, [0, 1, 2]⟩))
  | _, _, _ => .bad
theorem sum_vjudge : SumOk Try.prog 40 F_vjudge := by
  refine ⟨fun args H nx r hr => ?_, fun args H nx => ?_⟩
  · unfold F_vjudge at hr
    split at hr
    · rename_i now k s me la pr si n c1 n2 c2 N1 e1 N2 e2
      obtain ⟨h0, hr⟩ := T.need_some hr
      have := T.ret_some hr
      subst this
      have h := pb_of h0
      obtain ⟨⟨rfl, rfl, rfl, rfl, rfl, ⟨su, rfl⟩, ⟨t, rfl⟩⟩, h⟩ := h
      exact by obtain ⟨k, rfl⟩ : ∃ k' : Nat, k = k' := ⟨k.toNat, by omega⟩; exact evCallW_ok GOTA2 GKTA2 (res_vjudge n me la pr si su t now k s (by omega))
    · exact (T.bad_some hr).elim
  · unfold F_vjudge
    split
    · exact T.Every.need ⟨by first | exact Nat.le_refl _ | (dsimp only; omega), fun b hb hw => by
        have : b = 0 ∨ b = 1 ∨ b = 2 := by omega
        rcases this with rfl | rfl | rfl <;> first | rfl | exact absurd (by dsimp only; decide) hw⟩
    · trivial
noncomputable def sm_vjudge : SumF := canonSum F_vjudge
theorem sm_vjudge_ok : SumOk Try.prog 40 sm_vjudge := canonSum_ok sum_vjudge
noncomputable def ss_vjudge : List (Nat × SumF) := (40, sm_vjudge) :: ss_vtable
theorem ss_vjudge_ok : ∀ x ∈ ss_vjudge, SumOk Try.prog x.1 x.2 := List.forall_mem_cons.2 ⟨sm_vjudge_ok, ss_vtable_ok⟩
end Go.Proofs.Ytdoehlinboiohaa.En
