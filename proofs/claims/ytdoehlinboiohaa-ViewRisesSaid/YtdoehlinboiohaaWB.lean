/- ViewRises: all of it. -/
import Derived.Test.YtdoehlinboiohaaWA
namespace Go.Proofs.Ytdoehlinboiohaa.En
open Go
set_option linter.unusedVariables false
set_option linter.unusedSimpArgs false
set_option maxRecDepth 20000
set_option maxHeartbeats 1000000
instance : Inhabited Raw13 := ⟨⟨0, 0, 0, false, false, true, 0, fun _ => default⟩⟩
def raw13Of (e : Nat → List FV) : Nat → Raw13 := fun i => match e i with | [.lit (.int _ a), .lit (.int _ b), .lit (.int _ c), .lit (.bool d), .lit (.bool f), .fs nl _ n e] => ⟨a, b, c, d, f, nl, n, entOf e⟩ | _ => default
theorem raw13Of_fs (x : Nat → Raw13) : raw13Of (fun i => (x i).fs) = x := rfl
def Raw13E (nl : Bool) (k : Nat) (e : Nat → List FV) : Prop := ∃ x : Nat → Raw13, e = (fun i => (x i).fs) ∧ (nl = true → k = 0) ∧ (k : Int) ≤ 9223372036854775807 ∧ ∀ i, i < k → LnOk (x i).nl (x i).n
def runR (m : Nat) (x : Nat → Raw13) (k : Nat) (v : V) : V × Int := foldF (fun i a => stepR m a (x i)) k 0 (v, 0)

noncomputable def L_rv : LoopF := mkLoopF [26, 27, 28, 5, 6, 0] (loopOf Try.f11 7) Try.f11.ntmps fun sl H nx => match sl, H, nx with
  | [(26, .v (.one (.f (.fs nl 6 k e0)))), (27, .v (.one (.f (.lit (.int .i64 kk))))), (28, .v (.one (.f (.lit (.int .i64 j))))), (5, .v (.one (.ptr 0 0 0 0))), (6, .v (.one (.f (.lit (.int .i64 now))))), (0, .v (.one (.f (.lit (.int .i64 m)))))], [(0, .cells [.f (.lit (.int .i64 me)), .f (.lit (.int .i64 la)), .f (.lit (.int .i64 pr)), .f (.lit (.int .i64 si)), .sl false 1 1 0 0 n c1 true 1, .sl false 2 5 0 0 n2 c2 true 5]), (1, .arr true 1 N1 e1), (2, .arr true 5 N2 e2)], 3 => .need (pb (4 = n ∧ 4 = c1 ∧ 4 = n2 ∧ 4 = c2 ∧ 4 = N1 ∧ 4 = N2 ∧ IntE e1 ∧ EntE e2 ∧ me = m ∧ kk = k ∧ j = 0 ∧ now = 0 ∧ Raw13E nl k e0 ∧ 0 ≤ m ∧ m < 4 ∧ VInv 4 m.toNat ⟨la, pr, si, intOf e1, entOf e2⟩)) (.ret (.exit 0, (St.mk [(0, .v (AI m))] [(0, .cells [I m, I (runR m.toNat (raw13Of e0) k ⟨la, pr, si, intOf e1, entOf e2⟩).1.la, I (runR m.toNat (raw13Of e0) k ⟨la, pr, si, intOf e1, entOf e2⟩).1.pr, I (runR m.toNat (raw13Of e0) k ⟨la, pr, si, intOf e1, entOf e2⟩).1.si, .sl false 1 1 0 0 4 4 true 1, .sl false 2 5 0 0 4 4 true 5]), (1, .arr true 1 4 (intE (runR m.toNat (raw13Of e0) k ⟨la, pr, si, intOf e1, entOf e2⟩).1.sp)), (2, .arr true 5 4 (entE (runR m.toNat (raw13Of e0) k ⟨la, pr, si, intOf e1, entOf e2⟩).1.tb))] 3 false 0 []).sl, (St.mk [(0, .v (AI m))] [(0, .cells [I m, I (runR m.toNat (raw13Of e0) k ⟨la, pr, si, intOf e1, entOf e2⟩).1.la, I (runR m.toNat (raw13Of e0) k ⟨la, pr, si, intOf e1, entOf e2⟩).1.pr, I (runR m.toNat (raw13Of e0) k ⟨la, pr, si, intOf e1, entOf e2⟩).1.si, .sl false 1 1 0 0 4 4 true 1, .sl false 2 5 0 0 4 4 true 5]), (1, .arr true 1 4 (intE (runR m.toNat (raw13Of e0) k ⟨la, pr, si, intOf e1, entOf e2⟩).1.sp)), (2, .arr true 5 4 (entE (runR m.toNat (raw13Of e0) k ⟨la, pr, si, intOf e1, entOf e2⟩).1.tb))] 3 false 0 []).H, 3, false))
  | _, _, _ => .bad
theorem L_rv_ok : LoopOk Try.prog L_rv := by
  refine mkLoopF_ok fun sl H nx e sl' H' nx' esc' h => ?_
  split at h
  · rename_i nl k e0 kk j now m me la pr si n c1 n2 c2 N1 e1 N2 e2
    obtain ⟨hp, hret⟩ := T.need_some h
    have hp := pb_of hp
    have := T.ret_some hret
    simp only [Prod.mk.injEq] at this
    obtain ⟨rfl, rfl, rfl, rfl, rfl⟩ := this
    clear hret h
    obtain ⟨rfl, rfl, rfl, rfl, rfl, rfl, ⟨su, rfl⟩, ⟨t, rfl⟩, rfl, rfl, rfl, rfl, ⟨x, rfl, hnl, hk, hx⟩, hm0, hm, hI⟩ := hp
    obtain ⟨m, rfl⟩ : ∃ m : Nat, me = m := ⟨me.toNat, by omega⟩
    exact loop_rv nl k x m (by omega) hnl hk hx 0 (⟨_, _, _, su, t⟩, 0) (Nat.zero_le _) hI (StLe.refl (Nat.le_refl 3)) rfl
  · exact (T.bad_some h).elim
noncomputable def ll_rv : List (Nat × Nat × LoopF) := (11, 7, L_rv) :: ll_rb
theorem ll_rv_ok : ∀ x ∈ ll_rv, LoopOk Try.prog x.2.2 := List.forall_mem_cons.2 ⟨L_rv_ok, ll_rb_ok⟩
noncomputable def GWB1 : Ctx := GS.with ss_view ll_rv
noncomputable def tgt_VRises (a : Int) (nl : Bool) (k : Nat) (x : Nat → Raw13) : T CallOut := evCallW [] GWB1 300 11 [AI a, .one (.f (.fs nl 6 k fun i => (x i).fs))] [] 0
theorem GKWB1 : KnownOk Try.prog GWB1 := KnownOk.lists ss_view_ok ll_rv_ok
theorem GOWB1 : CtxOk Try.prog GWB1 := GS_ok.with _ _
theorem tree_VRises (a : Int) (nl : Bool) (k : Nat) (x : Nat → Raw13) : (tgt_VRises a nl k x).over (.tt (.ff (.ff (.ff (.ff (.br (.br .leaf .skip) .skip)))))) =
  T.br (pb (loopOf Proofs.Try.f11 (7 : Nat) = loopOf Proofs.Try.f11 (7 : Nat) ∧ (177 : Nat) = (177 : Nat)))
    (T.br
      (pb
        ((4 : Nat) = (4 : Nat) ∧
          (4 : Nat) = (4 : Nat) ∧
            (4 : Nat) = (4 : Nat) ∧
              (4 : Nat) = (4 : Nat) ∧
                (4 : Nat) = (4 : Nat) ∧
                  (4 : Nat) = (4 : Nat) ∧
                    IntE (intE fun x => (0 : Int)) ∧
                      EntE (entE (updT (fun x => ent0) (Int.toNat (clampM (a % (4 : Int)) (4 : Int))) { inc := (1 : Int), st := (0 : Int), stamp := (0 : Int), load := (0 : Int), dr := Ent.dr ent0 : Ent })) ∧
                        clampM (a % (4 : Int)) (4 : Int) = a % (4 : Int) ∧
                          (↑k : Int) = (↑k : Int) ∧
                            (0 : Int) = (0 : Int) ∧
                              (0 : Int) = (0 : Int) ∧
                                (Raw13E nl k fun i => Raw13.fs (x i)) ∧
                                  (0 : Int) ≤ a % (4 : Int) ∧
                                    a % (4 : Int) < (4 : Int) ∧
                                      VInv (4 : Nat) (Int.toNat (a % (4 : Int)))
                                        { la := clampM (a % (4 : Int)) (4 : Int), pr := (-1 : Int), si := (0 : Int), sp := fun x => (0 : Int),
                                          tb := updT (fun x => ent0) (Int.toNat (clampM (a % (4 : Int)) (4 : Int))) { inc := (1 : Int), st := (0 : Int), stamp := (0 : Int), load := (0 : Int), dr := Ent.dr ent0 : Ent } : V }))
      (T.ret (out0 (SV.v (AB true)))) T.bad)
    T.bad := by kernel_rfl
theorem res_VRises (a : Int) (nl : Bool) (k : Nat) (x : Nat → Raw13) (h : Raw13E nl k (fun i => (x i).fs)) : (tgt_VRises a nl k x).res = some (out0 (.v (AB true))) := by
  refine T.over_eq _ (tree_VRises a nl k x) ?_
  simp only [T.res_br, T.res_ret, T.res_bad]
  have hc : clampM (a % 4) 4 = a % 4 := by
    have e : clampH 4 = 4 := by decide
    unfold clampM
    rw [e]
    omega
  have h0 : 0 ≤ a % 4 ∧ a % 4 < 4 := by omega
  refine ite_tt (by simp only [and_self]; exact pb_true trivial) (ite_tt (pb_true ?_) rfl)
  rw [hc]
  refine ⟨trivial, trivial, trivial, trivial, trivial, trivial, IntE_ok _, EntE_ok _, rfl, trivial, trivial, trivial, h, h0.1, h0.2, ⟨by simp only; omega, .inl rfl, by simp only [updT_eq, if_true]⟩⟩
end Go.Proofs.Ytdoehlinboiohaa.En
