/- Texts put together: OF4, OF5, OL. -/
import Derived.Test.YtbobakclbdaepaaGreatG24
import Derived.Test.YtbobakclbdaepaaGreatG25
import Derived.Test.YtbobakclbdaepaaGreatG11
/- HandOffers: New. -/
namespace Go.Proofs.YtbobakclbdaepaaGreat.En
open Go
set_option linter.unusedVariables false
set_option linter.unusedSimpArgs false
set_option maxRecDepth 20000
set_option maxHeartbeats 1000000
theorem new_4_1_0 : NewOk 4 1 0 [0] := fun nl kl xl tk => by kernel_rfl
theorem new_4_1_1 : NewOk 4 1 1 [] := fun nl kl xl tk => by kernel_rfl
theorem new_4_1_2 : NewOk 4 1 2 [] := fun nl kl xl tk => by kernel_rfl
theorem new_4_1_3 : NewOk 4 1 3 [] := fun nl kl xl tk => by kernel_rfl
theorem new_4_2_0 : NewOk 4 2 0 [0] := fun nl kl xl tk => by kernel_rfl
theorem new_4_2_1 : NewOk 4 2 1 [1] := fun nl kl xl tk => by kernel_rfl
theorem new_4_2_2 : NewOk 4 2 2 [] := fun nl kl xl tk => by kernel_rfl
theorem new_4_2_3 : NewOk 4 2 3 [] := fun nl kl xl tk => by kernel_rfl
theorem new_4_3_0 : NewOk 4 3 0 [0] := fun nl kl xl tk => by kernel_rfl
theorem new_4_3_1 : NewOk 4 3 1 [1] := fun nl kl xl tk => by kernel_rfl
theorem new_4_3_2 : NewOk 4 3 2 [2] := fun nl kl xl tk => by kernel_rfl
theorem new_4_3_3 : NewOk 4 3 3 [] := fun nl kl xl tk => by kernel_rfl
theorem new_4_4_0 : NewOk 4 4 0 [0] := fun nl kl xl tk => by kernel_rfl
theorem new_4_4_1 : NewOk 4 4 1 [1] := fun nl kl xl tk => by kernel_rfl
theorem new_4_4_2 : NewOk 4 4 2 [2] := fun nl kl xl tk => by kernel_rfl
theorem new_4_4_3 : NewOk 4 4 3 [3] := fun nl kl xl tk => by kernel_rfl
theorem new_4_5_0 : NewOk 4 5 0 [0, 4] := fun nl kl xl tk => by kernel_rfl
theorem new_4_5_1 : NewOk 4 5 1 [1] := fun nl kl xl tk => by kernel_rfl
theorem new_4_5_2 : NewOk 4 5 2 [2] := fun nl kl xl tk => by kernel_rfl
theorem new_4_5_3 : NewOk 4 5 3 [3] := fun nl kl xl tk => by kernel_rfl
theorem new_4_6_0 : NewOk 4 6 0 [0, 4] := fun nl kl xl tk => by kernel_rfl
theorem new_4_6_1 : NewOk 4 6 1 [1, 5] := fun nl kl xl tk => by kernel_rfl
theorem new_4_6_2 : NewOk 4 6 2 [2] := fun nl kl xl tk => by kernel_rfl
theorem new_4_6_3 : NewOk 4 6 3 [3] := fun nl kl xl tk => by kernel_rfl
end Go.Proofs.YtbobakclbdaepaaGreat.En
/- HandOffers: New. -/
namespace Go.Proofs.YtbobakclbdaepaaGreat.En
open Go
set_option linter.unusedVariables false
set_option linter.unusedSimpArgs false
set_option maxRecDepth 20000
set_option maxHeartbeats 1000000
theorem new_5_1_0 : NewOk 5 1 0 [0] := fun nl kl xl tk => by kernel_rfl
theorem new_5_1_1 : NewOk 5 1 1 [] := fun nl kl xl tk => by kernel_rfl
theorem new_5_1_2 : NewOk 5 1 2 [] := fun nl kl xl tk => by kernel_rfl
theorem new_5_1_3 : NewOk 5 1 3 [] := fun nl kl xl tk => by kernel_rfl
theorem new_5_1_4 : NewOk 5 1 4 [] := fun nl kl xl tk => by kernel_rfl
theorem new_5_2_0 : NewOk 5 2 0 [0] := fun nl kl xl tk => by kernel_rfl
theorem new_5_2_1 : NewOk 5 2 1 [1] := fun nl kl xl tk => by kernel_rfl
theorem new_5_2_2 : NewOk 5 2 2 [] := fun nl kl xl tk => by kernel_rfl
theorem new_5_2_3 : NewOk 5 2 3 [] := fun nl kl xl tk => by kernel_rfl
theorem new_5_2_4 : NewOk 5 2 4 [] := fun nl kl xl tk => by kernel_rfl
theorem new_5_3_0 : NewOk 5 3 0 [0] := fun nl kl xl tk => by kernel_rfl
theorem new_5_3_1 : NewOk 5 3 1 [1] := fun nl kl xl tk => by kernel_rfl
theorem new_5_3_2 : NewOk 5 3 2 [2] := fun nl kl xl tk => by kernel_rfl
theorem new_5_3_3 : NewOk 5 3 3 [] := fun nl kl xl tk => by kernel_rfl
theorem new_5_3_4 : NewOk 5 3 4 [] := fun nl kl xl tk => by kernel_rfl
theorem new_5_4_0 : NewOk 5 4 0 [0] := fun nl kl xl tk => by kernel_rfl
theorem new_5_4_1 : NewOk 5 4 1 [1] := fun nl kl xl tk => by kernel_rfl
theorem new_5_4_2 : NewOk 5 4 2 [2] := fun nl kl xl tk => by kernel_rfl
theorem new_5_4_3 : NewOk 5 4 3 [3] := fun nl kl xl tk => by kernel_rfl
theorem new_5_4_4 : NewOk 5 4 4 [] := fun nl kl xl tk => by kernel_rfl
theorem new_5_5_0 : NewOk 5 5 0 [0] := fun nl kl xl tk => by kernel_rfl
theorem new_5_5_1 : NewOk 5 5 1 [1] := fun nl kl xl tk => by kernel_rfl
theorem new_5_5_2 : NewOk 5 5 2 [2] := fun nl kl xl tk => by kernel_rfl
theorem new_5_5_3 : NewOk 5 5 3 [3] := fun nl kl xl tk => by kernel_rfl
theorem new_5_5_4 : NewOk 5 5 4 [4] := fun nl kl xl tk => by kernel_rfl
theorem new_5_6_0 : NewOk 5 6 0 [0, 5] := fun nl kl xl tk => by kernel_rfl
theorem new_5_6_1 : NewOk 5 6 1 [1] := fun nl kl xl tk => by kernel_rfl
theorem new_5_6_2 : NewOk 5 6 2 [2] := fun nl kl xl tk => by kernel_rfl
theorem new_5_6_3 : NewOk 5 6 3 [3] := fun nl kl xl tk => by kernel_rfl
theorem new_5_6_4 : NewOk 5 6 4 [4] := fun nl kl xl tk => by kernel_rfl
end Go.Proofs.YtbobakclbdaepaaGreat.En
/- HandOffers. -/
namespace Go.Proofs.YtbobakclbdaepaaGreat.En
open Go
set_option linter.unusedVariables false
set_option linter.unusedSimpArgs false
set_option maxRecDepth 20000
set_option maxHeartbeats 1000000
theorem shape3 : restC 3 (restC 3 hoC) = restC 6 hoC := by kernel_rfl
theorem from3 {h S m : Nat} {P : List Nat} (hN : NewOk h S m P) (nl : Bool) (kl : Nat) (xl : Nat → Int) (tk : Int) (hgo : HT Tryz.prog Tryz.f4.ntmps (restC 6 hoC) (S_n h S m P nl kl xl tk) EndT) :
    HT Tryz.prog Tryz.f4.ntmps (restC 3 hoC) ⟨[(1, .v (AI m)), (2, .v (.one (.f (.fs nl 1 kl (intE xl))))), (3, .v (AI tk)), (9, .v (AP 0))], [(0, .cells [I h, I S])], 1, false, 0, []⟩ EndT :=
  HT.cutR GOOB1 GKOB1 (hN nl kl xl tk) (fun _ => by rw [shape3]; exact hgo) (fun h => absurd rfl h)

theorem loop_N (h : Nat) (S me tk : Int) (vp : Value) (x : Nat → Ent) (hh : h < 20) (hin : 0 ≤ me ∧ me < (h : Int)) (hx : TabOk h x) : HT Tryz.prog Tryz.f4.ntmps (.loop (loopOf Tryz.f4 18)) (S_mo h S me tk (stF h me vp [npF, npF, npF, npF, npF, npF]) x 0 0 0 0 0 0 (-1000) 1 []) OutT := by
  have hk : KsOk 0 [] 0 := ⟨⟨by decide, by decide⟩, by decide, rfl, by decide⟩
  have hno : gOk me x h 0 [] = false := by
    cases hg : gOk me x h 0 []
    · rfl
    · exact absurd rfl (chT_one hk.key (fun a ha => by cases ha) hin hg).2.2.2.1
  refine loop_of h S me tk _ x 0 [] 0 hh hin hk hx (fun c last now had e st R hr hR => HT.round GOOE01 GKOE01 (T.over_eq _ (tree_FN h S me tk vp x c last now had) ?_) hR) (fun h => absurd rfl h)
  rw [← hr]
  unfold trF trO
  simp only [T.res_br, T.res_ret, T.res_bad, hno, Bool.false_eq_true, reduceIte]
  rfl
theorem loop_3 (h : Nat) (S me tk : Int) (vp : Value) (x : Nat → Ent) (hh : h < 20) (hin : 0 ≤ me ∧ me < (h : Int)) (hx : TabOk h x) : HT Tryz.prog Tryz.f4.ntmps (.loop (loopOf Tryz.f4 18)) (S_mo h S me tk (stF h me vp [npF, npF, npF, .fp (shF 3), npF, npF]) x 0 0 0 0 0 0 (-1000) 1 []) OutT :=
  loop_of h S me tk _ x 1 [3] 3 hh hin ⟨⟨by decide, by decide⟩, by decide, rfl, by decide⟩ hx
    (fun c last now had e st R hr hR => HT.round GOOE01 GKOE01 (T.over_eq _ (tree_F3 h S me tk vp x c last now had) hr) hR)
    (fun _ p q u c last now had e st R hr hR => HT.round GOOE01 GKOE01 (T.over_eq _ (tree_G3 h S me tk vp x p q u c last now had) hr) hR)
theorem loop_04 (h : Nat) (S me tk : Int) (vp : Value) (x : Nat → Ent) (hh : h < 20) (hin : 0 ≤ me ∧ me < (h : Int)) (hx : TabOk h x) : HT Tryz.prog Tryz.f4.ntmps (.loop (loopOf Tryz.f4 18)) (S_mo h S me tk (stF h me vp [.fp (shF 0), npF, npF, npF, .fp (shF 4), npF]) x 0 0 0 0 0 0 (-1000) 1 []) OutT :=
  loop_of h S me tk _ x 2 [0, 4] 0 hh hin ⟨⟨by decide, by decide⟩, by decide, rfl, by decide⟩ hx
    (fun c last now had e st R hr hR => HT.round GOOE01 GKOE01 (T.over_eq _ (tree_F04 h S me tk vp x c last now had) hr) hR)
    (fun _ p q u c last now had e st R hr hR => HT.round GOOE01 GKOE01 (T.over_eq _ (tree_G04 h S me tk vp x p q u c last now had) hr) hR)
theorem loop_15 (h : Nat) (S me tk : Int) (vp : Value) (x : Nat → Ent) (hh : h < 20) (hin : 0 ≤ me ∧ me < (h : Int)) (hx : TabOk h x) : HT Tryz.prog Tryz.f4.ntmps (.loop (loopOf Tryz.f4 18)) (S_mo h S me tk (stF h me vp [npF, .fp (shF 1), npF, npF, npF, .fp (shF 5)]) x 0 0 0 0 0 0 (-1000) 1 []) OutT :=
  loop_of h S me tk _ x 2 [1, 5] 1 hh hin ⟨⟨by decide, by decide⟩, by decide, rfl, by decide⟩ hx
    (fun c last now had e st R hr hR => HT.round GOOE01 GKOE01 (T.over_eq _ (tree_F15 h S me tk vp x c last now had) hr) hR)
    (fun _ p q u c last now had e st R hr hR => HT.round GOOE01 GKOE01 (T.over_eq _ (tree_G15 h S me tk vp x p q u c last now had) hr) hR)
theorem loop_0 (h : Nat) (S me tk : Int) (vp : Value) (x : Nat → Ent) (hh : h < 20) (hin : 0 ≤ me ∧ me < (h : Int)) (hx : TabOk h x) : HT Tryz.prog Tryz.f4.ntmps (.loop (loopOf Tryz.f4 18)) (S_mo h S me tk (stF h me vp [.fp (shF 0), npF, npF, npF, npF, npF]) x 0 0 0 0 0 0 (-1000) 1 []) OutT :=
  loop_of h S me tk _ x 1 [0] 0 hh hin ⟨⟨by decide, by decide⟩, by decide, rfl, by decide⟩ hx
    (fun c last now had e st R hr hR => HT.round GOOE11 GKOE11 (T.over_eq _ (tree_F0 h S me tk vp x c last now had) hr) hR)
    (fun _ p q u c last now had e st R hr hR => HT.round GOOE11 GKOE11 (T.over_eq _ (tree_G0 h S me tk vp x p q u c last now had) hr) hR)
theorem loop_4 (h : Nat) (S me tk : Int) (vp : Value) (x : Nat → Ent) (hh : h < 20) (hin : 0 ≤ me ∧ me < (h : Int)) (hx : TabOk h x) : HT Tryz.prog Tryz.f4.ntmps (.loop (loopOf Tryz.f4 18)) (S_mo h S me tk (stF h me vp [npF, npF, npF, npF, .fp (shF 4), npF]) x 0 0 0 0 0 0 (-1000) 1 []) OutT :=
  loop_of h S me tk _ x 1 [4] 4 hh hin ⟨⟨by decide, by decide⟩, by decide, rfl, by decide⟩ hx
    (fun c last now had e st R hr hR => HT.round GOOE11 GKOE11 (T.over_eq _ (tree_F4 h S me tk vp x c last now had) hr) hR)
    (fun _ p q u c last now had e st R hr hR => HT.round GOOE11 GKOE11 (T.over_eq _ (tree_G4 h S me tk vp x p q u c last now had) hr) hR)
theorem loop_05 (h : Nat) (S me tk : Int) (vp : Value) (x : Nat → Ent) (hh : h < 20) (hin : 0 ≤ me ∧ me < (h : Int)) (hx : TabOk h x) : HT Tryz.prog Tryz.f4.ntmps (.loop (loopOf Tryz.f4 18)) (S_mo h S me tk (stF h me vp [.fp (shF 0), npF, npF, npF, npF, .fp (shF 5)]) x 0 0 0 0 0 0 (-1000) 1 []) OutT :=
  loop_of h S me tk _ x 2 [0, 5] 0 hh hin ⟨⟨by decide, by decide⟩, by decide, rfl, by decide⟩ hx
    (fun c last now had e st R hr hR => HT.round GOOE11 GKOE11 (T.over_eq _ (tree_F05 h S me tk vp x c last now had) hr) hR)
    (fun _ p q u c last now had e st R hr hR => HT.round GOOE11 GKOE11 (T.over_eq _ (tree_G05 h S me tk vp x p q u c last now had) hr) hR)
theorem loop_25 (h : Nat) (S me tk : Int) (vp : Value) (x : Nat → Ent) (hh : h < 20) (hin : 0 ≤ me ∧ me < (h : Int)) (hx : TabOk h x) : HT Tryz.prog Tryz.f4.ntmps (.loop (loopOf Tryz.f4 18)) (S_mo h S me tk (stF h me vp [npF, npF, .fp (shF 2), npF, npF, .fp (shF 5)]) x 0 0 0 0 0 0 (-1000) 1 []) OutT :=
  loop_of h S me tk _ x 2 [2, 5] 2 hh hin ⟨⟨by decide, by decide⟩, by decide, rfl, by decide⟩ hx
    (fun c last now had e st R hr hR => HT.round GOOE11 GKOE11 (T.over_eq _ (tree_F25 h S me tk vp x c last now had) hr) hR)
    (fun _ p q u c last now had e st R hr hR => HT.round GOOE11 GKOE11 (T.over_eq _ (tree_G25 h S me tk vp x p q u c last now had) hr) hR)
theorem loop_1 (h : Nat) (S me tk : Int) (vp : Value) (x : Nat → Ent) (hh : h < 20) (hin : 0 ≤ me ∧ me < (h : Int)) (hx : TabOk h x) : HT Tryz.prog Tryz.f4.ntmps (.loop (loopOf Tryz.f4 18)) (S_mo h S me tk (stF h me vp [npF, .fp (shF 1), npF, npF, npF, npF]) x 0 0 0 0 0 0 (-1000) 1 []) OutT :=
  loop_of h S me tk _ x 1 [1] 1 hh hin ⟨⟨by decide, by decide⟩, by decide, rfl, by decide⟩ hx
    (fun c last now had e st R hr hR => HT.round GOOE21 GKOE21 (T.over_eq _ (tree_F1 h S me tk vp x c last now had) hr) hR)
    (fun _ p q u c last now had e st R hr hR => HT.round GOOE21 GKOE21 (T.over_eq _ (tree_G1 h S me tk vp x p q u c last now had) hr) hR)
theorem loop_02 (h : Nat) (S me tk : Int) (vp : Value) (x : Nat → Ent) (hh : h < 20) (hin : 0 ≤ me ∧ me < (h : Int)) (hx : TabOk h x) : HT Tryz.prog Tryz.f4.ntmps (.loop (loopOf Tryz.f4 18)) (S_mo h S me tk (stF h me vp [.fp (shF 0), npF, .fp (shF 2), npF, npF, npF]) x 0 0 0 0 0 0 (-1000) 1 []) OutT :=
  loop_of h S me tk _ x 2 [0, 2] 0 hh hin ⟨⟨by decide, by decide⟩, by decide, rfl, by decide⟩ hx
    (fun c last now had e st R hr hR => HT.round GOOE21 GKOE21 (T.over_eq _ (tree_F02 h S me tk vp x c last now had) hr) hR)
    (fun _ p q u c last now had e st R hr hR => HT.round GOOE21 GKOE21 (T.over_eq _ (tree_G02 h S me tk vp x p q u c last now had) hr) hR)
theorem loop_13 (h : Nat) (S me tk : Int) (vp : Value) (x : Nat → Ent) (hh : h < 20) (hin : 0 ≤ me ∧ me < (h : Int)) (hx : TabOk h x) : HT Tryz.prog Tryz.f4.ntmps (.loop (loopOf Tryz.f4 18)) (S_mo h S me tk (stF h me vp [npF, .fp (shF 1), npF, .fp (shF 3), npF, npF]) x 0 0 0 0 0 0 (-1000) 1 []) OutT :=
  loop_of h S me tk _ x 2 [1, 3] 1 hh hin ⟨⟨by decide, by decide⟩, by decide, rfl, by decide⟩ hx
    (fun c last now had e st R hr hR => HT.round GOOE21 GKOE21 (T.over_eq _ (tree_F13 h S me tk vp x c last now had) hr) hR)
    (fun _ p q u c last now had e st R hr hR => HT.round GOOE21 GKOE21 (T.over_eq _ (tree_G13 h S me tk vp x p q u c last now had) hr) hR)
theorem loop_024 (h : Nat) (S me tk : Int) (vp : Value) (x : Nat → Ent) (hh : h < 20) (hin : 0 ≤ me ∧ me < (h : Int)) (hx : TabOk h x) : HT Tryz.prog Tryz.f4.ntmps (.loop (loopOf Tryz.f4 18)) (S_mo h S me tk (stF h me vp [.fp (shF 0), npF, .fp (shF 2), npF, .fp (shF 4), npF]) x 0 0 0 0 0 0 (-1000) 1 []) OutT :=
  loop_of h S me tk _ x 3 [0, 2, 4] 0 hh hin ⟨⟨by decide, by decide⟩, by decide, rfl, by decide⟩ hx
    (fun c last now had e st R hr hR => HT.round GOOE21 GKOE21 (T.over_eq _ (tree_F024 h S me tk vp x c last now had) hr) hR)
    (fun _ p q u c last now had e st R hr hR => HT.round GOOE21 GKOE21 (T.over_eq _ (tree_G024 h S me tk vp x p q u c last now had) hr) hR)
theorem loop_2 (h : Nat) (S me tk : Int) (vp : Value) (x : Nat → Ent) (hh : h < 20) (hin : 0 ≤ me ∧ me < (h : Int)) (hx : TabOk h x) : HT Tryz.prog Tryz.f4.ntmps (.loop (loopOf Tryz.f4 18)) (S_mo h S me tk (stF h me vp [npF, npF, .fp (shF 2), npF, npF, npF]) x 0 0 0 0 0 0 (-1000) 1 []) OutT :=
  loop_of h S me tk _ x 1 [2] 2 hh hin ⟨⟨by decide, by decide⟩, by decide, rfl, by decide⟩ hx
    (fun c last now had e st R hr hR => HT.round GOOE31 GKOE31 (T.over_eq _ (tree_F2 h S me tk vp x c last now had) hr) hR)
    (fun _ p q u c last now had e st R hr hR => HT.round GOOE31 GKOE31 (T.over_eq _ (tree_G2 h S me tk vp x p q u c last now had) hr) hR)
theorem loop_03 (h : Nat) (S me tk : Int) (vp : Value) (x : Nat → Ent) (hh : h < 20) (hin : 0 ≤ me ∧ me < (h : Int)) (hx : TabOk h x) : HT Tryz.prog Tryz.f4.ntmps (.loop (loopOf Tryz.f4 18)) (S_mo h S me tk (stF h me vp [.fp (shF 0), npF, npF, .fp (shF 3), npF, npF]) x 0 0 0 0 0 0 (-1000) 1 []) OutT :=
  loop_of h S me tk _ x 2 [0, 3] 0 hh hin ⟨⟨by decide, by decide⟩, by decide, rfl, by decide⟩ hx
    (fun c last now had e st R hr hR => HT.round GOOE31 GKOE31 (T.over_eq _ (tree_F03 h S me tk vp x c last now had) hr) hR)
    (fun _ p q u c last now had e st R hr hR => HT.round GOOE31 GKOE31 (T.over_eq _ (tree_G03 h S me tk vp x p q u c last now had) hr) hR)
theorem loop_14 (h : Nat) (S me tk : Int) (vp : Value) (x : Nat → Ent) (hh : h < 20) (hin : 0 ≤ me ∧ me < (h : Int)) (hx : TabOk h x) : HT Tryz.prog Tryz.f4.ntmps (.loop (loopOf Tryz.f4 18)) (S_mo h S me tk (stF h me vp [npF, .fp (shF 1), npF, npF, .fp (shF 4), npF]) x 0 0 0 0 0 0 (-1000) 1 []) OutT :=
  loop_of h S me tk _ x 2 [1, 4] 1 hh hin ⟨⟨by decide, by decide⟩, by decide, rfl, by decide⟩ hx
    (fun c last now had e st R hr hR => HT.round GOOE31 GKOE31 (T.over_eq _ (tree_F14 h S me tk vp x c last now had) hr) hR)
    (fun _ p q u c last now had e st R hr hR => HT.round GOOE31 GKOE31 (T.over_eq _ (tree_G14 h S me tk vp x p q u c last now had) hr) hR)
theorem loop_135 (h : Nat) (S me tk : Int) (vp : Value) (x : Nat → Ent) (hh : h < 20) (hin : 0 ≤ me ∧ me < (h : Int)) (hx : TabOk h x) : HT Tryz.prog Tryz.f4.ntmps (.loop (loopOf Tryz.f4 18)) (S_mo h S me tk (stF h me vp [npF, .fp (shF 1), npF, .fp (shF 3), npF, .fp (shF 5)]) x 0 0 0 0 0 0 (-1000) 1 []) OutT :=
  loop_of h S me tk _ x 3 [1, 3, 5] 1 hh hin ⟨⟨by decide, by decide⟩, by decide, rfl, by decide⟩ hx
    (fun c last now had e st R hr hR => HT.round GOOE31 GKOE31 (T.over_eq _ (tree_F135 h S me tk vp x c last now had) hr) hR)
    (fun _ p q u c last now had e st R hr hR => HT.round GOOE31 GKOE31 (T.over_eq _ (tree_G135 h S me tk vp x p q u c last now had) hr) hR)
theorem go_N (h S m : Nat) (nl : Bool) (kl : Nat) (xl : Nat → Int) (tk : Int) (hn : 0 < h) (hh : h < 20) (hm : m < h) (hnl : nl = true → kl = 0) : HT Tryz.prog Tryz.f4.ntmps (restC 6 hoC) (S_n h S m [] nl kl xl tk) EndT :=
  frz_st (h := h) (m := m) (b := 2) (S := S) (cs := [.f npF, .f npF, .f npF, .f npF, .f npF, .f npF]) (fs := [npF, npF, npF, npF, npF, npF]) (B := [1]) rfl rfl (by decide) rfl
    (fun j x y hx hy => by
      rcases j with _ | _ | _ | _ | _ | _ | j <;> first | (cases hx; cases hy; first | exact .inl rfl | exact .inr ⟨_, _, rfl, rfl, rfl, by decide⟩) | cases hx)
    (fun vp => from6 h S m (stF h m vp [npF, npF, npF, npF, npF, npF]) (pnC h S 0) nl kl xl tk hn hh ⟨by omega, by omega⟩ hnl 0 (by decide) (fun x hx => loop_N h S m tk vp x hh ⟨by omega, by omega⟩ hx))
theorem go_0 (h S m : Nat) (nl : Bool) (kl : Nat) (xl : Nat → Int) (tk : Int) (hn : 0 < h) (hh : h < 20) (hm : m < h) (hnl : nl = true → kl = 0) : HT Tryz.prog Tryz.f4.ntmps (restC 6 hoC) (S_n h S m [0] nl kl xl tk) EndT :=
  frz_st (h := h) (m := m) (b := 2) (S := S) (cs := [Ptr 3, .f npF, .f npF, .f npF, .f npF, .f npF]) (fs := [.fp (shF 0), npF, npF, npF, npF, npF]) (B := [1, 3]) rfl rfl (by decide) rfl
    (fun j x y hx hy => by
      rcases j with _ | _ | _ | _ | _ | _ | j <;> first | (cases hx; cases hy; first | exact .inl rfl | exact .inr ⟨_, _, rfl, rfl, rfl, by decide⟩) | cases hx)
    (fun vp => from6 h S m (stF h m vp [.fp (shF 0), npF, npF, npF, npF, npF]) (pnC h S 0) nl kl xl tk hn hh ⟨by omega, by omega⟩ hnl 1 (by decide) (fun x hx => loop_0 h S m tk vp x hh ⟨by omega, by omega⟩ hx))
theorem go_1 (h S m : Nat) (nl : Bool) (kl : Nat) (xl : Nat → Int) (tk : Int) (hn : 0 < h) (hh : h < 20) (hm : m < h) (hnl : nl = true → kl = 0) : HT Tryz.prog Tryz.f4.ntmps (restC 6 hoC) (S_n h S m [1] nl kl xl tk) EndT :=
  frz_st (h := h) (m := m) (b := 2) (S := S) (cs := [.f npF, Ptr 3, .f npF, .f npF, .f npF, .f npF]) (fs := [npF, .fp (shF 1), npF, npF, npF, npF]) (B := [1, 3]) rfl rfl (by decide) rfl
    (fun j x y hx hy => by
      rcases j with _ | _ | _ | _ | _ | _ | j <;> first | (cases hx; cases hy; first | exact .inl rfl | exact .inr ⟨_, _, rfl, rfl, rfl, by decide⟩) | cases hx)
    (fun vp => from6 h S m (stF h m vp [npF, .fp (shF 1), npF, npF, npF, npF]) (pnC h S 0) nl kl xl tk hn hh ⟨by omega, by omega⟩ hnl 1 (by decide) (fun x hx => loop_1 h S m tk vp x hh ⟨by omega, by omega⟩ hx))
theorem go_2 (h S m : Nat) (nl : Bool) (kl : Nat) (xl : Nat → Int) (tk : Int) (hn : 0 < h) (hh : h < 20) (hm : m < h) (hnl : nl = true → kl = 0) : HT Tryz.prog Tryz.f4.ntmps (restC 6 hoC) (S_n h S m [2] nl kl xl tk) EndT :=
  frz_st (h := h) (m := m) (b := 2) (S := S) (cs := [.f npF, .f npF, Ptr 3, .f npF, .f npF, .f npF]) (fs := [npF, npF, .fp (shF 2), npF, npF, npF]) (B := [1, 3]) rfl rfl (by decide) rfl
    (fun j x y hx hy => by
      rcases j with _ | _ | _ | _ | _ | _ | j <;> first | (cases hx; cases hy; first | exact .inl rfl | exact .inr ⟨_, _, rfl, rfl, rfl, by decide⟩) | cases hx)
    (fun vp => from6 h S m (stF h m vp [npF, npF, .fp (shF 2), npF, npF, npF]) (pnC h S 0) nl kl xl tk hn hh ⟨by omega, by omega⟩ hnl 1 (by decide) (fun x hx => loop_2 h S m tk vp x hh ⟨by omega, by omega⟩ hx))
theorem go_3 (h S m : Nat) (nl : Bool) (kl : Nat) (xl : Nat → Int) (tk : Int) (hn : 0 < h) (hh : h < 20) (hm : m < h) (hnl : nl = true → kl = 0) : HT Tryz.prog Tryz.f4.ntmps (restC 6 hoC) (S_n h S m [3] nl kl xl tk) EndT :=
  frz_st (h := h) (m := m) (b := 2) (S := S) (cs := [.f npF, .f npF, .f npF, Ptr 3, .f npF, .f npF]) (fs := [npF, npF, npF, .fp (shF 3), npF, npF]) (B := [1, 3]) rfl rfl (by decide) rfl
    (fun j x y hx hy => by
      rcases j with _ | _ | _ | _ | _ | _ | j <;> first | (cases hx; cases hy; first | exact .inl rfl | exact .inr ⟨_, _, rfl, rfl, rfl, by decide⟩) | cases hx)
    (fun vp => from6 h S m (stF h m vp [npF, npF, npF, .fp (shF 3), npF, npF]) (pnC h S 0) nl kl xl tk hn hh ⟨by omega, by omega⟩ hnl 1 (by decide) (fun x hx => loop_3 h S m tk vp x hh ⟨by omega, by omega⟩ hx))
theorem go_4 (h S m : Nat) (nl : Bool) (kl : Nat) (xl : Nat → Int) (tk : Int) (hn : 0 < h) (hh : h < 20) (hm : m < h) (hnl : nl = true → kl = 0) : HT Tryz.prog Tryz.f4.ntmps (restC 6 hoC) (S_n h S m [4] nl kl xl tk) EndT :=
  frz_st (h := h) (m := m) (b := 2) (S := S) (cs := [.f npF, .f npF, .f npF, .f npF, Ptr 3, .f npF]) (fs := [npF, npF, npF, npF, .fp (shF 4), npF]) (B := [1, 3]) rfl rfl (by decide) rfl
    (fun j x y hx hy => by
      rcases j with _ | _ | _ | _ | _ | _ | j <;> first | (cases hx; cases hy; first | exact .inl rfl | exact .inr ⟨_, _, rfl, rfl, rfl, by decide⟩) | cases hx)
    (fun vp => from6 h S m (stF h m vp [npF, npF, npF, npF, .fp (shF 4), npF]) (pnC h S 0) nl kl xl tk hn hh ⟨by omega, by omega⟩ hnl 1 (by decide) (fun x hx => loop_4 h S m tk vp x hh ⟨by omega, by omega⟩ hx))
theorem go_02 (h S m : Nat) (nl : Bool) (kl : Nat) (xl : Nat → Int) (tk : Int) (hn : 0 < h) (hh : h < 20) (hm : m < h) (hnl : nl = true → kl = 0) : HT Tryz.prog Tryz.f4.ntmps (restC 6 hoC) (S_n h S m [0, 2] nl kl xl tk) EndT :=
  frz_st (h := h) (m := m) (b := 2) (S := S) (cs := [Ptr 3, .f npF, Ptr 4, .f npF, .f npF, .f npF]) (fs := [.fp (shF 0), npF, .fp (shF 2), npF, npF, npF]) (B := [1, 3, 4]) rfl rfl (by decide) rfl
    (fun j x y hx hy => by
      rcases j with _ | _ | _ | _ | _ | _ | j <;> first | (cases hx; cases hy; first | exact .inl rfl | exact .inr ⟨_, _, rfl, rfl, rfl, by decide⟩) | cases hx)
    (fun vp => from6 h S m (stF h m vp [.fp (shF 0), npF, .fp (shF 2), npF, npF, npF]) (pnC h S 0) nl kl xl tk hn hh ⟨by omega, by omega⟩ hnl 2 (by decide) (fun x hx => loop_02 h S m tk vp x hh ⟨by omega, by omega⟩ hx))
theorem go_03 (h S m : Nat) (nl : Bool) (kl : Nat) (xl : Nat → Int) (tk : Int) (hn : 0 < h) (hh : h < 20) (hm : m < h) (hnl : nl = true → kl = 0) : HT Tryz.prog Tryz.f4.ntmps (restC 6 hoC) (S_n h S m [0, 3] nl kl xl tk) EndT :=
  frz_st (h := h) (m := m) (b := 2) (S := S) (cs := [Ptr 3, .f npF, .f npF, Ptr 4, .f npF, .f npF]) (fs := [.fp (shF 0), npF, npF, .fp (shF 3), npF, npF]) (B := [1, 3, 4]) rfl rfl (by decide) rfl
    (fun j x y hx hy => by
      rcases j with _ | _ | _ | _ | _ | _ | j <;> first | (cases hx; cases hy; first | exact .inl rfl | exact .inr ⟨_, _, rfl, rfl, rfl, by decide⟩) | cases hx)
    (fun vp => from6 h S m (stF h m vp [.fp (shF 0), npF, npF, .fp (shF 3), npF, npF]) (pnC h S 0) nl kl xl tk hn hh ⟨by omega, by omega⟩ hnl 2 (by decide) (fun x hx => loop_03 h S m tk vp x hh ⟨by omega, by omega⟩ hx))
theorem go_04 (h S m : Nat) (nl : Bool) (kl : Nat) (xl : Nat → Int) (tk : Int) (hn : 0 < h) (hh : h < 20) (hm : m < h) (hnl : nl = true → kl = 0) : HT Tryz.prog Tryz.f4.ntmps (restC 6 hoC) (S_n h S m [0, 4] nl kl xl tk) EndT :=
  frz_st (h := h) (m := m) (b := 2) (S := S) (cs := [Ptr 3, .f npF, .f npF, .f npF, Ptr 4, .f npF]) (fs := [.fp (shF 0), npF, npF, npF, .fp (shF 4), npF]) (B := [1, 3, 4]) rfl rfl (by decide) rfl
    (fun j x y hx hy => by
      rcases j with _ | _ | _ | _ | _ | _ | j <;> first | (cases hx; cases hy; first | exact .inl rfl | exact .inr ⟨_, _, rfl, rfl, rfl, by decide⟩) | cases hx)
    (fun vp => from6 h S m (stF h m vp [.fp (shF 0), npF, npF, npF, .fp (shF 4), npF]) (pnC h S 0) nl kl xl tk hn hh ⟨by omega, by omega⟩ hnl 2 (by decide) (fun x hx => loop_04 h S m tk vp x hh ⟨by omega, by omega⟩ hx))
theorem go_05 (h S m : Nat) (nl : Bool) (kl : Nat) (xl : Nat → Int) (tk : Int) (hn : 0 < h) (hh : h < 20) (hm : m < h) (hnl : nl = true → kl = 0) : HT Tryz.prog Tryz.f4.ntmps (restC 6 hoC) (S_n h S m [0, 5] nl kl xl tk) EndT :=
  frz_st (h := h) (m := m) (b := 2) (S := S) (cs := [Ptr 3, .f npF, .f npF, .f npF, .f npF, Ptr 4]) (fs := [.fp (shF 0), npF, npF, npF, npF, .fp (shF 5)]) (B := [1, 3, 4]) rfl rfl (by decide) rfl
    (fun j x y hx hy => by
      rcases j with _ | _ | _ | _ | _ | _ | j <;> first | (cases hx; cases hy; first | exact .inl rfl | exact .inr ⟨_, _, rfl, rfl, rfl, by decide⟩) | cases hx)
    (fun vp => from6 h S m (stF h m vp [.fp (shF 0), npF, npF, npF, npF, .fp (shF 5)]) (pnC h S 0) nl kl xl tk hn hh ⟨by omega, by omega⟩ hnl 2 (by decide) (fun x hx => loop_05 h S m tk vp x hh ⟨by omega, by omega⟩ hx))
theorem go_13 (h S m : Nat) (nl : Bool) (kl : Nat) (xl : Nat → Int) (tk : Int) (hn : 0 < h) (hh : h < 20) (hm : m < h) (hnl : nl = true → kl = 0) : HT Tryz.prog Tryz.f4.ntmps (restC 6 hoC) (S_n h S m [1, 3] nl kl xl tk) EndT :=
  frz_st (h := h) (m := m) (b := 2) (S := S) (cs := [.f npF, Ptr 3, .f npF, Ptr 4, .f npF, .f npF]) (fs := [npF, .fp (shF 1), npF, .fp (shF 3), npF, npF]) (B := [1, 3, 4]) rfl rfl (by decide) rfl
    (fun j x y hx hy => by
      rcases j with _ | _ | _ | _ | _ | _ | j <;> first | (cases hx; cases hy; first | exact .inl rfl | exact .inr ⟨_, _, rfl, rfl, rfl, by decide⟩) | cases hx)
    (fun vp => from6 h S m (stF h m vp [npF, .fp (shF 1), npF, .fp (shF 3), npF, npF]) (pnC h S 0) nl kl xl tk hn hh ⟨by omega, by omega⟩ hnl 2 (by decide) (fun x hx => loop_13 h S m tk vp x hh ⟨by omega, by omega⟩ hx))
theorem go_14 (h S m : Nat) (nl : Bool) (kl : Nat) (xl : Nat → Int) (tk : Int) (hn : 0 < h) (hh : h < 20) (hm : m < h) (hnl : nl = true → kl = 0) : HT Tryz.prog Tryz.f4.ntmps (restC 6 hoC) (S_n h S m [1, 4] nl kl xl tk) EndT :=
  frz_st (h := h) (m := m) (b := 2) (S := S) (cs := [.f npF, Ptr 3, .f npF, .f npF, Ptr 4, .f npF]) (fs := [npF, .fp (shF 1), npF, npF, .fp (shF 4), npF]) (B := [1, 3, 4]) rfl rfl (by decide) rfl
    (fun j x y hx hy => by
      rcases j with _ | _ | _ | _ | _ | _ | j <;> first | (cases hx; cases hy; first | exact .inl rfl | exact .inr ⟨_, _, rfl, rfl, rfl, by decide⟩) | cases hx)
    (fun vp => from6 h S m (stF h m vp [npF, .fp (shF 1), npF, npF, .fp (shF 4), npF]) (pnC h S 0) nl kl xl tk hn hh ⟨by omega, by omega⟩ hnl 2 (by decide) (fun x hx => loop_14 h S m tk vp x hh ⟨by omega, by omega⟩ hx))
theorem go_15 (h S m : Nat) (nl : Bool) (kl : Nat) (xl : Nat → Int) (tk : Int) (hn : 0 < h) (hh : h < 20) (hm : m < h) (hnl : nl = true → kl = 0) : HT Tryz.prog Tryz.f4.ntmps (restC 6 hoC) (S_n h S m [1, 5] nl kl xl tk) EndT :=
  frz_st (h := h) (m := m) (b := 2) (S := S) (cs := [.f npF, Ptr 3, .f npF, .f npF, .f npF, Ptr 4]) (fs := [npF, .fp (shF 1), npF, npF, npF, .fp (shF 5)]) (B := [1, 3, 4]) rfl rfl (by decide) rfl
    (fun j x y hx hy => by
      rcases j with _ | _ | _ | _ | _ | _ | j <;> first | (cases hx; cases hy; first | exact .inl rfl | exact .inr ⟨_, _, rfl, rfl, rfl, by decide⟩) | cases hx)
    (fun vp => from6 h S m (stF h m vp [npF, .fp (shF 1), npF, npF, npF, .fp (shF 5)]) (pnC h S 0) nl kl xl tk hn hh ⟨by omega, by omega⟩ hnl 2 (by decide) (fun x hx => loop_15 h S m tk vp x hh ⟨by omega, by omega⟩ hx))
theorem go_25 (h S m : Nat) (nl : Bool) (kl : Nat) (xl : Nat → Int) (tk : Int) (hn : 0 < h) (hh : h < 20) (hm : m < h) (hnl : nl = true → kl = 0) : HT Tryz.prog Tryz.f4.ntmps (restC 6 hoC) (S_n h S m [2, 5] nl kl xl tk) EndT :=
  frz_st (h := h) (m := m) (b := 2) (S := S) (cs := [.f npF, .f npF, Ptr 3, .f npF, .f npF, Ptr 4]) (fs := [npF, npF, .fp (shF 2), npF, npF, .fp (shF 5)]) (B := [1, 3, 4]) rfl rfl (by decide) rfl
    (fun j x y hx hy => by
      rcases j with _ | _ | _ | _ | _ | _ | j <;> first | (cases hx; cases hy; first | exact .inl rfl | exact .inr ⟨_, _, rfl, rfl, rfl, by decide⟩) | cases hx)
    (fun vp => from6 h S m (stF h m vp [npF, npF, .fp (shF 2), npF, npF, .fp (shF 5)]) (pnC h S 0) nl kl xl tk hn hh ⟨by omega, by omega⟩ hnl 2 (by decide) (fun x hx => loop_25 h S m tk vp x hh ⟨by omega, by omega⟩ hx))
theorem go_024 (h S m : Nat) (nl : Bool) (kl : Nat) (xl : Nat → Int) (tk : Int) (hn : 0 < h) (hh : h < 20) (hm : m < h) (hnl : nl = true → kl = 0) : HT Tryz.prog Tryz.f4.ntmps (restC 6 hoC) (S_n h S m [0, 2, 4] nl kl xl tk) EndT :=
  frz_st (h := h) (m := m) (b := 2) (S := S) (cs := [Ptr 3, .f npF, Ptr 4, .f npF, Ptr 5, .f npF]) (fs := [.fp (shF 0), npF, .fp (shF 2), npF, .fp (shF 4), npF]) (B := [1, 3, 4, 5]) rfl rfl (by decide) rfl
    (fun j x y hx hy => by
      rcases j with _ | _ | _ | _ | _ | _ | j <;> first | (cases hx; cases hy; first | exact .inl rfl | exact .inr ⟨_, _, rfl, rfl, rfl, by decide⟩) | cases hx)
    (fun vp => from6 h S m (stF h m vp [.fp (shF 0), npF, .fp (shF 2), npF, .fp (shF 4), npF]) (pnC h S 0) nl kl xl tk hn hh ⟨by omega, by omega⟩ hnl 3 (by decide) (fun x hx => loop_024 h S m tk vp x hh ⟨by omega, by omega⟩ hx))
theorem go_135 (h S m : Nat) (nl : Bool) (kl : Nat) (xl : Nat → Int) (tk : Int) (hn : 0 < h) (hh : h < 20) (hm : m < h) (hnl : nl = true → kl = 0) : HT Tryz.prog Tryz.f4.ntmps (restC 6 hoC) (S_n h S m [1, 3, 5] nl kl xl tk) EndT :=
  frz_st (h := h) (m := m) (b := 2) (S := S) (cs := [.f npF, Ptr 3, .f npF, Ptr 4, .f npF, Ptr 5]) (fs := [npF, .fp (shF 1), npF, .fp (shF 3), npF, .fp (shF 5)]) (B := [1, 3, 4, 5]) rfl rfl (by decide) rfl
    (fun j x y hx hy => by
      rcases j with _ | _ | _ | _ | _ | _ | j <;> first | (cases hx; cases hy; first | exact .inl rfl | exact .inr ⟨_, _, rfl, rfl, rfl, by decide⟩) | cases hx)
    (fun vp => from6 h S m (stF h m vp [npF, .fp (shF 1), npF, .fp (shF 3), npF, .fp (shF 5)]) (pnC h S 0) nl kl xl tk hn hh ⟨by omega, by omega⟩ hnl 3 (by decide) (fun x hx => loop_135 h S m tk vp x hh ⟨by omega, by omega⟩ hx))
theorem all_new (h S m : Nat) (nl : Bool) (kl : Nat) (xl : Nat → Int) (tk : Int) (h1 : 2 ≤ h ∧ h ≤ 5) (h2 : 1 ≤ S ∧ S ≤ 6) (h3 : m < h) (hnl : nl = true → kl = 0) :
    HT Tryz.prog Tryz.f4.ntmps (restC 3 hoC) ⟨[(1, .v (AI m)), (2, .v (.one (.f (.fs nl 1 kl (intE xl))))), (3, .v (AI tk)), (9, .v (AP 0))], [(0, .cells [I h, I S])], 1, false, 0, []⟩ EndT := by
  have a1 : h = 2 ∨ h = 3 ∨ h = 4 ∨ h = 5 := by omega
  have a2 : S = 1 ∨ S = 2 ∨ S = 3 ∨ S = 4 ∨ S = 5 ∨ S = 6 := by omega
  rcases a1 with rfl | rfl | rfl | rfl <;> rcases a2 with rfl | rfl | rfl | rfl | rfl | rfl
  · rcases (show m = 0 ∨ m = 1 by omega) with rfl | rfl
    · exact from3 new_2_1_0 nl kl xl tk (go_0 2 1 0 nl kl xl tk (by decide) (by decide) (by decide) hnl)
    · exact from3 new_2_1_1 nl kl xl tk (go_N 2 1 1 nl kl xl tk (by decide) (by decide) (by decide) hnl)
  · rcases (show m = 0 ∨ m = 1 by omega) with rfl | rfl
    · exact from3 new_2_2_0 nl kl xl tk (go_0 2 2 0 nl kl xl tk (by decide) (by decide) (by decide) hnl)
    · exact from3 new_2_2_1 nl kl xl tk (go_1 2 2 1 nl kl xl tk (by decide) (by decide) (by decide) hnl)
  · rcases (show m = 0 ∨ m = 1 by omega) with rfl | rfl
    · exact from3 new_2_3_0 nl kl xl tk (go_02 2 3 0 nl kl xl tk (by decide) (by decide) (by decide) hnl)
    · exact from3 new_2_3_1 nl kl xl tk (go_1 2 3 1 nl kl xl tk (by decide) (by decide) (by decide) hnl)
  · rcases (show m = 0 ∨ m = 1 by omega) with rfl | rfl
    · exact from3 new_2_4_0 nl kl xl tk (go_02 2 4 0 nl kl xl tk (by decide) (by decide) (by decide) hnl)
    · exact from3 new_2_4_1 nl kl xl tk (go_13 2 4 1 nl kl xl tk (by decide) (by decide) (by decide) hnl)
  · rcases (show m = 0 ∨ m = 1 by omega) with rfl | rfl
    · exact from3 new_2_5_0 nl kl xl tk (go_024 2 5 0 nl kl xl tk (by decide) (by decide) (by decide) hnl)
    · exact from3 new_2_5_1 nl kl xl tk (go_13 2 5 1 nl kl xl tk (by decide) (by decide) (by decide) hnl)
  · rcases (show m = 0 ∨ m = 1 by omega) with rfl | rfl
    · exact from3 new_2_6_0 nl kl xl tk (go_024 2 6 0 nl kl xl tk (by decide) (by decide) (by decide) hnl)
    · exact from3 new_2_6_1 nl kl xl tk (go_135 2 6 1 nl kl xl tk (by decide) (by decide) (by decide) hnl)
  · rcases (show m = 0 ∨ m = 1 ∨ m = 2 by omega) with rfl | rfl | rfl
    · exact from3 new_3_1_0 nl kl xl tk (go_0 3 1 0 nl kl xl tk (by decide) (by decide) (by decide) hnl)
    · exact from3 new_3_1_1 nl kl xl tk (go_N 3 1 1 nl kl xl tk (by decide) (by decide) (by decide) hnl)
    · exact from3 new_3_1_2 nl kl xl tk (go_N 3 1 2 nl kl xl tk (by decide) (by decide) (by decide) hnl)
  · rcases (show m = 0 ∨ m = 1 ∨ m = 2 by omega) with rfl | rfl | rfl
    · exact from3 new_3_2_0 nl kl xl tk (go_0 3 2 0 nl kl xl tk (by decide) (by decide) (by decide) hnl)
    · exact from3 new_3_2_1 nl kl xl tk (go_1 3 2 1 nl kl xl tk (by decide) (by decide) (by decide) hnl)
    · exact from3 new_3_2_2 nl kl xl tk (go_N 3 2 2 nl kl xl tk (by decide) (by decide) (by decide) hnl)
  · rcases (show m = 0 ∨ m = 1 ∨ m = 2 by omega) with rfl | rfl | rfl
    · exact from3 new_3_3_0 nl kl xl tk (go_0 3 3 0 nl kl xl tk (by decide) (by decide) (by decide) hnl)
    · exact from3 new_3_3_1 nl kl xl tk (go_1 3 3 1 nl kl xl tk (by decide) (by decide) (by decide) hnl)
    · exact from3 new_3_3_2 nl kl xl tk (go_2 3 3 2 nl kl xl tk (by decide) (by decide) (by decide) hnl)
  · rcases (show m = 0 ∨ m = 1 ∨ m = 2 by omega) with rfl | rfl | rfl
    · exact from3 new_3_4_0 nl kl xl tk (go_03 3 4 0 nl kl xl tk (by decide) (by decide) (by decide) hnl)
    · exact from3 new_3_4_1 nl kl xl tk (go_1 3 4 1 nl kl xl tk (by decide) (by decide) (by decide) hnl)
    · exact from3 new_3_4_2 nl kl xl tk (go_2 3 4 2 nl kl xl tk (by decide) (by decide) (by decide) hnl)
  · rcases (show m = 0 ∨ m = 1 ∨ m = 2 by omega) with rfl | rfl | rfl
    · exact from3 new_3_5_0 nl kl xl tk (go_03 3 5 0 nl kl xl tk (by decide) (by decide) (by decide) hnl)
    · exact from3 new_3_5_1 nl kl xl tk (go_14 3 5 1 nl kl xl tk (by decide) (by decide) (by decide) hnl)
    · exact from3 new_3_5_2 nl kl xl tk (go_2 3 5 2 nl kl xl tk (by decide) (by decide) (by decide) hnl)
  · rcases (show m = 0 ∨ m = 1 ∨ m = 2 by omega) with rfl | rfl | rfl
    · exact from3 new_3_6_0 nl kl xl tk (go_03 3 6 0 nl kl xl tk (by decide) (by decide) (by decide) hnl)
    · exact from3 new_3_6_1 nl kl xl tk (go_14 3 6 1 nl kl xl tk (by decide) (by decide) (by decide) hnl)
    · exact from3 new_3_6_2 nl kl xl tk (go_25 3 6 2 nl kl xl tk (by decide) (by decide) (by decide) hnl)
  · rcases (show m = 0 ∨ m = 1 ∨ m = 2 ∨ m = 3 by omega) with rfl | rfl | rfl | rfl
    · exact from3 new_4_1_0 nl kl xl tk (go_0 4 1 0 nl kl xl tk (by decide) (by decide) (by decide) hnl)
    · exact from3 new_4_1_1 nl kl xl tk (go_N 4 1 1 nl kl xl tk (by decide) (by decide) (by decide) hnl)
    · exact from3 new_4_1_2 nl kl xl tk (go_N 4 1 2 nl kl xl tk (by decide) (by decide) (by decide) hnl)
    · exact from3 new_4_1_3 nl kl xl tk (go_N 4 1 3 nl kl xl tk (by decide) (by decide) (by decide) hnl)
  · rcases (show m = 0 ∨ m = 1 ∨ m = 2 ∨ m = 3 by omega) with rfl | rfl | rfl | rfl
    · exact from3 new_4_2_0 nl kl xl tk (go_0 4 2 0 nl kl xl tk (by decide) (by decide) (by decide) hnl)
    · exact from3 new_4_2_1 nl kl xl tk (go_1 4 2 1 nl kl xl tk (by decide) (by decide) (by decide) hnl)
    · exact from3 new_4_2_2 nl kl xl tk (go_N 4 2 2 nl kl xl tk (by decide) (by decide) (by decide) hnl)
    · exact from3 new_4_2_3 nl kl xl tk (go_N 4 2 3 nl kl xl tk (by decide) (by decide) (by decide) hnl)
  · rcases (show m = 0 ∨ m = 1 ∨ m = 2 ∨ m = 3 by omega) with rfl | rfl | rfl | rfl
    · exact from3 new_4_3_0 nl kl xl tk (go_0 4 3 0 nl kl xl tk (by decide) (by decide) (by decide) hnl)
    · exact from3 new_4_3_1 nl kl xl tk (go_1 4 3 1 nl kl xl tk (by decide) (by decide) (by decide) hnl)
    · exact from3 new_4_3_2 nl kl xl tk (go_2 4 3 2 nl kl xl tk (by decide) (by decide) (by decide) hnl)
    · exact from3 new_4_3_3 nl kl xl tk (go_N 4 3 3 nl kl xl tk (by decide) (by decide) (by decide) hnl)
  · rcases (show m = 0 ∨ m = 1 ∨ m = 2 ∨ m = 3 by omega) with rfl | rfl | rfl | rfl
    · exact from3 new_4_4_0 nl kl xl tk (go_0 4 4 0 nl kl xl tk (by decide) (by decide) (by decide) hnl)
    · exact from3 new_4_4_1 nl kl xl tk (go_1 4 4 1 nl kl xl tk (by decide) (by decide) (by decide) hnl)
    · exact from3 new_4_4_2 nl kl xl tk (go_2 4 4 2 nl kl xl tk (by decide) (by decide) (by decide) hnl)
    · exact from3 new_4_4_3 nl kl xl tk (go_3 4 4 3 nl kl xl tk (by decide) (by decide) (by decide) hnl)
  · rcases (show m = 0 ∨ m = 1 ∨ m = 2 ∨ m = 3 by omega) with rfl | rfl | rfl | rfl
    · exact from3 new_4_5_0 nl kl xl tk (go_04 4 5 0 nl kl xl tk (by decide) (by decide) (by decide) hnl)
    · exact from3 new_4_5_1 nl kl xl tk (go_1 4 5 1 nl kl xl tk (by decide) (by decide) (by decide) hnl)
    · exact from3 new_4_5_2 nl kl xl tk (go_2 4 5 2 nl kl xl tk (by decide) (by decide) (by decide) hnl)
    · exact from3 new_4_5_3 nl kl xl tk (go_3 4 5 3 nl kl xl tk (by decide) (by decide) (by decide) hnl)
  · rcases (show m = 0 ∨ m = 1 ∨ m = 2 ∨ m = 3 by omega) with rfl | rfl | rfl | rfl
    · exact from3 new_4_6_0 nl kl xl tk (go_04 4 6 0 nl kl xl tk (by decide) (by decide) (by decide) hnl)
    · exact from3 new_4_6_1 nl kl xl tk (go_15 4 6 1 nl kl xl tk (by decide) (by decide) (by decide) hnl)
    · exact from3 new_4_6_2 nl kl xl tk (go_2 4 6 2 nl kl xl tk (by decide) (by decide) (by decide) hnl)
    · exact from3 new_4_6_3 nl kl xl tk (go_3 4 6 3 nl kl xl tk (by decide) (by decide) (by decide) hnl)
  · rcases (show m = 0 ∨ m = 1 ∨ m = 2 ∨ m = 3 ∨ m = 4 by omega) with rfl | rfl | rfl | rfl | rfl
    · exact from3 new_5_1_0 nl kl xl tk (go_0 5 1 0 nl kl xl tk (by decide) (by decide) (by decide) hnl)
    · exact from3 new_5_1_1 nl kl xl tk (go_N 5 1 1 nl kl xl tk (by decide) (by decide) (by decide) hnl)
    · exact from3 new_5_1_2 nl kl xl tk (go_N 5 1 2 nl kl xl tk (by decide) (by decide) (by decide) hnl)
    · exact from3 new_5_1_3 nl kl xl tk (go_N 5 1 3 nl kl xl tk (by decide) (by decide) (by decide) hnl)
    · exact from3 new_5_1_4 nl kl xl tk (go_N 5 1 4 nl kl xl tk (by decide) (by decide) (by decide) hnl)
  · rcases (show m = 0 ∨ m = 1 ∨ m = 2 ∨ m = 3 ∨ m = 4 by omega) with rfl | rfl | rfl | rfl | rfl
    · exact from3 new_5_2_0 nl kl xl tk (go_0 5 2 0 nl kl xl tk (by decide) (by decide) (by decide) hnl)
    · exact from3 new_5_2_1 nl kl xl tk (go_1 5 2 1 nl kl xl tk (by decide) (by decide) (by decide) hnl)
    · exact from3 new_5_2_2 nl kl xl tk (go_N 5 2 2 nl kl xl tk (by decide) (by decide) (by decide) hnl)
    · exact from3 new_5_2_3 nl kl xl tk (go_N 5 2 3 nl kl xl tk (by decide) (by decide) (by decide) hnl)
    · exact from3 new_5_2_4 nl kl xl tk (go_N 5 2 4 nl kl xl tk (by decide) (by decide) (by decide) hnl)
  · rcases (show m = 0 ∨ m = 1 ∨ m = 2 ∨ m = 3 ∨ m = 4 by omega) with rfl | rfl | rfl | rfl | rfl
    · exact from3 new_5_3_0 nl kl xl tk (go_0 5 3 0 nl kl xl tk (by decide) (by decide) (by decide) hnl)
    · exact from3 new_5_3_1 nl kl xl tk (go_1 5 3 1 nl kl xl tk (by decide) (by decide) (by decide) hnl)
    · exact from3 new_5_3_2 nl kl xl tk (go_2 5 3 2 nl kl xl tk (by decide) (by decide) (by decide) hnl)
    · exact from3 new_5_3_3 nl kl xl tk (go_N 5 3 3 nl kl xl tk (by decide) (by decide) (by decide) hnl)
    · exact from3 new_5_3_4 nl kl xl tk (go_N 5 3 4 nl kl xl tk (by decide) (by decide) (by decide) hnl)
  · rcases (show m = 0 ∨ m = 1 ∨ m = 2 ∨ m = 3 ∨ m = 4 by omega) with rfl | rfl | rfl | rfl | rfl
    · exact from3 new_5_4_0 nl kl xl tk (go_0 5 4 0 nl kl xl tk (by decide) (by decide) (by decide) hnl)
    · exact from3 new_5_4_1 nl kl xl tk (go_1 5 4 1 nl kl xl tk (by decide) (by decide) (by decide) hnl)
    · exact from3 new_5_4_2 nl kl xl tk (go_2 5 4 2 nl kl xl tk (by decide) (by decide) (by decide) hnl)
    · exact from3 new_5_4_3 nl kl xl tk (go_3 5 4 3 nl kl xl tk (by decide) (by decide) (by decide) hnl)
    · exact from3 new_5_4_4 nl kl xl tk (go_N 5 4 4 nl kl xl tk (by decide) (by decide) (by decide) hnl)
  · rcases (show m = 0 ∨ m = 1 ∨ m = 2 ∨ m = 3 ∨ m = 4 by omega) with rfl | rfl | rfl | rfl | rfl
    · exact from3 new_5_5_0 nl kl xl tk (go_0 5 5 0 nl kl xl tk (by decide) (by decide) (by decide) hnl)
    · exact from3 new_5_5_1 nl kl xl tk (go_1 5 5 1 nl kl xl tk (by decide) (by decide) (by decide) hnl)
    · exact from3 new_5_5_2 nl kl xl tk (go_2 5 5 2 nl kl xl tk (by decide) (by decide) (by decide) hnl)
    · exact from3 new_5_5_3 nl kl xl tk (go_3 5 5 3 nl kl xl tk (by decide) (by decide) (by decide) hnl)
    · exact from3 new_5_5_4 nl kl xl tk (go_4 5 5 4 nl kl xl tk (by decide) (by decide) (by decide) hnl)
  · rcases (show m = 0 ∨ m = 1 ∨ m = 2 ∨ m = 3 ∨ m = 4 by omega) with rfl | rfl | rfl | rfl | rfl
    · exact from3 new_5_6_0 nl kl xl tk (go_05 5 6 0 nl kl xl tk (by decide) (by decide) (by decide) hnl)
    · exact from3 new_5_6_1 nl kl xl tk (go_1 5 6 1 nl kl xl tk (by decide) (by decide) (by decide) hnl)
    · exact from3 new_5_6_2 nl kl xl tk (go_2 5 6 2 nl kl xl tk (by decide) (by decide) (by decide) hnl)
    · exact from3 new_5_6_3 nl kl xl tk (go_3 5 6 3 nl kl xl tk (by decide) (by decide) (by decide) hnl)
    · exact from3 new_5_6_4 nl kl xl tk (go_4 5 6 4 nl kl xl tk (by decide) (by decide) (by decide) hnl)
theorem all_offers (n me : Int) (nl : Bool) (kl : Nat) (xl : Nat → Int) (tk : Int) (hnl : nl = true → kl = 0) : HT Tryz.prog Tryz.f4.ntmps hoC ⟨argSlots 0 [AI n, AI me, .one (.f (.fs nl 1 kl (intE xl))), AI tk], [], 0, false, 0, []⟩ EndT := by
  obtain ⟨d, hd⟩ : ∃ d, IntKind.wrap IntKind.i64 (Int.tdiv n 7) = d := ⟨_, rfl⟩
  obtain ⟨h, hh⟩ : ∃ h : Nat, 2 + n % 4 = h := ⟨(2 + n % 4).toNat, by omega⟩
  obtain ⟨S, hS⟩ : ∃ S : Nat, 1 + d % 6 = S := ⟨(1 + d % 6).toNat, by omega⟩
  have b1 := Int.emod_nonneg me (show (h : Int) ≠ 0 by omega)
  have b2 := Int.emod_lt_of_pos me (show (0 : Int) < (h : Int) by omega)
  obtain ⟨m, hm⟩ : ∃ m : Nat, me % (h : Int) = m := ⟨(me % (h : Int)).toNat, by omega⟩
  have e1 : IntKind.wrap IntKind.i64 (h : Int) = h := wrapI (by omega)
  have e2 : IntKind.wrap IntKind.i64 (S : Int) = S := wrapI (by omega)
  have e3 : (0 : Int) < (h : Int) ∧ (h : Int) ≤ 9223372036854775807 := by omega
  refine HT.cutR GOOB1 GKOB1 (e := .normal) (st := ⟨[(1, .v (AI m)), (2, .v (.one (.f (.fs nl 1 kl (intE xl))))), (3, .v (AI tk)), (9, .v (AP 0))], [(0, .cells [I h, I S])], 1, false, 0, []⟩) (T.over_eq _ (tree_A n me nl kl xl tk) ?_) (fun _ => all_new h S m nl kl xl tk (by omega) (by omega) (by omega) hnl) (fun h => absurd rfl h)
  simp only [T.res_br, T.res_ret, T.res_bad, e1, hd, e2, hh, hS, decide_eq_true e3, hm, reduceIte]
theorem offers_walk (w : World) {v : Value} (n me tk : Int) {nl : Bool} {kl : Nat} {xl : Nat → Int} (hx : RF (zAll w) (.fs nl 1 kl (intE xl)) v) (hnl : nl = true → kl = 0) :
    Calls Tryz.prog 4 #[.int .i64 n, .int .i64 me, v, .int .i64 tk] w fun e w' => e = .returned (.bool true) ∧ Go.RowKit.Below w.heap.size w w' :=
  law_ht (args := [AI n, AI me, .one (.f (.fs nl 1 kl (intE xl))), AI tk]) GOOG1 (by kernel_rfl) (by kernel_rfl) (show 4 ≤ Tryz.f4.ntmps from of_decide_eq_true (by kernel_rfl)) (RAs.cons (RF.lit _ rfl) (RAs.cons (RF.lit _ rfl) (RAs.cons hx (RAs.cons (RF.lit _ rfl) RAs.nil)))) (all_offers n me nl kl xl tk hnl)

end Go.Proofs.YtbobakclbdaepaaGreat.En
