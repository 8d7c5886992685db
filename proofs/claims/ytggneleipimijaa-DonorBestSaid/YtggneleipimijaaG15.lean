/- Texts put together: DE. -/
import Derived.Test.YtggneleipimijaaG14
/- DonorBest. -/
namespace Go.Proofs.Ytggneleipimijaa.En
open Go
set_option linter.unusedVariables false
set_option linter.unusedSimpArgs false
set_option maxRecDepth 20000
set_option maxHeartbeats 1000000
def MapL (es : List (Value × Value)) : Prop := ∃ l, es = mI l
theorem MapL_mI (l : List (Int × Int)) : MapL (mI l) := ⟨l, rfl⟩
def NoneV (nn ld : Int) (dr : Bool) (es : List (Value × Value)) (ok : Bool) (k g1 g2 g4 : Int) : Prop := ∀ l, es = mI l → NoneBetter nn ld dr l ok k g1 g2 g4

noncomputable def L_mr : LoopF := mkCodeF [7, 8, 11, 12, 13, 16, 17, 60, 61, 62] cd_mr Try.f10.ntmps fun sl H nx => match keyed [7, 8, 11, 12, 13, 16, 17, 60, 61, 62] sl, keyed [0, 1] H with
  | some [.v (.one (.f (.fs nl k1 n e))), .v (.one (.mp z1)), .v (.one (.f (.lit (.int .i64 nn)))), .v (.one (.ptr z2 z3 z4 z5)), .v (.one (.f (.lit (.bool ok)))), .v (.one (.f (.lit (.int .i64 k)))), .v (.one (.f (.lit (.bool a)))), .v (.one (.f (.fs nd k2 d e2))), .v (.one (.f (.lit (.int .i64 qd)))), .v (.one (.f (.lit (.int .i64 qi))))], some [.map es, .cells [.f (.lit (.int .i64 g1)), .f (.lit (.int .i64 g2)), .f (.lit (.int .i64 g3)), .f (.lit (.int .i64 g4))]] => onlyB (Nat.beq nx 2 && (Nat.beq z1 0 && (Nat.beq z2 1 && (Nat.beq z3 0 && (Nat.beq z4 0 && (Nat.beq z5 0)))))) (onlyB (Nat.beq k1 5 && Nat.beq k2 1) (.need (pb (EntE e ∧ IntE e2 ∧ MapL es ∧ nl = false ∧ (0 ≤ k ∧ k < (n : Int)) ∧ a = false ∧ qd = d ∧ 0 ≤ qi ∧ NoneV nn (ldI (entOf e) k) ((entOf e) 0).dr es ok k g1 g2 g4)) (.ret (.normal, (St.mk [(7, .v (.one (.f (.fs nl 5 n e)))), (8, .v (.one (.mp 0))), (11, .v (AI nn)), (12, .v (AP 1)), (13, .v (AB ok)), (16, .v (AI k)), (17, .v (AB (es.any (fpV nn (ldI (entOf e) k) ((entOf e) 0).dr)))), (60, .v (.one (.f (.fs nd 1 d e2)))), (61, .v (AI qd)), (62, .v (AI qi))] [(1, .cells [I g1, I g2, I g3, I g4]), (0, .map es)] 2 false 0 []).sl, (St.mk [(7, .v (.one (.f (.fs nl 5 n e)))), (8, .v (.one (.mp 0))), (11, .v (AI nn)), (12, .v (AP 1)), (13, .v (AB ok)), (16, .v (AI k)), (17, .v (AB (es.any (fpV nn (ldI (entOf e) k) ((entOf e) 0).dr)))), (60, .v (.one (.f (.fs nd 1 d e2)))), (61, .v (AI qd)), (62, .v (AI qi))] [(1, .cells [I g1, I g2, I g3, I g4]), (0, .map es)] 2 false 0 []).H, 2, false))))
  | _, _ => .bad
theorem L_mr_ok : LoopOk Try.prog L_mr := by
  refine mkCodeF_ok fun sl H nx e sl' H' nx' esc' h => ?_
  split at h
  · rename_i nl k1 n e z1 nn z2 z3 z4 z5 ok k a nd k2 d e2 qd qi es g1 g2 g3 g4 hsl hH
    have hsl := keyed_eq hsl
    have hH := keyed_eq hH
    subst hsl hH
    have h5 := onlyB_some h
    clear h
    obtain ⟨hck, h⟩ := h5
    simp only [Bool.and_eq_true, nbeq_iff] at hck
    obtain ⟨rfl, rfl, rfl, rfl, rfl, rfl⟩ := hck
    have h5 := onlyB_some h
    clear h
    have hw := h5.1
    have h := h5.2
    clear h5
    obtain ⟨hp, hret⟩ := T.need_some h
    have hp := pb_of hp
    have := T.ret_some hret
    simp only [Prod.mk.injEq] at this
    obtain ⟨rfl, rfl, rfl, rfl, rfl⟩ := this
    clear hret h
    obtain ⟨⟨x, rfl⟩, ⟨y, rfl⟩, ⟨l, rfl⟩, rfl, h1, rfl, rfl, h2, h3⟩ := hp
    obtain ⟨hw1, hw2⟩ := Bool.and_eq_true_iff.1 hw
    obtain rfl := Nat.eq_of_beq_eq_true hw1
    obtain rfl := Nat.eq_of_beq_eq_true hw2
    obtain ⟨i, rfl⟩ : ∃ i : Nat, qi = i := ⟨qi.toNat, by omega⟩
    have h9 := st_mr false n x nn g1 g2 g3 g4 ok k nd d y i l rfl h1 (h3 l rfl)
    rw [← fpV_any] at h9
    exact h9
  · exact (T.bad_some h).elim
noncomputable def ll_mr : List (Nat × Nat × LoopF) := (10, 18, L_mr) :: ll_ro
theorem ll_mr_ok : ∀ x ∈ ll_mr, LoopOk Try.prog x.2.2 := List.forall_mem_cons.2 ⟨L_mr_ok, ll_ro_ok⟩
def S_bo (nl : Bool) (n : Nat) (x : Nat → Ent) (nn g1 g2 g3 g4 : Int) (ok : Bool) (nd : Bool) (d : Nat) (y : Nat → Int) (es : List (Value × Value)) (i : Nat) (a : Unit) : St := ⟨[(7, .v (.one (.f (.fs nl 5 n (entE x))))), (8, .v (.one (.mp 0))), (11, .v (AI nn)), (12, .v (AP 1)), (13, .v (AB ok)), (60, .v (.one (.f (.fs nd 1 d (intE y))))), (61, .v (AI d)), (62, .v (AI i))], [(0, .map es), (1, .cells [I g1, I g2, I g3, I g4])], 2, false, 0, []⟩
def S_bm (mine : Int) (tl : Bool) (tn : Nat) (x : Nat → Ent) (wl : Bool) (n : Nat) (w : Nat → Int) (i : Nat) (l : List (Int × Int)) : St := ⟨[(2, .v (AI mine)), (7, .v (.one (.f (.fs tl 5 tn (entE x))))), (8, .v (.one (.mp 0))), (28, .v (.one (.f (.fs wl 1 n (intE w))))), (29, .v (AI n)), (30, .v (AI i))], [(0, .map (mI l))], 1, false, 0, []⟩

noncomputable def GDE1 : Ctx := GS.with ss_known15 ll_mr
noncomputable def tgt_bo (nl : Bool) (n : Nat) (x : Nat → Ent) (nn g1 g2 g3 g4 : Int) (ok : Bool) (nd : Bool) (d : Nat) (y : Nat → Int) (es : List (Value × Value)) (i : Nat) (a : Unit) : T (Ex × St) := evRound GDE1 300 10 Try.f10.ntmps (loopOf Try.f10 15) 2 [7, 8, 11, 12, 13, 60, 61, 62] [6, 13] (S_bo nl n x nn g1 g2 g3 g4 ok nd d y es i a)
noncomputable def tgt_bm (mine : Int) (tl : Bool) (tn : Nat) (x : Nat → Ent) (wl : Bool) (n : Nat) (w : Nat → Int) (i : Nat) (l : List (Int × Int)) : T (Ex × St) := evRound GDE1 300 10 Try.f10.ntmps (loopOf Try.f10 6) 1 [2, 7, 8, 28, 29, 30] [2, 7, 8] (S_bm mine tl tn x wl n w i l)
theorem GKDE1 : KnownOk Try.prog GDE1 := KnownOk.lists ss_known15_ok ll_mr_ok
theorem GODE1 : CtxOk Try.prog GDE1 := GS_ok.with _ _
theorem tree_bo (nl : Bool) (n : Nat) (x : Nat → Ent) (nn g1 g2 g3 g4 : Int) (ok : Bool) (nd : Bool) (d : Nat) (y : Nat → Int) (es : List (Value × Value)) (i : Nat) (a : Unit) : (tgt_bo nl n x nn g1 g2 g3 g4 ok nd d y es i a).over (.br (.br (.br (.br (.br (.br (.tt (.tt (.br (.tt (.tt (.tt (.tt (.br (.tt (.tt (.tt (.br (.tt (.tt (.tt (.tt (.br (.tt (.tt (.tt .leaf))) (.ff (.ff (.ff .leaf)))))))) .skip)))) (.ff (.ff (.ff (.ff (.ff (.ff (.ff (.ff (.ff (.ff (.ff .leaf)))))))))))))))) (.ff (.ff (.ff (.ff (.ff (.ff (.ff (.ff (.ff (.ff (.ff (.ff (.ff (.ff (.ff (.ff .leaf))))))))))))))))))) .leaf) .skip) .skip) .skip) .skip) .leaf) =
  T.br (decide ((↑i : Int) < (↑d : Int))) (T.br (!nd) (T.br (decide ((0 : Int) ≤ (↑i : Int) ∧ (↑i : Int) < (↑d : Int))) (T.br (pb (cd_mr = cd_mr ∧ (148 : Nat) = (148 : Nat))) (T.br (pb (EntE (entE x) ∧ IntE (intE y) ∧ MapL es ∧ nl = false ∧ ((0 : Int) ≤ y i ∧ y i < (↑n : Int)) ∧ false = false ∧ (↑d : Int) = (↑d : Int) ∧ (0 : Int) ≤ (↑i : Int) ∧ NoneV nn (ldI x (y i)) (Ent.dr (entOf (entE x) (0 : Nat))) es ok (y i) g1 g2 g4)) (T.br (List.any es (fpV nn (ldI x (y i)) (Ent.dr (entOf (entE x) (0 : Nat))))) (T.br ok (T.br (g1 == y i) (T.br (keysOk (Value.int IntKind.i64 g2) es && intsOk IntKind.i64 es) (T.br (intM (Value.int IntKind.i64 g2) es == g4) (T.ret (Ex.ret, { sl := [((6 : Nat), SV.v (AB (g3 == (0 : Int)))), ((13 : Nat), SV.v (AB ok))], H := [((1 : Nat), Ob.cells [I g1, I g2, I g3, I g4]), ((0 : Nat), Ob.map es)], nx := (2 : Nat), esc := false, base := (0 : Nat), wr := [(0 : Nat), (1 : Nat)] : St })) (T.ret (Ex.ret, { sl := [((6 : Nat), SV.v (AB false)), ((13 : Nat), SV.v (AB ok))], H := [((1 : Nat), Ob.cells [I g1, I g2, I g3, I g4]), ((0 : Nat), Ob.map es)], nx := (2 : Nat), esc := false, base := (0 : Nat), wr := [(0 : Nat), (1 : Nat)] : St }))) T.bad) (T.ret (Ex.ret, { sl := [((6 : Nat), SV.v (AB false)), ((13 : Nat), SV.v (AB ok))], H := [((1 : Nat), Ob.cells [I g1, I g2, I g3, I g4]), ((0 : Nat), Ob.map es)], nx := (2 : Nat), esc := false, base := (0 : Nat), wr := [(0 : Nat), (1 : Nat)] : St }))) (T.ret (Ex.ret, { sl := [((6 : Nat), SV.v (AB false)), ((13 : Nat), SV.v (AB ok))], H := [((1 : Nat), Ob.cells [I g1, I g2, I g3, I g4]), ((0 : Nat), Ob.map es)], nx := (2 : Nat), esc := false, base := (0 : Nat), wr := [(0 : Nat), (1 : Nat)] : St }))) (T.ret (Ex.normal, { sl := [((7 : Nat), SV.v (AV.one (CV.f (FV.fs nl (5 : Nat) n fun a => [FV.lit (Value.int IntKind.i64 (Ent.inc (x a))), FV.lit (Value.int IntKind.i64 (Ent.st (x a))), FV.lit (Value.int IntKind.i64 (Ent.stamp (x a))), FV.lit (Value.int IntKind.i64 (Ent.load (x a))), FV.lit (Value.bool (Ent.dr (x a)))])))), ((8 : Nat), SV.v (AV.one (CV.mp (0 : Nat)))), ((11 : Nat), SV.v (AI nn)), ((12 : Nat), SV.v (AP (1 : Nat))), ((13 : Nat), SV.v (AB ok)), ((60 : Nat), SV.v (AV.one (CV.f (FV.fs nd (1 : Nat) d fun a => [FV.lit (Value.int IntKind.i64 (y a))])))), ((61 : Nat), SV.v (AI (↑d : Int))), ((62 : Nat), SV.v (AI (IntKind.wrap IntKind.i64 ((↑i : Int) + (1 : Int)))))], H := [((1 : Nat), Ob.cells [I g1, I g2, I g3, I g4]), ((0 : Nat), Ob.map es)], nx := (2 : Nat), esc := false, base := (0 : Nat), wr := [(0 : Nat), (1 : Nat)] : St }))) T.bad) T.bad) T.bad) T.bad) (T.ret (Ex.exit (2 : Nat), { sl := [((13 : Nat), SV.v (AB ok))], H := [((0 : Nat), Ob.map es), ((1 : Nat), Ob.cells [I g1, I g2, I g3, I g4])], nx := (2 : Nat), esc := false, base := (0 : Nat), wr := [] : St })) := by kernel_rfl
theorem tree_bm (mine : Int) (tl : Bool) (tn : Nat) (x : Nat → Ent) (wl : Bool) (n : Nat) (w : Nat → Int) (i : Nat) (l : List (Int × Int)) : (tgt_bm mine tl tn x wl n w i l).over (.br (.br (.br (.br (.tt (.tt (.tt (.tt (.br (.ff (.tt (.br .leaf .skip))) .leaf))))) (.ff (.ff (.ff (.ff .leaf))))) .skip) .skip) .leaf) =
  T.br (decide ((↑i : Int) < (↑n : Int))) (T.br (!wl) (T.br (decide ((0 : Int) ≤ (↑i : Int) ∧ (↑i : Int) < (↑n : Int))) (T.br (decide ((↑i : Int) < (6 : Int))) (T.br (decide (w i % (4 : Int) > (0 : Int))) (T.br (keysOk (Value.int IntKind.i64 (↑i : Int)) (mI l)) (T.ret (Ex.normal, { sl := [((2 : Nat), SV.v (AI mine)), ((7 : Nat), SV.v (AV.one (CV.f (FV.fs tl (5 : Nat) tn fun a => [FV.lit (Value.int IntKind.i64 (Ent.inc (x a))), FV.lit (Value.int IntKind.i64 (Ent.st (x a))), FV.lit (Value.int IntKind.i64 (Ent.stamp (x a))), FV.lit (Value.int IntKind.i64 (Ent.load (x a))), FV.lit (Value.bool (Ent.dr (x a)))])))), ((8 : Nat), SV.v (AV.one (CV.mp (0 : Nat)))), ((28 : Nat), SV.v (AV.one (CV.f (FV.fs wl (1 : Nat) n fun a => [FV.lit (Value.int IntKind.i64 (w a))])))), ((29 : Nat), SV.v (AI (↑n : Int))), ((30 : Nat), SV.v (AI (IntKind.wrap IntKind.i64 ((↑i : Int) + (1 : Int)))))], H := [((0 : Nat), Ob.map (setM (Value.int IntKind.i64 (↑i : Int)) (Value.int IntKind.i64 (IntKind.wrap IntKind.i64 ((1 : Int) + IntKind.wrap IntKind.i64 (Int.tdiv (w i) (4 : Int)) % (9 : Int)))) (mI l)))], nx := (1 : Nat), esc := false, base := (0 : Nat), wr := [] : St })) T.bad) (T.ret (Ex.normal, { sl := [((2 : Nat), SV.v (AI mine)), ((7 : Nat), SV.v (AV.one (CV.f (FV.fs tl (5 : Nat) tn fun a => [FV.lit (Value.int IntKind.i64 (Ent.inc (x a))), FV.lit (Value.int IntKind.i64 (Ent.st (x a))), FV.lit (Value.int IntKind.i64 (Ent.stamp (x a))), FV.lit (Value.int IntKind.i64 (Ent.load (x a))), FV.lit (Value.bool (Ent.dr (x a)))])))), ((8 : Nat), SV.v (AV.one (CV.mp (0 : Nat)))), ((28 : Nat), SV.v (AV.one (CV.f (FV.fs wl (1 : Nat) n fun a => [FV.lit (Value.int IntKind.i64 (w a))])))), ((29 : Nat), SV.v (AI (↑n : Int))), ((30 : Nat), SV.v (AI (IntKind.wrap IntKind.i64 ((↑i : Int) + (1 : Int)))))], H := [((0 : Nat), Ob.map (mI l))], nx := (1 : Nat), esc := false, base := (0 : Nat), wr := [] : St }))) (T.ret (Ex.normal, { sl := [((2 : Nat), SV.v (AI mine)), ((7 : Nat), SV.v (AV.one (CV.f (FV.fs tl (5 : Nat) tn fun a => [FV.lit (Value.int IntKind.i64 (Ent.inc (x a))), FV.lit (Value.int IntKind.i64 (Ent.st (x a))), FV.lit (Value.int IntKind.i64 (Ent.stamp (x a))), FV.lit (Value.int IntKind.i64 (Ent.load (x a))), FV.lit (Value.bool (Ent.dr (x a)))])))), ((8 : Nat), SV.v (AV.one (CV.mp (0 : Nat)))), ((28 : Nat), SV.v (AV.one (CV.f (FV.fs wl (1 : Nat) n fun a => [FV.lit (Value.int IntKind.i64 (w a))])))), ((29 : Nat), SV.v (AI (↑n : Int))), ((30 : Nat), SV.v (AI (IntKind.wrap IntKind.i64 ((↑i : Int) + (1 : Int)))))], H := [((0 : Nat), Ob.map (mI l))], nx := (1 : Nat), esc := false, base := (0 : Nat), wr := [] : St }))) T.bad) T.bad) (T.ret (Ex.exit (0 : Nat), { sl := [((2 : Nat), SV.v (AI mine)), ((7 : Nat), SV.v (AV.one (CV.f (FV.fs tl (5 : Nat) tn fun a => [FV.lit (Value.int IntKind.i64 (Ent.inc (x a))), FV.lit (Value.int IntKind.i64 (Ent.st (x a))), FV.lit (Value.int IntKind.i64 (Ent.stamp (x a))), FV.lit (Value.int IntKind.i64 (Ent.load (x a))), FV.lit (Value.bool (Ent.dr (x a)))])))), ((8 : Nat), SV.v (AV.one (CV.mp (0 : Nat))))], H := [((0 : Nat), Ob.map (mI l))], nx := (1 : Nat), esc := false, base := (0 : Nat), wr := [] : St })) := by kernel_rfl
abbrev bG (nn : Int) (x : Nat → Ent) (n : Nat) (l : List (Int × Int)) : G5 := chT 0 nn x (mI l) n
abbrev bGi (nn : Int) (x : Nat → Ent) (n : Nat) (l : List (Int × Int)) (i : Nat) : G5 := chG 0 nn x (mI l) (tzE 0 x n i)
abbrev bS (nl nd : Bool) (nn : Int) (x : Nat → Ent) (n : Nat) (l : List (Int × Int)) (i : Nat) (a : Unit) : St := S_bo nl n x nn (bG nn x n l).2.1 (bG nn x n l).2.2.1 0 (bG nn x n l).2.2.2 (bG nn x n l).1 nd (tzL 0 x n) (tzE 0 x n) (mI l) i a
abbrev bH (nn : Int) (x : Nat → Ent) (n : Nat) (l : List (Int × Int)) : List CV := [I (bG nn x n l).2.1, I (bG nn x n l).2.2.1, I 0, I (bG nn x n l).2.2.2]
abbrev bR (nn : Int) (x : Nat → Ent) (n : Nat) (l : List (Int × Int)) : Ex × St := (.ret, ⟨[(6, .v (AB true))], [(1, .cells (bH nn x n l)), (0, .map (mI l))], 2, false, 0, []⟩)
abbrev bE (nn : Int) (x : Nat → Ent) (n : Nat) (l : List (Int × Int)) : Ex × St := (.exit 2, ⟨[(13, .v (AB false))], [(0, .map (mI l)), (1, .cells (bH nn x n l))], 2, false, 0, []⟩)
def bF (nn : Int) (x : Nat → Ent) (n : Nat) (l : List (Int × Int)) (i : Nat) (a : Unit) : Unit ⊕ (Ex × St) := match (bGi nn x n l i).1 with | true => .inr (bR nn x n l) | false => .inl ()
theorem bo_fold (nn : Int) (x : Nat → Ent) (n : Nat) (l : List (Int × Int)) : ∀ (c i : Nat), foldX (bF nn x n l) (fun _ => bE nn x n l) c i () = match (chX 0 nn x (mI l) (tzE 0 x n) c i).1 with | true => bR nn x n l | false => bE nn x n l
  | 0, _ => rfl
  | c + 1, i => by
    simp only [foldX, bF, chX]
    cases hb : (bGi nn x n l i).1
    · exact bo_fold nn x n l c (i + 1)
    · simp only [hb]
theorem mI_inj : ∀ {l l' : List (Int × Int)}, mI l = mI l' → l = l'
  | [], [], _ => rfl
  | [], _ :: _, h => by cases h
  | _ :: _, [], h => by cases h
  | p :: r, q :: s, h => by
    simp only [mI, List.map_cons, List.cons.injEq, Prod.mk.injEq, Value.int.injEq, true_and] at h
    have := mI_inj (l := r) (l' := s) h.2
    rw [this, Prod.ext h.1.1 h.1.2]
theorem loop_bo (nl nd : Bool) (nn : Int) (x : Nat → Ent) (n : Nat) (l : List (Int × Int)) (hl : KeyOk l) (hz : 0 < tzL 0 x n → nl = false) (hd : tzL 0 x n ≤ 1048576) (hnd : nd = true → tzL 0 x n = 0) {st0 : St} (h0 : StLe 2 st0 (bS nl nd nn x n l 0 ())) (hnx : st0.nx = 2) :
    CodeOk Try.prog Try.f10.ntmps (.loop (loopOf Try.f10 15)) st0 (match (bG nn x n l).1 with | true => (bR nn x n l).1 | false => (bE nn x n l).1) (match (bG nn x n l).1 with | true => (bR nn x n l).2 | false => (bE nn x n l).2) := by
  have hf := bo_fold nn x n l (tzL 0 x n) 0
  have hf1 : (foldX (bF nn x n l) (fun _ => bE nn x n l) (tzL 0 x n) 0 ()).1 = (match (bG nn x n l).1 with | true => (bR nn x n l).1 | false => (bE nn x n l).1) := by
    rw [hf]
    show (match (bG nn x n l).1 with | true => bR nn x n l | false => bE nn x n l).1 = _
    cases (bG nn x n l).1 <;> rfl
  have hf2 : (foldX (bF nn x n l) (fun _ => bE nn x n l) (tzL 0 x n) 0 ()).2 = (match (bG nn x n l).1 with | true => (bR nn x n l).2 | false => (bE nn x n l).2) := by
    rw [hf]
    show (match (bG nn x n l).1 with | true => bR nn x n l | false => bE nn x n l).2 = _
    cases (bG nn x n l).1 <;> rfl
  rw [← hf1, ← hf2]
  clear hf hf1 hf2
  refine for_loop GODE1 GKDE1 (K := 300) (F := 10) (m := 2) (live := [7, 8, 11, 12, 13, 60, 61, 62]) (after := [6, 13]) (bS nl nd nn x n l) (tzL 0 x n) _ _ (fun i _ => ∀ j, j < i → (bGi nn x n l j).1 = false) (fun i a hi hI => ?_) (fun a hI => ?_) (fun i a => Nat.le_refl _) (Nat.zero_le _) (fun j hj => absurd hj (Nat.not_lt_zero j)) h0 hnx
  · have e1 : ((i : Int) < (tzL 0 x n : Int)) := by omega
    have e2 : (0 : Int) ≤ (i : Int) ∧ (i : Int) < (tzL 0 x n : Int) := by omega
    have e3 : IntKind.wrap .i64 ((i : Int) + 1) = ((i + 1 : Nat) : Int) := by rw [wrapI (by omega)]; rfl
    obtain rfl : nd = false := by
      cases nd
      · rfl
      · have := hnd rfl; omega
    obtain rfl := hz (by omega)
    have hin : (0 : Int) ≤ 0 ∧ (0 : Int) < (n : Int) := by
      have : 0 < tzL 0 x n := by omega
      unfold tzL at this
      split at this
      · assumption
      · omega
    have e4 := (tz_ok hin x hi).1
    have hg := chG_ok (me := 0) (load := nn) (x := x) hl (tzE 0 x n i)
    have e5 : (0 : Int) ≤ (i : Int) := by omega
    have hx0 : (entOf (entE x) 0).dr = (x 0).dr := rfl
    cases hq : (bGi nn x n l i).1 with
    | true =>
      have hX : bG nn x n l = bGi nn x n l i := by
        have := chX_first (me := 0) (load := nn) (x := x) (es := mI l) (y := tzE 0 x n) (tzL 0 x n) 0 i (fun k _ hk => hI k (by omega)) hi (by rw [Nat.zero_add]; exact hq)
        rw [Nat.zero_add] at this
        exact this
      obtain ⟨k1, ⟨p, hp, k2, k3, k4⟩, k5⟩ := hg.2 hq
      have c4 : NoneV nn (ldI x (tzE 0 x n i)) (x 0).dr (mI l) true (tzE 0 x n i) (bG nn x n l).2.1 (bG nn x n l).2.2.1 (bG nn x n l).2.2.2 := fun l' e q hq' hf _ _ => by
        have : l' = l := mI_inj e.symm
        subst this
        rw [hX]
        exact k5 q hq' hf
      have c5 : (mI l).any (fpV nn (ldI x (tzE 0 x n i)) (x 0).dr) = true := by
        rw [fpV_any]
        exact List.any_eq_true.2 ⟨p, hp, k4⟩
      have c7 : ((bG nn x n l).2.1 == tzE 0 x n i) = true := by rw [hX]; simpa using k1
      have c8 : (keysOk (.int .i64 (bG nn x n l).2.2.1) (mI l) && intsOk .i64 (mI l)) = true := MapI_mI l _
      have c9 : (intM (.int .i64 (bG nn x n l).2.2.1) (mI l) == (bG nn x n l).2.2.2) = true := by
        rw [mI_get, hX, ← k2, get_mem hl.dist hp, k3]
        exact beq_self_eq_true _
      have c6 : (bG nn x n l).1 = true := by rw [hX]; exact hq
      refine ⟨_, _, T.over_eq _ (tree_bo false n x nn _ _ 0 _ _ false (tzL 0 x n) (tzE 0 x n) (mI l) i a) (by simp only [T.res_br, T.res_ret, T.res_bad, decide_eq_true e1, e1, e5, decide_true, EntE_ok, IntE_ok, MapL_mI, hx0, e4, c4, c5, c6, c7, c8, c9, eq_self, and_self, pb_tt, beq_self_eq_true, Bool.not_false, reduceIte]; rfl), ?_⟩
      simp only [bF, hq]
      exact ⟨by simp, trivial, StLe.less (Nat.le_refl 2) (fun t => by rcases t with _ | _ | _ | _ | _ | _ | _ | _ | _ | _ | _ | _ | _ | _ | t <;> first | exact .inr (.inl rfl) | exact .inl rfl) (fun b => .inl rfl)⟩
    | false =>
      have hno : ∀ q ∈ l, ¬ fitP nn (ldI x (tzE 0 x n i)) (x 0).dr q = true := fun q hq' hf => by
        have := hg.1.2 ⟨q, hq', hf⟩
        rw [hq] at this; cases this
      have c4 : NoneV nn (ldI x (tzE 0 x n i)) (x 0).dr (mI l) (bG nn x n l).1 (tzE 0 x n i) (bG nn x n l).2.1 (bG nn x n l).2.2.1 (bG nn x n l).2.2.2 := fun l' e q hq' hf _ _ => by
        have : l' = l := mI_inj e.symm
        subst this
        exact absurd hf (hno q hq')
      have c5 : (mI l).any (fpV nn (ldI x (tzE 0 x n i)) (x 0).dr) = false := by
        rw [fpV_any]
        exact List.any_eq_false.2 fun q hq' => hno q hq'
      refine ⟨_, _, T.over_eq _ (tree_bo false n x nn _ _ 0 _ _ false (tzL 0 x n) (tzE 0 x n) (mI l) i a) (by simp only [T.res_br, T.res_ret, T.res_bad, e1, e5, e3, decide_true, EntE_ok, IntE_ok, MapL_mI, hx0, e4, c4, c5, eq_self, and_self, pb_tt, Bool.not_false, Bool.false_eq_true, reduceIte]; rfl), ?_⟩
      simp only [bF, hq]
      exact ⟨trivial, StLe.less (Nat.le_refl 2) (fun t => .inr (.inl rfl)) (fun b => .inl (by rcases b with _ | _ | b <;> rfl)), fun j hj => by
        rcases Nat.lt_or_ge j i with h | h
        · exact hI j h
        · obtain rfl : j = i := by omega
          exact hq⟩
  · have e1 : ¬ ((tzL 0 x n : Int) < (tzL 0 x n : Int)) := by omega
    have hX : bG nn x n l = (false, 0, 0, 0) := chX_none _ _ fun k _ hk => hI k (by omega)
    have c6 : (bG nn x n l).1 = false := by rw [hX]
    refine ⟨_, _, T.over_eq _ (tree_bo nl n x nn _ _ 0 _ _ nd (tzL 0 x n) (tzE 0 x n) (mI l) (tzL 0 x n) a) (by simp only [T.res_br, T.res_ret, T.res_bad, decide_eq_false e1, c6, Bool.false_eq_true, reduceIte]; rfl), by simp, rfl, StLe.less (Nat.le_refl 2) (fun t => .inr (.inl rfl)) (fun b => .inl rfl)⟩

theorem round_bm (mine : Int) (tl : Bool) (tn : Nat) (x : Nat → Ent) (wl : Bool) (n : Nat) (w : Nat → Int) (hwl : wl = true → n = 0) (hn : (n : Int) ≤ 9223372036854775807) (i : Nat) (a : List (Int × Int)) (hi : i < n) (hI : (fun (i : Nat) (a : List (Int × Int)) => (True : Prop)) i a) : ∃ st', (tgt_bm mine tl tn x wl n w i a).res = some (.normal, st') ∧ StLe 1 st' (S_bm mine tl tn x wl n w (i + 1) ((fun (i : Nat) (a : List (Int × Int)) => (bmF w i a)) i a)) ∧ (fun (i : Nat) (a : List (Int × Int)) => (True : Prop)) (i + 1) ((fun (i : Nat) (a : List (Int × Int)) => (bmF w i a)) i a) := by
  refine T.over_exP (g := fun s => (Ex.normal, s)) (tree_bm mine tl tn x wl n w i a) ?_
  have e1 : ((i : Int) < (n : Int)) := by omega
  have e2 : (0 : Int) ≤ (i : Int) ∧ (i : Int) < (n : Int) := by omega
  have e3 : IntKind.wrap .i64 ((i : Int) + 1) = ((i + 1 : Nat) : Int) := by rw [wrapI (by omega)]; rfl
  have e4 : keysOk (.int .i64 (i : Int)) (mI a) = true := mI_keys _ _
  obtain rfl : wl = false := by
    cases wl
    · rfl
    · have := hwl rfl; omega
  cases q1 : decide ((i : Int) < 6)
  · simp only [bmF, T.res_br, T.res_ret, T.res_bad, decide_eq_true e1, decide_eq_true e2, e3, q1, Bool.false_and, Bool.not_false, Bool.false_eq_true, reduceIte]
    exact ⟨_, rfl, StLe.less (Nat.le_refl 1) (fun t => .inr (.inl rfl)) (fun b => .inl rfl), trivial⟩
  · cases q2 : decide (w i % 4 > 0)
    · simp only [bmF, T.res_br, T.res_ret, T.res_bad, decide_eq_true e1, decide_eq_true e2, e3, q1, q2, Bool.and_false, Bool.not_false, Bool.false_eq_true, reduceIte]
      exact ⟨_, rfl, StLe.less (Nat.le_refl 1) (fun t => .inr (.inl rfl)) (fun b => .inl rfl), trivial⟩
    · simp only [bmF, T.res_br, T.res_ret, T.res_bad, decide_eq_true e1, decide_eq_true e2, e3, e4, q1, q2, mI_put, Bool.and_self, Bool.not_false, reduceIte]
      exact ⟨_, rfl, StLe.less (Nat.le_refl 1) (fun t => .inr (.inl rfl)) (fun b => .inl rfl), trivial⟩
theorem end_bm (mine : Int) (tl : Bool) (tn : Nat) (x : Nat → Ent) (wl : Bool) (n : Nat) (w : Nat → Int) (hwl : wl = true → n = 0) (hn : (n : Int) ≤ 9223372036854775807) (a : List (Int × Int)) (hI : (fun (i : Nat) (a : List (Int × Int)) => (True : Prop)) (n) a) : ∃ st', (tgt_bm mine tl tn x wl n w (n) a).res = some (.exit 0, st') ∧ StLe 1 st' (⟨[(2, .v (AI mine)), (7, .v (.one (.f (.fs tl 5 tn (entE x))))), (8, .v (.one (.mp 0)))], [(0, .map (mI a))], 1, false, 0, []⟩) := by
  refine T.over_exP (g := fun s => (.exit 0, s)) (tree_bm mine tl tn x wl n w (n) a) ?_
  simp only [T.res_br, T.res_ret, T.res_bad, decide_eq_true_eq, Int.lt_irrefl, reduceIte]
  exact ⟨_, rfl, StLe.refl (Nat.le_refl 1)⟩
theorem loop_bm (mine : Int) (tl : Bool) (tn : Nat) (x : Nat → Ent) (wl : Bool) (n : Nat) (w : Nat → Int) (hwl : wl = true → n = 0) (hn : (n : Int) ≤ 9223372036854775807) (i : Nat) (a : List (Int × Int)) (hi : i ≤ n) (hI : (fun (i : Nat) (a : List (Int × Int)) => (True : Prop)) i a) {st0 : St} (h0 : StLe 1 st0 (S_bm mine tl tn x wl n w i a)) (hnx : st0.nx = 1) :
    CodeOk Try.prog Try.f10.ntmps (.loop (loopOf Try.f10 6)) st0 (.exit 0) ((fun (a : List (Int × Int)) => ⟨[(2, .v (AI mine)), (7, .v (.one (.f (.fs tl 5 tn (entE x))))), (8, .v (.one (.mp 0)))], [(0, .map (mI a))], 1, false, 0, []⟩) (foldF (fun (i : Nat) (a : List (Int × Int)) => (bmF w i a)) (n - i) i a)) := by
  have := for_loop GODE1 GKDE1 (K := 300) (F := 10) (N := Try.f10.ntmps) (c := loopOf Try.f10 6) (m := 1) (live := [2, 7, 8, 28, 29, 30]) (after := [2, 7, 8]) (S_bm mine tl tn x wl n w) (n) (fun (i : Nat) (a : List (Int × Int)) => .inl (bmF w i a)) (fun (a : List (Int × Int)) => (.exit 0, ⟨[(2, .v (AI mine)), (7, .v (.one (.f (.fs tl 5 tn (entE x))))), (8, .v (.one (.mp 0)))], [(0, .map (mI a))], 1, false, 0, []⟩)) (fun (i : Nat) (a : List (Int × Int)) => (True : Prop))
    (fun i a hi hI => by obtain ⟨s, h1, h2, h3⟩ := round_bm mine tl tn x wl n w hwl hn i a hi hI; exact ⟨_, s, h1, rfl, h2, h3⟩)
    (fun a hI => by obtain ⟨s, h1, h2⟩ := end_bm mine tl tn x wl n w hwl hn a hI; exact ⟨_, s, h1, by simp, rfl, h2⟩)
    (fun i a => by first | exact Nat.le_refl _ | (show 1 ≤ _; decide) | (simp only [S_bm]; omega)) hi hI h0 hnx
  rw [foldX_inl] at this
  exact this
noncomputable def L_bm : LoopF := mkLoopF [2, 7, 8, 28, 29, 30] (loopOf Try.f10 6) Try.f10.ntmps fun sl H nx => match keyed [2, 7, 8, 28, 29, 30] sl, keyed [0] H with
  | some [.v (.one (.f (.lit (.int .i64 mine)))), .v (.one (.f (.fs tl k tn e))), .v (.one (.mp z1)), .v (.one (.f (.fs wl k2 n e2))), .v (.one (.f (.lit (.int .i64 q)))), .v (.one (.f (.lit (.int .i64 i))))], some [.map es] => onlyB (Nat.beq nx 1 && (Nat.beq z1 0)) (onlyB (Nat.beq k 5 && Nat.beq k2 1) (.need (pb (EntE e ∧ IntE e2 ∧ NoM es ∧ q = n ∧ i = 0 ∧ (wl = true → n = 0) ∧ (n : Int) ≤ 9223372036854775807)) (.ret (.exit 0, (St.mk [(2, .v (AI mine)), (7, .v (.one (.f (.fs tl 5 tn e)))), (8, .v (.one (.mp 0)))] [(0, .map (mI (bmL (intOf e2) n)))] 1 false 0 []).sl, (St.mk [(2, .v (AI mine)), (7, .v (.one (.f (.fs tl 5 tn e)))), (8, .v (.one (.mp 0)))] [(0, .map (mI (bmL (intOf e2) n)))] 1 false 0 []).H, 1, false))))
  | _, _ => .bad
theorem L_bm_ok : LoopOk Try.prog L_bm := by
  refine mkLoopF_ok fun sl H nx e sl' H' nx' esc' h => ?_
  split at h
  · rename_i mine tl k tn e z1 wl k2 n e2 q i es hsl hH
    have hsl := keyed_eq hsl
    have hH := keyed_eq hH
    subst hsl hH
    have h5 := onlyB_some h
    clear h
    obtain ⟨hck, h⟩ := h5
    simp only [Bool.and_eq_true, nbeq_iff] at hck
    obtain ⟨rfl, rfl⟩ := hck
    have h5 := onlyB_some h
    clear h
    have hw := h5.1
    have h := h5.2
    clear h5
    obtain ⟨hp, hret⟩ := T.need_some h
    have hp := pb_of hp
    have := T.ret_some hret
    simp only [Prod.mk.injEq] at this
    obtain ⟨rfl, rfl, rfl, rfl, rfl⟩ := this
    clear hret h
    obtain ⟨⟨x, rfl⟩, ⟨w, rfl⟩, rfl, rfl, rfl, h1, h2⟩ := hp
    obtain ⟨hw1, hw2⟩ := Bool.and_eq_true_iff.1 hw
    obtain rfl := Nat.eq_of_beq_eq_true hw1
    obtain rfl := Nat.eq_of_beq_eq_true hw2
    exact loop_bm mine tl tn x wl n w h1 h2 0 [] (Nat.zero_le _) trivial (StLe.refl (Nat.le_refl 1)) rfl
  · exact (T.bad_some h).elim
noncomputable def ll_bm : List (Nat × Nat × LoopF) := (10, 6, L_bm) :: ll_mr
theorem ll_bm_ok : ∀ x ∈ ll_bm, LoopOk Try.prog x.2.2 := List.forall_mem_cons.2 ⟨L_bm_ok, ll_mr_ok⟩
/-- the answer of Choose, and what it was told -/
def BoP (nl nd : Bool) (nn : Int) (x : Nat → Ent) (n d : Nat) (y : Nat → Int) (es : List (Value × Value)) (ok : Bool) (g1 g2 g3 g4 : Int) : Prop := ∃ l, es = mI l ∧ KeyOk l ∧ (0 < tzL 0 x n → nl = false) ∧ tzL 0 x n ≤ 1048576 ∧ (nd = true → tzL 0 x n = 0) ∧ d = tzL 0 x n ∧ y = tzE 0 x n ∧ ok = (bG nn x n l).1 ∧ g1 = (bG nn x n l).2.1 ∧ g2 = (bG nn x n l).2.2.1 ∧ g3 = 0 ∧ g4 = (bG nn x n l).2.2.2
theorem BoP_mk {nl nd : Bool} {nn : Int} {x : Nat → Ent} {n : Nat} (l : List (Int × Int)) (h1 : KeyOk l) (h2 : 0 < tzL 0 x n → nl = false) (h3 : tzL 0 x n ≤ 1048576) (h4 : nd = true → tzL 0 x n = 0) : BoP nl nd nn x n (tzL 0 x n) (tzE 0 x n) (mI l) (chT 0 nn x (mI l) n).1 (chT 0 nn x (mI l) n).2.1 (chT 0 nn x (mI l) n).2.2.1 0 (chT 0 nn x (mI l) n).2.2.2 :=
  ⟨l, rfl, h1, h2, h3, h4, rfl, rfl, rfl, rfl, rfl, rfl, rfl⟩

noncomputable def L_bo : LoopF := mkLoopF [7, 8, 11, 12, 13, 60, 61, 62] (loopOf Try.f10 15) Try.f10.ntmps fun sl H nx => match keyed [7, 8, 11, 12, 13, 60, 61, 62] sl, keyed [0, 1] H with
  | some [.v (.one (.f (.fs nl k1 n e))), .v (.one (.mp z1)), .v (.one (.f (.lit (.int .i64 nn)))), .v (.one (.ptr z2 z3 z4 z5)), .v (.one (.f (.lit (.bool ok)))), .v (.one (.f (.fs nd k2 d e2))), .v (.one (.f (.lit (.int .i64 qd)))), .v (.one (.f (.lit (.int .i64 i))))], some [.map es, .cells [.f (.lit (.int .i64 g1)), .f (.lit (.int .i64 g2)), .f (.lit (.int .i64 g3)), .f (.lit (.int .i64 g4))]] => onlyB (Nat.beq nx 2 && (Nat.beq z1 0 && (Nat.beq z2 1 && (Nat.beq z3 0 && (Nat.beq z4 0 && (Nat.beq z5 0)))))) (onlyB (Nat.beq k1 5 && Nat.beq k2 1) (.need (pb (EntE e ∧ IntE e2 ∧ qd = d ∧ i = 0 ∧ BoP nl nd nn (entOf e) n d (intOf e2) es ok g1 g2 g3 g4)) (.br (pb (ok = true)) (.ret (.ret, (St.mk [(6, .v (AB true))] [(1, .cells [I g1, I g2, I 0, I g4]), (0, .map es)] 2 false 0 []).sl, (St.mk [(6, .v (AB true))] [(1, .cells [I g1, I g2, I 0, I g4]), (0, .map es)] 2 false 0 []).H, 2, false)) (.ret (.exit 2, (St.mk [(13, .v (AB false))] [(0, .map es), (1, .cells [I g1, I g2, I 0, I g4])] 2 false 0 []).sl, (St.mk [(13, .v (AB false))] [(0, .map es), (1, .cells [I g1, I g2, I 0, I g4])] 2 false 0 []).H, 2, false)))))
  | _, _ => .bad
theorem L_bo_ok : LoopOk Try.prog L_bo := by
  refine mkLoopF_ok fun sl H nx e sl' H' nx' esc' h => ?_
  split at h
  · rename_i nl k1 n e z1 nn z2 z3 z4 z5 ok nd k2 d e2 qd i es g1 g2 g3 g4 hsl hH
    have hsl := keyed_eq hsl
    have hH := keyed_eq hH
    subst hsl hH
    have h5 := onlyB_some h
    clear h
    obtain ⟨hck, h⟩ := h5
    simp only [Bool.and_eq_true, nbeq_iff] at hck
    obtain ⟨rfl, rfl, rfl, rfl, rfl, rfl⟩ := hck
    have h5 := onlyB_some h
    clear h
    have hw := h5.1
    have h := h5.2
    clear h5
    obtain ⟨hp, hret⟩ := T.need_some h
    have hp := pb_of hp
    rcases T.br_some hret with ⟨hc, hret⟩ | ⟨hc, hret⟩
    · have hc := pb_of hc
      have := T.ret_some hret
      simp only [Prod.mk.injEq] at this
      obtain ⟨rfl, rfl, rfl, rfl, rfl⟩ := this
      clear hret h
      obtain ⟨⟨x, rfl⟩, ⟨y, rfl⟩, rfl, rfl, l, rfl, k1', k2', k3', k4', rfl, hy, rfl, rfl, rfl, rfl, rfl⟩ := hp
      obtain ⟨hw1, hw2⟩ := Bool.and_eq_true_iff.1 hw
      obtain rfl := Nat.eq_of_beq_eq_true hw1
      obtain rfl := Nat.eq_of_beq_eq_true hw2
      rw [intOf_intE] at hy
      subst hy
      have h9 := loop_bo nl nd nn x n l k1' k2' k3' k4' (StLe.refl (Nat.le_refl 2)) rfl
      have hc' : (bG nn x n l).1 = true := hc
      rw [hc'] at h9
      exact h9
    · have hc := pb_no hc
      have := T.ret_some hret
      simp only [Prod.mk.injEq] at this
      obtain ⟨rfl, rfl, rfl, rfl, rfl⟩ := this
      clear hret h
      obtain ⟨⟨x, rfl⟩, ⟨y, rfl⟩, rfl, rfl, l, rfl, k1', k2', k3', k4', rfl, hy, rfl, rfl, rfl, rfl, rfl⟩ := hp
      obtain ⟨hw1, hw2⟩ := Bool.and_eq_true_iff.1 hw
      obtain rfl := Nat.eq_of_beq_eq_true hw1
      obtain rfl := Nat.eq_of_beq_eq_true hw2
      rw [intOf_intE] at hy
      subst hy
      have h9 := loop_bo nl nd nn x n l k1' k2' k3' k4' (StLe.refl (Nat.le_refl 2)) rfl
      have hc' : (bG nn x n l).1 = false := Bool.eq_false_iff.2 hc
      rw [hc'] at h9
      exact h9
  · exact (T.bad_some h).elim
noncomputable def ll_bo : List (Nat × Nat × LoopF) := (10, 15, L_bo) :: ll_bm
theorem ll_bo_ok : ∀ x ∈ ll_bo, LoopOk Try.prog x.2.2 := List.forall_mem_cons.2 ⟨L_bo_ok, ll_bm_ok⟩
noncomputable def GDE2 : Ctx := GS.with ss_known15 ll_bo
noncomputable def tgt_DBest (tl : Bool) (tn : Nat) (x : Nat → Ent) (wl : Bool) (n : Nat) (v : Nat → Int) (mine : Int) : T CallOut := evCallW [] GDE2 300 10 [.one (.f (.fs tl 5 tn (entE x))), .one (.f (.fs wl 1 n (intE v))), AI mine] [] 0
theorem GKDE2 : KnownOk Try.prog GDE2 := KnownOk.lists ss_known15_ok ll_bo_ok
theorem GODE2 : CtxOk Try.prog GDE2 := GS_ok.with _ _
theorem tree_DBest (tl : Bool) (tn : Nat) (x : Nat → Ent) (wl : Bool) (n : Nat) (v : Nat → Int) (mine : Int) : (tgt_DBest tl tn x wl n v mine).over (.br (.br .leaf (.br (.br (.tt (.br (.br (.br (.br (.br .leaf (.tt (.tt (.tt .leaf)))) .skip) .skip) .skip) .skip)) .skip) .skip)) .skip) =
  T.br (pb (EntL tl tn (entE x) ∧ (0 : Int) ≤ (5 : Int) ∧ (5 : Int) ≤ (1000 : Int))) (T.br ((↑(min tn (5 : Nat)) : Int) == (0 : Int)) (T.ret (out0 (SV.v (AB true)))) (T.br (pb (Code.loop (loopOf Proofs.Try.f10 (6 : Nat)) = Code.loop (loopOf Proofs.Try.f10 (6 : Nat)) ∧ (148 : Nat) = (148 : Nat))) (T.br (pb (EntE (entE fun j => entR (entOf (entE x) j)) ∧ IntE (intE v) ∧ NoM [] ∧ (↑n : Int) = (↑n : Int) ∧ (0 : Int) = (0 : Int) ∧ (wl = true → n = (0 : Nat)) ∧ (↑n : Int) ≤ (9223372036854775807 : Int))) (T.br (pb (EntE (entE fun j => entR (entOf (entE x) j)) ∧ ((Nat.beq (min tn (5 : Nat)) (0 : Nat) = true → min tn (5 : Nat) = (0 : Nat)) ∧ min tn (5 : Nat) < (20 : Nat)) ∧ MapI (mI (bmL v n)))) (T.br (pb (EntE (entE fun j => entR (entOf (entE x) j)) ∧ (Nat.beq (min tn (5 : Nat)) (0 : Nat) = true → min tn (5 : Nat) = (0 : Nat)) ∧ min tn (5 : Nat) < (20 : Nat))) (T.br (pb (Code.loop (loopOf Proofs.Try.f10 (15 : Nat)) = Code.loop (loopOf Proofs.Try.f10 (15 : Nat)) ∧ (148 : Nat) = (148 : Nat))) (T.br (pb (EntE (entE fun j => entR (entOf (entE x) j)) ∧ IntE (intE (tzE (0 : Int) (fun j => entR (entOf (entE x) j)) (min tn (5 : Nat)))) ∧ (↑(tzL (0 : Int) (fun j => entR (entOf (entE x) j)) (min tn (5 : Nat))) : Int) = (↑(tzL (0 : Int) (fun j => entR (entOf (entE x) j)) (min tn (5 : Nat))) : Int) ∧ (0 : Int) = (0 : Int) ∧ BoP (Nat.beq (min tn (5 : Nat)) (0 : Nat)) (Nat.beq (tzL (0 : Int) (fun j => entR (entOf (entE x) j)) (min tn (5 : Nat))) (0 : Nat)) (mine % (25 : Int)) (fun j => entR (entOf (entE x) j)) (min tn (5 : Nat)) (tzL (0 : Int) (fun j => entR (entOf (entE x) j)) (min tn (5 : Nat))) (tzE (0 : Int) (fun j => entR (entOf (entE x) j)) (min tn (5 : Nat))) (mI (bmL v n)) (Prod.fst (chT (0 : Int) (mine % (25 : Int)) (fun j => entR (entOf (entE x) j)) (mI (bmL v n)) (min tn (5 : Nat)))) (Prod.fst (Prod.snd (chT (0 : Int) (mine % (25 : Int)) (fun j => entR (entOf (entE x) j)) (mI (bmL v n)) (min tn (5 : Nat))))) (Prod.fst (Prod.snd (Prod.snd (chT (0 : Int) (mine % (25 : Int)) (fun j => entR (entOf (entE x) j)) (mI (bmL v n)) (min tn (5 : Nat)))))) (0 : Int) (Prod.snd (Prod.snd (Prod.snd (chT (0 : Int) (mine % (25 : Int)) (fun j => entR (entOf (entE x) j)) (mI (bmL v n)) (min tn (5 : Nat)))))))) (T.br (pb (Prod.fst (chT (0 : Int) (mine % (25 : Int)) (fun j => entR (entOf (entE x) j)) (mI (bmL v n)) (min tn (5 : Nat))) = true)) (T.ret (out0 (SV.v (AB true)))) (T.ret (out0 (SV.v (AB true))))) T.bad) T.bad) T.bad) T.bad) T.bad) T.bad)) T.bad := by kernel_rfl
theorem res_DBest (tl : Bool) (tn : Nat) (x : Nat → Ent) (wl : Bool) (n : Nat) (v : Nat → Int) (mine : Int) (h1 : LnOk tl tn) (h2 : LnOk wl n) : (tgt_DBest tl tn x wl n v mine).res = some (out0 (.v (AB true))) := by
  refine T.over_eq _ (tree_DBest tl tn x wl n v mine) ?_
  have a1 : EntL tl tn (entE x) := ⟨entN _ _, h1⟩
  have a2 : (0 : Int) ≤ 5 ∧ (5 : Int) ≤ 1000 := by decide
  have a3 : (wl = true → n = 0) = True := eq_true h2.2
  have a4 := h2.1
  have hE : entOf (entE x) = x := rfl
  simp only [hE]
  have hm2 : min tn 5 ≤ 5 := by omega
  generalize min tn 5 = m at hm2 ⊢
  generalize (fun j => entR (x j)) = X
  generalize mine % 25 = N
  have a5 : (Nat.beq m 0 = true → m = 0) = True := eq_true Nat.eq_of_beq_eq_true
  have a6 : m < 20 := by omega
  obtain ⟨c1, c2, c3, c4⟩ := ch_pre (me := 0) (nl := Nat.beq m 0) X ⟨Nat.eq_of_beq_eq_true, a6⟩
  have a7 := BoP_mk (nl := Nat.beq m 0) (nd := Nat.beq (tzL 0 X m) 0) (nn := N) (bmL v n) (bmL_key v n) (fun h => (c4 h).1) c1 c2
  cases hq : (chT 0 N X (mI (bmL v n)) m).1
  · rw [hq] at a7
    cases h0 : ((m : Int) == 0) <;> simp only [T.res_br, T.res_ret, T.res_bad, a1, a2, a3, a4, a5, a6, a7, h0, hq, EntE_ok, IntE_ok, NoM_nil, MapI_mI, pb_ff, eq_self, and_self, pb_tt, Bool.false_eq_true, reduceIte]
  · rw [hq] at a7
    cases h0 : ((m : Int) == 0) <;> simp only [T.res_br, T.res_ret, T.res_bad, a1, a2, a3, a4, a5, a6, a7, h0, hq, EntE_ok, IntE_ok, NoM_nil, MapI_mI, eq_self, and_self, pb_tt, Bool.false_eq_true, reduceIte]

end Go.Proofs.Ytggneleipimijaa.En
