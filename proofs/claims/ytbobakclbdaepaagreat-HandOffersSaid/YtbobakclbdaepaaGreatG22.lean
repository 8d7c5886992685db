/- Texts put together: DB, RS, DC, DP, F14. -/
import Derived.Test.YtbobakclbdaepaaGreatG21
import Derived.Test.YtbobakclbdaepaaGreatG15
import Derived.Maps.RangeRun
/- Donor: both Choose. -/
namespace Go.Proofs.YtbobakclbdaepaaGreat.En
open Go
set_option linter.unusedVariables false
set_option linter.unusedSimpArgs false
set_option maxRecDepth 20000
set_option maxHeartbeats 1000000
noncomputable def L_ci : LoopF := mkLoopF [0, 1, 2, 3, 8, 9, 11, 17, 18, 19, 23] (loopOf Tryz.f60 5) Tryz.f60.ntmps fun sl H nx => match keyed [0, 1, 2, 3, 8, 9, 11, 17, 18, 19, 23] sl, keyed [0, 1] H with
  | some [.v (.one (.f (.lit (.int .i64 me)))), .v (.one (.f (.lit (.int .i64 load)))), .v (.one (.f (.fs nl k1 n e))), .v (.one (.mp z1)), .v (.one (.ptr z2 z3 z4 z5)), .v (.one (.f (.lit (.bool o)))), .v (.one (.f (.lit (.int .i64 to)))), .v (.one (.f (.fs nd k2 d e2))), .v (.one (.f (.lit (.int .i64 qd)))), .v (.one (.f (.lit (.int .i64 qp)))), .v (.one (.f (.lit (.int .i64 i))))], some [.map es, .cells [.f (.lit (.int .i64 g1)), .f (.lit (.int .i64 g2)), .f (.lit (.int .i64 g3)), .f (.lit (.int .i64 g4))]] => onlyB (Nat.beq nx 2 && (Nat.beq z1 0 && (Nat.beq z2 1 && (Nat.beq z3 0 && (Nat.beq z4 0 && (Nat.beq z5 0)))))) (onlyB (Nat.beq k1 5 && Nat.beq k2 1) (.need (pb (EntE e ∧ IntE e2 ∧ nl = false ∧ MapI es ∧ (0 ≤ to ∧ to < (n : Int)) ∧ (0 ≤ me ∧ me < (n : Int)) ∧ qd = d ∧ 0 ≤ qp ∧ o = false ∧ g1 = 0 ∧ g2 = 0 ∧ g3 = 0 ∧ g4 = 0 ∧ i = 0)) (.ret (.exit 2, (St.mk [(0, .v (AI me)), (1, .v (AI load)), (2, .v (.one (.f (.fs nl 5 n e)))), (3, .v (.one (.mp 0))), (8, .v (AP 1)), (9, .v (AB (chG me load (entOf e) es to).1)), (17, .v (.one (.f (.fs nd 1 d e2)))), (18, .v (AI qd)), (19, .v (AI qp))] [(0, .map es), (1, .cells [I (chG me load (entOf e) es to).2.1, I (chG me load (entOf e) es to).2.2.1, I 0, I (chG me load (entOf e) es to).2.2.2])] 2 false 0 []).sl, (St.mk [(0, .v (AI me)), (1, .v (AI load)), (2, .v (.one (.f (.fs nl 5 n e)))), (3, .v (.one (.mp 0))), (8, .v (AP 1)), (9, .v (AB (chG me load (entOf e) es to).1)), (17, .v (.one (.f (.fs nd 1 d e2)))), (18, .v (AI qd)), (19, .v (AI qp))] [(0, .map es), (1, .cells [I (chG me load (entOf e) es to).2.1, I (chG me load (entOf e) es to).2.2.1, I 0, I (chG me load (entOf e) es to).2.2.2])] 2 false 0 []).H, 2, false))))
  | _, _ => .bad
theorem L_ci_ok : LoopOk Tryz.prog L_ci := by
  refine mkLoopF_ok fun sl H nx e sl' H' nx' esc' h => ?_
  split at h
  · rename_i me load nl k1 n e z1 z2 z3 z4 z5 o to nd k2 d e2 qd qp i es g1 g2 g3 g4 hsl hH
    have hsl := keyed_eq hsl
    have hH := keyed_eq hH
    subst hsl hH
    have h5 := onlyB_some h
    clear h
    obtain ⟨hck, h⟩ := h5
    simp only [Bool.and_eq_true, nbeq_iff] at hck
    obtain ⟨rfl, rfl, rfl, rfl, rfl, rfl⟩ := hck
    have h5 := onlyB_some h
    clear h
    have hw := h5.1
    have h := h5.2
    clear h5
    obtain ⟨hp, hret⟩ := T.need_some h
    have hp := pb_of hp
    have := T.ret_some hret
    simp only [Prod.mk.injEq] at this
    obtain ⟨rfl, rfl, rfl, rfl, rfl⟩ := this
    clear hret h
    obtain ⟨⟨x, rfl⟩, ⟨y, rfl⟩, rfl, h1, h2, h3, rfl, h4, rfl, rfl, rfl, rfl, rfl, rfl⟩ := hp
    obtain ⟨hw1, hw2⟩ := Bool.and_eq_true_iff.1 hw
    obtain rfl := Nat.eq_of_beq_eq_true hw1
    obtain rfl := Nat.eq_of_beq_eq_true hw2
    obtain ⟨p, rfl⟩ : ∃ p : Nat, qp = p := ⟨qp.toNat, by omega⟩
    exact loop_ci me load false n x es nd d y to p rfl h1 h2 h3 0 (false, 0, 0, 0) (Nat.zero_le _) trivial (StLe.refl (Nat.le_refl 2)) rfl
  · exact (T.bad_some h).elim
noncomputable def ll_ci : List (Nat × Nat × LoopF) := (60, 5, L_ci) :: ll_tg
theorem ll_ci_ok : ∀ x ∈ ll_ci, LoopOk Tryz.prog x.2.2 := List.forall_mem_cons.2 ⟨L_ci_ok, ll_tg_ok⟩
def S_co (me load : Int) (nl : Bool) (n : Nat) (x : Nat → Ent) (es : List (Value × Value)) (nd : Bool) (d : Nat) (y : Nat → Int) (i : Nat) (a : Unit) : St := ⟨[(0, .v (AI me)), (1, .v (AI load)), (2, .v (.one (.f (.fs nl 5 n (entE x))))), (3, .v (.one (.mp 0))), (8, .v (AP 1)), (9, .v (AB false)), (17, .v (.one (.f (.fs nd 1 d (intE y))))), (18, .v (AI d)), (19, .v (AI i))], [(0, .map es), (1, .cells [I 0, I 0, I 0, I 0])], 2, false, 0, []⟩
def S_ro (me load : Int) (nl : Bool) (n : Nat) (x : Nat → Ent) (es : List (Value × Value)) (nd : Bool) (d : Nat) (y : Nat → Int) (i : Nat) (a : Unit) : St := ⟨[(0, .v (AI me)), (1, .v (AI load)), (2, .v (.one (.f (.fs nl 5 n (entE x))))), (3, .v (.one (.mp 0))), (8, .v (AP 1)), (9, .v (AB false)), (10, .v (.one (.f (.fs nd 1 d (intE y))))), (11, .v (AI i))], [(0, .map es), (1, .cells [I 0, I 0, I 0, I 0])], 2, false, 0, []⟩

noncomputable def GDB1 : Ctx := GS.with ss_Fits ll_ci
noncomputable def tgt_co (me load : Int) (nl : Bool) (n : Nat) (x : Nat → Ent) (es : List (Value × Value)) (nd : Bool) (d : Nat) (y : Nat → Int) (i : Nat) (a : Unit) : T (Ex × St) := evRound GDB1 300 60 Tryz.f60.ntmps (loopOf Tryz.f60 2) 2 [0, 1, 2, 3, 8, 9, 17, 18, 19] [8, 9] (S_co me load nl n x es nd d y i a)
theorem GKDB1 : KnownOk Tryz.prog GDB1 := KnownOk.lists ss_Fits_ok ll_ci_ok
theorem GODB1 : CtxOk Tryz.prog GDB1 := GS_ok.with _ _
theorem tree_co (me load : Int) (nl : Bool) (n : Nat) (x : Nat → Ent) (es : List (Value × Value)) (nd : Bool) (d : Nat) (y : Nat → Int) (i : Nat) (a : Unit) : (tgt_co me load nl n x es nd d y i a).over (.br (.br (.br (.br (.br (.br .leaf .leaf) .skip) .skip) .skip) .skip) .leaf) = T.br (decide ((↑i : Int) < (↑d : Int))) (T.br (!nd) (T.br (decide ((0 : Int) ≤ (↑i : Int) ∧ (↑i : Int) < (↑d : Int))) (T.br (pb (Code.loop (loopOf Proofs.Tryz.f60 5) = Code.loop (loopOf Proofs.Tryz.f60 5) ∧ 67 = 67)) (T.br (pb (EntE (entE x) ∧ IntE (intE y) ∧ nl = false ∧ MapI es ∧ ((0 : Int) ≤ y i ∧ y i < (↑n : Int)) ∧ ((0 : Int) ≤ me ∧ me < (↑n : Int)) ∧ (↑d : Int) = (↑d : Int) ∧ (0 : Int) ≤ (↑i : Int) ∧ false = false ∧ (0 : Int) = (0 : Int) ∧ (0 : Int) = (0 : Int) ∧ (0 : Int) = (0 : Int) ∧ (0 : Int) = (0 : Int) ∧ (0 : Int) = (0 : Int))) (T.br (Prod.fst (chG me load x es (y i))) (T.ret (Ex.exit 0, ⟨[(8, SV.v (AP 1)), (9, SV.v (AB (Prod.fst (chG me load x es (y i)))))], [(0, Ob.map es), (1, Ob.cells [I (Prod.fst (Prod.snd (chG me load x es (y i)))), I (Prod.fst (Prod.snd (Prod.snd (chG me load x es (y i))))), I (0 : Int), I (Prod.snd (Prod.snd (Prod.snd (chG me load x es (y i)))))])], 2, false, 0, [0, 1]⟩)) (T.ret (Ex.normal, ⟨[(0, SV.v (AI me)), (1, SV.v (AI load)), (2, SV.v (AV.one (CV.f (FV.fs nl 5 n fun a => [FV.lit (.int .i64 (Ent.inc (x a))), FV.lit (.int .i64 (Ent.st (x a))), FV.lit (.int .i64 (Ent.stamp (x a))), FV.lit (.int .i64 (Ent.load (x a))), FV.lit (Value.bool (Ent.dr (x a)))])))), (3, SV.v (AV.one (CV.mp 0))), (8, SV.v (AP 1)), (9, SV.v (AB (Prod.fst (chG me load x es (y i))))), (17, SV.v (AV.one (CV.f (FV.fs nd 1 d fun a => [FV.lit (.int .i64 (y a))])))), (18, SV.v (AI (↑d : Int))), (19, SV.v (AI (IntKind.wrap IntKind.i64 ((↑i : Int) + (1 : Int)))))], [(0, Ob.map es), (1, Ob.cells [I (Prod.fst (Prod.snd (chG me load x es (y i)))), I (Prod.fst (Prod.snd (Prod.snd (chG me load x es (y i))))), I (0 : Int), I (Prod.snd (Prod.snd (Prod.snd (chG me load x es (y i)))))])], 2, false, 0, [0, 1]⟩))) T.bad) T.bad) T.bad) T.bad) (T.ret (Ex.exit 0, ⟨[(8, SV.v (AP 1)), (9, SV.v (AB false))], [(0, Ob.map es), (1, Ob.cells [I (0 : Int), I (0 : Int), I (0 : Int), I (0 : Int)])], 2, false, 0, []⟩)) := by kernel_rfl
/-- the first one for whom there is any -/
def chX (me load : Int) (x : Nat → Ent) (es : List (Value × Value)) (y : Nat → Int) : Nat → Nat → G5
  | 0, _ => (false, 0, 0, 0)
  | c + 1, i => match (chG me load x es (y i)).1 with | true => chG me load x es (y i) | false => chX me load x es y c (i + 1)
theorem chF_no (load ld : Int) (dr : Bool) (to : Int) (es : List (Value × Value)) : ∀ (c i : Nat) (a : G5), (foldF (chF load ld dr to es) c i a).1 = false → foldF (chF load ld dr to es) c i a = a
  | 0, _, _, _ => rfl
  | c + 1, i, a, h => by
    simp only [foldF] at h ⊢
    have h2 := chF_no load ld dr to es c (i + 1) _ h
    rw [h2] at h ⊢
    unfold chF at h ⊢
    cases hb : chB load ld dr es i a
    · rfl
    · rw [hb] at h; cases h
theorem chG_no {me load : Int} {x : Nat → Ent} {es : List (Value × Value)} {to : Int} (h : (chG me load x es to).1 = false) : chG me load x es to = (false, 0, 0, 0) := chF_no _ _ _ _ _ _ _ _ h
theorem chX_no {me load : Int} {x : Nat → Ent} {es : List (Value × Value)} {y : Nat → Int} : ∀ (c i : Nat), (chX me load x es y c i).1 = false → chX me load x es y c i = (false, 0, 0, 0)
  | 0, _, _ => rfl
  | c + 1, i, h => by
    simp only [chX] at h ⊢
    cases hb : (chG me load x es (y i)).1
    · rw [hb] at h
      exact chX_no c (i + 1) h
    · rw [hb] at h
      dsimp only at h
      rw [hb] at h; cases h
def E_ch (es : List (Value × Value)) (g : G5) : St := ⟨[(8, .v (AP 1)), (9, .v (AB g.1))], [(0, .map es), (1, .cells [I g.2.1, I g.2.2.1, I 0, I g.2.2.2])], 2, false, 0, []⟩
def cxF (e : Ex) (me load : Int) (x : Nat → Ent) (es : List (Value × Value)) (y : Nat → Int) (i : Nat) (a : Unit) : Unit ⊕ (Ex × St) := match (chG me load x es (y i)).1 with | true => .inr (e, E_ch es (chG me load x es (y i))) | false => .inl ()
theorem foldX_cx (e : Ex) (me load : Int) (x : Nat → Ent) (es : List (Value × Value)) (y : Nat → Int) : ∀ (c i : Nat), foldX (cxF e me load x es y) (fun _ => ((Ex.exit 0, E_ch es (false, 0, 0, 0)) : Ex × St)) c i () = (match (chX me load x es y c i).1 with | true => e | false => .exit 0, E_ch es (chX me load x es y c i))
  | 0, _ => rfl
  | c + 1, i => by
    simp only [foldX, cxF, chX]
    cases hb : (chG me load x es (y i)).1
    · exact foldX_cx e me load x es y c (i + 1)
    · simp only [hb]
theorem loop_co (me load : Int) (nl : Bool) (n : Nat) (x : Nat → Ent) (es : List (Value × Value)) (nd : Bool) (d : Nat) (y : Nat → Int) (hes : MapI es) (hd : d ≤ 1048576) (hnd : nd = true → d = 0) (hy : InI y d n) (hz : 0 < d → nl = false ∧ 0 ≤ me ∧ me < (n : Int)) {st0 : St} (h0 : StLe 2 st0 (S_co me load nl n x es nd d y 0 ())) (hnx : st0.nx = 2) :
    CodeOk Tryz.prog Tryz.f60.ntmps (.loop (loopOf Tryz.f60 2)) st0 (.exit 0) (E_ch es (chX me load x es y d 0)) := by
  have hf := foldX_cx (.exit 0) me load x es y d 0
  have hf1 : (foldX (cxF (.exit 0) me load x es y) (fun _ => ((Ex.exit 0, E_ch es (false, 0, 0, 0)) : Ex × St)) d 0 ()).1 = .exit 0 := by
    rw [hf]
    cases (chX me load x es y d 0).1 <;> rfl
  have hf2 : (foldX (cxF (.exit 0) me load x es y) (fun _ => ((Ex.exit 0, E_ch es (false, 0, 0, 0)) : Ex × St)) d 0 ()).2 = E_ch es (chX me load x es y d 0) := by rw [hf]
  rw [← hf1, ← hf2]
  clear hf hf1 hf2
  refine for_loop GODB1 GKDB1 (K := 300) (F := 60) (m := 2) (live := [0, 1, 2, 3, 8, 9, 17, 18, 19]) (after := [8, 9]) (S_co me load nl n x es nd d y) d _ _ (fun _ _ => True) (fun i a hi _ => ?_) (fun a _ => ?_) (fun i a => Nat.le_refl _) (Nat.zero_le _) trivial h0 hnx
  · have e1 : ((i : Int) < (d : Int)) := by omega
    have e2 : (0 : Int) ≤ (i : Int) ∧ (i : Int) < (d : Int) := by omega
    have e3 : IntKind.wrap .i64 ((i : Int) + 1) = ((i + 1 : Nat) : Int) := by rw [wrapI (by omega)]; rfl
    obtain rfl : nd = false := by
      cases nd
      · rfl
      · have := hnd rfl; omega
    have e4 := hy i hi
    obtain ⟨rfl, hme⟩ := hz (by omega)
    have e5 : (0 : Int) ≤ (i : Int) := by omega
    cases hq : (chG me load x es (y i)).1 with
    | true =>
      refine ⟨_, _, T.over_eq _ (tree_co me load false n x es false d y i a) (by simp only [T.res_br, T.res_ret, T.res_bad, e1, decide_true, hq, EntE_ok, IntE_ok, hes, e4, hme, e5, eq_self, and_self, pb_tt, Bool.not_false, reduceIte]; rfl), ?_⟩
      simp only [cxF, hq]
      exact ⟨by simp, trivial, StLe.less (Nat.le_refl 2) (fun t => .inr (.inl (by rcases t with _ | _ | _ | _ | _ | _ | _ | _ | _ | _ | t <;> first | rfl | (simp only [E_ch, hq])))) (fun b => .inl rfl)⟩
    | false =>
      have hz := chG_no hq
      have z1 : (chG me load x es (y i)).2.1 = 0 := by rw [hz]
      have z2 : (chG me load x es (y i)).2.2.1 = 0 := by rw [hz]
      have z3 : (chG me load x es (y i)).2.2.2 = 0 := by rw [hz]
      refine ⟨_, _, T.over_eq _ (tree_co me load false n x es false d y i a) (by simp only [T.res_br, T.res_ret, T.res_bad, e1, decide_true, e3, hq, z1, z2, z3, EntE_ok, IntE_ok, hes, e4, hme, e5, eq_self, and_self, pb_tt, Bool.not_false, Bool.false_eq_true, reduceIte]; rfl), ?_⟩
      simp only [cxF, hq]
      exact ⟨trivial, StLe.less (Nat.le_refl 2) (fun t => .inr (.inl rfl)) (fun b => .inl rfl), trivial⟩
  · have e1 : ¬ ((d : Int) < (d : Int)) := by omega
    refine ⟨_, _, T.over_eq _ (tree_co me load nl n x es nd d y d a) (by simp only [T.res_br, T.res_ret, T.res_bad, decide_eq_false e1, Bool.false_eq_true, reduceIte]; rfl), by simp, rfl, StLe.less (Nat.le_refl 2) (fun t => .inr (.inl rfl)) (fun b => .inl rfl)⟩

noncomputable def L_co : LoopF := mkLoopF [0, 1, 2, 3, 8, 9, 17, 18, 19] (loopOf Tryz.f60 2) Tryz.f60.ntmps fun sl H nx => match keyed [0, 1, 2, 3, 8, 9, 17, 18, 19] sl, keyed [0, 1] H with
  | some [.v (.one (.f (.lit (.int .i64 me)))), .v (.one (.f (.lit (.int .i64 load)))), .v (.one (.f (.fs nl k1 n e))), .v (.one (.mp z1)), .v (.one (.ptr z2 z3 z4 z5)), .v (.one (.f (.lit (.bool o)))), .v (.one (.f (.fs nd k2 d e2))), .v (.one (.f (.lit (.int .i64 qd)))), .v (.one (.f (.lit (.int .i64 i))))], some [.map es, .cells [.f (.lit (.int .i64 g1)), .f (.lit (.int .i64 g2)), .f (.lit (.int .i64 g3)), .f (.lit (.int .i64 g4))]] => onlyB (Nat.beq nx 2 && (Nat.beq z1 0 && (Nat.beq z2 1 && (Nat.beq z3 0 && (Nat.beq z4 0 && (Nat.beq z5 0)))))) (onlyB (Nat.beq k1 5 && Nat.beq k2 1) (.need (pb (EntE e ∧ IntE e2 ∧ MapI es ∧ d ≤ 1048576 ∧ (nd = true → d = 0) ∧ InI (intOf e2) d n ∧ (0 < d → nl = false ∧ 0 ≤ me ∧ me < (n : Int)) ∧ o = false ∧ g1 = 0 ∧ g2 = 0 ∧ g3 = 0 ∧ g4 = 0 ∧ i = 0 ∧ qd = d)) (.ret (.exit 0, (St.mk [(8, .v (AP 1)), (9, .v (AB (chX me load (entOf e) es (intOf e2) d 0).1))] [(0, .map es), (1, .cells [I (chX me load (entOf e) es (intOf e2) d 0).2.1, I (chX me load (entOf e) es (intOf e2) d 0).2.2.1, I 0, I (chX me load (entOf e) es (intOf e2) d 0).2.2.2])] 2 false 0 []).sl, (St.mk [(8, .v (AP 1)), (9, .v (AB (chX me load (entOf e) es (intOf e2) d 0).1))] [(0, .map es), (1, .cells [I (chX me load (entOf e) es (intOf e2) d 0).2.1, I (chX me load (entOf e) es (intOf e2) d 0).2.2.1, I 0, I (chX me load (entOf e) es (intOf e2) d 0).2.2.2])] 2 false 0 []).H, 2, false))))
  | _, _ => .bad
theorem L_co_ok : LoopOk Tryz.prog L_co := by
  refine mkLoopF_ok fun sl H nx e sl' H' nx' esc' h => ?_
  split at h
  · rename_i me load nl k1 n e z1 z2 z3 z4 z5 o nd k2 d e2 qd i es g1 g2 g3 g4 hsl hH
    have hsl := keyed_eq hsl
    have hH := keyed_eq hH
    subst hsl hH
    have h5 := onlyB_some h
    clear h
    obtain ⟨hck, h⟩ := h5
    simp only [Bool.and_eq_true, nbeq_iff] at hck
    obtain ⟨rfl, rfl, rfl, rfl, rfl, rfl⟩ := hck
    have h5 := onlyB_some h
    clear h
    have hw := h5.1
    have h := h5.2
    clear h5
    obtain ⟨hp, hret⟩ := T.need_some h
    have hp := pb_of hp
    have := T.ret_some hret
    simp only [Prod.mk.injEq] at this
    obtain ⟨rfl, rfl, rfl, rfl, rfl⟩ := this
    clear hret h
    obtain ⟨⟨x, rfl⟩, ⟨y, rfl⟩, h1, h2, h3, h4, h5, rfl, rfl, rfl, rfl, rfl, rfl, rfl⟩ := hp
    obtain ⟨hw1, hw2⟩ := Bool.and_eq_true_iff.1 hw
    obtain rfl := Nat.eq_of_beq_eq_true hw1
    obtain rfl := Nat.eq_of_beq_eq_true hw2
    exact loop_co me load nl n x es nd d y h1 h2 h3 h4 h5 (StLe.refl (Nat.le_refl 2)) rfl
  · exact (T.bad_some h).elim
noncomputable def ll_co : List (Nat × Nat × LoopF) := (60, 2, L_co) :: ll_ci
theorem ll_co_ok : ∀ x ∈ ll_co, LoopOk Tryz.prog x.2.2 := List.forall_mem_cons.2 ⟨L_co_ok, ll_ci_ok⟩
noncomputable def GDB2 : Ctx := GS.with ss_Fits ll_co
noncomputable def tgt_Ch (me load : Int) (nl : Bool) (n : Nat) (x : Nat → Ent) (es : List (Value × Value)) : T CallOut := evCallW [] GDB2 300 60 [AI me, AI load, .one (.f (.fs nl 5 n (entE x))), .one (.mp 0)] [(0, .map es)] 1
theorem GKDB2 : KnownOk Tryz.prog GDB2 := KnownOk.lists ss_Fits_ok ll_co_ok
theorem GODB2 : CtxOk Tryz.prog GDB2 := GS_ok.with _ _
theorem tree_Ch (me load : Int) (nl : Bool) (n : Nat) (x : Nat → Ent) (es : List (Value × Value)) : (tgt_Ch me load nl n x es).over (.br (.br (.br .leaf .skip) .skip) .skip) = T.br (pb (EntE (entE x) ∧ (nl = true → n = 0) ∧ n < 20)) (T.br (pb (Code.loop (loopOf Proofs.Tryz.f60 2) = Code.loop (loopOf Proofs.Tryz.f60 2) ∧ 67 = 67)) (T.br (pb (EntE (entE x) ∧ IntE (intE (tzE me x n)) ∧ MapI es ∧ tzL me x n ≤ 1048576 ∧ (Nat.beq (tzL me x n) 0 = true → tzL me x n = 0) ∧ InI (tzE me x n) (tzL me x n) n ∧ (0 < tzL me x n → nl = false ∧ (0 : Int) ≤ me ∧ me < (↑n : Int)) ∧ false = false ∧ (0 : Int) = (0 : Int) ∧ (0 : Int) = (0 : Int) ∧ (0 : Int) = (0 : Int) ∧ (0 : Int) = (0 : Int) ∧ (0 : Int) = (0 : Int) ∧ (↑(tzL me x n) : Int) = (↑(tzL me x n) : Int))) (T.ret ⟨SV.tup [AV.agg [I (Prod.fst (Prod.snd (chX me load x es (tzE me x n) (tzL me x n) 0))), I (Prod.fst (Prod.snd (Prod.snd (chX me load x es (tzE me x n) (tzL me x n) 0)))), I (0 : Int), I (Prod.snd (Prod.snd (Prod.snd (chX me load x es (tzE me x n) (tzL me x n) 0))))], AB (Prod.fst (chX me load x es (tzE me x n) (tzL me x n) 0))], [(0, Ob.map es)], 1, false, []⟩) T.bad) T.bad) T.bad := by kernel_rfl
end Go.Proofs.YtbobakclbdaepaaGreat.En
/- What the answer of Targets is like. -/
namespace Go.Proofs.YtbobakclbdaepaaGreat.En
open Go
set_option linter.unusedVariables false
set_option linter.unusedSimpArgs false
set_option maxRecDepth 20000
set_option maxHeartbeats 1000000
/-- s with k at place q -/
def putAt (s : Nat → Int) (k : Int) (q : Nat) : Nat → Int := fun p => if p < q then s p else if p = q then k else s (p - 1)
theorem insK_form (x : Nat → Ent) (ld k : Int) (c : Nat) (s : Nat → Int) : ∀ (f r : Nat) (u : Nat → Int), f + r = c → Agree (c + 1) u (putAt s k (c - r)) → (∀ p, c - r ≤ p → p < c → ldI x (s p) > ld) →
    ∃ q, q ≤ c ∧ Agree (c + 1) (insK x ld k c f r u) (putAt s k q) ∧ (q = 0 ∨ ldI x (s (q - 1)) ≤ ld) ∧ ∀ p, q ≤ p → p < c → ldI x (s p) > ld
  | 0, r, u, h, hu, hg => ⟨c - r, by omega, hu, .inl (by omega), hg⟩
  | f + 1, r, u, h, hu, hg => by
    simp only [insK]
    have e1 : u (c - r - 1) = s (c - r - 1) := by
      rw [hu _ (by omega)]
      unfold putAt
      rw [if_pos (by omega)]
    cases hq : decide (ldI x (u (c - r - 1)) > ld)
    · exact ⟨c - r, by omega, hu, .inr (by have := of_decide_eq_false hq; rw [e1] at this; omega), hg⟩
    · have hq := of_decide_eq_true hq
      rw [e1] at hq
      refine insK_form x ld k c s f (r + 1) _ (by omega) (fun p hp => ?_) (fun p h1 h2 => ?_)
      · rw [e1]
        by_cases h1 : p = c - r - 1
        · subst h1
          rw [Nat.beq_refl]
          unfold putAt
          rw [if_neg (by omega), if_pos (by omega)]; rfl
        · rw [beq_ff h1]
          by_cases h2 : p = c - r
          · subst h2
            rw [Nat.beq_refl]
            unfold putAt
            rw [if_neg (by omega), if_neg (by omega)]; rfl
          · rw [beq_ff h2]
            simp only [cond_false]
            rw [hu p hp]
            unfold putAt
            by_cases h3 : p < c - (r + 1)
            · rw [if_pos (by omega), if_pos h3]
            · rw [if_neg (by omega), if_neg (by omega), if_neg (by omega), if_neg (by omega)]
      · by_cases h3 : p = c - r - 1
        · rw [h3]; exact hq
        · exact hg p (by omega) h2
/-- less by load, then by number -/
def lexI (x : Nat → Ent) (a b : Int) : Prop := ldI x a < ldI x b ∨ (ldI x a = ldI x b ∧ a < b)
def Holds (c : Nat) (y z : Nat → Int) : Prop := ∀ v : Int, (∃ j, j < c ∧ y j = v) ↔ ∃ j, j < c ∧ z j = v
theorem putAt_mem (s : Nat → Int) (k : Int) (c q : Nat) (hq : q ≤ c) (v : Int) : (∃ j, j < c + 1 ∧ putAt s k q j = v) ↔ v = k ∨ ∃ j, j < c ∧ s j = v := by
  constructor
  · rintro ⟨j, hj, e⟩
    unfold putAt at e
    split at e
    · exact .inr ⟨j, by omega, e⟩
    · split at e
      · exact .inl e.symm
      · exact .inr ⟨j - 1, by omega, e⟩
  · rintro (e | ⟨j, hj, e⟩)
    · refine ⟨q, by omega, ?_⟩
      unfold putAt
      rw [if_neg (by omega), if_pos rfl, e]
    · by_cases h : j < q
      · refine ⟨j, by omega, ?_⟩
        unfold putAt
        rw [if_pos h, e]
      · refine ⟨j + 1, by omega, ?_⟩
        unfold putAt
        rw [if_neg (by omega), if_neg (by omega)]
        exact e
theorem insA_ok (x : Nat → Ent) (z : Nat → Int) : ∀ c, (∀ j k, j < k → k < c → z j < z k) → Holds c (insA x c z) z ∧ ∀ i, i + 1 < c → lexI x (insA x c z i) (insA x c z (i + 1))
  | 0, _ => ⟨fun v => ⟨fun ⟨j, hj, _⟩ => absurd hj (Nat.not_lt_zero j), fun ⟨j, hj, _⟩ => absurd hj (Nat.not_lt_zero j)⟩, fun i hi => absurd hi (Nat.not_lt_zero _)⟩
  | c + 1, hz => by
    obtain ⟨i1, i2⟩ := insA_ok x z c (fun j k h1 h2 => hz j k h1 (by omega))
    have ek : insA x c z (c - 0) = z c := insA_out x c z c (Nat.le_refl c)
    rw [insA_succ, insK_eq x (z c) c c 0 _ ek]
    generalize insA x c z = s at i1 i2 ek
    have hlt : ∀ j, j < c → s j < z c := fun j hj => by
      obtain ⟨i, hi, e⟩ := (i1 _).1 ⟨j, hj, rfl⟩
      rw [← e]; exact hz i c hi (Nat.lt_succ_self c)
    obtain ⟨q, q1, q2, q3, q4⟩ := insK_form x (ldI x (z c)) (z c) c s c 0 s (by omega) (fun p hp => by
      unfold putAt
      by_cases h : p < c
      · rw [if_pos (by omega)]
      · obtain rfl : p = c := by omega
        rw [if_neg (by omega), if_pos (by omega)]; exact ek) (fun p h1 h2 => by omega)
    generalize insK x (ldI x (z c)) (z c) c c 0 s = w at q2
    refine ⟨fun v => ?_, fun i hi => ?_⟩
    · have h1 : (∃ j, j < c + 1 ∧ w j = v) ↔ ∃ j, j < c + 1 ∧ putAt s (z c) q j = v :=
        ⟨fun ⟨j, hj, e⟩ => ⟨j, hj, by rw [← q2 j hj]; exact e⟩, fun ⟨j, hj, e⟩ => ⟨j, hj, by rw [q2 j hj]; exact e⟩⟩
      rw [h1, putAt_mem s (z c) c q q1, i1 v]
      exact ⟨fun h => by
        rcases h with h | ⟨j, hj, e⟩
        · exact ⟨c, by omega, h.symm⟩
        · exact ⟨j, by omega, e⟩, fun ⟨j, hj, e⟩ => by
        by_cases h : j < c
        · exact .inr ⟨j, h, e⟩
        · obtain rfl : j = c := by omega
          exact .inl e.symm⟩
    · rw [q2 i (by omega), q2 (i + 1) hi]
      unfold putAt
      rcases Nat.lt_trichotomy (i + 1) q with h | h | h
      · rw [if_pos (by omega), if_pos h]
        exact i2 i (by omega)
      · rw [if_pos (by omega), if_neg (by omega), if_pos h]
        rcases q3 with h0 | h0
        · omega
        · have e : q - 1 = i := by omega
          rw [e] at h0
          rcases Int.lt_or_eq_of_le h0 with h1 | h1
          · exact .inl h1
          · exact .inr ⟨h1, hlt i (by omega)⟩
      · rw [if_neg (by omega), if_neg (show ¬ i + 1 < q by omega), if_neg (show ¬ i + 1 = q by omega)]
        by_cases h1 : i = q
        · rw [if_pos h1]
          have := q4 i (by omega) (by omega)
          exact .inl (by rw [Nat.add_sub_cancel]; omega)
        · rw [if_neg h1, Nat.add_sub_cancel]
          have := i2 (i - 1) (by omega)
          rwa [show i - 1 + 1 = i by omega] at this
theorem tgA_asc (me : Int) (x : Nat → Ent) (n : Nat) : ∀ j k, j < k → k < (tgA me x n).1 → (tgA me x n).2 j < (tgA me x n).2 k := (fil_ok (tgB me x) n).2
theorem tgR_asc (me : Int) (x : Nat → Ent) (n : Nat) : ∀ j k, j < k → k < (tgR me x n).1 → (tgR me x n).2 j < (tgR me x n).2 k := by
  unfold tgR
  cases (x me.toNat).dr
  · exact nz_asc me _ _
  · exact tgA_asc me x n
theorem tgR_mem {me : Int} {x : Nat → Ent} {n j : Nat} (hj : j < (tgR me x n).1) : ∃ i : Nat, i < n ∧ tgB me x i = true ∧ (i : Int) = (tgR me x n).2 j := by
  have key : ∀ v, (∃ j, j < (tgA me x n).1 ∧ (tgA me x n).2 j = v) → ∃ i : Nat, i < n ∧ tgB me x i = true ∧ (i : Int) = v := fun v => ((fil_ok (tgB me x) n).1 v).1
  unfold tgR at hj ⊢
  cases hd : (x me.toNat).dr
  · rw [hd] at hj
    exact key _ (nz_mem hj).1
  · rw [hd] at hj
    exact key _ ⟨j, hj, rfl⟩
/-- what is told of each of them -/
def TgOk (me : Int) (x : Nat → Ent) (n : Nat) (v : Int) : Prop := (0 ≤ v ∧ v < (n : Int)) ∧ v ≠ me ∧ (x v.toNat).st ≠ 2 ∧ (x v.toNat).dr = false
theorem TgOk_of {me : Int} {x : Nat → Ent} {n i : Nat} (hi : i < n) (hb : tgB me x i = true) : TgOk me x n i := by
  unfold tgB at hb
  simp only [Bool.and_eq_true, bne_iff_ne, ne_eq, Bool.not_eq_true'] at hb
  refine ⟨by omega, hb.1.1, ?_, ?_⟩
  · rw [Int.toNat_natCast]; exact hb.1.2
  · rw [Int.toNat_natCast]; exact hb.2
theorem tz_in {me : Int} {n : Nat} (h : 0 ≤ me ∧ me < (n : Int)) (x : Nat → Ent) : tzL me x n = (tgR me x n).1 := if_pos h
theorem tz_ok {me : Int} {n : Nat} (h : 0 ≤ me ∧ me < (n : Int)) (x : Nat → Ent) {i : Nat} (hi : i < tzL me x n) : TgOk me x n (tzE me x n i) := by
  have hL := tz_in h x
  have hm := (insA_ok x (tgR me x n).2 (tgR me x n).1 (tgR_asc me x n)).1
  unfold tzE
  rw [hL] at hi ⊢
  obtain ⟨j, hj, e⟩ := (hm _).1 ⟨i, hi, rfl⟩
  obtain ⟨k, hk, hb, e2⟩ := tgR_mem hj
  rw [← e, ← e2]
  exact TgOk_of hk hb
theorem tz_lex {me : Int} {n : Nat} (h : 0 ≤ me ∧ me < (n : Int)) (x : Nat → Ent) {i : Nat} (hi : i + 1 < tzL me x n) : lexI x (tzE me x n i) (tzE me x n (i + 1)) := by
  have hL := tz_in h x
  have hm := (insA_ok x (tgR me x n).2 (tgR me x n).1 (tgR_asc me x n)).2
  unfold tzE
  rw [hL] at hi ⊢
  exact hm i hi
theorem nz_count {me : Int} {y : Nat → Int} {d : Nat} (ha : ∀ j k, j < k → k < d → y j < y k) (hn : ∀ j, j < d → y j ≠ me) : nzL me y d = min d 2 := by
  unfold nzL
  by_cases h0 : nxD me y d = 0
  · rw [if_pos h0]
    rcases Nat.eq_zero_or_pos d with h | h
    · omega
    · exact absurd ((nxD_none me y d).1 h0 0 h) (hn 0 h)
  · rw [if_neg h0]
    have hd : 0 < d := by
      rcases Nat.eq_zero_or_pos d with h | h
      · subst h
        exact absurd ((nxD_none me y 0).2 fun j hj => absurd hj (Nat.not_lt_zero j)) h0
      · exact h
    have hB := nxB_ok h0
    have hA := nxA_ok h0
    generalize nxB me y d = b at hB
    generalize nxA me y d = a at hA
    split
    · rename_i hm
      obtain rfl : b = a := by omega
      by_cases h2 : d < 2
      · omega
      · exfalso
        have h01 := ha 0 1 (by omega) (by omega)
        have n0 := hn 0 hd
        have n1 := hn 1 (by omega)
        rcases hB with ⟨⟨j, j1, j2, j3⟩, j4⟩ | ⟨g1, ⟨j, j1, j2, j3⟩, j4⟩
        · rcases hA with ⟨⟨k, k1, k2, k3⟩, k4⟩ | ⟨f1, _, k4⟩
          · omega
          · have := f1 0 hd
            have := j4 0 hd (by omega)
            have := k4 1 (by omega) n1
            omega
        · rcases hA with ⟨⟨k, k1, k2, k3⟩, k4⟩ | ⟨f1, _, k4⟩
          · have := g1 1 (by omega)
            have := k4 1 (by omega) (by omega)
            have := j4 0 hd n0
            omega
          · have := f1 0 hd
            have := g1 0 hd
            omega
    · rename_i hm
      by_cases h2 : d < 2
      · obtain rfl : d = 1 := by omega
        have : ∀ {v : Int}, (∃ j, j < 1 ∧ y j = v) → v = y 0 := fun ⟨j, hj, e⟩ => by
          obtain rfl : j = 0 := by omega
          exact e.symm
        have eb : b = y 0 := by
          rcases hB with ⟨⟨j, j1, j2, j3⟩, j4⟩ | ⟨g1, ⟨j, j1, j2, j3⟩, j4⟩ <;> exact this ⟨j, j1, j3⟩
        have ea : a = y 0 := by
          rcases hA with ⟨⟨j, j1, j2, j3⟩, j4⟩ | ⟨g1, ⟨j, j1, j2, j3⟩, j4⟩ <;> exact this ⟨j, j1, j3⟩
        omega
      · omega
theorem tz_count {me : Int} {n : Nat} (h : 0 ≤ me ∧ me < (n : Int)) (x : Nat → Ent) : tzL me x n = match (x me.toNat).dr with | true => (tgA me x n).1 | false => min (tgA me x n).1 2 := by
  rw [tz_in h x]
  unfold tgR
  cases hd : (x me.toNat).dr
  · refine nz_count (tgA_asc me x n) fun j hj => ?_
    obtain ⟨i, hi, hb, e⟩ := ((fil_ok (tgB me x) n).1 ((tgA me x n).2 j)).1 ⟨j, hj, rfl⟩
    rw [← e]
    exact (TgOk_of hi hb).2.1
  · rfl

end Go.Proofs.YtbobakclbdaepaaGreat.En
/- Donor: both Choose are known. -/
namespace Go.Proofs.YtbobakclbdaepaaGreat.En
open Go
set_option linter.unusedVariables false
set_option linter.unusedSimpArgs false
set_option maxRecDepth 20000
set_option maxHeartbeats 1000000
/-- what Choose answers -/
def chT (me load : Int) (x : Nat → Ent) (es : List (Value × Value)) (n : Nat) : G5 := chX me load x es (tzE me x n) (tzL me x n) 0
theorem ch_pre {me : Int} {nl : Bool} {n : Nat} (x : Nat → Ent) (h : (nl = true → n = 0) ∧ n < 20) : tzL me x n ≤ 1048576 ∧ (Nat.beq (tzL me x n) 0 = true → tzL me x n = 0) ∧ InI (tzE me x n) (tzL me x n) n ∧ (0 < tzL me x n → nl = false ∧ 0 ≤ me ∧ me < (n : Int)) := by
  have hin : 0 < tzL me x n → 0 ≤ me ∧ me < (n : Int) := fun h => by
    unfold tzL at h
    split at h
    · assumption
    · omega
  refine ⟨?_, Nat.eq_of_beq_eq_true, fun k hk => (tz_ok (hin (by omega)) x hk).1, fun h0 => ⟨?_, hin h0⟩⟩
  · rcases Nat.eq_zero_or_pos (tzL me x n) with h0 | h0
    · omega
    · rw [tz_in (hin h0) x]
      unfold tgR
      cases (x me.toNat).dr
      · have : nzL me (tgA me x n).2 (tgA me x n).1 ≤ 2 := by
          unfold nzL
          split
          · omega
          · split <;> omega
        dsimp only; omega
      · have := (tgA_ok me x n).1
        dsimp only; omega
  · cases nl
    · rfl
    · have := h.1 rfl
      have := hin h0
      omega
abbrev chR (g : G5) (es : List (Value × Value)) : CallOut := ⟨.tup [.agg [I g.2.1, I g.2.2.1, I 0, I g.2.2.2], AB g.1], [(0, .map es)], 1, false, []⟩
theorem pb_ff : pb False = false := pb_false (fun h => h)
theorem res_Ch (me load : Int) (nl : Bool) (n : Nat) (x : Nat → Ent) (es : List (Value × Value)) (h : ((nl = true → n = 0) ∧ n < 20) ∧ MapI es) : (tgt_Ch me load nl n x es).res = some (chR (chT me load x es n) es) := by
  refine T.over_eq _ (tree_Ch me load nl n x es) ?_
  obtain ⟨h1, h2⟩ := h
  obtain ⟨a1, a2, a3, a4⟩ := ch_pre (me := me) x h1
  have b1 : (nl = true → n = 0) = True := eq_true h1.1
  simp only [T.res_br, T.res_ret, T.res_bad, EntE_ok, IntE_ok, entOf_entE, intOf_intE, b1, h1.2, h2, a1, eq_true a2, a3, eq_true a4, eq_self, and_self, pb_tt, reduceIte]
  rfl

noncomputable def F_Ch : SumF
  | [.one (.f (.lit (.int .i64 me))), .one (.f (.lit (.int .i64 load))), .one (.f (.fs nl 5 n e)), .one (.mp 0)], [(0, .map es)], 1 => .need (pb (EntE e ∧ ((nl = true → n = 0) ∧ n < 20) ∧ MapI es)) (.ret (⟨.tup [.agg [I (chT me load (entOf e) es n).2.1, I (chT me load (entOf e) es n).2.2.1, I 0, I (chT me load (entOf e) es n).2.2.2], AB (chT me load (entOf e) es n).1], [(0, .map es)], 1, false, []⟩))
  | _, _, _ => .bad
theorem sum_Ch : SumOk Tryz.prog 60 F_Ch := by
  refine ⟨fun args H nx r hr => ?_, fun args H nx => ?_⟩
  · unfold F_Ch at hr
    split at hr
    · rename_i me load nl n e es
      obtain ⟨h0, hr⟩ := T.need_some hr
      have := T.ret_some hr
      subst this
      have h := pb_of h0
      obtain ⟨⟨x, rfl⟩, h1⟩ := h
      exact evCallW_ok GODB2 GKDB2 (res_Ch me load nl n x es h1)
    · exact (T.bad_some hr).elim
  · unfold F_Ch
    split
    · exact T.Every.need ⟨by first | exact Nat.le_refl _ | (dsimp only; omega), fun b hb hw => by
        have : b = 0 := by omega
        subst this <;> first | rfl | exact absurd (by dsimp only; decide) hw⟩
    · trivial
noncomputable def sm_Ch : SumF := canonSum F_Ch
theorem sm_Ch_ok : SumOk Tryz.prog 60 sm_Ch := canonSum_ok sum_Ch
noncomputable def ss_Ch : List (Nat × SumF) := (60, sm_Ch) :: ss_Fits
theorem ss_Ch_ok : ∀ x ∈ ss_Ch, SumOk Tryz.prog x.1 x.2 := List.forall_mem_cons.2 ⟨sm_Ch_ok, ss_Fits_ok⟩
/-- a map of numbers, as the list of its pairs -/
def mI (l : List (Int × Int)) : List (Value × Value) := l.map fun p => (.int .i64 p.1, .int .i64 p.2)
def getI (k : Int) : List (Int × Int) → Int
  | [] => 0
  | p :: r => match k == p.1 with | true => p.2 | false => getI k r
def putI (k v : Int) : List (Int × Int) → List (Int × Int)
  | [] => [(k, v)]
  | p :: r => match k == p.1 with | true => (k, v) :: r | false => p :: putI k v r
theorem mI_keys (k : Int) (l : List (Int × Int)) : keysOk (.int .i64 k) (mI l) = true := by simp [keysOk, mI, keyOk]
theorem mI_ints (l : List (Int × Int)) : intsOk .i64 (mI l) = true := by simp [intsOk, mI]
theorem mI_get (k : Int) : ∀ l : List (Int × Int), intM (.int .i64 k) (mI l) = getI k l
  | [] => rfl
  | p :: r => by
    have := mI_get k r
    simp only [intM, mI, List.map_cons, valM, keyEq, getI] at this ⊢
    cases k == p.1
    · exact this
    · rfl
theorem mI_put (k v : Int) : ∀ l : List (Int × Int), setM (.int .i64 k) (.int .i64 v) (mI l) = mI (putI k v l)
  | [] => rfl
  | p :: r => by
    have := mI_put k v r
    simp only [mI, List.map_cons, setM, keyEq, putI] at this ⊢
    cases k == p.1
    · simp only [this, List.map_cons]
    · rfl
theorem MapI_mI (l : List (Int × Int)) : MapI (mI l) := fun k => by rw [mI_keys, mI_ints]; rfl
def S_dm (me mine : Int) (tl : Bool) (tn : Nat) (x : Nat → Ent) (wl : Bool) (n : Nat) (w : Nat → Int) (i : Nat) (l : List (Int × Int)) : St := ⟨[(4, .v (AI me)), (7, .v (AI mine)), (17, .v (.one (.f (.fs tl 5 tn (entE x))))), (18, .v (.one (.mp 0))), (60, .v (.one (.f (.fs wl 1 n (intE w))))), (61, .v (AI n)), (62, .v (AI i))], [(0, .map (mI l))], 1, false, 0, []⟩

def NoM (es : List (Value × Value)) : Prop := es = []
theorem NoM_nil : NoM [] := rfl
def dmV (x : Int) : Int := IntKind.wrap IntKind.i64 (IntKind.wrap IntKind.i64 (Int.tdiv x 4) % 12 - 1)
def dmF (w : Nat → Int) (i : Nat) (l : List (Int × Int)) : List (Int × Int) := match decide ((i : Int) < 6) && decide (w i % 4 > 0) with | true => putI (i : Int) (dmV (w i)) l | false => l
def dmL (w : Nat → Int) (n : Nat) : List (Int × Int) := foldF (dmF w) n 0 []

end Go.Proofs.YtbobakclbdaepaaGreat.En
/- DonorBest: the plain law. -/
namespace Go.Proofs.YtbobakclbdaepaaGreat.En
open Go
set_option linter.unusedVariables false
set_option linter.unusedSimpArgs false
set_option maxRecDepth 20000
set_option maxHeartbeats 1000000
def bmV (x : Int) : Int := IntKind.wrap IntKind.i64 (1 + IntKind.wrap IntKind.i64 (Int.tdiv x 4) % 9)
def bmF (w : Nat → Int) (i : Nat) (l : List (Int × Int)) : List (Int × Int) := match decide ((i : Int) < 6) && decide (w i % 4 > 0) with | true => putI (i : Int) (bmV (w i)) l | false => l
def bmL (w : Nat → Int) (n : Nat) : List (Int × Int) := foldF (bmF w) n 0 []
/-- the keys are shards, none twice -/
structure KeyOk (l : List (Int × Int)) : Prop where
  dist : l.Pairwise fun p q => p.1 ≠ q.1
  rng : ∀ p ∈ l, 0 ≤ p.1 ∧ p.1 < 6
theorem putI_mem {k v : Int} : ∀ {l : List (Int × Int)} {p : Int × Int}, p ∈ putI k v l → p = (k, v) ∨ p ∈ l
  | [], p, h => by simp only [putI, List.mem_singleton] at h; exact .inl h
  | q :: r, p, h => by
    simp only [putI] at h
    cases hk : (k == q.1)
    · rw [hk] at h
      rcases List.mem_cons.1 h with h | h
      · exact .inr (by rw [h]; exact List.mem_cons_self ..)
      · exact (putI_mem h).imp id fun h => List.mem_cons_of_mem _ h
    · rw [hk] at h
      rcases List.mem_cons.1 h with h | h
      · exact .inl h
      · exact .inr (List.mem_cons_of_mem _ h)
theorem putI_dist {k v : Int} : ∀ {l : List (Int × Int)}, l.Pairwise (fun p q => p.1 ≠ q.1) → (putI k v l).Pairwise fun p q => p.1 ≠ q.1
  | [], _ => List.pairwise_singleton ..
  | q :: r, h => by
    obtain ⟨h1, h2⟩ := List.pairwise_cons.1 h
    simp only [putI]
    cases hk : (k == q.1)
    · refine List.pairwise_cons.2 ⟨fun p hp => ?_, putI_dist h2⟩
      rcases putI_mem hp with e | h
      · rw [e]; have := hk; simp only [beq_eq_false_iff_ne, ne_eq] at this; exact fun e => this e.symm
      · exact h1 p h
    · have hk : k = q.1 := by simpa using hk
      exact List.pairwise_cons.2 ⟨fun p hp => by rw [hk]; exact h1 p hp, h2⟩
theorem bmL_ok (w : Nat → Int) : ∀ (n i : Nat) (l : List (Int × Int)), KeyOk l → KeyOk (foldF (bmF w) n i l)
  | 0, _, _, h => h
  | n + 1, i, l, h => by
    refine bmL_ok w n (i + 1) _ ?_
    unfold bmF
    cases hq : (decide ((i : Int) < 6) && decide (w i % 4 > 0))
    · exact h
    · simp only [Bool.and_eq_true, decide_eq_true_eq] at hq
      refine ⟨putI_dist h.dist, fun p hp => ?_⟩
      rcases putI_mem hp with e | hp
      · rw [e]; exact ⟨by show (0 : Int) ≤ (i : Int); omega, hq.1⟩
      · exact h.rng p hp
theorem bmL_key (w : Nat → Int) (n : Nat) : KeyOk (bmL w n) := bmL_ok w n 0 [] ⟨List.Pairwise.nil, fun p h => by cases h⟩
theorem has_mI (k : Int) : ∀ l : List (Int × Int), hasM (.int .i64 k) (mI l) = true ↔ ∃ p ∈ l, p.1 = k := fun l => by
  simp only [hasM, mI, List.any_map, List.any_eq_true, Function.comp_apply, keyEq, beq_iff_eq]
  exact ⟨fun ⟨p, h1, h2⟩ => ⟨p, h1, h2.symm⟩, fun ⟨p, h1, h2⟩ => ⟨p, h1, h2.symm⟩⟩
theorem get_mem : ∀ {l : List (Int × Int)}, l.Pairwise (fun p q => p.1 ≠ q.1) → ∀ {p : Int × Int}, p ∈ l → getI p.1 l = p.2
  | [], _, p, h => by cases h
  | q :: r, h, p, hp => by
    obtain ⟨h1, h2⟩ := List.pairwise_cons.1 h
    simp only [getI]
    rcases List.mem_cons.1 hp with e | hp
    · subst e
      rw [beq_self_eq_true]
    · have : (p.1 == q.1) = false := by
        simp only [beq_eq_false_iff_ne, ne_eq]
        exact fun e => h1 p hp e.symm
      rw [this]
      exact get_mem h2 hp
/-- may this one be given -/
abbrev fitP (load ld : Int) (dr : Bool) (p : Int × Int) : Bool := fitsB p.2 load ld dr
def ChI (load ld : Int) (dr : Bool) (to : Int) (l : List (Int × Int)) (c : Nat) (a : G5) : Prop :=
  (a.1 = true ↔ ∃ p ∈ l, p.1 < (c : Int) ∧ fitP load ld dr p = true) ∧
  (a.1 = true → a.2.1 = to ∧ a.2.2.1 < (c : Int) ∧ (∃ p ∈ l, p.1 = a.2.2.1 ∧ p.2 = a.2.2.2 ∧ fitP load ld dr p = true) ∧ ∀ q ∈ l, q.1 < (c : Int) → fitP load ld dr q = true → ¬ (q.2 > a.2.2.2 ∨ (q.2 = a.2.2.2 ∧ q.1 < a.2.2.1)))
theorem ChI.step {load ld : Int} {dr : Bool} {to : Int} {l : List (Int × Int)} (hl : KeyOk l) {c : Nat} {a : G5} (h : ChI load ld dr to l c a) : ChI load ld dr to l (c + 1) (chF load ld dr to (mI l) c a) := by
  obtain ⟨h1, h2⟩ := h
  have hlt : ∀ q : Int × Int, q.1 < ((c + 1 : Nat) : Int) → q.1 < (c : Int) ∨ q.1 = (c : Int) := fun q hq => by omega
  have hget : ∀ q ∈ l, q.1 = (c : Int) → q.2 = intM (.int .i64 (c : Int)) (mI l) := fun q hq e => by rw [mI_get, ← e, get_mem hl.dist hq]
  unfold chF
  cases hb : chB load ld dr (mI l) c a
  · unfold chB at hb
    have hno : ∀ q ∈ l, q.1 = (c : Int) → fitP load ld dr q = true → a.1 = true ∧ ¬ (q.2 > a.2.2.2) := fun q hq e hf => by
      have g1 : hasM (.int .i64 (c : Int)) (mI l) = true := (has_mI _ _).2 ⟨q, hq, e⟩
      have g2 : fitsB (intM (.int .i64 (c : Int)) (mI l)) load ld dr = true := by rw [← hget q hq e]; exact hf
      rw [g1, g2, ← hget q hq e] at hb
      simp only [Bool.true_and, Bool.or_eq_false_iff, Bool.not_eq_false', decide_eq_false_iff_not] at hb
      exact ⟨hb.1, hb.2⟩
    refine ⟨⟨fun ha => ?_, fun ⟨p, hp, hpc, hf⟩ => ?_⟩, fun ha => ?_⟩
    · obtain ⟨p, hp, hpc, hf⟩ := h1.1 ha
      exact ⟨p, hp, by omega, hf⟩
    · rcases hlt p hpc with g | g
      · exact h1.2 ⟨p, hp, g, hf⟩
      · exact (hno p hp g hf).1
    · obtain ⟨k1, k2, k3, k4⟩ := h2 ha
      refine ⟨k1, (by dsimp only; omega), k3, fun q hq hqc hf => ?_⟩
      dsimp only
      rcases hlt q hqc with g | g
      · exact k4 q hq g hf
      · have := (hno q hq g hf).2
        omega
  · unfold chB at hb
    simp only [Bool.and_eq_true, Bool.or_eq_true, Bool.not_eq_true', decide_eq_true_eq] at hb
    obtain ⟨b1, b2, b3⟩ := hb
    obtain ⟨p, hp, e⟩ := (has_mI _ _).1 b1
    have hpf : fitP load ld dr p = true := by show fitsB p.2 load ld dr = true; rw [hget p hp e]; exact b2
    refine ⟨⟨fun _ => ⟨p, hp, by omega, hpf⟩, fun _ => rfl⟩, fun _ => ⟨rfl, by show (c : Int) < ((c + 1 : Nat) : Int); omega, ⟨p, hp, e, hget p hp e, hpf⟩, fun q hq hqc hf => ?_⟩⟩
    dsimp only
    rcases hlt q hqc with g | g
    · have ha : a.1 = true := h1.2 ⟨q, hq, g, hf⟩
      rcases b3 with b3 | b3
      · rw [ha] at b3; cases b3
      · have := (h2 ha).2.2.2 q hq g hf
        omega
    · have := hget q hq g
      omega
theorem ChI.fold {load ld : Int} {dr : Bool} {to : Int} {l : List (Int × Int)} (hl : KeyOk l) : ∀ (k i : Nat) (a : G5), ChI load ld dr to l i a → ChI load ld dr to l (i + k) (foldF (chF load ld dr to (mI l)) k i a)
  | 0, _, _, h => h
  | k + 1, i, a, h => by
    have := ChI.fold hl k (i + 1) _ (h.step hl)
    rwa [show i + 1 + k = i + (k + 1) by omega] at this
/-- what the best is like -/
theorem chG_ok {me load : Int} {x : Nat → Ent} {l : List (Int × Int)} (hl : KeyOk l) (to : Int) :
    ((chG me load x (mI l) to).1 = true ↔ ∃ p ∈ l, fitP load (ldI x to) (x me.toNat).dr p = true) ∧
    ((chG me load x (mI l) to).1 = true → (chG me load x (mI l) to).2.1 = to ∧ (∃ p ∈ l, p.1 = (chG me load x (mI l) to).2.2.1 ∧ p.2 = (chG me load x (mI l) to).2.2.2 ∧ fitP load (ldI x to) (x me.toNat).dr p = true) ∧
      ∀ q ∈ l, fitP load (ldI x to) (x me.toNat).dr q = true → ¬ (q.2 > (chG me load x (mI l) to).2.2.2 ∨ (q.2 = (chG me load x (mI l) to).2.2.2 ∧ q.1 < (chG me load x (mI l) to).2.2.1))) := by
  have h0 : ChI load (ldI x to) (x me.toNat).dr to l 0 (false, 0, 0, 0) := ⟨⟨fun h => (by cases h), fun ⟨p, hp, h, _⟩ => (by have := (hl.rng p hp).1; omega)⟩, fun h => (by cases h)⟩
  have h := ChI.fold hl 6 0 _ h0
  rw [Nat.zero_add] at h
  obtain ⟨h1, h2⟩ := h
  refine ⟨⟨fun hg => ?_, fun ⟨p, hp, hf⟩ => h1.2 ⟨p, hp, (hl.rng p hp).2, hf⟩⟩, fun hg => ?_⟩
  · obtain ⟨p, hp, _, hf⟩ := h1.1 hg
    exact ⟨p, hp, hf⟩
  · obtain ⟨k1, _, k3, k4⟩ := h2 hg
    exact ⟨k1, k3, fun q hq hf => k4 q hq (hl.rng q hq).2 hf⟩
/-- Choose's answer is that of the first one for whom there is any -/
theorem chX_first {me load : Int} {x : Nat → Ent} {es : List (Value × Value)} {y : Nat → Int} : ∀ (c i j : Nat), (∀ k, i ≤ k → k < i + j → (chG me load x es (y k)).1 = false) → j < c → (chG me load x es (y (i + j))).1 = true → chX me load x es y c i = chG me load x es (y (i + j))
  | 0, _, _, _, h, _ => absurd h (Nat.not_lt_zero _)
  | c + 1, i, 0, h0, h, hg => by
    simp only [chX, Nat.add_zero] at hg ⊢
    rw [hg]
  | c + 1, i, j + 1, h0, h, hg => by
    simp only [chX]
    rw [h0 i (Nat.le_refl i) (by omega)]
    have := chX_first c (i + 1) j (fun k h1 h2 => h0 k (by omega) (by omega)) (by omega) (by rwa [show i + 1 + j = i + (j + 1) by omega])
    rwa [show i + 1 + j = i + (j + 1) by omega] at this
theorem chX_none {me load : Int} {x : Nat → Ent} {es : List (Value × Value)} {y : Nat → Int} : ∀ (c i : Nat), (∀ k, i ≤ k → k < i + c → (chG me load x es (y k)).1 = false) → chX me load x es y c i = (false, 0, 0, 0)
  | 0, _, _ => rfl
  | c + 1, i, h0 => by
    simp only [chX]
    rw [h0 i (Nat.le_refl i) (by omega)]
    exact chX_none c (i + 1) fun k h1 h2 => h0 k (by omega) (by omega)

end Go.Proofs.YtbobakclbdaepaaGreat.En
/- The engine, part 37: 'for k, v := range m', whatever the order. -/
namespace Go.Proofs.YtbobakclbdaepaaGreat.En
open Go
open Go.ChangeMaps (setBlock)
set_option linter.unusedVariables false
set_option linter.unusedSimpArgs false

/-- an iterator, as a word -/
abbrev itV (r : Nat) : SV := .v (.one (.f (.lit (.pointer (some ⟨r, 0, none⟩)))))

theorem lt_of_some {α : Type} {a : Array α} {i : Nat} {x : α} (h : a[i]? = some x) : i < a.size := (Array.getElem?_eq_some_iff.1 h).1

/-- an iterator's block, its map's: nobody else has them -/
structure It (f : Fn) (H : Heap) (w : World) (k r : Nat) (arr : Array MapEntry) (clock since : Nat) (seen : Array Nat) (c0 : Nat) : Prop where
  it : w.heap[r]? = some (.mapIter (some k) since seen c0)
  mp : w.heap[k]? = some (.map arr clock)
  born : BornOk arr since
  sc : since ≤ c0
  sk : since ≤ clock
  free : ∀ b, (H.get b).live → (f b).k ≠ r ∧ (f b).k ≠ k

theorem It.post {f f' : Fn} {nx nx' : Nat} {z z' : Z} {w w' : World} {H H' : Heap} {e : Bool} {k r : Nat} {arr : Array MapEntry} {clock since c0 : Nat} {seen : Array Nat}
    (h : It f H w k r arr clock since seen c0) (hp : Post All f nx z w H f' nx' z' w' H' e) : It f' H' w' k r arr clock since seen c0 := by
  have hr := lt_of_some h.it
  have hk := lt_of_some h.mp
  have nr : ¬ img All f H r := fun ⟨b, _, hl, e⟩ => (h.free b hl).1 e
  have nk : ¬ img All f H k := fun ⟨b, _, hl, e⟩ => (h.free b hl).2 e
  refine ⟨(hp.fr.block r hr nr).trans h.it, (hp.fr.block k hk nk).trans h.mp, h.born, h.sc, h.sk, fun b hl => ?_⟩
  rcases Nat.lt_or_ge b nx with hb | hb
  · rw [hp.ext b hb]; exact h.free b (hp.dead b hb hl)
  · rcases hp.fresh b hb hl with h1 | h1
    · exact ⟨by omega, by omega⟩
    · exact ⟨fun e => nr (e ▸ h1), fun e => nk (e ▸ h1)⟩

/-- a block that nobody has is another one -/
theorem Rel.other {S : Nat → Prop} {f : Fn} {nx : Nat} {z : Z} {w w' : World} {H : Heap} {r : Nat} (h : Rel S f nx z w H) (hs : w'.heap.size = w.heap.size) (hb : ∀ k, k ≠ r → w'.heap[k]? = w.heap[k]?)
    (hf : ∀ b, S b → (H.get b).live → (f b).k ≠ r) (hz : ∀ o v, z r o ≠ some v) : Rel S f nx z w' H := by
  have hc : ∀ k p, k ≠ r → w'.cell? ⟨k, p, none⟩ = w.cell? ⟨k, p, none⟩ := fun k p hk => World.cell?_of_block (w := w) (hb k hk)
  have hfz : ∀ k p, k ≠ r → w'.frozen? ⟨k, p, none⟩ = w.frozen? ⟨k, p, none⟩ := fun k p hk => World.frozen?_of_block (w := w) (hb k hk)
  refine ⟨fun b hS hl => ⟨(h.own b hS hl).1, ?_⟩, h.inj, fun k o v hv => ?_⟩
  · have hk := hf b hS hl
    obtain ⟨_, ok⟩ := h.own b hS hl
    refine ⟨by rw [hs]; exact ok.lt, ok.own, fun p hp => by rw [hc _ _ hk, hfz _ _ hk]; exact ok.room p hp, fun m i j x hx => ?_, fun es he => by rw [hb _ hk]; exact ok.map es he⟩
    obtain ⟨h1, v, h2, h3⟩ := ok.cell m i j x hx
    exact ⟨h1, v, by simp only [ad]; rw [hc _ _ hk]; exact h2, h3⟩
  · have hk : k ≠ r := fun e => hz o v (e ▸ hv)
    rw [hc _ _ hk]; exact h.zok k o v hv

theorem Post.other {f f' : Fn} {nx nx' : Nat} {z z' : Z} {w w' w'' : World} {H H' : Heap} {e : Bool} {r : Nat} (h : Post All f nx z w H f' nx' z' w' H' e) (hr : w.heap.size ≤ r) (hs : w''.heap.size = w'.heap.size)
    (ho : w''.os = w'.os) (ht : w''.tape = w'.tape) (hu : w''.output = w'.output) (hb : ∀ k, k ≠ r → w''.heap[k]? = w'.heap[k]?) (hf : ∀ b, (H'.get b).live → (f' b).k ≠ r) (hz : ∀ o v, z' r o ≠ some v) :
    Post All f nx z w H f' nx' z' w'' H' e :=
  ⟨h.hnx, h.ext, h.zle, h.znew, h.same, h.dead, h.rel.other hs hb (fun b _ hl => hf b hl) hz, h.fresh,
    ⟨by rw [hs]; exact h.fr.size, ho.trans h.fr.os, ht.trans h.fr.tape, hu.trans h.fr.output, fun k hk hn => (hb k (by omega)).trans (h.fr.block k hk hn)⟩, h.noesc⟩

/-- a new block that nobody has -/
theorem Post.alloc0 {f : Fn} {nx : Nat} {z : Z} {w : World} {H : Heap} (hr : Rel All f nx z w H) (o : Obj) : Post All f nx z w H f nx z (w.alloc o) H false := by
  have hfr : Fr (fun _ => False) w (w.alloc o) := ⟨by simp, rfl, rfl, rfl, fun k hk _ => heap_alloc_old w o hk⟩
  refine ⟨Nat.le_refl _, fun _ _ => rfl, fun _ _ _ h => h, fun _ _ _ h => .inl h, fun b _ hs => absurd trivial hs, fun _ _ h => h, ⟨fun b _ hl => ?_, fun b c _ _ => hr.inj b c trivial trivial, fun k o' v hv => ?_⟩, fun b hb hl => absurd hl (hr.noLive b hb),
    ⟨hfr.size, rfl, rfl, rfl, fun k hk _ => hfr.block k hk id⟩, fun _ _ _ h => h⟩
  · obtain ⟨h1, h2⟩ := hr.own b trivial hl
    exact ⟨h1, h2.kept h1 hfr id (fun _ _ => rfl) (Nat.le_refl _) (fun _ _ _ h => h) (fun _ _ _ h => .inl h)⟩
  · have h1 := hr.zok k o' v hv
    rw [World.cell?_alloc_lt _ _ _ (block_lt_of_cell h1)]
    exact h1

theorem cell_mapIter {w : World} {r : Nat} {m : Option Nat} {s c : Nat} {seen : Array Nat} (h : w.heap[r]? = some (.mapIter m s seen c)) (o : Nat) : w.cell? ⟨r, o, none⟩ = none := by
  simp [World.cell?, h]

theorem TR.skip {f : Fn} {nx : Nat} {z : Z} {s : Slots} {a : Array Value} (h : TR f nx z s a) {d : Nat} (hd : s.get d = .top) (v : Value) : TR f nx z s (a.setIfInBounds d v) := by
  intro t
  by_cases e : d = t
  · subst e; rw [hd]; trivial
  · have := h t
    simpa [Array.getElem?_setIfInBounds, e] using this

/-- the rest of a round, behind the step and the entry -/
def evRest (G : Ctx) (K F N : Nat) (all l : List Oper) (rest : Code) (kb : Nat) (st : St) : T (Ex × St) :=
  (evOps G (evKnown G (ev G noLive K)) N all l st).bind fun st => (ev G noLive K F N rest st).bind fun x => match x.1 with
    | .exit k => match Nat.beq k kb with | true => .ret (.normal, x.2) | false => .ret (.exit k, x.2)
    | e => .ret (e, x.2)

/-- it, its blocks named anew, from m on -/
def evRR (G : Ctx) (K F N : Nat) (all l : List Oper) (rest : Code) (kb m : Nat) (live : List Nat) (st : St) : T (Ex × St) :=
  (evRest G K F N all l rest kb st).bind fun x => match canonSt m live x.2 with
    | some s => .ret (x.1, s)
    | none => .bad

section
variable {P : Program} {G : Ctx} (hG : CtxOk P G) (hK : KnownOk P G)
include hG hK

theorem evRest_ok {K F N : Nat} {o4 : Oper} {ops2 : Array Oper} {l : List Oper} {rest : Code} {kb : Nat} {st s : St} {e : Ex} (hops : ops2.toList = o4 :: l) (h : (evRest G K F N ops2.toList l rest kb st).res = some (e, s)) :
    (s.esc = false → st.esc = false) ∧ ∀ (f : Fn) (z : Z) (w : World) (a : Act), TR f st.nx z st.sl a.tmps → Rel All f st.nx z w st.H → a.tmps.size = N → a.defers = [] → ∀ (Q : Exit → Act → World → Prop),
      (∀ f' z' w' a', Post All f st.nx z w st.H f' s.nx z' w' s.H s.esc → TR f' s.nx z' s.sl a'.tmps → a'.tmps.size = N → a'.defers = [] → Q (exitOf e) a' w') →
      wpOps P ops2 (Exit.then (rest.wp P (Exit.inBlock kb Q)) (Exit.inBlock kb Q)) (List.range' 1 l.length) a w := by
  unfold evRest at h
  obtain ⟨st1, h1, h⟩ := T.bind_some h
  obtain ⟨⟨e1, st2⟩, h2, h⟩ := T.bind_some h
  have hC : CallOk P (evKnown G (ev G noLive K)) := evKnown_ok hG hK.sum (ev_ok hG hK K)
  have hl : ∀ i, l[i]? = ops2.toList[1 + i]? := fun i => by
    rw [hops, Nat.add_comm 1 i, List.getElem?_cons_succ]
  have hrest := ev_ok hG hK K F N rest st1 e1 st2 h2
  have hs : s = st2 ∧ ∀ Q : Exit → Act → World → Prop, ∀ a w, Q (exitOf e) a w → Exit.inBlock kb Q (exitOf e1) a w := by
    cases e1 with
    | normal =>
      have := T.ret_some h
      simp only [Prod.mk.injEq] at this
      obtain ⟨rfl, rfl⟩ := this
      exact ⟨rfl, fun Q a w h => h⟩
    | ret =>
      have := T.ret_some h
      simp only [Prod.mk.injEq] at this
      obtain ⟨rfl, rfl⟩ := this
      exact ⟨rfl, fun Q a w h => h⟩
    | exit k =>
      simp only at h
      split at h
      · rename_i hk
        have hk := nbeq hk
        have := T.ret_some h
        simp only [Prod.mk.injEq] at this
        obtain ⟨rfl, rfl⟩ := this
        exact ⟨rfl, fun Q a w h => by simp only [exitOf, Exit.inBlock, hk, if_true]; exact h⟩
      · rename_i hk
        have hk : k ≠ kb := fun e => by rw [e, Nat.beq_refl] at hk; cases hk
        have := T.ret_some h
        simp only [Prod.mk.injEq] at this
        obtain ⟨rfl, rfl⟩ := this
        exact ⟨rfl, fun Q a w h => by simp only [exitOf, Exit.inBlock, hk, if_false]; exact h⟩
  obtain ⟨rfl, hq⟩ := hs
  refine ⟨fun he => (evOps_seq (Q := fun _ _ _ => True) hG hC l 1 st st1 hl h1).1 (hrest.1 he), fun f z w a ht hr hN hd Q hQ => ?_⟩
  obtain ⟨_, i2⟩ := evOps_seq (Q := Exit.then (rest.wp P (Exit.inBlock kb Q)) (Exit.inBlock kb Q)) hG hC l 1 st st1 hl h1
  refine i2 f z w a ht hr hN fun f1 z1 w1 a1 hp ht1 hN1 hd1 => ?_
  show rest.wp P (Exit.inBlock kb Q) a1 w1
  refine hrest.2 f1 z1 w1 a1 ht1 hp.all hN1 (hd1.trans hd) _ fun f2 z2 w2 a2 hp2 ht2 hN2 hd2 => hq Q a2 w2 (hQ f2 z2 w2 a2 ((Post.trans hp hp2).weak fun he => ?_) ht2 hN2 hd2)
  rw [Bool.or_eq_false_iff]
  exact ⟨hrest.1 he, he⟩

omit hG hK in
theorem evRR_some {K F N : Nat} {all l : List Oper} {rest : Code} {kb m : Nat} {live : List Nat} {st s : St} {e : Ex} (h : (evRR G K F N all l rest kb m live st).res = some (e, s)) :
    ∃ st1, (evRest G K F N all l rest kb st).res = some (e, st1) ∧ StLe m st1 s := by
  unfold evRR at h
  obtain ⟨⟨e1, st1⟩, h1, h2⟩ := T.bind_some h
  simp only at h2
  split at h2
  · rename_i s1 hs
    have := T.ret_some h2
    simp only [Prod.mk.injEq] at this
    obtain ⟨rfl, rfl⟩ := this
    exact ⟨st1, h1, canonSt_ok hs⟩
  · exact (T.bad_some h2).elim

end

def kvE (e : MapEntry) : Value × Value := (e.key, e.val)
def leftL (arr : Array MapEntry) (seen : Array Nat) : List MapEntry := arr.toList.filter fun e => !seen.contains e.born

theorem left_push {arr : Array MapEntry} {since : Nat} {seen : Array Nat} (h : BornOk arr since) {e : MapEntry} (he : e ∈ leftL arr seen) : ∃ l1 l2, leftL arr seen = l1 ++ e :: l2 ∧ leftL arr (seen.push e.born) = l1 ++ l2 := by
  obtain ⟨l1, l2, hl⟩ := List.append_of_mem he
  refine ⟨l1, l2, hl, ?_⟩
  have hn : (leftL arr seen).Pairwise fun x y => x.born ≠ y.born := by
    have := h.2
    rw [List.Nodup, List.pairwise_map] at this
    exact this.filter _
  have e1 : leftL arr (seen.push e.born) = (leftL arr seen).filter fun x => !(x.born == e.born) := by
    unfold leftL
    rw [List.filter_filter]
    refine List.filter_congr fun x _ => ?_
    rw [Bool.eq_iff_iff]
    simp only [Bool.not_eq_true', Bool.and_eq_true, Array.contains_push, Bool.or_eq_false_iff]
    constructor
    · rintro h; exact ⟨by simpa using h.2, by simpa using h.1⟩
    · rintro h; exact ⟨by simpa using h.2, by simpa using h.1⟩
  rw [e1, hl]
  rw [hl] at hn
  obtain ⟨_, h2, h3⟩ := List.pairwise_append.1 hn
  obtain ⟨h4, _⟩ := List.pairwise_cons.1 h2
  rw [List.filter_append, List.filter_cons]
  rw [if_neg (by simp), List.filter_eq_self.2, List.filter_eq_self.2]
  · intro x hx
    simpa using (h4 x hx).symm
  · intro x hx
    simpa using h3 x hx e (List.mem_cons_self ..)

end Go.Proofs.YtbobakclbdaepaaGreat.En
