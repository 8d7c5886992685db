/- Texts put together: RM, RN, RO, RP. -/
import Derived.Test.YtggneleipimijaaG11
/- Targets: Next answers a row of its own; rows of none, one, two are put in order. -/
namespace Go.Proofs.Ytggneleipimijaa.En
open Go
set_option linter.unusedVariables false
set_option linter.unusedSimpArgs false
set_option maxRecDepth 20000
set_option maxHeartbeats 1000000
/-- Next's answer, as a row of one's own -/
noncomputable def nxO (me : Int) (x : Nat → Int) (n : Nat) : T CallOut :=
  .br (Nat.beq (nxD me x n) 0) (.ret ⟨.v (.one Nil), [], 0, false, []⟩)
   (.br (decide (max (nxB me x n) (nxA me x n) = min (nxB me x n) (nxA me x n))) (.ret ⟨.v (.one (.sl false 3 0 0 0 1 1 true 1)), [(3, .cells [I (min (nxB me x n) (nxA me x n)), I 0])], 4, false, []⟩)
    (.ret ⟨.v (.one (.sl false 3 0 0 0 2 2 true 1)), [(3, .cells [I (min (nxB me x n) (nxA me x n)), I (max (nxB me x n) (nxA me x n))])], 4, false, []⟩))
theorem nxR_to (me : Int) (nl : Bool) (n : Nat) (x : Nat → Int) (h : (nl = true → n = 0) ∧ n ≤ 1048576) : CallTo Try.prog 14 [AI me, .one (.f (.fs nl 1 n (intE x)))] [] 0 (nxR me x n) := by
  rcases Nat.eq_zero_or_pos n with rfl | hp
  · exact evCallW_ok GORD1 GKRD1 (res_Nx0 me nl x)
  · have : nl = false := by
      cases nl
      · rfl
      · have := h.1 rfl; omega
    subst this
    exact evCallW_ok GORD2 GKRD2 (res_Nx me n x ⟨hp, h.2⟩)
theorem nxO_to {me : Int} {nl : Bool} {n : Nat} {x : Nat → Int} {r : CallOut} (h : (nl = true → n = 0) ∧ n ≤ 1048576) (hr : (nxO me x n).res = some r) : CallTo Try.prog 14 [AI me, .one (.f (.fs nl 1 n (intE x)))] [] 0 r := by
  have h1 := nxR_to me nl n x h
  unfold nxO at hr
  unfold nxR at h1
  rcases T.br_some hr with ⟨hc, hr⟩ | ⟨hc, hr⟩
  · have hc := Nat.eq_of_beq_eq_true hc
    have := T.ret_some hr
    subst this
    rw [if_pos hc] at h1
    exact h1
  · have hc : nxD me x n ≠ 0 := fun e => by rw [e] at hc; exact absurd hc (by decide)
    rw [if_neg hc] at h1
    rcases T.br_some hr with ⟨hd, hr⟩ | ⟨hd, hr⟩
    · have := T.ret_some hr
      subst this
      rw [if_pos (of_decide_eq_true hd)] at h1
      exact h1.le (StLe.sift (Nat.zero_le _) (fun b => Nat.beq b 3))
    · have := T.ret_some hr
      subst this
      rw [if_neg (of_decide_eq_false hd)] at h1
      exact h1.le (StLe.sift (Nat.zero_le _) (fun b => Nat.beq b 3))
noncomputable def F_NxO : SumF
  | [.one (.f (.lit (.int .i64 me))), .one (.f (.fs nl 1 n e))], [], 0 => .need (pb (IntE e ∧ (nl = true → n = 0) ∧ n ≤ 1048576)) (nxO me (intOf e) n)
  | _, _, _ => .bad
theorem sum_NxO : SumOk Try.prog 14 F_NxO := by
  refine ⟨fun args H nx r hr => ?_, fun args H nx => ?_⟩
  · unfold F_NxO at hr
    split at hr
    · obtain ⟨h0, hr⟩ := T.need_some hr
      obtain ⟨⟨x, rfl⟩, h1⟩ := pb_of h0
      exact nxO_to h1 hr
    · exact (T.bad_some hr).elim
  · unfold F_NxO
    split
    · refine T.Every.need ?_
      unfold nxO
      have k : ∀ r : CallOut, 0 ≤ r.nx ∧ ∀ b, b < 0 → b ∉ r.wr → r.H.get b = Heap.get [] b := fun r => ⟨Nat.zero_le _, fun b hb hw => absurd hb (Nat.not_lt_zero b)⟩
      exact ⟨k _, k _, k _⟩
    · trivial

noncomputable def sm_NxO : SumF := orSum (canonSum F_NxO) (frzSum (canonSum F_NxO))
theorem sm_NxO_ok : SumOk Try.prog 14 sm_NxO := orSum_ok (canonSum_ok sum_NxO) (frzSum_ok (canonSum_ok sum_NxO))
noncomputable def ss_NxO : List (Nat × SumF) := (14, sm_NxO) :: ss_SS
theorem ss_NxO_ok : ∀ x ∈ ss_NxO, SumOk Try.prog x.1 x.2 := List.forall_mem_cons.2 ⟨sm_NxO_ok, ss_SS_ok⟩
noncomputable def GRM1 : Ctx := GS.with ss_Tg1 ll_tb
noncomputable def tgt_SS0 (nl : Bool) (n : Nat) (x : Nat → Ent) (cap N : Nat) (ex : Bool) (y : Nat → Int) : T CallOut := evCallW [] GRM1 300 32 [.one (.sl true 0 1 0 0 0 cap ex 1), .one (.fn 33 [(1, 0, 0, 0)])] [(0, .arr false 1 N (intE y)), (1, .cells [.f (.fs nl 5 n (entE x))])] 2
noncomputable def tgt_SSn (nl : Bool) (n : Nat) (x : Nat → Ent) : T CallOut := evCallW [] GRM1 300 32 [.one (.f (.fs true 1 0 fun _ => [])), .one (.fn 33 [(0, 0, 0, 0)])] [(0, .cells [.f (.fs nl 5 n (entE x))])] 1
noncomputable def tgt_SS1 (nl : Bool) (n : Nat) (x : Nat → Ent) (a b : Int) : T CallOut := evCallW [] GRM1 300 32 [.one (.sl false 0 0 0 0 1 1 true 1), .one (.fn 33 [(1, 0, 0, 0)])] [(0, .cells [I a, I b]), (1, .cells [.f (.fs nl 5 n (entE x))])] 2
noncomputable def tgt_SS2 (nl : Bool) (n : Nat) (x : Nat → Ent) (a b : Int) : T CallOut := evCallW [] GRM1 300 32 [.one (.sl false 0 0 0 0 2 2 true 1), .one (.fn 33 [(1, 0, 0, 0)])] [(0, .cells [I a, I b]), (1, .cells [.f (.fs nl 5 n (entE x))])] 2
theorem GKRM1 : KnownOk Try.prog GRM1 := KnownOk.lists ss_Tg1_ok ll_tb_ok
theorem GORM1 : CtxOk Try.prog GRM1 := GS_ok.with _ _
theorem tree_SS0 (nl : Bool) (n : Nat) (x : Nat → Ent) (cap N : Nat) (ex : Bool) (y : Nat → Int) : (tgt_SS0 nl n x cap N ex y).over (.ff (.ff (.ff .leaf))) = T.ret ⟨SV.tup [], [(0, Ob.arr false 1 N fun a => [FV.lit (.int .i64 (y a))]), (1, Ob.cells [CV.f (FV.fs nl 5 n fun a => [FV.lit (.int .i64 (Ent.inc (x a))), FV.lit (.int .i64 (Ent.st (x a))), FV.lit (.int .i64 (Ent.stamp (x a))), FV.lit (.int .i64 (Ent.load (x a))), FV.lit (Value.bool (Ent.dr (x a)))])])], 2, false, []⟩ := by kernel_rfl
theorem tree_SSn (nl : Bool) (n : Nat) (x : Nat → Ent) : (tgt_SSn nl n x).over (.ff (.ff (.ff .leaf))) = T.ret ⟨SV.tup [], [(0, Ob.cells [CV.f (FV.fs nl 5 n fun a => [FV.lit (.int .i64 (Ent.inc (x a))), FV.lit (.int .i64 (Ent.st (x a))), FV.lit (.int .i64 (Ent.stamp (x a))), FV.lit (.int .i64 (Ent.load (x a))), FV.lit (Value.bool (Ent.dr (x a)))])])], 1, false, []⟩ := by kernel_rfl
theorem tree_SS1 (nl : Bool) (n : Nat) (x : Nat → Ent) (a b : Int) : (tgt_SS1 nl n x a b).over (.ff (.ff (.ff .leaf))) = T.ret ⟨SV.tup [], [(0, Ob.cells [I a, I b]), (1, Ob.cells [CV.f (FV.fs nl 5 n fun a => [FV.lit (.int .i64 (Ent.inc (x a))), FV.lit (.int .i64 (Ent.st (x a))), FV.lit (.int .i64 (Ent.stamp (x a))), FV.lit (.int .i64 (Ent.load (x a))), FV.lit (Value.bool (Ent.dr (x a)))])])], 2, false, []⟩ := by kernel_rfl
theorem tree_SS2 (nl : Bool) (n : Nat) (x : Nat → Ent) (a b : Int) : (tgt_SS2 nl n x a b).over (.ff (.tt (.tt (.tt (.tt (.tt (.tt (.tt (.ff (.tt (.tt (.tt (.tt (.tt (.tt (.tt (.tt (.tt (.tt (.tt (.br (.tt (.tt (.br (.tt (.tt (.tt (.tt (.tt (.ff (.tt (.tt (.tt (.ff (.tt (.tt (.tt (.tt (.ff (.ff (.ff (.ff (.ff (.ff (.ff (.ff (.ff (.ff (.ff (.ff (.ff (.ff (.ff (.ff .leaf)))))))))))))))))))))))))))))) (.ff (.ff .leaf))))) .skip))))))))))))))))))))) = T.br (pb (EntE (entE x) ∧ ((0 : Int) ≤ b ∧ b < (↑n : Int)) ∧ ((0 : Int) ≤ a ∧ a < (↑n : Int)) ∧ nl = false)) (T.br (decide (cmpI (ldI x b) (ldI x a) < (0 : Int))) (T.ret ⟨SV.tup [], [(1, Ob.cells [CV.f (FV.fs nl 5 n fun a => [FV.lit (.int .i64 (Ent.inc (x a))), FV.lit (.int .i64 (Ent.st (x a))), FV.lit (.int .i64 (Ent.stamp (x a))), FV.lit (.int .i64 (Ent.load (x a))), FV.lit (Value.bool (Ent.dr (x a)))])]), (0, Ob.cells [I b, I a])], 2, false, []⟩) (T.ret ⟨SV.tup [], [(1, Ob.cells [CV.f (FV.fs nl 5 n fun a => [FV.lit (.int .i64 (Ent.inc (x a))), FV.lit (.int .i64 (Ent.st (x a))), FV.lit (.int .i64 (Ent.stamp (x a))), FV.lit (.int .i64 (Ent.load (x a))), FV.lit (Value.bool (Ent.dr (x a)))])]), (0, Ob.cells [I a, I b])], 2, false, []⟩)) T.bad := by kernel_rfl
def ordA (x : Nat → Ent) (a b : Int) : Int := match lessI x b a with | true => b | false => a
def ordB (x : Nat → Ent) (a b : Int) : Int := match lessI x b a with | true => a | false => b
theorem to_SS1 (nl : Bool) (n : Nat) (x : Nat → Ent) (a b : Int) : CallTo Try.prog 32 [.one (.sl false 0 0 0 0 1 1 true 1), .one (.fn 33 [(1, 0, 0, 0)])] [(0, .cells [I a, I b]), (1, .cells [.f (.fs nl 5 n (entE x))])] 2 ⟨.tup [], [(0, .cells [I a, I b]), (1, .cells [.f (.fs nl 5 n (entE x))])], 2, false, [0]⟩ := by
  have h : (tgt_SS1 nl n x a b).res = some ⟨.tup [], [(0, .cells [I a, I b]), (1, .cells [.f (.fs nl 5 n (entE x))])], 2, false, []⟩ := T.over_eq _ (tree_SS1 nl n x a b) rfl
  have h9 := evCallW_ok GORM1 GKRM1 h
  exact h9
theorem to_SSn (nl : Bool) (n : Nat) (x : Nat → Ent) : CallTo Try.prog 32 [.one (.f (.fs true 1 0 fun _ => [])), .one (.fn 33 [(0, 0, 0, 0)])] [(0, .cells [.f (.fs nl 5 n (entE x))])] 1 ⟨.tup [], [(0, .cells [.f (.fs nl 5 n (entE x))])], 1, false, []⟩ := by
  have h : (tgt_SSn nl n x).res = some ⟨.tup [], [(0, .cells [.f (.fs nl 5 n (entE x))])], 1, false, []⟩ := T.over_eq _ (tree_SSn nl n x) rfl
  have h9 := evCallW_ok GORM1 GKRM1 h
  exact h9
theorem to_SSn1 (nl : Bool) (n : Nat) (x : Nat → Ent) : CallTo Try.prog 32 [.one Nil, .one (.fn 33 [(0, 0, 0, 0)])] [(0, .cells [.f (.fs nl 5 n (entE x))])] 1 ⟨.tup [], [(0, .cells [.f (.fs nl 5 n (entE x))])], 1, false, []⟩ :=
  (to_SSn nl n x).args (.cons (CV.le.f FV.le_nil) (.refl _))
theorem to_SS2 (nl : Bool) (n : Nat) (x : Nat → Ent) (a b : Int) (h : ((0 : Int) ≤ a ∧ a < (n : Int)) ∧ ((0 : Int) ≤ b ∧ b < (n : Int)) ∧ nl = false) : CallTo Try.prog 32 [.one (.sl false 0 0 0 0 2 2 true 1), .one (.fn 33 [(1, 0, 0, 0)])] [(0, .cells [I a, I b]), (1, .cells [.f (.fs nl 5 n (entE x))])] 2 ⟨.tup [], [(0, .cells [I (ordA x a b), I (ordB x a b)]), (1, .cells [.f (.fs nl 5 n (entE x))])], 2, false, [0]⟩ := by
  obtain ⟨h1, h2, rfl⟩ := h
  have bb : ∀ (p q : Ob) (b : Nat), Heap.get [(1, p), (0, q)] b = Heap.get [(0, q), (1, p)] b := fun p q b => by rcases b with _ | _ | b <;> rfl
  cases hq : lessI x b a with
  | true =>
    have hq' := hq
    unfold lessI at hq'
    have h : (tgt_SS2 false n x a b).res = some ⟨.tup [], [(1, .cells [.f (.fs false 5 n (entE x))]), (0, .cells [I b, I a])], 2, false, []⟩ := T.over_eq _ (tree_SS2 false n x a b) (by
      simp only [T.res_br, T.res_ret, T.res_bad, EntE_ok, h1, h2, eq_self, and_self, pb_tt, hq', reduceIte])
    simp only [ordA, ordB, hq]
    have h9 := (evCallW_ok GORM1 GKRM1 h).less (r' := ⟨.tup [], [(0, .cells [I b, I a]), (1, .cells [.f (.fs false 5 n (entE x))])], 2, false, []⟩) (Nat.le_refl 2) (.inr (.inl rfl)) (fun c => .inl (bb _ _ c)) rfl rfl
    exact h9
  | false =>
    have hq' := hq
    unfold lessI at hq'
    have h : (tgt_SS2 false n x a b).res = some ⟨.tup [], [(1, .cells [.f (.fs false 5 n (entE x))]), (0, .cells [I a, I b])], 2, false, []⟩ := T.over_eq _ (tree_SS2 false n x a b) (by
      simp only [T.res_br, T.res_ret, T.res_bad, EntE_ok, h1, h2, eq_self, and_self, pb_tt, hq', Bool.false_eq_true, reduceIte])
    simp only [ordA, ordB, hq]
    have h9 := (evCallW_ok GORM1 GKRM1 h).less (r' := ⟨.tup [], [(0, .cells [I a, I b]), (1, .cells [.f (.fs false 5 n (entE x))])], 2, false, []⟩) (Nat.le_refl 2) (.inr (.inl rfl)) (fun c => .inl (bb _ _ c)) rfl rfl
    exact h9
theorem to_SSG (nl : Bool) (n : Nat) (x : Nat → Ent) (d N cap : Nat) (nl2 lv : Bool) (y : Nat → Int) (h : nl = false ∧ nl2 = Nat.beq d 0 ∧ lv = !(Nat.beq d 0) ∧ d ≤ N ∧ d ≤ cap ∧ d < 20 ∧ InI y d n ∧ (d = 0 → cap = 0)) : CallTo Try.prog 32 [.one (.sl nl2 0 1 0 0 d cap false 1), .one (.fn 33 [(1, 0, 0, 0)])] [(0, .arr lv 1 N (intE y)), (1, .cells [.f (.fs nl 5 n (entE x))])] 2 ⟨.tup [], [(0, .arr lv 1 N (intE (insA x d y))), (1, .cells [.f (.fs nl 5 n (entE x))])], 2, false, [0]⟩ := by
  obtain ⟨rfl, rfl, rfl, h1, h2, h3, h4, h5⟩ := h
  rcases Nat.eq_zero_or_pos d with rfl | hp
  · have h : (tgt_SS0 false n x cap N false y).res = some ⟨.tup [], [(0, .arr false 1 N (intE y)), (1, .cells [.f (.fs false 5 n (entE x))])], 2, false, []⟩ := T.over_eq _ (tree_SS0 false n x cap N false y) rfl
    have h9 := evCallW_ok GORM1 GKRM1 h
    exact h9
  · have e0 : Nat.beq d 0 = false := beq_ff (by omega)
    rw [e0]
    have h9 := evCallW_ok GORL3 GKRL3 (res_SS false n x d N cap y ⟨rfl, hp, h1, h3, h4⟩)
    exact h9

noncomputable def F_SSn : SumF
  | [.one (.f (.lit (.slice none 0 0))), .one (.fn g [(0, 0, 0, 0)])], [(0, .cells [.f (.fs nl 5 n e2)])], 1 => .need (pb (EntE e2 ∧ g = 33)) (.ret (⟨.tup [], [(0, .cells [.f (.fs nl 5 n e2)])], 1, false, []⟩))
  | _, _, _ => .bad
theorem sum_SSn : SumOk Try.prog 32 F_SSn := by
  refine ⟨fun args H nx r hr => ?_, fun args H nx => ?_⟩
  · unfold F_SSn at hr
    split at hr
    · rename_i g nl n e2
      obtain ⟨h0, hr⟩ := T.need_some hr
      have := T.ret_some hr
      subst this
      have h := pb_of h0
      obtain ⟨⟨x, rfl⟩, rfl⟩ := h
      exact to_SSn1 nl n x
    · exact (T.bad_some hr).elim
  · unfold F_SSn
    split
    · exact T.Every.need ⟨by first | exact Nat.le_refl _ | (dsimp only; omega), fun b hb hw => by
        have : b = 0 := by omega
        subst this <;> first | rfl | exact absurd (by dsimp only; decide) hw⟩
    · trivial
noncomputable def sm_SSn : SumF := canonSum F_SSn
theorem sm_SSn_ok : SumOk Try.prog 32 sm_SSn := canonSum_ok sum_SSn
noncomputable def ss_SSn : List (Nat × SumF) := (32, sm_SSn) :: ss_NxO
theorem ss_SSn_ok : ∀ x ∈ ss_SSn, SumOk Try.prog x.1 x.2 := List.forall_mem_cons.2 ⟨sm_SSn_ok, ss_NxO_ok⟩
noncomputable def F_SS1 : SumF
  | [.one (.sl false 0 0 0 0 1 1 true 1), .one (.fn g [(1, 0, 0, 0)])], [(0, .cells [.f (.lit (.int .i64 a)), .f (.lit (.int .i64 b))]), (1, .cells [.f (.fs nl 5 n e2)])], 2 => .need (pb (EntE e2 ∧ g = 33)) (.ret (⟨.tup [], [(0, .cells [I a, I b]), (1, .cells [.f (.fs nl 5 n e2)])], 2, false, [0]⟩))
  | _, _, _ => .bad
theorem sum_SS1 : SumOk Try.prog 32 F_SS1 := by
  refine ⟨fun args H nx r hr => ?_, fun args H nx => ?_⟩
  · unfold F_SS1 at hr
    split at hr
    · rename_i g a b nl n e2
      obtain ⟨h0, hr⟩ := T.need_some hr
      have := T.ret_some hr
      subst this
      have h := pb_of h0
      obtain ⟨⟨x, rfl⟩, rfl⟩ := h
      exact to_SS1 nl n x a b
    · exact (T.bad_some hr).elim
  · unfold F_SS1
    split
    · exact T.Every.need ⟨by first | exact Nat.le_refl _ | (dsimp only; omega), fun b hb hw => by
        have : b = 0 ∨ b = 1 := by omega
        rcases this with rfl | rfl <;> first | rfl | exact absurd (by dsimp only; decide) hw⟩
    · trivial
noncomputable def sm_SS1 : SumF := canonSum F_SS1
theorem sm_SS1_ok : SumOk Try.prog 32 sm_SS1 := canonSum_ok sum_SS1
noncomputable def ss_SS1 : List (Nat × SumF) := (32, sm_SS1) :: ss_SSn
theorem ss_SS1_ok : ∀ x ∈ ss_SS1, SumOk Try.prog x.1 x.2 := List.forall_mem_cons.2 ⟨sm_SS1_ok, ss_SSn_ok⟩
noncomputable def F_SS2 : SumF
  | [.one (.sl false 0 0 0 0 2 2 true 1), .one (.fn g [(1, 0, 0, 0)])], [(0, .cells [.f (.lit (.int .i64 a)), .f (.lit (.int .i64 b))]), (1, .cells [.f (.fs nl 5 n e2)])], 2 => .need (pb (EntE e2 ∧ g = 33 ∧ ((0 : Int) ≤ a ∧ a < (n : Int)) ∧ ((0 : Int) ≤ b ∧ b < (n : Int)) ∧ nl = false)) (.ret (⟨.tup [], [(0, .cells [I (ordA (entOf e2) a b), I (ordB (entOf e2) a b)]), (1, .cells [.f (.fs nl 5 n e2)])], 2, false, [0]⟩))
  | _, _, _ => .bad
theorem sum_SS2 : SumOk Try.prog 32 F_SS2 := by
  refine ⟨fun args H nx r hr => ?_, fun args H nx => ?_⟩
  · unfold F_SS2 at hr
    split at hr
    · rename_i g a b nl n e2
      obtain ⟨h0, hr⟩ := T.need_some hr
      have := T.ret_some hr
      subst this
      have h := pb_of h0
      obtain ⟨⟨x, rfl⟩, rfl, h1⟩ := h
      exact to_SS2 nl n x a b h1
    · exact (T.bad_some hr).elim
  · unfold F_SS2
    split
    · exact T.Every.need ⟨by first | exact Nat.le_refl _ | (dsimp only; omega), fun b hb hw => by
        have : b = 0 ∨ b = 1 := by omega
        rcases this with rfl | rfl <;> first | rfl | exact absurd (by dsimp only; decide) hw⟩
    · trivial
noncomputable def sm_SS2 : SumF := canonSum F_SS2
theorem sm_SS2_ok : SumOk Try.prog 32 sm_SS2 := canonSum_ok sum_SS2
noncomputable def ss_SS2 : List (Nat × SumF) := (32, sm_SS2) :: ss_SS1
theorem ss_SS2_ok : ∀ x ∈ ss_SS2, SumOk Try.prog x.1 x.2 := List.forall_mem_cons.2 ⟨sm_SS2_ok, ss_SS1_ok⟩
noncomputable def F_SSG : SumF
  | [.one (.sl nl2 0 1 0 0 d cap false 1), .one (.fn g [(1, 0, 0, 0)])], [(0, .arr lv 1 N e), (1, .cells [.f (.fs nl 5 n e2)])], 2 => .need (pb (IntE e ∧ EntE e2 ∧ g = 33 ∧ nl = false ∧ nl2 = Nat.beq d 0 ∧ lv = (!(Nat.beq d 0)) ∧ d ≤ N ∧ d ≤ cap ∧ d < 20 ∧ InI (intOf e) d n ∧ (d = 0 → cap = 0))) (.ret (⟨.tup [], [(0, .arr lv 1 N (intE (insA (entOf e2) d (intOf e)))), (1, .cells [.f (.fs nl 5 n e2)])], 2, false, [0]⟩))
  | _, _, _ => .bad
theorem sum_SSG : SumOk Try.prog 32 F_SSG := by
  refine ⟨fun args H nx r hr => ?_, fun args H nx => ?_⟩
  · unfold F_SSG at hr
    split at hr
    · rename_i nl2 d cap g lv N e nl n e2
      obtain ⟨h0, hr⟩ := T.need_some hr
      have := T.ret_some hr
      subst this
      have h := pb_of h0
      obtain ⟨⟨y, rfl⟩, ⟨x, rfl⟩, rfl, h1⟩ := h
      exact to_SSG nl n x d N cap nl2 lv y h1
    · exact (T.bad_some hr).elim
  · unfold F_SSG
    split
    · exact T.Every.need ⟨by first | exact Nat.le_refl _ | (dsimp only; omega), fun b hb hw => by
        have : b = 0 ∨ b = 1 := by omega
        rcases this with rfl | rfl <;> first | rfl | exact absurd (by dsimp only; decide) hw⟩
    · trivial
noncomputable def sm_SSG : SumF := canonSum F_SSG
theorem sm_SSG_ok : SumOk Try.prog 32 sm_SSG := canonSum_ok sum_SSG
noncomputable def ss_SSG : List (Nat × SumF) := (32, sm_SSG) :: ss_SS2
theorem ss_SSG_ok : ∀ x ∈ ss_SSG, SumOk Try.prog x.1 x.2 := List.forall_mem_cons.2 ⟨sm_SSG_ok, ss_SS2_ok⟩
/-- a row, or two cells -/
noncomputable def F_SSA : SumF := fun args H nx => match args with
  | .one (.f _) :: _ => F_SSn args H nx
  | _ => match H with
    | (_, .arr _ _ _ _) :: _ => F_SSG args H nx
    | _ => orSum F_SS1 F_SS2 args H nx
theorem sum_SSA : SumOk Try.prog 32 F_SSA := by
  have h12 := orSum_ok sum_SS1 sum_SS2
  refine ⟨fun args H nx r hr => ?_, fun args H nx => ?_⟩
  · unfold F_SSA at hr
    split at hr
    · exact sum_SSn.1 _ _ _ _ hr
    · split at hr
      · exact sum_SSG.1 _ _ _ _ hr
      · exact h12.1 _ _ _ _ hr
  · unfold F_SSA
    split
    · exact sum_SSn.2 _ _ _
    · split
      · exact sum_SSG.2 _ _ _
      · exact h12.2 _ _ _

noncomputable def sm_SSA : SumF := canonSum F_SSA
theorem sm_SSA_ok : SumOk Try.prog 32 sm_SSA := canonSum_ok sum_SSA
noncomputable def ss_SSA : List (Nat × SumF) := (32, sm_SSA) :: ss_SSG
theorem ss_SSA_ok : ∀ x ∈ ss_SSA, SumOk Try.prog x.1 x.2 := List.forall_mem_cons.2 ⟨sm_SSA_ok, ss_SSG_ok⟩
end Go.Proofs.Ytggneleipimijaa.En
/- Targets is known. -/
namespace Go.Proofs.Ytggneleipimijaa.En
open Go
set_option linter.unusedVariables false
set_option linter.unusedSimpArgs false
set_option maxRecDepth 20000
set_option maxHeartbeats 1000000
/-- who may be given to, in the table's order -/
def tgA (me : Int) (x : Nat → Ent) (n : Nat) : Nat × (Nat → Int) := foldF (tgF me x) n 0 (0, fun _ => 0)

noncomputable def L_tg : LoopF := mkLoopF [0, 3, 5, 16, 17, 18] (loopOf Try.f16 5) Try.f16.ntmps fun sl H nx => match keyed [0, 3, 5, 16, 17, 18] sl, keyed [0] H with
  | some [.v (.one (.f (.lit (.int .i64 me)))), .v (.one (.ptr z1 z2 z3 z4)), .v (.one (.f (.lit (.slice none z5 z6)))), .v (.one (.f (.fs nl k n e))), .v (.one (.f (.lit (.int .i64 m)))), .v (.one (.f (.lit (.int .i64 i))))], some [.cells [.f (.fs nl2 k2 n2 e2)]] => onlyB (Nat.beq nx 1 && (Nat.beq z1 0 && (Nat.beq z2 0 && (Nat.beq z3 0 && (Nat.beq z4 0 && (Nat.beq z5 0 && (Nat.beq z6 0))))))) (onlyB (Nat.beq k 5 && Nat.beq k2 5) (.need (pb (EntE e ∧ nl2 = nl ∧ n2 = n ∧ e2 = e ∧ (nl = true → n = 0) ∧ n ≤ 1048576 ∧ m = n ∧ i = 0)) (.ret (.exit 0, (St.mk [(0, .v (AI me)), (3, .v (AP 0)), (5, .v (.one (.sl (Nat.beq (tgA me (entOf e) n).1 0) 1 1 0 0 (tgA me (entOf e) n).1 (tgA me (entOf e) n).1 false 1)))] [(0, .cells [.f (.fs nl 5 n e)]), (1, .arr (!(Nat.beq (tgA me (entOf e) n).1 0)) 1 (tgA me (entOf e) n).1 (intE (tgA me (entOf e) n).2))] 2 false 0 []).sl, (St.mk [(0, .v (AI me)), (3, .v (AP 0)), (5, .v (.one (.sl (Nat.beq (tgA me (entOf e) n).1 0) 1 1 0 0 (tgA me (entOf e) n).1 (tgA me (entOf e) n).1 false 1)))] [(0, .cells [.f (.fs nl 5 n e)]), (1, .arr (!(Nat.beq (tgA me (entOf e) n).1 0)) 1 (tgA me (entOf e) n).1 (intE (tgA me (entOf e) n).2))] 2 false 0 []).H, 2, false))))
  | _, _ => .bad
theorem L_tg_ok : LoopOk Try.prog L_tg := by
  refine mkLoopF_ok fun sl H nx e sl' H' nx' esc' h => ?_
  split at h
  · rename_i me z1 z2 z3 z4 z5 z6 nl k n e m i nl2 k2 n2 e2 hsl hH
    have hsl := keyed_eq hsl
    have hH := keyed_eq hH
    subst hsl hH
    have h5 := onlyB_some h
    clear h
    obtain ⟨hck, h⟩ := h5
    simp only [Bool.and_eq_true, nbeq_iff] at hck
    obtain ⟨rfl, rfl, rfl, rfl, rfl, rfl, rfl⟩ := hck
    have h5 := onlyB_some h
    clear h
    have hw := h5.1
    have h := h5.2
    clear h5
    obtain ⟨hp, hret⟩ := T.need_some h
    have hp := pb_of hp
    have := T.ret_some hret
    simp only [Prod.mk.injEq] at this
    obtain ⟨rfl, rfl, rfl, rfl, rfl⟩ := this
    clear hret h
    obtain ⟨⟨x, rfl⟩, rfl, rfl, rfl, h1, h2, rfl, rfl⟩ := hp
    obtain ⟨hw1, hw2⟩ := Bool.and_eq_true_iff.1 hw
    obtain rfl := Nat.eq_of_beq_eq_true hw1
    obtain rfl := Nat.eq_of_beq_eq_true hw2
    refine loop_tg nl2 n2 x me h2 h1 0 (0, fun _ => 0) (Nat.zero_le _) (Nat.le_refl 0) (StLe.row (Nat.le_refl 1) (fun t => ?_) (fun b hb => ?_) (fun h => by cases h)) rfl
    · by_cases h5 : 5 = t
      · subst h5
        exact .inr (.inr ⟨rfl, _, _, _, rfl⟩)
      · left
        simp only [S_tg, List.zip_cons_cons, List.zip_nil_right, Slots.get_cons, h5, if_false]
        rfl
    · rcases b with _ | _ | b
      · rfl
      · exact absurd rfl hb
      · rfl
  · exact (T.bad_some h).elim
noncomputable def ll_tg : List (Nat × Nat × LoopF) := (16, 5, L_tg) :: ll_tb
theorem ll_tg_ok : ∀ x ∈ ll_tg, LoopOk Try.prog x.2.2 := List.forall_mem_cons.2 ⟨L_tg_ok, ll_tb_ok⟩
noncomputable def GRN1 : Ctx := GS.with ss_SSA ll_tg
noncomputable def tgt_Tgz (me : Int) (nl : Bool) (n : Nat) (x : Nat → Ent) : T CallOut := evCallZ [] GRN1 300 16 [AI me, .one (.f (.fs nl 5 n (entE x)))] [] 0
theorem GKRN1 : KnownOk Try.prog GRN1 := KnownOk.lists ss_SSA_ok ll_tg_ok
theorem GORN1 : CtxOk Try.prog GRN1 := GS_ok.with _ _
theorem tree_Tgz (me : Int) (nl : Bool) (n : Nat) (x : Nat → Ent) : (tgt_Tgz me nl n x).over (.br (.tt (.tt (.tt (.tt (.tt .leaf))))) (.ff (.ff (.ff (.ff (.br .leaf (.br (.br (.br (.br (.br (.br (.br (.br (.br (.tt (.tt .leaf)) .skip) (.br (.br (.tt (.tt (.ff (.tt .leaf)))) .skip) (.br (.tt (.tt (.ff (.tt .leaf)))) .skip))) .skip) .skip) (.br (.br (.br (.br .leaf (.br (.br .leaf .skip) .skip)) .skip) .skip) .skip)) .skip) .skip) .skip) .skip))))))) = T.br (decide (me < (0 : Int))) (T.ret (out0 (SV.v (AV.one Nil)))) (T.br (decide (me ≥ (↑n : Int))) (T.ret (out0 (SV.v (AV.one Nil)))) (T.br (pb (Code.loop (loopOf Proofs.Try.f16 5) = Code.loop (loopOf Proofs.Try.f16 5) ∧ 55 = 55)) (T.br (pb (EntE (entE x) ∧ nl = nl ∧ n = n ∧ entE x = entE x ∧ (nl = true → n = 0) ∧ n ≤ 1048576 ∧ (↑n : Int) = (↑n : Int) ∧ (0 : Int) = (0 : Int))) (T.br (!nl) (T.br (decide ((0 : Int) ≤ me ∧ me < (↑n : Int))) (T.br (!Ent.dr (x (Int.toNat me))) (T.br (Nat.ble (Prod.fst (tgA me x n)) (Prod.fst (tgA me x n)) && (!Nat.beq (Prod.fst (tgA me x n)) 0 || Nat.beq (Prod.fst (tgA me x n)) 0)) (T.br (pb (IntE (intE (Prod.snd (tgA me x n))) ∧ (Nat.beq (Prod.fst (tgA me x n)) 0 = true → Prod.fst (tgA me x n) = 0) ∧ Prod.fst (tgA me x n) ≤ 1048576)) (T.br (Nat.beq (nxD me (Prod.snd (tgA me x n)) (Prod.fst (tgA me x n))) 0) (T.br (pb (EntE (entE x) ∧ 33 = 33)) (T.ret (out0 (SV.v (AV.one Nil)))) T.bad) (T.br (decide (max (nxB me (Prod.snd (tgA me x n)) (Prod.fst (tgA me x n))) (nxA me (Prod.snd (tgA me x n)) (Prod.fst (tgA me x n))) = min (nxB me (Prod.snd (tgA me x n)) (Prod.fst (tgA me x n))) (nxA me (Prod.snd (tgA me x n)) (Prod.fst (tgA me x n))))) (T.br (pb (EntE (entE x) ∧ 33 = 33)) (T.ret (out0 (SV.v (AV.one (CV.f (FV.fs false 1 1 fun a => [FV.lit (.int .i64 (min (nxB me (Prod.snd (tgA me x n)) (Prod.fst (tgA me x n))) (nxA me (Prod.snd (tgA me x n)) (Prod.fst (tgA me x n)))))])))))) T.bad) (T.br (pb (EntE (entE x) ∧ 33 = 33 ∧ ((0 : Int) ≤ min (nxB me (Prod.snd (tgA me x n)) (Prod.fst (tgA me x n))) (nxA me (Prod.snd (tgA me x n)) (Prod.fst (tgA me x n))) ∧ min (nxB me (Prod.snd (tgA me x n)) (Prod.fst (tgA me x n))) (nxA me (Prod.snd (tgA me x n)) (Prod.fst (tgA me x n))) < (↑n : Int)) ∧ ((0 : Int) ≤ max (nxB me (Prod.snd (tgA me x n)) (Prod.fst (tgA me x n))) (nxA me (Prod.snd (tgA me x n)) (Prod.fst (tgA me x n))) ∧ max (nxB me (Prod.snd (tgA me x n)) (Prod.fst (tgA me x n))) (nxA me (Prod.snd (tgA me x n)) (Prod.fst (tgA me x n))) < (↑n : Int)) ∧ nl = false)) (T.ret (out0 (SV.v (AV.one (CV.f (FV.fs false 1 2 fun a => [FV.lit (.int .i64 (bif Nat.beq a 0 then ordA x (min (nxB me (Prod.snd (tgA me x n)) (Prod.fst (tgA me x n))) (nxA me (Prod.snd (tgA me x n)) (Prod.fst (tgA me x n)))) (max (nxB me (Prod.snd (tgA me x n)) (Prod.fst (tgA me x n))) (nxA me (Prod.snd (tgA me x n)) (Prod.fst (tgA me x n)))) else ordB x (min (nxB me (Prod.snd (tgA me x n)) (Prod.fst (tgA me x n))) (nxA me (Prod.snd (tgA me x n)) (Prod.fst (tgA me x n)))) (max (nxB me (Prod.snd (tgA me x n)) (Prod.fst (tgA me x n))) (nxA me (Prod.snd (tgA me x n)) (Prod.fst (tgA me x n))))))])))))) T.bad))) T.bad) T.bad) (T.br (pb (IntE (intE (Prod.snd (tgA me x n))) ∧ EntE (entE x) ∧ 33 = 33 ∧ nl = false ∧ Nat.beq (Prod.fst (tgA me x n)) 0 = Nat.beq (Prod.fst (tgA me x n)) 0 ∧ (!Nat.beq (Prod.fst (tgA me x n)) 0) = !Nat.beq (Prod.fst (tgA me x n)) 0 ∧ Prod.fst (tgA me x n) ≤ Prod.fst (tgA me x n) ∧ Prod.fst (tgA me x n) ≤ Prod.fst (tgA me x n) ∧ Prod.fst (tgA me x n) < 20 ∧ InI (Prod.snd (tgA me x n)) (Prod.fst (tgA me x n)) n ∧ (Prod.fst (tgA me x n) = 0 → Prod.fst (tgA me x n) = 0))) (T.br (decide ((0 : Int) ≤ (↑(Prod.fst (tgA me x n)) : Int) ∧ (↑(Prod.fst (tgA me x n)) : Int) ≤ (↑(Prod.fst (tgA me x n)) : Int))) (T.br (decide ((0 : Int) ≤ (↑(Prod.fst (tgA me x n)) : Int) ∧ (↑(Prod.fst (tgA me x n)) : Int) ≤ (↑(Prod.fst (tgA me x n)) : Int))) (T.br (Nat.beq (Prod.fst (tgA me x n)) 0) (T.ret (out0 (SV.v (AV.one (CV.f (FV.z0 (Nat.beq (Prod.fst (tgA me x n)) 0))))))) (T.br (!Nat.beq (Prod.fst (tgA me x n)) 0) (T.br (Nat.ble (Prod.fst (tgA me x n) - 0) (Prod.fst (tgA me x n)) && (!Nat.beq (Prod.fst (tgA me x n)) 0 || Nat.beq (Prod.fst (tgA me x n) - 0) 0)) (T.ret (out0 (SV.v (AV.one (CV.f (FV.fs false 1 (Prod.fst (tgA me x n) - 0) fun a => [FV.lit (.int .i64 (insA x (Prod.fst (tgA me x n)) (Prod.snd (tgA me x n)) a))])))))) T.bad) T.bad)) T.bad) T.bad) T.bad)) T.bad) T.bad) T.bad) T.bad)) := by kernel_rfl
theorem tgA_fold (me : Int) (x : Nat → Ent) : ∀ (c i : Nat) (a : Nat × (Nat → Int)), a.1 ≤ i → InI a.2 a.1 i → (foldF (tgF me x) c i a).1 ≤ i + c ∧ InI (foldF (tgF me x) c i a).2 (foldF (tgF me x) c i a).1 (i + c)
  | 0, i, a, h, g => ⟨h, g⟩
  | c + 1, i, a, h, g => by
    have e : i + (c + 1) = i + 1 + c := by omega
    rw [e]
    simp only [foldF]
    have hs : (tgF me x i a).1 ≤ i + 1 ∧ InI (tgF me x i a).2 (tgF me x i a).1 (i + 1) := by
      unfold tgF
      cases tgB me x i
      · refine ⟨Nat.le_succ_of_le h, fun k hk => ?_⟩
        dsimp only at hk ⊢
        have g2 := g k hk
        omega
      · refine ⟨Nat.succ_le_succ h, fun k hk => ?_⟩
        dsimp only at hk ⊢
        rcases Nat.lt_or_ge k a.1 with h2 | h2
        · rw [ble_tt (show k + 1 ≤ a.1 by omega)]
          have g2 := g k h2
          simp only [cond_true]; omega
        · rw [ble_false (show ¬ k + 1 ≤ a.1 by omega)]
          simp only [cond_false]; omega
    exact tgA_fold me x c (i + 1) _ hs.1 hs.2
theorem tgA_ok (me : Int) (x : Nat → Ent) (n : Nat) : (tgA me x n).1 ≤ n ∧ InI (tgA me x n).2 (tgA me x n).1 n := by
  have := tgA_fold me x n 0 (0, fun _ => 0) (Nat.le_refl 0) (fun k hk => absurd hk (Nat.not_lt_zero k))
  rwa [Nat.zero_add] at this
theorem nxB_in {me : Int} {y : Nat → Int} {d n : Nat} (h : InI y d n) (h0 : nxD me y d ≠ 0) : 0 ≤ nxB me y d ∧ nxB me y d < (n : Int) := by
  obtain ⟨⟨j, h1, h2⟩, _⟩ := (nxS_mem me y d (nxB me y d)).1 ⟨nxK me y d % nxD me y d, Nat.mod_lt _ (by omega), rfl⟩
  rw [← h2]; exact h j h1
theorem nxA_in {me : Int} {y : Nat → Int} {d n : Nat} (h : InI y d n) (h0 : nxD me y d ≠ 0) : 0 ≤ nxA me y d ∧ nxA me y d < (n : Int) := by
  obtain ⟨⟨j, h1, h2⟩, _⟩ := (nxS_mem me y d (nxA me y d)).1 ⟨(nxK me y d + nxD me y d - 1) % nxD me y d, Nat.mod_lt _ (by omega), rfl⟩
  rw [← h2]; exact h j h1
/-- whom Targets puts in order -/
def tgR (me : Int) (x : Nat → Ent) (n : Nat) : Nat × (Nat → Int) := match (x me.toNat).dr with | true => tgA me x n | false => (nzL me (tgA me x n).2 (tgA me x n).1, nzE me (tgA me x n).2 (tgA me x n).1)
def tzL (me : Int) (x : Nat → Ent) (n : Nat) : Nat := if 0 ≤ me ∧ me < (n : Int) then (tgR me x n).1 else 0
def tzE (me : Int) (x : Nat → Ent) (n : Nat) : Nat → Int := insA x (tzL me x n) (tgR me x n).2
theorem tz_nil {g : Nat} {args : List AV} {me : Int} {x : Nat → Ent} {n : Nat} (h0 : tzL me x n = 0) (h : CallTo Try.prog g args [] 0 (out0 (.v (.one Nil)))) : CallTo Try.prog g args [] 0 (out0 (.v (.one (.f (.fs (Nat.beq (tzL me x n) 0) 1 (tzL me x n) (intE (tzE me x n))))))) := by
  have e : Nat.beq (tzL me x n) 0 = true := by rw [h0]; rfl
  rw [e]
  refine h.less (Nat.le_refl 0) (.inr (.inr ⟨_, _, rfl, rfl, CV.le.f ?_⟩)) (fun b => .inl rfl) rfl rfl
  rw [h0]; exact FV.le_nil
theorem insA_two (x : Nat → Ent) (y : Nat → Int) : insA x 2 y = match lessI x (y 1) (y 0) with | true => swI y 1 | false => y := rfl
theorem ord_two (x : Nat → Ent) (y : Nat → Int) (i : Nat) (hi : i < 2) : (bif Nat.beq i 0 then ordA x (y 0) (y 1) else ordB x (y 0) (y 1)) = insA x 2 y i := by
  rw [insA_two]
  unfold ordA ordB
  rcases i with _ | _ | i
  · cases lessI x (y 1) (y 0) <;> rfl
  · cases lessI x (y 1) (y 0) <;> rfl
  · omega
theorem to_Tgz (me : Int) (nl : Bool) (n : Nat) (x : Nat → Ent) (h : (nl = true → n = 0) ∧ n < 20) : CallTo Try.prog 16 [AI me, .one (.f (.fs nl 5 n (entE x)))] [] 0 (out0 (.v (.one (.f (.fs (Nat.beq (tzL me x n) 0) 1 (tzL me x n) (intE (tzE me x n))))))) := by
  obtain ⟨hnl, hn⟩ := h
  by_cases h1 : me < 0
  · refine tz_nil (by unfold tzL; rw [if_neg (by omega)]) (evCallZ_ok GORN1 GKRN1 (T.over_eq _ (tree_Tgz me nl n x) ?_))
    simp only [T.res_br, T.res_ret, decide_eq_true h1, reduceIte]
  by_cases h2 : me ≥ (n : Int)
  · refine tz_nil (by unfold tzL; rw [if_neg (by omega)]) (evCallZ_ok GORN1 GKRN1 (T.over_eq _ (tree_Tgz me nl n x) ?_))
    simp only [T.res_br, T.res_ret, decide_eq_false h1, decide_eq_true h2, Bool.false_eq_true, reduceIte]
  obtain rfl : nl = false := by
    cases nl
    · rfl
    · have := hnl rfl; omega
  have h3 : (0 : Int) ≤ me ∧ me < (n : Int) := by omega
  have a1 := (tgA_ok me x n).1
  have a2 := (tgA_ok me x n).2
  have e9 : EntE (entE x) := EntE_ok x
  have i9 : IntE (intE (tgA me x n).2) := IntE_ok _
  have a3 : (tgA me x n).1 ≤ 1048576 := by omega
  have a4 : (tgA me x n).1 < 20 := by omega
  have a5 : n ≤ 1048576 := by omega
  have b1 : (Nat.ble (tgA me x n).1 (tgA me x n).1 && (!Nat.beq (tgA me x n).1 0 || Nat.beq (tgA me x n).1 0)) = true := by rw [ble_tt (Nat.le_refl _), Bool.or_comm, beq_or]; rfl
  have b2 : (Nat.beq (tgA me x n).1 0 = true → (tgA me x n).1 = 0) := Nat.eq_of_beq_eq_true
  have hL : tzL me x n = (tgR me x n).1 := if_pos h3
  have b3 : (Nat.beq (tgA me x n).1 0 = true → (tgA me x n).1 = 0) = True := eq_true b2
  cases hd : (x me.toNat).dr with
  | true =>
    have hR : tgR me x n = tgA me x n := by unfold tgR; rw [hd]
    have hE : tzE me x n = insA x (tgA me x n).1 (tgA me x n).2 := by unfold tzE; rw [hL, hR]
    rw [hR] at hL
    by_cases hz : (tgA me x n).1 = 0
    · have c1 : Nat.beq (tgA me x n).1 0 = true := by rw [hz]; rfl
      have c2 : (0 : Int) ≤ ((tgA me x n).1 : Int) ∧ ((tgA me x n).1 : Int) ≤ ((tgA me x n).1 : Int) := by omega
      have hr : (tgt_Tgz me false n x).res = some (out0 (.v (.one (.f (.z0 true))))) := T.over_eq _ (tree_Tgz me false n x) (by
        simp only [T.res_br, T.res_ret, T.res_bad, decide_eq_false h1, decide_eq_false h2, decide_eq_true h3, hd, a5, a4, a2, e9, i9, c1, decide_eq_true c2, Bool.not_true, Bool.not_false, Bool.false_eq_true, false_implies, eq_self, and_self, true_imp_iff, implies_true, imp_self, Nat.le_refl, pb_tt, reduceIte])
      rw [hL, hz]
      exact (evCallZ_ok GORN1 GKRN1 hr).less (Nat.le_refl 0) (.inr (.inr ⟨_, _, rfl, rfl, CV.le.f FV.le_z0⟩)) (fun b => .inl rfl) rfl rfl
    · have c1 : Nat.beq (tgA me x n).1 0 = false := beq_ff hz
      have c2 : (0 : Int) ≤ ((tgA me x n).1 : Int) ∧ ((tgA me x n).1 : Int) ≤ ((tgA me x n).1 : Int) := by omega
      have hr : (tgt_Tgz me false n x).res = some (out0 (.v (.one (.f (.fs false 1 ((tgA me x n).1 - 0) fun a => [.lit (.int .i64 (insA x (tgA me x n).1 (tgA me x n).2 a))]))))) := T.over_eq _ (tree_Tgz me false n x) (by
        simp only [T.res_br, T.res_ret, T.res_bad, decide_eq_false h1, decide_eq_false h2, decide_eq_true h3, hd, a5, false_implies, a4, a2, e9, i9, c1, decide_eq_true c2, ble_tt (Nat.le_refl (tgA me x n).1), Nat.sub_zero, Bool.not_true, Bool.not_false, Bool.false_eq_true, Bool.true_or, Bool.and_self, eq_self, and_self, true_imp_iff, implies_true, imp_self, Nat.le_refl, pb_tt, reduceIte])
      rw [hL, c1]
      refine (evCallZ_ok GORN1 GKRN1 hr).less (Nat.le_refl 0) (.inr (.inr ⟨_, _, rfl, rfl, CV.le.f ?_⟩)) (fun b => .inl rfl) rfl rfl
      rw [Nat.sub_zero]
      exact FV.le_fs fun i hi => by rw [hE]
  | false =>
    have hR : tgR me x n = (nzL me (tgA me x n).2 (tgA me x n).1, nzE me (tgA me x n).2 (tgA me x n).1) := by unfold tgR; rw [hd]
    have hE : tzE me x n = insA x (nzL me (tgA me x n).2 (tgA me x n).1) (nzE me (tgA me x n).2 (tgA me x n).1) := by unfold tzE; rw [hL, hR]
    rw [hR] at hL
    by_cases hz : nxD me (tgA me x n).2 (tgA me x n).1 = 0
    · have c1 : Nat.beq (nxD me (tgA me x n).2 (tgA me x n).1) 0 = true := by rw [hz]; rfl
      refine tz_nil (by rw [hL]; simp only [nzL, hz, reduceIte]) (evCallZ_ok GORN1 GKRN1 (T.over_eq _ (tree_Tgz me false n x) ?_))
      simp only [T.res_br, T.res_ret, T.res_bad, decide_eq_false h1, decide_eq_false h2, decide_eq_true h3, hd, a5, false_implies, b1, b3, a3, i9, e9, c1, Bool.not_false, Bool.false_eq_true, eq_self, and_self, pb_tt, reduceIte]
    · have c1 : Nat.beq (nxD me (tgA me x n).2 (tgA me x n).1) 0 = false := beq_ff hz
      have c2 := nxB_in (me := me) a2 hz
      have c3 := nxA_in (me := me) a2 hz
      by_cases hm : max (nxB me (tgA me x n).2 (tgA me x n).1) (nxA me (tgA me x n).2 (tgA me x n).1) = min (nxB me (tgA me x n).2 (tgA me x n).1) (nxA me (tgA me x n).2 (tgA me x n).1)
      · have hl : nzL me (tgA me x n).2 (tgA me x n).1 = 1 := by simp only [nzL, hz, hm, reduceIte]
        have hr : (tgt_Tgz me false n x).res = some (out0 (.v (.one (.f (.fs false 1 1 fun a => [.lit (.int .i64 (min (nxB me (tgA me x n).2 (tgA me x n).1) (nxA me (tgA me x n).2 (tgA me x n).1)))]))))) := T.over_eq _ (tree_Tgz me false n x) (by
          simp only [T.res_br, T.res_ret, T.res_bad, decide_eq_false h1, decide_eq_false h2, decide_eq_true h3, hd, a5, false_implies, b1, b3, a3, i9, e9, c1, decide_eq_true hm, Bool.not_false, Bool.false_eq_true, eq_self, and_self, pb_tt, reduceIte])
        rw [hL]
        simp only [hl]
        refine (evCallZ_ok GORN1 GKRN1 hr).less (Nat.le_refl 0) (.inr (.inr ⟨_, _, rfl, rfl, CV.le.f (FV.le_fs fun i hi => ?_)⟩)) (fun b => .inl rfl) rfl rfl
        obtain rfl : i = 0 := Nat.lt_one_iff.1 hi
        simp only [intE, hE, hl]
        rfl
      · have hl : nzL me (tgA me x n).2 (tgA me x n).1 = 2 := by simp only [nzL, hz, hm, reduceIte]
        have c4 : (0 : Int) ≤ min (nxB me (tgA me x n).2 (tgA me x n).1) (nxA me (tgA me x n).2 (tgA me x n).1) ∧ min (nxB me (tgA me x n).2 (tgA me x n).1) (nxA me (tgA me x n).2 (tgA me x n).1) < (n : Int) := by omega
        have c5 : (0 : Int) ≤ max (nxB me (tgA me x n).2 (tgA me x n).1) (nxA me (tgA me x n).2 (tgA me x n).1) ∧ max (nxB me (tgA me x n).2 (tgA me x n).1) (nxA me (tgA me x n).2 (tgA me x n).1) < (n : Int) := by omega
        have hr : (tgt_Tgz me false n x).res = some (out0 (.v (.one (.f (.fs false 1 2 fun a => [.lit (.int .i64 (bif Nat.beq a 0 then ordA x (min (nxB me (tgA me x n).2 (tgA me x n).1) (nxA me (tgA me x n).2 (tgA me x n).1)) (max (nxB me (tgA me x n).2 (tgA me x n).1) (nxA me (tgA me x n).2 (tgA me x n).1)) else ordB x (min (nxB me (tgA me x n).2 (tgA me x n).1) (nxA me (tgA me x n).2 (tgA me x n).1)) (max (nxB me (tgA me x n).2 (tgA me x n).1) (nxA me (tgA me x n).2 (tgA me x n).1))))]))))) := T.over_eq _ (tree_Tgz me false n x) (by
          simp only [T.res_br, T.res_ret, T.res_bad, decide_eq_false h1, decide_eq_false h2, decide_eq_true h3, hd, a5, false_implies, b1, b3, a3, i9, e9, c1, c4, c5, decide_eq_false hm, Bool.not_false, Bool.false_eq_true, eq_self, and_self, pb_tt, reduceIte])
        rw [hL]
        simp only [hl]
        refine (evCallZ_ok GORN1 GKRN1 hr).less (Nat.le_refl 0) (.inr (.inr ⟨_, _, rfl, rfl, CV.le.f (FV.le_fs fun i hi => ?_)⟩)) (fun b => .inl rfl) rfl rfl
        rw [hE, hl]
        exact congrArg (fun v => [FV.lit (.int .i64 v)]) (ord_two x (nzE me (tgA me x n).2 (tgA me x n).1) i hi)

noncomputable def F_Tgz : SumF
  | [.one (.f (.lit (.int .i64 me))), .one (.f (.fs nl 5 n e))], [], 0 => .need (pb (EntE e ∧ (nl = true → n = 0) ∧ n < 20)) (.ret (out0 (.v (.one (.f (.fs (Nat.beq (tzL me (entOf e) n) 0) 1 (tzL me (entOf e) n) (intE (tzE me (entOf e) n))))))))
  | _, _, _ => .bad
theorem sum_Tgz : SumOk Try.prog 16 F_Tgz := by
  refine ⟨fun args H nx r hr => ?_, fun args H nx => ?_⟩
  · unfold F_Tgz at hr
    split at hr
    · rename_i me nl n e
      obtain ⟨h0, hr⟩ := T.need_some hr
      have := T.ret_some hr
      subst this
      have h := pb_of h0
      obtain ⟨⟨x, rfl⟩, h1⟩ := h
      exact to_Tgz me nl n x h1
    · exact (T.bad_some hr).elim
  · unfold F_Tgz
    split
    · exact T.Every.need ⟨Nat.zero_le _, fun b hb hw => absurd hb (Nat.not_lt_zero b)⟩
    · trivial
noncomputable def sm_Tgz : SumF := orSum (nilSum 5 ((entE fun _ => default)) (canonSum F_Tgz)) (lendSum (nilSum 5 ((entE fun _ => default)) (canonSum F_Tgz)))
theorem sm_Tgz_ok : SumOk Try.prog 16 sm_Tgz := orSum_ok (nilSum_ok (canonSum_ok sum_Tgz)) (lendSum_ok (nilSum_ok (canonSum_ok sum_Tgz)))
noncomputable def ss_Tgz : List (Nat × SumF) := (16, sm_Tgz) :: ss_SSA
theorem ss_Tgz_ok : ∀ x ∈ ss_Tgz, SumOk Try.prog x.1 x.2 := List.forall_mem_cons.2 ⟨sm_Tgz_ok, ss_SSA_ok⟩
end Go.Proofs.Ytggneleipimijaa.En
/- The reference: who is free; has; the inner loop. -/
namespace Go.Proofs.Ytggneleipimijaa.En
open Go
set_option linter.unusedVariables false
set_option linter.unusedSimpArgs false
set_option maxRecDepth 20000
set_option maxHeartbeats 1000000
def S_fr (nl : Bool) (n : Nat) (x : Nat → Ent) (me : Int) (i : Nat) (a : Nat × (Nat → Int)) : St :=
  ⟨[(0, .v (AI me)), (1, .v (.one (.f (.fs nl 5 n (entE x))))), (5, .v (.one (.sl (Nat.beq a.1 0) 0 1 0 0 a.1 a.1 false 1))), (6, .v (AI i))], [(0, .arr (!(Nat.beq a.1 0)) 1 a.1 (intE a.2))], 1, false, 0, []⟩
def S_hs (nl : Bool) (n : Nat) (y : Nat → Int) (k : Int) (i : Nat) (a : Unit) : St := ⟨[(0, .v (.one (.f (.fs nl 1 n (intE y))))), (1, .v (AI k)), (5, .v (AI i))], [], 0, false, 0, []⟩
def S_in (nl : Bool) (n : Nat) (x : Nat → Ent) (c N cap : Nat) (k p0 p1 p2 ld : Int) (p4 : Bool) (me : Int) (nn : Bool) (dd : Nat) (w : Nat → Int) (r : Nat) (y : Nat → Int) : St :=
  ⟨[(0, .v (AI me)), (1, .v (.one (.f (.fs nl 5 n (entE x))))), (7, .v (.one (.f (.fs nn 1 dd (intE w))))), (8, .v (.one (.sl false 0 1 0 0 (c + 1) cap false 1))), (9, .v (AI k)), (10, .v (AP 1)), (11, .v (AI (c - r : Nat)))], [(0, .arr true 1 N (intE y)), (1, .cells [I p0, I p1, I p2, I ld, Bo p4])], 2, false, 0, []⟩

noncomputable def GRO1 : Ctx := GS.with ss_Tgz ll_tg
noncomputable def tgt_fr (nl : Bool) (n : Nat) (x : Nat → Ent) (me : Int) (i : Nat) (a : Nat × (Nat → Int)) : T (Ex × St) := evRound GRO1 300 19 Try.f19.ntmps (loopOf Try.f19 5) 0 [0, 1, 5, 6] [0, 1, 5] (S_fr nl n x me i a)
noncomputable def tgt_hs (nl : Bool) (n : Nat) (y : Nat → Int) (k : Int) (i : Nat) (a : Unit) : T (Ex × St) := evRound GRO1 300 36 Try.f36.ntmps (loopOf Try.f36 2) 0 [0, 1, 5] [4] (S_hs nl n y k i a)
noncomputable def tgt_in (nl : Bool) (n : Nat) (x : Nat → Ent) (c N cap : Nat) (k p0 p1 p2 ld : Int) (p4 : Bool) (me : Int) (nn : Bool) (dd : Nat) (w : Nat → Int) (r : Nat) (y : Nat → Int) : T (Ex × St) := evRound GRO1 300 19 Try.f19.ntmps (loopOf Try.f19 18) 2 [0, 1, 7, 8, 9, 10, 11] [0, 1, 7, 8, 9, 10] (S_in nl n x c N cap k p0 p1 p2 ld p4 me nn dd w r y)
theorem GKRO1 : KnownOk Try.prog GRO1 := KnownOk.lists ss_Tgz_ok ll_tg_ok
theorem GORO1 : CtxOk Try.prog GRO1 := GS_ok.with _ _
theorem tree_fr (nl : Bool) (n : Nat) (x : Nat → Ent) (me : Int) (i : Nat) (a : Nat × (Nat → Int)) : (tgt_fr nl n x me i a).over (.br (.br (.br (.br (.tt (.tt (.br (.br (.tt (.tt (.tt (.tt (.br (.tt (.ff (.br (.br .skip .skip) (.br (.br .leaf .skip) .skip)))) .leaf))))) .skip) .skip))) (.ff (.ff (.ff (.ff (.ff (.ff (.ff .leaf)))))))) .skip) .skip) .leaf) = T.br (decide ((↑i : Int) < (↑n : Int))) (T.br (!nl) (T.br (decide ((0 : Int) ≤ (↑i : Int) ∧ (↑i : Int) < (↑n : Int))) (T.br (Ent.st (x i) != (2 : Int)) (T.br (!nl) (T.br (decide ((0 : Int) ≤ (↑i : Int) ∧ (↑i : Int) < (↑n : Int))) (T.br (!Ent.dr (x i)) (T.br (Nat.ble (Prod.fst a + 1) (Prod.fst a)) (T.br (!Nat.beq (Prod.fst a) 0) T.bad T.bad) (T.br (smallB (Prod.fst a + 1) 8) (T.br ((Nat.beq (Prod.fst a) 0 || !Nat.beq (Prod.fst a) 0) && Nat.ble (0 + Prod.fst a) (Prod.fst a)) (T.ret (Ex.normal, ⟨[(0, SV.v (AI me)), (1, SV.v (AV.one (CV.f (FV.fs nl 5 n fun a => [FV.lit (.int .i64 (Ent.inc (x a))), FV.lit (.int .i64 (Ent.st (x a))), FV.lit (.int .i64 (Ent.stamp (x a))), FV.lit (.int .i64 (Ent.load (x a))), FV.lit (Value.bool (Ent.dr (x a)))])))), (5, SV.v (AV.one (CV.sl false 0 1 0 0 (Prod.fst a + 1) (Prod.fst a + 1) false 1))), (6, SV.v (AI (IntKind.wrap IntKind.i64 ((↑i : Int) + (1 : Int)))))], [(0, Ob.arr true 1 (Prod.fst a + 1) fun i_1 => [FV.lit (.int .i64 (bif Nat.ble (i_1 + 1) (Prod.fst a) then Prod.snd a (0 + i_1) else (↑i : Int)))])], 1, false, 0, []⟩)) T.bad) T.bad)) (T.ret (Ex.normal, ⟨[(0, SV.v (AI me)), (1, SV.v (AV.one (CV.f (FV.fs nl 5 n fun a => [FV.lit (.int .i64 (Ent.inc (x a))), FV.lit (.int .i64 (Ent.st (x a))), FV.lit (.int .i64 (Ent.stamp (x a))), FV.lit (.int .i64 (Ent.load (x a))), FV.lit (Value.bool (Ent.dr (x a)))])))), (5, SV.v (AV.one (CV.sl (Nat.beq (Prod.fst a) 0) 0 1 0 0 (Prod.fst a) (Prod.fst a) false 1))), (6, SV.v (AI (IntKind.wrap IntKind.i64 ((↑i : Int) + (1 : Int)))))], [(0, Ob.arr (!Nat.beq (Prod.fst a) 0) 1 (Prod.fst a) fun a_1 => [FV.lit (.int .i64 (Prod.snd a a_1))])], 1, false, 0, []⟩))) T.bad) T.bad) (T.ret (Ex.normal, ⟨[(0, SV.v (AI me)), (1, SV.v (AV.one (CV.f (FV.fs nl 5 n fun a => [FV.lit (.int .i64 (Ent.inc (x a))), FV.lit (.int .i64 (Ent.st (x a))), FV.lit (.int .i64 (Ent.stamp (x a))), FV.lit (.int .i64 (Ent.load (x a))), FV.lit (Value.bool (Ent.dr (x a)))])))), (5, SV.v (AV.one (CV.sl (Nat.beq (Prod.fst a) 0) 0 1 0 0 (Prod.fst a) (Prod.fst a) false 1))), (6, SV.v (AI (IntKind.wrap IntKind.i64 ((↑i : Int) + (1 : Int)))))], [(0, Ob.arr (!Nat.beq (Prod.fst a) 0) 1 (Prod.fst a) fun a_1 => [FV.lit (.int .i64 (Prod.snd a a_1))])], 1, false, 0, []⟩))) T.bad) T.bad) (T.ret (Ex.exit 0, ⟨[(0, SV.v (AI me)), (1, SV.v (AV.one (CV.f (FV.fs nl 5 n fun a => [FV.lit (.int .i64 (Ent.inc (x a))), FV.lit (.int .i64 (Ent.st (x a))), FV.lit (.int .i64 (Ent.stamp (x a))), FV.lit (.int .i64 (Ent.load (x a))), FV.lit (Value.bool (Ent.dr (x a)))])))), (5, SV.v (AV.one (CV.sl (Nat.beq (Prod.fst a) 0) 0 1 0 0 (Prod.fst a) (Prod.fst a) false 1)))], [(0, Ob.arr (!Nat.beq (Prod.fst a) 0) 1 (Prod.fst a) fun a_1 => [FV.lit (.int .i64 (Prod.snd a a_1))])], 1, false, 0, []⟩)) := by kernel_rfl
theorem tree_hs (nl : Bool) (n : Nat) (y : Nat → Int) (k : Int) (i : Nat) (a : Unit) : (tgt_hs nl n y k i a).over (.br (.br (.br (.br .leaf .leaf) .skip) .skip) .leaf) = T.br (decide ((↑i : Int) < (↑n : Int))) (T.br (!nl) (T.br (decide ((0 : Int) ≤ (↑i : Int) ∧ (↑i : Int) < (↑n : Int))) (T.br (y i == k) (T.ret (Ex.ret, ⟨[(4, SV.v (AB true))], [], 0, false, 0, []⟩)) (T.ret (Ex.normal, ⟨[(0, SV.v (AV.one (CV.f (FV.fs nl 1 n fun a => [FV.lit (.int .i64 (y a))])))), (1, SV.v (AI k)), (5, SV.v (AI (IntKind.wrap IntKind.i64 ((↑i : Int) + (1 : Int)))))], [], 0, false, 0, []⟩))) T.bad) T.bad) (T.ret (Ex.exit 0, ⟨[], [], 0, false, 0, []⟩)) := by kernel_rfl
theorem tree_in (nl : Bool) (n : Nat) (x : Nat → Ent) (c N cap : Nat) (k p0 p1 p2 ld : Int) (p4 : Bool) (me : Int) (nn : Bool) (dd : Nat) (w : Nat → Int) (r : Nat) (y : Nat → Int) : (tgt_in nl n x c N cap k p0 p1 p2 ld p4 me nn dd w r y).over (.br (.br (.br (.br (.br (.tt (.br (.br (.tt (.br (.br (.br (.br (.br (.br (.br (.br (.br (.br (.br (.tt (.br (.tt (.br (.tt (.br (.tt (.br (.tt (.br (.tt (.br .leaf .skip)) .skip)) .skip)) .skip)) .skip)) .skip)) .leaf) .skip) .skip) .skip) .skip) .skip) .skip) .skip) .skip) .skip) .skip)) .skip) .skip)) .skip) .skip) .skip) .skip) (.br .skip (.br .skip (.br .skip (.br .skip (.br .skip (.br .skip (.br .skip (.br .skip (.br .skip (.br .skip (.br .skip (.br .skip (.ff .leaf)))))))))))))) = T.br (decide ((↑(c - r) : Int) > (0 : Int))) (T.br (decide ((↑(c - r) : Int) > (0 : Int))) (T.br (decide ((↑(c - r) : Int) > (0 : Int))) (T.br (decide ((↑(c - r) : Int) > (0 : Int))) (T.br (decide ((↑(c - r) : Int) > (0 : Int))) (T.br (decide ((0 : Int) ≤ IntKind.wrap IntKind.i64 ((↑(c - r) : Int) - (1 : Int)) ∧ IntKind.wrap IntKind.i64 ((↑(c - r) : Int) - (1 : Int)) < (↑(c + 1) : Int))) (T.br (decide ((↑(c - r) : Int) > (0 : Int))) (T.br (Nat.ble (0 + Int.toNat (IntKind.wrap IntKind.i64 ((↑(c - r) : Int) - (1 : Int))) + 1) N) (T.br (decide ((↑(c - r) : Int) > (0 : Int))) (T.br (!nl) (T.br (decide ((0 : Int) ≤ y (0 + Int.toNat (IntKind.wrap IntKind.i64 ((↑(c - r) : Int) - (1 : Int)))) ∧ y (0 + Int.toNat (IntKind.wrap IntKind.i64 ((↑(c - r) : Int) - (1 : Int)))) < (↑n : Int))) (T.br (decide ((↑(c - r) : Int) > (0 : Int))) (T.br (decide ((↑(c - r) : Int) > (0 : Int))) (T.br (decide ((↑(c - r) : Int) > (0 : Int))) (T.br (decide ((↑(c - r) : Int) > (0 : Int))) (T.br (decide ((↑(c - r) : Int) > (0 : Int))) (T.br (decide ((↑(c - r) : Int) > (0 : Int))) (T.br (decide (Ent.load (x (Int.toNat (y (0 + Int.toNat (IntKind.wrap IntKind.i64 ((↑(c - r) : Int) - (1 : Int))))))) > ld)) (T.br (decide ((0 : Int) ≤ IntKind.wrap IntKind.i64 ((↑(c - r) : Int) - (1 : Int)) ∧ IntKind.wrap IntKind.i64 ((↑(c - r) : Int) - (1 : Int)) < (↑(c + 1) : Int))) (T.br (Nat.ble (0 + Int.toNat (IntKind.wrap IntKind.i64 ((↑(c - r) : Int) - (1 : Int))) + 1) N) (T.br (decide ((0 : Int) ≤ (↑(c - r) : Int) ∧ (↑(c - r) : Int) < (↑(c + 1) : Int))) (T.br (Nat.ble (0 + (c - r) + 1) N) (T.br (decide ((0 : Int) ≤ IntKind.wrap IntKind.i64 ((↑(c - r) : Int) - (1 : Int)) ∧ IntKind.wrap IntKind.i64 ((↑(c - r) : Int) - (1 : Int)) < (↑(c + 1) : Int))) (T.br (Nat.ble (0 + Int.toNat (IntKind.wrap IntKind.i64 ((↑(c - r) : Int) - (1 : Int))) + 1) N) (T.ret (Ex.normal, ⟨[(0, SV.v (AI me)), (1, SV.v (AV.one (CV.f (FV.fs nl 5 n fun a => [FV.lit (.int .i64 (Ent.inc (x a))), FV.lit (.int .i64 (Ent.st (x a))), FV.lit (.int .i64 (Ent.stamp (x a))), FV.lit (.int .i64 (Ent.load (x a))), FV.lit (Value.bool (Ent.dr (x a)))])))), (7, SV.v (AV.one (CV.f (FV.fs nn 1 dd fun a => [FV.lit (.int .i64 (w a))])))), (8, SV.v (AV.one (CV.sl false 0 1 0 0 (c + 1) cap false 1))), (9, SV.v (AI k)), (10, SV.v (AP 1)), (11, SV.v (AI (IntKind.wrap IntKind.i64 ((↑(c - r) : Int) - (1 : Int)))))], [(0, Ob.arr true 1 N fun i' => [FV.lit (.int .i64 (bif Nat.beq i' (0 + Int.toNat (IntKind.wrap IntKind.i64 ((↑(c - r) : Int) - (1 : Int)))) then k else bif Nat.beq i' (0 + (c - r)) then y (0 + Int.toNat (IntKind.wrap IntKind.i64 ((↑(c - r) : Int) - (1 : Int)))) else y i'))]), (1, Ob.cells [I p0, I p1, I p2, I ld, Bo p4])], 2, false, 0, []⟩)) T.bad) T.bad) T.bad) T.bad) T.bad) T.bad) (T.ret (Ex.exit 4, ⟨[(0, SV.v (AI me)), (1, SV.v (AV.one (CV.f (FV.fs nl 5 n fun a => [FV.lit (.int .i64 (Ent.inc (x a))), FV.lit (.int .i64 (Ent.st (x a))), FV.lit (.int .i64 (Ent.stamp (x a))), FV.lit (.int .i64 (Ent.load (x a))), FV.lit (Value.bool (Ent.dr (x a)))])))), (7, SV.v (AV.one (CV.f (FV.fs nn 1 dd fun a => [FV.lit (.int .i64 (w a))])))), (8, SV.v (AV.one (CV.sl false 0 1 0 0 (c + 1) cap false 1))), (9, SV.v (AI k)), (10, SV.v (AP 1))], [(0, Ob.arr true 1 N fun a => [FV.lit (.int .i64 (y a))]), (1, Ob.cells [I p0, I p1, I p2, I ld, Bo p4])], 2, false, 0, []⟩))) T.bad) T.bad) T.bad) T.bad) T.bad) T.bad) T.bad) T.bad) T.bad) T.bad) T.bad) T.bad) T.bad) T.bad) T.bad) T.bad) (T.br (decide ((↑(c - r) : Int) > (0 : Int))) T.bad (T.br (decide ((↑(c - r) : Int) > (0 : Int))) T.bad (T.br (decide ((↑(c - r) : Int) > (0 : Int))) T.bad (T.br (decide ((↑(c - r) : Int) > (0 : Int))) T.bad (T.br (decide ((↑(c - r) : Int) > (0 : Int))) T.bad (T.br (decide ((↑(c - r) : Int) > (0 : Int))) T.bad (T.br (decide ((↑(c - r) : Int) > (0 : Int))) T.bad (T.br (decide ((↑(c - r) : Int) > (0 : Int))) T.bad (T.br (decide ((↑(c - r) : Int) > (0 : Int))) T.bad (T.br (decide ((↑(c - r) : Int) > (0 : Int))) T.bad (T.br (decide ((↑(c - r) : Int) > (0 : Int))) T.bad (T.br (decide ((↑(c - r) : Int) > (0 : Int))) T.bad (T.ret (Ex.exit 4, ⟨[(0, SV.v (AI me)), (1, SV.v (AV.one (CV.f (FV.fs nl 5 n fun a => [FV.lit (.int .i64 (Ent.inc (x a))), FV.lit (.int .i64 (Ent.st (x a))), FV.lit (.int .i64 (Ent.stamp (x a))), FV.lit (.int .i64 (Ent.load (x a))), FV.lit (Value.bool (Ent.dr (x a)))])))), (7, SV.v (AV.one (CV.f (FV.fs nn 1 dd fun a => [FV.lit (.int .i64 (w a))])))), (8, SV.v (AV.one (CV.sl false 0 1 0 0 (c + 1) cap false 1))), (9, SV.v (AI k)), (10, SV.v (AP 1))], [(0, Ob.arr true 1 N fun a => [FV.lit (.int .i64 (y a))]), (1, Ob.cells [I p0, I p1, I p2, I ld, Bo p4])], 2, false, 0, []⟩)))))))))))))) := by kernel_rfl
theorem round_fr (nl : Bool) (n : Nat) (x : Nat → Ent) (me : Int) (hb : n ≤ 1048576) (hnl : nl = true → n = 0) (i : Nat) (a : Nat × (Nat → Int)) (hi : i < n) (hI : (fun (i : Nat) (a : Nat × (Nat → Int)) => (a.1 ≤ i : Prop)) i a) : ∃ st', (tgt_fr nl n x me i a).res = some (.normal, st') ∧ StLe 0 st' (S_fr nl n x me (i + 1) ((fun (i : Nat) (a : Nat × (Nat → Int)) => (tgF (-1) x i a)) i a)) ∧ (fun (i : Nat) (a : Nat × (Nat → Int)) => (a.1 ≤ i : Prop)) (i + 1) ((fun (i : Nat) (a : Nat × (Nat → Int)) => (tgF (-1) x i a)) i a) := by
  refine T.over_exP (g := fun s => (Ex.normal, s)) (tree_fr nl n x me i a) ?_
  obtain ⟨c, y⟩ := a
  have hI' : c ≤ i := hI
  clear hI
  have e1 : ((i : Int) < (n : Int)) := by omega
  have e2 : (0 : Int) ≤ (i : Int) ∧ (i : Int) < (n : Int) := by omega
  have e3 : IntKind.wrap .i64 ((i : Int) + 1) = ((i + 1 : Nat) : Int) := by rw [wrapI (by omega)]; rfl
  obtain rfl : nl = false := by cases nl <;> simp_all <;> omega
  have e4 : Nat.ble (c + 1) c = false := ble_false (by omega)
  have e5 : smallB (c + 1) 8 = true := smallB_le (by omega) (by omega)
  have e6 : Nat.ble (0 + c) c = true := ble_tt (by omega)
  have q1 : ((i : Int) != -1) = true := by
    simp only [bne_iff_ne, ne_eq]; omega
  cases q2 : ((x i).st != 2)
  · have es : tgF (-1) x i (c, y) = (c, y) := by simp only [tgF, tgB, q1, q2, Bool.false_and, Bool.and_false]
    simp only [es, T.res_br, T.res_ret, T.res_bad, decide_eq_true_eq, e1, e2, e3, q2, Bool.not_false, Bool.false_eq_true, reduceIte, and_self]
    exact ⟨_, rfl, StLe.less (Nat.zero_le 1) (fun t => .inr (.inl rfl)) (fun b => .inl rfl), Nat.le_succ_of_le hI'⟩
  · cases q3 : (x i).dr
    · have es : tgF (-1) x i (c, y) = (c + 1, fun k => bif Nat.ble (k + 1) c then y k else i) := by simp only [tgF, tgB, q1, q2, q3, Bool.not_false, Bool.and_self]
      simp only [es, T.res_br, T.res_ret, T.res_bad, decide_eq_true_eq, e1, e2, e3, q2, q3, e4, e5, e6, beq_or, Bool.and_self, Bool.not_false, Bool.false_eq_true, reduceIte, and_self]
      refine ⟨_, rfl, StLe.less (Nat.zero_le 1) (fun t => .inr (.inl rfl)) (fun b => ?_), Nat.succ_le_succ hI'⟩
      rcases b with _ | b
      · refine Ob.le.arr fun j hj => ?_
        rcases Nat.lt_or_ge j c with h | h
        · simp only [intE, ble_tt (show j + 1 ≤ c by omega), cond_true, Nat.zero_add]
        · obtain rfl : j = c := by omega
          simp only [intE, ble_false (show ¬ j + 1 ≤ j by omega), cond_false]
      · exact .inl rfl
    · have es : tgF (-1) x i (c, y) = (c, y) := by simp only [tgF, tgB, q1, q2, q3, Bool.not_true, Bool.and_false]
      simp only [es, T.res_br, T.res_ret, T.res_bad, decide_eq_true_eq, e1, e2, e3, q2, q3, Bool.not_false, Bool.not_true, Bool.false_eq_true, reduceIte, and_self]
      exact ⟨_, rfl, StLe.less (Nat.zero_le 1) (fun t => .inr (.inl rfl)) (fun b => .inl rfl), Nat.le_succ_of_le hI'⟩
theorem end_fr (nl : Bool) (n : Nat) (x : Nat → Ent) (me : Int) (hb : n ≤ 1048576) (hnl : nl = true → n = 0) (a : Nat × (Nat → Int)) (hI : (fun (i : Nat) (a : Nat × (Nat → Int)) => (a.1 ≤ i : Prop)) (n) a) : ∃ st', (tgt_fr nl n x me (n) a).res = some (.exit 0, st') ∧ StLe 0 st' (⟨[(0, .v (AI me)), (1, .v (.one (.f (.fs nl 5 n (entE x))))), (5, .v (.one (.sl (Nat.beq a.1 0) 0 1 0 0 a.1 a.1 false 1)))], [(0, .arr (!(Nat.beq a.1 0)) 1 a.1 (intE a.2))], 1, false, 0, []⟩) := by
  refine T.over_exP (g := fun s => (.exit 0, s)) (tree_fr nl n x me (n) a) ?_
  obtain ⟨c, y⟩ := a
  simp only [T.res_br, T.res_ret, T.res_bad, decide_eq_true_eq, Int.lt_irrefl, reduceIte]
  exact ⟨_, rfl, StLe.refl (Nat.zero_le 1)⟩
theorem loop_fr (nl : Bool) (n : Nat) (x : Nat → Ent) (me : Int) (hb : n ≤ 1048576) (hnl : nl = true → n = 0) (i : Nat) (a : Nat × (Nat → Int)) (hi : i ≤ n) (hI : (fun (i : Nat) (a : Nat × (Nat → Int)) => (a.1 ≤ i : Prop)) i a) {st0 : St} (h0 : StLe 0 st0 (S_fr nl n x me i a)) (hnx : st0.nx = 0) :
    CodeOk Try.prog Try.f19.ntmps (.loop (loopOf Try.f19 5)) st0 (.exit 0) ((fun (a : Nat × (Nat → Int)) => ⟨[(0, .v (AI me)), (1, .v (.one (.f (.fs nl 5 n (entE x))))), (5, .v (.one (.sl (Nat.beq a.1 0) 0 1 0 0 a.1 a.1 false 1)))], [(0, .arr (!(Nat.beq a.1 0)) 1 a.1 (intE a.2))], 1, false, 0, []⟩) (foldF (fun (i : Nat) (a : Nat × (Nat → Int)) => (tgF (-1) x i a)) (n - i) i a)) := by
  have := for_loop GORO1 GKRO1 (K := 300) (F := 19) (N := Try.f19.ntmps) (c := loopOf Try.f19 5) (m := 0) (live := [0, 1, 5, 6]) (after := [0, 1, 5]) (S_fr nl n x me) (n) (fun (i : Nat) (a : Nat × (Nat → Int)) => .inl (tgF (-1) x i a)) (fun (a : Nat × (Nat → Int)) => (.exit 0, ⟨[(0, .v (AI me)), (1, .v (.one (.f (.fs nl 5 n (entE x))))), (5, .v (.one (.sl (Nat.beq a.1 0) 0 1 0 0 a.1 a.1 false 1)))], [(0, .arr (!(Nat.beq a.1 0)) 1 a.1 (intE a.2))], 1, false, 0, []⟩)) (fun (i : Nat) (a : Nat × (Nat → Int)) => (a.1 ≤ i : Prop))
    (fun i a hi hI => by obtain ⟨s, h1, h2, h3⟩ := round_fr nl n x me hb hnl i a hi hI; exact ⟨_, s, h1, rfl, h2, h3⟩)
    (fun a hI => by obtain ⟨s, h1, h2⟩ := end_fr nl n x me hb hnl a hI; exact ⟨_, s, h1, by simp, rfl, h2⟩)
    (fun i a => by first | exact Nat.le_refl _ | (show 0 ≤ _; decide) | (simp only [S_fr]; omega)) hi hI h0 hnx
  rw [foldX_inl] at this
  exact this
noncomputable def L_fr : LoopF := mkLoopF [0, 1, 5, 6] (loopOf Try.f19 5) Try.f19.ntmps fun sl H nx => match keyed [0, 1, 5, 6] sl, keyed [] H with
  | some [.v (.one (.f (.lit (.int .i64 me)))), .v (.one (.f (.fs nl k n e))), .v (.one (.f (.lit (.slice none z1 z2)))), .v (.one (.f (.lit (.int .i64 i))))], some [] => onlyB (Nat.beq nx 0 && (Nat.beq z1 0 && (Nat.beq z2 0))) (onlyB (Nat.beq k 5) (.need (pb (EntE e ∧ (nl = true → n = 0) ∧ n ≤ 1048576 ∧ i = 0)) (.ret (.exit 0, (St.mk [(0, .v (AI me)), (1, .v (.one (.f (.fs nl 5 n e)))), (5, .v (.one (.sl (Nat.beq (tgA (-1) (entOf e) n).1 0) 0 1 0 0 (tgA (-1) (entOf e) n).1 (tgA (-1) (entOf e) n).1 false 1)))] [(0, .arr (!(Nat.beq (tgA (-1) (entOf e) n).1 0)) 1 (tgA (-1) (entOf e) n).1 (intE (tgA (-1) (entOf e) n).2))] 1 false 0 []).sl, (St.mk [(0, .v (AI me)), (1, .v (.one (.f (.fs nl 5 n e)))), (5, .v (.one (.sl (Nat.beq (tgA (-1) (entOf e) n).1 0) 0 1 0 0 (tgA (-1) (entOf e) n).1 (tgA (-1) (entOf e) n).1 false 1)))] [(0, .arr (!(Nat.beq (tgA (-1) (entOf e) n).1 0)) 1 (tgA (-1) (entOf e) n).1 (intE (tgA (-1) (entOf e) n).2))] 1 false 0 []).H, 1, false))))
  | _, _ => .bad
theorem L_fr_ok : LoopOk Try.prog L_fr := by
  refine mkLoopF_ok fun sl H nx e sl' H' nx' esc' h => ?_
  split at h
  · rename_i me nl k n e z1 z2 i hsl hH
    have hsl := keyed_eq hsl
    have hH := keyed_eq hH
    subst hsl hH
    have h5 := onlyB_some h
    clear h
    obtain ⟨hck, h⟩ := h5
    simp only [Bool.and_eq_true, nbeq_iff] at hck
    obtain ⟨rfl, rfl, rfl⟩ := hck
    have h5 := onlyB_some h
    clear h
    have hw := h5.1
    have h := h5.2
    clear h5
    obtain ⟨hp, hret⟩ := T.need_some h
    have hp := pb_of hp
    have := T.ret_some hret
    simp only [Prod.mk.injEq] at this
    obtain ⟨rfl, rfl, rfl, rfl, rfl⟩ := this
    clear hret h
    obtain ⟨⟨x, rfl⟩, h1, h2, rfl⟩ := hp
    obtain rfl := Nat.eq_of_beq_eq_true hw
    refine loop_fr nl n x me h2 h1 0 (0, fun _ => 0) (Nat.zero_le _) (Nat.le_refl 0) (StLe.row (Nat.le_refl 0) (fun t => ?_) (fun b hb => ?_) (fun h => by cases h)) rfl
    · by_cases h5 : 5 = t
      · subst h5
        exact .inr (.inr ⟨rfl, _, _, _, rfl⟩)
      · left
        simp only [S_fr, List.zip_cons_cons, List.zip_nil_right, Slots.get_cons, h5, if_false]
        rfl
    · rcases b with _ | b
      · exact absurd rfl hb
      · rfl
  · exact (T.bad_some h).elim
noncomputable def ll_fr : List (Nat × Nat × LoopF) := (19, 5, L_fr) :: ll_tg
theorem ll_fr_ok : ∀ x ∈ ll_fr, LoopOk Try.prog x.2.2 := List.forall_mem_cons.2 ⟨L_fr_ok, ll_tg_ok⟩
/-- is it one of them -/
def hasP (y : Nat → Int) (n : Nat) (k : Int) : Prop := ∃ j, j < n ∧ y j = k
noncomputable def hasB (y : Nat → Int) (n : Nat) (k : Int) : Bool := pb (hasP y n k)
abbrev HR0 : Ex × St := (.ret, ⟨[(4, .v (AB true))], [], 0, false, 0, []⟩)
abbrev HR1 : Ex × St := (.exit 0, ⟨[], [], 0, false, 0, []⟩)
theorem loop_hs (nl : Bool) (n : Nat) (y : Nat → Int) (k : Int) (hnl : nl = true → n = 0) (hb : n ≤ 1048576) {st0 : St} (h0 : StLe 0 st0 (S_hs nl n y k 0 ())) (hnx : st0.nx = 0) :
    CodeOk Try.prog Try.f36.ntmps (.loop (loopOf Try.f36 2)) st0 (foldX (allF (fun j => !(y j == k)) HR0) (fun _ => HR1) n 0 ()).1 (foldX (allF (fun j => !(y j == k)) HR0) (fun _ => HR1) n 0 ()).2 := by
  refine for_loop GORO1 GKRO1 (K := 300) (F := 36) (m := 0) (live := [0, 1, 5]) (after := [4]) (S_hs nl n y k) n _ _ (fun _ _ => True) (fun r a hr hI => ?_) (fun a _ => ?_) (fun i a => Nat.le_refl _) (Nat.zero_le _) trivial h0 hnx
  · have e1 : ((r : Int) < (n : Int)) := by omega
    have e2 : (0 : Int) ≤ (r : Int) ∧ (r : Int) < (n : Int) := by omega
    have e3 : IntKind.wrap .i64 ((r : Int) + 1) = ((r + 1 : Nat) : Int) := by rw [wrapI (by omega)]; rfl
    obtain rfl : nl = false := by
      cases nl
      · rfl
      · have := hnl rfl; omega
    cases hq : (y r == k) with
    | true =>
      refine ⟨_, _, T.over_eq _ (tree_hs false n y k r a) (by simp only [T.res_br, T.res_ret, T.res_bad, decide_eq_true e1, decide_eq_true e2, hq, Bool.not_false, reduceIte]; rfl), ?_⟩
      simp only [allF, hq, Bool.not_true]
      exact ⟨by simp, trivial, StLe.refl (Nat.le_refl 0)⟩
    | false =>
      refine ⟨_, _, T.over_eq _ (tree_hs false n y k r a) (by simp only [T.res_br, T.res_ret, T.res_bad, decide_eq_true e1, decide_eq_true e2, hq, e3, Bool.not_false, Bool.false_eq_true, reduceIte]; rfl), ?_⟩
      simp only [allF, hq, Bool.not_false]
      exact ⟨trivial, StLe.refl (Nat.le_refl 0), trivial⟩
  · have e1 : ¬ ((n : Int) < (n : Int)) := by omega
    refine ⟨_, _, T.over_eq _ (tree_hs nl n y k n a) (by simp only [T.res_br, T.res_ret, T.res_bad, decide_eq_false e1, Bool.false_eq_true, reduceIte]), by simp, rfl, StLe.refl (Nat.le_refl 0)⟩

noncomputable def L_hs : LoopF := mkLoopF [0, 1, 5] (loopOf Try.f36 2) Try.f36.ntmps fun sl H nx => match keyed [0, 1, 5] sl, keyed [] H with
  | some [.v (.one (.f (.fs nl k n e))), .v (.one (.f (.lit (.int .i64 q)))), .v (.one (.f (.lit (.int .i64 i))))], some [] => onlyB (Nat.beq nx 0) (onlyB (Nat.beq k 1) (.need (pb (IntE e ∧ (nl = true → n = 0) ∧ n ≤ 1048576 ∧ i = 0)) (.br (pb (hasP (intOf e) n q)) (.ret (.ret, (St.mk [(4, .v (AB true))] [] 0 false 0 []).sl, (St.mk [(4, .v (AB true))] [] 0 false 0 []).H, 0, false)) (.ret (.exit 0, (St.mk [] [] 0 false 0 []).sl, (St.mk [] [] 0 false 0 []).H, 0, false)))))
  | _, _ => .bad
theorem L_hs_ok : LoopOk Try.prog L_hs := by
  refine mkLoopF_ok fun sl H nx e sl' H' nx' esc' h => ?_
  split at h
  · rename_i nl k n e q i hsl hH
    have hsl := keyed_eq hsl
    have hH := keyed_eq hH
    subst hsl hH
    have h5 := onlyB_some h
    clear h
    obtain ⟨hck, h⟩ := h5
    simp only [Bool.and_eq_true, nbeq_iff] at hck
    obtain ⟨rfl⟩ := hck
    have h5 := onlyB_some h
    clear h
    have hw := h5.1
    have h := h5.2
    clear h5
    obtain ⟨hp, hret⟩ := T.need_some h
    have hp := pb_of hp
    rcases T.br_some hret with ⟨hc, hret⟩ | ⟨hc, hret⟩
    · have hc := pb_of hc
      have := T.ret_some hret
      simp only [Prod.mk.injEq] at this
      obtain ⟨rfl, rfl, rfl, rfl, rfl⟩ := this
      clear hret h
      obtain ⟨⟨y, rfl⟩, h1, h2, rfl⟩ := hp
      obtain rfl := Nat.eq_of_beq_eq_true hw
      have h9 := loop_hs nl n y q h1 h2 (StLe.refl (Nat.le_refl 0)) rfl
      rw [foldX_no (R := Ex × St) (p := fun j => !(y j == q)) (r1 := HR1) (r0 := HR0) n 0 (by
        obtain ⟨j, hj, e⟩ := hc
        exact ⟨j, Nat.zero_le j, by omega, by rw [show y j = q from e]; simp⟩)] at h9
      exact h9
    · have hc := pb_no hc
      have := T.ret_some hret
      simp only [Prod.mk.injEq] at this
      obtain ⟨rfl, rfl, rfl, rfl, rfl⟩ := this
      clear hret h
      obtain ⟨⟨y, rfl⟩, h1, h2, rfl⟩ := hp
      obtain rfl := Nat.eq_of_beq_eq_true hw
      have h9 := loop_hs nl n y q h1 h2 (StLe.refl (Nat.le_refl 0)) rfl
      rw [foldX_yes (R := Ex × St) (p := fun j => !(y j == q)) (r1 := HR1) (r0 := HR0) n 0 (fun j _ hj => by
        cases hq : (y j == q)
        · rfl
        · exact absurd ⟨j, by omega, (by have := hq; simp only [beq_iff_eq] at this; exact this)⟩ hc)] at h9
      exact h9
  · exact (T.bad_some h).elim
noncomputable def ll_hs : List (Nat × Nat × LoopF) := (36, 2, L_hs) :: ll_fr
theorem ll_hs_ok : ∀ x ∈ ll_hs, LoopOk Try.prog x.2.2 := List.forall_mem_cons.2 ⟨L_hs_ok, ll_fr_ok⟩
/-- one is put where it belongs, by the reference -/
def insK (x : Nat → Ent) (ld k : Int) (c : Nat) : Nat → Nat → (Nat → Int) → (Nat → Int)
  | 0, _, y => y
  | f + 1, r, y => match decide (ldI x (y (c - r - 1)) > ld) with | true => insK x ld k c f (r + 1) (fun p => bif Nat.beq p (c - r - 1) then k else bif Nat.beq p (c - r) then y (c - r - 1) else y p) | false => y
def E_in (nl : Bool) (n : Nat) (x : Nat → Ent) (c N cap : Nat) (k p0 p1 p2 ld : Int) (p4 : Bool) (me : Int) (nn : Bool) (dd : Nat) (w : Nat → Int) (y : Nat → Int) : St :=
  ⟨[(0, .v (AI me)), (1, .v (.one (.f (.fs nl 5 n (entE x))))), (7, .v (.one (.f (.fs nn 1 dd (intE w))))), (8, .v (.one (.sl false 0 1 0 0 (c + 1) cap false 1))), (9, .v (AI k)), (10, .v (AP 1))], [(0, .arr true 1 N (intE y)), (1, .cells [I p0, I p1, I p2, I ld, Bo p4])], 2, false, 0, []⟩
def inF (nl : Bool) (n : Nat) (x : Nat → Ent) (c N cap : Nat) (k p0 p1 p2 ld : Int) (p4 : Bool) (me : Int) (nn : Bool) (dd : Nat) (w : Nat → Int) (r : Nat) (y : Nat → Int) : (Nat → Int) ⊕ (Ex × St) := match decide (ldI x (y (c - r - 1)) > ld) with | true => .inl (fun p => bif Nat.beq p (c - r - 1) then k else bif Nat.beq p (c - r) then y (c - r - 1) else y p) | false => .inr (.exit 4, E_in nl n x c N cap k p0 p1 p2 ld p4 me nn dd w y)
theorem foldX_in (nl : Bool) (n : Nat) (x : Nat → Ent) (c N cap : Nat) (k p0 p1 p2 ld : Int) (p4 : Bool) (me : Int) (nn : Bool) (dd : Nat) (w : Nat → Int) : ∀ (f r : Nat) (y : Nat → Int), foldX (inF nl n x c N cap k p0 p1 p2 ld p4 me nn dd w) (fun y => ((Ex.exit 4, E_in nl n x c N cap k p0 p1 p2 ld p4 me nn dd w y) : Ex × St)) f r y = (.exit 4, E_in nl n x c N cap k p0 p1 p2 ld p4 me nn dd w (insK x ld k c f r y))
  | 0, _, _ => rfl
  | f + 1, r, y => by
    simp only [foldX, inF, insK]
    cases decide (ldI x (y (c - r - 1)) > ld)
    · rfl
    · exact foldX_in nl n x c N cap k p0 p1 p2 ld p4 me nn dd w f (r + 1) _
theorem loop_in (nl : Bool) (n : Nat) (x : Nat → Ent) (c N cap : Nat) (k p0 p1 p2 ld : Int) (p4 : Bool) (me : Int) (nn : Bool) (dd : Nat) (w : Nat → Int) (hd : c < N) (hb : c < 1048576) (hk : 0 ≤ k ∧ k < (n : Int)) (hnl : nl = false) (y : Nat → Int) (hy : InI y (c + 1) n) {st0 : St} (h0 : StLe 2 st0 (S_in nl n x c N cap k p0 p1 p2 ld p4 me nn dd w 0 y)) (hnx : st0.nx = 2) :
    CodeOk Try.prog Try.f19.ntmps (.loop (loopOf Try.f19 18)) st0 (.exit 4) (E_in nl n x c N cap k p0 p1 p2 ld p4 me nn dd w (insK x ld k c c 0 y)) := by
  have hf := foldX_in nl n x c N cap k p0 p1 p2 ld p4 me nn dd w c 0 y
  rw [show (Ex.exit 4) = (foldX (inF nl n x c N cap k p0 p1 p2 ld p4 me nn dd w) (fun y => ((Ex.exit 4, E_in nl n x c N cap k p0 p1 p2 ld p4 me nn dd w y) : Ex × St)) c 0 y).1 by rw [hf], show E_in nl n x c N cap k p0 p1 p2 ld p4 me nn dd w (insK x ld k c c 0 y) = (foldX (inF nl n x c N cap k p0 p1 p2 ld p4 me nn dd w) (fun y => ((Ex.exit 4, E_in nl n x c N cap k p0 p1 p2 ld p4 me nn dd w y) : Ex × St)) c 0 y).2 by rw [hf]]
  clear hf
  subst hnl
  refine for_loop GORO1 GKRO1 (K := 300) (F := 19) (m := 2) (live := [0, 1, 7, 8, 9, 10, 11]) (after := [0, 1, 7, 8, 9, 10]) (S_in false n x c N cap k p0 p1 p2 ld p4 me nn dd w) c _ _ (fun _ y => InI y (c + 1) n) (fun r y hr hI => ?_) (fun y _ => ?_) (fun i a => Nat.le_refl _) (Nat.zero_le _) hy h0 hnx
  · have e1 : ((c - r : Nat) : Int) > 0 := by omega
    have e3 : IntKind.wrap .i64 (((c - r : Nat) : Int) - 1) = ((c - r - 1 : Nat) : Int) := by rw [wrapI (by omega)]; omega
    have e2 : (0 : Int) ≤ ((c - r : Nat) : Int) ∧ ((c - r : Nat) : Int) < ((c + 1 : Nat) : Int) := by omega
    have e4 : Nat.ble (c - r + 1) N = true := ble_tt (by omega)
    have e5 : (0 : Int) ≤ ((c - r - 1 : Nat) : Int) ∧ ((c - r - 1 : Nat) : Int) < ((c + 1 : Nat) : Int) := by omega
    have e6 : Nat.ble (c - r - 1 + 1) N = true := ble_tt (by omega)
    have e8 := hI (c - r - 1) (by omega)
    cases hq : decide (ldI x (y (c - r - 1)) > ld) with
    | true =>
      have hq' := of_decide_eq_true hq
      unfold ldI at hq'
      refine ⟨_, _, T.over_eq _ (tree_in false n x c N cap k p0 p1 p2 ld p4 me nn dd w r y) (by simp only [T.res_br, T.res_ret, T.res_bad, Nat.zero_add, decide_eq_true e1, decide_eq_true e2, e3, e4, decide_eq_true e5, Int.toNat_natCast, e6, decide_eq_true e8, decide_eq_true hq', Bool.not_false, reduceIte]; rfl), ?_⟩
      simp only [inF, hq]
      refine ⟨trivial, StLe.less (Nat.le_refl 2) (fun t => .inr (.inl rfl)) (fun b => .inl ?_), fun p hp => ?_⟩
      · rcases b with _ | _ | b <;> rfl
      · dsimp only
        cases Nat.beq p (c - r - 1)
        · cases Nat.beq p (c - r)
          · exact hI p hp
          · exact hI _ (by omega)
        · exact hk
    | false =>
      have hq' := of_decide_eq_false hq
      unfold ldI at hq'
      refine ⟨_, _, T.over_eq _ (tree_in false n x c N cap k p0 p1 p2 ld p4 me nn dd w r y) (by simp only [T.res_br, T.res_ret, T.res_bad, Nat.zero_add, decide_eq_true e1, decide_eq_true e2, e3, e4, decide_eq_true e5, Int.toNat_natCast, e6, decide_eq_true e8, decide_eq_false hq', Bool.not_false, Bool.false_eq_true, reduceIte]; rfl), ?_⟩
      simp only [inF, hq]
      exact ⟨by simp, trivial, StLe.less (Nat.le_refl 2) (fun t => .inr (.inl rfl)) (fun b => .inl (by rcases b with _ | _ | b <;> rfl))⟩
  · have e1 : ¬ ((c - c : Nat) : Int) > 0 := by omega
    refine ⟨_, _, T.over_eq _ (tree_in false n x c N cap k p0 p1 p2 ld p4 me nn dd w c y) (by simp only [T.res_br, T.res_ret, T.res_bad, decide_eq_false e1, Bool.false_eq_true, reduceIte]; rfl), by simp, rfl, StLe.less (Nat.le_refl 2) (fun t => .inr (.inl rfl)) (fun b => .inl (by rcases b with _ | _ | b <;> rfl))⟩

end Go.Proofs.Ytggneleipimijaa.En
/- The reference: Targets is known. -/
namespace Go.Proofs.Ytggneleipimijaa.En
open Go
set_option linter.unusedVariables false
set_option linter.unusedSimpArgs false
set_option maxRecDepth 20000
set_option maxHeartbeats 1000000
noncomputable def L_in : LoopF := mkLoopF [0, 1, 7, 8, 9, 10, 11] (loopOf Try.f19 18) Try.f19.ntmps fun sl H nx => match keyed [0, 1, 7, 8, 9, 10, 11] sl, keyed [0, 1] H with
  | some [.v (.one (.f (.lit (.int .i64 me)))), .v (.one (.f (.fs nl k n e))), .v (.one (.f (.fs nn k2 dd e7))), .v (.one (.sl false z1 z2 z3 z4 d cap false z5)), .v (.one (.f (.lit (.int .i64 q)))), .v (.one (.ptr z6 z7 z8 z9)), .v (.one (.f (.lit (.int .i64 j))))], some [.arr true z10 N e2, .cells [.f (.lit (.int .i64 p0)), .f (.lit (.int .i64 p1)), .f (.lit (.int .i64 p2)), .f (.lit (.int .i64 ld)), .f (.lit (.bool p4))]] => onlyB (Nat.beq nx 2 && (Nat.beq z1 0 && (Nat.beq z2 1 && (Nat.beq z3 0 && (Nat.beq z4 0 && (Nat.beq z5 1 && (Nat.beq z6 1 && (Nat.beq z7 0 && (Nat.beq z8 0 && (Nat.beq z9 0 && (Nat.beq z10 1))))))))))) (onlyB (Nat.beq k 5 && Nat.beq k2 1) (.need (pb (EntE e ∧ IntE e2 ∧ IntE e7 ∧ nl = false ∧ 1 ≤ d ∧ j = ((d - 1 : Nat) : Int) ∧ d ≤ N ∧ d ≤ 1048576 ∧ (0 ≤ q ∧ q < (n : Int)) ∧ InI (intOf e2) d n)) (.ret (.exit 4, (St.mk [(0, .v (AI me)), (1, .v (.one (.f (.fs nl 5 n e)))), (7, .v (.one (.f (.fs nn 1 dd e7)))), (8, .v (.one (.sl false 0 1 0 0 d cap false 1))), (9, .v (AI q)), (10, .v (AP 1))] [(0, .arr true 1 N (intE (insK (entOf e) ld q (d - 1) (d - 1) 0 (intOf e2)))), (1, .cells [I p0, I p1, I p2, I ld, Bo p4])] 2 false 0 []).sl, (St.mk [(0, .v (AI me)), (1, .v (.one (.f (.fs nl 5 n e)))), (7, .v (.one (.f (.fs nn 1 dd e7)))), (8, .v (.one (.sl false 0 1 0 0 d cap false 1))), (9, .v (AI q)), (10, .v (AP 1))] [(0, .arr true 1 N (intE (insK (entOf e) ld q (d - 1) (d - 1) 0 (intOf e2)))), (1, .cells [I p0, I p1, I p2, I ld, Bo p4])] 2 false 0 []).H, 2, false))))
  | _, _ => .bad
theorem L_in_ok : LoopOk Try.prog L_in := by
  refine mkLoopF_ok fun sl H nx e sl' H' nx' esc' h => ?_
  split at h
  · rename_i me nl k n e nn k2 dd e7 z1 z2 z3 z4 d cap z5 q z6 z7 z8 z9 j z10 N e2 p0 p1 p2 ld p4 hsl hH
    have hsl := keyed_eq hsl
    have hH := keyed_eq hH
    subst hsl hH
    have h5 := onlyB_some h
    clear h
    obtain ⟨hck, h⟩ := h5
    simp only [Bool.and_eq_true, nbeq_iff] at hck
    obtain ⟨rfl, rfl, rfl, rfl, rfl, rfl, rfl, rfl, rfl, rfl, rfl⟩ := hck
    have h5 := onlyB_some h
    clear h
    have hw := h5.1
    have h := h5.2
    clear h5
    obtain ⟨hp, hret⟩ := T.need_some h
    have hp := pb_of hp
    have := T.ret_some hret
    simp only [Prod.mk.injEq] at this
    obtain ⟨rfl, rfl, rfl, rfl, rfl⟩ := this
    clear hret h
    obtain ⟨⟨x, rfl⟩, ⟨y, rfl⟩, ⟨w, rfl⟩, rfl, h1, rfl, h3, h4, h5, h6⟩ := hp
    obtain ⟨hw1, hw2⟩ := Bool.and_eq_true_iff.1 hw
    obtain rfl := Nat.eq_of_beq_eq_true hw1
    obtain rfl := Nat.eq_of_beq_eq_true hw2
    obtain ⟨c, rfl⟩ : ∃ c, d = c + 1 := ⟨d - 1, by omega⟩
    exact loop_in false n x c N cap q p0 p1 p2 ld p4 me nn dd w (by omega) (by omega) h5 rfl y h6 (StLe.refl (Nat.le_refl 2)) rfl
  · exact (T.bad_some h).elim
noncomputable def ll_in : List (Nat × Nat × LoopF) := (19, 18, L_in) :: ll_hs
theorem ll_in_ok : ∀ x ∈ ll_in, LoopOk Try.prog x.2.2 := List.forall_mem_cons.2 ⟨L_in_ok, ll_hs_ok⟩
noncomputable def GRP1 : Ctx := GS.with ss_Tgz ll_in
noncomputable def tgt_has (nl : Bool) (n : Nat) (y : Nat → Int) (k : Int) : T CallOut := evCallW [] GRP1 300 36 [.one (.f (.fs nl 1 n (intE y))), AI k] [] 0
theorem GKRP1 : KnownOk Try.prog GRP1 := KnownOk.lists ss_Tgz_ok ll_in_ok
theorem GORP1 : CtxOk Try.prog GRP1 := GS_ok.with _ _
theorem tree_has (nl : Bool) (n : Nat) (y : Nat → Int) (k : Int) : (tgt_has nl n y k).over (.br (.br (.br .leaf .leaf) .skip) .skip) = T.br (pb (Code.loop (loopOf Proofs.Try.f36 2) = Code.loop (loopOf Proofs.Try.f36 2) ∧ 18 = 18)) (T.br (pb (IntE (intE y) ∧ (nl = true → n = 0) ∧ n ≤ 1048576 ∧ (0 : Int) = (0 : Int))) (T.br (pb (hasP y n k)) (T.ret (out0 (SV.v (AB true)))) (T.ret (out0 (SV.v (AB false))))) T.bad) T.bad := by kernel_rfl
theorem res_has (nl : Bool) (n : Nat) (y : Nat → Int) (k : Int) (h : (nl = true → n = 0) ∧ n ≤ 1048576) : (tgt_has nl n y k).res = some (out0 (.v (AB (hasB y n k)))) := by
  refine T.over_eq _ (tree_has nl n y k) ?_
  have h1 : (nl = true → n = 0) = True := eq_true h.1
  cases hq : hasB y n k
  · have hq' : pb (hasP y n k) = false := hq
    simp only [T.res_br, T.res_ret, T.res_bad, IntE_ok, h1, h.2, hq', eq_self, and_self, pb_tt, Bool.false_eq_true, reduceIte]
  · have hq' : pb (hasP y n k) = true := hq
    simp only [T.res_br, T.res_ret, T.res_bad, IntE_ok, h1, h.2, hq', eq_self, and_self, pb_tt, reduceIte]

noncomputable def F_has : SumF
  | [.one (.f (.fs nl 1 n e)), .one (.f (.lit (.int .i64 k)))], [], 0 => .need (pb (IntE e ∧ (nl = true → n = 0) ∧ n ≤ 1048576)) (.ret (out0 (.v (AB (hasB (intOf e) n k)))))
  | _, _, _ => .bad
theorem sum_has : SumOk Try.prog 36 F_has := by
  refine ⟨fun args H nx r hr => ?_, fun args H nx => ?_⟩
  · unfold F_has at hr
    split at hr
    · rename_i nl n e k
      obtain ⟨h0, hr⟩ := T.need_some hr
      have := T.ret_some hr
      subst this
      have h := pb_of h0
      obtain ⟨⟨y, rfl⟩, h1⟩ := h
      exact evCallW_ok GORP1 GKRP1 (res_has nl n y k h1)
    · exact (T.bad_some hr).elim
  · unfold F_has
    split
    · exact T.Every.need ⟨Nat.zero_le _, fun b hb hw => absurd hb (Nat.not_lt_zero b)⟩
    · trivial
noncomputable def sm_has : SumF := canonSum F_has
theorem sm_has_ok : SumOk Try.prog 36 sm_has := canonSum_ok sum_has
noncomputable def ss_has : List (Nat × SumF) := (36, sm_has) :: ss_Tgz
theorem ss_has_ok : ∀ x ∈ ss_has, SumOk Try.prog x.1 x.2 := List.forall_mem_cons.2 ⟨sm_has_ok, ss_Tgz_ok⟩
def S_ot (me : Int) (nl : Bool) (n : Nat) (x : Nat → Ent) (nn : Bool) (d : Nat) (y : Nat → Int) (i : Nat) (a : Nat × (Nat → Int)) : St :=
  ⟨[(0, .v (AI me)), (1, .v (.one (.f (.fs nl 5 n (entE x))))), (7, .v (.one (.f (.fs nn 1 d (intE y))))), (8, .v (.one (.sl (Nat.beq a.1 0) 0 1 0 0 a.1 a.1 false 1))), (9, .v (AI i))], [(0, .arr (!(Nat.beq a.1 0)) 1 a.1 (intE a.2))], 1, false, 0, []⟩

noncomputable def GRP2 : Ctx := GS.with ss_has ll_in
noncomputable def tgt_ot (me : Int) (nl : Bool) (n : Nat) (x : Nat → Ent) (nn : Bool) (d : Nat) (y : Nat → Int) (i : Nat) (a : Nat × (Nat → Int)) : T (Ex × St) := evRound GRP2 300 19 Try.f19.ntmps (loopOf Try.f19 12) 0 [0, 1, 7, 8, 9] [8] (S_ot me nl n x nn d y i a)
theorem GKRP2 : KnownOk Try.prog GRP2 := KnownOk.lists ss_has_ok ll_in_ok
theorem GORP2 : CtxOk Try.prog GRP2 := GS_ok.with _ _
theorem tree_ot (me : Int) (nl : Bool) (n : Nat) (x : Nat → Ent) (nn : Bool) (d : Nat) (y : Nat → Int) (i : Nat) (a : Nat × (Nat → Int)) : (tgt_ot me nl n x nn d y i a).over (.br (.br (.br (.br (.tt (.tt (.tt (.tt (.tt (.tt (.tt (.tt (.tt (.tt (.tt (.tt (.tt (.tt (.tt (.tt .leaf)))))))))))))))) (.ff (.ff (.ff (.br (.tt (.tt (.tt (.tt (.tt (.tt (.tt (.tt (.tt (.tt (.tt (.tt .leaf)))))))))))) (.ff (.ff (.br (.tt (.tt (.tt (.tt (.tt (.tt (.tt (.tt (.tt .leaf))))))))) (.ff (.ff (.br (.br (.ff (.ff (.ff (.ff (.br (.tt (.tt (.br (.tt (.ff (.tt (.ff (.br .leaf (.tt (.ff (.br (.br .skip .skip) (.br (.br (.br (.br .leaf .skip) .skip) .skip) .skip))))))))) .skip))) (.ff (.ff (.ff (.ff (.ff (.ff (.ff (.tt (.ff (.br (.br .skip .skip) (.br (.br (.br (.br .leaf .skip) .skip) .skip) .skip)))))))))))))))) .skip) .skip))))))))))) .skip) .skip) .leaf) = T.br (decide ((↑i : Int) < (↑n : Int))) (T.br (!nl) (T.br (decide ((0 : Int) ≤ (↑i : Int) ∧ (↑i : Int) < (↑n : Int))) (T.br ((↑i : Int) == me) (T.ret (Ex.normal, ⟨[(0, SV.v (AI me)), (1, SV.v (AV.one (CV.f (FV.fs nl 5 n fun a => [FV.lit (.int .i64 (Ent.inc (x a))), FV.lit (.int .i64 (Ent.st (x a))), FV.lit (.int .i64 (Ent.stamp (x a))), FV.lit (.int .i64 (Ent.load (x a))), FV.lit (Value.bool (Ent.dr (x a)))])))), (7, SV.v (AV.one (CV.f (FV.fs nn 1 d fun a => [FV.lit (.int .i64 (y a))])))), (8, SV.v (AV.one (CV.sl (Nat.beq (Prod.fst a) 0) 0 1 0 0 (Prod.fst a) (Prod.fst a) false 1))), (9, SV.v (AI (IntKind.wrap IntKind.i64 ((↑i : Int) + (1 : Int)))))], [(0, Ob.arr (!Nat.beq (Prod.fst a) 0) 1 (Prod.fst a) fun a_1 => [FV.lit (.int .i64 (Prod.snd a a_1))])], 1, false, 0, []⟩)) (T.br (Ent.st (x i) == (2 : Int)) (T.ret (Ex.normal, ⟨[(0, SV.v (AI me)), (1, SV.v (AV.one (CV.f (FV.fs nl 5 n fun a => [FV.lit (.int .i64 (Ent.inc (x a))), FV.lit (.int .i64 (Ent.st (x a))), FV.lit (.int .i64 (Ent.stamp (x a))), FV.lit (.int .i64 (Ent.load (x a))), FV.lit (Value.bool (Ent.dr (x a)))])))), (7, SV.v (AV.one (CV.f (FV.fs nn 1 d fun a => [FV.lit (.int .i64 (y a))])))), (8, SV.v (AV.one (CV.sl (Nat.beq (Prod.fst a) 0) 0 1 0 0 (Prod.fst a) (Prod.fst a) false 1))), (9, SV.v (AI (IntKind.wrap IntKind.i64 ((↑i : Int) + (1 : Int)))))], [(0, Ob.arr (!Nat.beq (Prod.fst a) 0) 1 (Prod.fst a) fun a_1 => [FV.lit (.int .i64 (Prod.snd a a_1))])], 1, false, 0, []⟩)) (T.br (Ent.dr (x i)) (T.ret (Ex.normal, ⟨[(0, SV.v (AI me)), (1, SV.v (AV.one (CV.f (FV.fs nl 5 n fun a => [FV.lit (.int .i64 (Ent.inc (x a))), FV.lit (.int .i64 (Ent.st (x a))), FV.lit (.int .i64 (Ent.stamp (x a))), FV.lit (.int .i64 (Ent.load (x a))), FV.lit (Value.bool (Ent.dr (x a)))])))), (7, SV.v (AV.one (CV.f (FV.fs nn 1 d fun a => [FV.lit (.int .i64 (y a))])))), (8, SV.v (AV.one (CV.sl (Nat.beq (Prod.fst a) 0) 0 1 0 0 (Prod.fst a) (Prod.fst a) false 1))), (9, SV.v (AI (IntKind.wrap IntKind.i64 ((↑i : Int) + (1 : Int)))))], [(0, Ob.arr (!Nat.beq (Prod.fst a) 0) 1 (Prod.fst a) fun a_1 => [FV.lit (.int .i64 (Prod.snd a a_1))])], 1, false, 0, []⟩)) (T.br (!nl) (T.br (decide ((0 : Int) ≤ me ∧ me < (↑n : Int))) (T.br (!Ent.dr (x (Int.toNat me))) (T.br (pb (IntE (intE y) ∧ (nn = true → d = 0) ∧ d ≤ 1048576)) (T.br (!hasB y d (↑i : Int)) (T.ret (Ex.normal, ⟨[(0, SV.v (AI me)), (1, SV.v (AV.one (CV.f (FV.fs nl 5 n fun a => [FV.lit (.int .i64 (Ent.inc (x a))), FV.lit (.int .i64 (Ent.st (x a))), FV.lit (.int .i64 (Ent.stamp (x a))), FV.lit (.int .i64 (Ent.load (x a))), FV.lit (Value.bool (Ent.dr (x a)))])))), (7, SV.v (AV.one (CV.f (FV.fs nn 1 d fun a => [FV.lit (.int .i64 (y a))])))), (8, SV.v (AV.one (CV.sl (Nat.beq (Prod.fst a) 0) 0 1 0 0 (Prod.fst a) (Prod.fst a) false 1))), (9, SV.v (AI (IntKind.wrap IntKind.i64 ((↑i : Int) + (1 : Int)))))], [(0, Ob.arr (!Nat.beq (Prod.fst a) 0) 1 (Prod.fst a) fun a_1 => [FV.lit (.int .i64 (Prod.snd a a_1))])], 1, false, 0, []⟩)) (T.br (Nat.ble (Prod.fst a + 1) (Prod.fst a)) (T.br (!Nat.beq (Prod.fst a) 0) T.bad T.bad) (T.br (smallB (Prod.fst a + 1) 8) (T.br ((Nat.beq (Prod.fst a) 0 || !Nat.beq (Prod.fst a) 0) && Nat.ble (0 + Prod.fst a) (Prod.fst a)) (T.br (pb (Code.loop (loopOf Proofs.Try.f19 18) = Code.loop (loopOf Proofs.Try.f19 18) ∧ 121 = 121)) (T.br (pb (EntE (entE x) ∧ (IntE fun i_1 => iteL (Nat.ble (i_1 + 1) (Prod.fst a)) (intE (Prod.snd a) (0 + i_1)) (selL (chunks 1 1 [FV.lit (.int .i64 (↑i : Int))]) (i_1 - Prod.fst a))) ∧ IntE (intE y) ∧ nl = false ∧ 1 ≤ Prod.fst a + 1 ∧ (↑(Prod.fst a) : Int) = (↑(Prod.fst a + 1 - 1) : Int) ∧ Prod.fst a + 1 ≤ Prod.fst a + 1 ∧ Prod.fst a + 1 ≤ 1048576 ∧ ((0 : Int) ≤ (↑i : Int) ∧ (↑i : Int) < (↑n : Int)) ∧ InI (intOf fun i_1 => iteL (Nat.ble (i_1 + 1) (Prod.fst a)) (intE (Prod.snd a) (0 + i_1)) (selL (chunks 1 1 [FV.lit (.int .i64 (↑i : Int))]) (i_1 - Prod.fst a))) (Prod.fst a + 1) n)) (T.ret (Ex.normal, ⟨[(0, SV.v (AI me)), (1, SV.v (AV.one (CV.f (FV.fs nl 5 n fun a => [FV.lit (.int .i64 (Ent.inc (x a))), FV.lit (.int .i64 (Ent.st (x a))), FV.lit (.int .i64 (Ent.stamp (x a))), FV.lit (.int .i64 (Ent.load (x a))), FV.lit (Value.bool (Ent.dr (x a)))])))), (7, SV.v (AV.one (CV.f (FV.fs nn 1 d fun a => [FV.lit (.int .i64 (y a))])))), (8, SV.v (AV.one (CV.sl false 0 1 0 0 (Prod.fst a + 1) (Prod.fst a + 1) false 1))), (9, SV.v (AI (IntKind.wrap IntKind.i64 ((↑i : Int) + (1 : Int)))))], [(0, Ob.arr true 1 (Prod.fst a + 1) fun a_1 => [FV.lit (.int .i64 (insK x (Ent.load (x i)) (↑i : Int) (Prod.fst a + 1 - 1) (Prod.fst a + 1 - 1) 0 (intOf fun i_1 => iteL (Nat.ble (i_1 + 1) (Prod.fst a)) (intE (Prod.snd a) (0 + i_1)) (selL (chunks 1 1 [FV.lit (.int .i64 (↑i : Int))]) (i_1 - Prod.fst a))) a_1))])], 1, false, 0, [3, 1]⟩)) T.bad) T.bad) T.bad) T.bad))) T.bad) (T.br (Nat.ble (Prod.fst a + 1) (Prod.fst a)) (T.br (!Nat.beq (Prod.fst a) 0) T.bad T.bad) (T.br (smallB (Prod.fst a + 1) 8) (T.br ((Nat.beq (Prod.fst a) 0 || !Nat.beq (Prod.fst a) 0) && Nat.ble (0 + Prod.fst a) (Prod.fst a)) (T.br (pb (Code.loop (loopOf Proofs.Try.f19 18) = Code.loop (loopOf Proofs.Try.f19 18) ∧ 121 = 121)) (T.br (pb (EntE (entE x) ∧ (IntE fun i_1 => iteL (Nat.ble (i_1 + 1) (Prod.fst a)) (intE (Prod.snd a) (0 + i_1)) (selL (chunks 1 1 [FV.lit (.int .i64 (↑i : Int))]) (i_1 - Prod.fst a))) ∧ IntE (intE y) ∧ nl = false ∧ 1 ≤ Prod.fst a + 1 ∧ (↑(Prod.fst a) : Int) = (↑(Prod.fst a + 1 - 1) : Int) ∧ Prod.fst a + 1 ≤ Prod.fst a + 1 ∧ Prod.fst a + 1 ≤ 1048576 ∧ ((0 : Int) ≤ (↑i : Int) ∧ (↑i : Int) < (↑n : Int)) ∧ InI (intOf fun i_1 => iteL (Nat.ble (i_1 + 1) (Prod.fst a)) (intE (Prod.snd a) (0 + i_1)) (selL (chunks 1 1 [FV.lit (.int .i64 (↑i : Int))]) (i_1 - Prod.fst a))) (Prod.fst a + 1) n)) (T.ret (Ex.normal, ⟨[(0, SV.v (AI me)), (1, SV.v (AV.one (CV.f (FV.fs nl 5 n fun a => [FV.lit (.int .i64 (Ent.inc (x a))), FV.lit (.int .i64 (Ent.st (x a))), FV.lit (.int .i64 (Ent.stamp (x a))), FV.lit (.int .i64 (Ent.load (x a))), FV.lit (Value.bool (Ent.dr (x a)))])))), (7, SV.v (AV.one (CV.f (FV.fs nn 1 d fun a => [FV.lit (.int .i64 (y a))])))), (8, SV.v (AV.one (CV.sl false 0 1 0 0 (Prod.fst a + 1) (Prod.fst a + 1) false 1))), (9, SV.v (AI (IntKind.wrap IntKind.i64 ((↑i : Int) + (1 : Int)))))], [(0, Ob.arr true 1 (Prod.fst a + 1) fun a_1 => [FV.lit (.int .i64 (insK x (Ent.load (x i)) (↑i : Int) (Prod.fst a + 1 - 1) (Prod.fst a + 1 - 1) 0 (intOf fun i_1 => iteL (Nat.ble (i_1 + 1) (Prod.fst a)) (intE (Prod.snd a) (0 + i_1)) (selL (chunks 1 1 [FV.lit (.int .i64 (↑i : Int))]) (i_1 - Prod.fst a))) a_1))])], 1, false, 0, [3, 1]⟩)) T.bad) T.bad) T.bad) T.bad))) T.bad) T.bad)))) T.bad) T.bad) (T.ret (Ex.exit 2, ⟨[(8, SV.v (AV.one (CV.sl (Nat.beq (Prod.fst a) 0) 0 1 0 0 (Prod.fst a) (Prod.fst a) false 1)))], [(0, Ob.arr (!Nat.beq (Prod.fst a) 0) 1 (Prod.fst a) fun a_1 => [FV.lit (.int .i64 (Prod.snd a a_1))])], 1, false, 0, []⟩)) := by kernel_rfl
/-- one more behind a row -/
def appI (y : Nat → Int) (c : Nat) (k : Int) : Nat → Int := fun j => bif Nat.ble (j + 1) c then y j else k
theorem app_row (y : Nat → Int) (c : Nat) (k : Int) : (fun j => iteL (Nat.ble (j + 1) c) (intE y (0 + j)) (selL (chunks 1 1 [FV.lit (Value.int IntKind.i64 k)]) (j - c))) = intE (appI y c k) := funext fun j => by
  show [FV.lit (Value.int IntKind.i64 (bif Nat.ble (j + 1) c then y (0 + j) else k))] = _
  rw [Nat.zero_add]
  rfl
/-- is it a target, by the reference -/
noncomputable def toB (me : Int) (x : Nat → Ent) (d : Nat) (y : Nat → Int) (i : Nat) : Bool := !((i : Int) == me) && (!((x i).st == 2) && (!(x i).dr && ((x me.toNat).dr || hasB y d i)))
noncomputable def toF (me : Int) (x : Nat → Ent) (d : Nat) (y : Nat → Int) (i : Nat) (a : Nat × (Nat → Int)) : Nat × (Nat → Int) := match toB me x d y i with | true => (a.1 + 1, insK x (x i).load i a.1 a.1 0 (appI a.2 a.1 i)) | false => a
theorem appI_in {y : Nat → Int} {c n : Nat} {k : Int} (h : InI y c n) (hk : 0 ≤ k ∧ k < (n : Int)) : InI (appI y c k) (c + 1) n := fun j hj => by
  unfold appI
  cases hb : Nat.ble (j + 1) c
  · exact hk
  · exact h j (by have := Nat.le_of_ble_eq_true hb; omega)
theorem insK_in (x : Nat → Ent) {ld k : Int} {c n : Nat} (hk : 0 ≤ k ∧ k < (n : Int)) : ∀ (f r : Nat) (y : Nat → Int), InI y (c + 1) n → InI (insK x ld k c f r y) (c + 1) n
  | 0, _, _, h => h
  | f + 1, r, y, h => by
    simp only [insK]
    cases decide (ldI x (y (c - r - 1)) > ld)
    · exact h
    · refine insK_in x hk f (r + 1) _ fun p hp => ?_
      cases Nat.beq p (c - r - 1)
      · cases Nat.beq p (c - r)
        · exact h p hp
        · exact h _ (by omega)
      · exact hk

theorem round_ot (me : Int) (nl : Bool) (n : Nat) (x : Nat → Ent) (nn : Bool) (d : Nat) (y : Nat → Int) (hb : n < 1048576) (hnl : nl = true → n = 0) (hme : 0 ≤ me ∧ me < (n : Int)) (hd : d ≤ 1048576) (hnn : nn = true → d = 0) (i : Nat) (a : Nat × (Nat → Int)) (hi : i < n) (hI : (fun (i : Nat) (a : Nat × (Nat → Int)) => (a.1 ≤ i ∧ InI a.2 a.1 n : Prop)) i a) : ∃ st', (tgt_ot me nl n x nn d y i a).res = some (.normal, st') ∧ StLe 0 st' (S_ot me nl n x nn d y (i + 1) ((fun (i : Nat) (a : Nat × (Nat → Int)) => (toF me x d y i a)) i a)) ∧ (fun (i : Nat) (a : Nat × (Nat → Int)) => (a.1 ≤ i ∧ InI a.2 a.1 n : Prop)) (i + 1) ((fun (i : Nat) (a : Nat × (Nat → Int)) => (toF me x d y i a)) i a) := by
  refine T.over_exP (g := fun s => (Ex.normal, s)) (tree_ot me nl n x nn d y i a) ?_
  obtain ⟨c, z⟩ := a
  have hI' : c ≤ i ∧ InI z c n := hI
  clear hI
  obtain ⟨h1, h2⟩ := hI'
  have e1 : ((i : Int) < (n : Int)) := by omega
  have e2 : (0 : Int) ≤ (i : Int) ∧ (i : Int) < (n : Int) := by omega
  have e2' : (0 : Int) ≤ me ∧ me < (n : Int) := hme
  have e3 : IntKind.wrap .i64 ((i : Int) + 1) = ((i + 1 : Nat) : Int) := by rw [wrapI (by omega)]; rfl
  obtain rfl : nl = false := by cases nl <;> simp_all <;> omega
  have e4 : Nat.ble (c + 1) c = false := ble_false (by omega)
  have e5 : smallB (c + 1) 8 = true := smallB_le (by omega) (by omega)
  have e6 : Nat.ble (0 + c) c = true := ble_tt (by omega)
  have e7 : (nn = true → d = 0) = True := eq_true hnn
  have e8 : c + 1 ≤ 1048576 := by omega
  have e9 : InI (appI z c i) (c + 1) n := appI_in h2 e2
  have e10 : (Nat.beq c 0 || !Nat.beq c 0) = true := beq_or _
  by_cases hB : toB me x d y i = true
  · have es : toF me x d y i (c, z) = (c + 1, insK x (x i).load i c c 0 (appI z c i)) := by simp only [toF, hB]
    unfold toB at hB
    simp only [Bool.and_eq_true, Bool.not_eq_true', Bool.or_eq_true] at hB
    obtain ⟨q1, q2, q3, hB⟩ := hB
    cases q4 : (x me.toNat).dr
    · have g1 : hasB y d i = true := by
        rcases hB with h | h
        · rw [q4] at h; cases h
        · exact h
      simp only [es, T.res_br, T.res_ret, T.res_bad, decide_eq_true e1, decide_eq_true e2, decide_eq_true e2', e1, e2, e3, q1, q2, q3, q4, g1, IntE_ok, EntE_ok, app_row, intOf_intE, hd, e4, e5, e6, e7, e8, e9, e10, Nat.add_sub_cancel, Nat.le_add_left, Nat.le_refl, eq_self, and_self, pb_tt, Bool.and_self, Bool.not_false, Bool.not_true, Bool.false_eq_true, reduceIte]
      exact ⟨_, rfl, StLe.less (Nat.zero_le 1) (fun t => .inr (.inl (by rcases t with _ | _ | _ | _ | _ | _ | _ | _ | _ | _ | t <;> rfl))) (fun b => .inl rfl), Nat.succ_le_succ h1, insK_in x e2 _ _ _ e9⟩
    · simp only [es, T.res_br, T.res_ret, T.res_bad, decide_eq_true e1, decide_eq_true e2, decide_eq_true e2', e1, e2, e3, q1, q2, q3, q4, IntE_ok, EntE_ok, app_row, intOf_intE, hd, e4, e5, e6, e7, e8, e9, e10, Nat.add_sub_cancel, Nat.le_add_left, Nat.le_refl, eq_self, and_self, pb_tt, Bool.and_self, Bool.not_false, Bool.not_true, Bool.false_eq_true, reduceIte]
      exact ⟨_, rfl, StLe.less (Nat.zero_le 1) (fun t => .inr (.inl (by rcases t with _ | _ | _ | _ | _ | _ | _ | _ | _ | _ | t <;> rfl))) (fun b => .inl rfl), Nat.succ_le_succ h1, insK_in x e2 _ _ _ e9⟩
  · have hB' : toB me x d y i = false := by simpa using hB
    have es : toF me x d y i (c, z) = (c, z) := by simp only [toF, hB']
    cases q1 : ((i : Int) == me)
    · cases q2 : ((x i).st == 2)
      · cases q3 : (x i).dr
        · have g2 : (x me.toNat).dr = false ∧ hasB y d i = false := by
            unfold toB at hB'
            rw [q1, q2, q3] at hB'
            simpa using hB'
          obtain ⟨q4, g1⟩ := g2
          simp only [es, T.res_br, T.res_ret, T.res_bad, decide_eq_true e1, decide_eq_true e2, decide_eq_true e2', e3, q1, q2, q3, q4, g1, IntE_ok, hd, e7, eq_self, and_self, pb_tt, Bool.not_false, Bool.not_true, Bool.false_eq_true, reduceIte]
          exact ⟨_, rfl, StLe.less (Nat.zero_le 1) (fun t => .inr (.inl rfl)) (fun b => .inl rfl), Nat.le_succ_of_le h1, h2⟩
        · simp only [es, T.res_br, T.res_ret, T.res_bad, decide_eq_true e1, decide_eq_true e2, e3, q1, q2, q3, Bool.not_false, Bool.false_eq_true, reduceIte]
          exact ⟨_, rfl, StLe.less (Nat.zero_le 1) (fun t => .inr (.inl rfl)) (fun b => .inl rfl), Nat.le_succ_of_le h1, h2⟩
      · simp only [es, T.res_br, T.res_ret, T.res_bad, decide_eq_true e1, decide_eq_true e2, e3, q1, q2, Bool.not_false, Bool.false_eq_true, reduceIte]
        exact ⟨_, rfl, StLe.less (Nat.zero_le 1) (fun t => .inr (.inl rfl)) (fun b => .inl rfl), Nat.le_succ_of_le h1, h2⟩
    · simp only [es, T.res_br, T.res_ret, T.res_bad, decide_eq_true e1, decide_eq_true e2, e3, q1, Bool.not_false, reduceIte]
      exact ⟨_, rfl, StLe.less (Nat.zero_le 1) (fun t => .inr (.inl rfl)) (fun b => .inl rfl), Nat.le_succ_of_le h1, h2⟩
theorem end_ot (me : Int) (nl : Bool) (n : Nat) (x : Nat → Ent) (nn : Bool) (d : Nat) (y : Nat → Int) (hb : n < 1048576) (hnl : nl = true → n = 0) (hme : 0 ≤ me ∧ me < (n : Int)) (hd : d ≤ 1048576) (hnn : nn = true → d = 0) (a : Nat × (Nat → Int)) (hI : (fun (i : Nat) (a : Nat × (Nat → Int)) => (a.1 ≤ i ∧ InI a.2 a.1 n : Prop)) (n) a) : ∃ st', (tgt_ot me nl n x nn d y (n) a).res = some (.exit 2, st') ∧ StLe 0 st' (⟨[(8, .v (.one (.sl (Nat.beq a.1 0) 0 1 0 0 a.1 a.1 false 1)))], [(0, .arr (!(Nat.beq a.1 0)) 1 a.1 (intE a.2))], 1, false, 0, []⟩) := by
  refine T.over_exP (g := fun s => (.exit 2, s)) (tree_ot me nl n x nn d y (n) a) ?_
  obtain ⟨c, z⟩ := a
  simp only [T.res_br, T.res_ret, T.res_bad, decide_eq_true_eq, Int.lt_irrefl, reduceIte]
  exact ⟨_, rfl, StLe.refl (Nat.zero_le 1)⟩
theorem loop_ot (me : Int) (nl : Bool) (n : Nat) (x : Nat → Ent) (nn : Bool) (d : Nat) (y : Nat → Int) (hb : n < 1048576) (hnl : nl = true → n = 0) (hme : 0 ≤ me ∧ me < (n : Int)) (hd : d ≤ 1048576) (hnn : nn = true → d = 0) (i : Nat) (a : Nat × (Nat → Int)) (hi : i ≤ n) (hI : (fun (i : Nat) (a : Nat × (Nat → Int)) => (a.1 ≤ i ∧ InI a.2 a.1 n : Prop)) i a) {st0 : St} (h0 : StLe 0 st0 (S_ot me nl n x nn d y i a)) (hnx : st0.nx = 0) :
    CodeOk Try.prog Try.f19.ntmps (.loop (loopOf Try.f19 12)) st0 (.exit 2) ((fun (a : Nat × (Nat → Int)) => ⟨[(8, .v (.one (.sl (Nat.beq a.1 0) 0 1 0 0 a.1 a.1 false 1)))], [(0, .arr (!(Nat.beq a.1 0)) 1 a.1 (intE a.2))], 1, false, 0, []⟩) (foldF (fun (i : Nat) (a : Nat × (Nat → Int)) => (toF me x d y i a)) (n - i) i a)) := by
  have := for_loop GORP2 GKRP2 (K := 300) (F := 19) (N := Try.f19.ntmps) (c := loopOf Try.f19 12) (m := 0) (live := [0, 1, 7, 8, 9]) (after := [8]) (S_ot me nl n x nn d y) (n) (fun (i : Nat) (a : Nat × (Nat → Int)) => .inl (toF me x d y i a)) (fun (a : Nat × (Nat → Int)) => (.exit 2, ⟨[(8, .v (.one (.sl (Nat.beq a.1 0) 0 1 0 0 a.1 a.1 false 1)))], [(0, .arr (!(Nat.beq a.1 0)) 1 a.1 (intE a.2))], 1, false, 0, []⟩)) (fun (i : Nat) (a : Nat × (Nat → Int)) => (a.1 ≤ i ∧ InI a.2 a.1 n : Prop))
    (fun i a hi hI => by obtain ⟨s, h1, h2, h3⟩ := round_ot me nl n x nn d y hb hnl hme hd hnn i a hi hI; exact ⟨_, s, h1, rfl, h2, h3⟩)
    (fun a hI => by obtain ⟨s, h1, h2⟩ := end_ot me nl n x nn d y hb hnl hme hd hnn a hI; exact ⟨_, s, h1, by simp, rfl, h2⟩)
    (fun i a => by first | exact Nat.le_refl _ | (show 0 ≤ _; decide) | (simp only [S_ot]; omega)) hi hI h0 hnx
  rw [foldX_inl] at this
  exact this
/-- the reference's answer -/
noncomputable def toA (me : Int) (x : Nat → Ent) (n d : Nat) (y : Nat → Int) : Nat × (Nat → Int) := foldF (toF me x d y) n 0 (0, fun _ => 0)

noncomputable def L_ot : LoopF := mkLoopF [0, 1, 7, 8, 9] (loopOf Try.f19 12) Try.f19.ntmps fun sl H nx => match keyed [0, 1, 7, 8, 9] sl, keyed [] H with
  | some [.v (.one (.f (.lit (.int .i64 me)))), .v (.one (.f (.fs nl k n e))), .v (.one (.f (.fs nn k2 d e2))), .v (.one (.f (.lit (.slice none z1 z2)))), .v (.one (.f (.lit (.int .i64 i))))], some [] => onlyB (Nat.beq nx 0 && (Nat.beq z1 0 && (Nat.beq z2 0))) (onlyB (Nat.beq k 5 && Nat.beq k2 1) (.need (pb (EntE e ∧ IntE e2 ∧ n < 1048576 ∧ (nl = true → n = 0) ∧ (0 ≤ me ∧ me < (n : Int)) ∧ d ≤ 1048576 ∧ (nn = true → d = 0) ∧ i = 0)) (.ret (.exit 2, (St.mk [(8, .v (.one (.sl (Nat.beq (toA me (entOf e) n d (intOf e2)).1 0) 0 1 0 0 (toA me (entOf e) n d (intOf e2)).1 (toA me (entOf e) n d (intOf e2)).1 false 1)))] [(0, .arr (!(Nat.beq (toA me (entOf e) n d (intOf e2)).1 0)) 1 (toA me (entOf e) n d (intOf e2)).1 (intE (toA me (entOf e) n d (intOf e2)).2))] 1 false 0 []).sl, (St.mk [(8, .v (.one (.sl (Nat.beq (toA me (entOf e) n d (intOf e2)).1 0) 0 1 0 0 (toA me (entOf e) n d (intOf e2)).1 (toA me (entOf e) n d (intOf e2)).1 false 1)))] [(0, .arr (!(Nat.beq (toA me (entOf e) n d (intOf e2)).1 0)) 1 (toA me (entOf e) n d (intOf e2)).1 (intE (toA me (entOf e) n d (intOf e2)).2))] 1 false 0 []).H, 1, false))))
  | _, _ => .bad
theorem L_ot_ok : LoopOk Try.prog L_ot := by
  refine mkLoopF_ok fun sl H nx e sl' H' nx' esc' h => ?_
  split at h
  · rename_i me nl k n e nn k2 d e2 z1 z2 i hsl hH
    have hsl := keyed_eq hsl
    have hH := keyed_eq hH
    subst hsl hH
    have h5 := onlyB_some h
    clear h
    obtain ⟨hck, h⟩ := h5
    simp only [Bool.and_eq_true, nbeq_iff] at hck
    obtain ⟨rfl, rfl, rfl⟩ := hck
    have h5 := onlyB_some h
    clear h
    have hw := h5.1
    have h := h5.2
    clear h5
    obtain ⟨hp, hret⟩ := T.need_some h
    have hp := pb_of hp
    have := T.ret_some hret
    simp only [Prod.mk.injEq] at this
    obtain ⟨rfl, rfl, rfl, rfl, rfl⟩ := this
    clear hret h
    obtain ⟨⟨x, rfl⟩, ⟨y, rfl⟩, h1, h2, h3, h4, h5, rfl⟩ := hp
    obtain ⟨hw1, hw2⟩ := Bool.and_eq_true_iff.1 hw
    obtain rfl := Nat.eq_of_beq_eq_true hw1
    obtain rfl := Nat.eq_of_beq_eq_true hw2
    refine loop_ot me nl n x nn d y h1 h2 h3 h4 h5 0 (0, fun _ => 0) (Nat.zero_le _) ⟨Nat.le_refl 0, fun k hk => absurd hk (Nat.not_lt_zero k)⟩ (StLe.row (Nat.le_refl 0) (fun t => ?_) (fun b hb => ?_) (fun h => by cases h)) rfl
    · by_cases h5 : 8 = t
      · subst h5
        exact .inr (.inr ⟨rfl, _, _, _, rfl⟩)
      · left
        simp only [S_ot, List.zip_cons_cons, List.zip_nil_right, Slots.get_cons, h5, if_false]
        rfl
    · rcases b with _ | b
      · exact absurd rfl hb
      · rfl
  · exact (T.bad_some h).elim
noncomputable def ll_ot : List (Nat × Nat × LoopF) := (19, 12, L_ot) :: ll_in
theorem ll_ot_ok : ∀ x ∈ ll_ot, LoopOk Try.prog x.2.2 := List.forall_mem_cons.2 ⟨L_ot_ok, ll_in_ok⟩
noncomputable def GRP3 : Ctx := GS.with ss_has ll_ot
noncomputable def tgt_RTz (me : Int) (nl : Bool) (n : Nat) (x : Nat → Ent) : T CallOut := evCallZ [] GRP3 300 19 [AI me, .one (.f (.fs nl 5 n (entE x)))] [] 0
theorem GKRP3 : KnownOk Try.prog GRP3 := KnownOk.lists ss_has_ok ll_ot_ok
theorem GORP3 : CtxOk Try.prog GRP3 := GS_ok.with _ _
theorem tree_RTz (me : Int) (nl : Bool) (n : Nat) (x : Nat → Ent) : (tgt_RTz me nl n x).over (.br (.tt (.tt (.tt (.tt (.tt .leaf))))) (.ff (.ff (.ff (.ff (.br .leaf (.br (.br (.br (.br (.br (.br (.br .leaf .skip) .skip) .skip) .skip) .skip) .skip) .skip))))))) = T.br (decide (me < (0 : Int))) (T.ret (out0 (SV.v (AV.one Nil)))) (T.br (decide (me ≥ (↑n : Int))) (T.ret (out0 (SV.v (AV.one Nil)))) (T.br (pb (Code.loop (loopOf Proofs.Try.f19 5) = Code.loop (loopOf Proofs.Try.f19 5) ∧ 121 = 121)) (T.br (pb (EntE (entE x) ∧ (nl = true → n = 0) ∧ n ≤ 1048576 ∧ (0 : Int) = (0 : Int))) (T.br (Nat.ble (Prod.fst (tgA (-1 : Int) x n)) (Prod.fst (tgA (-1 : Int) x n)) && (!Nat.beq (Prod.fst (tgA (-1 : Int) x n)) 0 || Nat.beq (Prod.fst (tgA (-1 : Int) x n)) 0)) (T.br (pb (IntE (intE (Prod.snd (tgA (-1 : Int) x n))) ∧ (Nat.beq (Prod.fst (tgA (-1 : Int) x n)) 0 = true → Prod.fst (tgA (-1 : Int) x n) = 0) ∧ Prod.fst (tgA (-1 : Int) x n) ≤ 1048576)) (T.br (pb (Code.loop (loopOf Proofs.Try.f19 12) = Code.loop (loopOf Proofs.Try.f19 12) ∧ 121 = 121)) (T.br (pb (EntE (entE x) ∧ IntE (intE (nzE me (Prod.snd (tgA (-1 : Int) x n)) (Prod.fst (tgA (-1 : Int) x n)))) ∧ n < 1048576 ∧ (nl = true → n = 0) ∧ ((0 : Int) ≤ me ∧ me < (↑n : Int)) ∧ nzL me (Prod.snd (tgA (-1 : Int) x n)) (Prod.fst (tgA (-1 : Int) x n)) ≤ 1048576 ∧ (nzN me (Prod.snd (tgA (-1 : Int) x n)) (Prod.fst (tgA (-1 : Int) x n)) = true → nzL me (Prod.snd (tgA (-1 : Int) x n)) (Prod.fst (tgA (-1 : Int) x n)) = 0) ∧ (0 : Int) = (0 : Int))) (T.br (Nat.ble (Prod.fst (toA me x n (nzL me (Prod.snd (tgA (-1 : Int) x n)) (Prod.fst (tgA (-1 : Int) x n))) (nzE me (Prod.snd (tgA (-1 : Int) x n)) (Prod.fst (tgA (-1 : Int) x n))))) (Prod.fst (toA me x n (nzL me (Prod.snd (tgA (-1 : Int) x n)) (Prod.fst (tgA (-1 : Int) x n))) (nzE me (Prod.snd (tgA (-1 : Int) x n)) (Prod.fst (tgA (-1 : Int) x n))))) && (!Nat.beq (Prod.fst (toA me x n (nzL me (Prod.snd (tgA (-1 : Int) x n)) (Prod.fst (tgA (-1 : Int) x n))) (nzE me (Prod.snd (tgA (-1 : Int) x n)) (Prod.fst (tgA (-1 : Int) x n))))) 0 || Nat.beq (Prod.fst (toA me x n (nzL me (Prod.snd (tgA (-1 : Int) x n)) (Prod.fst (tgA (-1 : Int) x n))) (nzE me (Prod.snd (tgA (-1 : Int) x n)) (Prod.fst (tgA (-1 : Int) x n))))) 0)) (T.ret (out0 (SV.v (AV.one (CV.f (FV.fs (Nat.beq (Prod.fst (toA me x n (nzL me (Prod.snd (tgA (-1 : Int) x n)) (Prod.fst (tgA (-1 : Int) x n))) (nzE me (Prod.snd (tgA (-1 : Int) x n)) (Prod.fst (tgA (-1 : Int) x n))))) 0) 1 (Prod.fst (toA me x n (nzL me (Prod.snd (tgA (-1 : Int) x n)) (Prod.fst (tgA (-1 : Int) x n))) (nzE me (Prod.snd (tgA (-1 : Int) x n)) (Prod.fst (tgA (-1 : Int) x n))))) fun a => [FV.lit (.int .i64 (Prod.snd (toA me x n (nzL me (Prod.snd (tgA (-1 : Int) x n)) (Prod.fst (tgA (-1 : Int) x n))) (nzE me (Prod.snd (tgA (-1 : Int) x n)) (Prod.fst (tgA (-1 : Int) x n)))) a))])))))) T.bad) T.bad) T.bad) T.bad) T.bad) T.bad) T.bad)) := by kernel_rfl
end Go.Proofs.Ytggneleipimijaa.En
