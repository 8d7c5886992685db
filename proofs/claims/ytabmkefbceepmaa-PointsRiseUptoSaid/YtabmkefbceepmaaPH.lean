/- What the points come to, told as one. -/
import Derived.Test.YtabmkefbceepmaaPG
namespace Go.Proofs.Ytabmkefbceepmaa.En
open Go
set_option linter.unusedVariables false
set_option linter.unusedSimpArgs false
set_option maxRecDepth 20000
theorem to_New (h s : Int) : CallTo Try.prog 29 [.agg [I h, I s]] [] 0 (⟨.v (.agg [I (bif rtB h s then h else 0), .f (.fs (!rtB h s) 2 (bif rtB h s then s.toNat else 0) (ptE (fun _ => 1) fun i => Int.tmod i h))]), [], 0, false, []⟩) := by
  cases hr : rtB h s with
  | false =>
    have h1 : (tgt_New0 h s).res = some (out0 (.v (.agg [I 0, Nil]))) := by
      refine T.over_eq _ (tree_New0 h s) ?_
      simp only [T.res_br, T.res_ret, T.res_bad, hr, Bool.not_false, reduceIte]
    exact (evCallZ_ok (GS_ok.with _ _) GKPG3 h1).less (Nat.le_refl 0) (.inr (.inr ⟨_, _, rfl, rfl, .inl rfl, .f FV.le_nil, trivial⟩)) (fun b => .inl rfl) rfl rfl
  | true =>
  have hr0 := hr
  unfold rtB at hr0
  have hr1 := of_decide_eq_true hr0
  have h0 : ¬ h = 0 := by omega
  have hc : s = 1 ∨ s = 2 ∨ s = 3 ∨ s = 4 ∨ s = 5 ∨ s = 6 := by omega
  rcases hc with rfl | rfl | rfl | rfl | rfl | rfl
  · have h1 : ∃ (q : Bool) (e : Nat → List FV), (tgt_New1 h).res = some (⟨.v (.agg [I h, .f ((.fs false 2 1 e))]), [], 0, q, []⟩) ∧ ∀ i, i < 1 → e i = ptE (fun _ => 1) (fun i => Int.tmod i h) i := by
      refine T.over_exP2 (tree_New1 h) ?_
      refine ⟨true, ?_, ?_, ?_⟩
      rotate_left
      · simp only [T.res_br, T.res_ret, T.res_bad, hr, Bool.not_true, Bool.false_eq_true, decide_eq_true_eq, h0, reduceIte]
        rfl
      · intro i hi
        have : i = 0 := by omega
        rcases this with rfl <;> rfl
    obtain ⟨esc, e, h1, h2⟩ := h1
    have h3 := (evCallZ_ok (GS_ok.with _ _) GKPG2 h1).noesc (wr' := []) (fun b l h => by cases h)
    exact h3.less (Nat.le_refl 0) (.inr (.inr ⟨_, _, rfl, rfl, .inl rfl, .f (FV.le_fs h2), trivial⟩)) (fun b => .inl rfl) rfl rfl
  · have h1 : ∃ (q : Bool) (e : Nat → List FV), (tgt_New2 h).res = some (⟨.v (.agg [I h, .f ((.fs false 2 2 e))]), [], 0, q, []⟩) ∧ ∀ i, i < 2 → e i = ptE (fun _ => 1) (fun i => Int.tmod i h) i := by
      refine T.over_exP2 (tree_New2 h) ?_
      refine ⟨true, ?_, ?_, ?_⟩
      rotate_left
      · simp only [T.res_br, T.res_ret, T.res_bad, hr, Bool.not_true, Bool.false_eq_true, decide_eq_true_eq, h0, reduceIte]
        rfl
      · intro i hi
        have : i = 0 ∨ i = 1 := by omega
        rcases this with rfl | rfl <;> rfl
    obtain ⟨esc, e, h1, h2⟩ := h1
    have h3 := (evCallZ_ok (GS_ok.with _ _) GKPG2 h1).noesc (wr' := []) (fun b l h => by cases h)
    exact h3.less (Nat.le_refl 0) (.inr (.inr ⟨_, _, rfl, rfl, .inl rfl, .f (FV.le_fs h2), trivial⟩)) (fun b => .inl rfl) rfl rfl
  · have h1 : ∃ (q : Bool) (e : Nat → List FV), (tgt_New3 h).res = some (⟨.v (.agg [I h, .f ((.fs false 2 3 e))]), [], 0, q, []⟩) ∧ ∀ i, i < 3 → e i = ptE (fun _ => 1) (fun i => Int.tmod i h) i := by
      refine T.over_exP2 (tree_New3 h) ?_
      refine ⟨true, ?_, ?_, ?_⟩
      rotate_left
      · simp only [T.res_br, T.res_ret, T.res_bad, hr, Bool.not_true, Bool.false_eq_true, decide_eq_true_eq, h0, reduceIte]
        rfl
      · intro i hi
        have : i = 0 ∨ i = 1 ∨ i = 2 := by omega
        rcases this with rfl | rfl | rfl <;> rfl
    obtain ⟨esc, e, h1, h2⟩ := h1
    have h3 := (evCallZ_ok (GS_ok.with _ _) GKPG2 h1).noesc (wr' := []) (fun b l h => by cases h)
    exact h3.less (Nat.le_refl 0) (.inr (.inr ⟨_, _, rfl, rfl, .inl rfl, .f (FV.le_fs h2), trivial⟩)) (fun b => .inl rfl) rfl rfl
  · have h1 : ∃ (q : Bool) (e : Nat → List FV), (tgt_New4 h).res = some (⟨.v (.agg [I h, .f ((.fs false 2 4 e))]), [], 0, q, []⟩) ∧ ∀ i, i < 4 → e i = ptE (fun _ => 1) (fun i => Int.tmod i h) i := by
      refine T.over_exP2 (tree_New4 h) ?_
      refine ⟨true, ?_, ?_, ?_⟩
      rotate_left
      · simp only [T.res_br, T.res_ret, T.res_bad, hr, Bool.not_true, Bool.false_eq_true, decide_eq_true_eq, h0, reduceIte]
        rfl
      · intro i hi
        have : i = 0 ∨ i = 1 ∨ i = 2 ∨ i = 3 := by omega
        rcases this with rfl | rfl | rfl | rfl <;> rfl
    obtain ⟨esc, e, h1, h2⟩ := h1
    have h3 := (evCallZ_ok (GS_ok.with _ _) GKPG2 h1).noesc (wr' := []) (fun b l h => by cases h)
    exact h3.less (Nat.le_refl 0) (.inr (.inr ⟨_, _, rfl, rfl, .inl rfl, .f (FV.le_fs h2), trivial⟩)) (fun b => .inl rfl) rfl rfl
  · have h1 : ∃ (q : Bool) (e : Nat → List FV), (tgt_New5 h).res = some (⟨.v (.agg [I h, .f ((.fs false 2 5 e))]), [], 0, q, []⟩) ∧ ∀ i, i < 5 → e i = ptE (fun _ => 1) (fun i => Int.tmod i h) i := by
      refine T.over_exP2 (tree_New5 h) ?_
      refine ⟨true, ?_, ?_, ?_⟩
      rotate_left
      · simp only [T.res_br, T.res_ret, T.res_bad, hr, Bool.not_true, Bool.false_eq_true, decide_eq_true_eq, h0, reduceIte]
        rfl
      · intro i hi
        have : i = 0 ∨ i = 1 ∨ i = 2 ∨ i = 3 ∨ i = 4 := by omega
        rcases this with rfl | rfl | rfl | rfl | rfl <;> rfl
    obtain ⟨esc, e, h1, h2⟩ := h1
    have h3 := (evCallZ_ok (GS_ok.with _ _) GKPG2 h1).noesc (wr' := []) (fun b l h => by cases h)
    exact h3.less (Nat.le_refl 0) (.inr (.inr ⟨_, _, rfl, rfl, .inl rfl, .f (FV.le_fs h2), trivial⟩)) (fun b => .inl rfl) rfl rfl
  · have h1 : ∃ (q : Bool) (e : Nat → List FV), (tgt_New6 h).res = some (⟨.v (.agg [I h, .f ((.fs false 2 6 e))]), [], 0, q, []⟩) ∧ ∀ i, i < 6 → e i = ptE (fun _ => 1) (fun i => Int.tmod i h) i := by
      refine T.over_exP2 (tree_New6 h) ?_
      refine ⟨true, ?_, ?_, ?_⟩
      rotate_left
      · simp only [T.res_br, T.res_ret, T.res_bad, hr, Bool.not_true, Bool.false_eq_true, decide_eq_true_eq, h0, reduceIte]
        rfl
      · intro i hi
        have : i = 0 ∨ i = 1 ∨ i = 2 ∨ i = 3 ∨ i = 4 ∨ i = 5 := by omega
        rcases this with rfl | rfl | rfl | rfl | rfl | rfl <;> rfl
    obtain ⟨esc, e, h1, h2⟩ := h1
    have h3 := (evCallZ_ok (GS_ok.with _ _) GKPG2 h1).noesc (wr' := []) (fun b l h => by cases h)
    exact h3.less (Nat.le_refl 0) (.inr (.inr ⟨_, _, rfl, rfl, .inl rfl, .f (FV.le_fs h2), trivial⟩)) (fun b => .inl rfl) rfl rfl

noncomputable def F_PNew : SumF
  | [.agg [.f (.lit (.int .i64 h)), .f (.lit (.int .i64 s))]], [], 0 => .ret (⟨.v (.agg [I (bif rtB h s then h else 0), .f (.fs (!rtB h s) 2 (bif rtB h s then s.toNat else 0) (ptE (fun _ => 1) fun i => Int.tmod i h))]), [], 0, false, []⟩)
  | _, _, _ => .bad
theorem sum_PNew : SumOk Try.prog 29 F_PNew := by
  refine ⟨fun args H nx r hr => ?_, fun args H nx => ?_⟩
  · unfold F_PNew at hr
    split at hr
    · have := T.ret_some hr
      subst this
      exact to_New _ _
    · exact (T.bad_some hr).elim
  · unfold F_PNew
    split
    · exact ⟨Nat.zero_le _, fun b hb hw => absurd hb (Nat.not_lt_zero b)⟩
    · trivial
noncomputable def ss_PNew : List (Nat × SumF) := (29, canonSum F_PNew) :: ss_RPoint
theorem ss_PNew_ok : ∀ x ∈ ss_PNew, SumOk Try.prog x.1 x.2 := List.forall_mem_cons.2 ⟨canonSum_ok sum_PNew, ss_RPoint_ok⟩
theorem to_RNew (h s : Int) : CallTo Try.prog 35 [.agg [I h, I s]] [] 0 (⟨.v (.agg [I (bif rtB h s then h else 0), .f (.fs (!rtB h s) 2 (bif rtB h s then s.toNat else 0) (ptE (fun _ => 1) fun i => Int.tmod i h))]), [], 0, false, []⟩) := by
  cases hr : rtB h s with
  | false =>
    have h1 : (tgt_RNew0 h s).res = some (out0 (.v (.agg [I 0, Nil]))) := by
      refine T.over_eq _ (tree_RNew0 h s) ?_
      simp only [T.res_br, T.res_ret, T.res_bad, hr, Bool.not_false, reduceIte]
    exact (evCallZ_ok (GS_ok.with _ _) GKPG3 h1).less (Nat.le_refl 0) (.inr (.inr ⟨_, _, rfl, rfl, .inl rfl, .f FV.le_nil, trivial⟩)) (fun b => .inl rfl) rfl rfl
  | true =>
  have hr0 := hr
  unfold rtB at hr0
  have hr1 := of_decide_eq_true hr0
  have h0 : ¬ h = 0 := by omega
  have hc : s = 1 ∨ s = 2 ∨ s = 3 ∨ s = 4 ∨ s = 5 ∨ s = 6 := by omega
  rcases hc with rfl | rfl | rfl | rfl | rfl | rfl
  · have h1 : ∃ (q : Bool) (e : Nat → List FV), (tgt_RNew1 h).res = some (⟨.v (.agg [I h, .f ((.fs false 2 1 e))]), [], 0, q, []⟩) ∧ ∀ i, i < 1 → e i = ptE (fun _ => 1) (fun i => Int.tmod i h) i := by
      refine T.over_exP2 (tree_RNew1 h) ?_
      refine ⟨true, ?_, ?_, ?_⟩
      rotate_left
      · simp only [T.res_br, T.res_ret, T.res_bad, hr, Bool.not_true, Bool.false_eq_true, decide_eq_true_eq, h0, reduceIte]
        rfl
      · intro i hi
        have : i = 0 := by omega
        rcases this with rfl <;> rfl
    obtain ⟨esc, e, h1, h2⟩ := h1
    have h3 := (evCallZ_ok (GS_ok.with _ _) GKPG2 h1).noesc (wr' := []) (fun b l h => by cases h)
    exact h3.less (Nat.le_refl 0) (.inr (.inr ⟨_, _, rfl, rfl, .inl rfl, .f (FV.le_fs h2), trivial⟩)) (fun b => .inl rfl) rfl rfl
  · have h1 : ∃ (q : Bool) (e : Nat → List FV), (tgt_RNew2 h).res = some (⟨.v (.agg [I h, .f ((.fs false 2 2 e))]), [], 0, q, []⟩) ∧ ∀ i, i < 2 → e i = ptE (fun _ => 1) (fun i => Int.tmod i h) i := by
      refine T.over_exP2 (tree_RNew2 h) ?_
      refine ⟨true, ?_, ?_, ?_⟩
      rotate_left
      · simp only [T.res_br, T.res_ret, T.res_bad, hr, Bool.not_true, Bool.false_eq_true, decide_eq_true_eq, h0, reduceIte]
        rfl
      · intro i hi
        have : i = 0 ∨ i = 1 := by omega
        rcases this with rfl | rfl <;> rfl
    obtain ⟨esc, e, h1, h2⟩ := h1
    have h3 := (evCallZ_ok (GS_ok.with _ _) GKPG2 h1).noesc (wr' := []) (fun b l h => by cases h)
    exact h3.less (Nat.le_refl 0) (.inr (.inr ⟨_, _, rfl, rfl, .inl rfl, .f (FV.le_fs h2), trivial⟩)) (fun b => .inl rfl) rfl rfl
  · have h1 : ∃ (q : Bool) (e : Nat → List FV), (tgt_RNew3 h).res = some (⟨.v (.agg [I h, .f ((.fs false 2 3 e))]), [], 0, q, []⟩) ∧ ∀ i, i < 3 → e i = ptE (fun _ => 1) (fun i => Int.tmod i h) i := by
      refine T.over_exP2 (tree_RNew3 h) ?_
      refine ⟨true, ?_, ?_, ?_⟩
      rotate_left
      · simp only [T.res_br, T.res_ret, T.res_bad, hr, Bool.not_true, Bool.false_eq_true, decide_eq_true_eq, h0, reduceIte]
        rfl
      · intro i hi
        have : i = 0 ∨ i = 1 ∨ i = 2 := by omega
        rcases this with rfl | rfl | rfl <;> rfl
    obtain ⟨esc, e, h1, h2⟩ := h1
    have h3 := (evCallZ_ok (GS_ok.with _ _) GKPG2 h1).noesc (wr' := []) (fun b l h => by cases h)
    exact h3.less (Nat.le_refl 0) (.inr (.inr ⟨_, _, rfl, rfl, .inl rfl, .f (FV.le_fs h2), trivial⟩)) (fun b => .inl rfl) rfl rfl
  · have h1 : ∃ (q : Bool) (e : Nat → List FV), (tgt_RNew4 h).res = some (⟨.v (.agg [I h, .f ((.fs false 2 4 e))]), [], 0, q, []⟩) ∧ ∀ i, i < 4 → e i = ptE (fun _ => 1) (fun i => Int.tmod i h) i := by
      refine T.over_exP2 (tree_RNew4 h) ?_
      refine ⟨true, ?_, ?_, ?_⟩
      rotate_left
      · simp only [T.res_br, T.res_ret, T.res_bad, hr, Bool.not_true, Bool.false_eq_true, decide_eq_true_eq, h0, reduceIte]
        rfl
      · intro i hi
        have : i = 0 ∨ i = 1 ∨ i = 2 ∨ i = 3 := by omega
        rcases this with rfl | rfl | rfl | rfl <;> rfl
    obtain ⟨esc, e, h1, h2⟩ := h1
    have h3 := (evCallZ_ok (GS_ok.with _ _) GKPG2 h1).noesc (wr' := []) (fun b l h => by cases h)
    exact h3.less (Nat.le_refl 0) (.inr (.inr ⟨_, _, rfl, rfl, .inl rfl, .f (FV.le_fs h2), trivial⟩)) (fun b => .inl rfl) rfl rfl
  · have h1 : ∃ (q : Bool) (e : Nat → List FV), (tgt_RNew5 h).res = some (⟨.v (.agg [I h, .f ((.fs false 2 5 e))]), [], 0, q, []⟩) ∧ ∀ i, i < 5 → e i = ptE (fun _ => 1) (fun i => Int.tmod i h) i := by
      refine T.over_exP2 (tree_RNew5 h) ?_
      refine ⟨true, ?_, ?_, ?_⟩
      rotate_left
      · simp only [T.res_br, T.res_ret, T.res_bad, hr, Bool.not_true, Bool.false_eq_true, decide_eq_true_eq, h0, reduceIte]
        rfl
      · intro i hi
        have : i = 0 ∨ i = 1 ∨ i = 2 ∨ i = 3 ∨ i = 4 := by omega
        rcases this with rfl | rfl | rfl | rfl | rfl <;> rfl
    obtain ⟨esc, e, h1, h2⟩ := h1
    have h3 := (evCallZ_ok (GS_ok.with _ _) GKPG2 h1).noesc (wr' := []) (fun b l h => by cases h)
    exact h3.less (Nat.le_refl 0) (.inr (.inr ⟨_, _, rfl, rfl, .inl rfl, .f (FV.le_fs h2), trivial⟩)) (fun b => .inl rfl) rfl rfl
  · have h1 : ∃ (q : Bool) (e : Nat → List FV), (tgt_RNew6 h).res = some (⟨.v (.agg [I h, .f ((.fs false 2 6 e))]), [], 0, q, []⟩) ∧ ∀ i, i < 6 → e i = ptE (fun _ => 1) (fun i => Int.tmod i h) i := by
      refine T.over_exP2 (tree_RNew6 h) ?_
      refine ⟨true, ?_, ?_, ?_⟩
      rotate_left
      · simp only [T.res_br, T.res_ret, T.res_bad, hr, Bool.not_true, Bool.false_eq_true, decide_eq_true_eq, h0, reduceIte]
        rfl
      · intro i hi
        have : i = 0 ∨ i = 1 ∨ i = 2 ∨ i = 3 ∨ i = 4 ∨ i = 5 := by omega
        rcases this with rfl | rfl | rfl | rfl | rfl | rfl <;> rfl
    obtain ⟨esc, e, h1, h2⟩ := h1
    have h3 := (evCallZ_ok (GS_ok.with _ _) GKPG2 h1).noesc (wr' := []) (fun b l h => by cases h)
    exact h3.less (Nat.le_refl 0) (.inr (.inr ⟨_, _, rfl, rfl, .inl rfl, .f (FV.le_fs h2), trivial⟩)) (fun b => .inl rfl) rfl rfl

noncomputable def F_PRNew : SumF
  | [.agg [.f (.lit (.int .i64 h)), .f (.lit (.int .i64 s))]], [], 0 => .ret (⟨.v (.agg [I (bif rtB h s then h else 0), .f (.fs (!rtB h s) 2 (bif rtB h s then s.toNat else 0) (ptE (fun _ => 1) fun i => Int.tmod i h))]), [], 0, false, []⟩)
  | _, _, _ => .bad
theorem sum_PRNew : SumOk Try.prog 35 F_PRNew := by
  refine ⟨fun args H nx r hr => ?_, fun args H nx => ?_⟩
  · unfold F_PRNew at hr
    split at hr
    · have := T.ret_some hr
      subst this
      exact to_RNew _ _
    · exact (T.bad_some hr).elim
  · unfold F_PRNew
    split
    · exact ⟨Nat.zero_le _, fun b hb hw => absurd hb (Nat.not_lt_zero b)⟩
    · trivial
noncomputable def ss_PRNew : List (Nat × SumF) := (35, canonSum F_PRNew) :: ss_PNew
theorem ss_PRNew_ok : ∀ x ∈ ss_PRNew, SumOk Try.prog x.1 x.2 := List.forall_mem_cons.2 ⟨canonSum_ok sum_PRNew, ss_PNew_ok⟩
noncomputable def F_All : SumF
  | [.one (.ptr 0 0 0 0)], [(0, .cells [.f (.lit (.int .i64 hs)), .f (.fs nl 2 n e)])], 1 => .need (pb (PtN e nl n)) (.ret (⟨.v (.one (.f (.fs nl 2 n e))), [(0, .cells [I hs, .f (.fs nl 2 n e)])], 1, false, []⟩))
  | _, _, _ => .bad
theorem sum_All : SumOk Try.prog 32 F_All := by
  refine ⟨fun args H nx r hr => ?_, fun args H nx => ?_⟩
  · unfold F_All at hr
    split at hr
    · obtain ⟨h0, hr⟩ := T.need_some hr
      have := T.ret_some hr
      subst this
      have h := pb_of h0
      obtain ⟨⟨ep, ho, rfl⟩, h⟩ := h
      exact to_All _ _ _ ep ho h
    · exact (T.bad_some hr).elim
  · unfold F_All
    split
    · exact T.Every.need ⟨by first | exact Nat.le_refl _ | (dsimp only; omega), fun b hb hw => by
        have : b = 0 := by omega
        subst this <;> first | rfl | exact absurd (by dsimp only; decide) hw⟩
    · trivial
noncomputable def ss_All : List (Nat × SumF) := (32, canonSum F_All) :: ss_PRNew
theorem ss_All_ok : ∀ x ∈ ss_All, SumOk Try.prog x.1 x.2 := List.forall_mem_cons.2 ⟨canonSum_ok sum_All, ss_PRNew_ok⟩
noncomputable def F_Learn : SumF
  | [.one (.ptr 0 0 0 0), .one (.f (.lit (.int .i64 s))), .agg [.f (.lit (.int .i64 x)), .f (.lit (.int .i64 y))]], [(0, .cells [.f (.lit (.int .i64 hs)), .f (.fs nl 2 n e)])], 1 => .need (pb (PtN e nl n)) (.ret (⟨.v (AB (learnB hs n (epOf e) s x y)), [(0, .cells [I hs, .f (.fs nl 2 n (ptE (updP (learnB hs n (epOf e) s x y) (epOf e) s.toNat x) (updP (learnB hs n (epOf e) s x y) (hoOf e) s.toNat y)))])], 1, false, [0]⟩))
  | _, _, _ => .bad
theorem sum_Learn : SumOk Try.prog 30 F_Learn := by
  refine ⟨fun args H nx r hr => ?_, fun args H nx => ?_⟩
  · unfold F_Learn at hr
    split at hr
    · obtain ⟨h0, hr⟩ := T.need_some hr
      have := T.ret_some hr
      subst this
      have h := pb_of h0
      obtain ⟨⟨ep, ho, rfl⟩, h⟩ := h
      exact to_Learn _ _ _ ep ho _ _ _ h
    · exact (T.bad_some hr).elim
  · unfold F_Learn
    split
    · exact T.Every.need ⟨by first | exact Nat.le_refl _ | (dsimp only; omega), fun b hb hw => by
        have : b = 0 := by omega
        subst this <;> first | rfl | exact absurd (by dsimp only; decide) hw⟩
    · trivial
noncomputable def ss_Learn : List (Nat × SumF) := (30, canonSum F_Learn) :: ss_All
theorem ss_Learn_ok : ∀ x ∈ ss_Learn, SumOk Try.prog x.1 x.2 := List.forall_mem_cons.2 ⟨canonSum_ok sum_Learn, ss_All_ok⟩
noncomputable def F_RLearn : SumF
  | [.one (.ptr 0 0 0 0), .one (.f (.lit (.int .i64 s))), .agg [.f (.lit (.int .i64 x)), .f (.lit (.int .i64 y))]], [(0, .cells [.f (.lit (.int .i64 hs)), .f (.fs nl 2 n e)])], 1 => .need (pb (PtN e nl n)) (.ret (⟨.v (AB (learnB hs n (epOf e) s x y)), [(0, .cells [I hs, .f (.fs nl 2 n (ptE (updP (learnB hs n (epOf e) s x y) (epOf e) s.toNat x) (updP (learnB hs n (epOf e) s x y) (hoOf e) s.toNat y)))])], 1, false, [0]⟩))
  | _, _, _ => .bad
theorem sum_RLearn : SumOk Try.prog 38 F_RLearn := by
  refine ⟨fun args H nx r hr => ?_, fun args H nx => ?_⟩
  · unfold F_RLearn at hr
    split at hr
    · obtain ⟨h0, hr⟩ := T.need_some hr
      have := T.ret_some hr
      subst this
      have h := pb_of h0
      obtain ⟨⟨ep, ho, rfl⟩, h⟩ := h
      exact to_RLearn _ _ _ ep ho _ _ _ h
    · exact (T.bad_some hr).elim
  · unfold F_RLearn
    split
    · exact T.Every.need ⟨by first | exact Nat.le_refl _ | (dsimp only; omega), fun b hb hw => by
        have : b = 0 := by omega
        subst this <;> first | rfl | exact absurd (by dsimp only; decide) hw⟩
    · trivial
noncomputable def ss_RLearn : List (Nat × SumF) := (38, canonSum F_RLearn) :: ss_Learn
theorem ss_RLearn_ok : ∀ x ∈ ss_RLearn, SumOk Try.prog x.1 x.2 := List.forall_mem_cons.2 ⟨canonSum_ok sum_RLearn, ss_Learn_ok⟩
theorem ptN_new (a b : Nat → Int) (h s : Int) : PtN (ptE a b) (!rtB h s) (bif rtB h s then s.toNat else 0) := by
  refine ⟨⟨_, _, rfl⟩, ?_⟩
  cases hr : rtB h s with
  | true =>
    have := of_decide_eq_true hr
    refine ⟨?_, ?_⟩
    · simp only [cond_true]; omega
    · simp only [cond_true, Bool.not_true, Bool.false_eq_true, false_iff]; omega
  | false => exact ⟨by simp, by simp⟩

noncomputable def GPH1 : Ctx := GS.with ss_RLearn ll_tell
noncomputable def tgt_Known17  : T CallOut := evCallZ [] GPH1 300 33 [] [] 0
theorem GKPH1 : KnownOk Try.prog GPH1 := KnownOk.lists ss_RLearn_ok ll_tell_ok
theorem tree_Known17  : (tgt_Known17 ).over (.br (.tt (.tt (.tt (.tt (.tt (.br (.tt (.tt (.tt .leaf))) .skip)))))) .skip) =
  T.br (pb (PtN (ptE (fun x => (1 : Int)) fun i => Int.tmod (↑i : Int) (2 : Int)) (!rtB (2 : Int) (3 : Int)) (3 : Nat)))
    (T.br (pb (PtN (ptE (fun x => (1 : Int)) fun i => Int.tmod (↑i : Int) (2 : Int)) (!rtB (2 : Int) (3 : Int)) (3 : Nat))) (T.ret (out0 (SV.v (AB true)))) T.bad) T.bad := by kernel_rfl
theorem res_Known17  : (tgt_Known17 ).res = some (out0 (.v (AB true))) := by
  refine T.over_eq _ (tree_Known17 ) ?_
  simp only [T.res_br, T.res_ret, T.res_bad]
  have h1 : PtN (ptE (fun x => (1 : Int)) fun i => Int.tmod (↑i : Int) (2 : Int)) (!rtB (2 : Int) (3 : Int)) (3 : Nat) := ⟨⟨_, _, rfl⟩, by decide, by decide⟩
  rw [if_pos (pb_true h1), if_pos (pb_true h1)]
noncomputable def F_Known17 : SumF
  | [], [], 0 => .ret (out0 (.v (AB true)))
  | _, _, _ => .bad
theorem sum_Known17 : SumOk Try.prog 33 F_Known17 := by
  refine ⟨fun args H nx r hr => ?_, fun args H nx => ?_⟩
  · unfold F_Known17 at hr
    split at hr
    · have := T.ret_some hr
      subst this
      exact evCallZ_ok (GS_ok.with _ _) GKPH1 (res_Known17 )
    · exact (T.bad_some hr).elim
  · unfold F_Known17
    split
    · exact ⟨Nat.zero_le _, fun b hb hw => absurd hb (Nat.not_lt_zero b)⟩
    · trivial
noncomputable def ss_Known17 : List (Nat × SumF) := (33, canonSum F_Known17) :: ss_RLearn
theorem ss_Known17_ok : ∀ x ∈ ss_Known17, SumOk Try.prog x.1 x.2 := List.forall_mem_cons.2 ⟨canonSum_ok sum_Known17, ss_RLearn_ok⟩
end Go.Proofs.Ytabmkefbceepmaa.En
