/- MemberOrder. -/
import Derived.Test.YtdoehlinboiohaaPC
namespace Go.Proofs.Ytdoehlinboiohaa.En
open Go
set_option linter.unusedVariables false
set_option linter.unusedSimpArgs false
set_option maxRecDepth 20000
set_option maxHeartbeats 1000000
noncomputable def GPD1 : Ctx := GS.with ss_Table ll_tb
noncomputable def tgt_Known12  : T CallOut := evCallW [] GPD1 300 15 [] [] 0
theorem GKPD1 : KnownOk Try.prog GPD1 := KnownOk.lists ss_Table_ok ll_tb_ok
theorem GOPD1 : CtxOk Try.prog GPD1 := GS_ok.with _ _
theorem tree_Known12  : (tgt_Known12 ).over (.tt (.tt (.tt (.tt (.tt (.tt (.tt (.tt (.tt (.tt (.br (.tt (.tt (.tt .leaf))) .skip))))))))))) =
  T.br (pb (EntL true (0 : Nat) (entE fun x => default))) (T.ret (out0 (SV.v (AB true)))) T.bad := by kernel_rfl
theorem res_Known12  : (tgt_Known12 ).res = some (out0 (.v (AB true))) := by
  refine T.over_eq _ (tree_Known12 ) ?_
  simp only [T.res_br, T.res_ret, T.res_bad]
  rw [if_pos (pb_true (by exact ⟨entN _ _, by decide, fun _ => rfl⟩))]
noncomputable def F_Known12 : SumF
  | [], [], 0 => .ret (out0 (.v (AB true)))
  | _, _, _ => .bad
theorem sum_Known12 : SumOk Try.prog 15 F_Known12 := by
  refine ⟨fun args H nx r hr => ?_, fun args H nx => ?_⟩
  · unfold F_Known12 at hr
    split at hr
    · have := T.ret_some hr
      subst this
      exact evCallW_ok GOPD1 GKPD1 (res_Known12 )
    · exact (T.bad_some hr).elim
  · unfold F_Known12
    split
    · exact ⟨Nat.zero_le _, fun b hb hw => absurd hb (Nat.not_lt_zero b)⟩
    · trivial
noncomputable def sm_Known12 : SumF := canonSum F_Known12
theorem sm_Known12_ok : SumOk Try.prog 15 sm_Known12 := canonSum_ok sum_Known12
noncomputable def ss_Known12 : List (Nat × SumF) := (15, sm_Known12) :: ss_Table
theorem ss_Known12_ok : ∀ x ∈ ss_Known12, SumOk Try.prog x.1 x.2 := List.forall_mem_cons.2 ⟨sm_Known12_ok, ss_Table_ok⟩
def eqE (a b : Ent) : Bool := a.inc == b.inc && (a.st == b.st && (a.stamp == b.stamp && (a.load == b.load && (a.dr == b.dr && true))))
theorem eqE_iff (a b : Ent) : eqE a b = true ↔ a = b := by
  obtain ⟨a1, a2, a3, a4, a5⟩ := a
  obtain ⟨b1, b2, b3, b4, b5⟩ := b
  simp [eqE]
theorem eqE_refl (a : Ent) : eqE a a = true := (eqE_iff a a).2 rfl
theorem lessP (a b : Ent) : lessB a b = true ↔ (a.inc < b.inc ∨ (a.inc = b.inc ∧ (a.st < b.st ∨ (a.st = b.st ∧ (a.stamp < b.stamp ∨ (a.stamp = b.stamp ∧ (a.load < b.load ∨ (a.load = b.load ∧ cond a.dr (1 : Int) 0 < cond b.dr 1 0)))))))) := by
  have e : ∀ x y : Bool, (!x && y) = decide (cond x (1 : Int) 0 < cond y 1 0) := fun x y => by cases x <;> cases y <;> rfl
  rw [lessB_eq, e]
  generalize cond a.dr (1 : Int) 0 = x
  generalize cond b.dr (1 : Int) 0 = y
  repeat' split
  all_goals simp only [decide_eq_true_eq, ne_eq, Decidable.not_not] at *
  all_goals omega
theorem bit_inj {a b : Bool} (h : cond a (1 : Int) 0 = cond b 1 0) : a = b := by cases a <;> cases b <;> simp_all
theorem less_irr (a : Ent) : lessB a a = false := by
  cases h : lessB a a with
  | false => rfl
  | true => rw [lessP] at h; omega
theorem less_tri (a b : Ent) : (lessB a b = true ∧ lessB b a = false ∧ eqE a b = false) ∨ (lessB a b = false ∧ lessB b a = true ∧ eqE a b = false) ∨ (lessB a b = false ∧ lessB b a = false ∧ eqE a b = true) := by
  have h1 := lessP a b
  have h2 := lessP b a
  have h3 : eqE a b = true ↔ (a.inc = b.inc ∧ a.st = b.st ∧ a.stamp = b.stamp ∧ a.load = b.load ∧ cond a.dr (1 : Int) 0 = cond b.dr 1 0) := by
    rw [eqE_iff]
    constructor
    · rintro rfl; simp
    · rintro ⟨e1, e2, e3, e4, e5⟩
      obtain ⟨a1, a2, a3, a4, a5⟩ := a
      obtain ⟨b1, b2, b3, b4, b5⟩ := b
      have := bit_inj e5
      simp_all
  cases k1 : lessB a b <;> cases k2 : lessB b a <;> cases k3 : eqE a b <;> simp only [k1, k2, k3, Bool.false_eq_true, false_iff, true_iff] at h1 h2 h3 <;> first | simp; done | (exfalso; omega)
theorem less_trans {a b c : Ent} (h1 : lessB a b = true) (h2 : lessB b c = true) : lessB a c = true := by
  rw [lessP] at h1 h2 ⊢
  omega

noncomputable def GPD2 : Ctx := GS.with ss_Known12 ll_tb
noncomputable def tgt_MOrder (a b c : Ent) : T CallOut := evCallW [] GPD2 300 3 [.agg [I a.inc, I a.st, I a.stamp, I a.load, Bo a.dr], .agg [I b.inc, I b.st, I b.stamp, I b.load, Bo b.dr], .agg [I c.inc, I c.st, I c.stamp, I c.load, Bo c.dr]] [] 0
theorem GKPD2 : KnownOk Try.prog GPD2 := KnownOk.lists ss_Known12_ok ll_tb_ok
theorem GOPD2 : CtxOk Try.prog GPD2 := GS_ok.with _ _
theorem tree_MOrder (a b c : Ent) : (tgt_MOrder a b c).over (.tt (.tt (.br (.tt (.tt (.br (.tt (.tt (.br (.ff (.tt (.tt (.tt (.ff (.ff (.ff (.ff (.ff (.ff (.ff (.ff (.ff .leaf))))))))))))) (.ff (.tt (.tt (.tt (.ff (.ff (.ff (.ff (.ff (.ff (.ff (.ff (.ff .leaf)))))))))))))))) (.tt (.tt (.br (.ff (.tt (.tt (.tt (.ff (.ff (.ff (.ff (.ff (.ff (.ff (.ff (.ff .leaf))))))))))))) (.ff (.tt (.tt (.tt (.tt (.tt (.tt (.tt (.tt (.br (.tt (.tt (.tt (.tt (.tt (.tt (.tt (.tt (.tt (.tt (.tt (.tt .leaf)))))))))))) (.ff (.ff (.ff (.tt (.ff (.tt (.br (.tt (.tt (.tt (.tt (.tt .leaf))))) (.ff (.ff (.tt (.ff (.tt .leaf)))))))))))))))))))))))))))) (.tt (.tt (.br (.tt (.tt (.br (.ff (.tt (.tt (.tt (.ff (.ff (.ff (.ff (.ff (.ff (.ff (.ff (.ff .leaf))))))))))))) (.ff (.tt (.tt (.tt (.tt (.tt (.tt (.tt (.tt (.br (.tt (.tt (.tt (.tt (.tt (.tt (.tt (.tt (.tt (.tt (.tt (.tt .leaf)))))))))))) (.ff (.ff (.ff (.tt (.ff (.tt (.br (.tt (.tt (.tt (.tt (.tt .leaf))))) (.ff (.ff (.tt (.ff (.tt .leaf))))))))))))))))))))))))) (.tt (.tt (.br (.ff (.tt (.tt (.tt (.tt (.tt (.tt (.tt (.tt (.br (.tt (.tt (.tt (.tt (.tt (.tt (.tt (.tt (.tt (.tt (.tt (.tt .leaf)))))))))))) (.ff (.ff (.ff (.tt (.ff (.tt (.br (.tt (.tt (.tt (.tt (.tt .leaf))))) (.ff (.ff (.tt (.ff (.tt .leaf)))))))))))))))))))))) (.ff (.tt (.tt (.tt (.ff (.ff (.ff (.ff (.ff (.ff (.ff (.ff (.ff .leaf)))))))))))))))))))))) =
  T.br (lessB a b)
    (T.br (lessB b a) (T.br (Ent.inc a == Ent.inc b && (Ent.st a == Ent.st b && (Ent.stamp a == Ent.stamp b && (Ent.load a == Ent.load b && (Ent.dr a == Ent.dr b && true))))) (T.ret (out0 (SV.v (AB false)))) (T.ret (out0 (SV.v (AB false)))))
      (T.br (Ent.inc a == Ent.inc b && (Ent.st a == Ent.st b && (Ent.stamp a == Ent.stamp b && (Ent.load a == Ent.load b && (Ent.dr a == Ent.dr b && true))))) (T.ret (out0 (SV.v (AB false))))
        (T.br (!lessB a b) (T.ret (out0 (SV.v (AB true)))) (T.br (!lessB b c) (T.ret (out0 (SV.v (AB true)))) (T.ret (out0 (SV.v (AB (lessB a c)))))))))
    (T.br (lessB b a)
      (T.br (Ent.inc a == Ent.inc b && (Ent.st a == Ent.st b && (Ent.stamp a == Ent.stamp b && (Ent.load a == Ent.load b && (Ent.dr a == Ent.dr b && true))))) (T.ret (out0 (SV.v (AB false))))
        (T.br (!lessB a b) (T.ret (out0 (SV.v (AB true)))) (T.br (!lessB b c) (T.ret (out0 (SV.v (AB true)))) (T.ret (out0 (SV.v (AB (lessB a c))))))))
      (T.br (Ent.inc a == Ent.inc b && (Ent.st a == Ent.st b && (Ent.stamp a == Ent.stamp b && (Ent.load a == Ent.load b && (Ent.dr a == Ent.dr b && true)))))
        (T.br (!lessB a b) (T.ret (out0 (SV.v (AB true)))) (T.br (!lessB b c) (T.ret (out0 (SV.v (AB true)))) (T.ret (out0 (SV.v (AB (lessB a c))))))) (T.ret (out0 (SV.v (AB false)))))) := by kernel_rfl
theorem res_MOrder (a b c : Ent) : (tgt_MOrder a b c).res = some (out0 (.v (AB true))) := by
  refine T.over_eq _ (tree_MOrder a b c) ?_
  simp only [T.res_br, T.res_ret, T.res_bad]
  have key : ∀ x y : Bool, x = y → some (out0 (.v (AB x))) = some (out0 (.v (AB y))) := fun a b e => by rw [e]
  have e : ∀ a b : Ent, (Ent.inc a == Ent.inc b && (Ent.st a == Ent.st b && (Ent.stamp a == Ent.stamp b && (Ent.load a == Ent.load b && (Ent.dr a == Ent.dr b && true))))) = eqE a b := fun _ _ => rfl
  simp only [e]
  rcases less_tri a b with ⟨h1, h2, h3⟩ | ⟨h1, h2, h3⟩ | ⟨h1, h2, h3⟩ <;> simp only [h1, h2, h3, Bool.false_eq_true, if_true, if_false, Bool.not_true, Bool.not_false]
  split
  · rfl
  · rename_i h4
    exact key _ _ (less_trans h1 (by simpa using h4))
end Go.Proofs.Ytdoehlinboiohaa.En
