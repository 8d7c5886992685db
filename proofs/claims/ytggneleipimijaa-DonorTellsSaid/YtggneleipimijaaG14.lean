/- Texts put together: RS, DC. -/
import Derived.Test.YtggneleipimijaaG13
/- What the answer of Targets is like. -/
namespace Go.Proofs.Ytggneleipimijaa.En
open Go
set_option linter.unusedVariables false
set_option linter.unusedSimpArgs false
set_option maxRecDepth 20000
set_option maxHeartbeats 1000000
noncomputable def GRS1 : Ctx := GS.with ss_Table ll_tb
noncomputable def tgt_known  : T CallOut := evCallW [] GRS1 300 13 [] [] 0
theorem GKRS1 : KnownOk Try.prog GRS1 := KnownOk.lists ss_Table_ok ll_tb_ok
theorem GORS1 : CtxOk Try.prog GRS1 := GS_ok.with _ _
theorem tree_known  : (tgt_known ).over (.ff (.tt (.ff (.ff (.tt (.tt (.tt (.tt (.tt (.tt (.tt (.ff (.tt (.tt (.tt (.ff (.tt (.tt (.tt (.tt (.tt (.tt (.tt (.tt (.ff (.ff (.tt (.tt (.tt (.tt (.ff (.tt (.tt (.tt (.tt (.ff (.ff (.ff (.tt (.tt (.tt (.tt (.ff (.ff (.tt (.ff (.tt (.ff (.tt (.ff (.tt (.tt (.ff (.tt (.ff (.ff (.ff (.ff (.ff (.ff (.tt (.tt (.tt (.tt (.tt (.tt (.tt (.tt (.ff (.tt (.tt (.tt (.tt (.tt (.tt (.tt (.tt (.tt (.tt (.tt (.ff (.ff (.ff (.ff (.ff (.ff (.ff (.ff (.tt (.ff (.tt (.tt (.tt (.tt (.tt (.tt (.ff (.ff (.tt (.tt (.tt (.tt (.tt (.tt (.tt (.tt (.ff (.tt (.tt (.tt (.ff (.ff (.ff (.ff (.ff (.ff (.ff (.ff (.tt (.ff (.ff (.tt (.ff (.tt (.tt (.ff (.tt (.ff (.ff (.ff (.ff (.ff (.ff (.ff (.ff (.ff (.tt (.ff (.tt (.tt (.tt (.ff (.ff (.ff (.ff (.ff (.ff (.ff (.ff (.ff (.ff (.tt (.tt (.tt (.tt (.tt (.tt (.tt (.tt (.tt (.tt (.ff (.ff (.ff (.tt (.tt (.tt (.ff (.ff (.ff (.ff (.ff (.ff (.ff (.tt (.ff (.tt (.ff (.tt (.tt (.tt (.ff (.tt (.tt (.ff (.ff (.tt (.ff (.ff (.ff (.ff (.tt (.tt (.tt (.tt (.tt (.tt (.tt (.tt (.ff (.tt (.tt (.tt (.tt (.tt (.tt (.tt (.tt (.tt (.tt (.tt (.ff (.ff (.ff (.ff (.ff (.ff (.ff (.ff (.tt (.ff (.ff (.ff (.tt (.tt (.tt (.ff (.tt (.tt (.tt (.tt (.ff (.ff (.tt (.tt (.ff (.tt (.ff (.tt (.tt (.tt (.tt (.tt (.tt (.tt (.ff (.tt (.tt (.tt (.ff (.tt (.tt (.tt (.ff (.tt (.ff (.ff (.tt (.tt (.ff (.tt (.ff (.ff (.tt (.tt (.tt (.tt (.tt (.tt (.ff (.tt (.tt (.tt (.ff (.tt (.tt (.ff (.ff (.tt (.ff (.tt (.ff (.tt (.tt (.ff (.tt (.ff (.ff (.ff (.ff (.ff (.ff (.tt (.tt (.ff (.tt (.ff (.tt (.tt (.tt (.ff (.ff (.ff (.ff (.ff (.ff (.ff (.ff (.tt (.ff (.ff (.ff (.ff (.ff (.ff (.ff (.ff (.ff (.ff (.ff (.tt (.tt (.tt (.ff (.tt (.tt (.tt (.ff (.ff (.ff (.ff (.tt (.tt (.tt (.tt (.tt (.tt (.tt (.tt (.ff (.tt (.tt (.tt (.tt (.tt (.tt (.tt (.tt (.tt (.tt (.tt (.ff (.ff (.ff (.ff (.ff (.ff (.ff (.ff (.tt (.ff (.ff (.ff (.tt (.tt (.tt (.ff (.tt (.tt (.tt (.tt (.tt (.tt (.ff (.tt (.ff (.ff (.tt (.ff (.tt (.ff (.tt (.tt (.ff (.tt (.ff (.tt (.tt (.ff (.tt (.tt (.tt (.ff (.tt (.tt (.tt (.tt (.tt (.tt (.tt (.ff (.ff (.tt (.tt (.tt (.ff (.tt (.ff (.ff (.tt (.tt (.tt (.tt (.tt (.tt (.tt (.ff (.ff (.tt (.ff (.tt (.ff (.tt (.tt (.ff (.tt (.ff (.tt (.tt (.tt (.tt .leaf))))))))))))))))))))))))))))))))))))))))))))))))))))))))))))))))))))))))))))))))))))))))))))))))))))))))))))))))))))))))))))))))))))))))))))))))))))))))))))))))))))))))))))))))))))))))))))))))))))))))))))))))))))))))))))))))))))))))))))))))))))))))))))))))))))))))))))))))))))))))))))))))))))))))))))))))))))))))))))))))))))))))))))))))))))))))))))))))))))))))))))))))))))))))))))))))))))))))))))))))))))))))))))))))))))))))))))))) =
  T.ret (out0 (SV.v (AB true))) := by kernel_rfl
theorem res_known  : (tgt_known ).res = some (out0 (.v (AB true))) := by
  refine T.over_eq _ (tree_known ) ?_
  simp only [T.res_br, T.res_ret, T.res_bad]

noncomputable def F_known : SumF
  | [], [], 0 => .ret (out0 (.v (AB true)))
  | _, _, _ => .bad
theorem sum_known : SumOk Try.prog 13 F_known := by
  refine ⟨fun args H nx r hr => ?_, fun args H nx => ?_⟩
  · unfold F_known at hr
    split at hr
    · have := T.ret_some hr
      subst this
      exact evCallW_ok GORS1 GKRS1 res_known
    · exact (T.bad_some hr).elim
  · unfold F_known
    split
    · exact ⟨Nat.zero_le _, fun b hb hw => absurd hb (Nat.not_lt_zero b)⟩
    · trivial
noncomputable def sm_known : SumF := canonSum F_known
theorem sm_known_ok : SumOk Try.prog 13 sm_known := canonSum_ok sum_known
noncomputable def ss_known : List (Nat × SumF) := (13, sm_known) :: ss_RTz
theorem ss_known_ok : ∀ x ∈ ss_known, SumOk Try.prog x.1 x.2 := List.forall_mem_cons.2 ⟨sm_known_ok, ss_RTz_ok⟩
/-- s with k at place q -/
def putAt (s : Nat → Int) (k : Int) (q : Nat) : Nat → Int := fun p => if p < q then s p else if p = q then k else s (p - 1)
theorem insK_form (x : Nat → Ent) (ld k : Int) (c : Nat) (s : Nat → Int) : ∀ (f r : Nat) (u : Nat → Int), f + r = c → Agree (c + 1) u (putAt s k (c - r)) → (∀ p, c - r ≤ p → p < c → ldI x (s p) > ld) →
    ∃ q, q ≤ c ∧ Agree (c + 1) (insK x ld k c f r u) (putAt s k q) ∧ (q = 0 ∨ ldI x (s (q - 1)) ≤ ld) ∧ ∀ p, q ≤ p → p < c → ldI x (s p) > ld
  | 0, r, u, h, hu, hg => ⟨c - r, by omega, hu, .inl (by omega), hg⟩
  | f + 1, r, u, h, hu, hg => by
    simp only [insK]
    have e1 : u (c - r - 1) = s (c - r - 1) := by
      rw [hu _ (by omega)]
      unfold putAt
      rw [if_pos (by omega)]
    cases hq : decide (ldI x (u (c - r - 1)) > ld)
    · exact ⟨c - r, by omega, hu, .inr (by have := of_decide_eq_false hq; rw [e1] at this; omega), hg⟩
    · have hq := of_decide_eq_true hq
      rw [e1] at hq
      refine insK_form x ld k c s f (r + 1) _ (by omega) (fun p hp => ?_) (fun p h1 h2 => ?_)
      · rw [e1]
        by_cases h1 : p = c - r - 1
        · subst h1
          rw [Nat.beq_refl]
          unfold putAt
          rw [if_neg (by omega), if_pos (by omega)]; rfl
        · rw [beq_ff h1]
          by_cases h2 : p = c - r
          · subst h2
            rw [Nat.beq_refl]
            unfold putAt
            rw [if_neg (by omega), if_neg (by omega)]; rfl
          · rw [beq_ff h2]
            simp only [cond_false]
            rw [hu p hp]
            unfold putAt
            by_cases h3 : p < c - (r + 1)
            · rw [if_pos (by omega), if_pos h3]
            · rw [if_neg (by omega), if_neg (by omega), if_neg (by omega), if_neg (by omega)]
      · by_cases h3 : p = c - r - 1
        · rw [h3]; exact hq
        · exact hg p (by omega) h2
/-- less by load, then by number -/
def lexI (x : Nat → Ent) (a b : Int) : Prop := ldI x a < ldI x b ∨ (ldI x a = ldI x b ∧ a < b)
def Holds (c : Nat) (y z : Nat → Int) : Prop := ∀ v : Int, (∃ j, j < c ∧ y j = v) ↔ ∃ j, j < c ∧ z j = v
theorem putAt_mem (s : Nat → Int) (k : Int) (c q : Nat) (hq : q ≤ c) (v : Int) : (∃ j, j < c + 1 ∧ putAt s k q j = v) ↔ v = k ∨ ∃ j, j < c ∧ s j = v := by
  constructor
  · rintro ⟨j, hj, e⟩
    unfold putAt at e
    split at e
    · exact .inr ⟨j, by omega, e⟩
    · split at e
      · exact .inl e.symm
      · exact .inr ⟨j - 1, by omega, e⟩
  · rintro (e | ⟨j, hj, e⟩)
    · refine ⟨q, by omega, ?_⟩
      unfold putAt
      rw [if_neg (by omega), if_pos rfl, e]
    · by_cases h : j < q
      · refine ⟨j, by omega, ?_⟩
        unfold putAt
        rw [if_pos h, e]
      · refine ⟨j + 1, by omega, ?_⟩
        unfold putAt
        rw [if_neg (by omega), if_neg (by omega)]
        exact e
theorem insA_ok (x : Nat → Ent) (z : Nat → Int) : ∀ c, (∀ j k, j < k → k < c → z j < z k) → Holds c (insA x c z) z ∧ ∀ i, i + 1 < c → lexI x (insA x c z i) (insA x c z (i + 1))
  | 0, _ => ⟨fun v => ⟨fun ⟨j, hj, _⟩ => absurd hj (Nat.not_lt_zero j), fun ⟨j, hj, _⟩ => absurd hj (Nat.not_lt_zero j)⟩, fun i hi => absurd hi (Nat.not_lt_zero _)⟩
  | c + 1, hz => by
    obtain ⟨i1, i2⟩ := insA_ok x z c (fun j k h1 h2 => hz j k h1 (by omega))
    have ek : insA x c z (c - 0) = z c := insA_out x c z c (Nat.le_refl c)
    rw [insA_succ, insK_eq x (z c) c c 0 _ ek]
    generalize insA x c z = s at i1 i2 ek
    have hlt : ∀ j, j < c → s j < z c := fun j hj => by
      obtain ⟨i, hi, e⟩ := (i1 _).1 ⟨j, hj, rfl⟩
      rw [← e]; exact hz i c hi (Nat.lt_succ_self c)
    obtain ⟨q, q1, q2, q3, q4⟩ := insK_form x (ldI x (z c)) (z c) c s c 0 s (by omega) (fun p hp => by
      unfold putAt
      by_cases h : p < c
      · rw [if_pos (by omega)]
      · obtain rfl : p = c := by omega
        rw [if_neg (by omega), if_pos (by omega)]; exact ek) (fun p h1 h2 => by omega)
    generalize insK x (ldI x (z c)) (z c) c c 0 s = w at q2
    refine ⟨fun v => ?_, fun i hi => ?_⟩
    · have h1 : (∃ j, j < c + 1 ∧ w j = v) ↔ ∃ j, j < c + 1 ∧ putAt s (z c) q j = v :=
        ⟨fun ⟨j, hj, e⟩ => ⟨j, hj, by rw [← q2 j hj]; exact e⟩, fun ⟨j, hj, e⟩ => ⟨j, hj, by rw [q2 j hj]; exact e⟩⟩
      rw [h1, putAt_mem s (z c) c q q1, i1 v]
      exact ⟨fun h => by
        rcases h with h | ⟨j, hj, e⟩
        · exact ⟨c, by omega, h.symm⟩
        · exact ⟨j, by omega, e⟩, fun ⟨j, hj, e⟩ => by
        by_cases h : j < c
        · exact .inr ⟨j, h, e⟩
        · obtain rfl : j = c := by omega
          exact .inl e.symm⟩
    · rw [q2 i (by omega), q2 (i + 1) hi]
      unfold putAt
      rcases Nat.lt_trichotomy (i + 1) q with h | h | h
      · rw [if_pos (by omega), if_pos h]
        exact i2 i (by omega)
      · rw [if_pos (by omega), if_neg (by omega), if_pos h]
        rcases q3 with h0 | h0
        · omega
        · have e : q - 1 = i := by omega
          rw [e] at h0
          rcases Int.lt_or_eq_of_le h0 with h1 | h1
          · exact .inl h1
          · exact .inr ⟨h1, hlt i (by omega)⟩
      · rw [if_neg (by omega), if_neg (show ¬ i + 1 < q by omega), if_neg (show ¬ i + 1 = q by omega)]
        by_cases h1 : i = q
        · rw [if_pos h1]
          have := q4 i (by omega) (by omega)
          exact .inl (by rw [Nat.add_sub_cancel]; omega)
        · rw [if_neg h1, Nat.add_sub_cancel]
          have := i2 (i - 1) (by omega)
          rwa [show i - 1 + 1 = i by omega] at this
theorem tgA_asc (me : Int) (x : Nat → Ent) (n : Nat) : ∀ j k, j < k → k < (tgA me x n).1 → (tgA me x n).2 j < (tgA me x n).2 k := (fil_ok (tgB me x) n).2
theorem tgR_asc (me : Int) (x : Nat → Ent) (n : Nat) : ∀ j k, j < k → k < (tgR me x n).1 → (tgR me x n).2 j < (tgR me x n).2 k := by
  unfold tgR
  cases (x me.toNat).dr
  · exact nz_asc me _ _
  · exact tgA_asc me x n
theorem tgR_mem {me : Int} {x : Nat → Ent} {n j : Nat} (hj : j < (tgR me x n).1) : ∃ i : Nat, i < n ∧ tgB me x i = true ∧ (i : Int) = (tgR me x n).2 j := by
  have key : ∀ v, (∃ j, j < (tgA me x n).1 ∧ (tgA me x n).2 j = v) → ∃ i : Nat, i < n ∧ tgB me x i = true ∧ (i : Int) = v := fun v => ((fil_ok (tgB me x) n).1 v).1
  unfold tgR at hj ⊢
  cases hd : (x me.toNat).dr
  · rw [hd] at hj
    exact key _ (nz_mem hj).1
  · rw [hd] at hj
    exact key _ ⟨j, hj, rfl⟩
/-- what is told of each of them -/
def TgOk (me : Int) (x : Nat → Ent) (n : Nat) (v : Int) : Prop := (0 ≤ v ∧ v < (n : Int)) ∧ v ≠ me ∧ (x v.toNat).st ≠ 2 ∧ (x v.toNat).dr = false
theorem TgOk_of {me : Int} {x : Nat → Ent} {n i : Nat} (hi : i < n) (hb : tgB me x i = true) : TgOk me x n i := by
  unfold tgB at hb
  simp only [Bool.and_eq_true, bne_iff_ne, ne_eq, Bool.not_eq_true'] at hb
  refine ⟨by omega, hb.1.1, ?_, ?_⟩
  · rw [Int.toNat_natCast]; exact hb.1.2
  · rw [Int.toNat_natCast]; exact hb.2
theorem tz_in {me : Int} {n : Nat} (h : 0 ≤ me ∧ me < (n : Int)) (x : Nat → Ent) : tzL me x n = (tgR me x n).1 := if_pos h
theorem tz_ok {me : Int} {n : Nat} (h : 0 ≤ me ∧ me < (n : Int)) (x : Nat → Ent) {i : Nat} (hi : i < tzL me x n) : TgOk me x n (tzE me x n i) := by
  have hL := tz_in h x
  have hm := (insA_ok x (tgR me x n).2 (tgR me x n).1 (tgR_asc me x n)).1
  unfold tzE
  rw [hL] at hi ⊢
  obtain ⟨j, hj, e⟩ := (hm _).1 ⟨i, hi, rfl⟩
  obtain ⟨k, hk, hb, e2⟩ := tgR_mem hj
  rw [← e, ← e2]
  exact TgOk_of hk hb
theorem tz_lex {me : Int} {n : Nat} (h : 0 ≤ me ∧ me < (n : Int)) (x : Nat → Ent) {i : Nat} (hi : i + 1 < tzL me x n) : lexI x (tzE me x n i) (tzE me x n (i + 1)) := by
  have hL := tz_in h x
  have hm := (insA_ok x (tgR me x n).2 (tgR me x n).1 (tgR_asc me x n)).2
  unfold tzE
  rw [hL] at hi ⊢
  exact hm i hi
theorem nz_count {me : Int} {y : Nat → Int} {d : Nat} (ha : ∀ j k, j < k → k < d → y j < y k) (hn : ∀ j, j < d → y j ≠ me) : nzL me y d = min d 2 := by
  unfold nzL
  by_cases h0 : nxD me y d = 0
  · rw [if_pos h0]
    rcases Nat.eq_zero_or_pos d with h | h
    · omega
    · exact absurd ((nxD_none me y d).1 h0 0 h) (hn 0 h)
  · rw [if_neg h0]
    have hd : 0 < d := by
      rcases Nat.eq_zero_or_pos d with h | h
      · subst h
        exact absurd ((nxD_none me y 0).2 fun j hj => absurd hj (Nat.not_lt_zero j)) h0
      · exact h
    have hB := nxB_ok h0
    have hA := nxA_ok h0
    generalize nxB me y d = b at hB
    generalize nxA me y d = a at hA
    split
    · rename_i hm
      obtain rfl : b = a := by omega
      by_cases h2 : d < 2
      · omega
      · exfalso
        have h01 := ha 0 1 (by omega) (by omega)
        have n0 := hn 0 hd
        have n1 := hn 1 (by omega)
        rcases hB with ⟨⟨j, j1, j2, j3⟩, j4⟩ | ⟨g1, ⟨j, j1, j2, j3⟩, j4⟩
        · rcases hA with ⟨⟨k, k1, k2, k3⟩, k4⟩ | ⟨f1, _, k4⟩
          · omega
          · have := f1 0 hd
            have := j4 0 hd (by omega)
            have := k4 1 (by omega) n1
            omega
        · rcases hA with ⟨⟨k, k1, k2, k3⟩, k4⟩ | ⟨f1, _, k4⟩
          · have := g1 1 (by omega)
            have := k4 1 (by omega) (by omega)
            have := j4 0 hd n0
            omega
          · have := f1 0 hd
            have := g1 0 hd
            omega
    · rename_i hm
      by_cases h2 : d < 2
      · obtain rfl : d = 1 := by omega
        have : ∀ {v : Int}, (∃ j, j < 1 ∧ y j = v) → v = y 0 := fun ⟨j, hj, e⟩ => by
          obtain rfl : j = 0 := by omega
          exact e.symm
        have eb : b = y 0 := by
          rcases hB with ⟨⟨j, j1, j2, j3⟩, j4⟩ | ⟨g1, ⟨j, j1, j2, j3⟩, j4⟩ <;> exact this ⟨j, j1, j3⟩
        have ea : a = y 0 := by
          rcases hA with ⟨⟨j, j1, j2, j3⟩, j4⟩ | ⟨g1, ⟨j, j1, j2, j3⟩, j4⟩ <;> exact this ⟨j, j1, j3⟩
        omega
      · omega
theorem tz_count {me : Int} {n : Nat} (h : 0 ≤ me ∧ me < (n : Int)) (x : Nat → Ent) : tzL me x n = match (x me.toNat).dr with | true => (tgA me x n).1 | false => min (tgA me x n).1 2 := by
  rw [tz_in h x]
  unfold tgR
  cases hd : (x me.toNat).dr
  · refine nz_count (tgA_asc me x n) fun j hj => ?_
    obtain ⟨i, hi, hb, e⟩ := ((fil_ok (tgB me x) n).1 ((tgA me x n).2 j)).1 ⟨j, hj, rfl⟩
    rw [← e]
    exact (TgOk_of hi hb).2.1
  · rfl

end Go.Proofs.Ytggneleipimijaa.En
/- Donor: both Choose are known. -/
namespace Go.Proofs.Ytggneleipimijaa.En
open Go
set_option linter.unusedVariables false
set_option linter.unusedSimpArgs false
set_option maxRecDepth 20000
set_option maxHeartbeats 1000000
/-- what Choose answers -/
def chT (me load : Int) (x : Nat → Ent) (es : List (Value × Value)) (n : Nat) : G5 := chX me load x es (tzE me x n) (tzL me x n) 0
theorem ch_pre {me : Int} {nl : Bool} {n : Nat} (x : Nat → Ent) (h : (nl = true → n = 0) ∧ n < 20) : tzL me x n ≤ 1048576 ∧ (Nat.beq (tzL me x n) 0 = true → tzL me x n = 0) ∧ InI (tzE me x n) (tzL me x n) n ∧ (0 < tzL me x n → nl = false ∧ 0 ≤ me ∧ me < (n : Int)) := by
  have hin : 0 < tzL me x n → 0 ≤ me ∧ me < (n : Int) := fun h => by
    unfold tzL at h
    split at h
    · assumption
    · omega
  refine ⟨?_, Nat.eq_of_beq_eq_true, fun k hk => (tz_ok (hin (by omega)) x hk).1, fun h0 => ⟨?_, hin h0⟩⟩
  · rcases Nat.eq_zero_or_pos (tzL me x n) with h0 | h0
    · omega
    · rw [tz_in (hin h0) x]
      unfold tgR
      cases (x me.toNat).dr
      · have : nzL me (tgA me x n).2 (tgA me x n).1 ≤ 2 := by
          unfold nzL
          split
          · omega
          · split <;> omega
        dsimp only; omega
      · have := (tgA_ok me x n).1
        dsimp only; omega
  · cases nl
    · rfl
    · have := h.1 rfl
      have := hin h0
      omega
abbrev chR (g : G5) (es : List (Value × Value)) : CallOut := ⟨.tup [.agg [I g.2.1, I g.2.2.1, I 0, I g.2.2.2], AB g.1], [(0, .map es)], 1, false, []⟩
theorem pb_ff : pb False = false := pb_false (fun h => h)
theorem res_Ch (me load : Int) (nl : Bool) (n : Nat) (x : Nat → Ent) (es : List (Value × Value)) (h : ((nl = true → n = 0) ∧ n < 20) ∧ MapI es) : (tgt_Ch me load nl n x es).res = some (chR (chT me load x es n) es) := by
  refine T.over_eq _ (tree_Ch me load nl n x es) ?_
  obtain ⟨h1, h2⟩ := h
  obtain ⟨a1, a2, a3, a4⟩ := ch_pre (me := me) x h1
  have b1 : (nl = true → n = 0) = True := eq_true h1.1
  simp only [T.res_br, T.res_ret, T.res_bad, EntE_ok, IntE_ok, entOf_entE, intOf_intE, b1, h1.2, h2, a1, eq_true a2, a3, eq_true a4, eq_self, and_self, pb_tt, reduceIte]
  rfl
theorem res_RCh (me load : Int) (nl : Bool) (n : Nat) (x : Nat → Ent) (es : List (Value × Value)) (h : ((nl = true → n = 0) ∧ n < 20) ∧ MapI es) : (tgt_RCh me load nl n x es).res = some (chR (chT me load x es n) es) := by
  refine T.over_eq _ (tree_RCh me load nl n x es) ?_
  obtain ⟨h1, h2⟩ := h
  obtain ⟨a1, a2, a3, a4⟩ := ch_pre (me := me) x h1
  have b1 : (nl = true → n = 0) = True := eq_true h1.1
  cases hq : (chX me load x es (tzE me x n) (tzL me x n) 0).1
  · have hz := chX_no _ _ hq
    simp only [T.res_br, T.res_ret, T.res_bad, EntE_ok, IntE_ok, entOf_entE, intOf_intE, b1, h1.2, h2, a1, eq_true a2, a3, eq_true a4, hq, pb_ff, eq_self, and_self, pb_tt, Bool.false_eq_true, reduceIte]
    unfold chT
    rw [hz]
  · simp only [T.res_br, T.res_ret, T.res_bad, EntE_ok, IntE_ok, entOf_entE, intOf_intE, b1, h1.2, h2, a1, eq_true a2, a3, eq_true a4, hq, eq_self, and_self, pb_tt, reduceIte]
    simp only [chR, chT, hq]

noncomputable def F_Ch : SumF
  | [.one (.f (.lit (.int .i64 me))), .one (.f (.lit (.int .i64 load))), .one (.f (.fs nl 5 n e)), .one (.mp 0)], [(0, .map es)], 1 => .need (pb (EntE e ∧ ((nl = true → n = 0) ∧ n < 20) ∧ MapI es)) (.ret (⟨.tup [.agg [I (chT me load (entOf e) es n).2.1, I (chT me load (entOf e) es n).2.2.1, I 0, I (chT me load (entOf e) es n).2.2.2], AB (chT me load (entOf e) es n).1], [(0, .map es)], 1, false, []⟩))
  | _, _, _ => .bad
theorem sum_Ch : SumOk Try.prog 20 F_Ch := by
  refine ⟨fun args H nx r hr => ?_, fun args H nx => ?_⟩
  · unfold F_Ch at hr
    split at hr
    · rename_i me load nl n e es
      obtain ⟨h0, hr⟩ := T.need_some hr
      have := T.ret_some hr
      subst this
      have h := pb_of h0
      obtain ⟨⟨x, rfl⟩, h1⟩ := h
      exact evCallW_ok GODB2 GKDB2 (res_Ch me load nl n x es h1)
    · exact (T.bad_some hr).elim
  · unfold F_Ch
    split
    · exact T.Every.need ⟨by first | exact Nat.le_refl _ | (dsimp only; omega), fun b hb hw => by
        have : b = 0 := by omega
        subst this <;> first | rfl | exact absurd (by dsimp only; decide) hw⟩
    · trivial
noncomputable def sm_Ch : SumF := canonSum F_Ch
theorem sm_Ch_ok : SumOk Try.prog 20 sm_Ch := canonSum_ok sum_Ch
noncomputable def ss_Ch : List (Nat × SumF) := (20, sm_Ch) :: ss_RFits
theorem ss_Ch_ok : ∀ x ∈ ss_Ch, SumOk Try.prog x.1 x.2 := List.forall_mem_cons.2 ⟨sm_Ch_ok, ss_RFits_ok⟩
noncomputable def F_RCh : SumF
  | [.one (.f (.lit (.int .i64 me))), .one (.f (.lit (.int .i64 load))), .one (.f (.fs nl 5 n e)), .one (.mp 0)], [(0, .map es)], 1 => .need (pb (EntE e ∧ ((nl = true → n = 0) ∧ n < 20) ∧ MapI es)) (.ret (⟨.tup [.agg [I (chT me load (entOf e) es n).2.1, I (chT me load (entOf e) es n).2.2.1, I 0, I (chT me load (entOf e) es n).2.2.2], AB (chT me load (entOf e) es n).1], [(0, .map es)], 1, false, []⟩))
  | _, _, _ => .bad
theorem sum_RCh : SumOk Try.prog 24 F_RCh := by
  refine ⟨fun args H nx r hr => ?_, fun args H nx => ?_⟩
  · unfold F_RCh at hr
    split at hr
    · rename_i me load nl n e es
      obtain ⟨h0, hr⟩ := T.need_some hr
      have := T.ret_some hr
      subst this
      have h := pb_of h0
      obtain ⟨⟨x, rfl⟩, h1⟩ := h
      exact evCallW_ok GODB2 GKDB2 (res_RCh me load nl n x es h1)
    · exact (T.bad_some hr).elim
  · unfold F_RCh
    split
    · exact T.Every.need ⟨by first | exact Nat.le_refl _ | (dsimp only; omega), fun b hb hw => by
        have : b = 0 := by omega
        subst this <;> first | rfl | exact absurd (by dsimp only; decide) hw⟩
    · trivial
noncomputable def sm_RCh : SumF := canonSum F_RCh
theorem sm_RCh_ok : SumOk Try.prog 24 sm_RCh := canonSum_ok sum_RCh
noncomputable def ss_RCh : List (Nat × SumF) := (24, sm_RCh) :: ss_Ch
theorem ss_RCh_ok : ∀ x ∈ ss_RCh, SumOk Try.prog x.1 x.2 := List.forall_mem_cons.2 ⟨sm_RCh_ok, ss_Ch_ok⟩
/-- a map of numbers, as the list of its pairs -/
def mI (l : List (Int × Int)) : List (Value × Value) := l.map fun p => (.int .i64 p.1, .int .i64 p.2)
def getI (k : Int) : List (Int × Int) → Int
  | [] => 0
  | p :: r => match k == p.1 with | true => p.2 | false => getI k r
def putI (k v : Int) : List (Int × Int) → List (Int × Int)
  | [] => [(k, v)]
  | p :: r => match k == p.1 with | true => (k, v) :: r | false => p :: putI k v r
theorem mI_keys (k : Int) (l : List (Int × Int)) : keysOk (.int .i64 k) (mI l) = true := by simp [keysOk, mI, keyOk]
theorem mI_ints (l : List (Int × Int)) : intsOk .i64 (mI l) = true := by simp [intsOk, mI]
theorem mI_get (k : Int) : ∀ l : List (Int × Int), intM (.int .i64 k) (mI l) = getI k l
  | [] => rfl
  | p :: r => by
    have := mI_get k r
    simp only [intM, mI, List.map_cons, valM, keyEq, getI] at this ⊢
    cases k == p.1
    · exact this
    · rfl
theorem mI_put (k v : Int) : ∀ l : List (Int × Int), setM (.int .i64 k) (.int .i64 v) (mI l) = mI (putI k v l)
  | [] => rfl
  | p :: r => by
    have := mI_put k v r
    simp only [mI, List.map_cons, setM, keyEq, putI] at this ⊢
    cases k == p.1
    · simp only [this, List.map_cons]
    · rfl
theorem MapI_mI (l : List (Int × Int)) : MapI (mI l) := fun k => by rw [mI_keys, mI_ints]; rfl
def S_dm (me mine : Int) (tl : Bool) (tn : Nat) (x : Nat → Ent) (wl : Bool) (n : Nat) (w : Nat → Int) (i : Nat) (l : List (Int × Int)) : St := ⟨[(4, .v (AI me)), (7, .v (AI mine)), (17, .v (.one (.f (.fs tl 5 tn (entE x))))), (18, .v (.one (.mp 0))), (60, .v (.one (.f (.fs wl 1 n (intE w))))), (61, .v (AI n)), (62, .v (AI i))], [(0, .map (mI l))], 1, false, 0, []⟩

noncomputable def GDC1 : Ctx := GS.with ss_RCh ll_ro
noncomputable def tgt_dm (me mine : Int) (tl : Bool) (tn : Nat) (x : Nat → Ent) (wl : Bool) (n : Nat) (w : Nat → Int) (i : Nat) (l : List (Int × Int)) : T (Ex × St) := evRound GDC1 300 9 Try.f9.ntmps (loopOf Try.f9 6) 1 [4, 7, 17, 18, 60, 61, 62] [4, 7, 17, 18] (S_dm me mine tl tn x wl n w i l)
noncomputable def tgt_known15  : T CallOut := evCallW [] GDC1 300 21 [] [] 0
theorem GKDC1 : KnownOk Try.prog GDC1 := KnownOk.lists ss_RCh_ok ll_ro_ok
theorem GODC1 : CtxOk Try.prog GDC1 := GS_ok.with _ _
theorem tree_dm (me mine : Int) (tl : Bool) (tn : Nat) (x : Nat → Ent) (wl : Bool) (n : Nat) (w : Nat → Int) (i : Nat) (l : List (Int × Int)) : (tgt_dm me mine tl tn x wl n w i l).over (.br (.br (.br (.br (.tt (.tt (.tt (.tt (.br (.ff (.tt (.br .leaf .skip))) .leaf))))) (.ff (.ff (.ff (.ff .leaf))))) .skip) .skip) .leaf) =
  T.br (decide ((↑i : Int) < (↑n : Int))) (T.br (!wl) (T.br (decide ((0 : Int) ≤ (↑i : Int) ∧ (↑i : Int) < (↑n : Int))) (T.br (decide ((↑i : Int) < (6 : Int))) (T.br (decide (w i % (4 : Int) > (0 : Int))) (T.br (keysOk (Value.int IntKind.i64 (↑i : Int)) (mI l)) (T.ret (Ex.normal, { sl := [((4 : Nat), SV.v (AI me)), ((7 : Nat), SV.v (AI mine)), ((17 : Nat), SV.v (AV.one (CV.f (FV.fs tl (5 : Nat) tn fun a => [FV.lit (Value.int IntKind.i64 (Ent.inc (x a))), FV.lit (Value.int IntKind.i64 (Ent.st (x a))), FV.lit (Value.int IntKind.i64 (Ent.stamp (x a))), FV.lit (Value.int IntKind.i64 (Ent.load (x a))), FV.lit (Value.bool (Ent.dr (x a)))])))), ((18 : Nat), SV.v (AV.one (CV.mp (0 : Nat)))), ((60 : Nat), SV.v (AV.one (CV.f (FV.fs wl (1 : Nat) n fun a => [FV.lit (Value.int IntKind.i64 (w a))])))), ((61 : Nat), SV.v (AI (↑n : Int))), ((62 : Nat), SV.v (AI (IntKind.wrap IntKind.i64 ((↑i : Int) + (1 : Int)))))], H := [((0 : Nat), Ob.map (setM (Value.int IntKind.i64 (↑i : Int)) (Value.int IntKind.i64 (IntKind.wrap IntKind.i64 (IntKind.wrap IntKind.i64 (Int.tdiv (w i) (4 : Int)) % (12 : Int) - (1 : Int)))) (mI l)))], nx := (1 : Nat), esc := false, base := (0 : Nat), wr := [] : St })) T.bad) (T.ret (Ex.normal, { sl := [((4 : Nat), SV.v (AI me)), ((7 : Nat), SV.v (AI mine)), ((17 : Nat), SV.v (AV.one (CV.f (FV.fs tl (5 : Nat) tn fun a => [FV.lit (Value.int IntKind.i64 (Ent.inc (x a))), FV.lit (Value.int IntKind.i64 (Ent.st (x a))), FV.lit (Value.int IntKind.i64 (Ent.stamp (x a))), FV.lit (Value.int IntKind.i64 (Ent.load (x a))), FV.lit (Value.bool (Ent.dr (x a)))])))), ((18 : Nat), SV.v (AV.one (CV.mp (0 : Nat)))), ((60 : Nat), SV.v (AV.one (CV.f (FV.fs wl (1 : Nat) n fun a => [FV.lit (Value.int IntKind.i64 (w a))])))), ((61 : Nat), SV.v (AI (↑n : Int))), ((62 : Nat), SV.v (AI (IntKind.wrap IntKind.i64 ((↑i : Int) + (1 : Int)))))], H := [((0 : Nat), Ob.map (mI l))], nx := (1 : Nat), esc := false, base := (0 : Nat), wr := [] : St }))) (T.ret (Ex.normal, { sl := [((4 : Nat), SV.v (AI me)), ((7 : Nat), SV.v (AI mine)), ((17 : Nat), SV.v (AV.one (CV.f (FV.fs tl (5 : Nat) tn fun a => [FV.lit (Value.int IntKind.i64 (Ent.inc (x a))), FV.lit (Value.int IntKind.i64 (Ent.st (x a))), FV.lit (Value.int IntKind.i64 (Ent.stamp (x a))), FV.lit (Value.int IntKind.i64 (Ent.load (x a))), FV.lit (Value.bool (Ent.dr (x a)))])))), ((18 : Nat), SV.v (AV.one (CV.mp (0 : Nat)))), ((60 : Nat), SV.v (AV.one (CV.f (FV.fs wl (1 : Nat) n fun a => [FV.lit (Value.int IntKind.i64 (w a))])))), ((61 : Nat), SV.v (AI (↑n : Int))), ((62 : Nat), SV.v (AI (IntKind.wrap IntKind.i64 ((↑i : Int) + (1 : Int)))))], H := [((0 : Nat), Ob.map (mI l))], nx := (1 : Nat), esc := false, base := (0 : Nat), wr := [] : St }))) T.bad) T.bad) (T.ret (Ex.exit (0 : Nat), { sl := [((4 : Nat), SV.v (AI me)), ((7 : Nat), SV.v (AI mine)), ((17 : Nat), SV.v (AV.one (CV.f (FV.fs tl (5 : Nat) tn fun a => [FV.lit (Value.int IntKind.i64 (Ent.inc (x a))), FV.lit (Value.int IntKind.i64 (Ent.st (x a))), FV.lit (Value.int IntKind.i64 (Ent.stamp (x a))), FV.lit (Value.int IntKind.i64 (Ent.load (x a))), FV.lit (Value.bool (Ent.dr (x a)))])))), ((18 : Nat), SV.v (AV.one (CV.mp (0 : Nat))))], H := [((0 : Nat), Ob.map (mI l))], nx := (1 : Nat), esc := false, base := (0 : Nat), wr := [] : St })) := by kernel_rfl
theorem tree_known15  : (tgt_known15 ).over (.tt (.tt (.tt (.tt (.tt .leaf))))) =
  T.ret (out0 (SV.v (AB true))) := by kernel_rfl
theorem res_known15  : (tgt_known15 ).res = some (out0 (.v (AB true))) := by
  refine T.over_eq _ (tree_known15 ) ?_
  simp only [T.res_br, T.res_ret, T.res_bad]

noncomputable def F_known15 : SumF
  | [], [], 0 => .ret (out0 (.v (AB true)))
  | _, _, _ => .bad
theorem sum_known15 : SumOk Try.prog 21 F_known15 := by
  refine ⟨fun args H nx r hr => ?_, fun args H nx => ?_⟩
  · unfold F_known15 at hr
    split at hr
    · have := T.ret_some hr
      subst this
      exact evCallW_ok GODC1 GKDC1 res_known15
    · exact (T.bad_some hr).elim
  · unfold F_known15
    split
    · exact ⟨Nat.zero_le _, fun b hb hw => absurd hb (Nat.not_lt_zero b)⟩
    · trivial
noncomputable def sm_known15 : SumF := canonSum F_known15
theorem sm_known15_ok : SumOk Try.prog 21 sm_known15 := canonSum_ok sum_known15
noncomputable def ss_known15 : List (Nat × SumF) := (21, sm_known15) :: ss_RCh
theorem ss_known15_ok : ∀ x ∈ ss_known15, SumOk Try.prog x.1 x.2 := List.forall_mem_cons.2 ⟨sm_known15_ok, ss_RCh_ok⟩
def NoM (es : List (Value × Value)) : Prop := es = []
theorem NoM_nil : NoM [] := rfl
def dmV (x : Int) : Int := IntKind.wrap IntKind.i64 (IntKind.wrap IntKind.i64 (Int.tdiv x 4) % 12 - 1)
def dmF (w : Nat → Int) (i : Nat) (l : List (Int × Int)) : List (Int × Int) := match decide ((i : Int) < 6) && decide (w i % 4 > 0) with | true => putI (i : Int) (dmV (w i)) l | false => l
def dmL (w : Nat → Int) (n : Nat) : List (Int × Int) := foldF (dmF w) n 0 []

theorem round_dm (me mine : Int) (tl : Bool) (tn : Nat) (x : Nat → Ent) (wl : Bool) (n : Nat) (w : Nat → Int) (hwl : wl = true → n = 0) (hn : (n : Int) ≤ 9223372036854775807) (i : Nat) (a : List (Int × Int)) (hi : i < n) (hI : (fun (i : Nat) (a : List (Int × Int)) => (True : Prop)) i a) : ∃ st', (tgt_dm me mine tl tn x wl n w i a).res = some (.normal, st') ∧ StLe 1 st' (S_dm me mine tl tn x wl n w (i + 1) ((fun (i : Nat) (a : List (Int × Int)) => (dmF w i a)) i a)) ∧ (fun (i : Nat) (a : List (Int × Int)) => (True : Prop)) (i + 1) ((fun (i : Nat) (a : List (Int × Int)) => (dmF w i a)) i a) := by
  refine T.over_exP (g := fun s => (Ex.normal, s)) (tree_dm me mine tl tn x wl n w i a) ?_
  have e1 : ((i : Int) < (n : Int)) := by omega
  have e2 : (0 : Int) ≤ (i : Int) ∧ (i : Int) < (n : Int) := by omega
  have e3 : IntKind.wrap .i64 ((i : Int) + 1) = ((i + 1 : Nat) : Int) := by rw [wrapI (by omega)]; rfl
  have e4 : keysOk (.int .i64 (i : Int)) (mI a) = true := mI_keys _ _
  obtain rfl : wl = false := by
    cases wl
    · rfl
    · have := hwl rfl; omega
  cases q1 : decide ((i : Int) < 6)
  · simp only [dmF, T.res_br, T.res_ret, T.res_bad, decide_eq_true e1, decide_eq_true e2, e3, q1, Bool.false_and, Bool.not_false, Bool.false_eq_true, reduceIte]
    exact ⟨_, rfl, StLe.less (Nat.le_refl 1) (fun t => .inr (.inl rfl)) (fun b => .inl rfl), trivial⟩
  · cases q2 : decide (w i % 4 > 0)
    · simp only [dmF, T.res_br, T.res_ret, T.res_bad, decide_eq_true e1, decide_eq_true e2, e3, q1, q2, Bool.and_false, Bool.not_false, Bool.false_eq_true, reduceIte]
      exact ⟨_, rfl, StLe.less (Nat.le_refl 1) (fun t => .inr (.inl rfl)) (fun b => .inl rfl), trivial⟩
    · simp only [dmF, T.res_br, T.res_ret, T.res_bad, decide_eq_true e1, decide_eq_true e2, e3, e4, q1, q2, mI_put, Bool.and_self, Bool.not_false, reduceIte]
      exact ⟨_, rfl, StLe.less (Nat.le_refl 1) (fun t => .inr (.inl rfl)) (fun b => .inl rfl), trivial⟩
theorem end_dm (me mine : Int) (tl : Bool) (tn : Nat) (x : Nat → Ent) (wl : Bool) (n : Nat) (w : Nat → Int) (hwl : wl = true → n = 0) (hn : (n : Int) ≤ 9223372036854775807) (a : List (Int × Int)) (hI : (fun (i : Nat) (a : List (Int × Int)) => (True : Prop)) (n) a) : ∃ st', (tgt_dm me mine tl tn x wl n w (n) a).res = some (.exit 0, st') ∧ StLe 1 st' (⟨[(4, .v (AI me)), (7, .v (AI mine)), (17, .v (.one (.f (.fs tl 5 tn (entE x))))), (18, .v (.one (.mp 0)))], [(0, .map (mI a))], 1, false, 0, []⟩) := by
  refine T.over_exP (g := fun s => (.exit 0, s)) (tree_dm me mine tl tn x wl n w (n) a) ?_
  simp only [T.res_br, T.res_ret, T.res_bad, decide_eq_true_eq, Int.lt_irrefl, reduceIte]
  exact ⟨_, rfl, StLe.refl (Nat.le_refl 1)⟩
theorem loop_dm (me mine : Int) (tl : Bool) (tn : Nat) (x : Nat → Ent) (wl : Bool) (n : Nat) (w : Nat → Int) (hwl : wl = true → n = 0) (hn : (n : Int) ≤ 9223372036854775807) (i : Nat) (a : List (Int × Int)) (hi : i ≤ n) (hI : (fun (i : Nat) (a : List (Int × Int)) => (True : Prop)) i a) {st0 : St} (h0 : StLe 1 st0 (S_dm me mine tl tn x wl n w i a)) (hnx : st0.nx = 1) :
    CodeOk Try.prog Try.f9.ntmps (.loop (loopOf Try.f9 6)) st0 (.exit 0) ((fun (a : List (Int × Int)) => ⟨[(4, .v (AI me)), (7, .v (AI mine)), (17, .v (.one (.f (.fs tl 5 tn (entE x))))), (18, .v (.one (.mp 0)))], [(0, .map (mI a))], 1, false, 0, []⟩) (foldF (fun (i : Nat) (a : List (Int × Int)) => (dmF w i a)) (n - i) i a)) := by
  have := for_loop GODC1 GKDC1 (K := 300) (F := 9) (N := Try.f9.ntmps) (c := loopOf Try.f9 6) (m := 1) (live := [4, 7, 17, 18, 60, 61, 62]) (after := [4, 7, 17, 18]) (S_dm me mine tl tn x wl n w) (n) (fun (i : Nat) (a : List (Int × Int)) => .inl (dmF w i a)) (fun (a : List (Int × Int)) => (.exit 0, ⟨[(4, .v (AI me)), (7, .v (AI mine)), (17, .v (.one (.f (.fs tl 5 tn (entE x))))), (18, .v (.one (.mp 0)))], [(0, .map (mI a))], 1, false, 0, []⟩)) (fun (i : Nat) (a : List (Int × Int)) => (True : Prop))
    (fun i a hi hI => by obtain ⟨s, h1, h2, h3⟩ := round_dm me mine tl tn x wl n w hwl hn i a hi hI; exact ⟨_, s, h1, rfl, h2, h3⟩)
    (fun a hI => by obtain ⟨s, h1, h2⟩ := end_dm me mine tl tn x wl n w hwl hn a hI; exact ⟨_, s, h1, by simp, rfl, h2⟩)
    (fun i a => by first | exact Nat.le_refl _ | (show 1 ≤ _; decide) | (simp only [S_dm]; omega)) hi hI h0 hnx
  rw [foldX_inl] at this
  exact this
noncomputable def L_dm : LoopF := mkLoopF [4, 7, 17, 18, 60, 61, 62] (loopOf Try.f9 6) Try.f9.ntmps fun sl H nx => match keyed [4, 7, 17, 18, 60, 61, 62] sl, keyed [0] H with
  | some [.v (.one (.f (.lit (.int .i64 me)))), .v (.one (.f (.lit (.int .i64 mine)))), .v (.one (.f (.fs tl k tn e))), .v (.one (.mp z1)), .v (.one (.f (.fs wl k2 n e2))), .v (.one (.f (.lit (.int .i64 q)))), .v (.one (.f (.lit (.int .i64 i))))], some [.map es] => onlyB (Nat.beq nx 1 && (Nat.beq z1 0)) (onlyB (Nat.beq k 5 && Nat.beq k2 1) (.need (pb (EntE e ∧ IntE e2 ∧ NoM es ∧ q = n ∧ i = 0 ∧ (wl = true → n = 0) ∧ (n : Int) ≤ 9223372036854775807)) (.ret (.exit 0, (St.mk [(4, .v (AI me)), (7, .v (AI mine)), (17, .v (.one (.f (.fs tl 5 tn e)))), (18, .v (.one (.mp 0)))] [(0, .map (mI (dmL (intOf e2) n)))] 1 false 0 []).sl, (St.mk [(4, .v (AI me)), (7, .v (AI mine)), (17, .v (.one (.f (.fs tl 5 tn e)))), (18, .v (.one (.mp 0)))] [(0, .map (mI (dmL (intOf e2) n)))] 1 false 0 []).H, 1, false))))
  | _, _ => .bad
theorem L_dm_ok : LoopOk Try.prog L_dm := by
  refine mkLoopF_ok fun sl H nx e sl' H' nx' esc' h => ?_
  split at h
  · rename_i me mine tl k tn e z1 wl k2 n e2 q i es hsl hH
    have hsl := keyed_eq hsl
    have hH := keyed_eq hH
    subst hsl hH
    have h5 := onlyB_some h
    clear h
    obtain ⟨hck, h⟩ := h5
    simp only [Bool.and_eq_true, nbeq_iff] at hck
    obtain ⟨rfl, rfl⟩ := hck
    have h5 := onlyB_some h
    clear h
    have hw := h5.1
    have h := h5.2
    clear h5
    obtain ⟨hp, hret⟩ := T.need_some h
    have hp := pb_of hp
    have := T.ret_some hret
    simp only [Prod.mk.injEq] at this
    obtain ⟨rfl, rfl, rfl, rfl, rfl⟩ := this
    clear hret h
    obtain ⟨⟨x, rfl⟩, ⟨w, rfl⟩, rfl, rfl, rfl, h1, h2⟩ := hp
    obtain ⟨hw1, hw2⟩ := Bool.and_eq_true_iff.1 hw
    obtain rfl := Nat.eq_of_beq_eq_true hw1
    obtain rfl := Nat.eq_of_beq_eq_true hw2
    exact loop_dm me mine tl tn x wl n w h1 h2 0 [] (Nat.zero_le _) trivial (StLe.refl (Nat.le_refl 1)) rfl
  · exact (T.bad_some h).elim
noncomputable def ll_dm : List (Nat × Nat × LoopF) := (9, 6, L_dm) :: ll_ro
theorem ll_dm_ok : ∀ x ∈ ll_dm, LoopOk Try.prog x.2.2 := List.forall_mem_cons.2 ⟨L_dm_ok, ll_ro_ok⟩
noncomputable def GDC2 : Ctx := GS.with ss_known15 ll_dm
noncomputable def tgt_DTells (w load own : Int) (drain : Bool) (me : Int) (tl : Bool) (tn : Nat) (x : Nat → Ent) (wl : Bool) (n : Nat) (v : Nat → Int) (mine : Int) : T CallOut := evCallW [] GDC2 300 9 [AI w, AI load, AI own, AB drain, AI me, .one (.f (.fs tl 5 tn (entE x))), .one (.f (.fs wl 1 n (intE v))), AI mine] [] 0
theorem GKDC2 : KnownOk Try.prog GDC2 := KnownOk.lists ss_known15_ok ll_dm_ok
theorem GODC2 : CtxOk Try.prog GDC2 := GS_ok.with _ _
theorem tree_DTells (w load own : Int) (drain : Bool) (me : Int) (tl : Bool) (tn : Nat) (x : Nat → Ent) (wl : Bool) (n : Nat) (v : Nat → Int) (mine : Int) : (tgt_DTells w load own drain me tl tn x wl n v mine).over (.br (.tt (.tt (.tt (.tt (.tt (.tt (.tt (.tt (.tt (.tt (.tt (.tt (.tt (.tt (.tt (.tt (.tt (.tt .leaf)))))))))))))))))) (.ff (.tt (.ff (.ff (.tt (.ff (.ff (.tt (.ff (.ff (.ff (.ff (.tt (.ff (.ff (.tt (.ff (.ff (.tt (.ff (.ff (.ff (.ff (.br .leaf (.br (.br (.br (.tt (.tt (.br (.br (.tt (.tt (.tt (.tt (.br (.tt (.tt (.tt .leaf))) (.ff (.ff (.ff .leaf)))))))) .skip) .skip))) .skip) .skip) .skip)))))))))))))))))))))))))) =
  T.br (!fitsB w load own drain == fitsB w load own drain) (T.ret (out0 (SV.v (AB false)))) (T.br (!fitsB (w % (9 : Int)) (load % (20 : Int)) (own % (20 : Int)) drain == fitsB (w % (9 : Int)) (load % (20 : Int)) (own % (20 : Int)) drain) (T.ret (out0 (SV.v (AB false)))) (T.br (pb (EntL tl tn (entE x) ∧ (0 : Int) ≤ (6 : Int) ∧ (6 : Int) ≤ (1000 : Int))) (T.br (pb (loopOf Proofs.Try.f9 (6 : Nat) = loopOf Proofs.Try.f9 (6 : Nat) ∧ (113 : Nat) = (113 : Nat))) (T.br (pb (EntE (entE fun j => entR (entOf (entE x) j)) ∧ IntE (intE v) ∧ NoM [] ∧ (↑n : Int) = (↑n : Int) ∧ (0 : Int) = (0 : Int) ∧ (wl = true → n = (0 : Nat)) ∧ (↑n : Int) ≤ (9223372036854775807 : Int))) (T.br (pb (EntE (entE fun j => entR (entOf (entE x) j)) ∧ ((Nat.beq (min tn (6 : Nat)) (0 : Nat) = true → min tn (6 : Nat) = (0 : Nat)) ∧ min tn (6 : Nat) < (20 : Nat)) ∧ MapI (mI (dmL v n)))) (T.br (pb (EntE (entE fun j => entR (entOf (entE x) j)) ∧ ((Nat.beq (min tn (6 : Nat)) (0 : Nat) = true → min tn (6 : Nat) = (0 : Nat)) ∧ min tn (6 : Nat) < (20 : Nat)) ∧ MapI (mI (dmL v n)))) (T.br (Prod.fst (chT (IntKind.wrap IntKind.i64 (me % (8 : Int) - (1 : Int))) (mine % (25 : Int)) (fun j => entR (entOf (entE x) j)) (mI (dmL v n)) (min tn (6 : Nat))) == Prod.fst (chT (IntKind.wrap IntKind.i64 (me % (8 : Int) - (1 : Int))) (mine % (25 : Int)) (fun j => entR (entOf (entE x) j)) (mI (dmL v n)) (min tn (6 : Nat)))) (T.ret (out0 (SV.v (AB (Prod.fst (Prod.snd (chT (IntKind.wrap IntKind.i64 (me % (8 : Int) - (1 : Int))) (mine % (25 : Int)) (fun j => entR (entOf (entE x) j)) (mI (dmL v n)) (min tn (6 : Nat)))) == Prod.fst (Prod.snd (chT (IntKind.wrap IntKind.i64 (me % (8 : Int) - (1 : Int))) (mine % (25 : Int)) (fun j => entR (entOf (entE x) j)) (mI (dmL v n)) (min tn (6 : Nat)))) && (Prod.fst (Prod.snd (Prod.snd (chT (IntKind.wrap IntKind.i64 (me % (8 : Int) - (1 : Int))) (mine % (25 : Int)) (fun j => entR (entOf (entE x) j)) (mI (dmL v n)) (min tn (6 : Nat))))) == Prod.fst (Prod.snd (Prod.snd (chT (IntKind.wrap IntKind.i64 (me % (8 : Int) - (1 : Int))) (mine % (25 : Int)) (fun j => entR (entOf (entE x) j)) (mI (dmL v n)) (min tn (6 : Nat))))) && (Prod.snd (Prod.snd (Prod.snd (chT (IntKind.wrap IntKind.i64 (me % (8 : Int) - (1 : Int))) (mine % (25 : Int)) (fun j => entR (entOf (entE x) j)) (mI (dmL v n)) (min tn (6 : Nat))))) == Prod.snd (Prod.snd (Prod.snd (chT (IntKind.wrap IntKind.i64 (me % (8 : Int) - (1 : Int))) (mine % (25 : Int)) (fun j => entR (entOf (entE x) j)) (mI (dmL v n)) (min tn (6 : Nat))))) && true))))))) (T.ret (out0 (SV.v (AB false))))) T.bad) T.bad) T.bad) T.bad) T.bad)) := by kernel_rfl
theorem res_DTells (w load own : Int) (drain : Bool) (me : Int) (tl : Bool) (tn : Nat) (x : Nat → Ent) (wl : Bool) (n : Nat) (v : Nat → Int) (mine : Int) (h1 : LnOk tl tn) (h2 : LnOk wl n) : (tgt_DTells w load own drain me tl tn x wl n v mine).res = some (out0 (.v (AB true))) := by
  refine T.over_eq _ (tree_DTells w load own drain me tl tn x wl n v mine) ?_
  have a1 : EntL tl tn (entE x) := ⟨entN _ _, h1⟩
  have a2 : (0 : Int) ≤ 6 ∧ (6 : Int) ≤ 1000 := by decide
  have a3 : (wl = true → n = 0) = True := eq_true h2.2
  have a4 := h2.1
  have a5 : (Nat.beq (min tn 6) 0 = true → min tn 6 = 0) = True := eq_true Nat.eq_of_beq_eq_true
  have a6 : min tn 6 < 20 := by omega
  simp only [T.res_br, T.res_ret, T.res_bad, a1, a2, a3, a4, a5, a6, EntE_ok, IntE_ok, NoM_nil, MapI_mI, bne_self_eq_false, beq_self_eq_true, Bool.and_self, Bool.not_true, eq_self, and_self, pb_tt, Bool.false_eq_true, reduceIte]

end Go.Proofs.Ytggneleipimijaa.En
