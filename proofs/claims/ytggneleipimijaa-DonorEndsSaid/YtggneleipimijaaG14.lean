/- Texts put together: RS, DC, DP, F14, F15, F16, F17. -/
import Derived.Test.YtggneleipimijaaG13
import Derived.Test.YtggneleipimijaaG08
import Derived.Maps.RangeRun
/- What the answer of Targets is like. -/
namespace Go.Proofs.Ytggneleipimijaa.En
open Go
set_option linter.unusedVariables false
set_option linter.unusedSimpArgs false
set_option maxRecDepth 20000
set_option maxHeartbeats 1000000
noncomputable def GRS1 : Ctx := GS.with ss_Table ll_tb
noncomputable def tgt_known  : T CallOut := evCallW [] GRS1 300 13 [] [] 0
theorem GKRS1 : KnownOk Try.prog GRS1 := KnownOk.lists ss_Table_ok ll_tb_ok
theorem GORS1 : CtxOk Try.prog GRS1 := GS_ok.with _ _
theorem tree_known : (tgt_known ).over (.ff (.tt (.ff (.ff (.tt (.tt (.tt (.tt (.tt (.tt (.tt (.ff (.tt (.tt (.tt (.ff (.tt (.tt (.tt (.tt (.tt (.tt (.tt (.tt (.ff (.ff (.tt (.tt (.tt (.tt (.ff (.tt (.tt (.tt (.tt (.ff (.ff (.ff (.tt (.tt (.tt (.tt (.ff (.ff (.tt (.ff (.tt (.ff (.tt (.ff (.tt (.tt (.ff (.tt (.ff (.ff (.ff (.ff (.ff (.ff (.tt (.tt (.tt (.tt (.tt (.tt (.tt (.tt (.ff (.tt (.tt (.tt (.tt (.tt (.tt (.tt (.tt (.tt (.tt (.tt (.ff (.ff (.ff (.ff (.ff (.ff (.ff (.ff (.tt (.ff (.tt (.tt (.tt (.tt (.tt (.tt (.ff (.ff (.tt (.tt (.tt (.tt (.tt (.tt (.tt (.tt (.ff (.tt (.tt (.tt (.ff (.ff (.ff (.ff (.ff (.ff (.ff (.ff (.tt (.ff (.ff (.tt (.ff (.tt (.tt (.ff (.tt (.ff (.ff (.ff (.ff (.ff (.ff (.ff (.ff (.ff (.tt (.ff (.tt (.tt (.tt (.ff (.ff (.ff (.ff (.ff (.ff (.ff (.ff (.ff (.ff (.tt (.tt (.tt (.tt (.tt (.tt (.tt (.tt (.tt (.tt (.ff (.ff (.ff (.tt (.tt (.tt (.ff (.ff (.ff (.ff (.ff (.ff (.ff (.tt (.ff (.tt (.ff (.tt (.tt (.tt (.ff (.tt (.tt (.ff (.ff (.tt (.ff (.ff (.ff (.ff (.tt (.tt (.tt (.tt (.tt (.tt (.tt (.tt (.ff (.tt (.tt (.tt (.tt (.tt (.tt (.tt (.tt (.tt (.tt (.tt (.ff (.ff (.ff (.ff (.ff (.ff (.ff (.ff (.tt (.ff (.ff (.ff (.tt (.tt (.tt (.ff (.tt (.tt (.tt (.tt (.ff (.ff (.tt (.tt (.ff (.tt (.ff (.tt (.tt (.tt (.tt (.tt (.tt (.tt (.ff (.tt (.tt (.tt (.ff (.tt (.tt (.tt (.ff (.tt (.ff (.ff (.tt (.tt (.ff (.tt (.ff (.ff (.tt (.tt (.tt (.tt (.tt (.tt (.ff (.tt (.tt (.tt (.ff (.tt (.tt (.ff (.ff (.tt (.ff (.tt (.ff (.tt (.tt (.ff (.tt (.ff (.ff (.ff (.ff (.ff (.ff (.tt (.tt (.ff (.tt (.ff (.tt (.tt (.tt (.ff (.ff (.ff (.ff (.ff (.ff (.ff (.ff (.tt (.ff (.ff (.ff (.ff (.ff (.ff (.ff (.ff (.ff (.ff (.ff (.tt (.tt (.tt (.ff (.tt (.tt (.tt (.ff (.ff (.ff (.ff (.tt (.tt (.tt (.tt (.tt (.tt (.tt (.tt (.ff (.tt (.tt (.tt (.tt (.tt (.tt (.tt (.tt (.tt (.tt (.tt (.ff (.ff (.ff (.ff (.ff (.ff (.ff (.ff (.tt (.ff (.ff (.ff (.tt (.tt (.tt (.ff (.tt (.tt (.tt (.tt (.tt (.tt (.ff (.tt (.ff (.ff (.tt (.ff (.tt (.ff (.tt (.tt (.ff (.tt (.ff (.tt (.tt (.ff (.tt (.tt (.tt (.ff (.tt (.tt (.tt (.tt (.tt (.tt (.tt (.ff (.ff (.tt (.tt (.tt (.ff (.tt (.ff (.ff (.tt (.tt (.tt (.tt (.tt (.tt (.tt (.ff (.ff (.tt (.ff (.tt (.ff (.tt (.tt (.ff (.tt (.ff (.tt (.tt (.tt (.tt .leaf))))))))))))))))))))))))))))))))))))))))))))))))))))))))))))))))))))))))))))))))))))))))))))))))))))))))))))))))))))))))))))))))))))))))))))))))))))))))))))))))))))))))))))))))))))))))))))))))))))))))))))))))))))))))))))))))))))))))))))))))))))))))))))))))))))))))))))))))))))))))))))))))))))))))))))))))))))))))))))))))))))))))))))))))))))))))))))))))))))))))))))))))))))))))))))))))))))))))))))))))))))))))))))))))))))))))))))))) = T.ret (out0 (SV.v (AB true))) := by kernel_rfl
theorem res_known  : (tgt_known ).res = some (out0 (.v (AB true))) := by
  refine T.over_eq _ (tree_known ) ?_
  simp only [T.res_br, T.res_ret, T.res_bad]

noncomputable def F_known : SumF
  | [], [], 0 => .ret (out0 (.v (AB true)))
  | _, _, _ => .bad
theorem sum_known : SumOk Try.prog 13 F_known := by
  refine ⟨fun args H nx r hr => ?_, fun args H nx => ?_⟩
  · unfold F_known at hr
    split at hr
    · have := T.ret_some hr
      subst this
      exact evCallW_ok GORS1 GKRS1 res_known
    · exact (T.bad_some hr).elim
  · unfold F_known
    split
    · exact ⟨Nat.zero_le _, fun b hb hw => absurd hb (Nat.not_lt_zero b)⟩
    · trivial
noncomputable def sm_known : SumF := canonSum F_known
theorem sm_known_ok : SumOk Try.prog 13 sm_known := canonSum_ok sum_known
noncomputable def ss_known : List (Nat × SumF) := (13, sm_known) :: ss_RTz
theorem ss_known_ok : ∀ x ∈ ss_known, SumOk Try.prog x.1 x.2 := List.forall_mem_cons.2 ⟨sm_known_ok, ss_RTz_ok⟩
/-- s with k at place q -/
def putAt (s : Nat → Int) (k : Int) (q : Nat) : Nat → Int := fun p => if p < q then s p else if p = q then k else s (p - 1)
theorem insK_form (x : Nat → Ent) (ld k : Int) (c : Nat) (s : Nat → Int) : ∀ (f r : Nat) (u : Nat → Int), f + r = c → Agree (c + 1) u (putAt s k (c - r)) → (∀ p, c - r ≤ p → p < c → ldI x (s p) > ld) →
    ∃ q, q ≤ c ∧ Agree (c + 1) (insK x ld k c f r u) (putAt s k q) ∧ (q = 0 ∨ ldI x (s (q - 1)) ≤ ld) ∧ ∀ p, q ≤ p → p < c → ldI x (s p) > ld
  | 0, r, u, h, hu, hg => ⟨c - r, by omega, hu, .inl (by omega), hg⟩
  | f + 1, r, u, h, hu, hg => by
    simp only [insK]
    have e1 : u (c - r - 1) = s (c - r - 1) := by
      rw [hu _ (by omega)]
      unfold putAt
      rw [if_pos (by omega)]
    cases hq : decide (ldI x (u (c - r - 1)) > ld)
    · exact ⟨c - r, by omega, hu, .inr (by have := of_decide_eq_false hq; rw [e1] at this; omega), hg⟩
    · have hq := of_decide_eq_true hq
      rw [e1] at hq
      refine insK_form x ld k c s f (r + 1) _ (by omega) (fun p hp => ?_) (fun p h1 h2 => ?_)
      · rw [e1]
        by_cases h1 : p = c - r - 1
        · subst h1
          rw [Nat.beq_refl]
          unfold putAt
          rw [if_neg (by omega), if_pos (by omega)]; rfl
        · rw [beq_ff h1]
          by_cases h2 : p = c - r
          · subst h2
            rw [Nat.beq_refl]
            unfold putAt
            rw [if_neg (by omega), if_neg (by omega)]; rfl
          · rw [beq_ff h2]
            simp only [cond_false]
            rw [hu p hp]
            unfold putAt
            by_cases h3 : p < c - (r + 1)
            · rw [if_pos (by omega), if_pos h3]
            · rw [if_neg (by omega), if_neg (by omega), if_neg (by omega), if_neg (by omega)]
      · by_cases h3 : p = c - r - 1
        · rw [h3]; exact hq
        · exact hg p (by omega) h2
/-- less by load, then by number -/
def lexI (x : Nat → Ent) (a b : Int) : Prop := ldI x a < ldI x b ∨ (ldI x a = ldI x b ∧ a < b)
def Holds (c : Nat) (y z : Nat → Int) : Prop := ∀ v : Int, (∃ j, j < c ∧ y j = v) ↔ ∃ j, j < c ∧ z j = v
theorem putAt_mem (s : Nat → Int) (k : Int) (c q : Nat) (hq : q ≤ c) (v : Int) : (∃ j, j < c + 1 ∧ putAt s k q j = v) ↔ v = k ∨ ∃ j, j < c ∧ s j = v := by
  constructor
  · rintro ⟨j, hj, e⟩
    unfold putAt at e
    split at e
    · exact .inr ⟨j, by omega, e⟩
    · split at e
      · exact .inl e.symm
      · exact .inr ⟨j - 1, by omega, e⟩
  · rintro (e | ⟨j, hj, e⟩)
    · refine ⟨q, by omega, ?_⟩
      unfold putAt
      rw [if_neg (by omega), if_pos rfl, e]
    · by_cases h : j < q
      · refine ⟨j, by omega, ?_⟩
        unfold putAt
        rw [if_pos h, e]
      · refine ⟨j + 1, by omega, ?_⟩
        unfold putAt
        rw [if_neg (by omega), if_neg (by omega)]
        exact e
theorem insA_ok (x : Nat → Ent) (z : Nat → Int) : ∀ c, (∀ j k, j < k → k < c → z j < z k) → Holds c (insA x c z) z ∧ ∀ i, i + 1 < c → lexI x (insA x c z i) (insA x c z (i + 1))
  | 0, _ => ⟨fun v => ⟨fun ⟨j, hj, _⟩ => absurd hj (Nat.not_lt_zero j), fun ⟨j, hj, _⟩ => absurd hj (Nat.not_lt_zero j)⟩, fun i hi => absurd hi (Nat.not_lt_zero _)⟩
  | c + 1, hz => by
    obtain ⟨i1, i2⟩ := insA_ok x z c (fun j k h1 h2 => hz j k h1 (by omega))
    have ek : insA x c z (c - 0) = z c := insA_out x c z c (Nat.le_refl c)
    rw [insA_succ, insK_eq x (z c) c c 0 _ ek]
    generalize insA x c z = s at i1 i2 ek
    have hlt : ∀ j, j < c → s j < z c := fun j hj => by
      obtain ⟨i, hi, e⟩ := (i1 _).1 ⟨j, hj, rfl⟩
      rw [← e]; exact hz i c hi (Nat.lt_succ_self c)
    obtain ⟨q, q1, q2, q3, q4⟩ := insK_form x (ldI x (z c)) (z c) c s c 0 s (by omega) (fun p hp => by
      unfold putAt
      by_cases h : p < c
      · rw [if_pos (by omega)]
      · obtain rfl : p = c := by omega
        rw [if_neg (by omega), if_pos (by omega)]; exact ek) (fun p h1 h2 => by omega)
    generalize insK x (ldI x (z c)) (z c) c c 0 s = w at q2
    refine ⟨fun v => ?_, fun i hi => ?_⟩
    · have h1 : (∃ j, j < c + 1 ∧ w j = v) ↔ ∃ j, j < c + 1 ∧ putAt s (z c) q j = v :=
        ⟨fun ⟨j, hj, e⟩ => ⟨j, hj, by rw [← q2 j hj]; exact e⟩, fun ⟨j, hj, e⟩ => ⟨j, hj, by rw [q2 j hj]; exact e⟩⟩
      rw [h1, putAt_mem s (z c) c q q1, i1 v]
      exact ⟨fun h => by
        rcases h with h | ⟨j, hj, e⟩
        · exact ⟨c, by omega, h.symm⟩
        · exact ⟨j, by omega, e⟩, fun ⟨j, hj, e⟩ => by
        by_cases h : j < c
        · exact .inr ⟨j, h, e⟩
        · obtain rfl : j = c := by omega
          exact .inl e.symm⟩
    · rw [q2 i (by omega), q2 (i + 1) hi]
      unfold putAt
      rcases Nat.lt_trichotomy (i + 1) q with h | h | h
      · rw [if_pos (by omega), if_pos h]
        exact i2 i (by omega)
      · rw [if_pos (by omega), if_neg (by omega), if_pos h]
        rcases q3 with h0 | h0
        · omega
        · have e : q - 1 = i := by omega
          rw [e] at h0
          rcases Int.lt_or_eq_of_le h0 with h1 | h1
          · exact .inl h1
          · exact .inr ⟨h1, hlt i (by omega)⟩
      · rw [if_neg (by omega), if_neg (show ¬ i + 1 < q by omega), if_neg (show ¬ i + 1 = q by omega)]
        by_cases h1 : i = q
        · rw [if_pos h1]
          have := q4 i (by omega) (by omega)
          exact .inl (by rw [Nat.add_sub_cancel]; omega)
        · rw [if_neg h1, Nat.add_sub_cancel]
          have := i2 (i - 1) (by omega)
          rwa [show i - 1 + 1 = i by omega] at this
theorem tgA_asc (me : Int) (x : Nat → Ent) (n : Nat) : ∀ j k, j < k → k < (tgA me x n).1 → (tgA me x n).2 j < (tgA me x n).2 k := (fil_ok (tgB me x) n).2
theorem tgR_asc (me : Int) (x : Nat → Ent) (n : Nat) : ∀ j k, j < k → k < (tgR me x n).1 → (tgR me x n).2 j < (tgR me x n).2 k := by
  unfold tgR
  cases (x me.toNat).dr
  · exact nz_asc me _ _
  · exact tgA_asc me x n
theorem tgR_mem {me : Int} {x : Nat → Ent} {n j : Nat} (hj : j < (tgR me x n).1) : ∃ i : Nat, i < n ∧ tgB me x i = true ∧ (i : Int) = (tgR me x n).2 j := by
  have key : ∀ v, (∃ j, j < (tgA me x n).1 ∧ (tgA me x n).2 j = v) → ∃ i : Nat, i < n ∧ tgB me x i = true ∧ (i : Int) = v := fun v => ((fil_ok (tgB me x) n).1 v).1
  unfold tgR at hj ⊢
  cases hd : (x me.toNat).dr
  · rw [hd] at hj
    exact key _ (nz_mem hj).1
  · rw [hd] at hj
    exact key _ ⟨j, hj, rfl⟩
/-- what is told of each of them -/
def TgOk (me : Int) (x : Nat → Ent) (n : Nat) (v : Int) : Prop := (0 ≤ v ∧ v < (n : Int)) ∧ v ≠ me ∧ (x v.toNat).st ≠ 2 ∧ (x v.toNat).dr = false
theorem TgOk_of {me : Int} {x : Nat → Ent} {n i : Nat} (hi : i < n) (hb : tgB me x i = true) : TgOk me x n i := by
  unfold tgB at hb
  simp only [Bool.and_eq_true, bne_iff_ne, ne_eq, Bool.not_eq_true'] at hb
  refine ⟨by omega, hb.1.1, ?_, ?_⟩
  · rw [Int.toNat_natCast]; exact hb.1.2
  · rw [Int.toNat_natCast]; exact hb.2
theorem tz_in {me : Int} {n : Nat} (h : 0 ≤ me ∧ me < (n : Int)) (x : Nat → Ent) : tzL me x n = (tgR me x n).1 := if_pos h
theorem tz_ok {me : Int} {n : Nat} (h : 0 ≤ me ∧ me < (n : Int)) (x : Nat → Ent) {i : Nat} (hi : i < tzL me x n) : TgOk me x n (tzE me x n i) := by
  have hL := tz_in h x
  have hm := (insA_ok x (tgR me x n).2 (tgR me x n).1 (tgR_asc me x n)).1
  unfold tzE
  rw [hL] at hi ⊢
  obtain ⟨j, hj, e⟩ := (hm _).1 ⟨i, hi, rfl⟩
  obtain ⟨k, hk, hb, e2⟩ := tgR_mem hj
  rw [← e, ← e2]
  exact TgOk_of hk hb
theorem tz_lex {me : Int} {n : Nat} (h : 0 ≤ me ∧ me < (n : Int)) (x : Nat → Ent) {i : Nat} (hi : i + 1 < tzL me x n) : lexI x (tzE me x n i) (tzE me x n (i + 1)) := by
  have hL := tz_in h x
  have hm := (insA_ok x (tgR me x n).2 (tgR me x n).1 (tgR_asc me x n)).2
  unfold tzE
  rw [hL] at hi ⊢
  exact hm i hi
theorem nz_count {me : Int} {y : Nat → Int} {d : Nat} (ha : ∀ j k, j < k → k < d → y j < y k) (hn : ∀ j, j < d → y j ≠ me) : nzL me y d = min d 2 := by
  unfold nzL
  by_cases h0 : nxD me y d = 0
  · rw [if_pos h0]
    rcases Nat.eq_zero_or_pos d with h | h
    · omega
    · exact absurd ((nxD_none me y d).1 h0 0 h) (hn 0 h)
  · rw [if_neg h0]
    have hd : 0 < d := by
      rcases Nat.eq_zero_or_pos d with h | h
      · subst h
        exact absurd ((nxD_none me y 0).2 fun j hj => absurd hj (Nat.not_lt_zero j)) h0
      · exact h
    have hB := nxB_ok h0
    have hA := nxA_ok h0
    generalize nxB me y d = b at hB
    generalize nxA me y d = a at hA
    split
    · rename_i hm
      obtain rfl : b = a := by omega
      by_cases h2 : d < 2
      · omega
      · exfalso
        have h01 := ha 0 1 (by omega) (by omega)
        have n0 := hn 0 hd
        have n1 := hn 1 (by omega)
        rcases hB with ⟨⟨j, j1, j2, j3⟩, j4⟩ | ⟨g1, ⟨j, j1, j2, j3⟩, j4⟩
        · rcases hA with ⟨⟨k, k1, k2, k3⟩, k4⟩ | ⟨f1, _, k4⟩
          · omega
          · have := f1 0 hd
            have := j4 0 hd (by omega)
            have := k4 1 (by omega) n1
            omega
        · rcases hA with ⟨⟨k, k1, k2, k3⟩, k4⟩ | ⟨f1, _, k4⟩
          · have := g1 1 (by omega)
            have := k4 1 (by omega) (by omega)
            have := j4 0 hd n0
            omega
          · have := f1 0 hd
            have := g1 0 hd
            omega
    · rename_i hm
      by_cases h2 : d < 2
      · obtain rfl : d = 1 := by omega
        have : ∀ {v : Int}, (∃ j, j < 1 ∧ y j = v) → v = y 0 := fun ⟨j, hj, e⟩ => by
          obtain rfl : j = 0 := by omega
          exact e.symm
        have eb : b = y 0 := by
          rcases hB with ⟨⟨j, j1, j2, j3⟩, j4⟩ | ⟨g1, ⟨j, j1, j2, j3⟩, j4⟩ <;> exact this ⟨j, j1, j3⟩
        have ea : a = y 0 := by
          rcases hA with ⟨⟨j, j1, j2, j3⟩, j4⟩ | ⟨g1, ⟨j, j1, j2, j3⟩, j4⟩ <;> exact this ⟨j, j1, j3⟩
        omega
      · omega
theorem tz_count {me : Int} {n : Nat} (h : 0 ≤ me ∧ me < (n : Int)) (x : Nat → Ent) : tzL me x n = match (x me.toNat).dr with | true => (tgA me x n).1 | false => min (tgA me x n).1 2 := by
  rw [tz_in h x]
  unfold tgR
  cases hd : (x me.toNat).dr
  · refine nz_count (tgA_asc me x n) fun j hj => ?_
    obtain ⟨i, hi, hb, e⟩ := ((fil_ok (tgB me x) n).1 ((tgA me x n).2 j)).1 ⟨j, hj, rfl⟩
    rw [← e]
    exact (TgOk_of hi hb).2.1
  · rfl

end Go.Proofs.Ytggneleipimijaa.En
/- Donor: both Choose are known. -/
namespace Go.Proofs.Ytggneleipimijaa.En
open Go
set_option linter.unusedVariables false
set_option linter.unusedSimpArgs false
set_option maxRecDepth 20000
set_option maxHeartbeats 1000000
/-- what Choose answers -/
def chT (me load : Int) (x : Nat → Ent) (es : List (Value × Value)) (n : Nat) : G5 := chX me load x es (tzE me x n) (tzL me x n) 0
theorem ch_pre {me : Int} {nl : Bool} {n : Nat} (x : Nat → Ent) (h : (nl = true → n = 0) ∧ n < 20) : tzL me x n ≤ 1048576 ∧ (Nat.beq (tzL me x n) 0 = true → tzL me x n = 0) ∧ InI (tzE me x n) (tzL me x n) n ∧ (0 < tzL me x n → nl = false ∧ 0 ≤ me ∧ me < (n : Int)) := by
  have hin : 0 < tzL me x n → 0 ≤ me ∧ me < (n : Int) := fun h => by
    unfold tzL at h
    split at h
    · assumption
    · omega
  refine ⟨?_, Nat.eq_of_beq_eq_true, fun k hk => (tz_ok (hin (by omega)) x hk).1, fun h0 => ⟨?_, hin h0⟩⟩
  · rcases Nat.eq_zero_or_pos (tzL me x n) with h0 | h0
    · omega
    · rw [tz_in (hin h0) x]
      unfold tgR
      cases (x me.toNat).dr
      · have : nzL me (tgA me x n).2 (tgA me x n).1 ≤ 2 := by
          unfold nzL
          split
          · omega
          · split <;> omega
        dsimp only; omega
      · have := (tgA_ok me x n).1
        dsimp only; omega
  · cases nl
    · rfl
    · have := h.1 rfl
      have := hin h0
      omega
abbrev chR (g : G5) (es : List (Value × Value)) : CallOut := ⟨.tup [.agg [I g.2.1, I g.2.2.1, I 0, I g.2.2.2], AB g.1], [(0, .map es)], 1, false, []⟩
theorem pb_ff : pb False = false := pb_false (fun h => h)
theorem res_Ch (me load : Int) (nl : Bool) (n : Nat) (x : Nat → Ent) (es : List (Value × Value)) (h : ((nl = true → n = 0) ∧ n < 20) ∧ MapI es) : (tgt_Ch me load nl n x es).res = some (chR (chT me load x es n) es) := by
  refine T.over_eq _ (tree_Ch me load nl n x es) ?_
  obtain ⟨h1, h2⟩ := h
  obtain ⟨a1, a2, a3, a4⟩ := ch_pre (me := me) x h1
  have b1 : (nl = true → n = 0) = True := eq_true h1.1
  simp only [T.res_br, T.res_ret, T.res_bad, EntE_ok, IntE_ok, entOf_entE, intOf_intE, b1, h1.2, h2, a1, eq_true a2, a3, eq_true a4, eq_self, and_self, pb_tt, reduceIte]
  rfl
theorem res_RCh (me load : Int) (nl : Bool) (n : Nat) (x : Nat → Ent) (es : List (Value × Value)) (h : ((nl = true → n = 0) ∧ n < 20) ∧ MapI es) : (tgt_RCh me load nl n x es).res = some (chR (chT me load x es n) es) := by
  refine T.over_eq _ (tree_RCh me load nl n x es) ?_
  obtain ⟨h1, h2⟩ := h
  obtain ⟨a1, a2, a3, a4⟩ := ch_pre (me := me) x h1
  have b1 : (nl = true → n = 0) = True := eq_true h1.1
  cases hq : (chX me load x es (tzE me x n) (tzL me x n) 0).1
  · have hz := chX_no _ _ hq
    simp only [T.res_br, T.res_ret, T.res_bad, EntE_ok, IntE_ok, entOf_entE, intOf_intE, b1, h1.2, h2, a1, eq_true a2, a3, eq_true a4, hq, pb_ff, eq_self, and_self, pb_tt, Bool.false_eq_true, reduceIte]
    unfold chT
    rw [hz]
  · simp only [T.res_br, T.res_ret, T.res_bad, EntE_ok, IntE_ok, entOf_entE, intOf_intE, b1, h1.2, h2, a1, eq_true a2, a3, eq_true a4, hq, eq_self, and_self, pb_tt, reduceIte]
    simp only [chR, chT, hq]

noncomputable def F_Ch : SumF
  | [.one (.f (.lit (.int .i64 me))), .one (.f (.lit (.int .i64 load))), .one (.f (.fs nl 5 n e)), .one (.mp 0)], [(0, .map es)], 1 => .need (pb (EntE e ∧ ((nl = true → n = 0) ∧ n < 20) ∧ MapI es)) (.ret (⟨.tup [.agg [I (chT me load (entOf e) es n).2.1, I (chT me load (entOf e) es n).2.2.1, I 0, I (chT me load (entOf e) es n).2.2.2], AB (chT me load (entOf e) es n).1], [(0, .map es)], 1, false, []⟩))
  | _, _, _ => .bad
theorem sum_Ch : SumOk Try.prog 20 F_Ch := by
  refine ⟨fun args H nx r hr => ?_, fun args H nx => ?_⟩
  · unfold F_Ch at hr
    split at hr
    · rename_i me load nl n e es
      obtain ⟨h0, hr⟩ := T.need_some hr
      have := T.ret_some hr
      subst this
      have h := pb_of h0
      obtain ⟨⟨x, rfl⟩, h1⟩ := h
      exact evCallW_ok GODB2 GKDB2 (res_Ch me load nl n x es h1)
    · exact (T.bad_some hr).elim
  · unfold F_Ch
    split
    · exact T.Every.need ⟨by first | exact Nat.le_refl _ | (dsimp only; omega), fun b hb hw => by
        have : b = 0 := by omega
        subst this <;> first | rfl | exact absurd (by dsimp only; decide) hw⟩
    · trivial
noncomputable def sm_Ch : SumF := canonSum F_Ch
theorem sm_Ch_ok : SumOk Try.prog 20 sm_Ch := canonSum_ok sum_Ch
noncomputable def ss_Ch : List (Nat × SumF) := (20, sm_Ch) :: ss_RFits
theorem ss_Ch_ok : ∀ x ∈ ss_Ch, SumOk Try.prog x.1 x.2 := List.forall_mem_cons.2 ⟨sm_Ch_ok, ss_RFits_ok⟩
noncomputable def F_RCh : SumF
  | [.one (.f (.lit (.int .i64 me))), .one (.f (.lit (.int .i64 load))), .one (.f (.fs nl 5 n e)), .one (.mp 0)], [(0, .map es)], 1 => .need (pb (EntE e ∧ ((nl = true → n = 0) ∧ n < 20) ∧ MapI es)) (.ret (⟨.tup [.agg [I (chT me load (entOf e) es n).2.1, I (chT me load (entOf e) es n).2.2.1, I 0, I (chT me load (entOf e) es n).2.2.2], AB (chT me load (entOf e) es n).1], [(0, .map es)], 1, false, []⟩))
  | _, _, _ => .bad
theorem sum_RCh : SumOk Try.prog 24 F_RCh := by
  refine ⟨fun args H nx r hr => ?_, fun args H nx => ?_⟩
  · unfold F_RCh at hr
    split at hr
    · rename_i me load nl n e es
      obtain ⟨h0, hr⟩ := T.need_some hr
      have := T.ret_some hr
      subst this
      have h := pb_of h0
      obtain ⟨⟨x, rfl⟩, h1⟩ := h
      exact evCallW_ok GODB2 GKDB2 (res_RCh me load nl n x es h1)
    · exact (T.bad_some hr).elim
  · unfold F_RCh
    split
    · exact T.Every.need ⟨by first | exact Nat.le_refl _ | (dsimp only; omega), fun b hb hw => by
        have : b = 0 := by omega
        subst this <;> first | rfl | exact absurd (by dsimp only; decide) hw⟩
    · trivial
noncomputable def sm_RCh : SumF := canonSum F_RCh
theorem sm_RCh_ok : SumOk Try.prog 24 sm_RCh := canonSum_ok sum_RCh
noncomputable def ss_RCh : List (Nat × SumF) := (24, sm_RCh) :: ss_Ch
theorem ss_RCh_ok : ∀ x ∈ ss_RCh, SumOk Try.prog x.1 x.2 := List.forall_mem_cons.2 ⟨sm_RCh_ok, ss_Ch_ok⟩
/-- a map of numbers, as the list of its pairs -/
def mI (l : List (Int × Int)) : List (Value × Value) := l.map fun p => (.int .i64 p.1, .int .i64 p.2)
def getI (k : Int) : List (Int × Int) → Int
  | [] => 0
  | p :: r => match k == p.1 with | true => p.2 | false => getI k r
def putI (k v : Int) : List (Int × Int) → List (Int × Int)
  | [] => [(k, v)]
  | p :: r => match k == p.1 with | true => (k, v) :: r | false => p :: putI k v r
theorem mI_keys (k : Int) (l : List (Int × Int)) : keysOk (.int .i64 k) (mI l) = true := by simp [keysOk, mI, keyOk]
theorem mI_ints (l : List (Int × Int)) : intsOk .i64 (mI l) = true := by simp [intsOk, mI]
theorem mI_get (k : Int) : ∀ l : List (Int × Int), intM (.int .i64 k) (mI l) = getI k l
  | [] => rfl
  | p :: r => by
    have := mI_get k r
    simp only [intM, mI, List.map_cons, valM, keyEq, getI] at this ⊢
    cases k == p.1
    · exact this
    · rfl
theorem mI_put (k v : Int) : ∀ l : List (Int × Int), setM (.int .i64 k) (.int .i64 v) (mI l) = mI (putI k v l)
  | [] => rfl
  | p :: r => by
    have := mI_put k v r
    simp only [mI, List.map_cons, setM, keyEq, putI] at this ⊢
    cases k == p.1
    · simp only [this, List.map_cons]
    · rfl
theorem MapI_mI (l : List (Int × Int)) : MapI (mI l) := fun k => by rw [mI_keys, mI_ints]; rfl
def S_dm (me mine : Int) (tl : Bool) (tn : Nat) (x : Nat → Ent) (wl : Bool) (n : Nat) (w : Nat → Int) (i : Nat) (l : List (Int × Int)) : St := ⟨[(4, .v (AI me)), (7, .v (AI mine)), (17, .v (.one (.f (.fs tl 5 tn (entE x))))), (18, .v (.one (.mp 0))), (60, .v (.one (.f (.fs wl 1 n (intE w))))), (61, .v (AI n)), (62, .v (AI i))], [(0, .map (mI l))], 1, false, 0, []⟩

noncomputable def GDC1 : Ctx := GS.with ss_RCh ll_ro
noncomputable def tgt_dm (me mine : Int) (tl : Bool) (tn : Nat) (x : Nat → Ent) (wl : Bool) (n : Nat) (w : Nat → Int) (i : Nat) (l : List (Int × Int)) : T (Ex × St) := evRound GDC1 300 9 Try.f9.ntmps (loopOf Try.f9 6) 1 [4, 7, 17, 18, 60, 61, 62] [4, 7, 17, 18] (S_dm me mine tl tn x wl n w i l)
noncomputable def tgt_known15  : T CallOut := evCallW [] GDC1 300 21 [] [] 0
theorem GKDC1 : KnownOk Try.prog GDC1 := KnownOk.lists ss_RCh_ok ll_ro_ok
theorem GODC1 : CtxOk Try.prog GDC1 := GS_ok.with _ _
theorem tree_dm (me mine : Int) (tl : Bool) (tn : Nat) (x : Nat → Ent) (wl : Bool) (n : Nat) (w : Nat → Int) (i : Nat) (l : List (Int × Int)) : (tgt_dm me mine tl tn x wl n w i l).over (.br (.br (.br (.br (.tt (.tt (.tt (.tt (.br (.ff (.tt (.br .leaf .skip))) .leaf))))) (.ff (.ff (.ff (.ff .leaf))))) .skip) .skip) .leaf) = T.br (decide ((↑i : Int) < (↑n : Int))) (T.br (!wl) (T.br (decide ((0 : Int) ≤ (↑i : Int) ∧ (↑i : Int) < (↑n : Int))) (T.br (decide ((↑i : Int) < (6 : Int))) (T.br (decide (w i % (4 : Int) > (0 : Int))) (T.br (keysOk (Value.int IntKind.i64 (↑i : Int)) (mI l)) (T.ret (Ex.normal, ⟨[(4, SV.v (AI me)), (7, SV.v (AI mine)), (17, SV.v (AV.one (CV.f (FV.fs tl 5 tn fun a => [FV.lit (.int .i64 (Ent.inc (x a))), FV.lit (.int .i64 (Ent.st (x a))), FV.lit (.int .i64 (Ent.stamp (x a))), FV.lit (.int .i64 (Ent.load (x a))), FV.lit (Value.bool (Ent.dr (x a)))])))), (18, SV.v (AV.one (CV.mp 0))), (60, SV.v (AV.one (CV.f (FV.fs wl 1 n fun a => [FV.lit (.int .i64 (w a))])))), (61, SV.v (AI (↑n : Int))), (62, SV.v (AI (IntKind.wrap IntKind.i64 ((↑i : Int) + (1 : Int)))))], [(0, Ob.map (setM (Value.int IntKind.i64 (↑i : Int)) (Value.int IntKind.i64 (IntKind.wrap IntKind.i64 (IntKind.wrap IntKind.i64 (Int.tdiv (w i) (4 : Int)) % (12 : Int) - (1 : Int)))) (mI l)))], 1, false, 0, []⟩)) T.bad) (T.ret (Ex.normal, ⟨[(4, SV.v (AI me)), (7, SV.v (AI mine)), (17, SV.v (AV.one (CV.f (FV.fs tl 5 tn fun a => [FV.lit (.int .i64 (Ent.inc (x a))), FV.lit (.int .i64 (Ent.st (x a))), FV.lit (.int .i64 (Ent.stamp (x a))), FV.lit (.int .i64 (Ent.load (x a))), FV.lit (Value.bool (Ent.dr (x a)))])))), (18, SV.v (AV.one (CV.mp 0))), (60, SV.v (AV.one (CV.f (FV.fs wl 1 n fun a => [FV.lit (.int .i64 (w a))])))), (61, SV.v (AI (↑n : Int))), (62, SV.v (AI (IntKind.wrap IntKind.i64 ((↑i : Int) + (1 : Int)))))], [(0, Ob.map (mI l))], 1, false, 0, []⟩))) (T.ret (Ex.normal, ⟨[(4, SV.v (AI me)), (7, SV.v (AI mine)), (17, SV.v (AV.one (CV.f (FV.fs tl 5 tn fun a => [FV.lit (.int .i64 (Ent.inc (x a))), FV.lit (.int .i64 (Ent.st (x a))), FV.lit (.int .i64 (Ent.stamp (x a))), FV.lit (.int .i64 (Ent.load (x a))), FV.lit (Value.bool (Ent.dr (x a)))])))), (18, SV.v (AV.one (CV.mp 0))), (60, SV.v (AV.one (CV.f (FV.fs wl 1 n fun a => [FV.lit (.int .i64 (w a))])))), (61, SV.v (AI (↑n : Int))), (62, SV.v (AI (IntKind.wrap IntKind.i64 ((↑i : Int) + (1 : Int)))))], [(0, Ob.map (mI l))], 1, false, 0, []⟩))) T.bad) T.bad) (T.ret (Ex.exit 0, ⟨[(4, SV.v (AI me)), (7, SV.v (AI mine)), (17, SV.v (AV.one (CV.f (FV.fs tl 5 tn fun a => [FV.lit (.int .i64 (Ent.inc (x a))), FV.lit (.int .i64 (Ent.st (x a))), FV.lit (.int .i64 (Ent.stamp (x a))), FV.lit (.int .i64 (Ent.load (x a))), FV.lit (Value.bool (Ent.dr (x a)))])))), (18, SV.v (AV.one (CV.mp 0)))], [(0, Ob.map (mI l))], 1, false, 0, []⟩)) := by kernel_rfl
theorem tree_known15 : (tgt_known15 ).over (.tt (.tt (.tt (.tt (.tt .leaf))))) = T.ret (out0 (SV.v (AB true))) := by kernel_rfl
theorem res_known15  : (tgt_known15 ).res = some (out0 (.v (AB true))) := by
  refine T.over_eq _ (tree_known15 ) ?_
  simp only [T.res_br, T.res_ret, T.res_bad]

noncomputable def F_known15 : SumF
  | [], [], 0 => .ret (out0 (.v (AB true)))
  | _, _, _ => .bad
theorem sum_known15 : SumOk Try.prog 21 F_known15 := by
  refine ⟨fun args H nx r hr => ?_, fun args H nx => ?_⟩
  · unfold F_known15 at hr
    split at hr
    · have := T.ret_some hr
      subst this
      exact evCallW_ok GODC1 GKDC1 res_known15
    · exact (T.bad_some hr).elim
  · unfold F_known15
    split
    · exact ⟨Nat.zero_le _, fun b hb hw => absurd hb (Nat.not_lt_zero b)⟩
    · trivial
noncomputable def sm_known15 : SumF := canonSum F_known15
theorem sm_known15_ok : SumOk Try.prog 21 sm_known15 := canonSum_ok sum_known15
noncomputable def ss_known15 : List (Nat × SumF) := (21, sm_known15) :: ss_RCh
theorem ss_known15_ok : ∀ x ∈ ss_known15, SumOk Try.prog x.1 x.2 := List.forall_mem_cons.2 ⟨sm_known15_ok, ss_RCh_ok⟩
def NoM (es : List (Value × Value)) : Prop := es = []
theorem NoM_nil : NoM [] := rfl
def dmV (x : Int) : Int := IntKind.wrap IntKind.i64 (IntKind.wrap IntKind.i64 (Int.tdiv x 4) % 12 - 1)
def dmF (w : Nat → Int) (i : Nat) (l : List (Int × Int)) : List (Int × Int) := match decide ((i : Int) < 6) && decide (w i % 4 > 0) with | true => putI (i : Int) (dmV (w i)) l | false => l
def dmL (w : Nat → Int) (n : Nat) : List (Int × Int) := foldF (dmF w) n 0 []

theorem round_dm (me mine : Int) (tl : Bool) (tn : Nat) (x : Nat → Ent) (wl : Bool) (n : Nat) (w : Nat → Int) (hwl : wl = true → n = 0) (hn : (n : Int) ≤ 9223372036854775807) (i : Nat) (a : List (Int × Int)) (hi : i < n) (hI : (fun (i : Nat) (a : List (Int × Int)) => (True : Prop)) i a) : ∃ st', (tgt_dm me mine tl tn x wl n w i a).res = some (.normal, st') ∧ StLe 1 st' (S_dm me mine tl tn x wl n w (i + 1) ((fun (i : Nat) (a : List (Int × Int)) => (dmF w i a)) i a)) ∧ (fun (i : Nat) (a : List (Int × Int)) => (True : Prop)) (i + 1) ((fun (i : Nat) (a : List (Int × Int)) => (dmF w i a)) i a) := by
  refine T.over_exP (g := fun s => (Ex.normal, s)) (tree_dm me mine tl tn x wl n w i a) ?_
  have e1 : ((i : Int) < (n : Int)) := by omega
  have e2 : (0 : Int) ≤ (i : Int) ∧ (i : Int) < (n : Int) := by omega
  have e3 : IntKind.wrap .i64 ((i : Int) + 1) = ((i + 1 : Nat) : Int) := by rw [wrapI (by omega)]; rfl
  have e4 : keysOk (.int .i64 (i : Int)) (mI a) = true := mI_keys _ _
  obtain rfl : wl = false := by
    cases wl
    · rfl
    · have := hwl rfl; omega
  cases q1 : decide ((i : Int) < 6)
  · simp only [dmF, T.res_br, T.res_ret, T.res_bad, decide_eq_true e1, decide_eq_true e2, e3, q1, Bool.false_and, Bool.not_false, Bool.false_eq_true, reduceIte]
    exact ⟨_, rfl, StLe.less (Nat.le_refl 1) (fun t => .inr (.inl rfl)) (fun b => .inl rfl), trivial⟩
  · cases q2 : decide (w i % 4 > 0)
    · simp only [dmF, T.res_br, T.res_ret, T.res_bad, decide_eq_true e1, decide_eq_true e2, e3, q1, q2, Bool.and_false, Bool.not_false, Bool.false_eq_true, reduceIte]
      exact ⟨_, rfl, StLe.less (Nat.le_refl 1) (fun t => .inr (.inl rfl)) (fun b => .inl rfl), trivial⟩
    · simp only [dmF, T.res_br, T.res_ret, T.res_bad, decide_eq_true e1, decide_eq_true e2, e3, e4, q1, q2, mI_put, Bool.and_self, Bool.not_false, reduceIte]
      exact ⟨_, rfl, StLe.less (Nat.le_refl 1) (fun t => .inr (.inl rfl)) (fun b => .inl rfl), trivial⟩
theorem end_dm (me mine : Int) (tl : Bool) (tn : Nat) (x : Nat → Ent) (wl : Bool) (n : Nat) (w : Nat → Int) (hwl : wl = true → n = 0) (hn : (n : Int) ≤ 9223372036854775807) (a : List (Int × Int)) (hI : (fun (i : Nat) (a : List (Int × Int)) => (True : Prop)) (n) a) : ∃ st', (tgt_dm me mine tl tn x wl n w (n) a).res = some (.exit 0, st') ∧ StLe 1 st' (⟨[(4, .v (AI me)), (7, .v (AI mine)), (17, .v (.one (.f (.fs tl 5 tn (entE x))))), (18, .v (.one (.mp 0)))], [(0, .map (mI a))], 1, false, 0, []⟩) := by
  refine T.over_exP (g := fun s => (.exit 0, s)) (tree_dm me mine tl tn x wl n w (n) a) ?_
  simp only [T.res_br, T.res_ret, T.res_bad, decide_eq_true_eq, Int.lt_irrefl, reduceIte]
  exact ⟨_, rfl, StLe.refl (Nat.le_refl 1)⟩
theorem loop_dm (me mine : Int) (tl : Bool) (tn : Nat) (x : Nat → Ent) (wl : Bool) (n : Nat) (w : Nat → Int) (hwl : wl = true → n = 0) (hn : (n : Int) ≤ 9223372036854775807) (i : Nat) (a : List (Int × Int)) (hi : i ≤ n) (hI : (fun (i : Nat) (a : List (Int × Int)) => (True : Prop)) i a) {st0 : St} (h0 : StLe 1 st0 (S_dm me mine tl tn x wl n w i a)) (hnx : st0.nx = 1) :
    CodeOk Try.prog Try.f9.ntmps (.loop (loopOf Try.f9 6)) st0 (.exit 0) ((fun (a : List (Int × Int)) => ⟨[(4, .v (AI me)), (7, .v (AI mine)), (17, .v (.one (.f (.fs tl 5 tn (entE x))))), (18, .v (.one (.mp 0)))], [(0, .map (mI a))], 1, false, 0, []⟩) (foldF (fun (i : Nat) (a : List (Int × Int)) => (dmF w i a)) (n - i) i a)) := by
  have := for_loop GODC1 GKDC1 (K := 300) (F := 9) (N := Try.f9.ntmps) (c := loopOf Try.f9 6) (m := 1) (live := [4, 7, 17, 18, 60, 61, 62]) (after := [4, 7, 17, 18]) (S_dm me mine tl tn x wl n w) (n) (fun (i : Nat) (a : List (Int × Int)) => .inl (dmF w i a)) (fun (a : List (Int × Int)) => (.exit 0, ⟨[(4, .v (AI me)), (7, .v (AI mine)), (17, .v (.one (.f (.fs tl 5 tn (entE x))))), (18, .v (.one (.mp 0)))], [(0, .map (mI a))], 1, false, 0, []⟩)) (fun (i : Nat) (a : List (Int × Int)) => (True : Prop))
    (fun i a hi hI => by obtain ⟨s, h1, h2, h3⟩ := round_dm me mine tl tn x wl n w hwl hn i a hi hI; exact ⟨_, s, h1, rfl, h2, h3⟩)
    (fun a hI => by obtain ⟨s, h1, h2⟩ := end_dm me mine tl tn x wl n w hwl hn a hI; exact ⟨_, s, h1, by simp, rfl, h2⟩)
    (fun i a => by first | exact Nat.le_refl _ | (show 1 ≤ _; decide) | (simp only [S_dm]; omega)) hi hI h0 hnx
  rw [foldX_inl] at this
  exact this
noncomputable def L_dm : LoopF := mkLoopF [4, 7, 17, 18, 60, 61, 62] (loopOf Try.f9 6) Try.f9.ntmps fun sl H nx => match keyed [4, 7, 17, 18, 60, 61, 62] sl, keyed [0] H with
  | some [.v (.one (.f (.lit (.int .i64 me)))), .v (.one (.f (.lit (.int .i64 mine)))), .v (.one (.f (.fs tl k tn e))), .v (.one (.mp z1)), .v (.one (.f (.fs wl k2 n e2))), .v (.one (.f (.lit (.int .i64 q)))), .v (.one (.f (.lit (.int .i64 i))))], some [.map es] => onlyB (Nat.beq nx 1 && (Nat.beq z1 0)) (onlyB (Nat.beq k 5 && Nat.beq k2 1) (.need (pb (EntE e ∧ IntE e2 ∧ NoM es ∧ q = n ∧ i = 0 ∧ (wl = true → n = 0) ∧ (n : Int) ≤ 9223372036854775807)) (.ret (.exit 0, (St.mk [(4, .v (AI me)), (7, .v (AI mine)), (17, .v (.one (.f (.fs tl 5 tn e)))), (18, .v (.one (.mp 0)))] [(0, .map (mI (dmL (intOf e2) n)))] 1 false 0 []).sl, (St.mk [(4, .v (AI me)), (7, .v (AI mine)), (17, .v (.one (.f (.fs tl 5 tn e)))), (18, .v (.one (.mp 0)))] [(0, .map (mI (dmL (intOf e2) n)))] 1 false 0 []).H, 1, false))))
  | _, _ => .bad
theorem L_dm_ok : LoopOk Try.prog L_dm := by
  refine mkLoopF_ok fun sl H nx e sl' H' nx' esc' h => ?_
  split at h
  · rename_i me mine tl k tn e z1 wl k2 n e2 q i es hsl hH
    have hsl := keyed_eq hsl
    have hH := keyed_eq hH
    subst hsl hH
    have h5 := onlyB_some h
    clear h
    obtain ⟨hck, h⟩ := h5
    simp only [Bool.and_eq_true, nbeq_iff] at hck
    obtain ⟨rfl, rfl⟩ := hck
    have h5 := onlyB_some h
    clear h
    have hw := h5.1
    have h := h5.2
    clear h5
    obtain ⟨hp, hret⟩ := T.need_some h
    have hp := pb_of hp
    have := T.ret_some hret
    simp only [Prod.mk.injEq] at this
    obtain ⟨rfl, rfl, rfl, rfl, rfl⟩ := this
    clear hret h
    obtain ⟨⟨x, rfl⟩, ⟨w, rfl⟩, rfl, rfl, rfl, h1, h2⟩ := hp
    obtain ⟨hw1, hw2⟩ := Bool.and_eq_true_iff.1 hw
    obtain rfl := Nat.eq_of_beq_eq_true hw1
    obtain rfl := Nat.eq_of_beq_eq_true hw2
    exact loop_dm me mine tl tn x wl n w h1 h2 0 [] (Nat.zero_le _) trivial (StLe.refl (Nat.le_refl 1)) rfl
  · exact (T.bad_some h).elim
noncomputable def ll_dm : List (Nat × Nat × LoopF) := (9, 6, L_dm) :: ll_ro
theorem ll_dm_ok : ∀ x ∈ ll_dm, LoopOk Try.prog x.2.2 := List.forall_mem_cons.2 ⟨L_dm_ok, ll_ro_ok⟩
noncomputable def GDC2 : Ctx := GS.with ss_known15 ll_dm
noncomputable def tgt_DTells (w load own : Int) (drain : Bool) (me : Int) (tl : Bool) (tn : Nat) (x : Nat → Ent) (wl : Bool) (n : Nat) (v : Nat → Int) (mine : Int) : T CallOut := evCallW [] GDC2 300 9 [AI w, AI load, AI own, AB drain, AI me, .one (.f (.fs tl 5 tn (entE x))), .one (.f (.fs wl 1 n (intE v))), AI mine] [] 0
theorem GKDC2 : KnownOk Try.prog GDC2 := KnownOk.lists ss_known15_ok ll_dm_ok
theorem GODC2 : CtxOk Try.prog GDC2 := GS_ok.with _ _
theorem tree_DTells (w load own : Int) (drain : Bool) (me : Int) (tl : Bool) (tn : Nat) (x : Nat → Ent) (wl : Bool) (n : Nat) (v : Nat → Int) (mine : Int) : (tgt_DTells w load own drain me tl tn x wl n v mine).over (.br (.tt (.tt (.tt (.tt (.tt (.tt (.tt (.tt (.tt (.tt (.tt (.tt (.tt (.tt (.tt (.tt (.tt (.tt .leaf)))))))))))))))))) (.ff (.tt (.ff (.ff (.tt (.ff (.ff (.tt (.ff (.ff (.ff (.ff (.tt (.ff (.ff (.tt (.ff (.ff (.tt (.ff (.ff (.ff (.ff (.br .leaf (.br (.br (.br (.tt (.tt (.br (.br (.tt (.tt (.tt (.tt (.br (.tt (.tt (.tt .leaf))) (.ff (.ff (.ff .leaf)))))))) .skip) .skip))) .skip) .skip) .skip)))))))))))))))))))))))))) = T.br (!fitsB w load own drain == fitsB w load own drain) (T.ret (out0 (SV.v (AB false)))) (T.br (!fitsB (w % (9 : Int)) (load % (20 : Int)) (own % (20 : Int)) drain == fitsB (w % (9 : Int)) (load % (20 : Int)) (own % (20 : Int)) drain) (T.ret (out0 (SV.v (AB false)))) (T.br (pb (EntL tl tn (entE x) ∧ (0 : Int) ≤ (6 : Int) ∧ (6 : Int) ≤ (1000 : Int))) (T.br (pb (Code.loop (loopOf Proofs.Try.f9 6) = Code.loop (loopOf Proofs.Try.f9 6) ∧ 113 = 113)) (T.br (pb (EntE (entE fun j => entR (entOf (entE x) j)) ∧ IntE (intE v) ∧ NoM [] ∧ (↑n : Int) = (↑n : Int) ∧ (0 : Int) = (0 : Int) ∧ (wl = true → n = 0) ∧ (↑n : Int) ≤ (9223372036854775807 : Int))) (T.br (pb (EntE (entE fun j => entR (entOf (entE x) j)) ∧ ((Nat.beq (min tn 6) 0 = true → min tn 6 = 0) ∧ min tn 6 < 20) ∧ MapI (mI (dmL v n)))) (T.br (pb (EntE (entE fun j => entR (entOf (entE x) j)) ∧ ((Nat.beq (min tn 6) 0 = true → min tn 6 = 0) ∧ min tn 6 < 20) ∧ MapI (mI (dmL v n)))) (T.br (Prod.fst (chT (IntKind.wrap IntKind.i64 (me % (8 : Int) - (1 : Int))) (mine % (25 : Int)) (fun j => entR (entOf (entE x) j)) (mI (dmL v n)) (min tn 6)) == Prod.fst (chT (IntKind.wrap IntKind.i64 (me % (8 : Int) - (1 : Int))) (mine % (25 : Int)) (fun j => entR (entOf (entE x) j)) (mI (dmL v n)) (min tn 6))) (T.ret (out0 (SV.v (AB (Prod.fst (Prod.snd (chT (IntKind.wrap IntKind.i64 (me % (8 : Int) - (1 : Int))) (mine % (25 : Int)) (fun j => entR (entOf (entE x) j)) (mI (dmL v n)) (min tn 6))) == Prod.fst (Prod.snd (chT (IntKind.wrap IntKind.i64 (me % (8 : Int) - (1 : Int))) (mine % (25 : Int)) (fun j => entR (entOf (entE x) j)) (mI (dmL v n)) (min tn 6))) && (Prod.fst (Prod.snd (Prod.snd (chT (IntKind.wrap IntKind.i64 (me % (8 : Int) - (1 : Int))) (mine % (25 : Int)) (fun j => entR (entOf (entE x) j)) (mI (dmL v n)) (min tn 6)))) == Prod.fst (Prod.snd (Prod.snd (chT (IntKind.wrap IntKind.i64 (me % (8 : Int) - (1 : Int))) (mine % (25 : Int)) (fun j => entR (entOf (entE x) j)) (mI (dmL v n)) (min tn 6)))) && (Prod.snd (Prod.snd (Prod.snd (chT (IntKind.wrap IntKind.i64 (me % (8 : Int) - (1 : Int))) (mine % (25 : Int)) (fun j => entR (entOf (entE x) j)) (mI (dmL v n)) (min tn 6)))) == Prod.snd (Prod.snd (Prod.snd (chT (IntKind.wrap IntKind.i64 (me % (8 : Int) - (1 : Int))) (mine % (25 : Int)) (fun j => entR (entOf (entE x) j)) (mI (dmL v n)) (min tn 6)))) && true))))))) (T.ret (out0 (SV.v (AB false))))) T.bad) T.bad) T.bad) T.bad) T.bad)) := by kernel_rfl
theorem res_DTells (w load own : Int) (drain : Bool) (me : Int) (tl : Bool) (tn : Nat) (x : Nat → Ent) (wl : Bool) (n : Nat) (v : Nat → Int) (mine : Int) (h1 : LnOk tl tn) (h2 : LnOk wl n) : (tgt_DTells w load own drain me tl tn x wl n v mine).res = some (out0 (.v (AB true))) := by
  refine T.over_eq _ (tree_DTells w load own drain me tl tn x wl n v mine) ?_
  have a1 : EntL tl tn (entE x) := ⟨entN _ _, h1⟩
  have a2 : (0 : Int) ≤ 6 ∧ (6 : Int) ≤ 1000 := by decide
  have a3 : (wl = true → n = 0) = True := eq_true h2.2
  have a4 := h2.1
  have a5 : (Nat.beq (min tn 6) 0 = true → min tn 6 = 0) = True := eq_true Nat.eq_of_beq_eq_true
  have a6 : min tn 6 < 20 := by omega
  simp only [T.res_br, T.res_ret, T.res_bad, a1, a2, a3, a4, a5, a6, EntE_ok, IntE_ok, NoM_nil, MapI_mI, bne_self_eq_false, beq_self_eq_true, Bool.and_self, Bool.not_true, eq_self, and_self, pb_tt, Bool.false_eq_true, reduceIte]

end Go.Proofs.Ytggneleipimijaa.En
/- DonorBest: the plain law. -/
namespace Go.Proofs.Ytggneleipimijaa.En
open Go
set_option linter.unusedVariables false
set_option linter.unusedSimpArgs false
set_option maxRecDepth 20000
set_option maxHeartbeats 1000000
def bmV (x : Int) : Int := IntKind.wrap IntKind.i64 (1 + IntKind.wrap IntKind.i64 (Int.tdiv x 4) % 9)
def bmF (w : Nat → Int) (i : Nat) (l : List (Int × Int)) : List (Int × Int) := match decide ((i : Int) < 6) && decide (w i % 4 > 0) with | true => putI (i : Int) (bmV (w i)) l | false => l
def bmL (w : Nat → Int) (n : Nat) : List (Int × Int) := foldF (bmF w) n 0 []
/-- the keys are shards, none twice -/
structure KeyOk (l : List (Int × Int)) : Prop where
  dist : l.Pairwise fun p q => p.1 ≠ q.1
  rng : ∀ p ∈ l, 0 ≤ p.1 ∧ p.1 < 6
theorem putI_mem {k v : Int} : ∀ {l : List (Int × Int)} {p : Int × Int}, p ∈ putI k v l → p = (k, v) ∨ p ∈ l
  | [], p, h => by simp only [putI, List.mem_singleton] at h; exact .inl h
  | q :: r, p, h => by
    simp only [putI] at h
    cases hk : (k == q.1)
    · rw [hk] at h
      rcases List.mem_cons.1 h with h | h
      · exact .inr (by rw [h]; exact List.mem_cons_self ..)
      · exact (putI_mem h).imp id fun h => List.mem_cons_of_mem _ h
    · rw [hk] at h
      rcases List.mem_cons.1 h with h | h
      · exact .inl h
      · exact .inr (List.mem_cons_of_mem _ h)
theorem putI_dist {k v : Int} : ∀ {l : List (Int × Int)}, l.Pairwise (fun p q => p.1 ≠ q.1) → (putI k v l).Pairwise fun p q => p.1 ≠ q.1
  | [], _ => List.pairwise_singleton ..
  | q :: r, h => by
    obtain ⟨h1, h2⟩ := List.pairwise_cons.1 h
    simp only [putI]
    cases hk : (k == q.1)
    · refine List.pairwise_cons.2 ⟨fun p hp => ?_, putI_dist h2⟩
      rcases putI_mem hp with e | h
      · rw [e]; have := hk; simp only [beq_eq_false_iff_ne, ne_eq] at this; exact fun e => this e.symm
      · exact h1 p h
    · have hk : k = q.1 := by simpa using hk
      exact List.pairwise_cons.2 ⟨fun p hp => by rw [hk]; exact h1 p hp, h2⟩
theorem bmL_ok (w : Nat → Int) : ∀ (n i : Nat) (l : List (Int × Int)), KeyOk l → KeyOk (foldF (bmF w) n i l)
  | 0, _, _, h => h
  | n + 1, i, l, h => by
    refine bmL_ok w n (i + 1) _ ?_
    unfold bmF
    cases hq : (decide ((i : Int) < 6) && decide (w i % 4 > 0))
    · exact h
    · simp only [Bool.and_eq_true, decide_eq_true_eq] at hq
      refine ⟨putI_dist h.dist, fun p hp => ?_⟩
      rcases putI_mem hp with e | hp
      · rw [e]; exact ⟨by show (0 : Int) ≤ (i : Int); omega, hq.1⟩
      · exact h.rng p hp
theorem bmL_key (w : Nat → Int) (n : Nat) : KeyOk (bmL w n) := bmL_ok w n 0 [] ⟨List.Pairwise.nil, fun p h => by cases h⟩
theorem has_mI (k : Int) : ∀ l : List (Int × Int), hasM (.int .i64 k) (mI l) = true ↔ ∃ p ∈ l, p.1 = k := fun l => by
  simp only [hasM, mI, List.any_map, List.any_eq_true, Function.comp_apply, keyEq, beq_iff_eq]
  exact ⟨fun ⟨p, h1, h2⟩ => ⟨p, h1, h2.symm⟩, fun ⟨p, h1, h2⟩ => ⟨p, h1, h2.symm⟩⟩
theorem get_mem : ∀ {l : List (Int × Int)}, l.Pairwise (fun p q => p.1 ≠ q.1) → ∀ {p : Int × Int}, p ∈ l → getI p.1 l = p.2
  | [], _, p, h => by cases h
  | q :: r, h, p, hp => by
    obtain ⟨h1, h2⟩ := List.pairwise_cons.1 h
    simp only [getI]
    rcases List.mem_cons.1 hp with e | hp
    · subst e
      rw [beq_self_eq_true]
    · have : (p.1 == q.1) = false := by
        simp only [beq_eq_false_iff_ne, ne_eq]
        exact fun e => h1 p hp e.symm
      rw [this]
      exact get_mem h2 hp
/-- may this one be given -/
abbrev fitP (load ld : Int) (dr : Bool) (p : Int × Int) : Bool := fitsB p.2 load ld dr
def ChI (load ld : Int) (dr : Bool) (to : Int) (l : List (Int × Int)) (c : Nat) (a : G5) : Prop :=
  (a.1 = true ↔ ∃ p ∈ l, p.1 < (c : Int) ∧ fitP load ld dr p = true) ∧
  (a.1 = true → a.2.1 = to ∧ a.2.2.1 < (c : Int) ∧ (∃ p ∈ l, p.1 = a.2.2.1 ∧ p.2 = a.2.2.2 ∧ fitP load ld dr p = true) ∧ ∀ q ∈ l, q.1 < (c : Int) → fitP load ld dr q = true → ¬ (q.2 > a.2.2.2 ∨ (q.2 = a.2.2.2 ∧ q.1 < a.2.2.1)))
theorem ChI.step {load ld : Int} {dr : Bool} {to : Int} {l : List (Int × Int)} (hl : KeyOk l) {c : Nat} {a : G5} (h : ChI load ld dr to l c a) : ChI load ld dr to l (c + 1) (chF load ld dr to (mI l) c a) := by
  obtain ⟨h1, h2⟩ := h
  have hlt : ∀ q : Int × Int, q.1 < ((c + 1 : Nat) : Int) → q.1 < (c : Int) ∨ q.1 = (c : Int) := fun q hq => by omega
  have hget : ∀ q ∈ l, q.1 = (c : Int) → q.2 = intM (.int .i64 (c : Int)) (mI l) := fun q hq e => by rw [mI_get, ← e, get_mem hl.dist hq]
  unfold chF
  cases hb : chB load ld dr (mI l) c a
  · unfold chB at hb
    have hno : ∀ q ∈ l, q.1 = (c : Int) → fitP load ld dr q = true → a.1 = true ∧ ¬ (q.2 > a.2.2.2) := fun q hq e hf => by
      have g1 : hasM (.int .i64 (c : Int)) (mI l) = true := (has_mI _ _).2 ⟨q, hq, e⟩
      have g2 : fitsB (intM (.int .i64 (c : Int)) (mI l)) load ld dr = true := by rw [← hget q hq e]; exact hf
      rw [g1, g2, ← hget q hq e] at hb
      simp only [Bool.true_and, Bool.or_eq_false_iff, Bool.not_eq_false', decide_eq_false_iff_not] at hb
      exact ⟨hb.1, hb.2⟩
    refine ⟨⟨fun ha => ?_, fun ⟨p, hp, hpc, hf⟩ => ?_⟩, fun ha => ?_⟩
    · obtain ⟨p, hp, hpc, hf⟩ := h1.1 ha
      exact ⟨p, hp, by omega, hf⟩
    · rcases hlt p hpc with g | g
      · exact h1.2 ⟨p, hp, g, hf⟩
      · exact (hno p hp g hf).1
    · obtain ⟨k1, k2, k3, k4⟩ := h2 ha
      refine ⟨k1, (by dsimp only; omega), k3, fun q hq hqc hf => ?_⟩
      dsimp only
      rcases hlt q hqc with g | g
      · exact k4 q hq g hf
      · have := (hno q hq g hf).2
        omega
  · unfold chB at hb
    simp only [Bool.and_eq_true, Bool.or_eq_true, Bool.not_eq_true', decide_eq_true_eq] at hb
    obtain ⟨b1, b2, b3⟩ := hb
    obtain ⟨p, hp, e⟩ := (has_mI _ _).1 b1
    have hpf : fitP load ld dr p = true := by show fitsB p.2 load ld dr = true; rw [hget p hp e]; exact b2
    refine ⟨⟨fun _ => ⟨p, hp, by omega, hpf⟩, fun _ => rfl⟩, fun _ => ⟨rfl, by show (c : Int) < ((c + 1 : Nat) : Int); omega, ⟨p, hp, e, hget p hp e, hpf⟩, fun q hq hqc hf => ?_⟩⟩
    dsimp only
    rcases hlt q hqc with g | g
    · have ha : a.1 = true := h1.2 ⟨q, hq, g, hf⟩
      rcases b3 with b3 | b3
      · rw [ha] at b3; cases b3
      · have := (h2 ha).2.2.2 q hq g hf
        omega
    · have := hget q hq g
      omega
theorem ChI.fold {load ld : Int} {dr : Bool} {to : Int} {l : List (Int × Int)} (hl : KeyOk l) : ∀ (k i : Nat) (a : G5), ChI load ld dr to l i a → ChI load ld dr to l (i + k) (foldF (chF load ld dr to (mI l)) k i a)
  | 0, _, _, h => h
  | k + 1, i, a, h => by
    have := ChI.fold hl k (i + 1) _ (h.step hl)
    rwa [show i + 1 + k = i + (k + 1) by omega] at this
/-- what the best is like -/
theorem chG_ok {me load : Int} {x : Nat → Ent} {l : List (Int × Int)} (hl : KeyOk l) (to : Int) :
    ((chG me load x (mI l) to).1 = true ↔ ∃ p ∈ l, fitP load (ldI x to) (x me.toNat).dr p = true) ∧
    ((chG me load x (mI l) to).1 = true → (chG me load x (mI l) to).2.1 = to ∧ (∃ p ∈ l, p.1 = (chG me load x (mI l) to).2.2.1 ∧ p.2 = (chG me load x (mI l) to).2.2.2 ∧ fitP load (ldI x to) (x me.toNat).dr p = true) ∧
      ∀ q ∈ l, fitP load (ldI x to) (x me.toNat).dr q = true → ¬ (q.2 > (chG me load x (mI l) to).2.2.2 ∨ (q.2 = (chG me load x (mI l) to).2.2.2 ∧ q.1 < (chG me load x (mI l) to).2.2.1))) := by
  have h0 : ChI load (ldI x to) (x me.toNat).dr to l 0 (false, 0, 0, 0) := ⟨⟨fun h => (by cases h), fun ⟨p, hp, h, _⟩ => (by have := (hl.rng p hp).1; omega)⟩, fun h => (by cases h)⟩
  have h := ChI.fold hl 6 0 _ h0
  rw [Nat.zero_add] at h
  obtain ⟨h1, h2⟩ := h
  refine ⟨⟨fun hg => ?_, fun ⟨p, hp, hf⟩ => h1.2 ⟨p, hp, (hl.rng p hp).2, hf⟩⟩, fun hg => ?_⟩
  · obtain ⟨p, hp, _, hf⟩ := h1.1 hg
    exact ⟨p, hp, hf⟩
  · obtain ⟨k1, _, k3, k4⟩ := h2 hg
    exact ⟨k1, k3, fun q hq hf => k4 q hq (hl.rng q hq).2 hf⟩
/-- Choose's answer is that of the first one for whom there is any -/
theorem chX_first {me load : Int} {x : Nat → Ent} {es : List (Value × Value)} {y : Nat → Int} : ∀ (c i j : Nat), (∀ k, i ≤ k → k < i + j → (chG me load x es (y k)).1 = false) → j < c → (chG me load x es (y (i + j))).1 = true → chX me load x es y c i = chG me load x es (y (i + j))
  | 0, _, _, _, h, _ => absurd h (Nat.not_lt_zero _)
  | c + 1, i, 0, h0, h, hg => by
    simp only [chX, Nat.add_zero] at hg ⊢
    rw [hg]
  | c + 1, i, j + 1, h0, h, hg => by
    simp only [chX]
    rw [h0 i (Nat.le_refl i) (by omega)]
    have := chX_first c (i + 1) j (fun k h1 h2 => h0 k (by omega) (by omega)) (by omega) (by rwa [show i + 1 + j = i + (j + 1) by omega])
    rwa [show i + 1 + j = i + (j + 1) by omega] at this
theorem chX_none {me load : Int} {x : Nat → Ent} {es : List (Value × Value)} {y : Nat → Int} : ∀ (c i : Nat), (∀ k, i ≤ k → k < i + c → (chG me load x es (y k)).1 = false) → chX me load x es y c i = (false, 0, 0, 0)
  | 0, _, _ => rfl
  | c + 1, i, h0 => by
    simp only [chX]
    rw [h0 i (Nat.le_refl i) (by omega)]
    exact chX_none c (i + 1) fun k h1 h2 => h0 k (by omega) (by omega)

end Go.Proofs.Ytggneleipimijaa.En
/- The engine, part 37: 'for k, v := range m', whatever the order. -/
namespace Go.Proofs.Ytggneleipimijaa.En
open Go
open Go.ChangeMaps (setBlock)
set_option linter.unusedVariables false
set_option linter.unusedSimpArgs false

/-- an iterator, as a word -/
abbrev itV (r : Nat) : SV := .v (.one (.f (.lit (.pointer (some ⟨r, 0, none⟩)))))

theorem lt_of_some {α : Type} {a : Array α} {i : Nat} {x : α} (h : a[i]? = some x) : i < a.size := (Array.getElem?_eq_some_iff.1 h).1

/-- an iterator's block, its map's: nobody else has them -/
structure It (f : Fn) (H : Heap) (w : World) (k r : Nat) (arr : Array MapEntry) (clock since : Nat) (seen : Array Nat) (c0 : Nat) : Prop where
  it : w.heap[r]? = some (.mapIter (some k) since seen c0)
  mp : w.heap[k]? = some (.map arr clock)
  born : BornOk arr since
  sc : since ≤ c0
  sk : since ≤ clock
  free : ∀ b, (H.get b).live → (f b).k ≠ r ∧ (f b).k ≠ k

theorem It.post {f f' : Fn} {nx nx' : Nat} {z z' : Z} {w w' : World} {H H' : Heap} {e : Bool} {k r : Nat} {arr : Array MapEntry} {clock since c0 : Nat} {seen : Array Nat}
    (h : It f H w k r arr clock since seen c0) (hp : Post All f nx z w H f' nx' z' w' H' e) : It f' H' w' k r arr clock since seen c0 := by
  have hr := lt_of_some h.it
  have hk := lt_of_some h.mp
  have nr : ¬ img All f H r := fun ⟨b, _, hl, e⟩ => (h.free b hl).1 e
  have nk : ¬ img All f H k := fun ⟨b, _, hl, e⟩ => (h.free b hl).2 e
  refine ⟨(hp.fr.block r hr nr).trans h.it, (hp.fr.block k hk nk).trans h.mp, h.born, h.sc, h.sk, fun b hl => ?_⟩
  rcases Nat.lt_or_ge b nx with hb | hb
  · rw [hp.ext b hb]; exact h.free b (hp.dead b hb hl)
  · rcases hp.fresh b hb hl with h1 | h1
    · exact ⟨by omega, by omega⟩
    · exact ⟨fun e => nr (e ▸ h1), fun e => nk (e ▸ h1)⟩

/-- a block that nobody has is another one -/
theorem Rel.other {S : Nat → Prop} {f : Fn} {nx : Nat} {z : Z} {w w' : World} {H : Heap} {r : Nat} (h : Rel S f nx z w H) (hs : w'.heap.size = w.heap.size) (hb : ∀ k, k ≠ r → w'.heap[k]? = w.heap[k]?)
    (hf : ∀ b, S b → (H.get b).live → (f b).k ≠ r) (hz : ∀ o v, z r o ≠ some v) : Rel S f nx z w' H := by
  have hc : ∀ k p, k ≠ r → w'.cell? ⟨k, p, none⟩ = w.cell? ⟨k, p, none⟩ := fun k p hk => World.cell?_of_block (w := w) (hb k hk)
  have hfz : ∀ k p, k ≠ r → w'.frozen? ⟨k, p, none⟩ = w.frozen? ⟨k, p, none⟩ := fun k p hk => World.frozen?_of_block (w := w) (hb k hk)
  refine ⟨fun b hS hl => ⟨(h.own b hS hl).1, ?_⟩, h.inj, fun k o v hv => ?_⟩
  · have hk := hf b hS hl
    obtain ⟨_, ok⟩ := h.own b hS hl
    refine ⟨by rw [hs]; exact ok.lt, ok.own, fun p hp => by rw [hc _ _ hk, hfz _ _ hk]; exact ok.room p hp, fun m i j x hx => ?_, fun es he => by rw [hb _ hk]; exact ok.map es he⟩
    obtain ⟨h1, v, h2, h3⟩ := ok.cell m i j x hx
    exact ⟨h1, v, by simp only [ad]; rw [hc _ _ hk]; exact h2, h3⟩
  · have hk : k ≠ r := fun e => hz o v (e ▸ hv)
    rw [hc _ _ hk]; exact h.zok k o v hv

theorem Post.other {f f' : Fn} {nx nx' : Nat} {z z' : Z} {w w' w'' : World} {H H' : Heap} {e : Bool} {r : Nat} (h : Post All f nx z w H f' nx' z' w' H' e) (hr : w.heap.size ≤ r) (hs : w''.heap.size = w'.heap.size)
    (ho : w''.os = w'.os) (ht : w''.tape = w'.tape) (hu : w''.output = w'.output) (hb : ∀ k, k ≠ r → w''.heap[k]? = w'.heap[k]?) (hf : ∀ b, (H'.get b).live → (f' b).k ≠ r) (hz : ∀ o v, z' r o ≠ some v) :
    Post All f nx z w H f' nx' z' w'' H' e :=
  ⟨h.hnx, h.ext, h.zle, h.znew, h.same, h.dead, h.rel.other hs hb (fun b _ hl => hf b hl) hz, h.fresh,
    ⟨by rw [hs]; exact h.fr.size, ho.trans h.fr.os, ht.trans h.fr.tape, hu.trans h.fr.output, fun k hk hn => (hb k (by omega)).trans (h.fr.block k hk hn)⟩, h.noesc⟩

/-- a new block that nobody has -/
theorem Post.alloc0 {f : Fn} {nx : Nat} {z : Z} {w : World} {H : Heap} (hr : Rel All f nx z w H) (o : Obj) : Post All f nx z w H f nx z (w.alloc o) H false := by
  have hfr : Fr (fun _ => False) w (w.alloc o) := ⟨by simp, rfl, rfl, rfl, fun k hk _ => heap_alloc_old w o hk⟩
  refine ⟨Nat.le_refl _, fun _ _ => rfl, fun _ _ _ h => h, fun _ _ _ h => .inl h, fun b _ hs => absurd trivial hs, fun _ _ h => h, ⟨fun b _ hl => ?_, fun b c _ _ => hr.inj b c trivial trivial, fun k o' v hv => ?_⟩, fun b hb hl => absurd hl (hr.noLive b hb),
    ⟨hfr.size, rfl, rfl, rfl, fun k hk _ => hfr.block k hk id⟩, fun _ _ _ h => h⟩
  · obtain ⟨h1, h2⟩ := hr.own b trivial hl
    exact ⟨h1, h2.kept h1 hfr id (fun _ _ => rfl) (Nat.le_refl _) (fun _ _ _ h => h) (fun _ _ _ h => .inl h)⟩
  · have h1 := hr.zok k o' v hv
    rw [World.cell?_alloc_lt _ _ _ (block_lt_of_cell h1)]
    exact h1

theorem cell_mapIter {w : World} {r : Nat} {m : Option Nat} {s c : Nat} {seen : Array Nat} (h : w.heap[r]? = some (.mapIter m s seen c)) (o : Nat) : w.cell? ⟨r, o, none⟩ = none := by
  simp [World.cell?, h]

theorem TR.skip {f : Fn} {nx : Nat} {z : Z} {s : Slots} {a : Array Value} (h : TR f nx z s a) {d : Nat} (hd : s.get d = .top) (v : Value) : TR f nx z s (a.setIfInBounds d v) := by
  intro t
  by_cases e : d = t
  · subst e; rw [hd]; trivial
  · have := h t
    simpa [Array.getElem?_setIfInBounds, e] using this

/-- the rest of a round, behind the step and the entry -/
def evRest (G : Ctx) (K F N : Nat) (all l : List Oper) (rest : Code) (kb : Nat) (st : St) : T (Ex × St) :=
  (evOps G (evKnown G (ev G noLive K)) N all l st).bind fun st => (ev G noLive K F N rest st).bind fun x => match x.1 with
    | .exit k => match Nat.beq k kb with | true => .ret (.normal, x.2) | false => .ret (.exit k, x.2)
    | e => .ret (e, x.2)

/-- it, its blocks named anew, from m on -/
def evRR (G : Ctx) (K F N : Nat) (all l : List Oper) (rest : Code) (kb m : Nat) (live : List Nat) (st : St) : T (Ex × St) :=
  (evRest G K F N all l rest kb st).bind fun x => match canonSt m live x.2 with
    | some s => .ret (x.1, s)
    | none => .bad

section
variable {P : Program} {G : Ctx} (hG : CtxOk P G) (hK : KnownOk P G)
include hG hK

theorem evRest_ok {K F N : Nat} {o4 : Oper} {ops2 : Array Oper} {l : List Oper} {rest : Code} {kb : Nat} {st s : St} {e : Ex} (hops : ops2.toList = o4 :: l) (h : (evRest G K F N ops2.toList l rest kb st).res = some (e, s)) :
    (s.esc = false → st.esc = false) ∧ ∀ (f : Fn) (z : Z) (w : World) (a : Act), TR f st.nx z st.sl a.tmps → Rel All f st.nx z w st.H → a.tmps.size = N → a.defers = [] → ∀ (Q : Exit → Act → World → Prop),
      (∀ f' z' w' a', Post All f st.nx z w st.H f' s.nx z' w' s.H s.esc → TR f' s.nx z' s.sl a'.tmps → a'.tmps.size = N → a'.defers = [] → Q (exitOf e) a' w') →
      wpOps P ops2 (Exit.then (rest.wp P (Exit.inBlock kb Q)) (Exit.inBlock kb Q)) (List.range' 1 l.length) a w := by
  unfold evRest at h
  obtain ⟨st1, h1, h⟩ := T.bind_some h
  obtain ⟨⟨e1, st2⟩, h2, h⟩ := T.bind_some h
  have hC : CallOk P (evKnown G (ev G noLive K)) := evKnown_ok hG hK.sum (ev_ok hG hK K)
  have hl : ∀ i, l[i]? = ops2.toList[1 + i]? := fun i => by
    rw [hops, Nat.add_comm 1 i, List.getElem?_cons_succ]
  have hrest := ev_ok hG hK K F N rest st1 e1 st2 h2
  have hs : s = st2 ∧ ∀ Q : Exit → Act → World → Prop, ∀ a w, Q (exitOf e) a w → Exit.inBlock kb Q (exitOf e1) a w := by
    cases e1 with
    | normal =>
      have := T.ret_some h
      simp only [Prod.mk.injEq] at this
      obtain ⟨rfl, rfl⟩ := this
      exact ⟨rfl, fun Q a w h => h⟩
    | ret =>
      have := T.ret_some h
      simp only [Prod.mk.injEq] at this
      obtain ⟨rfl, rfl⟩ := this
      exact ⟨rfl, fun Q a w h => h⟩
    | exit k =>
      simp only at h
      split at h
      · rename_i hk
        have hk := nbeq hk
        have := T.ret_some h
        simp only [Prod.mk.injEq] at this
        obtain ⟨rfl, rfl⟩ := this
        exact ⟨rfl, fun Q a w h => by simp only [exitOf, Exit.inBlock, hk, if_true]; exact h⟩
      · rename_i hk
        have hk : k ≠ kb := fun e => by rw [e, Nat.beq_refl] at hk; cases hk
        have := T.ret_some h
        simp only [Prod.mk.injEq] at this
        obtain ⟨rfl, rfl⟩ := this
        exact ⟨rfl, fun Q a w h => by simp only [exitOf, Exit.inBlock, hk, if_false]; exact h⟩
  obtain ⟨rfl, hq⟩ := hs
  refine ⟨fun he => (evOps_seq (Q := fun _ _ _ => True) hG hC l 1 st st1 hl h1).1 (hrest.1 he), fun f z w a ht hr hN hd Q hQ => ?_⟩
  obtain ⟨_, i2⟩ := evOps_seq (Q := Exit.then (rest.wp P (Exit.inBlock kb Q)) (Exit.inBlock kb Q)) hG hC l 1 st st1 hl h1
  refine i2 f z w a ht hr hN fun f1 z1 w1 a1 hp ht1 hN1 hd1 => ?_
  show rest.wp P (Exit.inBlock kb Q) a1 w1
  refine hrest.2 f1 z1 w1 a1 ht1 hp.all hN1 (hd1.trans hd) _ fun f2 z2 w2 a2 hp2 ht2 hN2 hd2 => hq Q a2 w2 (hQ f2 z2 w2 a2 ((Post.trans hp hp2).weak fun he => ?_) ht2 hN2 hd2)
  rw [Bool.or_eq_false_iff]
  exact ⟨hrest.1 he, he⟩

omit hG hK in
theorem evRR_some {K F N : Nat} {all l : List Oper} {rest : Code} {kb m : Nat} {live : List Nat} {st s : St} {e : Ex} (h : (evRR G K F N all l rest kb m live st).res = some (e, s)) :
    ∃ st1, (evRest G K F N all l rest kb st).res = some (e, st1) ∧ StLe m st1 s := by
  unfold evRR at h
  obtain ⟨⟨e1, st1⟩, h1, h2⟩ := T.bind_some h
  simp only at h2
  split at h2
  · rename_i s1 hs
    have := T.ret_some h2
    simp only [Prod.mk.injEq] at this
    obtain ⟨rfl, rfl⟩ := this
    exact ⟨st1, h1, canonSt_ok hs⟩
  · exact (T.bad_some h2).elim

end

def kvE (e : MapEntry) : Value × Value := (e.key, e.val)
def leftL (arr : Array MapEntry) (seen : Array Nat) : List MapEntry := arr.toList.filter fun e => !seen.contains e.born

theorem left_push {arr : Array MapEntry} {since : Nat} {seen : Array Nat} (h : BornOk arr since) {e : MapEntry} (he : e ∈ leftL arr seen) : ∃ l1 l2, leftL arr seen = l1 ++ e :: l2 ∧ leftL arr (seen.push e.born) = l1 ++ l2 := by
  obtain ⟨l1, l2, hl⟩ := List.append_of_mem he
  refine ⟨l1, l2, hl, ?_⟩
  have hn : (leftL arr seen).Pairwise fun x y => x.born ≠ y.born := by
    have := h.2
    rw [List.Nodup, List.pairwise_map] at this
    exact this.filter _
  have e1 : leftL arr (seen.push e.born) = (leftL arr seen).filter fun x => !(x.born == e.born) := by
    unfold leftL
    rw [List.filter_filter]
    refine List.filter_congr fun x _ => ?_
    rw [Bool.eq_iff_iff]
    simp only [Bool.not_eq_true', Bool.and_eq_true, Array.contains_push, Bool.or_eq_false_iff]
    constructor
    · rintro h; exact ⟨by simpa using h.2, by simpa using h.1⟩
    · rintro h; exact ⟨by simpa using h.2, by simpa using h.1⟩
  rw [e1, hl]
  rw [hl] at hn
  obtain ⟨_, h2, h3⟩ := List.pairwise_append.1 hn
  obtain ⟨h4, _⟩ := List.pairwise_cons.1 h2
  rw [List.filter_append, List.filter_cons]
  rw [if_neg (by simp), List.filter_eq_self.2, List.filter_eq_self.2]
  · intro x hx
    simpa using (h4 x hx).symm
  · intro x hx
    simpa using h3 x hx e (List.mem_cons_self ..)

end Go.Proofs.Ytggneleipimijaa.En
/- The engine, part 38: 'for k, v := range m', known by its rounds. -/
namespace Go.Proofs.Ytggneleipimijaa.En
open Go
open Go.ChangeMaps (setBlock)
set_option linter.unusedVariables false
set_option linter.unusedSimpArgs false

/-- the statement's code -/
abbrev rgCode (id0 jb id1 kb id2 : Nat) (o0 o1 o2 o3 : Oper) (c3 : Operand) (ops2 : Array Oper) (rest : Code) : Code :=
  .seq (.region id0 #[o0, o1] false) (.block jb (.loop (.seq (.region id1 #[o2, o3] false) (.seq (.cond c3 .skip (.exit jb)) (.block kb (.seq (.region id2 ops2 false) rest))))))

theorem wanted_none {o : Oper} (h : o.guard = none) (y : Nat → Option Bool) : Region.wanted o y = true := by simp [Region.wanted, h]

theorem Rel.part {f : Fn} {nx : Nat} {z : Z} {w : World} {H : Heap} (h : Rel All f nx z w H) (p : Nat → Bool) : Rel All f nx z w (H.filter fun e => p e.1) := by
  have hg : ∀ b, (Heap.get (H.filter fun e => p e.1) b).live → Heap.get (H.filter fun e => p e.1) b = H.get b ∧ p b = true := fun b hl => by
    rw [get_filter p] at hl ⊢
    by_cases hb : p b = true
    · rw [if_pos hb]; exact ⟨rfl, hb⟩
    · rw [if_neg hb] at hl; exact hl.elim
  refine ⟨fun b _ hl => ?_, fun b c _ _ hl hl' hne => ?_, h.zok⟩
  · obtain ⟨e, _⟩ := hg b hl
    rw [e] at hl ⊢
    exact h.own b trivial hl
  · obtain ⟨e, _⟩ := hg b hl
    obtain ⟨e', _⟩ := hg c hl'
    rw [e] at hl
    rw [e'] at hl'
    exact h.inj b c trivial trivial hl hl' hne

section
variable {P : Program} {G : Ctx} (hG : CtxOk P G) (hK : KnownOk P G)
include hG hK

theorem map_range {K F N mb id0 jb id1 kb id2 : Nat} {T kt et : Nat} {o0 o1 o2 o3 o4 : Oper} {x0 : Operand} {d0 d1 d2 d3 d4 : Nat} {ops2 : Array Oper} {l : List Oper} {rest : Code}
    (h0 : o0.op = .move x0 ∧ o0.dst = some d0 ∧ o0.guard = none) (h1 : o1.op = .range T (.tmp d0) ∧ o1.dst = some d1 ∧ o1.guard = none)
    (h2 : o2.op = .next (.tmp d1) false ∧ o2.dst = some d2 ∧ o2.guard = none) (h3 : o3.op = .extract (.tmp d2) 0 ∧ o3.dst = some d3 ∧ o3.guard = none)
    (h4 : o4.op = .entry (.tmp d1) ∧ o4.dst = some d4 ∧ o4.guard = none) (hops : ops2.toList = o4 :: l)
    (hd : d0 < N ∧ d1 < N ∧ d2 < N ∧ d3 < N ∧ d4 < N) (hne : d2 ≠ d1 ∧ d3 ≠ d1) (hT : P.underlying T = some (.map kt et))
    {A : Type} (S : Nat → A → St) (Inv : List (Value × Value) → A → Prop) (live : List Nat) (ids : List Nat) {Sfin st0 : St} {es : List (Value × Value)} {a0 : A}
    (hx : st0.val x0 = .v (.one (.mp mb))) (hes : st0.H.get mb = .map es) (hone : ∀ p ∈ es, p.1.oneCell' = true ∧ p.2.oneCell' = true) (hesc0 : st0.esc = false)
    (hmb : mb ∉ ids) (hids : ∀ b, (st0.H.get b).live → b = mb ∨ b ∈ ids)
    (hS : ∀ r a, st0.nx ≤ (S r a).nx ∧ (S r a).esc = false ∧ (S r a).sl.get d1 = itV r ∧ (S r a).sl.get d2 = .top ∧ (S r a).sl.get d3 = .top)
    (h00 : ∀ r, StLe st0.nx ⟨(d1, itV r) :: (d0, .top) :: st0.sl, st0.H.filter (fun e => ids.any (Nat.beq e.1)), st0.nx, false, 0, []⟩ (S r a0))
    (hI0 : Inv es a0)
    (hround : ∀ r a left1 left2 p, p ∈ es → Inv (left1 ++ p :: left2) a → ∃ s a', (evRR G K F N ops2.toList l rest kb st0.nx live ((S r a).put (some d4) (.tup [.one (.f (.lit p.1)), .one (.f (.lit p.2))]))).res = some (.normal, s) ∧ StLe st0.nx s (S r a') ∧ Inv (left1 ++ left2) a')
    (hend : ∀ r a, Inv [] a → StLe st0.nx (S r a) Sfin) (hfin : Sfin.esc = false) :
    CodeOk P N (rgCode id0 jb id1 kb id2 o0 o1 o2 o3 (.tmp d3) ops2 rest) st0 .normal ⟨Sfin.sl, Sfin.H ++ st0.H.filter (fun e => !(ids.any (Nat.beq e.1))), Sfin.nx, false, 0, []⟩ := by
  obtain ⟨p0, q0, g0⟩ := h0
  obtain ⟨p1, q1, g1⟩ := h1
  obtain ⟨p2, q2, g2⟩ := h2
  obtain ⟨p3, q3, g3⟩ := h3
  obtain ⟨p4, q4, g4⟩ := h4
  obtain ⟨n0, n1, n2, n3, n4⟩ := hd
  refine ⟨fun _ => hesc0, fun f z w a ht hr hN hdf Q hQ => ?_⟩
  have hX := val_ok ht x0
  rw [hx] at hX
  obtain ⟨hm0, hX⟩ := hX
  have hml : (st0.H.get mb).live := by rw [hes]; trivial
  obtain ⟨_, hok⟩ := hr.own mb trivial hml
  rw [hes] at hok
  obtain ⟨_, arr, clock, hw, he, hbo⟩ := hok.map es rfl
  -- the iterator is made
  refine wp_seq (wp_region ?_)
  show wpOps P #[o0, o1] _ [0, 1] a w
  simp only [wpOps]
  have i0 : (#[o0, o1] : Array Oper)[0]? = some o0 := rfl
  have i1 : (#[o0, o1] : Array Oper)[1]? = some o1 := rfl
  simp only [i0, i1, wanted_none g0, wanted_none g1, if_true]
  refine .inl (wp_value (v := .map (some (f mb).k)) (w' := w) ?_ ?_)
  · simp only [execOp, p0, hX]
    rfl
  have e0 : (a.put o0.dst (.map (some (f mb).k))).eval (.tmp d0) = .map (some (f mb).k) := by
    simp only [q0, Act.put, Act.eval]
    rw [Array.getD_eq_getD_getElem?, Array.getElem?_setIfInBounds_self_of_lt (by omega)]
    rfl
  refine .inl (wp_value (v := .pointer (some ⟨w.heap.size, 0, none⟩)) (w' := w.alloc (.mapIter (some (f mb).k) clock #[] clock)) ?_ ?_)
  · simp only [execOp, p1]
    refine run_v ?_
    rw [e0]
    exact run_range_map w T kt et (f mb).k arr clock hT hw
  generalize ha2 : (a.put o0.dst (.map (some (f mb).k))).put o1.dst (.pointer (some ⟨w.heap.size, 0, none⟩)) = a2
  have ht2 : TR f st0.nx z ((d1, itV w.heap.size) :: (d0, .top) :: st0.sl) a2.tmps := by
    rw [← ha2, q0, q1]
    simp only [Act.put]
    exact (ht.put (x := .top) (by omega) trivial).put (by rw [Array.size_setIfInBounds]; omega) (.lit _ rfl)
  have hN2 : a2.tmps.size = N := by rw [← ha2, q0, q1]; simp only [Act.put, Array.size_setIfInBounds]; exact hN
  have hd2 : a2.defers = [] := by rw [← ha2, q0, q1]; exact hdf
  -- the part without the map
  have hrp := hr.part fun b => ids.any (Nat.beq b)
  have hpa := Post.alloc0 hrp (.mapIter (some (f mb).k) clock #[] clock)
  have hkr : (f mb).k < w.heap.size := hok.lt
  have hinH : ∀ b, (Heap.get (st0.H.filter fun e => ids.any (Nat.beq e.1)) b).live → b ≠ mb ∧ (st0.H.get b).live := fun b hl => by
    rw [get_filter (fun b => ids.any (Nat.beq b))] at hl
    by_cases hb : ids.any (Nat.beq b) = true
    · rw [if_pos hb] at hl
      exact ⟨fun e => hmb (e ▸ (anyBeq ids b).1 hb), hl⟩
    · rw [if_neg hb] at hl; exact hl.elim
  have hit0 : It f (st0.H.filter fun e => ids.any (Nat.beq e.1)) (w.alloc (.mapIter (some (f mb).k) clock #[] clock)) (f mb).k w.heap.size arr clock clock #[] clock :=
    ⟨heap_alloc_new _ _, (heap_alloc_old w _ hkr).trans hw, hbo, Nat.le_refl _, Nat.le_refl _, fun b hl => by
      obtain ⟨hb1, hb2⟩ := hinH b hl
      have := (hr.own b trivial hb2).2.lt
      exact ⟨by omega, hr.inj b mb trivial trivial hb2 hml hb1⟩⟩
  obtain ⟨f1, z1, ht1, hp1⟩ := (h00 w.heap.size).to f z _ a2.tmps ht2 hpa.all
  have hP1 := (Post.trans' hpa hp1 (Nat.le_refl _)).weak (e' := false) fun _ => by rw [(hS w.heap.size a0).2.1]; rfl
  show (Code.block jb _).wp P Q a2 _
  refine wp_block ?_
  generalize hw1 : w.alloc (.mapIter (some (f mb).k) clock #[] clock) = w1 at *
  have hrs : w.heap.size < w1.heap.size := by rw [← hw1]; simp
  generalize hrr : w.heap.size = r at *
  generalize hkk : (f mb).k = k at *
  refine wp_loop_ghost (fun n a' w' => ∃ f' z' acc seen c0, n = (leftL arr seen).length ∧ Inv ((leftL arr seen).map kvE) acc ∧ TR f' (S r acc).nx z' (S r acc).sl a'.tmps ∧ a'.tmps.size = N ∧ a'.defers = [] ∧
    It f' (S r acc).H w' k r arr clock clock seen c0 ∧ Post All f st0.nx z w (st0.H.filter fun e => ids.any (Nat.beq e.1)) f' (S r acc).nx z' w' (S r acc).H false) (leftL arr #[]).length
    ⟨f1, z1, a0, #[], clock, rfl, ?_, ht1, hN2, hd2, hit0.post hp1, hP1⟩ ?_
  · have : leftL arr #[] = arr.toList := List.filter_eq_self.2 fun x _ => by simp
    rw [this]
    show Inv (arr.toList.map fun e => (e.key, e.val)) a0
    rw [he]; exact hI0
  rintro n a' w' ⟨f', z', acc, seen, c0, hn, hI, ht', hN', hd', hit, hP⟩
  have hSr := hS r acc
  have hitv : a'.eval (.tmp d1) = .pointer (some ⟨r, 0, none⟩) := by
    have := ht' d1
    rw [hSr.2.2.1] at this
    exact lit_ok this
  have hzr : ∀ o v, z' r o ≠ some v := fun o v hv => by
    have := hP.rel.zok r o v hv
    rw [cell_mapIter hit.it] at this
    cases this
  refine wp_seq (wp_region ?_)
  show wpOps P #[o2, o3] _ [0, 1] a' w'
  simp only [wpOps]
  have i2 : (#[o2, o3] : Array Oper)[0]? = some o2 := rfl
  have i3 : (#[o2, o3] : Array Oper)[1]? = some o3 := rfl
  simp only [i2, i3, wanted_none g2, wanted_none g3, if_true]
  have hput : ∀ (v2 v3 : Value), ((a'.put o2.dst v2).put o3.dst v3).tmps = (a'.tmps.setIfInBounds d2 v2).setIfInBounds d3 v3 ∧ ((a'.put o2.dst v2).put o3.dst v3).defers = [] := fun v2 v3 => by
    rw [q2, q3]
    exact ⟨rfl, hd'⟩
  have hev2 : ∀ v2 : Value, (a'.put o2.dst v2).eval (.tmp d2) = v2 := fun v2 => by
    simp only [q2, Act.put, Act.eval]
    rw [Array.getD_eq_getD_getElem?, Array.getElem?_setIfInBounds_self_of_lt (by omega)]
    rfl
  have hev3 : ∀ v2 v3 : Value, ((a'.put o2.dst v2).put o3.dst v3).eval (.tmp d3) = v3 := fun v2 v3 => by
    simp only [q2, q3, Act.put, Act.eval]
    rw [Array.getD_eq_getD_getElem?, Array.getElem?_setIfInBounds_self_of_lt (by rw [Array.size_setIfInBounds]; omega)]
    rfl
  have htp : ∀ v2 v3 : Value, TR f' (S r acc).nx z' (S r acc).sl ((a'.put o2.dst v2).put o3.dst v3).tmps := fun v2 v3 => by
    rw [(hput v2 v3).1]
    exact (ht'.skip hSr.2.2.2.1 v2).skip hSr.2.2.2.2 v3
  have hNp : ∀ v2 v3 : Value, ((a'.put o2.dst v2).put o3.dst v3).tmps.size = N := fun v2 v3 => by
    rw [(hput v2 v3).1]
    simp only [Array.size_setIfInBounds]; exact hN'
  rcases run_next_at (P := P) w' 0 r k clock c0 seen arr clock hit.it hit.mp hit.born.1 hit.sc with ⟨hz, hrun⟩ | ⟨e, he2, w2, hw2, hrun⟩
  · -- nothing is left
    have hleft : leftL arr seen = [] := by
      have : leftOf arr seen = #[] := Array.eq_empty_of_size_eq_zero hz
      unfold leftL
      have h9 := congrArg Array.toList this
      simpa [leftOf] using h9
    refine .inl (wp_value (v := .tuple #[.bool false]) (w' := w') ?_ ?_)
    · simp only [execOp, p2]
      refine run_v ?_
      rw [hitv]
      exact hrun
    refine .inl (wp_value (v := .bool false) (w' := w') ?_ ?_)
    · simp only [execOp, p3]
      refine run_v ?_
      rw [hev2]
      rfl
    show (Code.seq _ _).wp P _ _ _
    refine wp_seq (wp_cond_false (hev3 _ _) (wp_exit ?_))
    show Exit.inBlock jb Q (.exit jb) _ _
    simp only [Exit.inBlock, if_true]
    rw [hleft] at hI
    obtain ⟨f2, z2, ht2', hp2⟩ := (hend r acc hI).to f' z' w' _ (htp (.tuple #[.bool false]) (.bool false)) hP.all
    have hP2 := (Post.trans' hP hp2 (Nat.le_refl _)).weak (e' := false) fun _ => by rw [hfin]; rfl
    have hpp := Post.part ids hr.noLive hP2
    exact hQ f2 z2 w' _ (Post.lift hr hpp) ht2' (hNp _ _) (hput _ _).2
  · -- one comes out
    have he3 : e ∈ leftL arr seen := by
      unfold leftL
      simpa [leftOf] using he2
    have hea : e ∈ arr.toList := (List.mem_filter.1 he3).1
    have hw2h : w2.heap = w'.heap ∧ w2.os = w'.os ∧ w2.tape = w'.tape ∧ w2.output = w'.output := by rcases hw2 with rfl | rfl <;> exact ⟨rfl, rfl, rfl, rfl⟩
    generalize hw3 : setBlock w2 r (.mapIter (some k) clock (seen.push e.born) clock) = w3 at *
    have hb3 : ∀ x, x ≠ r → w3.heap[x]? = w'.heap[x]? := fun x hx => by
      rw [← hw3]
      simp only [setBlock, hw2h.1]
      rw [Array.getElem?_setIfInBounds_ne (Ne.symm hx)]
    have hs3 : w3.heap.size = w'.heap.size := by rw [← hw3]; simp [setBlock, hw2h.1]
    have hrlt : r < w'.heap.size := lt_of_some hit.it
    have hkne : k ≠ r := fun e9 => by
      have h8 := hit.it
      rw [← e9, hit.mp] at h8
      cases h8
    have hr3 : w3.heap[r]? = some (.mapIter (some k) clock (seen.push e.born) clock) := by
      rw [← hw3]
      simp only [setBlock, hw2h.1]
      rw [Array.getElem?_setIfInBounds_self_of_lt hrlt]
    have hm3 : w3.heap[k]? = some (.map arr clock) := (hb3 k hkne).trans hit.mp
    have hP3 : Post All f st0.nx z w (st0.H.filter fun e => ids.any (Nat.beq e.1)) f' (S r acc).nx z' w3 (S r acc).H false :=
      hP.other (by omega) hs3 (by rw [← hw3]; exact hw2h.2.1) (by rw [← hw3]; exact hw2h.2.2.1) (by rw [← hw3]; exact hw2h.2.2.2) hb3 (fun b hl => (hit.free b hl).1) hzr
    have hit3 : It f' (S r acc).H w3 k r arr clock clock (seen.push e.born) clock := ⟨hr3, hm3, hit.born, Nat.le_refl _, Nat.le_refl _, hit.free⟩
    refine .inl (wp_value (v := .tuple #[.bool true, e.key, e.val]) (w' := w3) ?_ ?_)
    · simp only [execOp, p2]
      refine run_v ?_
      rw [hitv]
      exact hrun
    refine .inl (wp_value (v := .bool true) (w' := w3) ?_ ?_)
    · simp only [execOp, p3]
      refine run_v ?_
      rw [hev2]
      rfl
    show (Code.seq _ _).wp P _ _ _
    refine wp_seq (wp_cond_true (hev3 _ _) (wp_skip ?_))
    show (Code.block kb _).wp P _ _ _
    refine wp_block (wp_seq (wp_region ?_))
    have hsz : List.range ops2.size = 0 :: List.range' 1 l.length := by
      have : ops2.size = l.length + 1 := by rw [← Array.length_toList, hops]; rfl
      rw [this, List.range_eq_range', List.range'_succ]
    rw [hsz]
    have i4 : ops2[0]? = some o4 := by rw [← Array.getElem?_toList, hops]; rfl
    simp only [wpOps, i4, wanted_none g4, if_true]
    have hitv2 : ((a'.put o2.dst (.tuple #[.bool true, e.key, e.val])).put o3.dst (.bool true)).eval (.tmp d1) = .pointer (some ⟨r, 0, none⟩) := by
      have := htp (.tuple #[.bool true, e.key, e.val]) (.bool true) d1
      rw [hSr.2.2.1] at this
      exact lit_ok this
    refine .inl (wp_value (v := .tuple #[e.key, e.val]) (w' := w3) ?_ ?_)
    · simp only [execOp, p4]
      refine run_v ?_
      rw [hitv2]
      exact run_entry_at w3 r k clock seen arr clock e hr3 hm3 hea hit.born.2
    obtain ⟨l1, l2, hl1, hl2⟩ := left_push hit.born he3
    have hpe : kvE e ∈ es := by rw [← he]; exact List.mem_map.2 ⟨e, hea, rfl⟩
    rw [hl1, List.map_append, List.map_cons] at hI
    obtain ⟨s, acc', hs1, hs2, hs3'⟩ := hround r acc (l1.map kvE) (l2.map kvE) (kvE e) hpe hI
    obtain ⟨s0, hs4, hs5⟩ := evRR_some hs1
    obtain ⟨c1, c2⟩ := evRest_ok hG hK hops hs4
    obtain ⟨o1', o2'⟩ := hone _ hpe
    have hty : TR f' ((S r acc).put (some d4) (.tup [.one (.f (.lit (kvE e).1)), .one (.f (.lit (kvE e).2))])).nx z' ((S r acc).put (some d4) (.tup [.one (.f (.lit (kvE e).1)), .one (.f (.lit (kvE e).2))])).sl
        (((a'.put o2.dst (.tuple #[.bool true, e.key, e.val])).put o3.dst (.bool true)).put o4.dst (.tuple #[e.key, e.val])).tmps := by
      rw [q4]
      refine (htp _ _).put (by rw [hNp]; omega) ?_
      exact ⟨#[e.key, e.val], rfl, .cons (.lit _ o1') (.cons (.lit _ o2') .nil)⟩
    refine c2 f' z' w3 _ hty hP3.all (by rw [q4]; simp only [Act.put, Array.size_setIfInBounds]; exact hNp _ _) (by rw [q4]; exact (hput _ _).2) _ fun f5 z5 w5 a5 hp5 ht5 hN5 hd5 => ?_
    show Exit.then _ _ .normal a5 w5
    obtain ⟨f6, z6, ht6, hp6⟩ := hs5.to f5 z5 w5 a5.tmps ht5 hp5.all
    obtain ⟨f7, z7, ht7, hp7⟩ := hs2.to f6 z6 w5 a5.tmps ht6 hp6.all
    refine ⟨(leftL arr (seen.push e.born)).length, ?_, f7, z7, acc', seen.push e.born, clock, rfl, ?_, ht7, hN5, hd5, ((hit3.post hp5).post hp6).post hp7, ?_⟩
    · rw [hn, hl1, hl2]
      simp
    · rw [hl2, List.map_append]
      exact hs3'
    · refine (Post.trans' (Post.trans' (Post.trans hP3 hp5) hp6 (Nat.le_refl _)) hp7 (Nat.le_refl _)).weak fun _ => ?_
      have g7 := (hS r acc').2.1
      have g6 := hs2.esc g7
      have g5 := hs5.esc g6
      rw [g7, g6, g5]
      rfl

end

end Go.Proofs.Ytggneleipimijaa.En
/- The engine, part 39: the statement 'for k, v := range m' of a function, taken apart. -/
namespace Go.Proofs.Ytggneleipimijaa.En
open Go
set_option linter.unusedVariables false

/-- the statement that begins with this region -/
def seqAt : Code → Nat → Option Code
  | .seq a b, id => match (match rid0 a with | some k => Nat.beq k id | none => false) with
    | true => some (.seq a b)
    | false => match seqAt a id with | some c => some c | none => seqAt b id
  | .cond _ a b, id => match seqAt a id with | some c => some c | none => seqAt b id
  | .block _ c, id => seqAt c id
  | .loop c, id => seqAt c id
  | .scope c, id => seqAt c id
  | _, _ => none
def seqOf (f : Func) (id : Nat) : Code := match f.body with
  | some c => (seqAt c id).getD .skip
  | none => .skip
def rgHead : Code → Array Oper × Array Oper × Array Oper × Code
  | .seq (.region _ a _) (.block _ (.loop (.seq (.region _ b _) (.seq _ (.block _ (.seq (.region _ c _) rest)))))) => (a, b, c, rest)
  | _ => (#[], #[], #[], .skip)
def rgO (c : Code) : Nat → Oper
  | 0 => (rgHead c).1.toList.getD 0 default
  | 1 => (rgHead c).1.toList.getD 1 default
  | 2 => (rgHead c).2.1.toList.getD 0 default
  | 3 => (rgHead c).2.1.toList.getD 1 default
  | _ => (rgHead c).2.2.1.toList.getD 0 default
def rgOps (c : Code) : Array Oper := (rgHead c).2.2.1
def rgTail (c : Code) : List Oper := (rgHead c).2.2.1.toList.tail
def rgRest (c : Code) : Code := (rgHead c).2.2.2
/-- a round -/
def evRg (G : Ctx) (K F N : Nat) (c : Code) (kb d4 m : Nat) (live : List Nat) (st : St) (p : Value × Value) : T (Ex × St) :=
  evRR G K F N (rgOps c).toList (rgTail c) (rgRest c) kb m live (st.put (some d4) (.tup [.one (.f (.lit p.1)), .one (.f (.lit p.2))]))

/-- what a slot says less of -/
theorem get_skip {d : Nat} {v : SV} {sl sl' : Slots} (h : sl'.get d = .top) (he : ∀ t, t ≠ d → sl.get t = sl'.get t) : ∀ t, (Slots.get ((d, v) :: sl) t).le (sl'.get t) := fun t => by
  by_cases e : d = t
  · subst e; rw [h]; exact .inl rfl
  · rw [Slots.get_cons, if_neg e, he t (Ne.symm e)]; exact .inr (.inl rfl)

end Go.Proofs.Ytggneleipimijaa.En
/- The engine, part 40: what a code comes to, told by a set of states. -/
namespace Go.Proofs.Ytggneleipimijaa.En
open Go
open Go.ChangeMaps (setBlock)
set_option linter.unusedVariables false
set_option linter.unusedSimpArgs false

theorem Fr.on {S : Nat → Prop} {f f' : Fn} {nx nx' : Nat} {z z' : Z} {w0 w w' : World} {H H' : Heap} {e : Bool} (h : Fr (fun _ => False) w0 w) (hn : ∀ b, (H.get b).live → w0.heap.size ≤ (f b).k) (hp : Post S f nx z w H f' nx' z' w' H' e) : Fr (fun _ => False) w0 w' :=
  h.trans hp.fr fun x hx ⟨b, _, hl, hb⟩ => by have := hn b hl; omega

theorem Post.new {f f' : Fn} {nx nx' : Nat} {z z' : Z} {w0 w w' : World} {H H' : Heap} {e : Bool} (h : Fr (fun _ => False) w0 w) (hn : ∀ b, (H.get b).live → w0.heap.size ≤ (f b).k) (hp : Post All f nx z w H f' nx' z' w' H' e) : ∀ b, (H'.get b).live → w0.heap.size ≤ (f' b).k := fun b hl => by
  rcases Nat.lt_or_ge b nx with h1 | h1
  · rw [hp.ext b h1]
    exact hn b (hp.dead b h1 hl)
  · rcases hp.fresh b h1 hl with h2 | ⟨c, _, hc, h3⟩
    · exact Nat.le_trans h.size h2
    · rw [← h3]; exact hn c hc

/-- how a state stands for a run's, begun in w0 -/
structure Sit (N : Nat) (w0 : World) (st : St) (f : Fn) (z : Z) (w : World) (a : Act) : Prop where
  tr : TR f st.nx z st.sl a.tmps
  rel : Rel All f st.nx z w st.H
  size : a.tmps.size = N
  defers : a.defers = []
  fr : Fr (fun _ => False) w0 w
  new : ∀ b, (st.H.get b).live → w0.heap.size ≤ (f b).k

/-- however it runs, it ends in one of these states -/
def HT (P : Program) (N : Nat) (c : Code) (st : St) (R : Ex → St → Prop) : Prop :=
  ∀ w0 f z w a, Sit N w0 st f z w a → ∀ Q : Exit → Act → World → Prop, (∀ e st' f' z' w' a', R e st' → Sit N w0 st' f' z' w' a' → Q (exitOf e) a' w') → c.wp P Q a w

theorem Sit.post {N : Nat} {w0 : World} {st st' : St} {f f' : Fn} {z z' : Z} {w w' : World} {a a' : Act} {m : Nat} {e : Bool} (h : Sit N w0 st f z w a) (hm : m ≤ st.nx) (hp : Post All f m z w st.H f' st'.nx z' w' st'.H e)
    (ht : TR f' st'.nx z' st'.sl a'.tmps) (hN : a'.tmps.size = N) (hd : a'.defers = []) : Sit N w0 st' f' z' w' a' :=
  ⟨ht, hp.all, hN, hd, Fr.on h.fr h.new hp, Post.new h.fr h.new hp⟩

theorem Sit.le {N : Nat} {w0 : World} {st st' : St} {f : Fn} {z : Z} {w : World} {a : Act} {m : Nat} (h : Sit N w0 st f z w a) (hle : StLe m st st') : ∃ f' z', Sit N w0 st' f' z' w a := by
  obtain ⟨f', z', ht, hp⟩ := hle.to f z w a.tmps h.tr h.rel
  exact ⟨f', z', ht, hp.all, h.size, h.defers, Fr.on h.fr h.new hp, Post.new h.fr h.new hp⟩

section
variable {P : Program} {N : Nat}

theorem HT.of {c : Code} {st st' : St} {e : Ex} {R : Ex → St → Prop} (h : CodeOk P N c st e st') (hR : R e st') : HT P N c st R :=
  fun w0 f z w a s Q hQ => h.2 f z w a s.tr s.rel s.size s.defers Q fun f' z' w' a' hp ht hN hd => hQ e st' f' z' w' a' hR (s.post (Nat.le_refl _) hp ht hN hd)

theorem HT.mono {c : Code} {st : St} {R R' : Ex → St → Prop} (h : HT P N c st R) (hR : ∀ e s, R e s → ∃ m s', StLe m s s' ∧ R' e s') : HT P N c st R' :=
  fun w0 f z w a s Q hQ => h w0 f z w a s Q fun e st' f' z' w' a' hr s' => by
    obtain ⟨m, s2, hle, h2⟩ := hR e st' hr
    obtain ⟨f2, z2, s3⟩ := s'.le hle
    exact hQ e s2 f2 z2 w' a' h2 s3

theorem HT.weak {c : Code} {st : St} {R R' : Ex → St → Prop} (h : HT P N c st R) (hR : ∀ e s, R e s → R' e s) : HT P N c st R' :=
  fun w0 f z w a s Q hQ => h w0 f z w a s Q fun e st' f' z' w' a' hr s' => hQ e st' f' z' w' a' (hR e st' hr) s'

theorem HT.pre {c : Code} {st st1 : St} {R : Ex → St → Prop} {m : Nat} (hle : StLe m st st1) (h : HT P N c st1 R) : HT P N c st R :=
  fun w0 f z w a s Q hQ => by
    obtain ⟨f1, z1, s1⟩ := s.le hle
    exact h w0 f1 z1 w a s1 Q hQ

theorem HT.seq {x y : Code} {st : St} {R1 R : Ex → St → Prop} (hx : HT P N x st R1) (hy : ∀ s, R1 .normal s → HT P N y s R) (he : ∀ e s, e ≠ .normal → R1 e s → R e s) : HT P N (.seq x y) st R :=
  fun w0 f z w a s Q hQ => wp_seq (hx w0 f z w a s _ fun e st' f' z' w' a' hr s' => by
    cases e with
    | normal => exact hy st' hr w0 f' z' w' a' s' Q hQ
    | exit id => exact hQ (.exit id) st' f' z' w' a' (he _ _ (by simp) hr) s'
    | ret => exact hQ .ret st' f' z' w' a' (he _ _ (by simp) hr) s')

def unb (jb : Nat) : Ex → Ex
  | .exit k => if k = jb then .normal else .exit k
  | e => e

theorem HT.block {c : Code} {jb : Nat} {st : St} {R : Ex → St → Prop} (h : HT P N c st fun e s => R (unb jb e) s) : HT P N (.block jb c) st R :=
  fun w0 f z w a s Q hQ => wp_block (h w0 f z w a s _ fun e st' f' z' w' a' hr s' => by
    cases e with
    | normal => exact hQ .normal st' f' z' w' a' hr s'
    | ret => exact hQ .ret st' f' z' w' a' hr s'
    | exit k =>
      simp only [unb] at hr
      simp only [exitOf, Exit.inBlock]
      split
      · rename_i hk
        rw [if_pos hk] at hr
        exact hQ .normal st' f' z' w' a' hr s'
      · rename_i hk
        rw [if_neg hk] at hr
        exact hQ (.exit k) st' f' z' w' a' hr s')

/-- a loop: its states ahead of a round, what goes down -/
theorem HT.loop {c : Code} {α : Type} (S : α → St) (μ : α → Nat) (Inv : α → Prop) {R : Ex → St → Prop}
    (h : ∀ p, Inv p → HT P N c (S p) fun e s => (e = .normal ∧ ∃ m p', StLe m s (S p') ∧ Inv p' ∧ μ p' < μ p) ∨ (e ≠ .normal ∧ R e s)) {p : α} (hI : Inv p) {st0 : St} {m : Nat} (h0 : StLe m st0 (S p)) : HT P N (.loop c) st0 R := by
  intro w0 f z w a s Q hQ
  obtain ⟨f1, z1, s1⟩ := s.le h0
  refine wp_loop_ghost (fun k a w => ∃ p, μ p = k ∧ Inv p ∧ ∃ f z, Sit N w0 (S p) f z w a) (μ p) ⟨p, rfl, hI, f1, z1, s1⟩ ?_
  rintro k a w ⟨p, rfl, hI, f, z, s⟩
  refine h p hI w0 f z w a s _ fun e st' f' z' w' a' hr s' => ?_
  rcases hr with ⟨rfl, m, p', hle, hI', hlt⟩ | ⟨hne, hr⟩
  · obtain ⟨f2, z2, s2⟩ := s'.le hle
    exact ⟨μ p', hlt, p', rfl, hI', f2, z2, s2⟩
  · have := hQ e st' f' z' w' a' hr s'
    cases e with
    | normal => exact absurd rfl hne
    | exit id => exact this
    | ret => exact this

/-- the first k statements; what is behind them -/
def evCut (G : Ctx) (K F N : Nat) : Nat → Code → St → T (Ex × St)
  | 0, _, st => .ret (.normal, st)
  | k + 1, .seq a b, st => (ev G noLive K F N a st).bind fun x => match x.1 with
    | .normal => evCut G K F N k b x.2
    | e => .ret (e, x.2)
  | _ + 1, _, _ => .bad
def bodyOf (f : Func) : Code := match f.body with | some c => c | none => .skip
def restC : Nat → Code → Code
  | 0, c => c
  | k + 1, .seq _ b => restC k b
  | _ + 1, c => c
/-- they, and their blocks named anew -/
def evCutR (G : Ctx) (K F N : Nat) (k : Nat) (c : Code) (m : Nat) (live after : List Nat) (st : St) : T (Ex × St) :=
  (evCut G K F N k c st).bind fun x => match canonSt m (match x.1 with | .normal => live | _ => after) x.2 with
    | some s => .ret (x.1, s)
    | none => .bad
theorem evCutR_some {G : Ctx} {K F N k : Nat} {c : Code} {m : Nat} {live after : List Nat} {st : St} {e : Ex} {s : St} (h : (evCutR G K F N k c m live after st).res = some (e, s)) :
    ∃ st1, (evCut G K F N k c st).res = some (e, st1) ∧ StLe m st1 s := by
  unfold evCutR at h
  obtain ⟨⟨e1, st1⟩, h1, h2⟩ := T.bind_some h
  simp only at h2
  split at h2
  · rename_i s1 hs
    have := T.ret_some h2
    simp only [Prod.mk.injEq] at this
    obtain ⟨rfl, rfl⟩ := this
    exact ⟨st1, h1, canonSt_ok hs⟩
  · exact (T.bad_some h2).elim

variable {G : Ctx} (hG : CtxOk P G) (hK : KnownOk P G)
include hG hK

theorem HT.ev {n F : Nat} {c : Code} {st st' : St} {e : Ex} {R : Ex → St → Prop} (h : (ev G noLive n F N c st).res = some (e, st')) (hR : R e st') : HT P N c st R := HT.of (ev_ok hG hK n F N c st e st' h) hR

theorem HT.round {n F : Nat} {c : Code} {m : Nat} {live after : List Nat} {st st' : St} {e : Ex} {R : Ex → St → Prop} (h : (evRound G n F N c m live after st).res = some (e, st')) (hR : R e st') : HT P N c st R := by
  obtain ⟨st1, h1, h2⟩ := evRound_some h
  exact (HT.ev hG hK (R := fun e1 s1 => e1 = e ∧ s1 = st1) h1 ⟨rfl, rfl⟩).mono fun e1 s1 ⟨he, hs⟩ => by subst he hs; exact ⟨m, st', h2, hR⟩

/-- the first k statements by the evaluator; the rest by what is told of it -/
theorem HT.cut {n F : Nat} {R : Ex → St → Prop} : ∀ (k : Nat) (c : Code) (st0 st : St) (e : Ex), (evCut G n F N k c st0).res = some (e, st) → (e = .normal → HT P N (restC k c) st R) → (e ≠ .normal → R e st) → HT P N c st0 R
  | 0, c, st0, st, e, h, h1, h2 => by
    have := T.ret_some h
    simp only [Prod.mk.injEq] at this
    obtain ⟨rfl, rfl⟩ := this
    exact h1 rfl
  | k + 1, .seq x y, st0, st, e, h, h1, h2 => by
    obtain ⟨⟨e1, st1⟩, h3, h4⟩ := T.bind_some h
    cases e1 with
    | normal =>
      have hy := HT.cut (n := n) (F := F) (R := R) k y st1 st e h4 h1 h2
      exact HT.seq (HT.ev hG hK (R := fun e1 s1 => e1 = .normal ∧ s1 = st1) h3 ⟨rfl, rfl⟩) (fun s ⟨_, hs⟩ => hs ▸ hy) fun e s hne ⟨he, _⟩ => absurd he hne
    | exit id =>
      have := T.ret_some h4
      simp only [Prod.mk.injEq] at this
      obtain ⟨rfl, rfl⟩ := this
      exact HT.seq (HT.ev hG hK (R := fun e1 s1 => e1 = .exit id ∧ s1 = st1) h3 ⟨rfl, rfl⟩) (fun s ⟨hs, _⟩ => by cases hs) fun e s hne ⟨he, hs⟩ => by subst he hs; exact h2 (by simp)
    | ret =>
      have := T.ret_some h4
      simp only [Prod.mk.injEq] at this
      obtain ⟨rfl, rfl⟩ := this
      exact HT.seq (HT.ev hG hK (R := fun e1 s1 => e1 = .ret ∧ s1 = st1) h3 ⟨rfl, rfl⟩) (fun s ⟨hs, _⟩ => by cases hs) fun e s hne ⟨he, hs⟩ => by subst he hs; exact h2 (by simp)
  | k + 1, .skip, _, _, _, h, _, _ => (T.bad_some h).elim
  | k + 1, .region .., _, _, _, h, _, _ => (T.bad_some h).elim
  | k + 1, .cond .., _, _, _, h, _, _ => (T.bad_some h).elim
  | k + 1, .block .., _, _, _, h, _, _ => (T.bad_some h).elim
  | k + 1, .loop .., _, _, _, h, _, _ => (T.bad_some h).elim
  | k + 1, .rangeFunc .., _, _, _, h, _, _ => (T.bad_some h).elim
  | k + 1, .exit .., _, _, _, h, _, _ => (T.bad_some h).elim
  | k + 1, .scope .., _, _, _, h, _, _ => (T.bad_some h).elim
  | k + 1, .label .., _, _, _, h, _, _ => (T.bad_some h).elim
  | k + 1, .goto .., _, _, _, h, _, _ => (T.bad_some h).elim
  | k + 1, .ret, _, _, _, h, _, _ => (T.bad_some h).elim
  | k + 1, .refuse .., _, _, _, h, _, _ => (T.bad_some h).elim

/-- they, their blocks named anew -/
theorem HT.cutR {n F k : Nat} {c : Code} {m : Nat} {live after : List Nat} {R : Ex → St → Prop} {st0 st : St} {e : Ex} (h : (evCutR G n F N k c m live after st0).res = some (e, st)) (h1 : e = .normal → HT P N (restC k c) st R) (h2 : e ≠ .normal → R e st) : HT P N c st0 R := by
  obtain ⟨st1, h3, h4⟩ := evCutR_some h
  refine (HT.cut hG hK (n := n) (F := F) (R := fun e2 s2 => R e2 s2 ∨ (e2 ≠ .normal ∧ e2 = e ∧ s2 = st1)) k c st0 st1 e h3 (fun he => HT.weak (HT.pre h4 (h1 he)) fun _ _ h => .inl h) fun he => .inr ⟨he, rfl, rfl⟩).mono fun e2 s2 hr => ?_
  rcases hr with hr | ⟨hne, rfl, rfl⟩
  · exact ⟨s2.nx, s2, StLe.refl (Nat.le_refl _), hr⟩
  · exact ⟨m, st, h4, h2 hne⟩

end

section
variable {P : Program} {G : Ctx} (hG : CtxOk P G) (hK : KnownOk P G)
include hG hK

theorem map_rangeH {K F N mb id0 jb id1 kb id2 : Nat} {T kt et : Nat} {o0 o1 o2 o3 o4 : Oper} {x0 : Operand} {d0 d1 d2 d3 d4 : Nat} {ops2 : Array Oper} {l : List Oper} {rest : Code}
    (h0 : o0.op = .move x0 ∧ o0.dst = some d0 ∧ o0.guard = none) (h1 : o1.op = .range T (.tmp d0) ∧ o1.dst = some d1 ∧ o1.guard = none)
    (h2 : o2.op = .next (.tmp d1) false ∧ o2.dst = some d2 ∧ o2.guard = none) (h3 : o3.op = .extract (.tmp d2) 0 ∧ o3.dst = some d3 ∧ o3.guard = none)
    (h4 : o4.op = .entry (.tmp d1) ∧ o4.dst = some d4 ∧ o4.guard = none) (hops : ops2.toList = o4 :: l)
    (hd : d0 < N ∧ d1 < N ∧ d2 < N ∧ d3 < N ∧ d4 < N) (hne : d2 ≠ d1 ∧ d3 ≠ d1) (hT : P.underlying T = some (.map kt et))
    {A : Type} (S : Nat → A → St) (Inv : List (Value × Value) → A → Prop) (live : List Nat) (ids : List Nat) {Sfin : A → St} {st0 : St} {es : List (Value × Value)} {a0 : A}
    (hx : st0.val x0 = .v (.one (.mp mb))) (hes : st0.H.get mb = .map es) (hone : ∀ p ∈ es, p.1.oneCell' = true ∧ p.2.oneCell' = true) (hesc0 : st0.esc = false)
    (hmb : mb ∉ ids) (hids : ∀ b, (st0.H.get b).live → b = mb ∨ b ∈ ids)
    (hS : ∀ r a, st0.nx ≤ (S r a).nx ∧ (S r a).esc = false ∧ (S r a).sl.get d1 = itV r ∧ (S r a).sl.get d2 = .top ∧ (S r a).sl.get d3 = .top)
    (h00 : ∀ r, StLe st0.nx ⟨(d1, itV r) :: (d0, .top) :: st0.sl, st0.H.filter (fun e => ids.any (Nat.beq e.1)), st0.nx, false, 0, []⟩ (S r a0))
    (hI0 : Inv es a0)
    (hround : ∀ r a left1 left2 p, p ∈ es → Inv (left1 ++ p :: left2) a → ∃ s a', (evRR G K F N ops2.toList l rest kb st0.nx live ((S r a).put (some d4) (.tup [.one (.f (.lit p.1)), .one (.f (.lit p.2))]))).res = some (.normal, s) ∧ StLe st0.nx s (S r a') ∧ Inv (left1 ++ left2) a')
    (hend : ∀ r a, Inv [] a → StLe st0.nx (S r a) (Sfin a)) (hfin : ∀ a, (Sfin a).esc = false) :
    HT P N (rgCode id0 jb id1 kb id2 o0 o1 o2 o3 (.tmp d3) ops2 rest) st0 (fun e s => e = .normal ∧ ∃ acc, Inv [] acc ∧ s = ⟨(Sfin acc).sl, (Sfin acc).H ++ st0.H.filter (fun e => !(ids.any (Nat.beq e.1))), (Sfin acc).nx, false, 0, []⟩) := by
  obtain ⟨p0, q0, g0⟩ := h0
  obtain ⟨p1, q1, g1⟩ := h1
  obtain ⟨p2, q2, g2⟩ := h2
  obtain ⟨p3, q3, g3⟩ := h3
  obtain ⟨p4, q4, g4⟩ := h4
  obtain ⟨n0, n1, n2, n3, n4⟩ := hd
  intro w0 f z w a sit Q hQ
  obtain ⟨ht, hr, hN, hdf, hfr0, hnew0⟩ := sit
  have hX := val_ok ht x0
  rw [hx] at hX
  obtain ⟨hm0, hX⟩ := hX
  have hml : (st0.H.get mb).live := by rw [hes]; trivial
  obtain ⟨_, hok⟩ := hr.own mb trivial hml
  rw [hes] at hok
  obtain ⟨_, arr, clock, hw, he, hbo⟩ := hok.map es rfl
  -- the iterator is made
  refine wp_seq (wp_region ?_)
  show wpOps P #[o0, o1] _ [0, 1] a w
  simp only [wpOps]
  have i0 : (#[o0, o1] : Array Oper)[0]? = some o0 := rfl
  have i1 : (#[o0, o1] : Array Oper)[1]? = some o1 := rfl
  simp only [i0, i1, wanted_none g0, wanted_none g1, if_true]
  refine .inl (wp_value (v := .map (some (f mb).k)) (w' := w) ?_ ?_)
  · simp only [execOp, p0, hX]
    rfl
  have e0 : (a.put o0.dst (.map (some (f mb).k))).eval (.tmp d0) = .map (some (f mb).k) := by
    simp only [q0, Act.put, Act.eval]
    rw [Array.getD_eq_getD_getElem?, Array.getElem?_setIfInBounds_self_of_lt (by omega)]
    rfl
  refine .inl (wp_value (v := .pointer (some ⟨w.heap.size, 0, none⟩)) (w' := w.alloc (.mapIter (some (f mb).k) clock #[] clock)) ?_ ?_)
  · simp only [execOp, p1]
    refine run_v ?_
    rw [e0]
    exact run_range_map w T kt et (f mb).k arr clock hT hw
  generalize ha2 : (a.put o0.dst (.map (some (f mb).k))).put o1.dst (.pointer (some ⟨w.heap.size, 0, none⟩)) = a2
  have ht2 : TR f st0.nx z ((d1, itV w.heap.size) :: (d0, .top) :: st0.sl) a2.tmps := by
    rw [← ha2, q0, q1]
    simp only [Act.put]
    exact (ht.put (x := .top) (by omega) trivial).put (by rw [Array.size_setIfInBounds]; omega) (.lit _ rfl)
  have hN2 : a2.tmps.size = N := by rw [← ha2, q0, q1]; simp only [Act.put, Array.size_setIfInBounds]; exact hN
  have hd2 : a2.defers = [] := by rw [← ha2, q0, q1]; exact hdf
  -- the part without the map
  have hrp := hr.part fun b => ids.any (Nat.beq b)
  have hpa := Post.alloc0 hrp (.mapIter (some (f mb).k) clock #[] clock)
  have hkr : (f mb).k < w.heap.size := hok.lt
  have hinH : ∀ b, (Heap.get (st0.H.filter fun e => ids.any (Nat.beq e.1)) b).live → b ≠ mb ∧ (st0.H.get b).live := fun b hl => by
    rw [get_filter (fun b => ids.any (Nat.beq b))] at hl
    by_cases hb : ids.any (Nat.beq b) = true
    · rw [if_pos hb] at hl
      exact ⟨fun e => hmb (e ▸ (anyBeq ids b).1 hb), hl⟩
    · rw [if_neg hb] at hl; exact hl.elim
  have hit0 : It f (st0.H.filter fun e => ids.any (Nat.beq e.1)) (w.alloc (.mapIter (some (f mb).k) clock #[] clock)) (f mb).k w.heap.size arr clock clock #[] clock :=
    ⟨heap_alloc_new _ _, (heap_alloc_old w _ hkr).trans hw, hbo, Nat.le_refl _, Nat.le_refl _, fun b hl => by
      obtain ⟨hb1, hb2⟩ := hinH b hl
      have := (hr.own b trivial hb2).2.lt
      exact ⟨by omega, hr.inj b mb trivial trivial hb2 hml hb1⟩⟩
  obtain ⟨f1, z1, ht1, hp1⟩ := (h00 w.heap.size).to f z _ a2.tmps ht2 hpa.all
  have hP1 := (Post.trans' hpa hp1 (Nat.le_refl _)).weak (e' := false) fun _ => by rw [(hS w.heap.size a0).2.1]; rfl
  show (Code.block jb _).wp P Q a2 _
  refine wp_block ?_
  generalize hw1 : w.alloc (.mapIter (some (f mb).k) clock #[] clock) = w1 at *
  have hrs : w.heap.size < w1.heap.size := by rw [← hw1]; simp
  generalize hrr : w.heap.size = r at *
  generalize hkk : (f mb).k = k at *
  refine wp_loop_ghost (fun n a' w' => ∃ f' z' acc seen c0, n = (leftL arr seen).length ∧ Inv ((leftL arr seen).map kvE) acc ∧ TR f' (S r acc).nx z' (S r acc).sl a'.tmps ∧ a'.tmps.size = N ∧ a'.defers = [] ∧
    It f' (S r acc).H w' k r arr clock clock seen c0 ∧ Post All f st0.nx z w (st0.H.filter fun e => ids.any (Nat.beq e.1)) f' (S r acc).nx z' w' (S r acc).H false) (leftL arr #[]).length
    ⟨f1, z1, a0, #[], clock, rfl, ?_, ht1, hN2, hd2, hit0.post hp1, hP1⟩ ?_
  · have : leftL arr #[] = arr.toList := List.filter_eq_self.2 fun x _ => by simp
    rw [this]
    show Inv (arr.toList.map fun e => (e.key, e.val)) a0
    rw [he]; exact hI0
  rintro n a' w' ⟨f', z', acc, seen, c0, hn, hI, ht', hN', hd', hit, hP⟩
  have hSr := hS r acc
  have hitv : a'.eval (.tmp d1) = .pointer (some ⟨r, 0, none⟩) := by
    have := ht' d1
    rw [hSr.2.2.1] at this
    exact lit_ok this
  have hzr : ∀ o v, z' r o ≠ some v := fun o v hv => by
    have := hP.rel.zok r o v hv
    rw [cell_mapIter hit.it] at this
    cases this
  refine wp_seq (wp_region ?_)
  show wpOps P #[o2, o3] _ [0, 1] a' w'
  simp only [wpOps]
  have i2 : (#[o2, o3] : Array Oper)[0]? = some o2 := rfl
  have i3 : (#[o2, o3] : Array Oper)[1]? = some o3 := rfl
  simp only [i2, i3, wanted_none g2, wanted_none g3, if_true]
  have hput : ∀ (v2 v3 : Value), ((a'.put o2.dst v2).put o3.dst v3).tmps = (a'.tmps.setIfInBounds d2 v2).setIfInBounds d3 v3 ∧ ((a'.put o2.dst v2).put o3.dst v3).defers = [] := fun v2 v3 => by
    rw [q2, q3]
    exact ⟨rfl, hd'⟩
  have hev2 : ∀ v2 : Value, (a'.put o2.dst v2).eval (.tmp d2) = v2 := fun v2 => by
    simp only [q2, Act.put, Act.eval]
    rw [Array.getD_eq_getD_getElem?, Array.getElem?_setIfInBounds_self_of_lt (by omega)]
    rfl
  have hev3 : ∀ v2 v3 : Value, ((a'.put o2.dst v2).put o3.dst v3).eval (.tmp d3) = v3 := fun v2 v3 => by
    simp only [q2, q3, Act.put, Act.eval]
    rw [Array.getD_eq_getD_getElem?, Array.getElem?_setIfInBounds_self_of_lt (by rw [Array.size_setIfInBounds]; omega)]
    rfl
  have htp : ∀ v2 v3 : Value, TR f' (S r acc).nx z' (S r acc).sl ((a'.put o2.dst v2).put o3.dst v3).tmps := fun v2 v3 => by
    rw [(hput v2 v3).1]
    exact (ht'.skip hSr.2.2.2.1 v2).skip hSr.2.2.2.2 v3
  have hNp : ∀ v2 v3 : Value, ((a'.put o2.dst v2).put o3.dst v3).tmps.size = N := fun v2 v3 => by
    rw [(hput v2 v3).1]
    simp only [Array.size_setIfInBounds]; exact hN'
  rcases run_next_at (P := P) w' 0 r k clock c0 seen arr clock hit.it hit.mp hit.born.1 hit.sc with ⟨hz, hrun⟩ | ⟨e, he2, w2, hw2, hrun⟩
  · -- nothing is left
    have hleft : leftL arr seen = [] := by
      have : leftOf arr seen = #[] := Array.eq_empty_of_size_eq_zero hz
      unfold leftL
      have h9 := congrArg Array.toList this
      simpa [leftOf] using h9
    refine .inl (wp_value (v := .tuple #[.bool false]) (w' := w') ?_ ?_)
    · simp only [execOp, p2]
      refine run_v ?_
      rw [hitv]
      exact hrun
    refine .inl (wp_value (v := .bool false) (w' := w') ?_ ?_)
    · simp only [execOp, p3]
      refine run_v ?_
      rw [hev2]
      rfl
    show (Code.seq _ _).wp P _ _ _
    refine wp_seq (wp_cond_false (hev3 _ _) (wp_exit ?_))
    show Exit.inBlock jb Q (.exit jb) _ _
    simp only [Exit.inBlock, if_true]
    rw [hleft] at hI
    obtain ⟨f2, z2, ht2', hp2⟩ := (hend r acc hI).to f' z' w' _ (htp (.tuple #[.bool false]) (.bool false)) hP.all
    have hP2 := (Post.trans' hP hp2 (Nat.le_refl _)).weak (e' := false) fun _ => by rw [hfin acc]; rfl
    have hpp := Post.part ids hr.noLive hP2
    exact hQ .normal _ f2 z2 w' _ ⟨rfl, acc, hI, rfl⟩ ⟨ht2', (Post.lift hr hpp).all, hNp _ _, (hput _ _).2, Fr.on hfr0 hnew0 (Post.lift hr hpp), Post.new hfr0 hnew0 (Post.lift hr hpp)⟩
  · -- one comes out
    have he3 : e ∈ leftL arr seen := by
      unfold leftL
      simpa [leftOf] using he2
    have hea : e ∈ arr.toList := (List.mem_filter.1 he3).1
    have hw2h : w2.heap = w'.heap ∧ w2.os = w'.os ∧ w2.tape = w'.tape ∧ w2.output = w'.output := by rcases hw2 with rfl | rfl <;> exact ⟨rfl, rfl, rfl, rfl⟩
    generalize hw3 : setBlock w2 r (.mapIter (some k) clock (seen.push e.born) clock) = w3 at *
    have hb3 : ∀ x, x ≠ r → w3.heap[x]? = w'.heap[x]? := fun x hx => by
      rw [← hw3]
      simp only [setBlock, hw2h.1]
      rw [Array.getElem?_setIfInBounds_ne (Ne.symm hx)]
    have hs3 : w3.heap.size = w'.heap.size := by rw [← hw3]; simp [setBlock, hw2h.1]
    have hrlt : r < w'.heap.size := lt_of_some hit.it
    have hkne : k ≠ r := fun e9 => by
      have h8 := hit.it
      rw [← e9, hit.mp] at h8
      cases h8
    have hr3 : w3.heap[r]? = some (.mapIter (some k) clock (seen.push e.born) clock) := by
      rw [← hw3]
      simp only [setBlock, hw2h.1]
      rw [Array.getElem?_setIfInBounds_self_of_lt hrlt]
    have hm3 : w3.heap[k]? = some (.map arr clock) := (hb3 k hkne).trans hit.mp
    have hP3 : Post All f st0.nx z w (st0.H.filter fun e => ids.any (Nat.beq e.1)) f' (S r acc).nx z' w3 (S r acc).H false :=
      hP.other (by omega) hs3 (by rw [← hw3]; exact hw2h.2.1) (by rw [← hw3]; exact hw2h.2.2.1) (by rw [← hw3]; exact hw2h.2.2.2) hb3 (fun b hl => (hit.free b hl).1) hzr
    have hit3 : It f' (S r acc).H w3 k r arr clock clock (seen.push e.born) clock := ⟨hr3, hm3, hit.born, Nat.le_refl _, Nat.le_refl _, hit.free⟩
    refine .inl (wp_value (v := .tuple #[.bool true, e.key, e.val]) (w' := w3) ?_ ?_)
    · simp only [execOp, p2]
      refine run_v ?_
      rw [hitv]
      exact hrun
    refine .inl (wp_value (v := .bool true) (w' := w3) ?_ ?_)
    · simp only [execOp, p3]
      refine run_v ?_
      rw [hev2]
      rfl
    show (Code.seq _ _).wp P _ _ _
    refine wp_seq (wp_cond_true (hev3 _ _) (wp_skip ?_))
    show (Code.block kb _).wp P _ _ _
    refine wp_block (wp_seq (wp_region ?_))
    have hsz : List.range ops2.size = 0 :: List.range' 1 l.length := by
      have : ops2.size = l.length + 1 := by rw [← Array.length_toList, hops]; rfl
      rw [this, List.range_eq_range', List.range'_succ]
    rw [hsz]
    have i4 : ops2[0]? = some o4 := by rw [← Array.getElem?_toList, hops]; rfl
    simp only [wpOps, i4, wanted_none g4, if_true]
    have hitv2 : ((a'.put o2.dst (.tuple #[.bool true, e.key, e.val])).put o3.dst (.bool true)).eval (.tmp d1) = .pointer (some ⟨r, 0, none⟩) := by
      have := htp (.tuple #[.bool true, e.key, e.val]) (.bool true) d1
      rw [hSr.2.2.1] at this
      exact lit_ok this
    refine .inl (wp_value (v := .tuple #[e.key, e.val]) (w' := w3) ?_ ?_)
    · simp only [execOp, p4]
      refine run_v ?_
      rw [hitv2]
      exact run_entry_at w3 r k clock seen arr clock e hr3 hm3 hea hit.born.2
    obtain ⟨l1, l2, hl1, hl2⟩ := left_push hit.born he3
    have hpe : kvE e ∈ es := by rw [← he]; exact List.mem_map.2 ⟨e, hea, rfl⟩
    rw [hl1, List.map_append, List.map_cons] at hI
    obtain ⟨s, acc', hs1, hs2, hs3'⟩ := hround r acc (l1.map kvE) (l2.map kvE) (kvE e) hpe hI
    obtain ⟨s0, hs4, hs5⟩ := evRR_some hs1
    obtain ⟨c1, c2⟩ := evRest_ok hG hK hops hs4
    obtain ⟨o1', o2'⟩ := hone _ hpe
    have hty : TR f' ((S r acc).put (some d4) (.tup [.one (.f (.lit (kvE e).1)), .one (.f (.lit (kvE e).2))])).nx z' ((S r acc).put (some d4) (.tup [.one (.f (.lit (kvE e).1)), .one (.f (.lit (kvE e).2))])).sl
        (((a'.put o2.dst (.tuple #[.bool true, e.key, e.val])).put o3.dst (.bool true)).put o4.dst (.tuple #[e.key, e.val])).tmps := by
      rw [q4]
      refine (htp _ _).put (by rw [hNp]; omega) ?_
      exact ⟨#[e.key, e.val], rfl, .cons (.lit _ o1') (.cons (.lit _ o2') .nil)⟩
    refine c2 f' z' w3 _ hty hP3.all (by rw [q4]; simp only [Act.put, Array.size_setIfInBounds]; exact hNp _ _) (by rw [q4]; exact (hput _ _).2) _ fun f5 z5 w5 a5 hp5 ht5 hN5 hd5 => ?_
    show Exit.then _ _ .normal a5 w5
    obtain ⟨f6, z6, ht6, hp6⟩ := hs5.to f5 z5 w5 a5.tmps ht5 hp5.all
    obtain ⟨f7, z7, ht7, hp7⟩ := hs2.to f6 z6 w5 a5.tmps ht6 hp6.all
    refine ⟨(leftL arr (seen.push e.born)).length, ?_, f7, z7, acc', seen.push e.born, clock, rfl, ?_, ht7, hN5, hd5, ((hit3.post hp5).post hp6).post hp7, ?_⟩
    · rw [hn, hl1, hl2]
      simp
    · rw [hl2, List.map_append]
      exact hs3'
    · refine (Post.trans' (Post.trans' (Post.trans hP3 hp5) hp6 (Nat.le_refl _)) hp7 (Nat.le_refl _)).weak fun _ => ?_
      have g7 := (hS r acc').2.1
      have g6 := hs2.esc g7
      have g5 := hs5.esc g6
      rw [g7, g6, g5]
      rfl


omit hK in
/-- a call with arguments that are only looked at, that comes to true -/
theorem law_ht {g : Nat} {fn : Func} {c : Code} {args : List AV} {w : World} {vs : Array Value} (hg : G.fi g = some fn) (hb : fn.body = some c) (hle : args.length ≤ fn.ntmps) (ha : RAs noFn 0 (zAll w) args vs.toList)
    (h : HT P fn.ntmps c ⟨argSlots 0 args, [], 0, false, 0, []⟩ fun e s => (e = .normal ∨ e = .ret) ∧ (resultsOf G s fn.results.toList).res = some [AB true]) :
    Calls P g vs w fun e w' => e = .returned (.bool true) ∧ Go.RowKit.Below w.heap.size w w' := by
  obtain ⟨hf1, _, _⟩ := hG.fi g fn hg
  have hsz : args.length = vs.size := by simpa using ha.1
  refine calls_of_wp hf1 hb ?_
  refine h w noFn (zAll w) w _ ⟨argSlots_TR ha _, Rel.seen ⟨fun k o v h => h⟩, by simp; omega, rfl, Fr.refl _ _, fun b hl => hl.elim⟩ _ fun e st' f' z' w' a' hr s => ?_
  obtain ⟨he, hl⟩ := hr
  obtain ⟨v, hv1, hv2⟩ := results_ok hG s.tr s.rel hl
  have hv : v = .bool true := lit_ok hv2
  subst hv
  have hbel : Go.RowKit.Below w.heap.size w w' := s.fr.below
  rcases he with rfl | rfl
  · exact ⟨s.defers, .bool true, hv1, rfl, hbel⟩
  · exact ⟨s.defers, .bool true, hv1, rfl, hbel⟩
end

/-- a call without arguments that comes to true, wherever it is made -/
theorem truth_to {P : Program} {g : Nat} (h : ∀ w, Calls P g #[] w fun e w' => e = .returned (.bool true) ∧ Go.RowKit.Below w.heap.size w w') (H : Heap) (nx : Nat) :
    CallTo P g [] H nx ⟨.v (AB true), H, nx, false, []⟩ := by
  intro f z w vs hrel hargs R hR
  have hvs : vs = #[] := by
    have := hargs.1
    cases vs with
    | mk l => cases l with
      | nil => rfl
      | cons a l => simp at this
  subst hvs
  refine (h w).mono fun e w' ⟨he, hw⟩ => ?_
  subst he
  have hfr : Fr (fun _ => False) w w' := ⟨hw.size, hw.os, hw.tape, hw.output, fun k hk _ => hw.block k hk⟩
  refine hR f z w' (.bool true) ⟨Nat.le_refl _, fun _ _ => rfl, fun _ _ _ h => h, fun _ _ _ h => .inl h, fun _ _ _ => .inl rfl, fun _ _ h => h, ⟨fun b _ hl => ?_, fun b c _ _ hl hl' => hrel.inj b c trivial trivial hl hl', fun k o v hv => ?_⟩,
    fun b hb hl => absurd hl (hrel.noLive b hb), hfr.less fun _ _ h => h.elim, fun _ _ _ h => h⟩ (RF.lit _ rfl)
  · obtain ⟨h1, h2⟩ := hrel.own b trivial hl
    exact ⟨h1, h2.kept h1 hfr id (fun _ _ => rfl) (Nat.le_refl _) (fun _ _ _ h => h) fun _ _ _ h => .inl h⟩
  · have h1 := hrel.zok k o v hv
    rw [hfr.cell (block_lt_of_cell h1) id]
    exact h1

end Go.Proofs.Ytggneleipimijaa.En
