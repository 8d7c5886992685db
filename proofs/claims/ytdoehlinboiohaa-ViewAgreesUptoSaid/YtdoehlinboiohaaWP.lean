/- Views, plainly: what a tick and a table make of entries. -/
import Derived.Test.YtdoehlinboiohaaVG
namespace Go.Proofs.Ytdoehlinboiohaa.En
open Go
set_option linter.unusedVariables false
set_option linter.unusedSimpArgs false
set_option maxRecDepth 20000
set_option maxHeartbeats 1000000
/-- what was heard is known -/
def okA (n m : Nat) (t y : Nat → Ent) (i : Nat) : Prop := (i ≠ m → (y i).stamp < 1099511627776 → lessB (atE n t i) (y i) = false) ∧ (i = m → (y i).stamp < 1099511627776 → ¬ ((atE n t m).inc < (y i).inc))
/-- entries rise -/
def okB (m : Nat) (l w : Nat → Ent) (i : Nat) : Prop := (i ≠ m → lessB (l i) (w i) = false) ∧ ¬ ((l i).inc < (w i).inc)

theorem less_ff {a b : Ent} : lessB a b = false ↔ ¬ (a.inc < b.inc ∨ (a.inc = b.inc ∧ (a.st < b.st ∨ (a.st = b.st ∧ (a.stamp < b.stamp ∨ (a.stamp = b.stamp ∧ (a.load < b.load ∨ (a.load = b.load ∧ cond a.dr (1 : Int) 0 < cond b.dr 1 0)))))))) := by
  rw [← lessP]; simp
theorem less_st {w : Ent} {s : Int} (h : w.st < s) : lessB { w with st := s } w = false := by
  rw [less_ff]; simp only; omega
theorem okB_same {m : Nat} {l w : Nat → Ent} {i : Nat} (h : l i = w i) : okB m l w i := by
  unfold okB
  rw [h]
  exact ⟨fun _ => less_irr _, Int.lt_irrefl _⟩
theorem okB_st {m : Nat} {l w : Nat → Ent} {i : Nat} {s : Int} (h : l i = { w i with st := s }) (hs : (w i).st < s) : okB m l w i := by
  unfold okB
  rw [h]
  exact ⟨fun _ => less_st hs, Int.lt_irrefl _⟩
/-- a tick's table, ahead of the probe -/
theorem tkT0_at {n m : Nat} {v : V} {now ld : Int} {dr : Bool} (i : Nat) :
    (i ≠ m → tkT0 n m v now ld dr i = v.tb i ∨ ((v.tb i).st = 1 ∧ tkT0 n m v now ld dr i = { v.tb i with st := 2 })) ∧ (tkT0 n m v now ld dr i).inc = (v.tb i).inc := by
  unfold tkT0
  refine foldF_inv (tkT m now v.sp) (fun t => (i ≠ m → t i = v.tb i ∨ ((v.tb i).st = 1 ∧ t i = { v.tb i with st := 2 })) ∧ (t i).inc = (v.tb i).inc) (fun k t h => ?_) n 0 _ ?_
  · unfold tkT
    cases hb : tickB m now v.sp t k
    · exact h
    · simp only [cond_true, updT_eq]
      split
      · rename_i e
        subst e
        simp only [tickB, decide_eq_true_eq] at hb
        refine ⟨fun hi => ?_, h.2⟩
        rcases h.1 hi with e | ⟨e1, e2⟩
        · right
          rw [e] at hb ⊢
          exact ⟨hb.2.1, rfl⟩
        · rw [e2] at hb
          exact absurd (show (2 : Int) = 1 from hb.2.1) (by decide)
      · exact h
  · simp only [ownT, updT_eq]
    split
    · rename_i e
      subst e
      exact ⟨fun h => absurd rfl h, rfl⟩
    · exact ⟨fun _ => .inl rfl, rfl⟩
theorem tick_rises {n m : Nat} {v : V} {now ld : Int} {dr : Bool} (h : VInv n m v) (i : Nat) : okB m (tick1 n m v now ld dr).tb v.tb i := by
  have hT := tkT0_at (n := n) (m := m) (v := v) (now := now) (ld := ld) (dr := dr) i
  have key : okB m (tkT0 n m v now ld dr) v.tb i := by
    refine ⟨fun hi => ?_, by rw [hT.2]; exact Int.lt_irrefl _⟩
    rcases hT.1 hi with e | ⟨e1, e2⟩
    · rw [e]; exact less_irr _
    · rw [e2]; exact less_st (by omega)
  unfold tick1 tickY
  generalize tkT0 n m v now ld dr = T at hT key
  simp only
  cases hD : tkD v.pr v.si now
  · exact key
  · cases hS : tkS T v.pr
    · exact key
    · simp only [tkD, tkS, decide_eq_true_eq] at hD hS
      simp only [Bool.and_self, cond_true]
      by_cases e : i = v.pr.toNat
      · have hi : i ≠ m := by
          rcases h.2.1 with h2 | h2
          · exact absurd h2 hD.1
          · omega
        subst e
        rcases hT.1 hi with e | ⟨e1, e2⟩
        · refine okB_st (s := 1) ?_ (by rw [← e, hS]; decide)
          rw [updT_eq, if_pos rfl, e]
        · rw [e2] at hS
          cases hS
      · have : updT T v.pr.toNat { T v.pr.toNat with st := 1 } i = T i := by rw [updT_eq, if_neg e]
        unfold okB
        rw [this]
        exact key
def farE (e y : Ent) : Bool := decide (y.inc ≥ 1099511627776) || (decide (y.stamp ≥ 1099511627776) || !(lessB e y))
/-- what an entry comes to that is told of y -/
def hdE (m i : Nat) (e y : Ent) : Ent := bif farE e y then e else if i = m then ⟨IntKind.wrap .i64 (y.inc + 1), 0, e.stamp, e.load, e.dr⟩ else y
theorem hdA_tb {n m : Nat} {now : Int} {x : Nat → Ent} {i : Nat} {a : HA} (hi : i < n) (j : Nat) : (hdA n m now x i a).tb j = if j = i then hdE m i (a.tb i) (x i) else a.tb j := by
  have hF : farB n x i a = farE (a.tb i) (x i) := by simp only [farB, farE, decide_eq_false (show ¬ n ≤ i by omega), Bool.false_or]
  unfold hdA hdE
  rw [hF]
  cases farE (a.tb i) (x i)
  · by_cases e : i = m
    · subst e
      simp only [cond_false, Nat.beq_refl, cond_true, updT_eq, if_true]
    · simp only [cond_false, beq_ff e, if_neg e, updT_eq]
  · simp only [cond_true]
    split
    · rename_i e; rw [e]
    · rfl
theorem hdR_tb {n m : Nat} {now : Int} {x : Nat → Ent} : ∀ (c i : Nat) (a : HA), i + c ≤ n → ∀ j, (foldF (hdA n m now x) c i a).tb j = if i ≤ j ∧ j < i + c then hdE m j (a.tb j) (x j) else a.tb j
  | 0, i, a, _, j => by rw [if_neg (by omega)]; rfl
  | c + 1, i, a, h, j => by
    show (foldF (hdA n m now x) c (i + 1) (hdA n m now x i a)).tb j = _
    rw [hdR_tb c (i + 1) _ (by omega) j, hdA_tb (by omega) j]
    by_cases e : j = i
    · subst e
      rw [if_neg (by omega), if_pos rfl, if_pos (by omega)]
    · rw [if_neg e]
      by_cases h2 : i + 1 ≤ j ∧ j < i + 1 + c
      · rw [if_pos h2, if_pos (by omega)]
      · rw [if_neg h2, if_neg (by omega)]
theorem hdA_rise {n m : Nat} {now : Int} {x : Nat → Ent} {i : Nat} {a : HA} (hi : i < n) : (hdA n m now x i a).rise = if i = m ∧ farE (a.tb i) (x i) = false then IntKind.wrap .i64 ((x i).inc + 1) else a.rise := by
  have hF : farB n x i a = farE (a.tb i) (x i) := by simp only [farB, farE, decide_eq_false (show ¬ n ≤ i by omega), Bool.false_or]
  unfold hdA
  rw [hF]
  cases farE (a.tb i) (x i)
  · by_cases e : i = m
    · subst e
      simp only [cond_false, Nat.beq_refl, cond_true, and_self, if_true]
    · simp only [cond_false, beq_ff e, e, false_and, if_false]
  · simp only [cond_true, Bool.true_eq_false, and_false, if_false]
theorem hdR_rise {n m : Nat} {now : Int} {x : Nat → Ent} : ∀ (c i : Nat) (a : HA), i + c ≤ n → (foldF (hdA n m now x) c i a).rise = if (i ≤ m ∧ m < i + c) ∧ farE (a.tb m) (x m) = false then IntKind.wrap .i64 ((x m).inc + 1) else a.rise
  | 0, i, a, _ => by rw [if_neg (by omega)]; rfl
  | c + 1, i, a, h => by
    show (foldF (hdA n m now x) c (i + 1) (hdA n m now x i a)).rise = _
    rw [hdR_rise c (i + 1) _ (by omega), hdA_tb (by omega) m, hdA_rise (by omega)]
    by_cases e : i = m
    · subst e
      rw [if_neg (by omega)]
      cases farE (a.tb i) (x i)
      · rw [if_pos ⟨rfl, rfl⟩, if_pos ⟨by omega, rfl⟩]
      · rw [if_neg (by simp), if_neg (by simp)]
    · rw [if_neg (show ¬ m = i from fun h => e h.symm), if_neg (show ¬ (i = m ∧ _) from fun h => e h.1)]
      by_cases h2 : (i + 1 ≤ m ∧ m < i + 1 + c) ∧ farE (a.tb m) (x m) = false
      · rw [if_pos h2, if_pos ⟨by omega, h2.2⟩]
      · rw [if_neg h2, if_neg fun h3 => h2 ⟨by omega, h3.2⟩]
/-- numbers as they are told: small -/
def SmallE (y : Ent) : Prop := 0 ≤ y.inc ∧ y.inc < 4
theorem entR_small (x : Ent) : SmallE (entR x) := by
  unfold SmallE entR
  simp only
  omega
theorem farE_ff {e y : Ent} (h : farE e y = false) : lessB e y = true := by
  unfold farE at h
  simp only [Bool.or_eq_false_iff, Bool.not_eq_false'] at h
  exact h.2.2
theorem farE_tt {e y : Ent} (h : farE e y = true) (hs : SmallE y) (ht : y.stamp < 1099511627776) : lessB e y = false := by
  unfold farE at h
  unfold SmallE at hs
  rw [decide_eq_false (by omega), decide_eq_false (by omega)] at h
  simpa using h
theorem heard_okB {n m : Nat} {v : V} {now fr : Int} {ack : Bool} {x : Nat → Ent} {N : Nat} (hN : N ≤ n) (hx : ∀ i, SmallE (x i)) (i : Nat) : okB m (heard1 n m v now fr ack x N).tb v.tb i := by
  have e := hdR_tb (n := n) (m := m) (now := now) (x := x) N 0 ⟨v.sp, v.tb, 0⟩ (by omega) i
  show okB m (hdR n m v now x N).tb v.tb i
  unfold hdR
  split at e
  · simp only at e
    unfold hdE at e
    cases hF : farE (v.tb i) (x i)
    · rw [hF] at e
      have hl := farE_ff hF
      have h1 := lessP (v.tb i) (x i)
      simp only [hl, true_iff] at h1
      simp only [cond_false] at e
      split at e
      · rename_i hm
        have hs := hx i
        unfold SmallE at hs
        rw [wrapI (by omega)] at e
        refine ⟨fun h => absurd hm h, ?_⟩
        rw [e]
        simp only
        omega
      · refine ⟨fun _ => ?_, ?_⟩
        · rw [e, less_ff]; omega
        · rw [e]; omega
    · rw [hF] at e
      exact okB_same e
  · exact okB_same e
theorem heard_okA {n m : Nat} {v : V} {now fr : Int} {ack : Bool} {x : Nat → Ent} {N : Nat} (hN : N ≤ n) (hx : ∀ i, SmallE (x i)) (i : Nat) (hi : i < N) : okA n m (heard1 n m v now fr ack x N).tb x i := by
  have e := hdR_tb (n := n) (m := m) (now := now) (x := x) N 0 ⟨v.sp, v.tb, 0⟩ (by omega) i
  rw [if_pos (by omega)] at e
  have hA : ∀ k : Nat, k < n → atE n (hdR n m v now x N).tb k = (hdR n m v now x N).tb k := fun k hk => if_pos (by omega)
  show okA n m (hdR n m v now x N).tb x i
  have e' : (hdR n m v now x N).tb i = hdE m i (v.tb i) (x i) := e
  unfold hdE at e'
  have hs := hx i
  cases hF : farE (v.tb i) (x i)
  · rw [hF] at e'
    simp only [cond_false] at e'
    refine ⟨fun h _ => ?_, fun h _ => ?_⟩
    · rw [if_neg h] at e'
      rw [hA i (by omega), e']
      exact less_irr _
    · rw [if_pos h] at e'
      subst h
      rw [hA i (by omega), e']
      unfold SmallE at hs
      simp only
      rw [wrapI (by omega)]
      omega
  · rw [hF] at e'
    simp only [cond_true] at e'
    refine ⟨fun h ht => ?_, fun h ht => ?_⟩
    · rw [hA i (by omega), e']
      exact farE_tt hF hs ht
    · have h1 := less_ff.1 (farE_tt hF hs ht)
      subst h
      rw [hA i (by omega), e']
      omega
theorem heard_rise {n m : Nat} {v : V} {now : Int} {x : Nat → Ent} {N : Nat} (hN : N ≤ n) (hx : ∀ i, SmallE (x i)) (hm : m < n) :
    ((hdR n m v now x N).rise = 0 ∧ ((hdR n m v now x N).tb m).inc = (v.tb m).inc) ∨
    ((hdR n m v now x N).rise ≠ 0 ∧ (hdR n m v now x N).rise = ((hdR n m v now x N).tb m).inc ∧ ((hdR n m v now x N).tb m).inc ≠ (v.tb m).inc) := by
  have e := hdR_tb (n := n) (m := m) (now := now) (x := x) N 0 ⟨v.sp, v.tb, 0⟩ (by omega) m
  have r := hdR_rise (n := n) (m := m) (now := now) (x := x) N 0 ⟨v.sp, v.tb, 0⟩ (by omega)
  have hs := hx m
  unfold SmallE at hs
  unfold hdR
  rw [e, r]
  unfold hdE
  simp only [if_true]
  by_cases h1 : 0 ≤ m ∧ m < 0 + N
  · rw [if_pos h1]
    cases hF : farE (v.tb m) (x m)
    · have hl := farE_ff hF
      have h2 := lessP (v.tb m) (x m)
      simp only [hl, true_iff] at h2
      right
      rw [if_pos ⟨h1, rfl⟩]
      simp only [cond_false, eq_self, if_true]
      rw [wrapI (by omega)]
      refine ⟨by omega, trivial, ?_⟩
      show (x m).inc + 1 ≠ (v.tb m).inc
      omega
    · left
      rw [if_neg (by simp)]
      exact ⟨rfl, rfl⟩
  · rw [if_neg h1, if_neg fun h => h1 h.1]
    exact .inl ⟨rfl, rfl⟩

end Go.Proofs.Ytdoehlinboiohaa.En
