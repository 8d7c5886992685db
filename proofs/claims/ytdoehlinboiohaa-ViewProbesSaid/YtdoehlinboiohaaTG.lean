/- ViewProbes. -/
import Derived.Test.YtdoehlinboiohaaTF
namespace Go.Proofs.Ytdoehlinboiohaa.En
open Go
set_option linter.unusedVariables false
set_option linter.unusedSimpArgs false
set_option maxRecDepth 20000
set_option maxHeartbeats 1000000
theorem nextI_ok {n m : Nat} {la : Int} (hm : m < n) (hn : n ≤ 5) (h : 0 ≤ la ∧ la < (n : Int)) (h2 : n ≠ 1) : 0 ≤ nextI n m la ∧ nextI n m la < (n : Int) ∧ nextI n m la ≠ (m : Int) := by
  unfold nextI
  rw [wrapI (by omega)]
  have e : Int.tmod (la + 1) (n : Int) = (la + 1) % (n : Int) := Int.tmod_eq_emod_of_nonneg (by omega)
  rw [e]
  have b1 := Int.emod_nonneg (la + 1) (show (n : Int) ≠ 0 by omega)
  have b2 := Int.emod_lt_of_pos (la + 1) (show (0 : Int) < n by omega)
  split
  · rename_i hq
    rw [hq, wrapI (by omega), Int.tmod_eq_emod_of_nonneg (by omega)]
    have b3 := Int.emod_nonneg ((m : Int) + 1) (show (n : Int) ≠ 0 by omega)
    have b4 := Int.emod_lt_of_pos ((m : Int) + 1) (show (0 : Int) < n by omega)
    refine ⟨b3, b4, fun h => ?_⟩
    rcases Nat.lt_or_ge (m + 1) n with h5 | h5
    · rw [Int.emod_eq_of_lt (by omega) (by omega)] at h
      omega
    · have : (m : Int) + 1 = n := by omega
      rw [this, Int.emod_self] at h
      omega
  · exact ⟨b1, b2, by assumption⟩
/-- what stays true of a view -/
def VInv (n m : Nat) (v : V) : Prop := (0 ≤ v.la ∧ v.la < (n : Int)) ∧ (v.pr = -1 ∨ (0 ≤ v.pr ∧ v.pr < (n : Int) ∧ v.pr ≠ (m : Int))) ∧ (v.tb m).st = 0
theorem tkT_me (n m : Nat) (now : Int) (su : Nat → Int) (i : Nat) (t : Nat → Ent) (h : (t m).st = 0) : (tkT m now su i t m).st = 0 := by
  unfold tkT
  cases hb : tickB m now su t i
  · exact h
  · simp only [cond_true, updT_eq]
    split
    · rename_i e
      subst e
      simp [tickB] at hb
    · exact h
theorem foldF_inv {α : Type} (f : Nat → α → α) (P : α → Prop) (h : ∀ i a, P a → P (f i a)) : ∀ (c i : Nat) (a : α), P a → P (foldF f c i a)
  | 0, _, _, ha => ha
  | c + 1, i, a, ha => foldF_inv f P h c (i + 1) (f i a) (h i a ha)
theorem tick_inv {n m : Nat} {v : V} {now ld : Int} {dr : Bool} (hm : m < n) (hn : n ≤ 5) (h : VInv n m v) : VInv n m (tick1 n m v now ld dr) := by
  obtain ⟨h1, h2, h3⟩ := h
  have hT : (tkT0 n m v now ld dr m).st = 0 := foldF_inv (tkT m now v.sp) (fun t => (t m).st = 0) (fun i t h => tkT_me n m now v.sp i t h) n 0 _ (by simp [ownT, updT_eq, h3])
  unfold tick1 tickY
  generalize tkT0 n m v now ld dr = T at hT
  refine ⟨?_, ?_, ?_⟩
  · cases hG : tkG n v.pr (tkD v.pr v.si now)
    · exact h1
    · simp only [tkG, decide_eq_true_eq] at hG
      have := nextI_ok hm hn h1 hG.2
      exact ⟨this.1, this.2.1⟩
  · cases hG : tkG n v.pr (tkD v.pr v.si now)
    · simp only [cond_false]
      cases tkD v.pr v.si now
      · exact h2
      · exact .inl rfl
    · simp only [tkG, decide_eq_true_eq] at hG
      exact .inr (nextI_ok hm hn h1 hG.2)
  · cases hD : tkD v.pr v.si now
    · exact hT
    · cases hS : tkS T v.pr
      · exact hT
      · simp only [Bool.and_self, cond_true, updT_eq]
        split
        · rename_i e
          simp only [tkD, decide_eq_true_eq] at hD
          rcases h2 with h2 | h2
          · exact absurd h2 hD.1
          · omega
        · exact hT
theorem foldF_inv2 : True := trivial
def bumpP (k : Int) (l : List (Int × Int)) : List (Int × Int) := putI k (IntKind.wrap .i64 (getI k l + 1)) l
/-- a round, plainly -/
def stepP (m s : Nat) (i : Nat) (a : V × List (Int × Int)) : V × List (Int × Int) :=
  bif tickG 5 a.1 ((i : Int) + 1) then
    bif tickK 5 m a.1 ((i : Int) + 1) != (s : Int) then
      (⟨(tick1 5 m a.1 ((i : Int) + 1) 1 false).la, hdPr (tick1 5 m a.1 ((i : Int) + 1) 1 false).pr (tickK 5 m a.1 ((i : Int) + 1)) true, (tick1 5 m a.1 ((i : Int) + 1) 1 false).si, (tick1 5 m a.1 ((i : Int) + 1) 1 false).sp, (tick1 5 m a.1 ((i : Int) + 1) 1 false).tb⟩, bumpP (tickK 5 m a.1 ((i : Int) + 1)) a.2)
    else (tick1 5 m a.1 ((i : Int) + 1) 1 false, bumpP (tickK 5 m a.1 ((i : Int) + 1)) a.2)
  else (tick1 5 m a.1 ((i : Int) + 1) 1 false, a.2)
/-- what matters of it: who was probed, and the one that is silent -/
structure PS where
  la : Int
  pr : Int
  si : Int
  st : Int
  sp : Int
  l : List (Int × Int)
def stepS (m s : Nat) (i : Nat) (σ : PS) : PS :=
  let now : Int := (i : Int) + 1
  let st1 : Int := bif Nat.beq s m then σ.st else bif (σ.st == 1 && decide (8 ≤ now - σ.sp)) then 2 else σ.st
  let D : Bool := !(σ.pr == -1) && decide (4 ≤ now - σ.si)
  let S : Bool := D && st1 == 0
  let st2 : Int := bif S then 1 else st1
  let sp2 : Int := bif S then now else σ.sp
  let pr1 : Int := bif D then -1 else σ.pr
  bif pr1 == -1 then
    let k := nextI 5 m σ.la
    ⟨k, bif k == s then k else -1, now, st2, sp2, bumpP k σ.l⟩
  else ⟨σ.la, pr1, σ.si, st2, sp2, σ.l⟩
def simS (m s : Nat) : Nat → PS
  | 0 => ⟨m, -1, 0, 0, 0, []⟩
  | i + 1 => stepS m s i (simS m s i)
def goodB (m s : Nat) (σ : PS) : Bool := ((List.range 5).all fun j => Nat.beq j m || decide (2 ≤ getI j σ.l)) && (Nat.beq s m || σ.st == 2)
def chk (m s : Nat) : Nat → Nat → PS → Bool
  | 0, _, _ => true
  | c + 1, i, σ => (Nat.ble i 59 || goodB m s σ) && chk m s c (i + 1) (stepS m s i σ)
theorem chk_all : ((List.range 5).all fun m => (List.range 5).all fun s => chk m s 120 0 ⟨m, -1, 0, 0, 0, []⟩) = true := by kernel_rfl
theorem chk_at (m s : Nat) : ∀ (c i : Nat), chk m s c i (simS m s i) = true → ∀ d, d < c → 60 ≤ i + d → goodB m s (simS m s (i + d)) = true
  | 0, _, _, d, hd, _ => absurd hd (Nat.not_lt_zero d)
  | c + 1, i, h, d, hd, h60 => by
    simp only [chk, Bool.and_eq_true, Bool.or_eq_true] at h
    cases d with
    | zero =>
      rcases h.1 with h1 | h1
      · have := Nat.le_of_ble_eq_true h1; omega
      · exact h1
    | succ d =>
      have := chk_at m s c (i + 1) h.2 d (by omega) (by omega)
      rw [show i + 1 + d = i + (d + 1) by omega] at this
      exact this
theorem good_at {m s : Nat} (hm : m < 5) (hs : s < 5) {B : Nat} (h1 : 60 ≤ B) (h2 : B < 120) : goodB m s (simS m s B) = true := by
  have h := List.all_eq_true.1 (List.all_eq_true.1 chk_all m (List.mem_range.2 hm)) s (List.mem_range.2 hs)
  have := chk_at m s 120 0 h B h2 (by omega)
  rwa [Nat.zero_add] at this
theorem tkF_at (me now : Int) (su : Nat → Int) : ∀ (c i : Nat) (t : Nat → Ent) (j : Nat), (foldF (tkT me now su) c i t) j = if i ≤ j ∧ j < i + c then (if tickB me now su t j = true then { t j with st := 2 } else t j) else t j
  | 0, i, t, j => by rw [if_neg (by omega)]; rfl
  | c + 1, i, t, j => by
    show (foldF (tkT me now su) c (i + 1) (tkT me now su i t)) j = _
    rw [tkF_at me now su c (i + 1) _ j]
    have e : tkT me now su i t j = if j = i then (if tickB me now su t i = true then { t i with st := 2 } else t i) else t j := by
      unfold tkT
      cases tickB me now su t i
      · simp only [cond_false, Bool.false_eq_true, if_false]
        split
        · rename_i e; rw [e]
        · rfl
      · simp only [cond_true, updT_eq, if_true]
    by_cases h : j = i
    · subst h
      rw [if_neg (show ¬ (j + 1 ≤ j ∧ j < j + 1 + c) by omega), e, if_pos rfl, if_pos (show j ≤ j ∧ j < j + (c + 1) by omega)]
    · rw [if_neg h] at e
      have eb : tickB me now su (tkT me now su i t) j = tickB me now su t j := by simp only [tickB, e]
      rw [e, eb]
      by_cases h2 : i + 1 ≤ j ∧ j < i + 1 + c
      · rw [if_pos h2, if_pos (show i ≤ j ∧ j < i + (c + 1) by omega)]
      · rw [if_neg h2, if_neg (show ¬ (i ≤ j ∧ j < i + (c + 1)) by omega)]
theorem tk_st {m : Nat} {v : V} {now ld : Int} {dr : Bool} {j : Nat} (hj : j < 5) : (tkT0 5 m v now ld dr j).st = if j ≠ m ∧ (v.tb j).st = 1 ∧ 8 ≤ IntKind.wrap .i64 (now - v.sp j) then 2 else (v.tb j).st := by
  unfold tkT0
  rw [tkF_at, if_pos (by omega)]
  have e : (ownT v.tb m ld dr j).st = (v.tb j).st := by
    simp only [ownT, updT_eq]
    split
    · rename_i e; rw [e]
    · rfl
  have eb : tickB m now v.sp (ownT v.tb m ld dr) j = decide (j ≠ m ∧ (v.tb j).st = 1 ∧ 8 ≤ IntKind.wrap .i64 (now - v.sp j)) := by
    simp only [tickB, e]
    rw [Bool.eq_iff_iff]
    simp
    intro _ _
    omega
  rw [eb]
  by_cases h : j ≠ m ∧ (v.tb j).st = 1 ∧ 8 ≤ IntKind.wrap .i64 (now - v.sp j)
  · rw [if_pos (decide_eq_true h), if_pos h]
  · rw [if_neg (by rw [decide_eq_true_eq]; exact h), if_neg h, e]
structure RelP (m s i : Nat) (a : V × List (Int × Int)) (σ : PS) : Prop where
  la : a.1.la = σ.la
  pr : a.1.pr = σ.pr
  si : a.1.si = σ.si
  st : (a.1.tb s).st = σ.st
  sp : a.1.sp s = σ.sp
  l : a.2 = σ.l
  inv : VInv 5 m a.1
  who : σ.pr = -1 ∨ σ.pr = (s : Int)
  up : ∀ j, j < 5 → j ≠ s → (a.1.tb j).st = 0
  si0 : 0 ≤ σ.si ∧ σ.si ≤ i
  sp0 : 0 ≤ σ.sp ∧ σ.sp ≤ i
theorem rel_step {m s i : Nat} {a : V × List (Int × Int)} {σ : PS} (hm : m < 5) (hs : s < 5) (hi : i ≤ 200) (h : RelP m s i a σ) :
    RelP m s (i + 1) (stepP m s i a) (stepS m s i σ) ∧ (tickG 5 a.1 ((i : Int) + 1) = true → 0 ≤ tickK 5 m a.1 ((i : Int) + 1) ∧ tickK 5 m a.1 ((i : Int) + 1) < 5 ∧ tickK 5 m a.1 ((i : Int) + 1) ≠ (m : Int)) ∧
    (∀ j, j < 5 → j ≠ s → ((tick1 5 m a.1 ((i : Int) + 1) 1 false).tb j).st = 0) := by
  obtain ⟨v, l⟩ := a
  obtain ⟨h1, h2, h3, h4, h5, h6, hI, hw, hup, hsi, hsp⟩ := h
  simp only at h1 h2 h3 h4 h5 h6 hI hup
  have w1 : IntKind.wrap .i64 ((i : Int) + 1 - v.sp s) = (i : Int) + 1 - v.sp s := wrapI (by omega)
  have w2 : IntKind.wrap .i64 ((i : Int) + 1 - v.si) = (i : Int) + 1 - v.si := wrapI (by omega)
  have hN := nextI_ok (la := v.la) hm (by decide) hI.1 (by decide)
  have hV := tick_inv (now := (i : Int) + 1) (ld := 1) (dr := false) hm (by decide) hI
  -- the tick's table
  have hT0 : ∀ j, j < 5 → j ≠ s → (tkT0 5 m v ((i : Int) + 1) 1 false j).st = 0 := fun j hj hjs => by
    rw [tk_st hj, if_neg (by rw [hup j hj hjs]; simp), hup j hj hjs]
  have hT1 : (tkT0 5 m v ((i : Int) + 1) 1 false s).st = bif Nat.beq s m then σ.st else bif (σ.st == 1 && decide (8 ≤ (i : Int) + 1 - σ.sp)) then 2 else σ.st := by
    rw [tk_st hs, w1, h4, h5]
    by_cases e : s = m
    · subst e
      rw [if_neg (by simp), Nat.beq_refl]; rfl
    · rw [beq_ff e]
      simp only [cond_false]
      by_cases e2 : σ.st = 1 ∧ 8 ≤ (i : Int) + 1 - σ.sp
      · rw [if_pos ⟨e, e2⟩]
        simp [e2]
      · rw [if_neg (fun h => e2 h.2)]
        have : (σ.st == 1 && decide (8 ≤ (i : Int) + 1 - σ.sp)) = false := by
          cases hq : (σ.st == 1 && decide (8 ≤ (i : Int) + 1 - σ.sp))
          · rfl
          · simp only [Bool.and_eq_true, beq_iff_eq, decide_eq_true_eq] at hq
            exact absurd hq e2
        rw [this]; rfl
  have hD : tkD v.pr v.si ((i : Int) + 1) = (!(σ.pr == -1) && decide (4 ≤ (i : Int) + 1 - σ.si)) := by
    simp only [tkD]
    rw [w2, h2, h3, Bool.eq_iff_iff]
    simp
  have hG : tickG 5 v ((i : Int) + 1) = ((bif (!(σ.pr == -1) && decide (4 ≤ (i : Int) + 1 - σ.si)) then (-1 : Int) else σ.pr) == -1) := by
    simp only [tickG, tkG]
    rw [hD, h2, Bool.eq_iff_iff]
    simp
  have hK : tickG 5 v ((i : Int) + 1) = true → tickK 5 m v ((i : Int) + 1) = nextI 5 m σ.la := fun h => by
    simp only [tickK, h, cond_true, h1]
  have hGt : tkG 5 v.pr (tkD v.pr v.si ((i : Int) + 1)) = tickG 5 v ((i : Int) + 1) := rfl
  rw [h1] at hN
  -- the tick, part by part
  have e_la : (tick1 5 m v ((i : Int) + 1) 1 false).la = bif tickG 5 v ((i : Int) + 1) then nextI 5 m v.la else v.la := rfl
  have e_pr : (tick1 5 m v ((i : Int) + 1) 1 false).pr = bif tickG 5 v ((i : Int) + 1) then nextI 5 m v.la else bif tkD v.pr v.si ((i : Int) + 1) then -1 else v.pr := rfl
  have e_si : (tick1 5 m v ((i : Int) + 1) 1 false).si = bif tickG 5 v ((i : Int) + 1) then (i : Int) + 1 else v.si := rfl
  have e_sp : (tick1 5 m v ((i : Int) + 1) 1 false).sp = updI (tkD v.pr v.si ((i : Int) + 1) && tkS (tkT0 5 m v ((i : Int) + 1) 1 false) v.pr) v.sp v.pr.toNat ((i : Int) + 1) := rfl
  have e_tb : (tick1 5 m v ((i : Int) + 1) 1 false).tb = bif tkD v.pr v.si ((i : Int) + 1) && tkS (tkT0 5 m v ((i : Int) + 1) 1 false) v.pr then updT (tkT0 5 m v ((i : Int) + 1) 1 false) v.pr.toNat { tkT0 5 m v ((i : Int) + 1) 1 false v.pr.toNat with st := 1 } else tkT0 5 m v ((i : Int) + 1) 1 false := rfl
  generalize tkT0 5 m v ((i : Int) + 1) 1 false = T at hT0 hT1 e_sp e_tb
  -- one that is suspected now is the silent one
  have hDS : (tkD v.pr v.si ((i : Int) + 1) && tkS T v.pr) = ((!(σ.pr == -1) && decide (4 ≤ (i : Int) + 1 - σ.si)) && (bif Nat.beq s m then σ.st else bif (σ.st == 1 && decide (8 ≤ (i : Int) + 1 - σ.sp)) then 2 else σ.st) == 0) := by
    rw [← hT1, hD]
    cases hq : (!(σ.pr == -1) && decide (4 ≤ (i : Int) + 1 - σ.si))
    · rfl
    · simp only [Bool.true_and, tkS]
      simp only [Bool.and_eq_true, Bool.not_eq_true', beq_eq_false_iff_ne] at hq
      have : v.pr.toNat = s := by rw [h2]; rcases hw with h | h <;> omega
      rw [this, Bool.eq_iff_iff]
      simp
  have hps : (tkD v.pr v.si ((i : Int) + 1) && tkS T v.pr) = true → v.pr.toNat = s := fun hq => by
    rw [hDS] at hq
    simp only [Bool.and_eq_true, Bool.not_eq_true', beq_eq_false_iff_ne] at hq
    rw [h2]; rcases hw with h | h <;> omega
  have hup' : ∀ j, j < 5 → j ≠ s → ((tick1 5 m v ((i : Int) + 1) 1 false).tb j).st = 0 := fun j hj hjs => by
    rw [e_tb]
    cases hq : (tkD v.pr v.si ((i : Int) + 1) && tkS T v.pr)
    · exact hT0 j hj hjs
    · simp only [cond_true, updT_eq, hps hq, if_neg hjs]
      exact hT0 j hj hjs
  have hst' : ((tick1 5 m v ((i : Int) + 1) 1 false).tb s).st = bif (tkD v.pr v.si ((i : Int) + 1) && tkS T v.pr) then 1 else (T s).st := by
    rw [e_tb]
    cases hq : (tkD v.pr v.si ((i : Int) + 1) && tkS T v.pr)
    · rfl
    · simp only [cond_true, updT_eq, hps hq, if_true]
  have hsp' : (tick1 5 m v ((i : Int) + 1) 1 false).sp s = bif (tkD v.pr v.si ((i : Int) + 1) && tkS T v.pr) then (i : Int) + 1 else σ.sp := by
    rw [e_sp, updI_eq, h5]
    cases hq : (tkD v.pr v.si ((i : Int) + 1) && tkS T v.pr)
    · simp
    · simp [hps hq]
  clear e_sp e_tb hT0
  rw [hDS] at hst' hsp'
  rw [hT1] at hst'
  rw [hD] at e_pr
  refine ⟨?_, fun hg => by rw [hK hg]; exact hN, hup'⟩
  unfold stepP stepS
  simp only
  rw [← hG]
  generalize tick1 5 m v ((i : Int) + 1) 1 false = v1 at *
  generalize (!(σ.pr == -1) && decide (4 ≤ (i : Int) + 1 - σ.si)) = D at *
  generalize (D && (bif Nat.beq s m then σ.st else bif (σ.st == 1 && decide (8 ≤ (i : Int) + 1 - σ.sp)) then 2 else σ.st) == 0) = DS at *
  have hsp2 : ∀ x : Int, (bif DS then (i : Int) + 1 else σ.sp) = x → 0 ≤ x ∧ x ≤ ((i + 1 : Nat) : Int) := fun x hx => by
    subst hx
    cases DS <;> simp only [cond_true, cond_false] <;> omega
  cases hg : tickG 5 v ((i : Int) + 1)
  · rw [hg] at e_la e_pr e_si
    simp only [cond_false] at e_la e_pr e_si ⊢
    rw [hg, h2] at *
    refine ⟨e_la.trans h1, ?_, e_si.trans h3, hst', hsp', h6, hV, ?_, hup', ?_, hsp2 _ rfl⟩
    · exact e_pr
    · cases D
      · exact hw
      · exact .inl rfl
    · simp only; omega
  · rw [hg] at e_la e_pr e_si
    have hk := hK hg
    simp only [cond_true] at e_la e_pr e_si ⊢
    rw [hk, h6]
    rw [h1] at e_la e_pr
    cases hks : (nextI 5 m σ.la != (s : Int))
    · have hks' : (nextI 5 m σ.la == (s : Int)) = true := by simpa using hks
      simp only [cond_false, hks', cond_true]
      refine ⟨e_la, e_pr, e_si, hst', hsp', rfl, hV, .inr (by simpa using hks'), hup', ?_, hsp2 _ rfl⟩
      simp only; omega
    · have hks' : (nextI 5 m σ.la == (s : Int)) = false := by
        cases hq : (nextI 5 m σ.la == (s : Int))
        · rfl
        · rw [bne, hq] at hks; cases hks
      simp only [cond_true, hks', cond_false]
      have hp : hdPr v1.pr (nextI 5 m σ.la) true = -1 := by simp [hdPr, e_pr]
      rw [hp]
      refine ⟨e_la, rfl, e_si, hst', hsp', rfl, ⟨hV.1, .inl rfl, hV.2.2⟩, .inl rfl, hup', ?_, hsp2 _ rfl⟩
      simp only; omega
theorem rel0 (m s : Nat) (hm : m < 5) (x : Int) : RelP m s 0 (⟨m, -1, 0, fun _ => 0, updT (fun _ => ent0) m ⟨x, 0, 0, 0, ent0.dr⟩⟩, []) (simS m s 0) := by
  have e : ∀ j, (updT (fun _ => ent0) m ⟨x, 0, 0, 0, ent0.dr⟩ j).st = 0 := fun j => by
    simp only [updT_eq]
    split <;> rfl
  refine ⟨rfl, rfl, rfl, e s, rfl, rfl, ⟨by simp only; omega, .inl rfl, e m⟩, .inl rfl, fun j _ _ => e j, ⟨Int.le_refl 0, Int.le_refl 0⟩, ⟨Int.le_refl 0, Int.le_refl 0⟩⟩

theorem round_pb (t : Int) (m s : Nat) (B : Nat) (hm : m < 5) (hs : s < 5) (hB : (B : Int) = 60 + t % 60) (i : Nat) (a : V × List (Int × Int)) (hi : i < B) (hI : (fun (i : Nat) (a : V × List (Int × Int)) => (RelP m s i a (simS m s i) : Prop)) i a) : ∃ st', (tgt_pb t m s i a).res = some (.normal, st') ∧ StLe 4 st' (S_pb t m s (i + 1) ((fun (i : Nat) (a : V × List (Int × Int)) => (stepP m s i a)) i a)) ∧ (fun (i : Nat) (a : V × List (Int × Int)) => (RelP m s i a (simS m s i) : Prop)) (i + 1) ((fun (i : Nat) (a : V × List (Int × Int)) => (stepP m s i a)) i a) := by
  refine T.over_exP (g := fun s => (Ex.normal, s)) (tree_pb t m s i a) ?_
  obtain ⟨v, l⟩ := a
  have hR : RelP m s i (v, l) (simS m s i) := hI
  obtain ⟨hR2, hkk, hal⟩ := rel_step hm hs (by omega) hR
  have hR2 : RelP m s (i + 1) (stepP m s i (v, l)) (simS m s (i + 1)) := hR2
  simp only at hkk hal
  have hV := hR.inv
  simp only at hV
  have c0 : (i : Int) + 1 ≤ IntKind.wrap .i64 (60 + t % 60) := by rw [wrapI (by omega)]; omega
  have e3 : IntKind.wrap .i64 ((i : Int) + 1 + 1) = ((i + 1 : Nat) : Int) + 1 := by rw [wrapI (by omega)]; rfl
  have m0 : ((0 : Int) ≤ (m : Int)) = True := eq_true (by omega)
  have m1 : ((m : Int) < 5) = True := eq_true (by omega)
  have p1 : (-1 ≤ v.pr) = True := eq_true (by have := hV.2.1; omega)
  have p2 : (v.pr < 5) = True := eq_true (by have := hV.2.1; omega)
  have k5 : ((5 : Nat) ≤ 5) = True := eq_true (by decide)
  have f7 : EntL true 0 (entE fun _ => default) := ⟨entN _ _, by omega, fun _ => rfl⟩
  have z0 : ∀ (w : V) (nw : Int), (hdR 5 m w nw (fun _ => default) 0).tb = w.tb := fun _ _ => rfl
  have z1 : ∀ (w : V) (nw : Int), (hdR 5 m w nw (fun _ => default) 0).sp = w.sp := fun _ _ => rfl
  have aE : ∀ (T : Nat → Ent), atE 5 T 0 = T 0 ∧ atE 5 T 1 = T 1 ∧ atE 5 T 2 = T 2 ∧ atE 5 T 3 = T 3 ∧ atE 5 T 4 = T 4 := fun T => ⟨rfl, rfl, rfl, rfl, rfl⟩
  have n0 : ((0 : Int) != (s : Int)) = !(Nat.beq 0 s) := by rcases (show s = 0 ∨ s = 1 ∨ s = 2 ∨ s = 3 ∨ s = 4 by omega) with h | h | h | h | h <;> rw [h] <;> rfl
  have n1 : ((1 : Int) != (s : Int)) = !(Nat.beq 1 s) := by rcases (show s = 0 ∨ s = 1 ∨ s = 2 ∨ s = 3 ∨ s = 4 by omega) with h | h | h | h | h <;> rw [h] <;> rfl
  have n2 : ((2 : Int) != (s : Int)) = !(Nat.beq 2 s) := by rcases (show s = 0 ∨ s = 1 ∨ s = 2 ∨ s = 3 ∨ s = 4 by omega) with h | h | h | h | h <;> rw [h] <;> rfl
  have n3 : ((3 : Int) != (s : Int)) = !(Nat.beq 3 s) := by rcases (show s = 0 ∨ s = 1 ∨ s = 2 ∨ s = 3 ∨ s = 4 by omega) with h | h | h | h | h <;> rw [h] <;> rfl
  have n4 : ((4 : Int) != (s : Int)) = !(Nat.beq 4 s) := by rcases (show s = 0 ∨ s = 1 ∨ s = 2 ∨ s = 3 ∨ s = 4 by omega) with h | h | h | h | h <;> rw [h] <;> rfl
  simp only [T.res_br, T.res_ret, T.res_bad, decide_eq_true c0, e3, m0, m1, p1, p2, k5, f7, z0, z1, VPre_ok, mI_keys, mI_ints, mI_get, mI_put, Bool.and_self, and_self, pb_tt, reduceIte]
  cases hg : tickG 5 v ((i : Int) + 1)
  · have es : stepP m s i (v, l) = (tick1 5 m v ((i : Int) + 1) 1 false, l) := by simp only [stepP, hg, cond_false]
    rw [es] at hR2 ⊢
    simp only [Bool.false_eq_true, reduceIte]
    generalize tick1 5 m v ((i : Int) + 1) 1 false = v1 at *
    rcases (show s = 0 ∨ s = 1 ∨ s = 2 ∨ s = 3 ∨ s = 4 by omega) with rfl | rfl | rfl | rfl | rfl
    · simp only [n0, n1, n2, n3, n4, (rfl : Nat.beq 0 0 = true), (rfl : Nat.beq 1 0 = false), (rfl : Nat.beq 2 0 = false), (rfl : Nat.beq 3 0 = false), (rfl : Nat.beq 4 0 = false), Bool.not_true, Bool.not_false, aE, hal 1 (by decide) (by decide), hal 2 (by decide) (by decide), hal 3 (by decide) (by decide), hal 4 (by decide) (by decide), bne_self_eq_false, Bool.false_eq_true, reduceIte]
      exact ⟨_, rfl, StLe.less (Nat.le_refl 4) (fun t => .inr (.inl rfl)) (fun b => by rcases b with _ | _ | _ | _ | b <;> exact .inl rfl), hR2⟩
    · simp only [n0, n1, n2, n3, n4, (rfl : Nat.beq 0 1 = false), (rfl : Nat.beq 1 1 = true), (rfl : Nat.beq 2 1 = false), (rfl : Nat.beq 3 1 = false), (rfl : Nat.beq 4 1 = false), Bool.not_true, Bool.not_false, aE, hal 0 (by decide) (by decide), hal 2 (by decide) (by decide), hal 3 (by decide) (by decide), hal 4 (by decide) (by decide), bne_self_eq_false, Bool.false_eq_true, reduceIte]
      exact ⟨_, rfl, StLe.less (Nat.le_refl 4) (fun t => .inr (.inl rfl)) (fun b => by rcases b with _ | _ | _ | _ | b <;> exact .inl rfl), hR2⟩
    · simp only [n0, n1, n2, n3, n4, (rfl : Nat.beq 0 2 = false), (rfl : Nat.beq 1 2 = false), (rfl : Nat.beq 2 2 = true), (rfl : Nat.beq 3 2 = false), (rfl : Nat.beq 4 2 = false), Bool.not_true, Bool.not_false, aE, hal 0 (by decide) (by decide), hal 1 (by decide) (by decide), hal 3 (by decide) (by decide), hal 4 (by decide) (by decide), bne_self_eq_false, Bool.false_eq_true, reduceIte]
      exact ⟨_, rfl, StLe.less (Nat.le_refl 4) (fun t => .inr (.inl rfl)) (fun b => by rcases b with _ | _ | _ | _ | b <;> exact .inl rfl), hR2⟩
    · simp only [n0, n1, n2, n3, n4, (rfl : Nat.beq 0 3 = false), (rfl : Nat.beq 1 3 = false), (rfl : Nat.beq 2 3 = false), (rfl : Nat.beq 3 3 = true), (rfl : Nat.beq 4 3 = false), Bool.not_true, Bool.not_false, aE, hal 0 (by decide) (by decide), hal 1 (by decide) (by decide), hal 2 (by decide) (by decide), hal 4 (by decide) (by decide), bne_self_eq_false, Bool.false_eq_true, reduceIte]
      exact ⟨_, rfl, StLe.less (Nat.le_refl 4) (fun t => .inr (.inl rfl)) (fun b => by rcases b with _ | _ | _ | _ | b <;> exact .inl rfl), hR2⟩
    · simp only [n0, n1, n2, n3, n4, (rfl : Nat.beq 0 4 = false), (rfl : Nat.beq 1 4 = false), (rfl : Nat.beq 2 4 = false), (rfl : Nat.beq 3 4 = false), (rfl : Nat.beq 4 4 = true), Bool.not_true, Bool.not_false, aE, hal 0 (by decide) (by decide), hal 1 (by decide) (by decide), hal 2 (by decide) (by decide), hal 3 (by decide) (by decide), bne_self_eq_false, Bool.false_eq_true, reduceIte]
      exact ⟨_, rfl, StLe.less (Nat.le_refl 4) (fun t => .inr (.inl rfl)) (fun b => by rcases b with _ | _ | _ | _ | b <;> exact .inl rfl), hR2⟩
  · obtain ⟨q1, q2, q3⟩ := hkk hg
    have d1 : decide (tickK 5 m v ((i : Int) + 1) < 0) = false := decide_eq_false (by omega)
    have d2 : decide (tickK 5 m v ((i : Int) + 1) ≥ 5) = false := decide_eq_false (by omega)
    have d3 : (tickK 5 m v ((i : Int) + 1) == (m : Int)) = false := by simpa using q3
    simp only [d1, d2, d3, Bool.false_eq_true, reduceIte]
    cases hq : (tickK 5 m v ((i : Int) + 1) != (s : Int))
    · have es : stepP m s i (v, l) = (tick1 5 m v ((i : Int) + 1) 1 false, bumpP (tickK 5 m v ((i : Int) + 1)) l) := by simp only [stepP, hg, hq, cond_true, cond_false]
      rw [es] at hR2 ⊢
      simp only [Bool.false_eq_true, reduceIte]
      generalize tick1 5 m v ((i : Int) + 1) 1 false = v1 at *
      rcases (show s = 0 ∨ s = 1 ∨ s = 2 ∨ s = 3 ∨ s = 4 by omega) with rfl | rfl | rfl | rfl | rfl
      · simp only [n0, n1, n2, n3, n4, (rfl : Nat.beq 0 0 = true), (rfl : Nat.beq 1 0 = false), (rfl : Nat.beq 2 0 = false), (rfl : Nat.beq 3 0 = false), (rfl : Nat.beq 4 0 = false), Bool.not_true, Bool.not_false, aE, hal 1 (by decide) (by decide), hal 2 (by decide) (by decide), hal 3 (by decide) (by decide), hal 4 (by decide) (by decide), bne_self_eq_false, Bool.false_eq_true, reduceIte]
        exact ⟨_, rfl, StLe.less (Nat.le_refl 4) (fun t => .inr (.inl rfl)) (fun b => by rcases b with _ | _ | _ | _ | b <;> exact .inl rfl), hR2⟩
      · simp only [n0, n1, n2, n3, n4, (rfl : Nat.beq 0 1 = false), (rfl : Nat.beq 1 1 = true), (rfl : Nat.beq 2 1 = false), (rfl : Nat.beq 3 1 = false), (rfl : Nat.beq 4 1 = false), Bool.not_true, Bool.not_false, aE, hal 0 (by decide) (by decide), hal 2 (by decide) (by decide), hal 3 (by decide) (by decide), hal 4 (by decide) (by decide), bne_self_eq_false, Bool.false_eq_true, reduceIte]
        exact ⟨_, rfl, StLe.less (Nat.le_refl 4) (fun t => .inr (.inl rfl)) (fun b => by rcases b with _ | _ | _ | _ | b <;> exact .inl rfl), hR2⟩
      · simp only [n0, n1, n2, n3, n4, (rfl : Nat.beq 0 2 = false), (rfl : Nat.beq 1 2 = false), (rfl : Nat.beq 2 2 = true), (rfl : Nat.beq 3 2 = false), (rfl : Nat.beq 4 2 = false), Bool.not_true, Bool.not_false, aE, hal 0 (by decide) (by decide), hal 1 (by decide) (by decide), hal 3 (by decide) (by decide), hal 4 (by decide) (by decide), bne_self_eq_false, Bool.false_eq_true, reduceIte]
        exact ⟨_, rfl, StLe.less (Nat.le_refl 4) (fun t => .inr (.inl rfl)) (fun b => by rcases b with _ | _ | _ | _ | b <;> exact .inl rfl), hR2⟩
      · simp only [n0, n1, n2, n3, n4, (rfl : Nat.beq 0 3 = false), (rfl : Nat.beq 1 3 = false), (rfl : Nat.beq 2 3 = false), (rfl : Nat.beq 3 3 = true), (rfl : Nat.beq 4 3 = false), Bool.not_true, Bool.not_false, aE, hal 0 (by decide) (by decide), hal 1 (by decide) (by decide), hal 2 (by decide) (by decide), hal 4 (by decide) (by decide), bne_self_eq_false, Bool.false_eq_true, reduceIte]
        exact ⟨_, rfl, StLe.less (Nat.le_refl 4) (fun t => .inr (.inl rfl)) (fun b => by rcases b with _ | _ | _ | _ | b <;> exact .inl rfl), hR2⟩
      · simp only [n0, n1, n2, n3, n4, (rfl : Nat.beq 0 4 = false), (rfl : Nat.beq 1 4 = false), (rfl : Nat.beq 2 4 = false), (rfl : Nat.beq 3 4 = false), (rfl : Nat.beq 4 4 = true), Bool.not_true, Bool.not_false, aE, hal 0 (by decide) (by decide), hal 1 (by decide) (by decide), hal 2 (by decide) (by decide), hal 3 (by decide) (by decide), bne_self_eq_false, Bool.false_eq_true, reduceIte]
        exact ⟨_, rfl, StLe.less (Nat.le_refl 4) (fun t => .inr (.inl rfl)) (fun b => by rcases b with _ | _ | _ | _ | b <;> exact .inl rfl), hR2⟩
    · have es : stepP m s i (v, l) = (⟨(tick1 5 m v ((i : Int) + 1) 1 false).la, hdPr (tick1 5 m v ((i : Int) + 1) 1 false).pr (tickK 5 m v ((i : Int) + 1)) true, (tick1 5 m v ((i : Int) + 1) 1 false).si, (tick1 5 m v ((i : Int) + 1) 1 false).sp, (tick1 5 m v ((i : Int) + 1) 1 false).tb⟩, bumpP (tickK 5 m v ((i : Int) + 1)) l) := by simp only [stepP, hg, hq, cond_true]
      rw [es] at hR2 ⊢
      simp only [reduceIte]
      generalize tick1 5 m v ((i : Int) + 1) 1 false = v1 at *
      rcases (show s = 0 ∨ s = 1 ∨ s = 2 ∨ s = 3 ∨ s = 4 by omega) with rfl | rfl | rfl | rfl | rfl
      · simp only [n0, n1, n2, n3, n4, (rfl : Nat.beq 0 0 = true), (rfl : Nat.beq 1 0 = false), (rfl : Nat.beq 2 0 = false), (rfl : Nat.beq 3 0 = false), (rfl : Nat.beq 4 0 = false), Bool.not_true, Bool.not_false, aE, hal 1 (by decide) (by decide), hal 2 (by decide) (by decide), hal 3 (by decide) (by decide), hal 4 (by decide) (by decide), bne_self_eq_false, Bool.false_eq_true, reduceIte]
        exact ⟨_, rfl, StLe.less (Nat.le_refl 4) (fun t => .inr (.inl rfl)) (fun b => by rcases b with _ | _ | _ | _ | b <;> exact .inl rfl), hR2⟩
      · simp only [n0, n1, n2, n3, n4, (rfl : Nat.beq 0 1 = false), (rfl : Nat.beq 1 1 = true), (rfl : Nat.beq 2 1 = false), (rfl : Nat.beq 3 1 = false), (rfl : Nat.beq 4 1 = false), Bool.not_true, Bool.not_false, aE, hal 0 (by decide) (by decide), hal 2 (by decide) (by decide), hal 3 (by decide) (by decide), hal 4 (by decide) (by decide), bne_self_eq_false, Bool.false_eq_true, reduceIte]
        exact ⟨_, rfl, StLe.less (Nat.le_refl 4) (fun t => .inr (.inl rfl)) (fun b => by rcases b with _ | _ | _ | _ | b <;> exact .inl rfl), hR2⟩
      · simp only [n0, n1, n2, n3, n4, (rfl : Nat.beq 0 2 = false), (rfl : Nat.beq 1 2 = false), (rfl : Nat.beq 2 2 = true), (rfl : Nat.beq 3 2 = false), (rfl : Nat.beq 4 2 = false), Bool.not_true, Bool.not_false, aE, hal 0 (by decide) (by decide), hal 1 (by decide) (by decide), hal 3 (by decide) (by decide), hal 4 (by decide) (by decide), bne_self_eq_false, Bool.false_eq_true, reduceIte]
        exact ⟨_, rfl, StLe.less (Nat.le_refl 4) (fun t => .inr (.inl rfl)) (fun b => by rcases b with _ | _ | _ | _ | b <;> exact .inl rfl), hR2⟩
      · simp only [n0, n1, n2, n3, n4, (rfl : Nat.beq 0 3 = false), (rfl : Nat.beq 1 3 = false), (rfl : Nat.beq 2 3 = false), (rfl : Nat.beq 3 3 = true), (rfl : Nat.beq 4 3 = false), Bool.not_true, Bool.not_false, aE, hal 0 (by decide) (by decide), hal 1 (by decide) (by decide), hal 2 (by decide) (by decide), hal 4 (by decide) (by decide), bne_self_eq_false, Bool.false_eq_true, reduceIte]
        exact ⟨_, rfl, StLe.less (Nat.le_refl 4) (fun t => .inr (.inl rfl)) (fun b => by rcases b with _ | _ | _ | _ | b <;> exact .inl rfl), hR2⟩
      · simp only [n0, n1, n2, n3, n4, (rfl : Nat.beq 0 4 = false), (rfl : Nat.beq 1 4 = false), (rfl : Nat.beq 2 4 = false), (rfl : Nat.beq 3 4 = false), (rfl : Nat.beq 4 4 = true), Bool.not_true, Bool.not_false, aE, hal 0 (by decide) (by decide), hal 1 (by decide) (by decide), hal 2 (by decide) (by decide), hal 3 (by decide) (by decide), bne_self_eq_false, Bool.false_eq_true, reduceIte]
        exact ⟨_, rfl, StLe.less (Nat.le_refl 4) (fun t => .inr (.inl rfl)) (fun b => by rcases b with _ | _ | _ | _ | b <;> exact .inl rfl), hR2⟩

theorem end_pb (t : Int) (m s : Nat) (B : Nat) (hm : m < 5) (hs : s < 5) (hB : (B : Int) = 60 + t % 60) (a : V × List (Int × Int)) (hI : (fun (i : Nat) (a : V × List (Int × Int)) => (RelP m s i a (simS m s i) : Prop)) (B) a) : ∃ st', (tgt_pb t m s (B) a).res = some (.exit 0, st') ∧ StLe 4 st' (⟨[(8, .v (AP 0)), (0, .v (AI m)), (1, .v (AI s)), (9, .v (.one (.mp 3))), (7, .v (AI 5))], hpb m a.1 a.2, 4, false, 0, []⟩) := by
  refine T.over_exP (g := fun s => (.exit 0, s)) (tree_pb t m s (B) a) ?_
  have c0 : ¬ (B : Int) + 1 ≤ IntKind.wrap .i64 (60 + t % 60) := by rw [wrapI (by omega)]; omega
  simp only [T.res_br, T.res_ret, T.res_bad, decide_eq_false c0, Bool.false_eq_true, reduceIte]
  exact ⟨_, rfl, StLe.less (Nat.le_refl 4) (fun t => .inr (.inl rfl)) (fun b => by rcases b with _ | _ | _ | _ | b <;> exact .inl rfl)⟩
theorem loop_pb (t : Int) (m s : Nat) (B : Nat) (hm : m < 5) (hs : s < 5) (hB : (B : Int) = 60 + t % 60) (i : Nat) (a : V × List (Int × Int)) (hi : i ≤ B) (hI : (fun (i : Nat) (a : V × List (Int × Int)) => (RelP m s i a (simS m s i) : Prop)) i a) {st0 : St} (h0 : StLe 4 st0 (S_pb t m s i a)) (hnx : st0.nx = 4) :
    CodeOk Try.prog Try.f8.ntmps (.loop (loopOf Try.f8 9)) st0 (.exit 0) ((fun (a : V × List (Int × Int)) => ⟨[(8, .v (AP 0)), (0, .v (AI m)), (1, .v (AI s)), (9, .v (.one (.mp 3))), (7, .v (AI 5))], hpb m a.1 a.2, 4, false, 0, []⟩) (foldF (fun (i : Nat) (a : V × List (Int × Int)) => (stepP m s i a)) (B - i) i a)) := by
  have := for_loop GOTF2 GKTF2 (K := 300) (F := 8) (N := Try.f8.ntmps) (c := loopOf Try.f8 9) (m := 4) (live := [10, 2, 8, 0, 1, 9, 7]) (after := [8, 0, 1, 9, 7]) (S_pb t m s) (B) (fun (i : Nat) (a : V × List (Int × Int)) => .inl (stepP m s i a)) (fun (a : V × List (Int × Int)) => (.exit 0, ⟨[(8, .v (AP 0)), (0, .v (AI m)), (1, .v (AI s)), (9, .v (.one (.mp 3))), (7, .v (AI 5))], hpb m a.1 a.2, 4, false, 0, []⟩)) (fun (i : Nat) (a : V × List (Int × Int)) => (RelP m s i a (simS m s i) : Prop))
    (fun i a hi hI => by obtain ⟨s, h1, h2, h3⟩ := round_pb t m s B hm hs hB i a hi hI; exact ⟨_, s, h1, rfl, h2, h3⟩)
    (fun a hI => by obtain ⟨s, h1, h2⟩ := end_pb t m s B hm hs hB a hI; exact ⟨_, s, h1, by simp, rfl, h2⟩)
    (fun i a => by first | exact Nat.le_refl _ | (show 4 ≤ _; decide) | (simp only [S_pb]; omega)) hi hI h0 hnx
  rw [foldX_inl] at this
  exact this
end Go.Proofs.Ytdoehlinboiohaa.En
