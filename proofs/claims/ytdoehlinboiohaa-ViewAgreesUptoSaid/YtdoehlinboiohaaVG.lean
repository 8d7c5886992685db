/- ViewTells: its rounds. -/
import Derived.Test.YtdoehlinboiohaaVF
namespace Go.Proofs.Ytdoehlinboiohaa.En
open Go
set_option linter.unusedVariables false
set_option linter.unusedSimpArgs false
set_option maxRecDepth 20000
set_option maxHeartbeats 1000000
theorem nextI_ok {n m : Nat} {la : Int} (hm : m < n) (hn : n ≤ 5) (h : 0 ≤ la ∧ la < (n : Int)) (h2 : n ≠ 1) : 0 ≤ nextI n m la ∧ nextI n m la < (n : Int) ∧ nextI n m la ≠ (m : Int) := by
  unfold nextI
  rw [wrapI (by omega)]
  have e : Int.tmod (la + 1) (n : Int) = (la + 1) % (n : Int) := Int.tmod_eq_emod_of_nonneg (by omega)
  rw [e]
  have b1 := Int.emod_nonneg (la + 1) (show (n : Int) ≠ 0 by omega)
  have b2 := Int.emod_lt_of_pos (la + 1) (show (0 : Int) < n by omega)
  split
  · rename_i hq
    rw [hq, wrapI (by omega), Int.tmod_eq_emod_of_nonneg (by omega)]
    have b3 := Int.emod_nonneg ((m : Int) + 1) (show (n : Int) ≠ 0 by omega)
    have b4 := Int.emod_lt_of_pos ((m : Int) + 1) (show (0 : Int) < n by omega)
    refine ⟨b3, b4, fun h => ?_⟩
    rcases Nat.lt_or_ge (m + 1) n with h5 | h5
    · rw [Int.emod_eq_of_lt (by omega) (by omega)] at h
      omega
    · have : (m : Int) + 1 = n := by omega
      rw [this, Int.emod_self] at h
      omega
  · exact ⟨b1, b2, by assumption⟩
/-- what stays true of a view -/
def VInv (n m : Nat) (v : V) : Prop := (0 ≤ v.la ∧ v.la < (n : Int)) ∧ (v.pr = -1 ∨ (0 ≤ v.pr ∧ v.pr < (n : Int) ∧ v.pr ≠ (m : Int))) ∧ (v.tb m).st = 0
theorem tkT_me (n m : Nat) (now : Int) (su : Nat → Int) (i : Nat) (t : Nat → Ent) (h : (t m).st = 0) : (tkT m now su i t m).st = 0 := by
  unfold tkT
  cases hb : tickB m now su t i
  · exact h
  · simp only [cond_true, updT_eq]
    split
    · rename_i e
      subst e
      simp [tickB] at hb
    · exact h
theorem foldF_inv {α : Type} (f : Nat → α → α) (P : α → Prop) (h : ∀ i a, P a → P (f i a)) : ∀ (c i : Nat) (a : α), P a → P (foldF f c i a)
  | 0, _, _, ha => ha
  | c + 1, i, a, ha => foldF_inv f P h c (i + 1) (f i a) (h i a ha)
theorem tick_inv {n m : Nat} {v : V} {now ld : Int} {dr : Bool} (hm : m < n) (hn : n ≤ 5) (h : VInv n m v) : VInv n m (tick1 n m v now ld dr) := by
  obtain ⟨h1, h2, h3⟩ := h
  have hT : (tkT0 n m v now ld dr m).st = 0 := foldF_inv (tkT m now v.sp) (fun t => (t m).st = 0) (fun i t h => tkT_me n m now v.sp i t h) n 0 _ (by simp [ownT, updT_eq, h3])
  unfold tick1 tickY
  generalize tkT0 n m v now ld dr = T at hT
  refine ⟨?_, ?_, ?_⟩
  · cases hG : tkG n v.pr (tkD v.pr v.si now)
    · exact h1
    · simp only [tkG, decide_eq_true_eq] at hG
      have := nextI_ok hm hn h1 hG.2
      exact ⟨this.1, this.2.1⟩
  · cases hG : tkG n v.pr (tkD v.pr v.si now)
    · simp only [cond_false]
      cases tkD v.pr v.si now
      · exact h2
      · exact .inl rfl
    · simp only [tkG, decide_eq_true_eq] at hG
      exact .inr (nextI_ok hm hn h1 hG.2)
  · cases hD : tkD v.pr v.si now
    · exact hT
    · cases hS : tkS T v.pr
      · exact hT
      · simp only [Bool.and_self, cond_true, updT_eq]
        split
        · rename_i e
          simp only [tkD, decide_eq_true_eq] at hD
          rcases h2 with h2 | h2
          · exact absurd h2 hD.1
          · omega
        · exact hT
theorem hdA_me (n m : Nat) (now : Int) (x : Nat → Ent) (i : Nat) (a : HA) (h : (a.tb m).st = 0) : ((hdA n m now x i a).tb m).st = 0 := by
  unfold hdA
  cases farB n x i a
  · by_cases e : i = m
    · subst e
      simp [updT_eq]
    · simp [beq_ff e, updT_eq, show ¬ m = i from fun h => e h.symm, h]
  · exact h
theorem heard_inv {n m : Nat} {v : V} {now fr : Int} {ack : Bool} {x : Nat → Ent} {N : Nat} (h : VInv n m v) : VInv n m (heard1 n m v now fr ack x N) := by
  obtain ⟨h1, h2, h3⟩ := h
  refine ⟨h1, ?_, foldF_inv (hdA n m now x) (fun a => (a.tb m).st = 0) (fun i a h => hdA_me n m now x i a h) N 0 _ h3⟩
  show hdPr v.pr fr ack = -1 ∨ _
  simp only [heard1, hdPr]
  cases ack && decide (fr = v.pr)
  · exact h2
  · exact .inl rfl
def bumpT (y : Nat → Ent) (W : Int) : Nat → Ent := fun i => ⟨bif Nat.beq i 0 then W else (y i).inc, (y i).st, (y i).stamp, (y i).load, (y i).dr⟩
theorem bump_fun (y : Nat → Ent) (W : Int) : (fun i' => iteL (Nat.beq i' (0 : Nat)) (setRange (entE y i') (0 : Nat) [FV.lit (Value.int IntKind.i64 W)]) (entE y i')) = entE (bumpT y W) := by
  funext i
  by_cases h : i = 0
  · subst h
    rfl
  · simp only [beq_ff h, bumpT, entE, Ent.fs, cond_false]
    rfl
def nowOf (now what : Int) : Int := IntKind.wrap IntKind.i64 (IntKind.wrap IntKind.i64 (now + (1 : Int)) + IntKind.wrap IntKind.i64 (Int.tdiv (IntKind.wrap IntKind.i64 (Int.tdiv what (5 : Int)) % (3 : Int)) (2 : Int)))
def bumpB (r : Raw13) : Bool := decide (0 < min r.n 7) && (IntKind.wrap IntKind.i64 (Int.tdiv r.what (5 : Int)) % (30 : Int) == (29 : Int))
def tblOf (r : Raw13) : Nat → Ent := bif bumpB r then bumpT (fun j => entR (r.x j)) (IntKind.wrap IntKind.i64 ((1099511627774 : Int) + r.load % (4 : Int))) else fun j => entR (r.x j)
def step13 (n m : Nat) (a : V × Int) (r : Raw13) : V × Int :=
  bif decide (r.what % (5 : Int) < (2 : Int)) then (tick1 n m a.1 (nowOf a.2 r.what) (r.load % 30) r.drain, nowOf a.2 r.what)
  else (heard1 n m a.1 a.2 (IntKind.wrap IntKind.i64 (r.from' % (7 : Int) - (1 : Int))) r.ack (tblOf r) (min r.n 7), a.2)
theorem step_inv {n m : Nat} {a : V × Int} {r : Raw13} (hm : m < n) (hn : n ≤ 5) (h : VInv n m a.1) : VInv n m (step13 n m a r).1 := by
  unfold step13
  cases decide (r.what % (5 : Int) < (2 : Int))
  · exact heard_inv h
  · exact tick_inv hm hn h
theorem sameE_self (n : Nat) (x : Nat → Ent) : sameE n x n x = true := pb_true ⟨rfl, fun i _ => eqE_refl _⟩
theorem stH_le (t : Nat → Ent) (i : Nat) (a : AccI) : (stH t i a).1 ≤ a.1 + 1 := by unfold stH; split <;> simp
theorem here_le (t : Nat → Ent) : ∀ (c i : Nat) (a : AccI), (foldF (stH t) c i a).1 ≤ a.1 + c
  | 0, _, _ => Nat.le_refl _
  | c + 1, i, a => by
    have h1 := here_le t c (i + 1) (stH t i a)
    have h2 := stH_le t i a
    show (foldF (stH t) c (i + 1) (stH t i a)).1 ≤ _
    omega
theorem hereQ_le (t : Nat → Ent) {n : Nat} (hn : n ≤ 5) : (hereQ t n).1 ≤ 1000 := by
  have := here_le t n 0 (0, fun _ => 0)
  unfold hereQ
  simp only at this
  omega

theorem round_vt (nl : Bool) (k : Nat) (x : Nat → Raw13) (n : Nat) (m : Nat) (me0 : Int) (hm : m < n) (hn : n ≤ 5) (hnl : nl = true → k = 0) (hk : (k : Int) ≤ 9223372036854775807) (hx : ∀ i, i < k → LnOk (x i).nl (x i).n) (i : Nat) (a : V × Int) (hi : i < k) (hI : (fun (i : Nat) (a : V × Int) => (VInv n m a.1 : Prop)) i a) : ∃ s, (tgt_vt nl k x n m me0 i a).res = some (.normal, s) ∧ StLe 6 s (S_vt nl k x n m me0 (i + 1) ((fun (i : Nat) (a : V × Int) => (step13 n m a (x i))) i a)) ∧ (fun (i : Nat) (a : V × Int) => (VInv n m a.1 : Prop)) (i + 1) ((fun (i : Nat) (a : V × Int) => (step13 n m a (x i))) i a) := by
  refine T.over_exP (g := fun s => (Ex.normal, s)) (tree_vt nl k x n m me0 i a) ?_
  obtain ⟨v, now⟩ := a
  have hI' : VInv n m v := hI
  have hI2 := step_inv (r := x i) (a := (v, now)) hm hn hI'
  obtain ⟨h1, h2, h3⟩ := hI'
  have e0 : (i : Int) < (k : Int) := by omega
  have e2 : (0 : Int) ≤ (i : Int) ∧ (i : Int) < (k : Int) := by omega
  have e3 : IntKind.wrap .i64 ((i : Int) + 1) = ((i + 1 : Nat) : Int) := by rw [wrapI (by omega)]; rfl
  have en : nl = false := by
    cases hnle : nl
    · rfl
    · have := hnl hnle; omega
  subst en
  have m0 : (0 : Int) ≤ (m : Int) := by omega
  have m1 : (m : Int) < (n : Int) := by omega
  have p1 : (-1 : Int) ≤ v.pr := by omega
  have p2 : v.pr < (n : Int) := by omega
  have n0 : 0 < n := by omega
  have bn : Nat.ble n n = true := ble_tt (Nat.le_refl n)
  have f1 : ∀ X, EntL false n (entE X) := fun X => ⟨entN _ _, by omega, fun h => by cases h⟩
  have f2 : EntL (x i).nl (x i).n (entE (x i).x) := ⟨entN _ _, hx i hi⟩
  have f4 : ∀ X, EntL (Nat.beq (min (x i).n 7) 0) (min (x i).n 7) (entE X) := fun X => ⟨entN _ _, by omega, fun h => Nat.eq_of_beq_eq_true h⟩
  have f5 : ∀ X, (hereQ X n).1 ≤ 1000 := fun X => hereQ_le X hn
  have f6 : (0 : Int) ≤ 7 ∧ (7 : Int) ≤ 1000 := by omega
  have f7 : (Nat.ble (min (x i).n 7) (min (x i).n 7) && (!Nat.beq (min (x i).n 7) 0 || Nat.beq (min (x i).n 7) 0)) = true := by
    rw [ble_tt (Nat.le_refl _), Bool.or_comm, beq_or]; rfl
  simp only [T.res_br, T.res_ret, T.res_bad, decide_eq_true e0, decide_eq_true e2, e3, Bool.not_false, reduceIte, bump_fun, entOf_entE]
  cases hw : decide ((x i).what % (5 : Int) < (2 : Int))
  · have es : step13 n m (v, now) (x i) = (heard1 n m v now (IntKind.wrap IntKind.i64 ((x i).from' % (7 : Int) - (1 : Int))) (x i).ack (tblOf (x i)) (min (x i).n 7), now) := by
      simp only [step13, hw, cond_false]
    rw [es] at hI2 ⊢
    simp only [f2, f6, and_self, pb_tt, Bool.false_eq_true, reduceIte, f7]
    by_cases hb0 : 0 < min (x i).n 7
    · have c16 : decide (((min (x i).n 7 : Nat) : Int) > 0) = true := decide_eq_true (by omega)
      simp only [c16, reduceIte]
      cases hb1 : (IntKind.wrap IntKind.i64 (Int.tdiv (x i).what (5 : Int)) % (30 : Int) == (29 : Int))
      · have et : tblOf (x i) = fun j => entR ((x i).x j) := by simp only [tblOf, bumpB, hb1, Bool.and_false, cond_false]
        rw [et] at hI2 ⊢
        simp only [VPre_ok, m0, m1, p1, p2, n0, hn, bn, f1, f4, f5, h3, IntE_ok, sameE_self, eq_self, and_self, pb_tt, bne_self_eq_false, beq_self_eq_true, Bool.and_self, Bool.not_true, Bool.not_false, Bool.and_true, Bool.false_eq_true, reduceIte]
        exact ⟨_, rfl, StLe.less (Nat.le_refl 6) (fun t => .inr (.inl rfl)) (fun b => by rcases b with _ | _ | _ | _ | _ | _ | b <;> exact .inl rfl), hI2⟩
      · have et : tblOf (x i) = bumpT (fun j => entR ((x i).x j)) (IntKind.wrap IntKind.i64 ((1099511627774 : Int) + (x i).load % (4 : Int))) := by
          simp only [tblOf, bumpB, hb1, decide_eq_true hb0, Bool.and_self, cond_true]
        rw [et] at hI2 ⊢
        have c18 : Nat.beq (min (x i).n 7) 0 = false := beq_ff (by omega)
        have c19 : (0 : Int) ≤ 0 ∧ (0 : Int) < ((min (x i).n 7 : Nat) : Int) := by omega
        have c20 : Nat.ble 1 (min (x i).n 7) = true := ble_tt (by omega)
        have f4' : ∀ X, EntL false (min (x i).n 7) (entE X) := fun X => c18 ▸ f4 X
        simp only [c18, decide_eq_true c19, c20, ble_tt (Nat.le_refl (min (x i).n 7)), Bool.true_and, Bool.true_or, VPre_ok, m0, m1, p1, p2, n0, hn, bn, f1, f4', f5, h3, IntE_ok, sameE_self, eq_self, and_self, pb_tt, bne_self_eq_false, beq_self_eq_true, Bool.and_self, Bool.not_true, Bool.not_false, Bool.and_true, Bool.false_eq_true, reduceIte]
        exact ⟨_, rfl, StLe.less (Nat.le_refl 6) (fun t => .inr (.inl rfl)) (fun b => by rcases b with _ | _ | _ | _ | _ | _ | b <;> exact .inl rfl), hI2⟩
    · have c16 : decide (((min (x i).n 7 : Nat) : Int) > 0) = false := decide_eq_false (by omega)
      have et : tblOf (x i) = fun j => entR ((x i).x j) := by simp only [tblOf, bumpB, decide_eq_false hb0, Bool.false_and, cond_false]
      rw [et] at hI2 ⊢
      simp only [c16, VPre_ok, m0, m1, p1, p2, n0, hn, bn, f1, f4, f5, h3, IntE_ok, sameE_self, eq_self, and_self, pb_tt, bne_self_eq_false, beq_self_eq_true, Bool.and_self, Bool.not_true, Bool.not_false, Bool.and_true, Bool.false_eq_true, reduceIte]
      exact ⟨_, rfl, StLe.less (Nat.le_refl 6) (fun t => .inr (.inl rfl)) (fun b => by rcases b with _ | _ | _ | _ | _ | _ | b <;> exact .inl rfl), hI2⟩
  · have es : step13 n m (v, now) (x i) = (tick1 n m v (nowOf now (x i).what) ((x i).load % 30) (x i).drain, nowOf now (x i).what) := by
      simp only [step13, hw, cond_true]
    rw [es] at hI2 ⊢
    simp only [VPre_ok, m0, m1, p1, p2, n0, hn, bn, f1, f5, h3, IntE_ok, sameE_self, eq_self, and_self, pb_tt, bne_self_eq_false, beq_self_eq_true, Bool.and_self, Bool.not_true, Bool.not_false, Bool.and_true, Bool.false_eq_true, reduceIte]
    exact ⟨_, rfl, StLe.less (Nat.le_refl 6) (fun t => .inr (.inl rfl)) (fun b => by rcases b with _ | _ | _ | _ | _ | _ | b <;> exact .inl rfl), hI2⟩
theorem end_vt (nl : Bool) (k : Nat) (x : Nat → Raw13) (n : Nat) (m : Nat) (me0 : Int) (hm : m < n) (hn : n ≤ 5) (hnl : nl = true → k = 0) (hk : (k : Int) ≤ 9223372036854775807) (hx : ∀ i, i < k → LnOk (x i).nl (x i).n) (a : V × Int) (hI : (fun (i : Nat) (a : V × Int) => (VInv n m a.1 : Prop)) (k) a) : ∃ s, (tgt_vt nl k x n m me0 (k) a).res = some (.exit 0, s) ∧ StLe 6 s (⟨[(0, .v (AI me0)), (9, .v (AP 0)), (10, .v (AP 3))], hvr n m a.1, 6, false, 0, []⟩) := by
  refine T.over_exP (g := fun s => (.exit 0, s)) (tree_vt nl k x n m me0 (k) a) ?_
  simp only [T.res_br, T.res_ret, T.res_bad, decide_eq_true_eq, Int.lt_irrefl, reduceIte]
  exact ⟨_, rfl, StLe.less (Nat.le_refl 6) (fun t => .inr (.inl rfl)) (fun b => by rcases b with _ | _ | _ | _ | _ | _ | b <;> exact .inl rfl)⟩
theorem loop_vt (nl : Bool) (k : Nat) (x : Nat → Raw13) (n : Nat) (m : Nat) (me0 : Int) (hm : m < n) (hn : n ≤ 5) (hnl : nl = true → k = 0) (hk : (k : Int) ≤ 9223372036854775807) (hx : ∀ i, i < k → LnOk (x i).nl (x i).n) (i : Nat) (a : V × Int) (hi : i ≤ k) (hI : (fun (i : Nat) (a : V × Int) => (VInv n m a.1 : Prop)) i a) {st0 : St} (h0 : StLe 6 st0 (S_vt nl k x n m me0 i a)) (hnx : st0.nx = 6) :
    CodeOk Try.prog Try.f10.ntmps (.loop (loopOf Try.f10 10)) st0 (.exit 0) ((fun (a : V × Int) => ⟨[(0, .v (AI me0)), (9, .v (AP 0)), (10, .v (AP 3))], hvr n m a.1, 6, false, 0, []⟩) (foldF (fun (i : Nat) (a : V × Int) => (step13 n m a (x i))) (k - i) i a)) := by
  have := for_loop GOVF3 GKVF3 (K := 300) (F := 10) (N := Try.f10.ntmps) (c := loopOf Try.f10 10) (m := 6) (live := [44, 45, 46, 9, 10, 11, 0]) (after := [0, 9, 10]) (S_vt nl k x n m me0) (k) (fun (i : Nat) (a : V × Int) => .inl (step13 n m a (x i))) (fun (a : V × Int) => (.exit 0, ⟨[(0, .v (AI me0)), (9, .v (AP 0)), (10, .v (AP 3))], hvr n m a.1, 6, false, 0, []⟩)) (fun (i : Nat) (a : V × Int) => (VInv n m a.1 : Prop))
    (fun i a hi hI => by obtain ⟨s, h1, h2, h3⟩ := round_vt nl k x n m me0 hm hn hnl hk hx i a hi hI; exact ⟨_, s, h1, rfl, h2, h3⟩)
    (fun a hI => by obtain ⟨s, h1, h2⟩ := end_vt nl k x n m me0 hm hn hnl hk hx a hI; exact ⟨_, s, h1, by simp, rfl, h2⟩)
    (fun i a => by first | exact Nat.le_refl _ | (show 6 ≤ _; decide) | (simp only [S_vt]; omega)) hi hI h0 hnx
  rw [foldX_inl] at this
  exact this
end Go.Proofs.Ytdoehlinboiohaa.En
