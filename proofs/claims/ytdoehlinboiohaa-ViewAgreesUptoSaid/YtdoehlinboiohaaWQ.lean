/- ViewAgrees, plainly. -/
import Derived.Test.YtdoehlinboiohaaWP
namespace Go.Proofs.Ytdoehlinboiohaa.En
open Go
set_option linter.unusedVariables false
set_option linter.unusedSimpArgs false
set_option maxRecDepth 20000
set_option maxHeartbeats 1000000
/-- small numbers, and no stamp that is far; c: how many ticks there were -/
def AInv (m : Nat) (c : Int) (v : V) : Prop := VInv 4 m v ∧ (0 ≤ (v.tb m).stamp ∧ (v.tb m).stamp ≤ c) ∧ ∀ j, 0 ≤ (v.tb j).inc ∧ (v.tb j).inc ≤ 4 ∧ (j ≠ m → (v.tb j).stamp < 1099511627776)
theorem tkT0_me {n m : Nat} {v : V} {now ld : Int} {dr : Bool} : tkT0 n m v now ld dr m = ownT v.tb m ld dr m := by
  unfold tkT0
  refine foldF_inv (tkT m now v.sp) (fun t => t m = ownT v.tb m ld dr m) (fun k t h => ?_) n 0 _ rfl
  unfold tkT
  cases hb : tickB m now v.sp t k
  · exact h
  · simp only [cond_true, updT_eq]
    split
    · rename_i e
      subst e
      simp [tickB] at hb
    · exact h
theorem tick_at {n m : Nat} {v : V} {now ld : Int} {dr : Bool} (h : VInv n m v) (j : Nat) : (j ≠ m → ∃ s, (tick1 n m v now ld dr).tb j = { v.tb j with st := s }) ∧ (j = m → (tick1 n m v now ld dr).tb j = ⟨(v.tb m).inc, (v.tb m).st, IntKind.wrap .i64 ((v.tb m).stamp + 1), ld, dr⟩) := by
  have hT := (tkT0_at (n := n) (m := m) (v := v) (now := now) (ld := ld) (dr := dr) j).1
  have hM := tkT0_me (n := n) (m := m) (v := v) (now := now) (ld := ld) (dr := dr)
  have hT' : j ≠ m → ∃ s, tkT0 n m v now ld dr j = { v.tb j with st := s } := fun hj => by
    rcases hT hj with e | ⟨_, e⟩
    · exact ⟨(v.tb j).st, e⟩
    · exact ⟨2, e⟩
  have hM' : j = m → tkT0 n m v now ld dr j = ⟨(v.tb m).inc, (v.tb m).st, IntKind.wrap .i64 ((v.tb m).stamp + 1), ld, dr⟩ := fun e => by
    subst e
    rw [hM]
    simp only [ownT, updT_eq, if_true]
  clear hT hM
  unfold tick1 tickY
  generalize tkT0 n m v now ld dr = T at hT' hM'
  simp only
  cases hD : tkD v.pr v.si now
  · exact ⟨hT', hM'⟩
  · cases hS : tkS T v.pr
    · exact ⟨hT', hM'⟩
    · simp only [tkD, decide_eq_true_eq] at hD
      simp only [Bool.and_self, cond_true, updT_eq]
      have hp : v.pr.toNat ≠ m := by
        rcases h.2.1 with h2 | h2
        · exact absurd h2 hD.1
        · omega
      by_cases e : j = v.pr.toNat
      · subst e
        simp only [if_true]
        refine ⟨fun hj => ?_, fun hj => absurd hj hp⟩
        obtain ⟨s, hs⟩ := hT' hj
        exact ⟨1, by rw [hs]⟩
      · simp only [if_neg e]
        exact ⟨hT', hM'⟩
theorem tick_AInv {m : Nat} {c : Int} {v : V} {now ld : Int} {dr : Bool} (hm : m < 4) (hc : c < 1099511627776) (h : AInv m c v) : AInv m (c + 1) (tick1 4 m v now ld dr) := by
  obtain ⟨h1, h2, h3⟩ := h
  have hA := fun j => tick_at (now := now) (ld := ld) (dr := dr) h1 j
  refine ⟨tick_inv hm (by decide) h1, ?_, fun j => ?_⟩
  · rw [(hA m).2 rfl]
    simp only
    rw [wrapI (by omega)]
    omega
  · by_cases e : j = m
    · rw [(hA j).2 e]
      have := h3 m
      simp only
      omega
    · obtain ⟨s, hs⟩ := (hA j).1 e
      have := h3 j
      rw [hs]
      exact this
theorem heard_AInv {m : Nat} {c : Int} {v : V} {now fr : Int} {ack : Bool} {x : Nat → Ent} {N : Nat} (hN : N ≤ 4) (hx : ∀ i, SmallE (x i)) (h : AInv m c v) : AInv m c (heard1 4 m v now fr ack x N) := by
  obtain ⟨h1, h2, h3⟩ := h
  have hA : ∀ j, (heard1 4 m v now fr ack x N).tb j = if 0 ≤ j ∧ j < 0 + N then hdE m j (v.tb j) (x j) else v.tb j := fun j => hdR_tb N 0 ⟨v.sp, v.tb, 0⟩ (by omega) j
  have hE : ∀ j, (0 ≤ ((heard1 4 m v now fr ack x N).tb j).inc ∧ ((heard1 4 m v now fr ack x N).tb j).inc ≤ 4) ∧ (j ≠ m → ((heard1 4 m v now fr ack x N).tb j).stamp < 1099511627776) ∧ (j = m → ((heard1 4 m v now fr ack x N).tb j).stamp = (v.tb j).stamp) := fun j => by
    have k3 := h3 j
    have hs := hx j
    unfold SmallE at hs
    rw [hA j]
    split
    · unfold hdE
      cases hF : farE (v.tb j) (x j)
      · simp only [cond_false]
        split
        · rename_i e
          simp only
          rw [wrapI (by omega)]
          exact ⟨by omega, fun h => absurd e h, fun _ => trivial⟩
        · rename_i e
          unfold farE at hF
          simp only [Bool.or_eq_false_iff, decide_eq_false_iff_not] at hF
          exact ⟨by omega, fun _ => by omega, fun h => absurd h e⟩
      · simp only [cond_true]
        exact ⟨⟨k3.1, k3.2.1⟩, k3.2.2, fun _ => trivial⟩
    · exact ⟨⟨k3.1, k3.2.1⟩, k3.2.2, fun _ => rfl⟩
  refine ⟨heard_inv h1, ?_, fun j => ⟨(hE j).1.1, (hE j).1.2, (hE j).2.1⟩⟩
  rw [(hE m).2.2 rfl]
  exact h2
def stepG (m : Nat) (a : V × Int) (r : Raw13) : V × Int :=
  bif r.what % (4 : Int) == (0 : Int) then (tick1 4 m a.1 (IntKind.wrap .i64 (a.2 + 1)) (r.load % 30) r.drain, IntKind.wrap .i64 (a.2 + 1))
  else (heard1 4 m a.1 a.2 (r.from' % (4 : Int)) r.ack (fun j => entR (r.x j)) (min r.n 4), a.2)
theorem stepG_inv {m : Nat} {a : V × Int} {r : Raw13} {i : Nat} (hm : m < 4) (hi : i ≤ 1048576) (h : AInv m i a.1) : AInv m ((i + 1 : Nat) : Int) (stepG m a r).1 := by
  unfold stepG
  cases r.what % (4 : Int) == (0 : Int)
  · have := heard_AInv (now := a.2) (fr := r.from' % (4 : Int)) (ack := r.ack) (x := fun j => entR (r.x j)) (N := min r.n 4) (by omega) (fun j => entR_small _) h
    obtain ⟨h1, h2, h3⟩ := this
    exact ⟨h1, ⟨h2.1, Int.le_trans h2.2 (by omega)⟩, h3⟩
  · exact tick_AInv hm (by omega) h
def exch (a : V × V) : V × V :=
  (heard1 4 0 a.1 50 1 true (heard1 4 1 a.2 50 0 false a.1.tb 4).tb 4, heard1 4 1 a.2 50 0 false a.1.tb 4)
/-- they know the same, but for what the first one says of itself, which is above that -/
def Near (a : V × V) : Prop := (∀ j, j < 4 → j ≠ 0 → a.1.tb j = a.2.tb j) ∧ (a.1.tb 0 = a.2.tb 0 ∨ (lessB (a.2.tb 0) (a.1.tb 0) = true ∧ (a.1.tb 0).inc < 1099511627776 ∧ (a.1.tb 0).stamp < 1099511627776))
def Alike (a : V × V) : Prop := ∀ j, j < 4 → a.1.tb j = a.2.tb j
theorem farE_eq {e y : Ent} (h1 : y.inc < 1099511627776) (h2 : y.stamp < 1099511627776) : farE e y = !(lessB e y) := by
  unfold farE
  rw [decide_eq_false (by omega), decide_eq_false (by omega)]
  rfl
theorem farE_self (e : Ent) : farE e e = true := by
  unfold farE
  rw [less_irr]
  simp
theorem heard_at {m : Nat} {v : V} {now fr : Int} {ack : Bool} {x : Nat → Ent} {j : Nat} (hj : j < 4) : (heard1 4 m v now fr ack x 4).tb j = hdE m j (v.tb j) (x j) := by
  have := hdR_tb (n := 4) (m := m) (now := now) (x := x) 4 0 ⟨v.sp, v.tb, 0⟩ (by omega) j
  rw [if_pos (by omega)] at this
  exact this
theorem hdE_self (m j : Nat) (e : Ent) : hdE m j e e = e := by
  unfold hdE
  rw [farE_self]
  rfl
theorem less_or {a b : Ent} : lessB a b = true ∨ lessB b a = true ∨ a = b := by
  rcases less_tri a b with ⟨h, _, _⟩ | ⟨_, h, _⟩ | ⟨_, _, h⟩
  · exact .inl h
  · exact .inr (.inl h)
  · exact .inr (.inr ((eqE_iff a b).1 h))
/-- of another host: the greater one -/
theorem hdE_max {m j : Nat} {e y : Ent} (hj : j ≠ m) (h1 : y.inc < 1099511627776) (h2 : y.stamp < 1099511627776) : hdE m j e y = bif lessB e y then y else e := by
  unfold hdE
  rw [farE_eq h1 h2, if_neg hj]
  cases lessB e y <;> rfl
theorem hdE_own {m : Nat} {e y : Ent} (h1 : y.inc < 1099511627776) (h2 : y.stamp < 1099511627776) : hdE m m e y = bif lessB e y then ⟨IntKind.wrap .i64 (y.inc + 1), 0, e.stamp, e.load, e.dr⟩ else e := by
  unfold hdE
  rw [farE_eq h1 h2, if_pos rfl]
  cases lessB e y <;> rfl
theorem less_asym {a b : Ent} (h : lessB a b = true) : lessB b a = false := by
  rcases less_tri a b with ⟨_, h2, _⟩ | ⟨h2, _, _⟩ | ⟨h2, _, _⟩
  · exact h2
  · rw [h] at h2; cases h2
  · rw [h] at h2; cases h2
theorem less_inc {a b : Ent} (h : a.inc < b.inc) : lessB a b = true := (lessP a b).2 (.inl h)
theorem exch_near {u v : V} {c d : Int} (hc : c < 1099511627776) (hd : d < 1099511627776) (hu : AInv 0 c u) (hv : AInv 1 d v) : Near (exch (u, v)) := by
  obtain ⟨_, u2, u3⟩ := hu
  obtain ⟨_, v2, v3⟩ := hv
  have su : ∀ j, (u.tb j).stamp < 1099511627776 := fun j => by
    by_cases e : j = 0
    · subst e; omega
    · exact (u3 j).2.2 e
  have sv : ∀ j, (v.tb j).stamp < 1099511627776 := fun j => by
    by_cases e : j = 1
    · subst e; omega
    · exact (v3 j).2.2 e
  have iu : ∀ j, (u.tb j).inc < 1099511627776 := fun j => by have := u3 j; omega
  have iv : ∀ j, (v.tb j).inc < 1099511627776 := fun j => by have := v3 j; omega
  have e1 : ∀ j, j < 4 → (exch (u, v)).2.tb j = hdE 1 j (v.tb j) (u.tb j) := fun j hj => heard_at hj
  have e2 : ∀ j, j < 4 → (exch (u, v)).1.tb j = hdE 0 j (u.tb j) (hdE 1 j (v.tb j) (u.tb j)) := fun j hj => by
    have : (exch (u, v)).1.tb j = hdE 0 j (u.tb j) ((exch (u, v)).2.tb j) := heard_at hj
    rw [this, e1 j hj]
  refine ⟨fun j hj h0 => ?_, ?_⟩
  · rw [e1 j hj, e2 j hj]
    by_cases h1 : j = 1
    · subst h1
      rw [hdE_own (iu 1) (su 1)]
      cases hl : lessB (v.tb 1) (u.tb 1)
      · simp only [cond_false]
        rw [hdE_max (by decide) (iv 1) (sv 1)]
        rcases less_or (a := v.tb 1) (b := u.tb 1) with h | h | h
        · rw [h] at hl; cases hl
        · rw [h]; rfl
        · rw [h, less_irr]; rfl
      · simp only [cond_true]
        have hi := u3 1
        rw [wrapI (by omega)]
        rw [hdE_max (by decide) (by simp only; omega) (by simp only; exact sv 1), less_inc (by simp only; omega)]
        rfl
    · rw [hdE_max (m := 1) h1 (iu j) (su j)]
      cases hl : lessB (v.tb j) (u.tb j)
      · simp only [cond_false]
        rw [hdE_max (by omega) (iv j) (sv j)]
        rcases less_or (a := v.tb j) (b := u.tb j) with h | h | h
        · rw [h] at hl; cases hl
        · rw [h]; rfl
        · rw [h, less_irr]; rfl
      · simp only [cond_true]
        exact hdE_self _ _ _
  · rw [e1 0 (by decide), e2 0 (by decide), hdE_max (m := 1) (by decide) (iu 0) (su 0)]
    cases hl : lessB (v.tb 0) (u.tb 0)
    · simp only [cond_false]
      rw [hdE_own (iv 0) (sv 0)]
      rcases less_or (a := v.tb 0) (b := u.tb 0) with h | h | h
      · rw [h] at hl; cases hl
      · rw [h]
        right
        have hi := v3 0
        simp only [cond_true]
        rw [wrapI (by omega)]
        exact ⟨less_inc (by simp only; omega), by omega, su 0⟩
      · rw [h, less_irr]; exact .inl rfl
    · simp only [cond_true]
      exact .inl (hdE_self _ _ _)
theorem exch_alike {a : V × V} (h : Near a) : Alike (exch a) := by
  obtain ⟨u, v⟩ := a
  obtain ⟨h1, h2⟩ := h
  have e1 : ∀ j, j < 4 → (exch (u, v)).2.tb j = hdE 1 j (v.tb j) (u.tb j) := fun j hj => heard_at hj
  have e2 : ∀ j, j < 4 → (exch (u, v)).1.tb j = hdE 0 j (u.tb j) ((exch (u, v)).2.tb j) := fun j hj => heard_at hj
  have e3 : ∀ j, j < 4 → (exch (u, v)).2.tb j = u.tb j := fun j hj => by
    rw [e1 j hj]
    by_cases e : j = 0
    · subst e
      rcases h2 with h | ⟨h, hi, hs⟩
      · simp only at h
        rw [h]; exact hdE_self _ _ _
      · simp only at h hi hs
        rw [hdE_max (by decide) hi hs, h]; rfl
    · have := h1 j hj e
      simp only at this
      rw [this]; exact hdE_self _ _ _
  intro j hj
  rw [e2 j hj, e3 j hj]
  exact hdE_self _ _ _
theorem alike_near {a : V × V} (h : Alike a) : Near a := ⟨fun j hj _ => h j hj, .inl (h 0 (by decide))⟩
theorem agrees {u v : V} {c d : Int} (hc : c < 1099511627776) (hd : d < 1099511627776) (hu : AInv 0 c u) (hv : AInv 1 d v) : Alike (exch (exch (exch (u, v)))) :=
  exch_alike (alike_near (exch_alike (exch_near hc hd hu hv)))
theorem exch_st {a : V × V} (h1 : VInv 4 0 a.1) (h2 : VInv 4 1 a.2) : VInv 4 0 (exch a).1 ∧ VInv 4 1 (exch a).2 := ⟨heard_inv h1, heard_inv h2⟩

end Go.Proofs.Ytdoehlinboiohaa.En
