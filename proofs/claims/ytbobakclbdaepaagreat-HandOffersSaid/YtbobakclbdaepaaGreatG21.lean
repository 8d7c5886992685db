/- Texts put together: RO, RP, RQ, DA. -/
import Derived.Test.YtbobakclbdaepaaGreatG20
/- The reference: who is free; has; the inner loop. -/
namespace Go.Proofs.YtbobakclbdaepaaGreat.En
open Go
set_option linter.unusedVariables false
set_option linter.unusedSimpArgs false
set_option maxRecDepth 20000
set_option maxHeartbeats 1000000
def S_fr (nl : Bool) (n : Nat) (x : Nat → Ent) (me : Int) (i : Nat) (a : Nat × (Nat → Int)) : St :=
  ⟨[(0, .v (AI me)), (1, .v (.one (.f (.fs nl 5 n (entE x))))), (5, .v (.one (.sl (Nat.beq a.1 0) 0 1 0 0 a.1 a.1 false 1))), (6, .v (AI i))], [(0, .arr (!(Nat.beq a.1 0)) 1 a.1 (intE a.2))], 1, false, 0, []⟩
def S_hs (nl : Bool) (n : Nat) (y : Nat → Int) (k : Int) (i : Nat) (a : Unit) : St := ⟨[(0, .v (.one (.f (.fs nl 1 n (intE y))))), (1, .v (AI k)), (5, .v (AI i))], [], 0, false, 0, []⟩
def S_in (nl : Bool) (n : Nat) (x : Nat → Ent) (c N cap : Nat) (k p0 p1 p2 ld : Int) (p4 : Bool) (me : Int) (nn : Bool) (dd : Nat) (w : Nat → Int) (r : Nat) (y : Nat → Int) : St :=
  ⟨[(0, .v (AI me)), (1, .v (.one (.f (.fs nl 5 n (entE x))))), (7, .v (.one (.f (.fs nn 1 dd (intE w))))), (8, .v (.one (.sl false 0 1 0 0 (c + 1) cap false 1))), (9, .v (AI k)), (10, .v (AP 1)), (11, .v (AI (c - r : Nat)))], [(0, .arr true 1 N (intE y)), (1, .cells [I p0, I p1, I p2, I ld, Bo p4])], 2, false, 0, []⟩

/-- is it one of them -/
def hasP (y : Nat → Int) (n : Nat) (k : Int) : Prop := ∃ j, j < n ∧ y j = k
noncomputable def hasB (y : Nat → Int) (n : Nat) (k : Int) : Bool := pb (hasP y n k)
abbrev HR0 : Ex × St := (.ret, ⟨[(4, .v (AB true))], [], 0, false, 0, []⟩)
abbrev HR1 : Ex × St := (.exit 0, ⟨[], [], 0, false, 0, []⟩)

/-- one is put where it belongs, by the reference -/
def insK (x : Nat → Ent) (ld k : Int) (c : Nat) : Nat → Nat → (Nat → Int) → (Nat → Int)
  | 0, _, y => y
  | f + 1, r, y => match decide (ldI x (y (c - r - 1)) > ld) with | true => insK x ld k c f (r + 1) (fun p => bif Nat.beq p (c - r - 1) then k else bif Nat.beq p (c - r) then y (c - r - 1) else y p) | false => y
def E_in (nl : Bool) (n : Nat) (x : Nat → Ent) (c N cap : Nat) (k p0 p1 p2 ld : Int) (p4 : Bool) (me : Int) (nn : Bool) (dd : Nat) (w : Nat → Int) (y : Nat → Int) : St :=
  ⟨[(0, .v (AI me)), (1, .v (.one (.f (.fs nl 5 n (entE x))))), (7, .v (.one (.f (.fs nn 1 dd (intE w))))), (8, .v (.one (.sl false 0 1 0 0 (c + 1) cap false 1))), (9, .v (AI k)), (10, .v (AP 1))], [(0, .arr true 1 N (intE y)), (1, .cells [I p0, I p1, I p2, I ld, Bo p4])], 2, false, 0, []⟩
def inF (nl : Bool) (n : Nat) (x : Nat → Ent) (c N cap : Nat) (k p0 p1 p2 ld : Int) (p4 : Bool) (me : Int) (nn : Bool) (dd : Nat) (w : Nat → Int) (r : Nat) (y : Nat → Int) : (Nat → Int) ⊕ (Ex × St) := match decide (ldI x (y (c - r - 1)) > ld) with | true => .inl (fun p => bif Nat.beq p (c - r - 1) then k else bif Nat.beq p (c - r) then y (c - r - 1) else y p) | false => .inr (.exit 4, E_in nl n x c N cap k p0 p1 p2 ld p4 me nn dd w y)
theorem foldX_in (nl : Bool) (n : Nat) (x : Nat → Ent) (c N cap : Nat) (k p0 p1 p2 ld : Int) (p4 : Bool) (me : Int) (nn : Bool) (dd : Nat) (w : Nat → Int) : ∀ (f r : Nat) (y : Nat → Int), foldX (inF nl n x c N cap k p0 p1 p2 ld p4 me nn dd w) (fun y => ((Ex.exit 4, E_in nl n x c N cap k p0 p1 p2 ld p4 me nn dd w y) : Ex × St)) f r y = (.exit 4, E_in nl n x c N cap k p0 p1 p2 ld p4 me nn dd w (insK x ld k c f r y))
  | 0, _, _ => rfl
  | f + 1, r, y => by
    simp only [foldX, inF, insK]
    cases decide (ldI x (y (c - r - 1)) > ld)
    · rfl
    · exact foldX_in nl n x c N cap k p0 p1 p2 ld p4 me nn dd w f (r + 1) _

end Go.Proofs.YtbobakclbdaepaaGreat.En
/- The reference: Targets is known. -/
namespace Go.Proofs.YtbobakclbdaepaaGreat.En
open Go
set_option linter.unusedVariables false
set_option linter.unusedSimpArgs false
set_option maxRecDepth 20000
set_option maxHeartbeats 1000000
def S_ot (me : Int) (nl : Bool) (n : Nat) (x : Nat → Ent) (nn : Bool) (d : Nat) (y : Nat → Int) (i : Nat) (a : Nat × (Nat → Int)) : St :=
  ⟨[(0, .v (AI me)), (1, .v (.one (.f (.fs nl 5 n (entE x))))), (7, .v (.one (.f (.fs nn 1 d (intE y))))), (8, .v (.one (.sl (Nat.beq a.1 0) 0 1 0 0 a.1 a.1 false 1))), (9, .v (AI i))], [(0, .arr (!(Nat.beq a.1 0)) 1 a.1 (intE a.2))], 1, false, 0, []⟩

/-- one more behind a row -/
def appI (y : Nat → Int) (c : Nat) (k : Int) : Nat → Int := fun j => bif Nat.ble (j + 1) c then y j else k
theorem app_row (y : Nat → Int) (c : Nat) (k : Int) : (fun j => iteL (Nat.ble (j + 1) c) (intE y (0 + j)) (selL (chunks 1 1 [FV.lit (Value.int IntKind.i64 k)]) (j - c))) = intE (appI y c k) := funext fun j => by
  show [FV.lit (Value.int IntKind.i64 (bif Nat.ble (j + 1) c then y (0 + j) else k))] = _
  rw [Nat.zero_add]
  rfl
/-- is it a target, by the reference -/
noncomputable def toB (me : Int) (x : Nat → Ent) (d : Nat) (y : Nat → Int) (i : Nat) : Bool := !((i : Int) == me) && (!((x i).st == 2) && (!(x i).dr && ((x me.toNat).dr || hasB y d i)))
noncomputable def toF (me : Int) (x : Nat → Ent) (d : Nat) (y : Nat → Int) (i : Nat) (a : Nat × (Nat → Int)) : Nat × (Nat → Int) := match toB me x d y i with | true => (a.1 + 1, insK x (x i).load i a.1 a.1 0 (appI a.2 a.1 i)) | false => a
theorem appI_in {y : Nat → Int} {c n : Nat} {k : Int} (h : InI y c n) (hk : 0 ≤ k ∧ k < (n : Int)) : InI (appI y c k) (c + 1) n := fun j hj => by
  unfold appI
  cases hb : Nat.ble (j + 1) c
  · exact hk
  · exact h j (by have := Nat.le_of_ble_eq_true hb; omega)
theorem insK_in (x : Nat → Ent) {ld k : Int} {c n : Nat} (hk : 0 ≤ k ∧ k < (n : Int)) : ∀ (f r : Nat) (y : Nat → Int), InI y (c + 1) n → InI (insK x ld k c f r y) (c + 1) n
  | 0, _, _, h => h
  | f + 1, r, y, h => by
    simp only [insK]
    cases decide (ldI x (y (c - r - 1)) > ld)
    · exact h
    · refine insK_in x hk f (r + 1) _ fun p hp => ?_
      cases Nat.beq p (c - r - 1)
      · cases Nat.beq p (c - r)
        · exact h p hp
        · exact h _ (by omega)
      · exact hk

/-- the reference's answer -/
noncomputable def toA (me : Int) (x : Nat → Ent) (n d : Nat) (y : Nat → Int) : Nat × (Nat → Int) := foldF (toF me x d y) n 0 (0, fun _ => 0)

end Go.Proofs.YtbobakclbdaepaaGreat.En
/- Both Targets tell the same. -/
namespace Go.Proofs.YtbobakclbdaepaaGreat.En
open Go
set_option linter.unusedVariables false
set_option linter.unusedSimpArgs false
set_option maxRecDepth 20000
set_option maxHeartbeats 1000000
def filF (p : Nat → Bool) (i : Nat) (a : Nat × (Nat → Int)) : Nat × (Nat → Int) := match p i with | true => (a.1 + 1, appI a.2 a.1 i) | false => a
def filA (p : Nat → Bool) (n : Nat) : Nat × (Nat → Int) := foldF (filF p) n 0 (0, fun _ => 0)
def insStep (x : Nat → Ent) (p : Nat → Bool) (i : Nat) (a : Nat × (Nat → Int)) : Nat × (Nat → Int) := match p i with | true => (a.1 + 1, insK x (x i).load i a.1 a.1 0 (appI a.2 a.1 i)) | false => a
theorem filA_succ (p : Nat → Bool) (n : Nat) : filA p (n + 1) = filF p n (filA p n) := by
  have := foldF_succ (filF p) n 0 (0, fun _ => 0)
  rwa [Nat.zero_add] at this
theorem tgA_fil (me : Int) (x : Nat → Ent) (n : Nat) : tgA me x n = filA (tgB me x) n := rfl
def Agree (c : Nat) (y z : Nat → Int) : Prop := ∀ j, j < c → y j = z j
theorem insG_congr (x : Nat → Ent) {i c : Nat} (hi : i < c) : ∀ (f r : Nat) (y z : Nat → Int), Agree c y z → Agree c (insG x i f r y) (insG x i f r z)
  | 0, _, _, _, h => h
  | f + 1, r, y, z, h => by
    simp only [insG]
    rw [h (i - r) (by omega), h (i - r - 1) (by omega)]
    cases lessI x (z (i - r)) (z (i - r - 1))
    · exact h
    · refine insG_congr x hi f (r + 1) _ _ fun j hj => ?_
      unfold swI
      rw [h (i - r) (by omega), h (i - r - 1) (by omega), h j hj]
theorem insG_out (x : Nat → Ent) {i : Nat} : ∀ (f r : Nat) (y : Nat → Int) (j : Nat), i < j → insG x i f r y j = y j
  | 0, _, _, _, _ => rfl
  | f + 1, r, y, j, hj => by
    simp only [insG]
    cases lessI x (y (i - r)) (y (i - r - 1))
    · rfl
    · refine (insG_out x f (r + 1) _ j hj).trans ?_
      unfold swI
      rw [beq_ff (show j ≠ i - r - 1 by omega), beq_ff (show j ≠ i - r by omega)]
      rfl
theorem insA_succ (x : Nat → Ent) (c : Nat) (y : Nat → Int) : insA x (c + 1) y = insG x c c 0 (insA x c y) := by
  cases c with
  | zero => rfl
  | succ c =>
    unfold insA
    have := foldF_succ (fun (i : Nat) (a : Nat → Int) => insG x (i + 1) (i + 1) 0 a) c 0 y
    simp only [Nat.zero_add] at this
    exact this
theorem insA_out (x : Nat → Ent) : ∀ (c : Nat) (y : Nat → Int) (j : Nat), c ≤ j → insA x c y j = y j
  | 0, _, _, _ => rfl
  | c + 1, y, j, h => by
    rw [insA_succ, insG_out x _ _ _ j (by omega)]
    exact insA_out x c y j (by omega)
theorem insA_congr (x : Nat → Ent) : ∀ (c : Nat) (y z : Nat → Int), Agree c y z → Agree c (insA x c y) (insA x c z)
  | 0, _, _, h => fun j hj => absurd hj (Nat.not_lt_zero j)
  | c + 1, y, z, h => by
    rw [insA_succ, insA_succ]
    refine insG_congr x (Nat.lt_succ_self c) _ _ _ _ fun j hj => ?_
    rcases Nat.lt_or_ge j c with h1 | h1
    · exact insA_congr x c y z (fun k hk => h k (by omega)) j h1
    · rw [insA_out x c y j h1, insA_out x c z j h1]; exact h j hj
theorem less_gt (x : Nat → Ent) (a b : Int) : lessI x a b = decide (ldI x b > ldI x a) := by
  unfold lessI
  rw [decide_eq_decide]
  unfold cmpI
  split
  · omega
  · split <;> omega
theorem insK_eq (x : Nat → Ent) (k : Int) (c : Nat) : ∀ (f r : Nat) (z : Nat → Int), z (c - r) = k → insG x c f r z = insK x (ldI x k) k c f r z
  | 0, _, _, _ => rfl
  | f + 1, r, z, h => by
    simp only [insG, insK]
    rw [less_gt, h]
    cases decide (ldI x (z (c - r - 1)) > ldI x k)
    · rfl
    · have e : swI z (c - r) = fun p => bif Nat.beq p (c - r - 1) then k else bif Nat.beq p (c - r) then z (c - r - 1) else z p := by
        funext p
        unfold swI
        rw [h]
      dsimp only
      rw [e]
      refine insK_eq x k c f (r + 1) _ ?_
      rw [show c - (r + 1) = c - r - 1 by omega, Nat.beq_refl]
      rfl
theorem ldI_nat (x : Nat → Ent) (i : Nat) : ldI x (i : Int) = (x i).load := by
  unfold ldI
  rw [Int.toNat_natCast]
/-- one after another, or all of them at once -/
theorem ins_fil (x : Nat → Ent) (p : Nat → Bool) : ∀ (n : Nat), (foldF (insStep x p) n 0 (0, fun _ => 0)).1 = (filA p n).1 ∧ Agree (filA p n).1 (foldF (insStep x p) n 0 (0, fun _ => 0)).2 (insA x (filA p n).1 (filA p n).2)
  | 0 => ⟨rfl, fun j hj => absurd hj (Nat.not_lt_zero j)⟩
  | n + 1 => by
    have ih := ins_fil x p n
    have hs := foldF_succ (insStep x p) n 0 (0, fun _ => 0)
    rw [Nat.zero_add] at hs
    rw [hs, filA_succ]
    clear hs
    generalize foldF (insStep x p) n 0 (0, fun _ => 0) = t at ih ⊢
    generalize filA p n = r at ih ⊢
    obtain ⟨h1, h2⟩ := ih
    unfold insStep filF
    cases p n
    · exact ⟨h1, h2⟩
    · obtain ⟨c, y⟩ := t
      obtain ⟨d, z⟩ := r
      dsimp only at h1 h2 ⊢
      subst h1
      refine ⟨rfl, fun j hj => ?_⟩
      have e : appI y c n (c - 0) = (n : Int) := by
        unfold appI
        rw [ble_false (by omega)]; rfl
      rw [← ldI_nat, ← insK_eq x n c c 0 _ e, insA_succ]
      refine insG_congr x (Nat.lt_succ_self c) _ _ _ _ (fun j hj => ?_) j hj
      rcases Nat.lt_or_ge j c with h3 | h3
      · have e1 : appI y c n j = y j := by unfold appI; rw [ble_tt (by omega)]; rfl
        rw [e1, h2 j h3]
        exact insA_congr x c _ _ (fun k hk => by unfold appI; rw [ble_tt (by omega)]; rfl) j h3
      · rw [insA_out x c _ j h3]
        unfold appI
        rw [ble_false (by omega)]; rfl
/-- what a row of indexes holds -/
theorem fil_ok (p : Nat → Bool) : ∀ n, (∀ v : Int, (∃ j, j < (filA p n).1 ∧ (filA p n).2 j = v) ↔ ∃ i : Nat, i < n ∧ p i = true ∧ (i : Int) = v) ∧ (∀ j k, j < k → k < (filA p n).1 → (filA p n).2 j < (filA p n).2 k)
  | 0 => ⟨fun v => ⟨fun ⟨j, hj, _⟩ => absurd hj (Nat.not_lt_zero j), fun ⟨j, hj, _⟩ => absurd hj (Nat.not_lt_zero j)⟩, fun j k _ hk => absurd hk (Nat.not_lt_zero k)⟩
  | n + 1 => by
    have ih := fil_ok p n
    rw [filA_succ]
    generalize filA p n = r at ih ⊢
    obtain ⟨c, y⟩ := r
    unfold filF
    obtain ⟨h1, h2⟩ := ih
    dsimp only at h1 h2
    cases hp : p n
    · refine ⟨fun v => (h1 v).trans ⟨fun ⟨i, a, b, e⟩ => ⟨i, by omega, b, e⟩, fun ⟨i, a, b, e⟩ => ⟨i, ?_, b, e⟩⟩, h2⟩
      rcases Nat.lt_or_ge i n with h | h
      · exact h
      · obtain rfl : i = n := by omega
        rw [hp] at b; cases b
    · dsimp only
      have a1 : ∀ j, j < c → appI y c n j = y j := fun j hj => by unfold appI; rw [ble_tt (by omega)]; rfl
      have a2 : appI y c n c = n := by unfold appI; rw [ble_false (by omega)]; rfl
      refine ⟨fun v => ⟨fun ⟨j, a, e⟩ => ?_, fun ⟨i, a, b, e⟩ => ?_⟩, fun j k hjk hk => ?_⟩
      · rcases Nat.lt_or_ge j c with h | h
        · rw [a1 j h] at e
          obtain ⟨i, a, b, e⟩ := (h1 v).1 ⟨j, h, e⟩
          exact ⟨i, by omega, b, e⟩
        · obtain rfl : j = c := by omega
          rw [a2] at e
          exact ⟨n, by omega, hp, e⟩
      · rcases Nat.lt_or_ge i n with h | h
        · obtain ⟨j, g, e⟩ := (h1 v).2 ⟨i, h, b, e⟩
          exact ⟨j, by omega, by rw [a1 j g]; exact e⟩
        · obtain rfl : i = n := by omega
          exact ⟨c, by omega, by rw [a2]; exact e⟩
      · rw [a1 j (by omega)]
        rcases Nat.lt_or_ge k c with h | h
        · rw [a1 k h]; exact h2 j k hjk h
        · obtain rfl : k = c := by omega
          rw [a2]
          obtain ⟨i, a, _, e⟩ := (h1 _).1 ⟨j, hjk, rfl⟩
          omega
/-- rows that rise, and hold the same, are the same -/
theorem asc_uniq {c d : Nat} {f g : Nat → Int} (hf : ∀ j k, j < k → k < c → f j < f k) (hg : ∀ j k, j < k → k < d → g j < g k) (h : ∀ v : Int, (∃ j, j < c ∧ f j = v) ↔ ∃ j, j < d ∧ g j = v) : c = d ∧ Agree c f g := by
  have key : ∀ j, j < c → j < d → f j = g j := fun j => by
    induction j using Nat.strongRecOn with
    | _ j ih =>
      intro h1 h2
      rcases Int.lt_trichotomy (f j) (g j) with hlt | he | hgt
      · obtain ⟨k, hk, e⟩ := (h _).1 ⟨j, h1, rfl⟩
        rcases Nat.lt_or_ge k j with h3 | h3
        · have := ih k h3 (by omega) hk
          have := hf k j h3 h1
          omega
        · rcases Nat.lt_or_ge j k with h4 | h4
          · have := hg j k h4 hk; omega
          · obtain rfl : k = j := by omega
            omega
      · exact he
      · obtain ⟨k, hk, e⟩ := (h _).2 ⟨j, h2, rfl⟩
        rcases Nat.lt_or_ge k j with h3 | h3
        · have := ih k h3 hk (by omega)
          have := hg k j h3 h2
          omega
        · rcases Nat.lt_or_ge j k with h4 | h4
          · have := hf j k h4 hk; omega
          · obtain rfl : k = j := by omega
            omega
  have hcd : c = d := by
    rcases Nat.lt_trichotomy c d with hlt | he | hgt
    · obtain ⟨k, hk, e⟩ := (h _).2 ⟨c, hlt, rfl⟩
      have := key k hk (by omega)
      have := hg k c hk hlt
      omega
    · exact he
    · obtain ⟨k, hk, e⟩ := (h _).1 ⟨d, hgt, rfl⟩
      have := key k (by omega) hk
      have := hf k d hk hgt
      omega
  subst hcd
  exact ⟨rfl, fun j hj => key j hj hj⟩
/-- who is next hangs on the others alone -/
def SameBut (me : Int) (x : Nat → Int) (n : Nat) (y : Nat → Int) (m : Nat) : Prop := ∀ v : Int, v ≠ me → ((∃ j, j < n ∧ x j = v) ↔ ∃ j, j < m ∧ y j = v)
theorem SameBut.symm {me : Int} {x : Nat → Int} {n : Nat} {y : Nat → Int} {m : Nat} (h : SameBut me x n y m) : SameBut me y m x n := fun v hv => (h v hv).symm
theorem SameBut.least {me : Int} {x : Nat → Int} {n : Nat} {y : Nat → Int} {m : Nat} (h : SameBut me x n y m) {p : Int → Prop} (hp : ∀ v, p v → v ≠ me) {v : Int} (hl : LeastI p x n v) : LeastI p y m v := by
  obtain ⟨⟨j, h1, h2, rfl⟩, h4⟩ := hl
  refine ⟨?_, fun k hk hpk => ?_⟩
  · obtain ⟨k, hk, e⟩ := (h _ (hp _ h2)).1 ⟨j, h1, rfl⟩
    exact ⟨k, hk, by rw [e]; exact h2, e⟩
  · obtain ⟨i, hi, e⟩ := (h _ (hp _ hpk)).2 ⟨k, hk, rfl⟩
    have := h4 i hi (by rw [e]; exact hpk)
    omega
theorem SameBut.most {me : Int} {x : Nat → Int} {n : Nat} {y : Nat → Int} {m : Nat} (h : SameBut me x n y m) {p : Int → Prop} (hp : ∀ v, p v → v ≠ me) {v : Int} (hl : MostI p x n v) : MostI p y m v := by
  obtain ⟨⟨j, h1, h2, rfl⟩, h4⟩ := hl
  refine ⟨?_, fun k hk hpk => ?_⟩
  · obtain ⟨k, hk, e⟩ := (h _ (hp _ h2)).1 ⟨j, h1, rfl⟩
    exact ⟨k, hk, by rw [e]; exact h2, e⟩
  · obtain ⟨i, hi, e⟩ := (h _ (hp _ hpk)).2 ⟨k, hk, rfl⟩
    have := h4 i hi (by rw [e]; exact hpk)
    omega
theorem SameBut.none {me : Int} {x : Nat → Int} {n : Nat} {y : Nat → Int} {m : Nat} (h : SameBut me x n y m) {p : Int → Prop} (hp : ∀ v, p v → v ≠ me) (hl : ∀ j, j < n → ¬ p (x j)) : ∀ j, j < m → ¬ p (y j) := fun j hj hpj => by
  obtain ⟨i, hi, e⟩ := (h _ (hp _ hpj)).2 ⟨j, hj, rfl⟩
  exact hl i hi (by rw [e]; exact hpj)
theorem SameBut.isB {me : Int} {x : Nat → Int} {n : Nat} {y : Nat → Int} {m : Nat} (h : SameBut me x n y m) {v : Int} (hb : IsB me x n v) : IsB me y m v := by
  rcases hb with hb | ⟨hb, hc⟩
  · exact .inl (h.least (fun v hv => by omega) hb)
  · exact .inr ⟨h.none (p := fun v => me < v) (fun v hv => by omega) hb, h.least (fun v hv => hv) hc⟩
theorem SameBut.isA {me : Int} {x : Nat → Int} {n : Nat} {y : Nat → Int} {m : Nat} (h : SameBut me x n y m) {v : Int} (hb : IsA me x n v) : IsA me y m v := by
  rcases hb with hb | ⟨hb, hc⟩
  · exact .inl (h.most (fun v hv => by omega) hb)
  · exact .inr ⟨h.none (p := fun v => v < me) (fun v hv => by omega) hb, h.most (fun v hv => hv) hc⟩
theorem SameBut.nz {me : Int} {x : Nat → Int} {n : Nat} {y : Nat → Int} {m : Nat} (h : SameBut me x n y m) : nzL me x n = nzL me y m ∧ Agree (nzL me x n) (nzE me x n) (nzE me y m) := by
  by_cases h0 : nxD me x n = 0
  · have h1 : nxD me y m = 0 := (nxD_none me y m).2 fun j hj => by
      have := h.none (p := fun v => v ≠ me) (fun v hv => hv) (fun j hj hn => hn ((nxD_none me x n).1 h0 j hj)) j hj
      simpa using this
    exact ⟨by simp only [nzL, h0, h1, reduceIte], fun j hj => by simp only [nzL, h0, reduceIte] at hj; omega⟩
  · have h1 : nxD me y m ≠ 0 := fun h1 => h0 ((nxD_none me x n).2 fun j hj => by
      have := h.symm.none (p := fun v => v ≠ me) (fun v hv => hv) (fun j hj hn => hn ((nxD_none me y m).1 h1 j hj)) j hj
      simpa using this)
    have eb : nxB me x n = nxB me y m := IsB.uniq (h.isB (nxB_ok h0)) (nxB_ok h1)
    have ea : nxA me x n = nxA me y m := IsA.uniq (h.isA (nxA_ok h0)) (nxA_ok h1)
    refine ⟨by simp only [nzL, h0, h1, eb, ea], fun j hj => by simp only [nzE, eb, ea]⟩
theorem nz_asc (me : Int) (x : Nat → Int) (n : Nat) : ∀ j k, j < k → k < nzL me x n → nzE me x n j < nzE me x n k := fun j k hjk hk => by
  unfold nzL at hk
  split at hk
  · omega
  · split at hk
    · omega
    · obtain rfl : j = 0 := by omega
      obtain rfl : k = 1 := by omega
      show min (nxB me x n) (nxA me x n) < max (nxB me x n) (nxA me x n)
      omega
theorem nz_mem {me : Int} {x : Nat → Int} {n : Nat} {j : Nat} (hj : j < nzL me x n) : (∃ i, i < n ∧ x i = nzE me x n j) ∧ nzE me x n j ≠ me := by
  have h0 : nxD me x n ≠ 0 := fun h0 => by simp only [nzL, h0, reduceIte] at hj; omega
  have hb := (nxS_mem me x n (nxB me x n)).1 ⟨nxK me x n % nxD me x n, Nat.mod_lt _ (by omega), rfl⟩
  have ha := (nxS_mem me x n (nxA me x n)).1 ⟨(nxK me x n + nxD me x n - 1) % nxD me x n, Nat.mod_lt _ (by omega), rfl⟩
  have : nzE me x n j = nxB me x n ∨ nzE me x n j = nxA me x n := by
    unfold nzE
    cases Nat.beq j 0 <;> simp only [cond_true, cond_false] <;> omega
  rcases this with e | e <;> rw [e] <;> assumption

noncomputable abbrev rtA (me : Int) (x : Nat → Ent) (n : Nat) : Nat × (Nat → Int) := toA me x n (nzL me (tgA (-1) x n).2 (tgA (-1) x n).1) (nzE me (tgA (-1) x n).2 (tgA (-1) x n).1)
theorem tg_same (me : Int) (x : Nat → Ent) (n : Nat) : SameBut me (tgA (-1) x n).2 (tgA (-1) x n).1 (tgA me x n).2 (tgA me x n).1 := fun v hv => by
  rw [tgA_fil, tgA_fil]
  refine ((fil_ok _ n).1 v).trans (Iff.trans ?_ ((fil_ok _ n).1 v).symm)
  refine ⟨fun ⟨i, a, b, e⟩ => ⟨i, a, ?_, e⟩, fun ⟨i, a, b, e⟩ => ⟨i, a, ?_, e⟩⟩
  · unfold tgB at b ⊢
    simp only [Bool.and_eq_true, bne_iff_ne, ne_eq] at b ⊢
    exact ⟨⟨by omega, b.1.2⟩, b.2⟩
  · unfold tgB at b ⊢
    simp only [Bool.and_eq_true, bne_iff_ne, ne_eq] at b ⊢
    exact ⟨⟨by omega, b.1.2⟩, b.2⟩
theorem rt_ok (me : Int) (x : Nat → Ent) (n : Nat) (h : 0 ≤ me ∧ me < (n : Int)) : (rtA me x n).1 = tzL me x n ∧ Agree (tzL me x n) (rtA me x n).2 (tzE me x n) := by
  have hA : rtA me x n = foldF (insStep x (toB me x (nzL me (tgA (-1) x n).2 (tgA (-1) x n).1) (nzE me (tgA (-1) x n).2 (tgA (-1) x n).1))) n 0 (0, fun _ => 0) := rfl
  have hL : tzL me x n = (tgR me x n).1 := if_pos h
  have hE : tzE me x n = insA x (tgR me x n).1 (tgR me x n).2 := by unfold tzE; rw [hL]
  have h1 := (ins_fil x (toB me x (nzL me (tgA (-1) x n).2 (tgA (-1) x n).1) (nzE me (tgA (-1) x n).2 (tgA (-1) x n).1)) n).1
  have h2 := (ins_fil x (toB me x (nzL me (tgA (-1) x n).2 (tgA (-1) x n).1) (nzE me (tgA (-1) x n).2 (tgA (-1) x n).1)) n).2
  rw [← hA] at h1 h2
  suffices hs : (tgR me x n).1 = (filA (toB me x (nzL me (tgA (-1) x n).2 (tgA (-1) x n).1) (nzE me (tgA (-1) x n).2 (tgA (-1) x n).1)) n).1 ∧ Agree (tgR me x n).1 (tgR me x n).2 (filA (toB me x (nzL me (tgA (-1) x n).2 (tgA (-1) x n).1) (nzE me (tgA (-1) x n).2 (tgA (-1) x n).1)) n).2 by
    rw [hL, hE, h1]
    refine ⟨hs.1.symm, fun j hj => ?_⟩
    rw [h2 j (by rw [← hs.1]; exact hj), hs.1]
    exact (insA_congr x _ _ _ (by rw [← hs.1]; exact hs.2) j (by rw [← hs.1]; exact hj)).symm
  cases hd : (x me.toNat).dr with
  | true =>
    have e : toB me x (nzL me (tgA (-1) x n).2 (tgA (-1) x n).1) (nzE me (tgA (-1) x n).2 (tgA (-1) x n).1) = tgB me x := funext fun i => by
      unfold toB tgB
      rw [hd]
      simp only [Bool.true_or, Bool.and_true, bne, Bool.and_assoc]
    have e2 : tgR me x n = tgA me x n := by unfold tgR; rw [hd]
    rw [e, e2, tgA_fil]
    exact ⟨rfl, fun j hj => rfl⟩
  | false =>
    have e2 : tgR me x n = (nzL me (tgA me x n).2 (tgA me x n).1, nzE me (tgA me x n).2 (tgA me x n).1) := by unfold tgR; rw [hd]
    have hz := (tg_same me x n).nz
    rw [e2]
    have f := fil_ok (toB me x (nzL me (tgA (-1) x n).2 (tgA (-1) x n).1) (nzE me (tgA (-1) x n).2 (tgA (-1) x n).1)) n
    have u := asc_uniq (nz_asc me (tgA (-1) x n).2 (tgA (-1) x n).1) f.2 (fun v => by
      refine Iff.trans ?_ (f.1 v).symm
      refine ⟨fun ⟨j, hj, e⟩ => ?_, fun ⟨i, a, b, e⟩ => ?_⟩
      · obtain ⟨⟨k, hk, e3⟩, hne⟩ := nz_mem hj
        obtain ⟨i, a, b, e4⟩ := ((fil_ok (tgB (-1) x) n).1 v).1 ⟨k, hk, e3.trans e⟩
        refine ⟨i, a, ?_, e4⟩
        have hh : hasB (nzE me (tgA (-1) x n).2 (tgA (-1) x n).1) (nzL me (tgA (-1) x n).2 (tgA (-1) x n).1) i = true := pb_true ⟨j, hj, by rw [e4]; exact e⟩
        unfold toB
        unfold tgB at b
        rw [hh]
        have hi : (i : Int) ≠ me := by rw [e4, ← e]; exact hne
        simp only [Bool.and_eq_true, bne, Bool.not_eq_true', Bool.or_true, Bool.and_true, beq_eq_false_iff_ne] at b ⊢
        exact ⟨hi, b.1.2, b.2⟩
      · unfold toB at b
        rw [hd] at b
        simp only [Bool.and_eq_true, Bool.false_or] at b
        obtain ⟨j, hj, e5⟩ := pb_of b.2.2.2
        exact ⟨j, hj, e5.trans e⟩)
    refine ⟨hz.1.symm.trans u.1, fun j hj => ?_⟩
    rw [← hz.1] at hj
    exact (hz.2 j hj).symm.trans (u.2 j hj)

end Go.Proofs.YtbobakclbdaepaaGreat.En
/- Donor: Fits. -/
namespace Go.Proofs.YtbobakclbdaepaaGreat.En
open Go
set_option linter.unusedVariables false
set_option linter.unusedSimpArgs false
set_option maxRecDepth 20000
set_option maxHeartbeats 1000000
def wiI (n : Int) : Int := max 0 (min n 4611686018427387903)
def fitsB (w load own : Int) (drain : Bool) : Bool := drain || decide (wiI w < wiI load - wiI own)

noncomputable def GDA1 : Ctx := GS.with ss_Tgz ll_tg
noncomputable def tgt_Fits (w load own : Int) (drain : Bool) : T CallOut := evCallW [] GDA1 300 52 [AI w, AI load, AI own, AB drain] [] 0
theorem GKDA1 : KnownOk Tryz.prog GDA1 := KnownOk.lists ss_Tgz_ok ll_tg_ok
theorem GODA1 : CtxOk Tryz.prog GDA1 := GS_ok.with _ _
theorem tree_Fits (w load own : Int) (drain : Bool) : (tgt_Fits w load own drain).over (.br (.tt (.tt (.tt (.tt (.tt (.tt (.tt (.tt .leaf)))))))) (.ff (.ff (.ff (.ff (.ff (.ff (.ff (.ff .leaf))))))))) = T.br drain (T.ret (out0 (SV.v (AB true)))) (T.ret (out0 (SV.v (AB (decide ((if (if (4611686018427387903 : Int) < w then (4611686018427387903 : Int) else w) > (0 : Int) then if (4611686018427387903 : Int) < w then (4611686018427387903 : Int) else w else (0 : Int)) < IntKind.wrap IntKind.i64 ((if (if (4611686018427387903 : Int) < load then (4611686018427387903 : Int) else load) > (0 : Int) then if (4611686018427387903 : Int) < load then (4611686018427387903 : Int) else load else (0 : Int)) - if (if (4611686018427387903 : Int) < own then (4611686018427387903 : Int) else own) > (0 : Int) then if (4611686018427387903 : Int) < own then (4611686018427387903 : Int) else own else (0 : Int)))))))) := by kernel_rfl
theorem wi_a (n : Int) : (if (if (4611686018427387903 : Int) < n then (4611686018427387903 : Int) else n) > (0 : Int) then if (4611686018427387903 : Int) < n then (4611686018427387903 : Int) else n else (0 : Int)) = wiI n := by
  unfold wiI
  split <;> split <;> omega
theorem wi_b (n : Int) : (if (if n < (4611686018427387903 : Int) then n else (4611686018427387903 : Int)) > (0 : Int) then if n < (4611686018427387903 : Int) then n else (4611686018427387903 : Int) else (0 : Int)) = wiI n := by
  unfold wiI
  split <;> split <;> omega
theorem wi_sub (a b : Int) : IntKind.wrap IntKind.i64 (wiI a - wiI b) = wiI a - wiI b := wrapI (by unfold wiI; omega)
theorem res_Fits (w load own : Int) (drain : Bool) : (tgt_Fits w load own drain).res = some (out0 (.v (AB (fitsB w load own drain)))) := by
  refine T.over_eq _ (tree_Fits w load own drain) ?_
  simp only [T.res_br, T.res_ret, wi_a, wi_sub]
  cases drain
  · simp only [fitsB, Bool.false_or, Bool.false_eq_true, reduceIte]
  · simp only [fitsB, Bool.true_or, reduceIte]

noncomputable def F_Fits : SumF
  | [.one (.f (.lit (.int .i64 w))), .one (.f (.lit (.int .i64 load))), .one (.f (.lit (.int .i64 own))), .one (.f (.lit (.bool drain)))], [], 0 => .ret (out0 (.v (AB (fitsB w load own drain))))
  | _, _, _ => .bad
theorem sum_Fits : SumOk Tryz.prog 52 F_Fits := by
  refine ⟨fun args H nx r hr => ?_, fun args H nx => ?_⟩
  · unfold F_Fits at hr
    split at hr
    · rename_i w load own drain
      have := T.ret_some hr
      subst this
      exact evCallW_ok GODA1 GKDA1 (res_Fits w load own drain)
    · exact (T.bad_some hr).elim
  · unfold F_Fits
    split
    · exact ⟨Nat.zero_le _, fun b hb hw => absurd hb (Nat.not_lt_zero b)⟩
    · trivial
noncomputable def sm_Fits : SumF := canonSum F_Fits
theorem sm_Fits_ok : SumOk Tryz.prog 52 sm_Fits := canonSum_ok sum_Fits
noncomputable def ss_Fits : List (Nat × SumF) := (52, sm_Fits) :: ss_Tgz
theorem ss_Fits_ok : ∀ x ∈ ss_Fits, SumOk Tryz.prog x.1 x.2 := List.forall_mem_cons.2 ⟨sm_Fits_ok, ss_Tgz_ok⟩
/-- a map of numbers -/
def MapI (es : List (Value × Value)) : Prop := ∀ k : Int, (keysOk (.int .i64 k) es && intsOk .i64 es) = true
abbrev G5 := Bool × Int × Int × Int
def S_ci (me load : Int) (nl : Bool) (n : Nat) (x : Nat → Ent) (es : List (Value × Value)) (nd : Bool) (d : Nat) (y : Nat → Int) (to : Int) (p : Nat) (i : Nat) (a : G5) : St := ⟨[(0, .v (AI me)), (1, .v (AI load)), (2, .v (.one (.f (.fs nl 5 n (entE x))))), (3, .v (.one (.mp 0))), (8, .v (AP 1)), (9, .v (AB a.1)), (11, .v (AI to)), (17, .v (.one (.f (.fs nd 1 d (intE y))))), (18, .v (AI d)), (19, .v (AI p)), (23, .v (AI i))], [(0, .map es), (1, .cells [I a.2.1, I a.2.2.1, I 0, I a.2.2.2])], 2, false, 0, []⟩
def S_ri (me load : Int) (nl : Bool) (n : Nat) (x : Nat → Ent) (es : List (Value × Value)) (nd : Bool) (d : Nat) (y : Nat → Int) (p : Nat) (i : Nat) (a : G5) : St := ⟨[(0, .v (AI me)), (1, .v (AI load)), (2, .v (.one (.f (.fs nl 5 n (entE x))))), (3, .v (.one (.mp 0))), (8, .v (AP 1)), (9, .v (AB false)), (10, .v (.one (.f (.fs nd 1 d (intE y))))), (11, .v (AI p)), (12, .v (AP 2)), (13, .v (AB a.1)), (14, .v (AI i))], [(0, .map es), (1, .cells [I 0, I 0, I 0, I 0]), (2, .cells [I a.2.1, I a.2.2.1, I 0, I a.2.2.2])], 3, false, 0, []⟩

noncomputable def GDA2 : Ctx := GS.with ss_Fits ll_tg
noncomputable def tgt_ci (me load : Int) (nl : Bool) (n : Nat) (x : Nat → Ent) (es : List (Value × Value)) (nd : Bool) (d : Nat) (y : Nat → Int) (to : Int) (p : Nat) (i : Nat) (a : G5) : T (Ex × St) := evRound GDA2 300 60 Tryz.f60.ntmps (loopOf Tryz.f60 5) 2 [0, 1, 2, 3, 8, 9, 11, 17, 18, 19, 23] [0, 1, 2, 3, 8, 9, 17, 18, 19] (S_ci me load nl n x es nd d y to p i a)
theorem GKDA2 : KnownOk Tryz.prog GDA2 := KnownOk.lists ss_Fits_ok ll_tg_ok
theorem GODA2 : CtxOk Tryz.prog GDA2 := GS_ok.with _ _
theorem tree_ci (me load : Int) (nl : Bool) (n : Nat) (x : Nat → Ent) (es : List (Value × Value)) (nd : Bool) (d : Nat) (y : Nat → Int) (to : Int) (p : Nat) (i : Nat) (a : G5) : (tgt_ci me load nl n x es nd d y to p i a).over (.br (.br (.br (.br (.br (.br (.br (.br (.br (.br (.br (.br (.br (.br (.br (.br (.br (.br (.br (.br (.br (.br (.br (.br (.br (.br (.br (.br (.br (.br (.tt .leaf) .skip) .skip) .skip) .skip) .skip) .skip) (.br .skip (.br .skip (.br .skip (.br (.br .skip (.br (.br .leaf .leaf) .skip)) .skip))))) .skip) .skip) (.br .skip (.br .skip (.br .skip (.br .skip (.ff .leaf)))))) .skip) .skip) .skip) .skip) .skip) .skip) .skip) .skip) .skip) .skip) .skip) .skip) .skip) .skip) .skip) .skip) .skip) (.br .skip (.br .skip (.br .skip (.br .skip (.br .skip (.br .skip (.br .skip (.br .skip (.br .skip (.br .skip (.br .skip (.br .skip (.br .skip (.ff (.ff (.ff (.ff (.ff (.ff .leaf)))))))))))))))))))) .skip) .leaf) = T.br (decide ((↑i : Int) < (6 : Int))) (T.br (keysOk (Value.int IntKind.i64 (↑i : Int)) es && intsOk IntKind.i64 es) (T.br (hasM (Value.int IntKind.i64 (↑i : Int)) es) (T.br (hasM (Value.int IntKind.i64 (↑i : Int)) es) (T.br (hasM (Value.int IntKind.i64 (↑i : Int)) es) (T.br (hasM (Value.int IntKind.i64 (↑i : Int)) es) (T.br (hasM (Value.int IntKind.i64 (↑i : Int)) es) (T.br (!nl) (T.br (decide ((0 : Int) ≤ to ∧ to < (↑n : Int))) (T.br (hasM (Value.int IntKind.i64 (↑i : Int)) es) (T.br (hasM (Value.int IntKind.i64 (↑i : Int)) es) (T.br (hasM (Value.int IntKind.i64 (↑i : Int)) es) (T.br (hasM (Value.int IntKind.i64 (↑i : Int)) es) (T.br (hasM (Value.int IntKind.i64 (↑i : Int)) es) (T.br (!nl) (T.br (decide ((0 : Int) ≤ me ∧ me < (↑n : Int))) (T.br (hasM (Value.int IntKind.i64 (↑i : Int)) es) (T.br (hasM (Value.int IntKind.i64 (↑i : Int)) es) (T.br (hasM (Value.int IntKind.i64 (↑i : Int)) es) (T.br (hasM (Value.int IntKind.i64 (↑i : Int)) es) (T.br (fitsB (intM (Value.int IntKind.i64 (↑i : Int)) es) load (Ent.load (x (Int.toNat to))) (Ent.dr (x (Int.toNat me)))) (T.br (fitsB (intM (Value.int IntKind.i64 (↑i : Int)) es) load (Ent.load (x (Int.toNat to))) (Ent.dr (x (Int.toNat me)))) (T.br (fitsB (intM (Value.int IntKind.i64 (↑i : Int)) es) load (Ent.load (x (Int.toNat to))) (Ent.dr (x (Int.toNat me)))) (T.br (!Prod.fst a) (T.br (!Prod.fst a) (T.br (!Prod.fst a) (T.br (!Prod.fst a) (T.br (fitsB (intM (Value.int IntKind.i64 (↑i : Int)) es) load (Ent.load (x (Int.toNat to))) (Ent.dr (x (Int.toNat me)))) (T.br (!Prod.fst a) (T.br (fitsB (intM (Value.int IntKind.i64 (↑i : Int)) es) load (Ent.load (x (Int.toNat to))) (Ent.dr (x (Int.toNat me)))) (T.ret (Ex.normal, ⟨[(0, SV.v (AI me)), (1, SV.v (AI load)), (2, SV.v (AV.one (CV.f (FV.fs nl 5 n fun a => [FV.lit (.int .i64 (Ent.inc (x a))), FV.lit (.int .i64 (Ent.st (x a))), FV.lit (.int .i64 (Ent.stamp (x a))), FV.lit (.int .i64 (Ent.load (x a))), FV.lit (Value.bool (Ent.dr (x a)))])))), (3, SV.v (AV.one (CV.mp 0))), (8, SV.v (AP 1)), (9, SV.v (AB true)), (11, SV.v (AI to)), (17, SV.v (AV.one (CV.f (FV.fs nd 1 d fun a => [FV.lit (.int .i64 (y a))])))), (18, SV.v (AI (↑d : Int))), (19, SV.v (AI (↑p : Int))), (23, SV.v (AI (IntKind.wrap IntKind.i64 ((↑i : Int) + (1 : Int)))))], [(0, Ob.map es), (1, Ob.cells [I to, I (↑i : Int), I (0 : Int), I (intM (Value.int IntKind.i64 (↑i : Int)) es)])], 2, false, 0, []⟩)) T.bad) T.bad) T.bad) T.bad) T.bad) T.bad) (T.br (!Prod.fst a) T.bad (T.br (!Prod.fst a) T.bad (T.br (!Prod.fst a) T.bad (T.br (fitsB (intM (Value.int IntKind.i64 (↑i : Int)) es) load (Ent.load (x (Int.toNat to))) (Ent.dr (x (Int.toNat me)))) (T.br (!Prod.fst a) T.bad (T.br (fitsB (intM (Value.int IntKind.i64 (↑i : Int)) es) load (Ent.load (x (Int.toNat to))) (Ent.dr (x (Int.toNat me)))) (T.br (decide (intM (Value.int IntKind.i64 (↑i : Int)) es > Prod.snd (Prod.snd (Prod.snd a)))) (T.ret (Ex.normal, ⟨[(0, SV.v (AI me)), (1, SV.v (AI load)), (2, SV.v (AV.one (CV.f (FV.fs nl 5 n fun a => [FV.lit (.int .i64 (Ent.inc (x a))), FV.lit (.int .i64 (Ent.st (x a))), FV.lit (.int .i64 (Ent.stamp (x a))), FV.lit (.int .i64 (Ent.load (x a))), FV.lit (Value.bool (Ent.dr (x a)))])))), (3, SV.v (AV.one (CV.mp 0))), (8, SV.v (AP 1)), (9, SV.v (AB true)), (11, SV.v (AI to)), (17, SV.v (AV.one (CV.f (FV.fs nd 1 d fun a => [FV.lit (.int .i64 (y a))])))), (18, SV.v (AI (↑d : Int))), (19, SV.v (AI (↑p : Int))), (23, SV.v (AI (IntKind.wrap IntKind.i64 ((↑i : Int) + (1 : Int)))))], [(0, Ob.map es), (1, Ob.cells [I to, I (↑i : Int), I (0 : Int), I (intM (Value.int IntKind.i64 (↑i : Int)) es)])], 2, false, 0, []⟩)) (T.ret (Ex.normal, ⟨[(0, SV.v (AI me)), (1, SV.v (AI load)), (2, SV.v (AV.one (CV.f (FV.fs nl 5 n fun a => [FV.lit (.int .i64 (Ent.inc (x a))), FV.lit (.int .i64 (Ent.st (x a))), FV.lit (.int .i64 (Ent.stamp (x a))), FV.lit (.int .i64 (Ent.load (x a))), FV.lit (Value.bool (Ent.dr (x a)))])))), (3, SV.v (AV.one (CV.mp 0))), (8, SV.v (AP 1)), (9, SV.v (AB (Prod.fst a))), (11, SV.v (AI to)), (17, SV.v (AV.one (CV.f (FV.fs nd 1 d fun a => [FV.lit (.int .i64 (y a))])))), (18, SV.v (AI (↑d : Int))), (19, SV.v (AI (↑p : Int))), (23, SV.v (AI (IntKind.wrap IntKind.i64 ((↑i : Int) + (1 : Int)))))], [(0, Ob.map es), (1, Ob.cells [I (Prod.fst (Prod.snd a)), I (Prod.fst (Prod.snd (Prod.snd a))), I (0 : Int), I (Prod.snd (Prod.snd (Prod.snd a)))])], 2, false, 0, []⟩))) T.bad)) T.bad))))) T.bad) T.bad) (T.br (fitsB (intM (Value.int IntKind.i64 (↑i : Int)) es) load (Ent.load (x (Int.toNat to))) (Ent.dr (x (Int.toNat me)))) T.bad (T.br (fitsB (intM (Value.int IntKind.i64 (↑i : Int)) es) load (Ent.load (x (Int.toNat to))) (Ent.dr (x (Int.toNat me)))) T.bad (T.br (fitsB (intM (Value.int IntKind.i64 (↑i : Int)) es) load (Ent.load (x (Int.toNat to))) (Ent.dr (x (Int.toNat me)))) T.bad (T.br (fitsB (intM (Value.int IntKind.i64 (↑i : Int)) es) load (Ent.load (x (Int.toNat to))) (Ent.dr (x (Int.toNat me)))) T.bad (T.ret (Ex.normal, ⟨[(0, SV.v (AI me)), (1, SV.v (AI load)), (2, SV.v (AV.one (CV.f (FV.fs nl 5 n fun a => [FV.lit (.int .i64 (Ent.inc (x a))), FV.lit (.int .i64 (Ent.st (x a))), FV.lit (.int .i64 (Ent.stamp (x a))), FV.lit (.int .i64 (Ent.load (x a))), FV.lit (Value.bool (Ent.dr (x a)))])))), (3, SV.v (AV.one (CV.mp 0))), (8, SV.v (AP 1)), (9, SV.v (AB (Prod.fst a))), (11, SV.v (AI to)), (17, SV.v (AV.one (CV.f (FV.fs nd 1 d fun a => [FV.lit (.int .i64 (y a))])))), (18, SV.v (AI (↑d : Int))), (19, SV.v (AI (↑p : Int))), (23, SV.v (AI (IntKind.wrap IntKind.i64 ((↑i : Int) + (1 : Int)))))], [(0, Ob.map es), (1, Ob.cells [I (Prod.fst (Prod.snd a)), I (Prod.fst (Prod.snd (Prod.snd a))), I (0 : Int), I (Prod.snd (Prod.snd (Prod.snd a)))])], 2, false, 0, []⟩))))))) T.bad) T.bad) T.bad) T.bad) T.bad) T.bad) T.bad) T.bad) T.bad) T.bad) T.bad) T.bad) T.bad) T.bad) T.bad) T.bad) T.bad) (T.br (hasM (Value.int IntKind.i64 (↑i : Int)) es) T.bad (T.br (hasM (Value.int IntKind.i64 (↑i : Int)) es) T.bad (T.br (hasM (Value.int IntKind.i64 (↑i : Int)) es) T.bad (T.br (hasM (Value.int IntKind.i64 (↑i : Int)) es) T.bad (T.br (hasM (Value.int IntKind.i64 (↑i : Int)) es) T.bad (T.br (hasM (Value.int IntKind.i64 (↑i : Int)) es) T.bad (T.br (hasM (Value.int IntKind.i64 (↑i : Int)) es) T.bad (T.br (hasM (Value.int IntKind.i64 (↑i : Int)) es) T.bad (T.br (hasM (Value.int IntKind.i64 (↑i : Int)) es) T.bad (T.br (hasM (Value.int IntKind.i64 (↑i : Int)) es) T.bad (T.br (hasM (Value.int IntKind.i64 (↑i : Int)) es) T.bad (T.br (hasM (Value.int IntKind.i64 (↑i : Int)) es) T.bad (T.br (hasM (Value.int IntKind.i64 (↑i : Int)) es) T.bad (T.ret (Ex.normal, ⟨[(0, SV.v (AI me)), (1, SV.v (AI load)), (2, SV.v (AV.one (CV.f (FV.fs nl 5 n fun a => [FV.lit (.int .i64 (Ent.inc (x a))), FV.lit (.int .i64 (Ent.st (x a))), FV.lit (.int .i64 (Ent.stamp (x a))), FV.lit (.int .i64 (Ent.load (x a))), FV.lit (Value.bool (Ent.dr (x a)))])))), (3, SV.v (AV.one (CV.mp 0))), (8, SV.v (AP 1)), (9, SV.v (AB (Prod.fst a))), (11, SV.v (AI to)), (17, SV.v (AV.one (CV.f (FV.fs nd 1 d fun a => [FV.lit (.int .i64 (y a))])))), (18, SV.v (AI (↑d : Int))), (19, SV.v (AI (↑p : Int))), (23, SV.v (AI (IntKind.wrap IntKind.i64 ((↑i : Int) + (1 : Int)))))], [(0, Ob.map es), (1, Ob.cells [I (Prod.fst (Prod.snd a)), I (Prod.fst (Prod.snd (Prod.snd a))), I (0 : Int), I (Prod.snd (Prod.snd (Prod.snd a)))])], 2, false, 0, []⟩)))))))))))))))) T.bad) (T.ret (Ex.exit 2, ⟨[(0, SV.v (AI me)), (1, SV.v (AI load)), (2, SV.v (AV.one (CV.f (FV.fs nl 5 n fun a => [FV.lit (.int .i64 (Ent.inc (x a))), FV.lit (.int .i64 (Ent.st (x a))), FV.lit (.int .i64 (Ent.stamp (x a))), FV.lit (.int .i64 (Ent.load (x a))), FV.lit (Value.bool (Ent.dr (x a)))])))), (3, SV.v (AV.one (CV.mp 0))), (8, SV.v (AP 1)), (9, SV.v (AB (Prod.fst a))), (17, SV.v (AV.one (CV.f (FV.fs nd 1 d fun a => [FV.lit (.int .i64 (y a))])))), (18, SV.v (AI (↑d : Int))), (19, SV.v (AI (↑p : Int)))], [(0, Ob.map es), (1, Ob.cells [I (Prod.fst (Prod.snd a)), I (Prod.fst (Prod.snd (Prod.snd a))), I (0 : Int), I (Prod.snd (Prod.snd (Prod.snd a)))])], 2, false, 0, []⟩)) := by kernel_rfl
/-- is it better -/
def chB (load ld : Int) (dr : Bool) (es : List (Value × Value)) (i : Nat) (a : G5) : Bool := hasM (.int .i64 (i : Int)) es && (fitsB (intM (.int .i64 (i : Int)) es) load ld dr && (!a.1 || decide (intM (.int .i64 (i : Int)) es > a.2.2.2)))
def chF (load ld : Int) (dr : Bool) (to : Int) (es : List (Value × Value)) (i : Nat) (a : G5) : G5 := match chB load ld dr es i a with | true => (true, to, (i : Int), intM (.int .i64 (i : Int)) es) | false => a
/-- the best of one's shards for one -/
def chG (me load : Int) (x : Nat → Ent) (es : List (Value × Value)) (to : Int) : G5 := foldF (chF load (ldI x to) (x me.toNat).dr to es) 6 0 (false, 0, 0, 0)

theorem round_ci (me load : Int) (nl : Bool) (n : Nat) (x : Nat → Ent) (es : List (Value × Value)) (nd : Bool) (d : Nat) (y : Nat → Int) (to : Int) (p : Nat) (hnl : nl = false) (hes : MapI es) (hto : 0 ≤ to ∧ to < (n : Int)) (hme : 0 ≤ me ∧ me < (n : Int)) (i : Nat) (a : G5) (hi : i < 6) (hI : (fun (i : Nat) (a : G5) => (True : Prop)) i a) : ∃ st', (tgt_ci me load nl n x es nd d y to p i a).res = some (.normal, st') ∧ StLe 2 st' (S_ci me load nl n x es nd d y to p (i + 1) ((fun (i : Nat) (a : G5) => (chF load (ldI x to) (x me.toNat).dr to es i a)) i a)) ∧ (fun (i : Nat) (a : G5) => (True : Prop)) (i + 1) ((fun (i : Nat) (a : G5) => (chF load (ldI x to) (x me.toNat).dr to es i a)) i a) := by
  refine T.over_exP (g := fun s => (Ex.normal, s)) (tree_ci me load nl n x es nd d y to p i a) ?_
  have e1 : ((i : Int) < 6) := by omega
  have e3 : IntKind.wrap .i64 ((i : Int) + 1) = ((i + 1 : Nat) : Int) := by rw [wrapI (by omega)]; rfl
  have e4 := hes (i : Int)
  subst hnl
  obtain ⟨o, g1, g2, g3⟩ := a
  cases q1 : hasM (.int .i64 (i : Int)) es
  · simp only [chF, chB, q1, Bool.false_and, T.res_br, T.res_ret, T.res_bad, decide_eq_true e1, e3, e4, decide_eq_true hto, decide_eq_true hme, Bool.not_false, Bool.false_eq_true, reduceIte]
    exact ⟨_, rfl, StLe.less (Nat.le_refl 2) (fun t => .inr (.inl rfl)) (fun b => .inl (by rcases b with _ | _ | _ | b <;> rfl)), trivial⟩
  · cases q2 : fitsB (intM (.int .i64 (i : Int)) es) load (ldI x to) (x me.toNat).dr
    · have q2' := q2
      unfold ldI at q2'
      simp only [chF, chB, q1, q2, q2', Bool.false_and, Bool.and_false, T.res_br, T.res_ret, T.res_bad, decide_eq_true e1, e3, e4, decide_eq_true hto, decide_eq_true hme, Bool.not_false, Bool.false_eq_true, reduceIte]
      exact ⟨_, rfl, StLe.less (Nat.le_refl 2) (fun t => .inr (.inl rfl)) (fun b => .inl (by rcases b with _ | _ | _ | b <;> rfl)), trivial⟩
    · have q2' := q2
      unfold ldI at q2'
      cases o
      · simp only [chF, chB, q1, q2, q2', Bool.true_and, Bool.not_false, Bool.true_or, T.res_br, T.res_ret, T.res_bad, decide_eq_true e1, e3, e4, decide_eq_true hto, decide_eq_true hme, Bool.not_false, Bool.false_eq_true, reduceIte]
        exact ⟨_, rfl, StLe.less (Nat.le_refl 2) (fun t => .inr (.inl rfl)) (fun b => .inl (by rcases b with _ | _ | _ | b <;> rfl)), trivial⟩
      · cases q3 : decide (intM (.int .i64 (i : Int)) es > g3)
        · simp only [chF, chB, q1, q2, q2', q3, Bool.true_and, Bool.not_true, Bool.false_or, T.res_br, T.res_ret, T.res_bad, decide_eq_true e1, e3, e4, decide_eq_true hto, decide_eq_true hme, Bool.not_false, Bool.false_eq_true, reduceIte]
          exact ⟨_, rfl, StLe.less (Nat.le_refl 2) (fun t => .inr (.inl rfl)) (fun b => .inl (by rcases b with _ | _ | _ | b <;> rfl)), trivial⟩
        · simp only [chF, chB, q1, q2, q2', q3, Bool.true_and, Bool.not_true, Bool.false_or, T.res_br, T.res_ret, T.res_bad, decide_eq_true e1, e3, e4, decide_eq_true hto, decide_eq_true hme, Bool.not_false, Bool.false_eq_true, reduceIte]
          exact ⟨_, rfl, StLe.less (Nat.le_refl 2) (fun t => .inr (.inl rfl)) (fun b => .inl (by rcases b with _ | _ | _ | b <;> rfl)), trivial⟩
theorem end_ci (me load : Int) (nl : Bool) (n : Nat) (x : Nat → Ent) (es : List (Value × Value)) (nd : Bool) (d : Nat) (y : Nat → Int) (to : Int) (p : Nat) (hnl : nl = false) (hes : MapI es) (hto : 0 ≤ to ∧ to < (n : Int)) (hme : 0 ≤ me ∧ me < (n : Int)) (a : G5) (hI : (fun (i : Nat) (a : G5) => (True : Prop)) (6) a) : ∃ st', (tgt_ci me load nl n x es nd d y to p (6) a).res = some (.exit 2, st') ∧ StLe 2 st' (⟨[(0, .v (AI me)), (1, .v (AI load)), (2, .v (.one (.f (.fs nl 5 n (entE x))))), (3, .v (.one (.mp 0))), (8, .v (AP 1)), (9, .v (AB a.1)), (17, .v (.one (.f (.fs nd 1 d (intE y))))), (18, .v (AI d)), (19, .v (AI p))], [(0, .map es), (1, .cells [I a.2.1, I a.2.2.1, I 0, I a.2.2.2])], 2, false, 0, []⟩) := by
  refine T.over_exP (g := fun s => (.exit 2, s)) (tree_ci me load nl n x es nd d y to p (6) a) ?_
  have e1 : ¬ (((6 : Nat) : Int) < 6) := by omega
  simp only [T.res_br, T.res_ret, T.res_bad, decide_eq_false e1, Bool.false_eq_true, reduceIte]
  exact ⟨_, rfl, StLe.refl (Nat.le_refl _)⟩
theorem loop_ci (me load : Int) (nl : Bool) (n : Nat) (x : Nat → Ent) (es : List (Value × Value)) (nd : Bool) (d : Nat) (y : Nat → Int) (to : Int) (p : Nat) (hnl : nl = false) (hes : MapI es) (hto : 0 ≤ to ∧ to < (n : Int)) (hme : 0 ≤ me ∧ me < (n : Int)) (i : Nat) (a : G5) (hi : i ≤ 6) (hI : (fun (i : Nat) (a : G5) => (True : Prop)) i a) {st0 : St} (h0 : StLe 2 st0 (S_ci me load nl n x es nd d y to p i a)) (hnx : st0.nx = 2) :
    CodeOk Tryz.prog Tryz.f60.ntmps (.loop (loopOf Tryz.f60 5)) st0 (.exit 2) ((fun (a : G5) => ⟨[(0, .v (AI me)), (1, .v (AI load)), (2, .v (.one (.f (.fs nl 5 n (entE x))))), (3, .v (.one (.mp 0))), (8, .v (AP 1)), (9, .v (AB a.1)), (17, .v (.one (.f (.fs nd 1 d (intE y))))), (18, .v (AI d)), (19, .v (AI p))], [(0, .map es), (1, .cells [I a.2.1, I a.2.2.1, I 0, I a.2.2.2])], 2, false, 0, []⟩) (foldF (fun (i : Nat) (a : G5) => (chF load (ldI x to) (x me.toNat).dr to es i a)) (6 - i) i a)) := by
  have := for_loop GODA2 GKDA2 (K := 300) (F := 60) (N := Tryz.f60.ntmps) (c := loopOf Tryz.f60 5) (m := 2) (live := [0, 1, 2, 3, 8, 9, 11, 17, 18, 19, 23]) (after := [0, 1, 2, 3, 8, 9, 17, 18, 19]) (S_ci me load nl n x es nd d y to p) (6) (fun (i : Nat) (a : G5) => .inl (chF load (ldI x to) (x me.toNat).dr to es i a)) (fun (a : G5) => (.exit 2, ⟨[(0, .v (AI me)), (1, .v (AI load)), (2, .v (.one (.f (.fs nl 5 n (entE x))))), (3, .v (.one (.mp 0))), (8, .v (AP 1)), (9, .v (AB a.1)), (17, .v (.one (.f (.fs nd 1 d (intE y))))), (18, .v (AI d)), (19, .v (AI p))], [(0, .map es), (1, .cells [I a.2.1, I a.2.2.1, I 0, I a.2.2.2])], 2, false, 0, []⟩)) (fun (i : Nat) (a : G5) => (True : Prop))
    (fun i a hi hI => by obtain ⟨s, h1, h2, h3⟩ := round_ci me load nl n x es nd d y to p hnl hes hto hme i a hi hI; exact ⟨_, s, h1, rfl, h2, h3⟩)
    (fun a hI => by obtain ⟨s, h1, h2⟩ := end_ci me load nl n x es nd d y to p hnl hes hto hme a hI; exact ⟨_, s, h1, by simp, rfl, h2⟩)
    (fun i a => by first | exact Nat.le_refl _ | (show 2 ≤ _; decide) | (simp only [S_ci]; omega)) hi hI h0 hnx
  rw [foldX_inl] at this
  exact this
end Go.Proofs.YtbobakclbdaepaaGreat.En
