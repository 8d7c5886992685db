/- Texts put together: EA, EB, EF, EG, EH. -/
import Derived.Test.YtggneleipimijaaG14
/- DonorEnds: the plain law. -/
namespace Go.Proofs.Ytggneleipimijaa.En
open Go
set_option linter.unusedVariables false
set_option linter.unusedSimpArgs false
set_option maxRecDepth 20000
set_option maxHeartbeats 1000000
def sqF (f : Nat → Int) : Nat → Int
  | 0 => 0
  | n + 1 => sqF f n + f n * f n
def updJ (f : Nat → Int) (a : Nat) (v : Int) : Nat → Int := fun j => bif Nat.beq j a then v else f j
theorem updJ_at (f : Nat → Int) (a : Nat) (v : Int) : updJ f a v a = v := by simp only [updJ, Nat.beq_refl, cond_true]
theorem updJ_ne (f : Nat → Int) {a j : Nat} (v : Int) (h : j ≠ a) : updJ f a v j = f j := by
  have : Nat.beq j a = false := by
    cases hb : Nat.beq j a
    · rfl
    · exact absurd (Nat.eq_of_beq_eq_true hb) h
  simp only [updJ, this, cond_false]
theorem sq_out (f : Nat → Int) (a : Nat) (v : Int) : ∀ n, n ≤ a → sqF (updJ f a v) n = sqF f n
  | 0, _ => rfl
  | n + 1, h => by
    have h1 := sq_out f a v n (by omega)
    simp only [sqF, h1, updJ_ne f v (show n ≠ a by omega)]
theorem sq_upd (f : Nat → Int) (a : Nat) (v : Int) : ∀ n, a < n → sqF (updJ f a v) n = sqF f n - f a * f a + v * v
  | 0, h => absurd h (Nat.not_lt_zero a)
  | n + 1, h => by
    by_cases e : a = n
    · subst e
      simp only [sqF, sq_out f a v a (Nat.le_refl a), updJ_at]
      omega
    · have h1 := sq_upd f a v n (by omega)
      simp only [sqF, h1, updJ_ne f v (show n ≠ a by omega)]
      omega
def LdOk (n : Nat) (ld : Nat → Int) (B : Int) : Prop := ∀ j, j < n → 0 ≤ ld j ∧ ld j ≤ B
theorem sq_nonneg {ld : Nat → Int} {B : Int} : ∀ n, LdOk n ld B → 0 ≤ sqF ld n
  | 0, _ => Int.le_refl 0
  | n + 1, h => by
    have h1 := sq_nonneg n fun j hj => h j (by omega)
    have h2 := Int.mul_nonneg (h n (Nat.lt_succ_self n)).1 (h n (Nat.lt_succ_self n)).1
    simp only [sqF]
    omega
theorem sq_le {ld : Nat → Int} : ∀ n, LdOk n ld 54 → sqF ld n ≤ 2916 * n
  | 0, _ => Int.le_refl 0
  | n + 1, h => by
    have h1 := sq_le n fun j hj => h j (by omega)
    have h3 := h n (Nat.lt_succ_self n)
    have h2 := Int.mul_le_mul h3.2 h3.2 h3.1 (by omega)
    simp only [sqF]
    omega
/-- a gift that fits lowers the squares -/
theorem move_ok {n : Nat} {ld : Nat → Int} {h to : Nat} {w : Int} (hl : LdOk n ld 54) (hh : h < n) (ht : to < n) (hne : to ≠ h) (hw : 1 ≤ w) (hf : w < ld h - ld to) :
    LdOk n (updJ (updJ ld h (ld h - w)) to (ld to + w)) 54 ∧ sqF (updJ (updJ ld h (ld h - w)) to (ld to + w)) n + 2 ≤ sqF ld n := by
  have h1 := hl h hh
  have h2 := hl to ht
  refine ⟨fun j hj => ?_, ?_⟩
  · by_cases e : j = to
    · subst e; rw [updJ_at]; omega
    · rw [updJ_ne _ _ e]
      by_cases e2 : j = h
      · subst e2; rw [updJ_at]; omega
      · rw [updJ_ne _ _ e2]; exact hl j hj
  · rw [sq_upd _ _ _ _ ht, sq_upd _ _ _ _ hh, updJ_ne _ _ hne]
    obtain ⟨d, hd, hd1⟩ : ∃ d : Int, ld h = ld to + w + d ∧ 1 ≤ d := ⟨ld h - ld to - w, by omega, by omega⟩
    rw [hd]
    generalize ld to = y
    generalize sqF ld n = s
    have e1 : y + w + d - w = y + d := by omega
    rw [e1]
    have e2 : w * 1 ≤ w * d := Int.mul_le_mul_of_nonneg_left hd1 (by omega)
    simp only [Int.add_mul, Int.mul_add]
    rw [Int.mul_comm d y, Int.mul_comm w y, Int.mul_comm d w]
    omega
theorem getI_put (k v : Int) : ∀ l : List (Int × Int), getI k (putI k v l) = v
  | [] => by simp [putI, getI]
  | q :: r => by
    simp only [putI]
    cases h : (k == q.1)
    · simp only [getI, h, getI_put k v r]
    · simp [getI]
theorem getI_other {k j : Int} (v : Int) (h : j ≠ k) : ∀ l : List (Int × Int), getI j (putI k v l) = getI j l
  | [] => by
    have : (j == k) = false := by simpa using h
    simp [putI, getI, this]
  | q :: r => by
    have hjk : (j == k) = false := by simpa using h
    simp only [putI]
    cases hq : (k == q.1)
    · simp only [getI, getI_other v h r]
    · have : k = q.1 := by simpa using hq
      simp only [getI, hjk, ← this]
theorem getI_rng {n : Int} (hn : 0 < n) : ∀ {l : List (Int × Int)}, (∀ p ∈ l, 0 ≤ p.2 ∧ p.2 < n) → ∀ k, 0 ≤ getI k l ∧ getI k l < n
  | [], _, k => ⟨Int.le_refl 0, hn⟩
  | q :: r, h, k => by
    simp only [getI]
    cases hq : (k == q.1)
    · exact getI_rng hn (fun p hp => h p (List.mem_cons_of_mem _ hp)) k
    · exact h q (List.mem_cons_self ..)
/-- where the shards are -/
structure AtOk (n : Nat) (al : List (Int × Int)) : Prop where
  key : KeyOk al
  val : ∀ p ∈ al, 0 ≤ p.2 ∧ p.2 < (n : Int)
theorem KeyOk.put {l : List (Int × Int)} (h : KeyOk l) {k : Int} (hk : 0 ≤ k ∧ k < 6) (v : Int) : KeyOk (putI k v l) :=
  ⟨putI_dist h.dist, fun p hp => by
    rcases putI_mem hp with e | hp
    · rw [e]; exact hk
    · exact h.rng p hp⟩
theorem AtOk.put {n : Nat} {l : List (Int × Int)} (h : AtOk n l) {k : Int} (hk : 0 ≤ k ∧ k < 6) {v : Int} (hv : 0 ≤ v ∧ v < (n : Int)) : AtOk n (putI k v l) :=
  ⟨h.key.put hk v, fun p hp => by
    rcases putI_mem hp with e | hp
    · rw [e]; exact hv
    · exact h.val p hp⟩
theorem KeyOk.nil : KeyOk [] := ⟨List.Pairwise.nil, fun p h => by cases h⟩
/-- what one may give: each shard with its weight -/
structure MineOk (wl m : List (Int × Int)) : Prop where
  key : KeyOk m
  val : ∀ p ∈ m, p.2 = getI p.1 wl
theorem MineOk.put {wl m : List (Int × Int)} (h : MineOk wl m) {k : Int} (hk : 0 ≤ k ∧ k < 6) : MineOk wl (putI k (getI k wl) m) :=
  ⟨h.key.put hk _, fun p hp => by
    rcases putI_mem hp with e | hp
    · rw [e]
    · exact h.val p hp⟩
def WlOk (i : Int) (wl : List (Int × Int)) : Prop := ∀ s, 0 ≤ s → s < i → 1 ≤ getI s wl ∧ getI s wl ≤ 9
/-- the answer of Choose is one of those that fit -/
theorem chX_some {me load : Int} {x : Nat → Ent} {es : List (Value × Value)} {y : Nat → Int} : ∀ (c i : Nat), (chX me load x es y c i).1 = true → ∃ j, i ≤ j ∧ j < i + c ∧ chX me load x es y c i = chG me load x es (y j) ∧ (chG me load x es (y j)).1 = true
  | 0, i, h => by cases h
  | c + 1, i, h => by
    simp only [chX] at h ⊢
    cases hg : (chG me load x es (y i)).1
    · rw [hg] at h
      obtain ⟨j, h1, h2, h3, h4⟩ := chX_some c (i + 1) h
      exact ⟨j, by omega, by omega, h3, h4⟩
    · exact ⟨i, Nat.le_refl i, by omega, rfl, hg⟩
theorem chT_ok {me load : Int} {x : Nat → Ent} {n : Nat} {l : List (Int × Int)} (hl : KeyOk l) (hin : 0 ≤ me ∧ me < (n : Int)) (h : (chT me load x (mI l) n).1 = true) :
    TgOk me x n (chT me load x (mI l) n).2.1 ∧ ∃ p ∈ l, p.1 = (chT me load x (mI l) n).2.2.1 ∧ p.2 = (chT me load x (mI l) n).2.2.2 ∧ fitP load (ldI x (chT me load x (mI l) n).2.1) (x me.toNat).dr p = true := by
  obtain ⟨j, h1, h2, h3, h4⟩ := chX_some _ _ h
  have e : chT me load x (mI l) n = chG me load x (mI l) (tzE me x n j) := h3
  rw [e]
  have ht := tz_ok hin x (i := j) (by omega)
  obtain ⟨g1, g2, _⟩ := (chG_ok (me := me) (load := load) (x := x) hl (tzE me x n j)).2 h4
  obtain ⟨p, hp, k1, k2, k3⟩ := g2
  exact ⟨by rw [g1]; exact ht, p, hp, k1, k2, by rw [g1]; exact k3⟩
theorem fit_small {w load own : Int} (hw : 1 ≤ w ∧ w ≤ 9) (h1 : 0 ≤ load ∧ load ≤ 54) (h2 : 0 ≤ own ∧ own ≤ 54) (h : fitsB w load own false = true) : w < load - own := by
  unfold fitsB wiI at h
  simp only [Bool.false_or, decide_eq_true_eq] at h
  omega

end Go.Proofs.Ytggneleipimijaa.En
/- DonorEnds: rounds. -/
namespace Go.Proofs.Ytggneleipimijaa.En
open Go
set_option linter.unusedVariables false
set_option linter.unusedSimpArgs false
set_option maxRecDepth 20000
set_option maxHeartbeats 1000000
noncomputable abbrev deC : Code := bodyOf Try.f11
def fstC : Code → Code | .seq a _ => a | c => c
def sndC : Code → Code | .seq _ b => b | c => c
def blkC : Code → Code | .block _ c => c | c => c
noncomputable def deL : Code := loopOf Try.f11 23
noncomputable def deX : Code := blkC (sndC deL)
noncomputable def cd_at : Code := seqOf Try.f11 31
def entL (ld : Nat → Int) : Nat → Ent := fun j => ⟨0, 0, 0, ld j, false⟩
abbrev ldV (n : Nat) : AV := .one (.sl false 0 1 0 0 n n true 1)
abbrev hp3 (n : Nat) (ld : Nat → Int) (al wl : List (Int × Int)) : Heap := [(0, .arr true 1 n (intE ld)), (1, .map (mI al)), (2, .map (mI wl))]
def S_d0 (n : Nat) (na : Bool) (ka : Nat) (xa : Nat → Int) (nw : Bool) (kw : Nat) (xw : Nat → Int) (fi i : Int) (ld : Nat → Int) (al wl : List (Int × Int)) : St :=
  ⟨[(1, .v (.one (.f (.fs na 1 ka (intE xa))))), (2, .v (.one (.f (.fs nw 1 kw (intE xw))))), (3, .v (AI fi)), (9, .v (AI n)), (10, .v (ldV n)), (11, .v (.one (.mp 1))), (12, .v (.one (.mp 2))), (13, .v (AI i))], hp3 n ld al wl, 3, false, 0, []⟩
def S_b2 (n : Nat) (fi sq : Int) (ld : Nat → Int) (al wl : List (Int × Int)) (i : Int) : St :=
  ⟨[(3, .v (AI fi)), (9, .v (AI n)), (10, .v (ldV n)), (11, .v (.one (.mp 1))), (12, .v (.one (.mp 2))), (14, .v (AI sq)), (85, .v (ldV n)), (86, .v (AI n)), (87, .v (AI i))], hp3 n ld al wl, 3, false, 0, []⟩
abbrev mainSl (n : Nat) (sq h q mv : Int) : Slots := [(9, .v (AI n)), (10, .v (ldV n)), (11, .v (.one (.mp 1))), (12, .v (.one (.mp 2))), (14, .v (AI sq)), (17, .v (AI h)), (18, .v (AI q)), (19, .v (AI mv))]
def S_mn (n : Nat) (sq h q mv : Int) (ld : Nat → Int) (al wl : List (Int × Int)) : St := ⟨mainSl n sq h q mv, hp3 n ld al wl, 3, false, 0, []⟩
def S_b6 (n : Nat) (sq h q mv : Int) (ld : Nat → Int) (al wl : List (Int × Int)) (i : Nat) : St :=
  ⟨mainSl n sq h q mv ++ [(20, .v (.one (.sl (Nat.beq i 0) 3 5 0 0 i i false 5))), (103, .v (ldV n)), (104, .v (AI n)), (105, .v (AI i))], hp3 n ld al wl ++ [(3, .arr (!(Nat.beq i 0)) 5 i (entE (entL ld)))], 4, false, 0, []⟩
def S_at (n : Nat) (sq h q mv : Int) (ld : Nat → Int) (wl : List (Int × Int)) (r : Nat) (m : List (Int × Int)) : St :=
  ⟨mainSl n sq h q mv ++ [(20, .v (.one (.sl false 3 5 0 0 n n false 5))), (23, .v (.one (.mp 4))), (117, itV r)], [(0, .arr true 1 n (intE ld)), (2, .map (mI wl)), (3, .arr true 5 n (entE (entL ld))), (4, .map (mI m))], 5, false, 0, []⟩
abbrev mineSl (n : Nat) (sq h q mv : Int) : Slots := mainSl n sq h q mv ++ [(20, .v (.one (.sl false 3 5 0 0 n n false 5))), (23, .v (.one (.mp 4)))]
abbrev hp5 (n : Nat) (ld : Nat → Int) (al wl m : List (Int × Int)) : Heap := hp3 n ld al wl ++ [(3, .arr true 5 n (entE (entL ld))), (4, .map (mI m))]
def S_bq (n : Nat) (sq h q mv : Int) (ld : Nat → Int) (al wl m : List (Int × Int)) (i : Int) : St :=
  ⟨mineSl n sq h q mv ++ [(26, .v (AI i))], hp5 n ld al wl m, 5, false, 0, []⟩
def S_fi (n : Nat) (sq h q mv : Int) (ld : Nat → Int) (al wl m : List (Int × Int)) : St := ⟨mineSl n sq h q mv, hp5 n ld al wl m, 5, false, 0, []⟩

noncomputable def GEB1 : Ctx := GS.with ss_known15 ll_ro
noncomputable def tgt_d0 (n : Nat) (na : Bool) (ka : Nat) (xa : Nat → Int) (nw : Bool) (kw : Nat) (xw : Nat → Int) (fi : Int) (i : Nat) (ld : Nat → Int) (al wl : List (Int × Int)) : T (Ex × St) := evRound GEB1 300 11 Try.f11.ntmps (loopOf Try.f11 6) 3 [1, 2, 3, 9, 10, 11, 12, 13] [3, 9, 10, 11, 12] (S_d0 n na ka xa nw kw xw fi i ld al wl)
noncomputable def tgt_b2 (n : Nat) (fi sq : Int) (ld : Nat → Int) (al wl : List (Int × Int)) (i : Nat) : T (Ex × St) := evRound GEB1 300 11 Try.f11.ntmps (loopOf Try.f11 16) 3 [3, 9, 10, 11, 12, 14, 85, 86, 87] [3, 9, 10, 11, 12, 14] (S_b2 n fi sq ld al wl i)
noncomputable def tgt_b6 (n : Nat) (sq h q mv : Int) (ld : Nat → Int) (al wl : List (Int × Int)) (i : Nat) : T (Ex × St) := evRound GEB1 300 11 Try.f11.ntmps (loopOf Try.f11 26) 3 [9, 10, 11, 12, 14, 17, 18, 19, 20, 103, 104, 105] [9, 10, 11, 12, 14, 17, 18, 19, 20] (S_b6 n sq h q mv ld al wl i)
noncomputable def tgt_at (n : Nat) (sq h q mv : Int) (ld : Nat → Int) (wl : List (Int × Int)) (r : Nat) (m : List (Int × Int)) (s k : Int) : T (Ex × St) := evRg GEB1 300 11 Try.f11.ntmps cd_at 9 120 5 [9, 10, 11, 12, 14, 17, 18, 19, 20, 23, 117] (S_at n sq h q mv ld wl r m) (.int .i64 s, .int .i64 k)
noncomputable def tgt_bq (n : Nat) (sq h q mv : Int) (ld : Nat → Int) (al wl m : List (Int × Int)) (i : Nat) : T (Ex × St) := evRound GEB1 300 11 Try.f11.ntmps (loopOf Try.f11 37) 5 [9, 10, 11, 12, 14, 17, 18, 19, 20, 23, 26] [9, 10, 11, 12, 14, 17, 18, 19, 20, 23] (S_bq n sq h q mv ld al wl m i)
noncomputable def tgt_Y5 (n : Nat) (na : Bool) (ka : Nat) (xa : Nat → Int) (nw : Bool) (kw : Nat) (xw : Nat → Int) (fi : Int) (ld : Nat → Int) (al wl : List (Int × Int)) : T (Ex × St) := evRound GEB1 300 11 Try.f11.ntmps (fstC (fstC (restC 5 deC))) 3 [1, 2, 3, 9, 10, 11, 12, 13] [] (⟨[(1, .v (.one (.f (.fs na 1 ka (intE xa))))), (2, .v (.one (.f (.fs nw 1 kw (intE xw))))), (3, .v (AI fi)), (9, .v (AI n)), (10, .v (ldV n)), (11, .v (.one (.mp 1))), (12, .v (.one (.mp 2)))], hp3 n ld al wl, 3, false, 0, []⟩)
noncomputable def tgt_Y6 (n : Nat) (fi : Int) (ld : Nat → Int) (al wl : List (Int × Int)) : T (Ex × St) := evCutR GEB1 300 11 Try.f11.ntmps 1 (restC 6 deC) 3 [3, 9, 10, 11, 12, 14] [] (⟨[(3, .v (AI fi)), (9, .v (AI n)), (10, .v (ldV n)), (11, .v (.one (.mp 1))), (12, .v (.one (.mp 2)))], hp3 n ld al wl, 3, false, 0, []⟩)
noncomputable def tgt_Y7 (n : Nat) (fi sq : Int) (ld : Nat → Int) (al wl : List (Int × Int)) : T (Ex × St) := evRound GEB1 300 11 Try.f11.ntmps (fstC (fstC (restC 7 deC))) 3 [3, 9, 10, 11, 12, 14, 85, 86, 87] [] (⟨[(3, .v (AI fi)), (9, .v (AI n)), (10, .v (ldV n)), (11, .v (.one (.mp 1))), (12, .v (.one (.mp 2))), (14, .v (AI sq))], hp3 n ld al wl, 3, false, 0, []⟩)
noncomputable def tgt_Y8 (n : Nat) (fi sq : Int) (ld : Nat → Int) (al wl : List (Int × Int)) : T (Ex × St) := evCutR GEB1 300 11 Try.f11.ntmps 3 (restC 8 deC) 3 [9, 10, 11, 12, 14, 17, 18, 19] [] (⟨[(3, .v (AI fi)), (9, .v (AI n)), (10, .v (ldV n)), (11, .v (.one (.mp 1))), (12, .v (.one (.mp 2))), (14, .v (AI sq))], hp3 n ld al wl, 3, false, 0, []⟩)
noncomputable def tgt_P (n : Nat) (sq h q mv : Int) (ld : Nat → Int) (al wl : List (Int × Int)) : T (Ex × St) := evCutR GEB1 300 11 Try.f11.ntmps 1 (deL) 3 [9, 10, 11, 12, 14, 17, 18, 19] [14, 19] (S_mn n sq h q mv ld al wl)
noncomputable def tgt_X0 (n : Nat) (sq h q mv : Int) (ld : Nat → Int) (al wl : List (Int × Int)) : T (Ex × St) := evCutR GEB1 300 11 Try.f11.ntmps 1 (deX) 3 [9, 10, 11, 12, 14, 17, 18, 19, 20] [] (S_mn n sq h q mv ld al wl)
noncomputable def tgt_X1 (n : Nat) (sq h q mv : Int) (ld : Nat → Int) (al wl : List (Int × Int)) : T (Ex × St) := evRound GEB1 300 11 Try.f11.ntmps (fstC (fstC (restC 1 deX))) 3 [9, 10, 11, 12, 14, 17, 18, 19, 20, 103, 104, 105] [] (⟨mainSl n sq h q mv ++ [(20, .v (.one Nil))], hp3 n ld al wl, 3, false, 0, []⟩)
noncomputable def tgt_X2 (n : Nat) (sq h q mv : Int) (ld : Nat → Int) (al wl : List (Int × Int)) : T (Ex × St) := evCutR GEB1 300 11 Try.f11.ntmps 1 (restC 2 deX) 4 [9, 10, 11, 12, 14, 17, 18, 19, 20, 23] [] (⟨mainSl n sq h q mv ++ [(20, .v (.one (.sl false 3 5 0 0 n n false 5)))], hp3 n ld al wl ++ [(3, .arr true 5 n (entE (entL ld)))], 4, false, 0, []⟩)
noncomputable def tgt_X4 (n : Nat) (sq h q mv : Int) (ld : Nat → Int) (al wl m : List (Int × Int)) : T (Ex × St) := evRound GEB1 300 11 Try.f11.ntmps (fstC (fstC (restC 4 deX))) 5 [9, 10, 11, 12, 14, 17, 18, 19, 20, 23, 26] [] (S_fi n sq h q mv ld al wl m)
noncomputable def tgt_Z (sq mv : Int) : T (Ex × St) := evRound GEB1 300 11 Try.f11.ntmps (restC 12 deC) 0 [8] [8] (⟨[(14, .v (AI sq)), (19, .v (AI mv))], [], 0, false, 0, []⟩)
theorem GKEB1 : KnownOk Try.prog GEB1 := KnownOk.lists ss_known15_ok ll_ro_ok
theorem GOEB1 : CtxOk Try.prog GEB1 := GS_ok.with _ _
theorem tree_d0 (n : Nat) (na : Bool) (ka : Nat) (xa : Nat → Int) (nw : Bool) (kw : Nat) (xw : Nat → Int) (fi : Int) (i : Nat) (ld : Nat → Int) (al wl : List (Int × Int)) : (tgt_d0 n na ka xa nw kw xw fi i ld al wl).over (.br (.br (.br (.br (.br (.tt (.br (.br (.br (.br (.br (.br (.br (.br (.tt (.br (.tt (.br (.br (.tt (.br (.tt (.br .leaf .skip)) .skip)) .skip) .skip)) .skip)) .skip) .skip) .skip) .skip) .skip) .skip) (.br (.br (.tt (.br (.tt (.br (.br (.tt (.br (.tt (.br .leaf .skip)) .skip)) .skip) .skip)) .skip)) .skip) .skip)) .skip)) .skip) .skip) (.br (.br (.br (.br (.br (.br (.br (.tt (.br (.tt (.br (.br (.tt (.br (.tt (.br .leaf .skip)) .skip)) .skip) .skip)) .skip)) .skip) .skip) .skip) .skip) .skip) .skip) (.br (.br (.tt (.br (.tt (.br (.br (.tt (.br (.tt (.br .leaf .skip)) .skip)) .skip) .skip)) .skip)) .skip) .skip))) .skip) .leaf) = T.br (decide ((↑i : Int) < (6 : Int))) (T.br (keysOk (Value.int IntKind.i64 (↑i : Int)) (mI wl)) (T.br (decide ((↑i : Int) < (↑kw : Int))) (T.br (!nw) (T.br (decide ((0 : Int) ≤ (↑i : Int) ∧ (↑i : Int) < (↑kw : Int))) (T.br (keysOk (Value.int IntKind.i64 (↑i : Int)) (setM (Value.int IntKind.i64 (↑i : Int)) (Value.int IntKind.i64 (1 : Int)) (mI wl))) (T.br (decide ((↑i : Int) < (↑ka : Int))) (T.br (!na) (T.br (decide ((0 : Int) ≤ (↑i : Int) ∧ (↑i : Int) < (↑ka : Int))) (T.br (decide ((0 : Int) < (↑n : Int) ∧ (↑n : Int) ≤ (9223372036854775807 : Int))) (T.br (keysOk (Value.int IntKind.i64 (↑i : Int)) (mI al)) (T.br (keysOk (Value.int IntKind.i64 (↑i : Int)) (setM (Value.int IntKind.i64 (↑i : Int)) (Value.int IntKind.i64 (xa i % (↑n : Int))) (mI al)) && intsOk IntKind.i64 (setM (Value.int IntKind.i64 (↑i : Int)) (Value.int IntKind.i64 (xa i % (↑n : Int))) (mI al))) (T.br (keysOk (Value.int IntKind.i64 (↑i : Int)) (setM (Value.int IntKind.i64 (↑i : Int)) (Value.int IntKind.i64 (xa i % (↑n : Int))) (mI al)) && intsOk IntKind.i64 (setM (Value.int IntKind.i64 (↑i : Int)) (Value.int IntKind.i64 (xa i % (↑n : Int))) (mI al))) (T.br (decide ((0 : Int) ≤ intM (Value.int IntKind.i64 (↑i : Int)) (setM (Value.int IntKind.i64 (↑i : Int)) (Value.int IntKind.i64 (xa i % (↑n : Int))) (mI al)) ∧ intM (Value.int IntKind.i64 (↑i : Int)) (setM (Value.int IntKind.i64 (↑i : Int)) (Value.int IntKind.i64 (xa i % (↑n : Int))) (mI al)) < (↑n : Int))) (T.br (Nat.ble (0 + Int.toNat (intM (Value.int IntKind.i64 (↑i : Int)) (setM (Value.int IntKind.i64 (↑i : Int)) (Value.int IntKind.i64 (xa i % (↑n : Int))) (mI al))) + 1) n) (T.br (keysOk (Value.int IntKind.i64 (↑i : Int)) (setM (Value.int IntKind.i64 (↑i : Int)) (Value.int IntKind.i64 (IntKind.wrap IntKind.i64 ((1 : Int) + xw i % (9 : Int)))) (setM (Value.int IntKind.i64 (↑i : Int)) (Value.int IntKind.i64 (1 : Int)) (mI wl))) && intsOk IntKind.i64 (setM (Value.int IntKind.i64 (↑i : Int)) (Value.int IntKind.i64 (IntKind.wrap IntKind.i64 ((1 : Int) + xw i % (9 : Int)))) (setM (Value.int IntKind.i64 (↑i : Int)) (Value.int IntKind.i64 (1 : Int)) (mI wl)))) (T.br (decide ((0 : Int) ≤ intM (Value.int IntKind.i64 (↑i : Int)) (setM (Value.int IntKind.i64 (↑i : Int)) (Value.int IntKind.i64 (xa i % (↑n : Int))) (mI al)) ∧ intM (Value.int IntKind.i64 (↑i : Int)) (setM (Value.int IntKind.i64 (↑i : Int)) (Value.int IntKind.i64 (xa i % (↑n : Int))) (mI al)) < (↑n : Int))) (T.br (Nat.ble (0 + Int.toNat (intM (Value.int IntKind.i64 (↑i : Int)) (setM (Value.int IntKind.i64 (↑i : Int)) (Value.int IntKind.i64 (xa i % (↑n : Int))) (mI al))) + 1) n) (T.ret (Ex.normal, ⟨[(1, SV.v (AV.one (CV.f (FV.fs na 1 ka fun a => [FV.lit (.int .i64 (xa a))])))), (2, SV.v (AV.one (CV.f (FV.fs nw 1 kw fun a => [FV.lit (.int .i64 (xw a))])))), (3, SV.v (AI fi)), (9, SV.v (AI (↑n : Int))), (10, SV.v (AV.one (CV.sl false 0 1 0 0 n n true 1))), (11, SV.v (AV.one (CV.mp 1))), (12, SV.v (AV.one (CV.mp 2))), (13, SV.v (AI (IntKind.wrap IntKind.i64 ((↑i : Int) + (1 : Int)))))], [(0, Ob.arr true 1 n fun i' => [FV.lit (.int .i64 (bif Nat.beq i' (0 + Int.toNat (intM (Value.int IntKind.i64 (↑i : Int)) (setM (Value.int IntKind.i64 (↑i : Int)) (Value.int IntKind.i64 (xa i % (↑n : Int))) (mI al)))) then IntKind.wrap IntKind.i64 (ld (0 + Int.toNat (intM (Value.int IntKind.i64 (↑i : Int)) (setM (Value.int IntKind.i64 (↑i : Int)) (Value.int IntKind.i64 (xa i % (↑n : Int))) (mI al)))) + intM (Value.int IntKind.i64 (↑i : Int)) (setM (Value.int IntKind.i64 (↑i : Int)) (Value.int IntKind.i64 (IntKind.wrap IntKind.i64 ((1 : Int) + xw i % (9 : Int)))) (setM (Value.int IntKind.i64 (↑i : Int)) (Value.int IntKind.i64 (1 : Int)) (mI wl)))) else ld i'))]), (1, Ob.map (setM (Value.int IntKind.i64 (↑i : Int)) (Value.int IntKind.i64 (xa i % (↑n : Int))) (mI al))), (2, Ob.map (setM (Value.int IntKind.i64 (↑i : Int)) (Value.int IntKind.i64 (IntKind.wrap IntKind.i64 ((1 : Int) + xw i % (9 : Int)))) (setM (Value.int IntKind.i64 (↑i : Int)) (Value.int IntKind.i64 (1 : Int)) (mI wl))))], 3, false, 0, []⟩)) T.bad) T.bad) T.bad) T.bad) T.bad) T.bad) T.bad) T.bad) T.bad) T.bad) T.bad) (T.br (keysOk (Value.int IntKind.i64 (↑i : Int)) (mI al) && intsOk IntKind.i64 (mI al)) (T.br (keysOk (Value.int IntKind.i64 (↑i : Int)) (mI al) && intsOk IntKind.i64 (mI al)) (T.br (decide ((0 : Int) ≤ intM (Value.int IntKind.i64 (↑i : Int)) (mI al) ∧ intM (Value.int IntKind.i64 (↑i : Int)) (mI al) < (↑n : Int))) (T.br (Nat.ble (0 + Int.toNat (intM (Value.int IntKind.i64 (↑i : Int)) (mI al)) + 1) n) (T.br (keysOk (Value.int IntKind.i64 (↑i : Int)) (setM (Value.int IntKind.i64 (↑i : Int)) (Value.int IntKind.i64 (IntKind.wrap IntKind.i64 ((1 : Int) + xw i % (9 : Int)))) (setM (Value.int IntKind.i64 (↑i : Int)) (Value.int IntKind.i64 (1 : Int)) (mI wl))) && intsOk IntKind.i64 (setM (Value.int IntKind.i64 (↑i : Int)) (Value.int IntKind.i64 (IntKind.wrap IntKind.i64 ((1 : Int) + xw i % (9 : Int)))) (setM (Value.int IntKind.i64 (↑i : Int)) (Value.int IntKind.i64 (1 : Int)) (mI wl)))) (T.br (decide ((0 : Int) ≤ intM (Value.int IntKind.i64 (↑i : Int)) (mI al) ∧ intM (Value.int IntKind.i64 (↑i : Int)) (mI al) < (↑n : Int))) (T.br (Nat.ble (0 + Int.toNat (intM (Value.int IntKind.i64 (↑i : Int)) (mI al)) + 1) n) (T.ret (Ex.normal, ⟨[(1, SV.v (AV.one (CV.f (FV.fs na 1 ka fun a => [FV.lit (.int .i64 (xa a))])))), (2, SV.v (AV.one (CV.f (FV.fs nw 1 kw fun a => [FV.lit (.int .i64 (xw a))])))), (3, SV.v (AI fi)), (9, SV.v (AI (↑n : Int))), (10, SV.v (AV.one (CV.sl false 0 1 0 0 n n true 1))), (11, SV.v (AV.one (CV.mp 1))), (12, SV.v (AV.one (CV.mp 2))), (13, SV.v (AI (IntKind.wrap IntKind.i64 ((↑i : Int) + (1 : Int)))))], [(0, Ob.arr true 1 n fun i' => [FV.lit (.int .i64 (bif Nat.beq i' (0 + Int.toNat (intM (Value.int IntKind.i64 (↑i : Int)) (mI al))) then IntKind.wrap IntKind.i64 (ld (0 + Int.toNat (intM (Value.int IntKind.i64 (↑i : Int)) (mI al))) + intM (Value.int IntKind.i64 (↑i : Int)) (setM (Value.int IntKind.i64 (↑i : Int)) (Value.int IntKind.i64 (IntKind.wrap IntKind.i64 ((1 : Int) + xw i % (9 : Int)))) (setM (Value.int IntKind.i64 (↑i : Int)) (Value.int IntKind.i64 (1 : Int)) (mI wl)))) else ld i'))]), (1, Ob.map (mI al)), (2, Ob.map (setM (Value.int IntKind.i64 (↑i : Int)) (Value.int IntKind.i64 (IntKind.wrap IntKind.i64 ((1 : Int) + xw i % (9 : Int)))) (setM (Value.int IntKind.i64 (↑i : Int)) (Value.int IntKind.i64 (1 : Int)) (mI wl))))], 3, false, 0, []⟩)) T.bad) T.bad) T.bad) T.bad) T.bad) T.bad) T.bad)) T.bad) T.bad) T.bad) (T.br (decide ((↑i : Int) < (↑ka : Int))) (T.br (!na) (T.br (decide ((0 : Int) ≤ (↑i : Int) ∧ (↑i : Int) < (↑ka : Int))) (T.br (decide ((0 : Int) < (↑n : Int) ∧ (↑n : Int) ≤ (9223372036854775807 : Int))) (T.br (keysOk (Value.int IntKind.i64 (↑i : Int)) (mI al)) (T.br (keysOk (Value.int IntKind.i64 (↑i : Int)) (setM (Value.int IntKind.i64 (↑i : Int)) (Value.int IntKind.i64 (xa i % (↑n : Int))) (mI al)) && intsOk IntKind.i64 (setM (Value.int IntKind.i64 (↑i : Int)) (Value.int IntKind.i64 (xa i % (↑n : Int))) (mI al))) (T.br (keysOk (Value.int IntKind.i64 (↑i : Int)) (setM (Value.int IntKind.i64 (↑i : Int)) (Value.int IntKind.i64 (xa i % (↑n : Int))) (mI al)) && intsOk IntKind.i64 (setM (Value.int IntKind.i64 (↑i : Int)) (Value.int IntKind.i64 (xa i % (↑n : Int))) (mI al))) (T.br (decide ((0 : Int) ≤ intM (Value.int IntKind.i64 (↑i : Int)) (setM (Value.int IntKind.i64 (↑i : Int)) (Value.int IntKind.i64 (xa i % (↑n : Int))) (mI al)) ∧ intM (Value.int IntKind.i64 (↑i : Int)) (setM (Value.int IntKind.i64 (↑i : Int)) (Value.int IntKind.i64 (xa i % (↑n : Int))) (mI al)) < (↑n : Int))) (T.br (Nat.ble (0 + Int.toNat (intM (Value.int IntKind.i64 (↑i : Int)) (setM (Value.int IntKind.i64 (↑i : Int)) (Value.int IntKind.i64 (xa i % (↑n : Int))) (mI al))) + 1) n) (T.br (keysOk (Value.int IntKind.i64 (↑i : Int)) (setM (Value.int IntKind.i64 (↑i : Int)) (Value.int IntKind.i64 (1 : Int)) (mI wl)) && intsOk IntKind.i64 (setM (Value.int IntKind.i64 (↑i : Int)) (Value.int IntKind.i64 (1 : Int)) (mI wl))) (T.br (decide ((0 : Int) ≤ intM (Value.int IntKind.i64 (↑i : Int)) (setM (Value.int IntKind.i64 (↑i : Int)) (Value.int IntKind.i64 (xa i % (↑n : Int))) (mI al)) ∧ intM (Value.int IntKind.i64 (↑i : Int)) (setM (Value.int IntKind.i64 (↑i : Int)) (Value.int IntKind.i64 (xa i % (↑n : Int))) (mI al)) < (↑n : Int))) (T.br (Nat.ble (0 + Int.toNat (intM (Value.int IntKind.i64 (↑i : Int)) (setM (Value.int IntKind.i64 (↑i : Int)) (Value.int IntKind.i64 (xa i % (↑n : Int))) (mI al))) + 1) n) (T.ret (Ex.normal, ⟨[(1, SV.v (AV.one (CV.f (FV.fs na 1 ka fun a => [FV.lit (.int .i64 (xa a))])))), (2, SV.v (AV.one (CV.f (FV.fs nw 1 kw fun a => [FV.lit (.int .i64 (xw a))])))), (3, SV.v (AI fi)), (9, SV.v (AI (↑n : Int))), (10, SV.v (AV.one (CV.sl false 0 1 0 0 n n true 1))), (11, SV.v (AV.one (CV.mp 1))), (12, SV.v (AV.one (CV.mp 2))), (13, SV.v (AI (IntKind.wrap IntKind.i64 ((↑i : Int) + (1 : Int)))))], [(0, Ob.arr true 1 n fun i' => [FV.lit (.int .i64 (bif Nat.beq i' (0 + Int.toNat (intM (Value.int IntKind.i64 (↑i : Int)) (setM (Value.int IntKind.i64 (↑i : Int)) (Value.int IntKind.i64 (xa i % (↑n : Int))) (mI al)))) then IntKind.wrap IntKind.i64 (ld (0 + Int.toNat (intM (Value.int IntKind.i64 (↑i : Int)) (setM (Value.int IntKind.i64 (↑i : Int)) (Value.int IntKind.i64 (xa i % (↑n : Int))) (mI al)))) + intM (Value.int IntKind.i64 (↑i : Int)) (setM (Value.int IntKind.i64 (↑i : Int)) (Value.int IntKind.i64 (1 : Int)) (mI wl))) else ld i'))]), (1, Ob.map (setM (Value.int IntKind.i64 (↑i : Int)) (Value.int IntKind.i64 (xa i % (↑n : Int))) (mI al))), (2, Ob.map (setM (Value.int IntKind.i64 (↑i : Int)) (Value.int IntKind.i64 (1 : Int)) (mI wl)))], 3, false, 0, []⟩)) T.bad) T.bad) T.bad) T.bad) T.bad) T.bad) T.bad) T.bad) T.bad) T.bad) T.bad) (T.br (keysOk (Value.int IntKind.i64 (↑i : Int)) (mI al) && intsOk IntKind.i64 (mI al)) (T.br (keysOk (Value.int IntKind.i64 (↑i : Int)) (mI al) && intsOk IntKind.i64 (mI al)) (T.br (decide ((0 : Int) ≤ intM (Value.int IntKind.i64 (↑i : Int)) (mI al) ∧ intM (Value.int IntKind.i64 (↑i : Int)) (mI al) < (↑n : Int))) (T.br (Nat.ble (0 + Int.toNat (intM (Value.int IntKind.i64 (↑i : Int)) (mI al)) + 1) n) (T.br (keysOk (Value.int IntKind.i64 (↑i : Int)) (setM (Value.int IntKind.i64 (↑i : Int)) (Value.int IntKind.i64 (1 : Int)) (mI wl)) && intsOk IntKind.i64 (setM (Value.int IntKind.i64 (↑i : Int)) (Value.int IntKind.i64 (1 : Int)) (mI wl))) (T.br (decide ((0 : Int) ≤ intM (Value.int IntKind.i64 (↑i : Int)) (mI al) ∧ intM (Value.int IntKind.i64 (↑i : Int)) (mI al) < (↑n : Int))) (T.br (Nat.ble (0 + Int.toNat (intM (Value.int IntKind.i64 (↑i : Int)) (mI al)) + 1) n) (T.ret (Ex.normal, ⟨[(1, SV.v (AV.one (CV.f (FV.fs na 1 ka fun a => [FV.lit (.int .i64 (xa a))])))), (2, SV.v (AV.one (CV.f (FV.fs nw 1 kw fun a => [FV.lit (.int .i64 (xw a))])))), (3, SV.v (AI fi)), (9, SV.v (AI (↑n : Int))), (10, SV.v (AV.one (CV.sl false 0 1 0 0 n n true 1))), (11, SV.v (AV.one (CV.mp 1))), (12, SV.v (AV.one (CV.mp 2))), (13, SV.v (AI (IntKind.wrap IntKind.i64 ((↑i : Int) + (1 : Int)))))], [(0, Ob.arr true 1 n fun i' => [FV.lit (.int .i64 (bif Nat.beq i' (0 + Int.toNat (intM (Value.int IntKind.i64 (↑i : Int)) (mI al))) then IntKind.wrap IntKind.i64 (ld (0 + Int.toNat (intM (Value.int IntKind.i64 (↑i : Int)) (mI al))) + intM (Value.int IntKind.i64 (↑i : Int)) (setM (Value.int IntKind.i64 (↑i : Int)) (Value.int IntKind.i64 (1 : Int)) (mI wl))) else ld i'))]), (1, Ob.map (mI al)), (2, Ob.map (setM (Value.int IntKind.i64 (↑i : Int)) (Value.int IntKind.i64 (1 : Int)) (mI wl)))], 3, false, 0, []⟩)) T.bad) T.bad) T.bad) T.bad) T.bad) T.bad) T.bad))) T.bad) (T.ret (Ex.exit 0, ⟨[(3, SV.v (AI fi)), (9, SV.v (AI (↑n : Int))), (10, SV.v (AV.one (CV.sl false 0 1 0 0 n n true 1))), (11, SV.v (AV.one (CV.mp 1))), (12, SV.v (AV.one (CV.mp 2)))], [(0, Ob.arr true 1 n fun a => [FV.lit (.int .i64 (ld a))]), (1, Ob.map (mI al)), (2, Ob.map (mI wl))], 3, false, 0, []⟩)) := by kernel_rfl
theorem tree_b2 (n : Nat) (fi sq : Int) (ld : Nat → Int) (al wl : List (Int × Int)) (i : Nat) : (tgt_b2 n fi sq ld al wl i).over (.br (.tt (.br (.tt (.br .leaf .skip)) .skip)) .leaf) = T.br (decide ((↑i : Int) < (↑n : Int))) (T.br (decide ((0 : Int) ≤ (↑i : Int) ∧ (↑i : Int) < (↑n : Int))) (T.br (Nat.ble (0 + i + 1) n) (T.ret (Ex.normal, ⟨[(3, SV.v (AI fi)), (9, SV.v (AI (↑n : Int))), (10, SV.v (AV.one (CV.sl false 0 1 0 0 n n true 1))), (11, SV.v (AV.one (CV.mp 1))), (12, SV.v (AV.one (CV.mp 2))), (14, SV.v (AI (IntKind.wrap IntKind.i64 (sq + IntKind.wrap IntKind.i64 (ld (0 + i) * ld (0 + i)))))), (85, SV.v (AV.one (CV.sl false 0 1 0 0 n n true 1))), (86, SV.v (AI (↑n : Int))), (87, SV.v (AI (IntKind.wrap IntKind.i64 ((↑i : Int) + (1 : Int)))))], [(0, Ob.arr true 1 n fun a => [FV.lit (.int .i64 (ld a))]), (1, Ob.map (mI al)), (2, Ob.map (mI wl))], 3, false, 0, []⟩)) T.bad) T.bad) (T.ret (Ex.exit 2, ⟨[(3, SV.v (AI fi)), (9, SV.v (AI (↑n : Int))), (10, SV.v (AV.one (CV.sl false 0 1 0 0 n n true 1))), (11, SV.v (AV.one (CV.mp 1))), (12, SV.v (AV.one (CV.mp 2))), (14, SV.v (AI sq))], [(0, Ob.arr true 1 n fun a => [FV.lit (.int .i64 (ld a))]), (1, Ob.map (mI al)), (2, Ob.map (mI wl))], 3, false, 0, []⟩)) := by kernel_rfl
theorem tree_b6 (n : Nat) (sq h q mv : Int) (ld : Nat → Int) (al wl : List (Int × Int)) (i : Nat) : (tgt_b6 n sq h q mv ld al wl i).over (.br (.tt (.br (.tt (.br (.tt (.ff (.br (.br .skip .skip) (.br (.br .leaf .skip) .skip)))) .skip)) .skip)) .leaf) = T.br (decide ((↑i : Int) < (↑n : Int))) (T.br (decide ((0 : Int) ≤ (↑i : Int) ∧ (↑i : Int) < (↑n : Int))) (T.br (Nat.ble (0 + i + 1) n) (T.br (Nat.ble (i + 1) i) (T.br (!Nat.beq i 0) T.bad T.bad) (T.br (smallB (i + 1) 40) (T.br ((Nat.beq i 0 || !Nat.beq i 0) && Nat.ble (0 + i) i) (T.ret (Ex.normal, ⟨[(9, SV.v (AI (↑n : Int))), (10, SV.v (AV.one (CV.sl false 0 1 0 0 n n true 1))), (11, SV.v (AV.one (CV.mp 1))), (12, SV.v (AV.one (CV.mp 2))), (14, SV.v (AI sq)), (17, SV.v (AI h)), (18, SV.v (AI q)), (19, SV.v (AI mv)), (20, SV.v (AV.one (CV.sl false 3 5 0 0 (i + 1) (i + 1) false 5))), (103, SV.v (AV.one (CV.sl false 0 1 0 0 n n true 1))), (104, SV.v (AI (↑n : Int))), (105, SV.v (AI (IntKind.wrap IntKind.i64 ((↑i : Int) + (1 : Int)))))], [(0, Ob.arr true 1 n fun a => [FV.lit (.int .i64 (ld a))]), (1, Ob.map (mI al)), (2, Ob.map (mI wl)), (3, Ob.arr true 5 (i + 1) fun i_1 => [FV.lit (.int .i64 (bif Nat.ble (i_1 + 1) i then Ent.inc (entL ld (0 + i_1)) else (0 : Int))), FV.lit (.int .i64 (bif Nat.ble (i_1 + 1) i then Ent.st (entL ld (0 + i_1)) else (0 : Int))), FV.lit (.int .i64 (bif Nat.ble (i_1 + 1) i then Ent.stamp (entL ld (0 + i_1)) else (0 : Int))), FV.lit (.int .i64 (bif Nat.ble (i_1 + 1) i then Ent.load (entL ld (0 + i_1)) else ld (0 + i))), FV.lit (Value.bool (bif Nat.ble (i_1 + 1) i then Ent.dr (entL ld (0 + i_1)) else false))])], 4, false, 0, []⟩)) T.bad) T.bad)) T.bad) T.bad) (T.ret (Ex.exit 6, ⟨[(9, SV.v (AI (↑n : Int))), (10, SV.v (AV.one (CV.sl false 0 1 0 0 n n true 1))), (11, SV.v (AV.one (CV.mp 1))), (12, SV.v (AV.one (CV.mp 2))), (14, SV.v (AI sq)), (17, SV.v (AI h)), (18, SV.v (AI q)), (19, SV.v (AI mv)), (20, SV.v (AV.one (CV.sl (Nat.beq i 0) 3 5 0 0 i i false 5)))], [(0, Ob.arr true 1 n fun a => [FV.lit (.int .i64 (ld a))]), (1, Ob.map (mI al)), (2, Ob.map (mI wl)), (3, Ob.arr (!Nat.beq i 0) 5 i fun a => [FV.lit (.int .i64 (0 : Int)), FV.lit (.int .i64 (0 : Int)), FV.lit (.int .i64 (0 : Int)), FV.lit (.int .i64 (Ent.load (entL ld a))), FV.lit (Value.bool false)])], 4, false, 0, []⟩)) := by kernel_rfl
theorem tree_at (n : Nat) (sq h q mv : Int) (ld : Nat → Int) (wl : List (Int × Int)) (r : Nat) (m : List (Int × Int)) (s k : Int) : (tgt_at n sq h q mv ld wl r m s k).over (.br (.br (.br .leaf .skip) .skip) .leaf) = T.br (k == h) (T.br (keysOk (Prod.fst (Value.int IntKind.i64 s, Value.int IntKind.i64 k)) (mI wl) && intsOk IntKind.i64 (mI wl)) (T.br (keysOk (Prod.fst (Value.int IntKind.i64 s, Value.int IntKind.i64 k)) (mI m)) (T.ret (Ex.normal, ⟨[(9, SV.v (AI (↑n : Int))), (10, SV.v (AV.one (CV.sl false 0 1 0 0 n n true 1))), (11, SV.v (AV.one (CV.mp 1))), (12, SV.v (AV.one (CV.mp 2))), (14, SV.v (AI sq)), (17, SV.v (AI h)), (18, SV.v (AI q)), (19, SV.v (AI mv)), (20, SV.v (AV.one (CV.sl false 3 5 0 0 n n false 5))), (23, SV.v (AV.one (CV.mp 4))), (117, SV.v (AV.one (CV.f (FV.lit (Value.pointer (some { block := r, off := 0 : Addr }))))))], [(0, Ob.arr true 1 n fun a => [FV.lit (Value.int IntKind.i64 (ld a))]), (2, Ob.map (mI wl)), (3, Ob.arr true 5 n fun a => [FV.lit (Value.int IntKind.i64 (0 : Int)), FV.lit (Value.int IntKind.i64 (0 : Int)), FV.lit (Value.int IntKind.i64 (0 : Int)), FV.lit (Value.int IntKind.i64 (Ent.load (entL ld a))), FV.lit (Value.bool false)]), (4, Ob.map (setM (Prod.fst (Value.int IntKind.i64 s, Value.int IntKind.i64 k)) (Value.int IntKind.i64 (intM (Prod.fst (Value.int IntKind.i64 s, Value.int IntKind.i64 k)) (mI wl))) (mI m)))], 5, false, 0, []⟩)) T.bad) T.bad) (T.ret (Ex.normal, ⟨[(9, SV.v (AI (↑n : Int))), (10, SV.v (AV.one (CV.sl false 0 1 0 0 n n true 1))), (11, SV.v (AV.one (CV.mp 1))), (12, SV.v (AV.one (CV.mp 2))), (14, SV.v (AI sq)), (17, SV.v (AI h)), (18, SV.v (AI q)), (19, SV.v (AI mv)), (20, SV.v (AV.one (CV.sl false 3 5 0 0 n n false 5))), (23, SV.v (AV.one (CV.mp 4))), (117, SV.v (AV.one (CV.f (FV.lit (Value.pointer (some { block := r, off := 0 : Addr }))))))], [(0, Ob.arr true 1 n fun a => [FV.lit (Value.int IntKind.i64 (ld a))]), (2, Ob.map (mI wl)), (3, Ob.arr true 5 n fun a => [FV.lit (Value.int IntKind.i64 (0 : Int)), FV.lit (Value.int IntKind.i64 (0 : Int)), FV.lit (Value.int IntKind.i64 (0 : Int)), FV.lit (Value.int IntKind.i64 (Ent.load (entL ld a))), FV.lit (Value.bool false)]), (4, Ob.map (mI m))], 5, false, 0, []⟩)) := by kernel_rfl
theorem tree_bq (n : Nat) (sq h q mv : Int) (ld : Nat → Int) (al wl m : List (Int × Int)) (i : Nat) : (tgt_bq n sq h q mv ld al wl m i).over (.br (.br (.br (.tt (.tt (.br (.br (.br .leaf .skip) .skip) .leaf))) (.ff (.ff (.ff .leaf)))) .skip) .leaf) = T.br (decide ((↑i : Int) < (6 : Int))) (T.br (keysOk (Value.int IntKind.i64 (↑i : Int)) (mI al) && intsOk IntKind.i64 (mI al)) (T.br (!hasM (Value.int IntKind.i64 (↑i : Int)) (mI al)) (T.br (h == (0 : Int)) (T.br (keysOk (Value.int IntKind.i64 (↑i : Int)) (mI wl) && intsOk IntKind.i64 (mI wl)) (T.br (keysOk (Value.int IntKind.i64 (↑i : Int)) (mI m)) (T.ret (Ex.normal, ⟨[(9, SV.v (AI (↑n : Int))), (10, SV.v (AV.one (CV.sl false 0 1 0 0 n n true 1))), (11, SV.v (AV.one (CV.mp 1))), (12, SV.v (AV.one (CV.mp 2))), (14, SV.v (AI sq)), (17, SV.v (AI h)), (18, SV.v (AI q)), (19, SV.v (AI mv)), (20, SV.v (AV.one (CV.sl false 3 5 0 0 n n false 5))), (23, SV.v (AV.one (CV.mp 4))), (26, SV.v (AI (IntKind.wrap IntKind.i64 ((↑i : Int) + (1 : Int)))))], [(0, Ob.arr true 1 n fun a => [FV.lit (.int .i64 (ld a))]), (1, Ob.map (mI al)), (2, Ob.map (mI wl)), (3, Ob.arr true 5 n fun a => [FV.lit (.int .i64 (0 : Int)), FV.lit (.int .i64 (0 : Int)), FV.lit (.int .i64 (0 : Int)), FV.lit (.int .i64 (Ent.load (entL ld a))), FV.lit (Value.bool false)]), (4, Ob.map (setM (Value.int IntKind.i64 (↑i : Int)) (Value.int IntKind.i64 (intM (Value.int IntKind.i64 (↑i : Int)) (mI wl))) (mI m)))], 5, false, 0, []⟩)) T.bad) T.bad) (T.ret (Ex.normal, ⟨[(9, SV.v (AI (↑n : Int))), (10, SV.v (AV.one (CV.sl false 0 1 0 0 n n true 1))), (11, SV.v (AV.one (CV.mp 1))), (12, SV.v (AV.one (CV.mp 2))), (14, SV.v (AI sq)), (17, SV.v (AI h)), (18, SV.v (AI q)), (19, SV.v (AI mv)), (20, SV.v (AV.one (CV.sl false 3 5 0 0 n n false 5))), (23, SV.v (AV.one (CV.mp 4))), (26, SV.v (AI (IntKind.wrap IntKind.i64 ((↑i : Int) + (1 : Int)))))], [(0, Ob.arr true 1 n fun a => [FV.lit (.int .i64 (ld a))]), (1, Ob.map (mI al)), (2, Ob.map (mI wl)), (3, Ob.arr true 5 n fun a => [FV.lit (.int .i64 (0 : Int)), FV.lit (.int .i64 (0 : Int)), FV.lit (.int .i64 (0 : Int)), FV.lit (.int .i64 (Ent.load (entL ld a))), FV.lit (Value.bool false)]), (4, Ob.map (mI m))], 5, false, 0, []⟩))) (T.ret (Ex.normal, ⟨[(9, SV.v (AI (↑n : Int))), (10, SV.v (AV.one (CV.sl false 0 1 0 0 n n true 1))), (11, SV.v (AV.one (CV.mp 1))), (12, SV.v (AV.one (CV.mp 2))), (14, SV.v (AI sq)), (17, SV.v (AI h)), (18, SV.v (AI q)), (19, SV.v (AI mv)), (20, SV.v (AV.one (CV.sl false 3 5 0 0 n n false 5))), (23, SV.v (AV.one (CV.mp 4))), (26, SV.v (AI (IntKind.wrap IntKind.i64 ((↑i : Int) + (1 : Int)))))], [(0, Ob.arr true 1 n fun a => [FV.lit (.int .i64 (ld a))]), (1, Ob.map (mI al)), (2, Ob.map (mI wl)), (3, Ob.arr true 5 n fun a => [FV.lit (.int .i64 (0 : Int)), FV.lit (.int .i64 (0 : Int)), FV.lit (.int .i64 (0 : Int)), FV.lit (.int .i64 (Ent.load (entL ld a))), FV.lit (Value.bool false)]), (4, Ob.map (mI m))], 5, false, 0, []⟩))) T.bad) (T.ret (Ex.exit 10, ⟨[(9, SV.v (AI (↑n : Int))), (10, SV.v (AV.one (CV.sl false 0 1 0 0 n n true 1))), (11, SV.v (AV.one (CV.mp 1))), (12, SV.v (AV.one (CV.mp 2))), (14, SV.v (AI sq)), (17, SV.v (AI h)), (18, SV.v (AI q)), (19, SV.v (AI mv)), (20, SV.v (AV.one (CV.sl false 3 5 0 0 n n false 5))), (23, SV.v (AV.one (CV.mp 4)))], [(0, Ob.arr true 1 n fun a => [FV.lit (.int .i64 (ld a))]), (1, Ob.map (mI al)), (2, Ob.map (mI wl)), (3, Ob.arr true 5 n fun a => [FV.lit (.int .i64 (0 : Int)), FV.lit (.int .i64 (0 : Int)), FV.lit (.int .i64 (0 : Int)), FV.lit (.int .i64 (Ent.load (entL ld a))), FV.lit (Value.bool false)]), (4, Ob.map (mI m))], 5, false, 0, []⟩)) := by kernel_rfl
theorem tree_Y5 (n : Nat) (na : Bool) (ka : Nat) (xa : Nat → Int) (nw : Bool) (kw : Nat) (xw : Nat → Int) (fi : Int) (ld : Nat → Int) (al wl : List (Int × Int)) : (tgt_Y5 n na ka xa nw kw xw fi ld al wl).over .leaf = T.ret (Ex.normal, ⟨[(1, SV.v (AV.one (CV.f (FV.fs na 1 ka fun a => [FV.lit (.int .i64 (xa a))])))), (2, SV.v (AV.one (CV.f (FV.fs nw 1 kw fun a => [FV.lit (.int .i64 (xw a))])))), (3, SV.v (AI fi)), (9, SV.v (AI (↑n : Int))), (10, SV.v (AV.one (CV.sl false 0 1 0 0 n n true 1))), (11, SV.v (AV.one (CV.mp 1))), (12, SV.v (AV.one (CV.mp 2))), (13, SV.v (AI (0 : Int)))], [(0, Ob.arr true 1 n fun a => [FV.lit (.int .i64 (ld a))]), (1, Ob.map (mI al)), (2, Ob.map (mI wl))], 3, false, 0, []⟩) := by kernel_rfl
theorem tree_Y6 (n : Nat) (fi : Int) (ld : Nat → Int) (al wl : List (Int × Int)) : (tgt_Y6 n fi ld al wl).over .leaf = T.ret (Ex.normal, ⟨[(3, SV.v (AI fi)), (9, SV.v (AI (↑n : Int))), (10, SV.v (AV.one (CV.sl false 0 1 0 0 n n true 1))), (11, SV.v (AV.one (CV.mp 1))), (12, SV.v (AV.one (CV.mp 2))), (14, SV.v (AI (0 : Int)))], [(0, Ob.arr true 1 n fun a => [FV.lit (.int .i64 (ld a))]), (1, Ob.map (mI al)), (2, Ob.map (mI wl))], 3, false, 0, []⟩) := by kernel_rfl
theorem tree_Y7 (n : Nat) (fi sq : Int) (ld : Nat → Int) (al wl : List (Int × Int)) : (tgt_Y7 n fi sq ld al wl).over .leaf = T.ret (Ex.normal, ⟨[(3, SV.v (AI fi)), (9, SV.v (AI (↑n : Int))), (10, SV.v (AV.one (CV.sl false 0 1 0 0 n n true 1))), (11, SV.v (AV.one (CV.mp 1))), (12, SV.v (AV.one (CV.mp 2))), (14, SV.v (AI sq)), (85, SV.v (AV.one (CV.sl false 0 1 0 0 n n true 1))), (86, SV.v (AI (↑n : Int))), (87, SV.v (AI (0 : Int)))], [(0, Ob.arr true 1 n fun a => [FV.lit (.int .i64 (ld a))]), (1, Ob.map (mI al)), (2, Ob.map (mI wl))], 3, false, 0, []⟩) := by kernel_rfl
theorem tree_Y8 (n : Nat) (fi sq : Int) (ld : Nat → Int) (al wl : List (Int × Int)) : (tgt_Y8 n fi sq ld al wl).over (.br .leaf .skip) = T.br (decide ((0 : Int) < (↑n : Int) ∧ (↑n : Int) ≤ (9223372036854775807 : Int))) (T.ret (Ex.normal, ⟨[(9, SV.v (AI (↑n : Int))), (10, SV.v (AV.one (CV.sl false 0 1 0 0 n n true 1))), (11, SV.v (AV.one (CV.mp 1))), (12, SV.v (AV.one (CV.mp 2))), (14, SV.v (AI sq)), (17, SV.v (AI (fi % (↑n : Int)))), (18, SV.v (AI (0 : Int))), (19, SV.v (AI (0 : Int)))], [(0, Ob.arr true 1 n fun a => [FV.lit (.int .i64 (ld a))]), (1, Ob.map (mI al)), (2, Ob.map (mI wl))], 3, false, 0, []⟩)) T.bad := by kernel_rfl
theorem tree_P (n : Nat) (sq h q mv : Int) (ld : Nat → Int) (al wl : List (Int × Int)) : (tgt_P n sq h q mv ld al wl).over (.br .leaf .leaf) = T.br (decide (q < (↑n : Int))) (T.ret (Ex.normal, ⟨[(9, SV.v (AI (↑n : Int))), (10, SV.v (AV.one (CV.sl false 0 1 0 0 n n true 1))), (11, SV.v (AV.one (CV.mp 1))), (12, SV.v (AV.one (CV.mp 2))), (14, SV.v (AI sq)), (17, SV.v (AI h)), (18, SV.v (AI q)), (19, SV.v (AI mv))], [(0, Ob.arr true 1 n fun a => [FV.lit (.int .i64 (ld a))]), (1, Ob.map (mI al)), (2, Ob.map (mI wl))], 3, false, 0, []⟩)) (T.ret (Ex.exit 4, ⟨[(14, SV.v (AI sq)), (19, SV.v (AI mv))], [(0, Ob.arr true 1 n fun a => [FV.lit (.int .i64 (ld a))]), (1, Ob.map (mI al)), (2, Ob.map (mI wl))], 3, false, 0, []⟩)) := by kernel_rfl
theorem tree_X0 (n : Nat) (sq h q mv : Int) (ld : Nat → Int) (al wl : List (Int × Int)) : (tgt_X0 n sq h q mv ld al wl).over .leaf = T.ret (Ex.normal, ⟨[(9, SV.v (AI (↑n : Int))), (10, SV.v (AV.one (CV.sl false 0 1 0 0 n n true 1))), (11, SV.v (AV.one (CV.mp 1))), (12, SV.v (AV.one (CV.mp 2))), (14, SV.v (AI sq)), (17, SV.v (AI h)), (18, SV.v (AI q)), (19, SV.v (AI mv)), (20, SV.v (AV.one Nil))], [(0, Ob.arr true 1 n fun a => [FV.lit (.int .i64 (ld a))]), (1, Ob.map (mI al)), (2, Ob.map (mI wl))], 3, false, 0, []⟩) := by kernel_rfl
theorem tree_X1 (n : Nat) (sq h q mv : Int) (ld : Nat → Int) (al wl : List (Int × Int)) : (tgt_X1 n sq h q mv ld al wl).over .leaf = T.ret (Ex.normal, ⟨[(9, SV.v (AI (↑n : Int))), (10, SV.v (AV.one (CV.sl false 0 1 0 0 n n true 1))), (11, SV.v (AV.one (CV.mp 1))), (12, SV.v (AV.one (CV.mp 2))), (14, SV.v (AI sq)), (17, SV.v (AI h)), (18, SV.v (AI q)), (19, SV.v (AI mv)), (20, SV.v (AV.one Nil)), (103, SV.v (AV.one (CV.sl false 0 1 0 0 n n true 1))), (104, SV.v (AI (↑n : Int))), (105, SV.v (AI (0 : Int)))], [(0, Ob.arr true 1 n fun a => [FV.lit (.int .i64 (ld a))]), (1, Ob.map (mI al)), (2, Ob.map (mI wl))], 3, false, 0, []⟩) := by kernel_rfl
theorem tree_X2 (n : Nat) (sq h q mv : Int) (ld : Nat → Int) (al wl : List (Int × Int)) : (tgt_X2 n sq h q mv ld al wl).over .leaf = T.ret (Ex.normal, ⟨[(9, SV.v (AI (↑n : Int))), (10, SV.v (AV.one (CV.sl false 0 1 0 0 n n true 1))), (11, SV.v (AV.one (CV.mp 1))), (12, SV.v (AV.one (CV.mp 2))), (14, SV.v (AI sq)), (17, SV.v (AI h)), (18, SV.v (AI q)), (19, SV.v (AI mv)), (20, SV.v (AV.one (CV.sl false 3 5 0 0 n n false 5))), (23, SV.v (AV.one (CV.mp 4)))], [(0, Ob.arr true 1 n fun a => [FV.lit (.int .i64 (ld a))]), (1, Ob.map (mI al)), (2, Ob.map (mI wl)), (3, Ob.arr true 5 n fun a => [FV.lit (.int .i64 (0 : Int)), FV.lit (.int .i64 (0 : Int)), FV.lit (.int .i64 (0 : Int)), FV.lit (.int .i64 (Ent.load (entL ld a))), FV.lit (Value.bool false)]), (4, Ob.map [])], 5, false, 0, []⟩) := by kernel_rfl
theorem tree_X4 (n : Nat) (sq h q mv : Int) (ld : Nat → Int) (al wl m : List (Int × Int)) : (tgt_X4 n sq h q mv ld al wl m).over .leaf = T.ret (Ex.normal, ⟨[(9, SV.v (AI (↑n : Int))), (10, SV.v (AV.one (CV.sl false 0 1 0 0 n n true 1))), (11, SV.v (AV.one (CV.mp 1))), (12, SV.v (AV.one (CV.mp 2))), (14, SV.v (AI sq)), (17, SV.v (AI h)), (18, SV.v (AI q)), (19, SV.v (AI mv)), (20, SV.v (AV.one (CV.sl false 3 5 0 0 n n false 5))), (23, SV.v (AV.one (CV.mp 4))), (26, SV.v (AI (0 : Int)))], [(0, Ob.arr true 1 n fun a => [FV.lit (.int .i64 (ld a))]), (1, Ob.map (mI al)), (2, Ob.map (mI wl)), (3, Ob.arr true 5 n fun a => [FV.lit (.int .i64 (0 : Int)), FV.lit (.int .i64 (0 : Int)), FV.lit (.int .i64 (0 : Int)), FV.lit (.int .i64 (Ent.load (entL ld a))), FV.lit (Value.bool false)]), (4, Ob.map (mI m))], 5, false, 0, []⟩) := by kernel_rfl
theorem tree_Z (sq mv : Int) : (tgt_Z sq mv).over (.tt (.tt (.tt (.ff (.tt (.tt .leaf)))))) = T.ret (Ex.ret, ⟨[(8, SV.v (AB (decide (mv ≤ IntKind.wrap IntKind.i64 (Int.tdiv sq (2 : Int))))))], [], 0, false, 0, []⟩) := by kernel_rfl
noncomputable def GEB2 : Ctx := GS.withP ss_known15 ll_ro [(11, 42, [20])]
noncomputable def tgt_fi (n : Nat) (sq h q mv : Int) (ld : Nat → Int) (al wl m : List (Int × Int)) : T (Ex × St) := evRound GEB2 300 11 Try.f11.ntmps (restC 5 deX) 3 [9, 10, 11, 12, 14, 17, 18, 19] [9, 10, 11, 12, 14, 17, 18, 19] (S_fi n sq h q mv ld al wl m)
theorem GKEB2 : KnownOk Try.prog GEB2 := KnownOk.listsP ss_known15_ok ll_ro_ok
theorem GOEB2 : CtxOk Try.prog GEB2 := GS_ok.withP _ _ _
theorem tree_fi (n : Nat) (sq h q mv : Int) (ld : Nat → Int) (al wl m : List (Int × Int)) : (tgt_fi n sq h q mv ld al wl m).over (.br (.tt (.br (.tt (.br (.br (.br (.br .skip .leaf) (.br (.br (.tt (.tt (.tt (.tt (.tt (.tt (.tt (.tt (.tt (.tt (.tt (.tt (.tt (.tt (.tt (.tt (.tt (.tt (.tt (.tt (.tt (.tt (.tt (.tt (.tt (.tt (.tt .leaf))))))))))))))))))))))))))) (.ff (.ff (.ff (.br (.tt (.tt (.tt (.tt (.tt (.tt (.tt (.tt (.tt (.tt (.tt (.tt (.tt (.tt (.tt (.tt (.tt (.tt (.tt (.tt (.tt (.tt (.tt .leaf))))))))))))))))))))))) (.ff (.ff (.ff (.ff (.br (.tt (.tt (.tt (.tt (.tt (.tt (.tt (.tt (.tt (.tt (.tt (.tt (.tt (.tt (.tt (.tt (.tt (.tt .leaf)))))))))))))))))) (.ff (.ff (.ff (.ff (.br (.tt (.tt (.tt (.tt (.tt (.tt (.tt (.tt (.tt (.tt (.tt (.tt (.tt .leaf))))))))))))) (.ff (.ff (.ff (.ff (.ff (.br (.ff (.ff (.br (.tt (.tt (.tt (.tt (.tt .leaf))))) (.ff (.ff (.ff (.ff (.ff (.br .leaf (.tt (.br (.tt (.br (.tt (.br (.tt (.br (.tt (.br (.tt (.br (.tt (.br (.tt (.br (.br .leaf .skip) .skip)) .skip)) .skip)) .skip)) .skip)) .skip)) .skip)) .skip))))))))))) .skip))))))))))))))))))))) .skip)) .skip) .skip)) .skip)) .skip) = T.br (Nat.ble n n && true) (T.br (decide ((0 : Int) ≤ h ∧ h < (↑n : Int))) (T.br (Nat.ble (0 + Int.toNat h + 1) n) (T.br (pb (EntE (entE (entL ld)) ∧ ((false = true → n = 0) ∧ n < 20) ∧ MapI (mI m))) (T.br (!Prod.fst (chT h (ld (0 + Int.toNat h)) (entL ld) (mI m) n)) (T.br (decide ((↑n : Int) = (0 : Int))) T.bad (T.ret (Ex.exit 5, ⟨[(9, SV.v (AI (↑n : Int))), (10, SV.v (AV.one (CV.sl false 0 1 0 0 n n true 1))), (11, SV.v (AV.one (CV.mp 1))), (12, SV.v (AV.one (CV.mp 2))), (14, SV.v (AI sq)), (17, SV.v (AI (Int.tmod (IntKind.wrap IntKind.i64 (h + (1 : Int))) (↑n : Int)))), (18, SV.v (AI (IntKind.wrap IntKind.i64 (q + (1 : Int))))), (19, SV.v (AI mv))], [(0, Ob.arr true 1 n fun a => [FV.lit (.int .i64 (ld a))]), (1, Ob.map (mI al)), (2, Ob.map (mI wl))], 3, false, 0, [0, 1, 2, 3, 4]⟩))) (T.br (keysOk (Value.int IntKind.i64 (Prod.fst (Prod.snd (Prod.snd (chT h (ld (0 + Int.toNat h)) (entL ld) (mI m) n))))) (mI m) && intsOk IntKind.i64 (mI m)) (T.br (!hasM (Value.int IntKind.i64 (Prod.fst (Prod.snd (Prod.snd (chT h (ld (0 + Int.toNat h)) (entL ld) (mI m) n))))) (mI m)) (T.ret (Ex.ret, ⟨[(9, SV.v (AI (↑n : Int))), (10, SV.v (AV.one (CV.sl false 0 1 0 0 n n true 1))), (11, SV.v (AV.one (CV.mp 1))), (12, SV.v (AV.one (CV.mp 2))), (14, SV.v (AI sq)), (17, SV.v (AI h)), (18, SV.v (AI q)), (19, SV.v (AI mv))], [(0, Ob.arr true 1 n fun a => [FV.lit (.int .i64 (ld a))]), (1, Ob.map (mI al)), (2, Ob.map (mI wl))], 3, false, 0, [0, 1, 2, 3, 4]⟩)) (T.br (decide (Prod.fst (Prod.snd (chT h (ld (0 + Int.toNat h)) (entL ld) (mI m) n)) < (0 : Int))) (T.ret (Ex.ret, ⟨[(9, SV.v (AI (↑n : Int))), (10, SV.v (AV.one (CV.sl false 0 1 0 0 n n true 1))), (11, SV.v (AV.one (CV.mp 1))), (12, SV.v (AV.one (CV.mp 2))), (14, SV.v (AI sq)), (17, SV.v (AI h)), (18, SV.v (AI q)), (19, SV.v (AI mv))], [(0, Ob.arr true 1 n fun a => [FV.lit (.int .i64 (ld a))]), (1, Ob.map (mI al)), (2, Ob.map (mI wl))], 3, false, 0, [0, 1, 2, 3, 4]⟩)) (T.br (decide (Prod.fst (Prod.snd (chT h (ld (0 + Int.toNat h)) (entL ld) (mI m) n)) ≥ (↑n : Int))) (T.ret (Ex.ret, ⟨[(9, SV.v (AI (↑n : Int))), (10, SV.v (AV.one (CV.sl false 0 1 0 0 n n true 1))), (11, SV.v (AV.one (CV.mp 1))), (12, SV.v (AV.one (CV.mp 2))), (14, SV.v (AI sq)), (17, SV.v (AI h)), (18, SV.v (AI q)), (19, SV.v (AI mv))], [(0, Ob.arr true 1 n fun a => [FV.lit (.int .i64 (ld a))]), (1, Ob.map (mI al)), (2, Ob.map (mI wl))], 3, false, 0, [0, 1, 2, 3, 4]⟩)) (T.br (Prod.fst (Prod.snd (chT h (ld (0 + Int.toNat h)) (entL ld) (mI m) n)) == h) (T.ret (Ex.ret, ⟨[(9, SV.v (AI (↑n : Int))), (10, SV.v (AV.one (CV.sl false 0 1 0 0 n n true 1))), (11, SV.v (AV.one (CV.mp 1))), (12, SV.v (AV.one (CV.mp 2))), (14, SV.v (AI sq)), (17, SV.v (AI h)), (18, SV.v (AI q)), (19, SV.v (AI mv))], [(0, Ob.arr true 1 n fun a => [FV.lit (.int .i64 (ld a))]), (1, Ob.map (mI al)), (2, Ob.map (mI wl))], 3, false, 0, [0, 1, 2, 3, 4]⟩)) (T.br (keysOk (Value.int IntKind.i64 (Prod.fst (Prod.snd (Prod.snd (chT h (ld (0 + Int.toNat h)) (entL ld) (mI m) n))))) (mI wl) && intsOk IntKind.i64 (mI wl)) (T.br (Prod.snd (Prod.snd (Prod.snd (chT h (ld (0 + Int.toNat h)) (entL ld) (mI m) n))) != intM (Value.int IntKind.i64 (Prod.fst (Prod.snd (Prod.snd (chT h (ld (0 + Int.toNat h)) (entL ld) (mI m) n))))) (mI wl)) (T.ret (Ex.ret, ⟨[(9, SV.v (AI (↑n : Int))), (10, SV.v (AV.one (CV.sl false 0 1 0 0 n n true 1))), (11, SV.v (AV.one (CV.mp 1))), (12, SV.v (AV.one (CV.mp 2))), (14, SV.v (AI sq)), (17, SV.v (AI h)), (18, SV.v (AI q)), (19, SV.v (AI mv))], [(0, Ob.arr true 1 n fun a => [FV.lit (.int .i64 (ld a))]), (1, Ob.map (mI al)), (2, Ob.map (mI wl))], 3, false, 0, [0, 1, 2, 3, 4]⟩)) (T.br (decide (mv > IntKind.wrap IntKind.i64 (Int.tdiv sq (2 : Int)))) (T.ret (Ex.ret, ⟨[(9, SV.v (AI (↑n : Int))), (10, SV.v (AV.one (CV.sl false 0 1 0 0 n n true 1))), (11, SV.v (AV.one (CV.mp 1))), (12, SV.v (AV.one (CV.mp 2))), (14, SV.v (AI sq)), (17, SV.v (AI h)), (18, SV.v (AI q)), (19, SV.v (AI mv))], [(0, Ob.arr true 1 n fun a => [FV.lit (.int .i64 (ld a))]), (1, Ob.map (mI al)), (2, Ob.map (mI wl))], 3, false, 0, [0, 1, 2, 3, 4]⟩)) (T.br (decide ((0 : Int) ≤ h ∧ h < (↑n : Int))) (T.br (Nat.ble (0 + Int.toNat h + 1) n) (T.br (decide ((0 : Int) ≤ h ∧ h < (↑n : Int))) (T.br (Nat.ble (0 + Int.toNat h + 1) n) (T.br (decide ((0 : Int) ≤ Prod.fst (Prod.snd (chT h (ld (0 + Int.toNat h)) (entL ld) (mI m) n)) ∧ Prod.fst (Prod.snd (chT h (ld (0 + Int.toNat h)) (entL ld) (mI m) n)) < (↑n : Int))) (T.br (Nat.ble (0 + Int.toNat (Prod.fst (Prod.snd (chT h (ld (0 + Int.toNat h)) (entL ld) (mI m) n))) + 1) n) (T.br (decide ((0 : Int) ≤ Prod.fst (Prod.snd (chT h (ld (0 + Int.toNat h)) (entL ld) (mI m) n)) ∧ Prod.fst (Prod.snd (chT h (ld (0 + Int.toNat h)) (entL ld) (mI m) n)) < (↑n : Int))) (T.br (Nat.ble (0 + Int.toNat (Prod.fst (Prod.snd (chT h (ld (0 + Int.toNat h)) (entL ld) (mI m) n))) + 1) n) (T.br (keysOk (Value.int IntKind.i64 (Prod.fst (Prod.snd (Prod.snd (chT h (ld (0 + Int.toNat h)) (entL ld) (mI m) n))))) (mI al)) (T.ret (Ex.normal, ⟨[(9, SV.v (AI (↑n : Int))), (10, SV.v (AV.one (CV.sl false 0 1 0 0 n n true 1))), (11, SV.v (AV.one (CV.mp 1))), (12, SV.v (AV.one (CV.mp 2))), (14, SV.v (AI sq)), (17, SV.v (AI h)), (18, SV.v (AI (0 : Int))), (19, SV.v (AI (IntKind.wrap IntKind.i64 (mv + (1 : Int)))))], [(0, Ob.arr true 1 n fun i' => [FV.lit (.int .i64 (bif Nat.beq i' (0 + Int.toNat (Prod.fst (Prod.snd (chT h (ld (0 + Int.toNat h)) (entL ld) (mI m) n)))) then IntKind.wrap IntKind.i64 ((bif Nat.beq (0 + Int.toNat (Prod.fst (Prod.snd (chT h (ld (0 + Int.toNat h)) (entL ld) (mI m) n)))) (0 + Int.toNat h) then IntKind.wrap IntKind.i64 (ld (0 + Int.toNat h) - Prod.snd (Prod.snd (Prod.snd (chT h (ld (0 + Int.toNat h)) (entL ld) (mI m) n)))) else ld (0 + Int.toNat (Prod.fst (Prod.snd (chT h (ld (0 + Int.toNat h)) (entL ld) (mI m) n))))) + Prod.snd (Prod.snd (Prod.snd (chT h (ld (0 + Int.toNat h)) (entL ld) (mI m) n)))) else bif Nat.beq i' (0 + Int.toNat h) then IntKind.wrap IntKind.i64 (ld (0 + Int.toNat h) - Prod.snd (Prod.snd (Prod.snd (chT h (ld (0 + Int.toNat h)) (entL ld) (mI m) n)))) else ld i'))]), (1, Ob.map (setM (Value.int IntKind.i64 (Prod.fst (Prod.snd (Prod.snd (chT h (ld (0 + Int.toNat h)) (entL ld) (mI m) n))))) (Value.int IntKind.i64 (Prod.fst (Prod.snd (chT h (ld (0 + Int.toNat h)) (entL ld) (mI m) n)))) (mI al))), (2, Ob.map (mI wl))], 3, false, 0, [0, 1, 2, 3, 4]⟩)) T.bad) T.bad) T.bad) T.bad) T.bad) T.bad) T.bad) T.bad) T.bad))) T.bad))))) T.bad)) T.bad) T.bad) T.bad) T.bad := by kernel_rfl
end Go.Proofs.Ytggneleipimijaa.En
/- DonorEnds: its loops. -/
namespace Go.Proofs.Ytggneleipimijaa.En
open Go
set_option linter.unusedVariables false
set_option linter.unusedSimpArgs false
set_option maxRecDepth 20000
set_option maxHeartbeats 1000000
abbrev aftD (n : Nat) (fi : Int) (ld : Nat → Int) (al wl : List (Int × Int)) : St := ⟨[(3, .v (AI fi)), (9, .v (AI n)), (10, .v (ldV n)), (11, .v (.one (.mp 1))), (12, .v (.one (.mp 2)))], hp3 n ld al wl, 3, false, 0, []⟩
structure DIn (n : Nat) (i : Nat) (ld : Nat → Int) (al wl : List (Int × Int)) : Prop where
  i6 : i ≤ 6
  ld : LdOk n ld (9 * i)
  al : AtOk n al
  wl : WlOk i wl
theorem DIn.step {n i : Nat} (hn : 0 < n) {ld : Nat → Int} {al wl : List (Int × Int)} (h : DIn n i ld al wl) (hi : i < 6) {v : Int} (hv : 1 ≤ v ∧ v ≤ 9) {al' : List (Int × Int)} (ha : AtOk n al') {wl' : List (Int × Int)} (hw1 : getI i wl' = v) (hw2 : ∀ s, s ≠ (i : Int) → getI s wl' = getI s wl) :
    DIn n (i + 1) (updJ ld (getI i al').toNat (ld (getI i al').toNat + v)) al' wl' := by
  have hr := getI_rng (n := (n : Int)) (by omega) ha.val i
  refine ⟨by omega, fun j hj => ?_, ha, fun s h0 h1 => ?_⟩
  · by_cases e : j = (getI i al').toNat
    · subst e
      rw [updJ_at]
      have := h.ld _ hj
      omega
    · rw [updJ_ne _ _ e]
      have := h.ld j hj
      omega
  · by_cases e : s = (i : Int)
    · rw [e, hw1]; exact hv
    · rw [hw2 s e]
      exact h.wl s h0 (by omega)

theorem loop_d0 (n : Nat) (na : Bool) (ka : Nat) (xa : Nat → Int) (nw : Bool) (kw : Nat) (xw : Nat → Int) (fi : Int) (hn : 0 < n) (hn5 : n ≤ 5) (hna : na = true → ka = 0) (hnw : nw = true → kw = 0) (ld0 : Nat → Int) (al0 wl0 : List (Int × Int)) (h0 : DIn n 0 ld0 al0 wl0) :
    HT Try.prog Try.f11.ntmps (.loop (loopOf Try.f11 6)) (S_d0 n na ka xa nw kw xw fi ((0 : Nat) : Int) ld0 al0 wl0) fun e s => e = .exit 0 ∧ ∃ ld al wl, DIn n 6 ld al wl ∧ s = aftD n fi ld al wl := by
  refine HT.loop (α := Nat × (Nat → Int) × List (Int × Int) × List (Int × Int)) (fun p => S_d0 n na ka xa nw kw xw fi ((p.1 : Nat) : Int) p.2.1 p.2.2.1 p.2.2.2) (fun p => 6 - p.1) (fun p => DIn n p.1 p.2.1 p.2.2.1 p.2.2.2) (fun p hp => ?_) (p := (0, ld0, al0, wl0)) h0 (m := 3) (StLe.refl (Nat.le_refl 3))
  obtain ⟨i, ld, al, wl⟩ := p
  have hD : DIn n i ld al wl := hp
  clear hp
  dsimp only
  have h6 := hD.i6
  rcases Nat.lt_or_ge i 6 with hi | hi
  · have e1 : ((i : Int) < 6) := by omega
    have e2 : IntKind.wrap .i64 ((i : Int) + 1) = ((i + 1 : Nat) : Int) := by rw [wrapI (by omega)]; rfl
    have m1 := Int.emod_nonneg (xw i) (show (9 : Int) ≠ 0 by omega)
    have m2 := Int.emod_lt_of_pos (xw i) (show (0 : Int) < 9 by omega)
    have e3 : IntKind.wrap IntKind.i64 (1 + xw i % 9) = 1 + xw i % 9 := wrapI (by omega)
    have e4 : decide ((i : Int) < 6) = true := decide_eq_true e1
    have hn9 : (0 : Int) < (n : Int) ∧ (n : Int) ≤ 9223372036854775807 := by omega
    by_cases hk1 : ((i : Int) < (kw : Int))
    · have hk : decide ((i : Int) < (kw : Int)) = true := decide_eq_true hk1
      have hk2 : (0 : Int) ≤ (i : Int) ∧ (i : Int) < (kw : Int) := by omega
      have enw : nw = false := by
        cases nw
        · rfl
        · have := hnw rfl; omega
      by_cases ha1 : ((i : Int) < (ka : Int))
      · have ha : decide ((i : Int) < (ka : Int)) = true := decide_eq_true ha1
        have ha2 : (0 : Int) ≤ (i : Int) ∧ (i : Int) < (ka : Int) := by omega
        have ena : na = false := by
          cases na
          · rfl
          · have := hna rfl; omega
        have hal' : AtOk n (putI i (xa i % n) al) := hD.al.put (by omega) ⟨Int.emod_nonneg _ (by omega), Int.emod_lt_of_pos _ (by omega)⟩
        have hr := getI_rng (n := (n : Int)) (by omega) hal'.val i
        rw [getI_put] at hr
        have hl := hD.ld _ (show (xa i % (n : Int)).toNat < n by omega)
        have g1 : (0 : Int) ≤ (xa i % (n : Int)) ∧ (xa i % (n : Int)) < (n : Int) := hr
        have g2 : Nat.ble ((xa i % (n : Int)).toNat + 1) n = true := ble_tt (by omega)
        have g3 : IntKind.wrap IntKind.i64 (ld (xa i % (n : Int)).toNat + (1 + xw i % 9)) = ld (xa i % (n : Int)).toNat + (1 + xw i % 9) := wrapI (by omega)
        have hst := hD.step hn hi (v := 1 + xw i % 9) (wl' := putI i (1 + xw i % 9) (putI i 1 wl)) ⟨by omega, by omega⟩ hal' (getI_put _ _ _) (fun s hs => (getI_other _ hs _).trans (getI_other _ hs _))
        rw [getI_put] at hst
        refine HT.round GOEB1 GKEB1 (e := .normal) (st' := S_d0 n na ka xa nw kw xw fi ((i + 1 : Nat) : Int) (updJ ld (xa i % (n : Int)).toNat (ld (xa i % (n : Int)).toNat + (1 + xw i % 9))) (putI i (xa i % n) al) (putI i (1 + xw i % 9) (putI i 1 wl))) (T.over_eq _ (tree_d0 n na ka xa nw kw xw fi i ld al wl) ?_) (.inl ⟨rfl, 3, (i + 1, updJ ld (xa i % (n : Int)).toNat (ld (xa i % (n : Int)).toNat + (1 + xw i % 9)), putI i (xa i % n) al, putI i (1 + xw i % 9) (putI i 1 wl)), StLe.refl (Nat.le_refl 3), hst, ?_⟩)
        · simp only [T.res_br, T.res_ret, T.res_bad, mI_put, mI_keys, mI_ints, mI_get, Nat.zero_add, Bool.and_self, Bool.and_true, Bool.not_false, Bool.not_true, Bool.false_eq_true, reduceIte, hk, enw, decide_eq_true hk2, ha, ena, decide_eq_true ha2, decide_eq_true hn9, e1, e2, e3, e4, getI_put, g1, g2, g3, decide_true, and_self, decide_eq_true_eq]
          rfl
        · dsimp only; omega
      · have ha : decide ((i : Int) < (ka : Int)) = false := decide_eq_false ha1
        have hal' : AtOk n (al) := hD.al
        have hr := getI_rng (n := (n : Int)) (by omega) hal'.val i
        skip
        have hl := hD.ld _ (show (getI i al).toNat < n by omega)
        have g1 : (0 : Int) ≤ (getI i al) ∧ (getI i al) < (n : Int) := hr
        have g2 : Nat.ble ((getI i al).toNat + 1) n = true := ble_tt (by omega)
        have g3 : IntKind.wrap IntKind.i64 (ld (getI i al).toNat + (1 + xw i % 9)) = ld (getI i al).toNat + (1 + xw i % 9) := wrapI (by omega)
        have hst := hD.step hn hi (v := 1 + xw i % 9) (wl' := putI i (1 + xw i % 9) (putI i 1 wl)) ⟨by omega, by omega⟩ hal' (getI_put _ _ _) (fun s hs => (getI_other _ hs _).trans (getI_other _ hs _))
        skip
        refine HT.round GOEB1 GKEB1 (e := .normal) (st' := S_d0 n na ka xa nw kw xw fi ((i + 1 : Nat) : Int) (updJ ld (getI i al).toNat (ld (getI i al).toNat + (1 + xw i % 9))) (al) (putI i (1 + xw i % 9) (putI i 1 wl))) (T.over_eq _ (tree_d0 n na ka xa nw kw xw fi i ld al wl) ?_) (.inl ⟨rfl, 3, (i + 1, updJ ld (getI i al).toNat (ld (getI i al).toNat + (1 + xw i % 9)), al, putI i (1 + xw i % 9) (putI i 1 wl)), StLe.refl (Nat.le_refl 3), hst, ?_⟩)
        · simp only [T.res_br, T.res_ret, T.res_bad, mI_put, mI_keys, mI_ints, mI_get, Nat.zero_add, Bool.and_self, Bool.and_true, Bool.not_false, Bool.not_true, Bool.false_eq_true, reduceIte, hk, enw, decide_eq_true hk2, ha, e1, e2, e3, e4, getI_put, g1, g2, g3, decide_true, and_self, decide_eq_true_eq]
          rfl
        · dsimp only; omega
    · have hk : decide ((i : Int) < (kw : Int)) = false := decide_eq_false hk1
      by_cases ha1 : ((i : Int) < (ka : Int))
      · have ha : decide ((i : Int) < (ka : Int)) = true := decide_eq_true ha1
        have ha2 : (0 : Int) ≤ (i : Int) ∧ (i : Int) < (ka : Int) := by omega
        have ena : na = false := by
          cases na
          · rfl
          · have := hna rfl; omega
        have hal' : AtOk n (putI i (xa i % n) al) := hD.al.put (by omega) ⟨Int.emod_nonneg _ (by omega), Int.emod_lt_of_pos _ (by omega)⟩
        have hr := getI_rng (n := (n : Int)) (by omega) hal'.val i
        rw [getI_put] at hr
        have hl := hD.ld _ (show (xa i % (n : Int)).toNat < n by omega)
        have g1 : (0 : Int) ≤ (xa i % (n : Int)) ∧ (xa i % (n : Int)) < (n : Int) := hr
        have g2 : Nat.ble ((xa i % (n : Int)).toNat + 1) n = true := ble_tt (by omega)
        have g3 : IntKind.wrap IntKind.i64 (ld (xa i % (n : Int)).toNat + (1)) = ld (xa i % (n : Int)).toNat + (1) := wrapI (by omega)
        have hst := hD.step hn hi (v := 1) (wl' := putI i 1 wl) ⟨by omega, by omega⟩ hal' (getI_put _ _ _) (fun s hs => getI_other _ hs _)
        rw [getI_put] at hst
        refine HT.round GOEB1 GKEB1 (e := .normal) (st' := S_d0 n na ka xa nw kw xw fi ((i + 1 : Nat) : Int) (updJ ld (xa i % (n : Int)).toNat (ld (xa i % (n : Int)).toNat + (1))) (putI i (xa i % n) al) (putI i 1 wl)) (T.over_eq _ (tree_d0 n na ka xa nw kw xw fi i ld al wl) ?_) (.inl ⟨rfl, 3, (i + 1, updJ ld (xa i % (n : Int)).toNat (ld (xa i % (n : Int)).toNat + (1)), putI i (xa i % n) al, putI i 1 wl), StLe.refl (Nat.le_refl 3), hst, ?_⟩)
        · simp only [T.res_br, T.res_ret, T.res_bad, mI_put, mI_keys, mI_ints, mI_get, Nat.zero_add, Bool.and_self, Bool.and_true, Bool.not_false, Bool.not_true, Bool.false_eq_true, reduceIte, hk, ha, ena, decide_eq_true ha2, decide_eq_true hn9, e1, e2, e3, e4, getI_put, g1, g2, g3, decide_true, and_self, decide_eq_true_eq]
          rfl
        · dsimp only; omega
      · have ha : decide ((i : Int) < (ka : Int)) = false := decide_eq_false ha1
        have hal' : AtOk n (al) := hD.al
        have hr := getI_rng (n := (n : Int)) (by omega) hal'.val i
        skip
        have hl := hD.ld _ (show (getI i al).toNat < n by omega)
        have g1 : (0 : Int) ≤ (getI i al) ∧ (getI i al) < (n : Int) := hr
        have g2 : Nat.ble ((getI i al).toNat + 1) n = true := ble_tt (by omega)
        have g3 : IntKind.wrap IntKind.i64 (ld (getI i al).toNat + (1)) = ld (getI i al).toNat + (1) := wrapI (by omega)
        have hst := hD.step hn hi (v := 1) (wl' := putI i 1 wl) ⟨by omega, by omega⟩ hal' (getI_put _ _ _) (fun s hs => getI_other _ hs _)
        skip
        refine HT.round GOEB1 GKEB1 (e := .normal) (st' := S_d0 n na ka xa nw kw xw fi ((i + 1 : Nat) : Int) (updJ ld (getI i al).toNat (ld (getI i al).toNat + (1))) (al) (putI i 1 wl)) (T.over_eq _ (tree_d0 n na ka xa nw kw xw fi i ld al wl) ?_) (.inl ⟨rfl, 3, (i + 1, updJ ld (getI i al).toNat (ld (getI i al).toNat + (1)), al, putI i 1 wl), StLe.refl (Nat.le_refl 3), hst, ?_⟩)
        · simp only [T.res_br, T.res_ret, T.res_bad, mI_put, mI_keys, mI_ints, mI_get, Nat.zero_add, Bool.and_self, Bool.and_true, Bool.not_false, Bool.not_true, Bool.false_eq_true, reduceIte, hk, ha, e1, e2, e3, e4, getI_put, g1, g2, g3, decide_true, and_self, decide_eq_true_eq]
          rfl
        · dsimp only; omega
  · obtain rfl : i = 6 := by omega
    have e1 : decide (((6 : Nat) : Int) < 6) = false := decide_eq_false (by omega)
    refine HT.round GOEB1 GKEB1 (e := .exit 0) (st' := aftD n fi ld al wl) (T.over_eq _ (tree_d0 n na ka xa nw kw xw fi 6 ld al wl) ?_) (.inr ⟨by simp, rfl, ld, al, wl, hD, rfl⟩)
    simp only [T.res_br, T.res_ret, T.res_bad, e1, Bool.false_eq_true, reduceIte]

end Go.Proofs.Ytggneleipimijaa.En
/- DonorEnds: its other loops. -/
namespace Go.Proofs.Ytggneleipimijaa.En
open Go
set_option linter.unusedVariables false
set_option linter.unusedSimpArgs false
set_option maxRecDepth 20000
set_option maxHeartbeats 1000000
theorem mI_mem {l : List (Int × Int)} {p : Value × Value} (h : p ∈ mI l) : ∃ q ∈ l, p = (.int .i64 q.1, .int .i64 q.2) := by
  obtain ⟨q, hq, e⟩ := List.mem_map.1 h
  exact ⟨q, hq, e.symm⟩
theorem loop_b2 (n : Nat) (hn5 : n ≤ 5) (fi : Int) (ld : Nat → Int) (al wl : List (Int × Int)) (hl : LdOk n ld 54) :
    HT Try.prog Try.f11.ntmps (.loop (loopOf Try.f11 16)) (S_b2 n fi 0 ld al wl ((0 : Nat) : Int)) fun e s => e = .exit 2 ∧ s = ⟨[(3, .v (AI fi)), (9, .v (AI n)), (10, .v (ldV n)), (11, .v (.one (.mp 1))), (12, .v (.one (.mp 2))), (14, .v (AI (sqF ld n)))], hp3 n ld al wl, 3, false, 0, []⟩ := by
  refine HT.loop (α := Nat) (fun i => S_b2 n fi (sqF ld i) ld al wl ((i : Nat) : Int)) (fun i => n - i) (fun i => i ≤ n) (fun i hi => ?_) (p := 0) (Nat.zero_le _) (m := 3) (StLe.refl (Nat.le_refl 3))
  rcases Nat.lt_or_ge i n with hlt | hge
  · have e1 : ((i : Int) < (n : Int)) := by omega
    have e2 : (0 : Int) ≤ (i : Int) ∧ (i : Int) < (n : Int) := by omega
    have e3 : Nat.ble (i + 1) n = true := ble_tt (by omega)
    have e4 : IntKind.wrap .i64 ((i : Int) + 1) = ((i + 1 : Nat) : Int) := by rw [wrapI (by omega)]; rfl
    have hi1 := hl i hlt
    have q1 := Int.mul_nonneg hi1.1 hi1.1
    have q2 := Int.mul_le_mul hi1.2 hi1.2 hi1.1 (by omega)
    have q3 := sq_le i (fun j hj => hl j (by omega))
    have q4 := sq_nonneg i (fun j hj => hl j (by omega))
    have e5 : IntKind.wrap IntKind.i64 (ld i * ld i) = ld i * ld i := wrapI (by omega)
    have e6 : IntKind.wrap IntKind.i64 (sqF ld i + ld i * ld i) = sqF ld (i + 1) := wrapI (by omega)
    refine HT.round GOEB1 GKEB1 (e := .normal) (st' := S_b2 n fi (sqF ld (i + 1)) ld al wl ((i + 1 : Nat) : Int)) (T.over_eq _ (tree_b2 n fi (sqF ld i) ld al wl i) ?_) (.inl ⟨rfl, 3, i + 1, StLe.refl (Nat.le_refl 3), by omega, by omega⟩)
    simp only [T.res_br, T.res_ret, T.res_bad, decide_eq_true e1, decide_eq_true e2, Nat.zero_add, e3, e4, e5, e6, reduceIte]
    rfl
  · obtain rfl : i = n := by omega
    have e1 : decide ((i : Int) < (i : Int)) = false := decide_eq_false (by omega)
    refine HT.round GOEB1 GKEB1 (e := .exit 2) (T.over_eq _ (tree_b2 i fi (sqF ld i) ld al wl i) ?_) (.inr ⟨by simp, rfl, rfl⟩)
    simp only [T.res_br, T.res_ret, T.res_bad, e1, Bool.false_eq_true, reduceIte]
def b6E (ld : Nat → Int) (i : Nat) : Nat → List FV := fun j => [.lit (.int .i64 (bif Nat.ble (j + 1) i then (entL ld j).inc else 0)), .lit (.int .i64 (bif Nat.ble (j + 1) i then (entL ld j).st else 0)), .lit (.int .i64 (bif Nat.ble (j + 1) i then (entL ld j).stamp else 0)), .lit (.int .i64 (bif Nat.ble (j + 1) i then (entL ld j).load else ld i)), .lit (.bool (bif Nat.ble (j + 1) i then (entL ld j).dr else false))]
theorem loop_b6 (n : Nat) (hn : 0 < n) (hn5 : n ≤ 5) (sq h q mv : Int) (ld : Nat → Int) (al wl : List (Int × Int)) :
    HT Try.prog Try.f11.ntmps (.loop (loopOf Try.f11 26)) (S_b6 n sq h q mv ld al wl 0) fun e s => e = .exit 6 ∧ s = ⟨mainSl n sq h q mv ++ [(20, .v (.one (.sl false 3 5 0 0 n n false 5)))], hp3 n ld al wl ++ [(3, .arr true 5 n (entE (entL ld)))], 4, false, 0, []⟩ := by
  refine HT.loop (α := Nat) (fun i => S_b6 n sq h q mv ld al wl i) (fun i => n - i) (fun i => i ≤ n) (fun i hi => ?_) (p := 0) (Nat.zero_le _) (m := 3) (StLe.refl (show 3 ≤ 4 by decide))
  rcases Nat.lt_or_ge i n with hlt | hge
  · have e1 : ((i : Int) < (n : Int)) := by omega
    have e2 : (0 : Int) ≤ (i : Int) ∧ (i : Int) < (n : Int) := by omega
    have e3 : Nat.ble (i + 1) n = true := ble_tt (by omega)
    have e4 : IntKind.wrap .i64 ((i : Int) + 1) = ((i + 1 : Nat) : Int) := by rw [wrapI (by omega)]; rfl
    have e5 : Nat.ble (i + 1) i = false := ble_false (by omega)
    have e6 : smallB (i + 1) 40 = true := smallB_le (by omega) (by omega)
    have e7 : Nat.ble i i = true := ble_tt (Nat.le_refl i)
    refine HT.round GOEB1 GKEB1 (e := .normal) (st' := ⟨mainSl n sq h q mv ++ [(20, .v (.one (.sl false 3 5 0 0 (i + 1) (i + 1) false 5))), (103, .v (ldV n)), (104, .v (AI n)), (105, .v (AI ((i + 1 : Nat) : Int)))], hp3 n ld al wl ++ [(3, .arr true 5 (i + 1) (b6E ld i))], 4, false, 0, []⟩) (T.over_eq _ (tree_b6 n sq h q mv ld al wl i) ?_) (.inl ⟨rfl, 3, i + 1, ?_, by omega, by omega⟩)
    · simp only [T.res_br, T.res_ret, T.res_bad, decide_eq_true e1, decide_eq_true e2, Nat.zero_add, e3, e4, e5, e6, e7, beq_or, Bool.or_comm, Bool.and_self, Bool.false_eq_true, reduceIte]
      rfl
    · refine StLe.less (s := ⟨mainSl n sq h q mv ++ [(20, .v (.one (.sl false 3 5 0 0 (i + 1) (i + 1) false 5))), (103, .v (ldV n)), (104, .v (AI n)), (105, .v (AI ((i + 1 : Nat) : Int)))], hp3 n ld al wl ++ [(3, .arr true 5 (i + 1) (b6E ld i))], 4, false, 0, []⟩) (show 3 ≤ 4 by decide) (fun t => .inr (.inl rfl)) (fun b => ?_)
      rcases b with _ | _ | _ | _ | b
      · exact .inl rfl
      · exact .inl rfl
      · exact .inl rfl
      · refine Ob.le.arr fun j hj => ?_
        rcases Nat.lt_or_ge j i with hji | hji
        · simp only [b6E, ble_tt (show j + 1 ≤ i by omega), cond_true]
          try rfl
        · obtain rfl : j = i := by omega
          simp only [b6E, ble_false (show ¬ j + 1 ≤ j by omega), cond_false]
          try rfl
      · exact .inl rfl
  · obtain rfl : i = n := by omega
    have e1 : decide ((i : Int) < (i : Int)) = false := decide_eq_false (by omega)
    have e2 : Nat.beq i 0 = false := beq_ff (by omega)
    refine HT.round GOEB1 GKEB1 (e := .exit 6) (T.over_eq _ (tree_b6 i sq h q mv ld al wl i) ?_) (.inr ⟨by simp, rfl, rfl⟩)
    simp only [T.res_br, T.res_ret, T.res_bad, e1, e2, Bool.not_false, Bool.false_eq_true, reduceIte]
    rfl
theorem pass_at (n : Nat) (sq h q mv : Int) (ld : Nat → Int) (al wl : List (Int × Int)) (hal : KeyOk al) :
    HT Try.prog Try.f11.ntmps cd_at (S_fi n sq h q mv ld al wl []) fun e s => e = .normal ∧ ∃ m, MineOk wl m ∧ s = ⟨mineSl n sq h q mv, [(0, .arr true 1 n (intE ld)), (2, .map (mI wl)), (3, .arr true 5 n (entE (entL ld))), (4, .map (mI m)), (1, .map (mI al))], 5, false, 0, []⟩ := by
  have hc : cd_at = rgCode 31 8 32 9 33 (rgO cd_at 0) (rgO cd_at 1) (rgO cd_at 2) (rgO cd_at 3) (.tmp 119) (rgOps cd_at) (rgRest cd_at) := by kernel_rfl
  rw [hc]
  refine HT.weak (map_rangeH GOEB1 GKEB1 (K := 300) (F := 11) (mb := 1) (T := 43) (kt := 3) (et := 3) (o4 := rgO cd_at 4) (x0 := .tmp 11) (d0 := 116) (d1 := 117) (d2 := 118) (d3 := 119) (d4 := 120) (l := rgTail cd_at)
    ⟨by kernel_rfl, by kernel_rfl, by kernel_rfl⟩ ⟨by kernel_rfl, by kernel_rfl, by kernel_rfl⟩ ⟨by kernel_rfl, by kernel_rfl, by kernel_rfl⟩ ⟨by kernel_rfl, by kernel_rfl, by kernel_rfl⟩ ⟨by kernel_rfl, by kernel_rfl, by kernel_rfl⟩ (by kernel_rfl) (by decide) (by decide) (by kernel_rfl)
    (S_at n sq h q mv ld wl) (fun _ m => MineOk wl m) [9, 10, 11, 12, 14, 17, 18, 19, 20, 23, 117] [0, 2, 3, 4] (Sfin := fun m => ⟨mineSl n sq h q mv, [(0, .arr true 1 n (intE ld)), (2, .map (mI wl)), (3, .arr true 5 n (entE (entL ld))), (4, .map (mI m))], 5, false, 0, []⟩)
    (st0 := S_fi n sq h q mv ld al wl []) (es := mI al) (a0 := [])
    rfl rfl (fun p hp => ?_) rfl (by decide) (fun b hl => ?_) (fun q a => ⟨Nat.le_refl 5, rfl, rfl, rfl, rfl⟩) (fun r => ?_) ⟨KeyOk.nil, fun p hp => by cases hp⟩ (fun r a left1 left2 p hp hI => ?_) (fun r a hI => ?_) (fun _ => rfl)) (fun e s he => ?_)
  · obtain ⟨k, _, rfl⟩ := mI_mem hp
    exact ⟨rfl, rfl⟩
  · rcases b with _ | _ | _ | _ | _ | b
    · exact .inr (by decide)
    · exact .inl rfl
    · exact .inr (by decide)
    · exact .inr (by decide)
    · exact .inr (by decide)
    · exact hl.elim
  · exact StLe.less (Nat.le_refl 5) (fun t => (by rcases t with _ | _ | _ | _ | _ | _ | _ | _ | _ | _ | _ | _ | _ | _ | _ | _ | _ | _ | _ | _ | _ | _ | _ | _ | _ | _ | _ | _ | _ | _ | _ | _ | _ | _ | _ | _ | _ | _ | _ | _ | _ | _ | _ | _ | _ | _ | _ | _ | _ | _ | _ | _ | _ | _ | _ | _ | _ | _ | _ | _ | _ | _ | _ | _ | _ | _ | _ | _ | _ | _ | _ | _ | _ | _ | _ | _ | _ | _ | _ | _ | _ | _ | _ | _ | _ | _ | _ | _ | _ | _ | _ | _ | _ | _ | _ | _ | _ | _ | _ | _ | _ | _ | _ | _ | _ | _ | _ | _ | _ | _ | _ | _ | _ | _ | _ | _ | _ | _ | _ | _ | t <;> first | exact .inr (.inl rfl) | exact .inl rfl)) (fun b => .inl rfl)
  · obtain ⟨⟨s, k⟩, hk, rfl⟩ := mI_mem hp
    have hs := hal.rng _ hk
    dsimp only at hs
    cases hh : (k == h)
    · refine ⟨S_at n sq h q mv ld wl r a, a, T.over_eq _ (tree_at n sq h q mv ld wl r a s k) ?_, StLe.refl (Nat.le_refl 5), hI⟩
      simp only [T.res_br, T.res_ret, T.res_bad, hh, Bool.false_eq_true, reduceIte]
      rfl
    · refine ⟨S_at n sq h q mv ld wl r (putI s (getI s wl) a), putI s (getI s wl) a, T.over_eq _ (tree_at n sq h q mv ld wl r a s k) ?_, StLe.refl (Nat.le_refl 5), hI.put hs⟩
      simp only [T.res_br, T.res_ret, T.res_bad, hh, mI_put, mI_keys, mI_ints, mI_get, Bool.and_self, reduceIte]
      rfl
  · exact StLe.less (Nat.le_refl 5) (fun t => (by rcases t with _ | _ | _ | _ | _ | _ | _ | _ | _ | _ | _ | _ | _ | _ | _ | _ | _ | _ | _ | _ | _ | _ | _ | _ | _ | _ | _ | _ | _ | _ | _ | _ | _ | _ | _ | _ | _ | _ | _ | _ | _ | _ | _ | _ | _ | _ | _ | _ | _ | _ | _ | _ | _ | _ | _ | _ | _ | _ | _ | _ | _ | _ | _ | _ | _ | _ | _ | _ | _ | _ | _ | _ | _ | _ | _ | _ | _ | _ | _ | _ | _ | _ | _ | _ | _ | _ | _ | _ | _ | _ | _ | _ | _ | _ | _ | _ | _ | _ | _ | _ | _ | _ | _ | _ | _ | _ | _ | _ | _ | _ | _ | _ | _ | _ | _ | _ | _ | _ | _ | _ | t <;> first | exact .inr (.inl rfl) | exact .inl rfl)) (fun b => .inl rfl)
  · obtain ⟨rfl, m, hm, rfl⟩ := he
    exact ⟨rfl, m, hm, rfl⟩
theorem loop_bq (n : Nat) (sq h q mv : Int) (ld : Nat → Int) (al wl m0 : List (Int × Int)) (hm0 : MineOk wl m0) :
    HT Try.prog Try.f11.ntmps (.loop (loopOf Try.f11 37)) (S_bq n sq h q mv ld al wl m0 ((0 : Nat) : Int)) fun e s => e = .exit 10 ∧ ∃ m, MineOk wl m ∧ s = S_fi n sq h q mv ld al wl m := by
  refine HT.loop (α := Nat × List (Int × Int)) (fun p => S_bq n sq h q mv ld al wl p.2 ((p.1 : Nat) : Int)) (fun p => 6 - p.1) (fun p => p.1 ≤ 6 ∧ MineOk wl p.2) (fun p hp => ?_) (p := (0, m0)) ⟨Nat.zero_le _, hm0⟩ (m := 5) (StLe.refl (Nat.le_refl 5))
  obtain ⟨i, m⟩ := p
  obtain ⟨h6, hm⟩ := hp
  dsimp only at h6 hm ⊢
  rcases Nat.lt_or_ge i 6 with hi | hi
  · have e1 : decide ((i : Int) < 6) = true := decide_eq_true (by omega)
    have e4 : IntKind.wrap .i64 ((i : Int) + 1) = ((i + 1 : Nat) : Int) := by rw [wrapI (by omega)]; rfl
    have hput := hm.put (k := (i : Int)) (by omega)
    cases hh : hasM (.int .i64 (i : Int)) (mI al)
    · cases hz : (h == 0)
      · refine HT.round GOEB1 GKEB1 (e := .normal) (st' := S_bq n sq h q mv ld al wl m ((i + 1 : Nat) : Int)) (T.over_eq _ (tree_bq n sq h q mv ld al wl m i) ?_) (.inl ⟨rfl, 5, (i + 1, m), StLe.refl (Nat.le_refl 5), ⟨by dsimp only; omega, hm⟩, by dsimp only; omega⟩)
        simp only [T.res_br, T.res_ret, T.res_bad, e1, e4, hh, hz, mI_keys, mI_ints, Bool.and_self, Bool.not_false, Bool.false_eq_true, reduceIte]
        rfl
      · refine HT.round GOEB1 GKEB1 (e := .normal) (st' := S_bq n sq h q mv ld al wl (putI i (getI i wl) m) ((i + 1 : Nat) : Int)) (T.over_eq _ (tree_bq n sq h q mv ld al wl m i) ?_) (.inl ⟨rfl, 5, (i + 1, putI i (getI i wl) m), StLe.refl (Nat.le_refl 5), ⟨by dsimp only; omega, hput⟩, by dsimp only; omega⟩)
        simp only [T.res_br, T.res_ret, T.res_bad, e1, e4, hh, hz, mI_put, mI_keys, mI_ints, mI_get, Bool.and_self, Bool.not_false, reduceIte]
        rfl
    · refine HT.round GOEB1 GKEB1 (e := .normal) (st' := S_bq n sq h q mv ld al wl m ((i + 1 : Nat) : Int)) (T.over_eq _ (tree_bq n sq h q mv ld al wl m i) ?_) (.inl ⟨rfl, 5, (i + 1, m), StLe.refl (Nat.le_refl 5), ⟨by dsimp only; omega, hm⟩, by dsimp only; omega⟩)
      simp only [T.res_br, T.res_ret, T.res_bad, e1, e4, hh, mI_keys, mI_ints, Bool.and_self, Bool.not_true, Bool.false_eq_true, reduceIte]
      rfl
  · obtain rfl : i = 6 := by omega
    have e1 : decide (((6 : Nat) : Int) < 6) = false := decide_eq_false (by omega)
    refine HT.round GOEB1 GKEB1 (e := .exit 10) (st' := S_fi n sq h q mv ld al wl m) (T.over_eq _ (tree_bq n sq h q mv ld al wl m 6) ?_) (.inr ⟨by simp, rfl, m, hm, rfl⟩)
    simp only [T.res_br, T.res_ret, T.res_bad, e1, Bool.false_eq_true, reduceIte]
    rfl

end Go.Proofs.Ytggneleipimijaa.En
/- DonorEnds: a gift; the loop of gifts. -/
namespace Go.Proofs.Ytggneleipimijaa.En
open Go
set_option linter.unusedVariables false
set_option linter.unusedSimpArgs false
set_option maxRecDepth 20000
set_option maxHeartbeats 1000000
theorem shapeL : restC 1 deL = .block 5 deX := by kernel_rfl
theorem shapeX1 : restC 1 deX = .seq (.seq (fstC (fstC (restC 1 deX))) (.block 6 (.loop (loopOf Try.f11 26)))) (restC 2 deX) := by kernel_rfl
theorem shapeX3 : restC 1 (restC 2 deX) = .seq cd_at (restC 4 deX) := by kernel_rfl
theorem shapeX4 : restC 4 deX = .seq (.seq (fstC (fstC (restC 4 deX))) (.block 10 (.loop (loopOf Try.f11 37)))) (restC 5 deX) := by kernel_rfl
/-- what stands ahead of a round -/
structure MIn (n : Nat) (sq h q mv : Int) (ld : Nat → Int) (al : List (Int × Int)) : Prop where
  hh : 0 ≤ h ∧ h < (n : Int)
  hq : 0 ≤ q ∧ q ≤ (n : Int)
  hmv : 0 ≤ mv
  hld : LdOk n ld 54
  hal : AtOk n al
  sqs : sqF ld n + 2 * mv ≤ sq
def muD (n : Nat) (q : Int) (ld : Nat → Int) : Nat := (sqF ld n).toNat * 6 + ((n : Int) - q).toNat
abbrev RX (n : Nat) (sq h q mv : Int) (ld : Nat → Int) (al wl : List (Int × Int)) : Ex → St → Prop := fun e s => (e = .exit 5 ∨ e = .normal) ∧ ∃ h' q' mv' ld' al' wr, MIn n sq h' q' mv' ld' al' ∧ muD n q' ld' < muD n q ld ∧ s = ⟨mainSl n sq h' q' mv', hp3 n ld' al' wl, 3, false, 0, wr⟩
theorem beq_ff' {a b : Nat} (h : a ≠ b) : Nat.beq a b = false := by
  cases hb : Nat.beq a b
  · rfl
  · exact absurd (Nat.eq_of_beq_eq_true hb) h
theorem gift (n : Nat) (hn : 0 < n) (hn5 : n ≤ 5) (sq h q mv : Int) (hsq : sq ≤ 100000) (ld : Nat → Int) (al wl m : List (Int × Int)) (hM : MIn n sq h q mv ld al) (hq : q < (n : Int)) (hw : WlOk 6 wl) (hm : MineOk wl m) :
    HT Try.prog Try.f11.ntmps (restC 5 deX) (S_fi n sq h q mv ld al wl m) (RX n sq h q mv ld al wl) := by
  have ht := tree_fi n sq h q mv ld al wl m
  simp only [Nat.zero_add] at ht
  obtain ⟨H, rfl⟩ : ∃ H : Nat, h = H := ⟨h.toNat, by have := hM.hh; omega⟩
  have hH : H < n := by have := hM.hh; omega
  simp only [Int.toNat_natCast] at ht
  have hch := chT_ok (me := (H : Int)) (load := ld H) (x := entL ld) (n := n) hm.key hM.hh
  have e0 : (Nat.ble n n && true) = true := by rw [ble_tt (Nat.le_refl n)]; rfl
  have e1 : (0 : Int) ≤ (H : Int) ∧ (H : Int) < (n : Int) := hM.hh
  have e2 : Nat.ble (H + 1) n = true := ble_tt (by omega)
  have e3 : (false = true → n = 0) = True := eq_true fun h => by cases h
  have e4 : n < 20 := by omega
  have e5 : (n : Int) ≠ 0 := by omega
  have e5' : decide ((n : Int) = 0) = false := decide_eq_false e5
  have hmv := hM.hmv
  have hsn := sq_nonneg n hM.hld
  have hsqs := hM.sqs
  have hqq := hM.hq
  obtain ⟨to, ito⟩ : ∃ x, (chT (H : Int) (ld H) (entL ld) (mI m) n).2.1 = x := ⟨_, rfl⟩
  obtain ⟨sh, ish⟩ : ∃ x, (chT (H : Int) (ld H) (entL ld) (mI m) n).2.2.1 = x := ⟨_, rfl⟩
  obtain ⟨wt, iwt⟩ : ∃ x, (chT (H : Int) (ld H) (entL ld) (mI m) n).2.2.2 = x := ⟨_, rfl⟩
  rw [ito, ish, iwt] at hch
  cases iok : (chT (H : Int) (ld H) (entL ld) (mI m) n).1
  · -- nothing to give
    have b1 : IntKind.wrap IntKind.i64 ((H : Int) + 1) = (H : Int) + 1 := wrapI (by omega)
    have b2 : IntKind.wrap IntKind.i64 (q + 1) = q + 1 := wrapI (by omega)
    have b3 := Int.emod_nonneg ((H : Int) + 1) e5
    have b4 := Int.emod_lt_of_pos ((H : Int) + 1) (show (0 : Int) < (n : Int) by omega)
    have b5 : Int.tmod ((H : Int) + 1) (n : Int) = ((H : Int) + 1) % (n : Int) := Int.tmod_eq_emod_of_nonneg (by omega)
    refine HT.round GOEB2 GKEB2 (e := .exit 5) (st' := ⟨mainSl n sq (((H : Int) + 1) % (n : Int)) (q + 1) mv, hp3 n ld al wl, 3, false, 0, [0, 1, 2, 3, 4]⟩) (T.over_eq _ ht ?_) ⟨.inl rfl, _, _, _, _, _, _, ⟨⟨b3, b4⟩, ⟨by omega, by omega⟩, hmv, hM.hld, hM.hal, hsqs⟩, ?_, rfl⟩
    · simp only [T.res_br, T.res_ret, T.res_bad, iok, ito, ish, iwt, e0, decide_eq_true e1, e2, e3, e4, e5', EntE_ok, MapI_mI, b1, b2, b5, eq_self, and_self, false_implies, pb_tt, Bool.not_false, Bool.false_eq_true, reduceIte]
    · unfold muD
      omega
  · -- a gift
    obtain ⟨⟨⟨t1, t2⟩, t3, _, _⟩, p, hp, p1, p2, p3⟩ := hch iok
    obtain ⟨tn, rfl⟩ : ∃ tn : Nat, to = tn := ⟨to.toNat, by omega⟩
    have hTH : tn ≠ H := fun e => t3 (by rw [e])
    have hT : tn < n := by omega
    have hsh := hm.key.rng p hp
    rw [p1] at hsh
    have hwt : wt = getI sh wl := by rw [← p2, hm.val p hp, p1]
    have hw9 := hw sh hsh.1 hsh.2
    rw [← hwt] at hw9
    have hlH := hM.hld H hH
    have hlT := hM.hld tn hT
    have hfit : wt < ld H - ld tn := by
      have p4 : fitsB wt (ld H) (ld tn) false = true := by rw [← p2]; exact p3
      exact fit_small hw9 hlH hlT p4
    obtain ⟨k1, k2⟩ := move_ok hM.hld hH hT hTH hw9.1 hfit
    have hsn2 := sq_nonneg n k1
    have hhas : hasM (.int .i64 sh) (mI m) = true := (has_mI _ _).2 ⟨p, hp, p1⟩
    have c1 : decide ((tn : Int) < 0) = false := decide_eq_false (by omega)
    have c2 : decide ((tn : Int) ≥ (n : Int)) = false := decide_eq_false (by omega)
    have c3 : ((tn : Int) == (H : Int)) = false := beq_eq_false_iff_ne.2 (by omega)
    have c4 : (wt != getI sh wl) = false := by rw [hwt]; simp
    have c5 : Int.tdiv sq 2 = sq / 2 := Int.tdiv_eq_ediv_of_nonneg (by omega)
    have c6 : IntKind.wrap IntKind.i64 (sq / 2) = sq / 2 := wrapI (by omega)
    have c7 : decide (mv > sq / 2) = false := decide_eq_false (by omega)
    have c8 : (0 : Int) ≤ (tn : Int) ∧ (tn : Int) < (n : Int) := by omega
    have c9 : Nat.ble (tn + 1) n = true := ble_tt (by omega)
    have d1 : IntKind.wrap IntKind.i64 (mv + 1) = mv + 1 := wrapI (by omega)
    have d2 : IntKind.wrap IntKind.i64 (ld H - wt) = ld H - wt := wrapI (by omega)
    have d3 : IntKind.wrap IntKind.i64 (ld tn + wt) = ld tn + wt := wrapI (by omega)
    have d4 : Nat.beq tn H = false := beq_ff' hTH
    refine HT.round GOEB2 GKEB2 (e := .normal) (st' := ⟨mainSl n sq H 0 (mv + 1), hp3 n (updJ (updJ ld H (ld H - wt)) tn (ld tn + wt)) (putI sh (tn : Int) al) wl, 3, false, 0, [0, 1, 2, 3, 4]⟩) (T.over_eq _ ht ?_) ⟨.inr rfl, _, _, _, _, _, _, ⟨e1, ⟨by omega, by omega⟩, by omega, k1, hM.hal.put hsh c8, ?_⟩, ?_, rfl⟩
    · simp only [T.res_br, T.res_ret, T.res_bad, iok, ito, ish, iwt, e0, decide_eq_true e1, e2, e3, e4, EntE_ok, MapI_mI, mI_keys, mI_ints, mI_get, mI_put, hhas, c1, c2, c3, c4, c5, c6, c7, decide_eq_true c8, c9, d1, d2, d3, d4, cond_false, Int.toNat_natCast, eq_self, and_self, false_implies, pb_tt, Bool.and_self, Bool.not_true, Bool.false_eq_true, reduceIte]
      rfl
    · omega
    · unfold muD
      omega
theorem StLe.wrs' {m nx : Nat} {sl : Slots} {H : Heap} {esc : Bool} {b b' : Nat} {wr wr' : List Nat} (hm : m ≤ nx) : StLe m ⟨sl, H, nx, esc, b, wr⟩ ⟨sl, H, nx, esc, b', wr'⟩ :=
  StLe.less (s := ⟨sl, H, nx, esc, b, wr⟩) hm (fun t => .inr (.inl rfl)) (fun b => .inl rfl)
theorem x_part (n : Nat) (hn : 0 < n) (hn5 : n ≤ 5) (sq h q mv : Int) (hsq : sq ≤ 100000) (ld : Nat → Int) (al wl : List (Int × Int)) (hM : MIn n sq h q mv ld al) (hq : q < (n : Int)) (hw : WlOk 6 wl) :
    HT Try.prog Try.f11.ntmps deX (S_mn n sq h q mv ld al wl) (RX n sq h q mv ld al wl) := by
  refine HT.cutR GOEB1 GKEB1 (e := .normal) (st := ⟨mainSl n sq h q mv ++ [(20, .v (.one Nil))], hp3 n ld al wl, 3, false, 0, []⟩) (T.over_eq _ (tree_X0 n sq h q mv ld al wl) rfl) (fun _ => ?_) (fun h => absurd rfl h)
  rw [shapeX1]
  refine HT.seq (R1 := fun e s => e = .normal ∧ s = ⟨mainSl n sq h q mv ++ [(20, .v (.one (.sl false 3 5 0 0 n n false 5)))], hp3 n ld al wl ++ [(3, .arr true 5 n (entE (entL ld)))], 4, false, 0, []⟩)
    (HT.seq (R1 := fun e s => e = .normal ∧ s = ⟨mainSl n sq h q mv ++ [(20, .v (.one Nil)), (103, .v (ldV n)), (104, .v (AI n)), (105, .v (AI 0))], hp3 n ld al wl, 3, false, 0, []⟩) (HT.round GOEB1 GKEB1 (e := .normal) (T.over_eq _ (tree_X1 n sq h q mv ld al wl) rfl) ⟨rfl, rfl⟩) (fun s hs => ?_) (fun e s hne hs => absurd hs.1 hne)) (fun s hs => ?_) (fun e s hne hs => absurd hs.1 hne)
  · obtain rfl := hs.2
    refine HT.pre (m := 3) (st1 := S_b6 n sq h q mv ld al wl 0) (StLe.row (s := ⟨mainSl n sq h q mv ++ [(20, .v (.one Nil)), (103, .v (ldV n)), (104, .v (AI n)), (105, .v (AI 0))], hp3 n ld al wl, 3, false, 0, []⟩) (Nat.le_refl 3) (fun t => ?_) (fun b hb => ?_) (fun h => by cases h)) (HT.block (HT.weak (loop_b6 n hn hn5 sq h q mv ld al wl) fun e s he => by obtain ⟨rfl, rfl⟩ := he; exact ⟨rfl, rfl⟩))
    · by_cases h5 : 20 = t
      · subst h5
        exact .inr (.inr ⟨rfl, _, _, _, rfl⟩)
      · left
        simp only [mainSl, List.cons_append, List.nil_append, Slots.get_cons, h5, if_false]
        rfl
    · rcases b with _ | _ | _ | _ | b
      · rfl
      · rfl
      · rfl
      · exact absurd rfl hb
      · rfl
  · obtain rfl := hs.2
    refine HT.cutR GOEB1 GKEB1 (e := .normal) (st := S_fi n sq h q mv ld al wl []) (T.over_eq _ (tree_X2 n sq h q mv ld al wl) rfl) (fun _ => ?_) (fun h => absurd rfl h)
    rw [shapeX3]
    refine HT.seq (pass_at n sq h q mv ld al wl hM.hal.key) (fun s hs => ?_) (fun e s hne hs => absurd hs.1 hne)
    obtain ⟨_, m0, hm0, rfl⟩ := hs
    refine HT.pre (m := 5) (st1 := S_fi n sq h q mv ld al wl m0) (StLe.less (s := ⟨mineSl n sq h q mv, [(0, .arr true 1 n (intE ld)), (2, .map (mI wl)), (3, .arr true 5 n (entE (entL ld))), (4, .map (mI m0)), (1, .map (mI al))], 5, false, 0, []⟩) (Nat.le_refl 5) (fun t => .inr (.inl rfl)) (fun b => by rcases b with _ | _ | _ | _ | _ | b <;> exact .inl rfl)) ?_
    rw [shapeX4]
    refine HT.seq (R1 := fun e s => e = .normal ∧ ∃ m, MineOk wl m ∧ s = S_fi n sq h q mv ld al wl m)
      (HT.seq (R1 := fun e s => e = .normal ∧ s = S_bq n sq h q mv ld al wl m0 ((0 : Nat) : Int)) (HT.round GOEB1 GKEB1 (e := .normal) (st' := S_bq n sq h q mv ld al wl m0 ((0 : Nat) : Int)) (T.over_eq _ (tree_X4 n sq h q mv ld al wl m0) rfl) ⟨rfl, rfl⟩) (fun s hs => ?_) (fun e s hne hs => absurd hs.1 hne)) (fun s hs => ?_) (fun e s hne hs => absurd hs.1 hne)
    · obtain rfl := hs.2
      exact HT.block (HT.weak (loop_bq n sq h q mv ld al wl m0 hm0) fun e s he => by obtain ⟨rfl, h⟩ := he; exact ⟨rfl, h⟩)
    · obtain ⟨_, m, hm, rfl⟩ := hs
      exact gift n hn hn5 sq h q mv hsq ld al wl m hM hq hw hm
theorem loop_main (n : Nat) (hn : 0 < n) (hn5 : n ≤ 5) (sq : Int) (hsq : sq ≤ 100000) (wl : List (Int × Int)) (hw : WlOk 6 wl) (h0 : Int) (ld0 : Nat → Int) (al0 : List (Int × Int)) (hM0 : MIn n sq h0 0 0 ld0 al0) :
    HT Try.prog Try.f11.ntmps (.loop deL) (S_mn n sq h0 0 0 ld0 al0 wl) fun e s => e = .exit 4 ∧ ∃ mv H, 0 ≤ mv ∧ 2 * mv ≤ sq ∧ s = ⟨[(14, .v (AI sq)), (19, .v (AI mv))], H, 3, false, 0, []⟩ := by
  refine HT.loop (α := Int × Int × Int × (Nat → Int) × List (Int × Int)) (fun p => S_mn n sq p.1 p.2.1 p.2.2.1 p.2.2.2.1 p.2.2.2.2 wl) (fun p => muD n p.2.1 p.2.2.2.1) (fun p => MIn n sq p.1 p.2.1 p.2.2.1 p.2.2.2.1 p.2.2.2.2) (fun p hp => ?_) (p := (h0, 0, 0, ld0, al0)) hM0 (m := 3) (StLe.refl (Nat.le_refl 3))
  obtain ⟨h, q, mv, ld, al⟩ := p
  have hM : MIn n sq h q mv ld al := hp
  clear hp
  dsimp only
  by_cases hq : q < (n : Int)
  · refine HT.cutR GOEB1 GKEB1 (e := .normal) (st := S_mn n sq h q mv ld al wl) (T.over_eq _ (tree_P n sq h q mv ld al wl) ?_) (fun _ => ?_) (fun h => absurd rfl h)
    · simp only [T.res_br, T.res_ret, T.res_bad, decide_eq_true hq, reduceIte]
      rfl
    · rw [shapeL]
      refine HT.block (HT.weak (x_part n hn hn5 sq h q mv hsq ld al wl hM hq hw) fun e s he => ?_)
      obtain ⟨he, h', q', mv', ld', al', wr, hM', hmu, rfl⟩ := he
      have : unb 5 e = .normal := by rcases he with rfl | rfl <;> rfl
      exact .inl ⟨this, 3, (h', q', mv', ld', al'), StLe.wrs' (Nat.le_refl 3), hM', hmu⟩
  · refine HT.cutR GOEB1 GKEB1 (e := .exit 4) (st := ⟨[(14, .v (AI sq)), (19, .v (AI mv))], hp3 n ld al wl, 3, false, 0, []⟩) (T.over_eq _ (tree_P n sq h q mv ld al wl) ?_) (fun h => by cases h) (fun _ => .inr ⟨by simp, rfl, mv, _, hM.hmv, ?_, rfl⟩)
    · simp only [T.res_br, T.res_ret, T.res_bad, decide_eq_false hq, Bool.false_eq_true, reduceIte]
    · have := sq_nonneg n hM.hld
      have := hM.sqs
      omega

end Go.Proofs.Ytggneleipimijaa.En
