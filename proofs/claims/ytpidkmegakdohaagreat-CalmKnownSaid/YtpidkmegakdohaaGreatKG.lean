/- The closed engine, made quick: it comes to what the plain one comes to. -/
import Derived.Test.YtpidkmegakdohaaGreatK22
import Derived.Test.YtpidkmegakdohaaGreatKF
namespace Go.Proofs.YtpidkmegakdohaaGreat.Kn
open Go
set_option linter.unusedVariables false
set_option linter.unusedSimpArgs false

theorem sc_spec (v : SV) : match sc v with
    | .int k n => v = .v (.one (.f (.lit (.int k n))))
    | .bool b => v = .v (.one (.f (.lit (.bool b))))
    | .str s => v = .v (.one (.f (.lit (.string s))))
    | .ptr b m i j => v = .v (.one (.ptr b m i j))
    | .sl nil b m i j len cap ex sz => v = .v (.one (.sl nil b m i j len cap ex sz))
    | .agg l => v = .v (.agg l)
    | .tup l => v = .tup l
    | .no => True := by
  rcases v with a | l | _
  · rcases a with x | l
    · rcases x with f | _ | _ | _ | _
      · rcases f with v | _ | _ | _
        · cases v <;> first | rfl | exact True.intro
        · exact True.intro
        · exact True.intro
        · exact True.intro
      · rfl
      · rfl
      · exact True.intro
      · exact True.intro
    · rfl
  · rfl
  · exact True.intro

theorem natK_eq {β : Type} (n : Nat) (k : Nat → β) : natK n k = k n := by cases n <;> rfl
theorem intK_eq {β : Type} (n : Int) (k : Int → β) : intK n k = k n := by cases n <;> exact natK_eq _ _
theorem boolK_eq {β : Type} (b : Bool) (k : Bool → β) : boolK b k = k b := by cases b <;> rfl
theorem kindK_eq {β : Type} (a : IntKind) (k : IntKind → β) : kindK a k = k a := by cases a <;> rfl
theorem topK_eq {α β : Type} (t : Tr α) (k : Tr α → β) : topK t k = k t := by cases t <;> rfl
theorem bk_eq {β : Type} (b : Bool) (t e : β) : bk b t e = match b with | true => t | false => e := by cases b <;> rfl
theorem tk_eq {α β : Type} (t : T α) (k : α → T β) : tk t k = t.bind k := by cases t <;> rfl

theorem forceF_eq {β : Type} (v : SV) (k : SV → β) : forceF v k = k v := by
  have h := sc_spec v
  unfold forceF
  cases hs : sc v with
  | int kd n => rw [hs] at h; subst h; show kindK kd _ = _; rw [kindK_eq, intK_eq]
  | bool b => rw [hs] at h; subst h; exact boolK_eq _ _
  | str s => rw [hs] at h; subst h; rfl
  | ptr b m i j => rw [hs] at h; subst h; show natK b _ = _; rw [natK_eq, natK_eq]
  | sl nil b m i j len cap ex sz => rw [hs] at h; subst h; show natK b _ = _; rw [natK_eq, natK_eq, natK_eq, natK_eq]
  | agg l => rw [hs] at h; subst h; rfl
  | tup l => rw [hs] at h; subst h; rfl
  | no => rfl

theorem slow_eq (G : Ctx) (call : CallF) (d : Bool) (sl : Slots) (H : Heap) (nx : Nat) (st : St) (o : Oper) : slow G call d sl H nx st o = evOp G call d st o := by
  unfold slow
  cases h : evOp G call d st o with
  | bad => rfl
  | ret u =>
    obtain ⟨v, H', nx', e, fp, wr⟩ := u
    show topK H' _ = _
    rw [topK_eq, natK_eq]

/-! numbers -/
theorem kbeq_eq (a b : IntKind) : kbeq a b = decide (a = b) := by cases a <;> cases b <;> rfl
theorem ileF_eq (x y : Int) : ileF x y = decide (x ≤ y) := by
  cases x with
  | ofNat a => cases y with
    | ofNat b =>
      show Nat.ble a b = _
      rw [Bool.eq_iff_iff, Nat.ble_eq, decide_eq_true_iff]
      simp only [Int.ofNat_eq_natCast]; omega
    | negSucc b => show false = _; symm; rw [decide_eq_false_iff_not]; simp only [Int.ofNat_eq_natCast]; omega
  | negSucc a => cases y with
    | ofNat b => show true = _; symm; rw [decide_eq_true_iff]; simp only [Int.ofNat_eq_natCast]; omega
    | negSucc b =>
      show Nat.ble b a = _
      rw [Bool.eq_iff_iff, Nat.ble_eq, decide_eq_true_iff]
      omega
theorem iltF_eq (x y : Int) : iltF x y = decide (x < y) := by
  cases x with
  | ofNat a => cases y with
    | ofNat b =>
      show Nat.ble (a + 1) b = _
      rw [Bool.eq_iff_iff, Nat.ble_eq, decide_eq_true_iff]
      simp only [Int.ofNat_eq_natCast]; omega
    | negSucc b => show false = _; symm; rw [decide_eq_false_iff_not]; simp only [Int.ofNat_eq_natCast]; omega
  | negSucc a => cases y with
    | ofNat b => show true = _; symm; rw [decide_eq_true_iff]; simp only [Int.ofNat_eq_natCast]; omega
    | negSucc b =>
      show Nat.ble (b + 1) a = _
      rw [Bool.eq_iff_iff, Nat.ble_eq, decide_eq_true_iff]
      omega
theorem ieqF_eq (x y : Int) : ieqF x y = (x == y) := by
  cases x with
  | ofNat a => cases y with
    | ofNat b =>
      show Nat.beq a b = _
      rw [Bool.eq_iff_iff, Nat.beq_eq, beq_iff_eq]
      simp only [Int.ofNat_eq_natCast]; omega
    | negSucc b => show false = _; symm; rw [beq_eq_false_iff_ne]; simp only [Int.ofNat_eq_natCast]; omega
  | negSucc a => cases y with
    | ofNat b => show false = _; symm; rw [beq_eq_false_iff_ne]; simp only [Int.ofNat_eq_natCast]; omega
    | negSucc b =>
      show Nat.beq a b = _
      rw [Bool.eq_iff_iff, Nat.beq_eq, beq_iff_eq]
      omega
theorem bnot_eq (b : Bool) : bnot b = !b := by cases b <;> rfl
theorem addF_eq (x y : Int) : addF x y = x + y := by cases x <;> cases y <;> rfl
theorem subF_eq (x y : Int) : subF x y = x - y := by
  cases x with
  | ofNat a => cases y with
    | ofNat b =>
      show Bool.rec (motive := fun _ => Nat → Nat → Int) (fun a b => Int.sub (.ofNat a) (.ofNat b)) (fun a b => .ofNat (Nat.sub a b)) (Nat.ble b a) a b = _
      cases h : Nat.ble b a with
      | false => rfl
      | true =>
        have := nble h
        show Int.ofNat (a - b) = _
        simp only [Int.ofNat_eq_natCast]
        omega
    | negSucc b => rfl
  | negSucc a => rfl

theorem wrap_in (k : IntKind) (n : Int) (h : n ≤ kmax k) (h0 : 0 ≤ n ∨ (ksig k = true ∧ -(kmax k : Int) - 1 ≤ n)) : k.wrap n = n := by
  cases k <;> simp [kmax, ksig] at h h0 <;> simp [IntKind.wrap, IntKind.bits, IntKind.signed] <;> omega

theorem wrapF_eq (k : IntKind) (n : Int) : wrapF k n = k.wrap n := by
  cases n with
  | ofNat m =>
    show Bool.rec (motive := fun _ => IntKind → Int → Int) (fun k n => k.wrap n) (fun _ n => n) (Nat.ble m (kmax k)) k (.ofNat m) = _
    cases h : Nat.ble m (kmax k) with
    | false => rfl
    | true =>
      have := nble h
      exact (wrap_in k _ (by simp only [Int.ofNat_eq_natCast]; omega) (.inl (by simp only [Int.ofNat_eq_natCast]; omega))).symm
  | negSucc m =>
    show Bool.rec (motive := fun _ => Nat → IntKind → Int → Int) (fun _ k n => k.wrap n) (fun m k n => Bool.rec (motive := fun _ => IntKind → Int → Int) (fun k n => k.wrap n) (fun _ n => n) (Nat.ble m (kmax k)) k n) (ksig k) m k (.negSucc m) = _
    cases hs : ksig k with
    | false => rfl
    | true =>
      show Bool.rec (motive := fun _ => IntKind → Int → Int) (fun k n => k.wrap n) (fun _ n => n) (Nat.ble m (kmax k)) k (.negSucc m) = _
      cases h : Nat.ble m (kmax k) with
      | false => rfl
      | true =>
        have := nble h
        exact (wrap_in k (.negSucc m) (by omega) (.inr ⟨hs, by omega⟩)).symm

theorem kmax_lt (k : IntKind) : ∃ m, kmax k = 2 ^ m - 1 ∧ m ≤ k.bits := by
  cases k
  · exact ⟨7, by decide, by decide⟩
  · exact ⟨15, by decide, by decide⟩
  · exact ⟨31, by decide, by decide⟩
  · exact ⟨63, by decide, by decide⟩
  · exact ⟨8, by decide, by decide⟩
  · exact ⟨16, by decide, by decide⟩
  · exact ⟨32, by decide, by decide⟩
  · exact ⟨64, by decide, by decide⟩

theorem natOp_eq {f : Nat → Nat → Nat} {g : IntKind → Int → Int → Int} (h : ∀ (k : IntKind) (a b : Nat), a ≤ kmax k → b ≤ kmax k → ((f a b : Nat) : Int) = g k a b) (k : IntKind) (x y : Int) : natOp f g k x y = g k x y := by
  cases x with
  | ofNat a => cases y with
    | ofNat b =>
      show Bool.rec (motive := fun _ => IntKind → Int → Int → Int) g (fun _ _ _ => .ofNat (f a b)) (and (Nat.ble a (kmax k)) (Nat.ble b (kmax k))) k (.ofNat a) (.ofNat b) = _
      cases hc : and (Nat.ble a (kmax k)) (Nat.ble b (kmax k)) with
      | false => rfl
      | true =>
        rw [Bool.and_eq_true] at hc
        exact h k a b (nble hc.1) (nble hc.2)
    | negSucc b => rfl
  | negSucc a => cases y <;> rfl

theorem ofInt_nat (w a : Nat) (h : a < 2 ^ w) : (BitVec.ofInt w (a : Int)).toNat = a := by
  rw [BitVec.ofInt_natCast, BitVec.toNat_ofNat, Nat.mod_eq_of_lt h]

theorem bits_ok {f : Nat → Nat → Nat} {F : ∀ w, BitVec w → BitVec w → BitVec w} (h1 : ∀ w x y, (F w x y).toNat = f x.toNat y.toNat) (h2 : ∀ m a b, a < 2 ^ m → b < 2 ^ m → f a b < 2 ^ m) (k : IntKind) (a b : Nat) (ha : a ≤ kmax k) (hb : b ≤ kmax k) :
    ((f a b : Nat) : Int) = k.wrap (F k.bits (BitVec.ofInt k.bits a) (BitVec.ofInt k.bits b)).toNat := by
  obtain ⟨m, hm, hle⟩ := kmax_lt k
  have hp : 0 < 2 ^ m := Nat.two_pow_pos m
  have hpw : 2 ^ m ≤ 2 ^ k.bits := Nat.pow_le_pow_right (by decide) hle
  have h := h2 m a b (by omega) (by omega)
  rw [h1, ofInt_nat _ _ (by omega), ofInt_nat _ _ (by omega)]
  exact (wrap_in k _ (by omega) (.inl (by omega))).symm

/-! tables by the way to a place -/
theorem getP_eq {α : Type} (x : α) : ∀ (k n : Nat) (t : Tr α) (no : α), n < 4 ^ k → no = t.get x n → getP (pathOf k n) no t = t.get x n
  | 0, n, t, no, hn, hno => by
    have : n = 0 := by simpa using hn
    subst this
    cases t with
    | row y l => rfl
    | fork a b c d => exact hno
  | k + 1, n, t, no, hn, hno => by
    have hq : n / 4 < 4 ^ k := by rw [Nat.pow_succ] at hn; omega
    show getP (four Pa.a Pa.b Pa.c Pa.d (n % 4) (pathOf k (n / 4))) no t = _
    have hm : n % 4 < 4 := Nat.mod_lt _ (by decide)
    cases t with
    | row y l =>
      generalize n % 4 = i at *
      match i, hm with
      | 0, _ => exact hno
      | 1, _ => exact hno
      | 2, _ => exact hno
      | 3, _ => exact hno
    | fork a b c d =>
      have hg : Tr.get x (.fork a b c d) n = four (a.get x) (b.get x) (c.get x) (d.get x) (n % 4) (n / 4) := rfl
      rw [hg] at hno ⊢
      generalize n % 4 = i at *
      match i, hm with
      | 0, _ => exact getP_eq x k (n / 4) a no hq hno
      | 1, _ => exact getP_eq x k (n / 4) b no hq hno
      | 2, _ => exact getP_eq x k (n / 4) c no hq hno
      | 3, _ => exact getP_eq x k (n / 4) d no hq hno

theorem putP_eq {α β : Type} : ∀ (k n : Nat) (t : Tr α) (v : α) (kk : Tr α → β) (no : β), n < 4 ^ k → no = t.putK n v kk → putP (pathOf k n) v kk no t = t.putK n v kk
  | 0, n, t, v, kk, no, hn, hno => by
    have : n = 0 := by simpa using hn
    subst this
    cases t with
    | row y l => rfl
    | fork a b c d => exact hno
  | k + 1, n, t, v, kk, no, hn, hno => by
    have hq : n / 4 < 4 ^ k := by rw [Nat.pow_succ] at hn; omega
    show putP (four Pa.a Pa.b Pa.c Pa.d (n % 4) (pathOf k (n / 4))) v kk no t = _
    have hm : n % 4 < 4 := Nat.mod_lt _ (by decide)
    cases t with
    | row y l =>
      generalize n % 4 = i at *
      match i, hm with
      | 0, _ => exact hno
      | 1, _ => exact hno
      | 2, _ => exact hno
      | 3, _ => exact hno
    | fork a b c d =>
      have hg : Tr.putK (.fork a b c d) n v kk = four (fun n o => a.putK n o fun x => kk (.fork x b c d)) (fun n o => b.putK n o fun x => kk (.fork a x c d)) (fun n o => c.putK n o fun x => kk (.fork a b x d)) (fun n o => d.putK n o fun x => kk (.fork a b c x)) (n % 4) (n / 4) v := rfl
      rw [hg] at hno ⊢
      generalize n % 4 = i at *
      match i, hm with
      | 0, _ => exact putP_eq k (n / 4) a v _ no hq hno
      | 1, _ => exact putP_eq k (n / 4) b v _ no hq hno
      | 2, _ => exact putP_eq k (n / 4) c v _ no hq hno
      | 3, _ => exact putP_eq k (n / 4) d v _ no hq hno

theorem kxV_eq (N : Nat) (x : Operand) (st : St) : kxV (kx N x) st.sl = st.val x := by
  cases x with
  | tmp t =>
    show kxV (kxT N t) st.sl = _
    unfold kxT
    split
    · rename_i h
      exact getP_eq _ _ _ _ _ (by have := nble h; simp only [wide] at this; omega) rfl
    · rfl
  | const v => rfl
  | global g => rfl
  | func g => rfl

theorem kxV_eq' (N : Nat) (x : Operand) {sl : Slots} {H : Heap} {nx : Nat} {e : Bool} {b : Nat} {w : List Nat} : kxV (kx N x) sl = St.val ⟨sl, H, nx, e, b, w⟩ x := kxV_eq N x ⟨sl, H, nx, e, b, w⟩

theorem kxT_eq (N t : Nat) (s : Slots) : kxV (kxT N t) s = Slots.get s t := kxV_eq N (.tmp t) ⟨s, Heap.none, 0, false, 0, []⟩

theorem putF_eq {β : Type} (N : Nat) (d : Option Nat) (sl : Slots) (v : SV) (H : Heap) (nx : Nat) (e : Bool) (b : Nat) (w : List Nat) (k : St → β) : putF (kd N d) sl v (fun sl => k ⟨sl, H, nx, e, b, w⟩) = St.putK ⟨sl, H, nx, e, b, w⟩ d v k := by
  cases d with
  | none => rfl
  | some n =>
    show putF (match Nat.ble (n + 1) (wide (deep N)) with | true => .at (pathOf (deep N) n) n | false => .far n) sl v _ = _
    split
    · rename_i h
      exact putP_eq _ _ _ _ _ _ (by have := nble h; simp only [wide] at this; omega) rfl
    · rfl

/-! rows of cells -/
theorem dropF_eq {α : Type} : ∀ (l : List α) (n : Nat), dropF l n = l.drop n
  | [], n => by simp; rfl
  | x :: r, 0 => rfl
  | x :: r, n + 1 => dropF_eq r n

theorem takeF_eq {α β : Type} : ∀ (l : List α) (n : Nat) (k : List α → β) (no : β), takeF l n k no = match Nat.beq (l.take n).length n with | true => k (l.take n) | false => no
  | [], 0, k, no => rfl
  | [], n + 1, k, no => rfl
  | x :: r, 0, k, no => rfl
  | x :: r, n + 1, k, no => by
    show takeF r n (fun r => k (x :: r)) no = _
    rw [takeF_eq r n]
    rfl

theorem overF_eq {α β : Type} : ∀ (l : List α) (j : Nat) (vs : List α) (k : List α → β) (no : β), overF l j vs k no = match Nat.ble (j + vs.length) l.length with | true => k (setRange l j vs) | false => no
  | [], 0, [], k, no => rfl
  | [], 0, v :: vs, k, no => by
    have : Nat.ble (0 + (v :: vs).length) ([] : List α).length = false := by
      cases h : Nat.ble (0 + (v :: vs).length) ([] : List α).length with
      | false => rfl
      | true => have := nble h; simp at this
    rw [this]; rfl
  | [], j + 1, vs, k, no => by
    have : Nat.ble (j + 1 + vs.length) ([] : List α).length = false := by
      cases h : Nat.ble (j + 1 + vs.length) ([] : List α).length with
      | false => rfl
      | true => have := nble h; simp at this
    rw [this]; rfl
  | x :: r, 0, [], k, no => by
    rw [show Nat.ble (0 + ([] : List α).length) (x :: r).length = true from Nat.ble_eq_true_of_le (by simp)]
    rfl
  | x :: r, 0, v :: vs, k, no => by
    show overF r 0 vs (fun r => k (v :: r)) no = _
    rw [overF_eq r 0 vs]
    have : Nat.ble (0 + (v :: vs).length) (x :: r).length = Nat.ble (0 + vs.length) r.length := by
      rw [Bool.eq_iff_iff, Nat.ble_eq, Nat.ble_eq]; simp
    rw [this]
    rfl
  | x :: r, j + 1, vs, k, no => by
    show overF r j vs (fun r => k (x :: r)) no = _
    rw [overF_eq r j vs]
    have : Nat.ble (j + 1 + vs.length) (x :: r).length = Nat.ble (j + vs.length) r.length := by
      rw [Bool.eq_iff_iff, Nat.ble_eq, Nat.ble_eq]; simp; omega
    rw [this]
    have : setRange (x :: r) (j + 1) vs = x :: setRange r j vs := by cases vs <;> rfl
    rw [this]

theorem ofF_eq {β : Type} (agg : Bool) (l : List CV) (k : AV → β) (no : β) : ofF agg l k no = match ofCells agg l with | some v => k v | none => no := by
  cases agg with
  | true => rfl
  | false => rcases l with _ | ⟨x, _ | ⟨y, r⟩⟩ <;> rfl

theorem lenIs_eq {α : Type} : ∀ (l : List α) (n : Nat), lenIs l n = Nat.beq l.length n
  | [], 0 => rfl
  | [], n + 1 => rfl
  | x :: r, 0 => rfl
  | x :: r, n + 1 => lenIs_eq r n

theorem nthF_eq {α β : Type} : ∀ (l : List α) (n : Nat) (k : α → β) (no : β), nthF l n k no = match l[n]? with | some v => k v | none => no
  | [], n, k, no => rfl
  | x :: r, 0, k, no => rfl
  | x :: r, n + 1, k, no => by
    show nthF r n k no = _
    rw [nthF_eq r n]
    simp

theorem avF_eq (N : Nat) (st : St) : ∀ (l : List Operand) (k : List AV → T Out), avF (l.map (kx N)) st.sl k = match avs? (l.map st.val) with | some r => k r | none => .bad
  | [], k => rfl
  | x :: l, k => by
    show SV.rec (motive := fun _ => T Out) (fun a => avF (l.map (kx N)) st.sl fun r => k (a :: r)) (fun _ => .bad) .bad (kxV (kx N x) st.sl) = _
    rw [kxV_eq]
    simp only [List.map_cons]
    cases hv : st.val x with
    | v a =>
      show avF (l.map (kx N)) st.sl (fun r => k (a :: r)) = _
      rw [avF_eq N st l]
      simp only [avs?]
      cases avs? (l.map st.val) <;> rfl
    | tup l => rfl
    | top => rfl

theorem inF_eq (i : Int) (n : Nat) (k : Nat → T Out) : inF i n k = inRange i n (k i.toNat) := by
  cases i with
  | ofNat m =>
    show bk (Nat.ble (m + 1) n) (k m) .bad = T.br (decide (0 ≤ (m : Int) ∧ (m : Int) < n)) (k m) .bad
    have : Nat.ble (m + 1) n = decide (0 ≤ (m : Int) ∧ (m : Int) < n) := by
      rw [Bool.eq_iff_iff, Nat.ble_eq, decide_eq_true_iff]; omega
    rw [this, bk_eq]
    rfl
  | negSucc m =>
    show T.bad = T.br (decide (0 ≤ Int.negSucc m ∧ Int.negSucc m < n)) (k (Int.negSucc m).toNat) .bad
    have : decide (0 ≤ Int.negSucc m ∧ Int.negSucc m < (n : Int)) = false := by rw [decide_eq_false_iff_not]; omega
    rw [this]
    rfl

end Go.Proofs.YtpidkmegakdohaaGreat.Kn
