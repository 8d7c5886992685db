/- The engine, part 2: what reading, writing and making blocks come to. -/
import Derived.Test.YtpidkmegakdohaaGreatK1
namespace Go.Proofs.YtpidkmegakdohaaGreat.Kn
open Go
set_option linter.unusedVariables false

theorem T.res_bind {α β : Type} (t : T α) (k : α → T β) : (t.bind k).res = t.res.bind fun a => (k a).res := by
  cases t <;> rfl

theorem T.bind_some {α β : Type} {t : T α} {k : α → T β} {r : β} (h : (t.bind k).res = some r) : ∃ a, t.res = some a ∧ (k a).res = some r := by
  rw [T.res_bind] at h
  cases ht : t.res with
  | none => rw [ht] at h; cases h
  | some a => rw [ht] at h; exact ⟨a, rfl, h⟩

theorem T.br_some {α : Type} {b : Bool} {t e : T α} {r : α} (h : (T.br b t e).res = some r) : (b = true ∧ t.res = some r) ∨ (b = false ∧ e.res = some r) := by
  cases b with
  | true => exact .inl ⟨rfl, h⟩
  | false => exact .inr ⟨rfl, h⟩

theorem T.need_some {α : Type} {b : Bool} {t : T α} {r : α} (h : (T.need b t).res = some r) : b = true ∧ t.res = some r := by
  rcases T.br_some h with h | ⟨_, h⟩
  · exact h
  · cases h

theorem T.ret_some {α : Type} {a r : α} (h : (T.ret a).res = some r) : a = r := by injection h

theorem T.bad_some {α : Type} {r : α} (h : (T.bad : T α).res = some r) : False := by cases h

theorem nbeq {a b : Nat} (h : Nat.beq a b = true) : a = b := Nat.eq_of_beq_eq_true h
theorem nble {a b : Nat} (h : Nat.ble a b = true) : a ≤ b := Nat.le_of_ble_eq_true h

theorem FV.ite0_eq (c : Bool) (x y : FV) : FV.ite0 c x y = match c with | true => x | false => y := by
  unfold FV.ite0
  split
  · split
    · rename_i k a k' b hk
      have := of_decide_eq_true hk
      subst this
      cases c <;> rfl
    · rfl
  · cases c <;> rfl
  · cases c <;> rfl
  · rfl

theorem iteL0_eq (c : Bool) : ∀ (l r : List FV), iteL0 c l r = match c with | true => l | false => r
  | x :: xs, y :: ys => by
    simp only [iteL0, FV.ite0_eq, iteL0_eq c xs ys]
    cases c <;> rfl
  | [], [] => by cases c <;> rfl
  | [], _ :: _ => by cases c <;> rfl
  | _ :: _, [] => by cases c <;> rfl

theorem FV.ite_eq (c : Bool) (x y : FV) : FV.ite c x y = match c with | true => x | false => y := by
  unfold FV.ite
  split
  · split
    · rename_i nil sz n e nil' sz' n' e' hs
      have := nbeq hs
      subst this
      simp only [iteL0_eq]
      cases c <;> rfl
    · rfl
  · exact FV.ite0_eq c x y

theorem iteL_eq (c : Bool) : ∀ (l r : List FV), iteL c l r = match c with | true => l | false => r
  | x :: xs, y :: ys => by
    simp only [iteL, FV.ite_eq, iteL_eq c xs ys]
    cases c <;> rfl
  | [], [] => by cases c <;> rfl
  | [], _ :: _ => by cases c <;> rfl
  | _ :: _, [] => by cases c <;> rfl

theorem CV.ite_eq (c : Bool) (x y : CV) : CV.ite c x y = match c with | true => x | false => y := by
  unfold CV.ite
  split
  · rw [FV.ite_eq]; cases c <;> rfl
  · rfl

theorem iteC_eq (c : Bool) : ∀ (l r : List CV), iteC c l r = match c with | true => l | false => r
  | x :: xs, y :: ys => by
    simp only [iteC, CV.ite_eq, iteC_eq c xs ys]
    cases c <;> rfl
  | [], [] => by cases c <;> rfl
  | [], _ :: _ => by cases c <;> rfl
  | _ :: _, [] => by cases c <;> rfl

theorem AV.ite_eq (c : Bool) (x y : AV) : AV.ite c x y = match c with | true => x | false => y := by
  unfold AV.ite
  split
  · rw [CV.ite_eq]; cases c <;> rfl
  · rw [iteC_eq]; cases c <;> rfl
  · rfl

theorem setRange_length {α : Type} : ∀ (l : List α) (j : Nat) (vs : List α), (setRange l j vs).length = l.length
  | [], _, _ => by simp [setRange]
  | x :: r, 0, [] => by simp [setRange]
  | _ :: r, 0, v :: vs => by simp [setRange, setRange_length r 0 vs]
  | x :: r, j + 1, vs => by simp [setRange, setRange_length r j vs]

theorem setRange_get {α : Type} : ∀ (l : List α) (j : Nat) (vs : List α) (p : Nat) (x : α), (setRange l j vs)[p]? = some x →
    (∃ q, p = j + q ∧ vs[q]? = some x) ∨ (l[p]? = some x ∧ ∀ q, q < vs.length → p ≠ j + q)
  | [], _, _, p, x, h => by simp [setRange] at h
  | y :: r, 0, [], p, x, h => .inr ⟨by simpa [setRange] using h, fun q hq => by simp at hq⟩
  | y :: r, 0, v :: vs, p, x, h => by
    cases p with
    | zero => exact .inl ⟨0, rfl, by simpa [setRange] using h⟩
    | succ p =>
      rcases setRange_get r 0 vs p x (by simpa [setRange] using h) with ⟨q, h1, h2⟩ | ⟨h1, h2⟩
      · exact .inl ⟨q + 1, by omega, by simpa using h2⟩
      · refine .inr ⟨by simpa using h1, fun q hq => ?_⟩
        cases q with
        | zero => omega
        | succ q => have := h2 q (by simpa using hq); omega
  | y :: r, j + 1, vs, p, x, h => by
    cases p with
    | zero => exact .inr ⟨by simpa [setRange] using h, fun q hq => by omega⟩
    | succ p =>
      rcases setRange_get r j vs p x (by simpa [setRange] using h) with ⟨q, h1, h2⟩ | ⟨h1, h2⟩
      · exact .inl ⟨q, by omega, h2⟩
      · exact .inr ⟨by simpa using h1, fun q hq => by have := h2 q hq; omega⟩

theorem setRangeK_eq {α β : Type} : ∀ (l : List α) (j : Nat) (vs : List α) (k : List α → β), setRangeK l j vs k = k (setRange l j vs)
  | [], _, _, k => by simp [setRangeK, setRange]
  | x :: r, 0, [], k => by simp [setRangeK, setRange]
  | _ :: r, 0, v :: vs, k => by simp [setRangeK, setRange, setRangeK_eq r 0 vs]
  | x :: r, j + 1, vs, k => by simp [setRangeK, setRange, setRangeK_eq r j vs]

theorem Heap.putK_eq {β : Type} (H : Heap) (b : Nat) (o : Ob) (k : Heap → β) : H.putK b o k = k (H.put b o) := Tr.putK_eq H b o k
theorem Heap.get_put (H : Heap) (b : Nat) (o : Ob) (c : Nat) : (H.put b o).get c = if b = c then o else H.get c := Tr.get_put _ H b o c
theorem Heap.get_cons (k : Nat) (o : Ob) (r : Heap) (b : Nat) : Heap.get (r.put k o) b = if k = b then o else Heap.get r b := Heap.get_put r k o b
theorem Heap.get_none (b : Nat) : Heap.get Heap.none b = .dead := Tr.get_forks _ 6 b

theorem fvs?_eq : ∀ (l : List CV) (r : List FV), fvs? l = some r → l = r.map .f
  | [], r, h => by simp only [fvs?, Option.some.injEq] at h; subst h; rfl
  | x :: l, r, h => by
    cases x with
    | f x =>
      simp only [fvs?] at h
      cases hl : fvs? l with
      | none => rw [hl] at h; cases h
      | some q =>
        rw [hl] at h
        simp only [Option.some.injEq] at h
        subst h
        rw [fvs?_eq l q hl]; rfl
    | _ => simp [fvs?] at h

theorem Ob.rd_ok {o : Ob} {m i j n : Nat} {l : List CV} (h : (o.rd m i j n).res = some l) : l.length = n ∧ o.live ∧ ¬ o.isMap ∧ ∀ (k : Nat) x, l[k]? = some x → o.at m i (j + k) = some x := by
  cases o with
  | cells c =>
    simp only [Ob.rd] at h
    split at h
    · rename_i hm
      simp only [Bool.and_eq_true] at hm
      have h1 := nbeq hm.1
      have h2 := nbeq hm.2
      split at h
      · rename_i hl
        have e := T.ret_some h
        subst e
        refine ⟨nbeq hl, trivial, id, fun k x hk => ?_⟩
        simp only [Ob.at, h1, h2, and_self, if_true]
        rw [List.getElem?_take] at hk
        split at hk
        · simpa [List.getElem?_drop] using hk
        · cases hk
      · exact (T.bad_some h).elim
    · exact (T.bad_some h).elim
  | arr live sz N e =>
    simp only [Ob.rd] at h
    split at h
    · rename_i hm
      simp only [Bool.and_eq_true] at hm
      have h1 := nbeq hm.1
      have h2 := nble hm.2
      obtain ⟨hlive, h⟩ := T.need_some h
      obtain ⟨hi, h⟩ := T.need_some h
      split at h
      · rename_i hl
        have e := T.ret_some h
        have hl := nbeq hl
        subst e
        refine ⟨by simpa using hl, hlive, id, fun k x hk => ?_⟩
        simp only [List.getElem?_map] at hk
        cases hq : (List.take n (List.drop j (e i)))[k]? with
        | none => rw [hq] at hk; cases hk
        | some y =>
          rw [hq] at hk
          rw [List.getElem?_take] at hq
          split at hq
          · rename_i hkn
            simp only [List.getElem?_drop] at hq
            simp only [Ob.at, hlive, h1, true_and]
            rw [if_pos ⟨nble hi, by omega⟩, hq]
            exact hk
          · cases hq
      · exact (T.bad_some h).elim
    · exact (T.bad_some h).elim
  | map es => exact (T.bad_some h).elim
  | dead => exact (T.bad_some h).elim

theorem Ob.wr_ok {o o' : Ob} {m i j : Nat} {vs : List CV} (h : (o.wr m i j vs).res = some o') : o.live ∧ o'.live ∧ ¬ o'.isMap ∧ (∀ q, q < vs.length → ∃ y, o.at m i (j + q) = some y) ∧
    (∀ m' i' j' x, o'.at m' i' j' = some x → (∃ q, i' * m' + j' = i * m + j + q ∧ vs[q]? = some x) ∨ (o.at m' i' j' = some x ∧ ∀ q, q < vs.length → i' * m' + j' ≠ i * m + j + q)) ∧
    (∀ l, o' = .cells l → ∃ l0, o = .cells l0 ∧ ∀ x ∈ l, x ∈ l0 ∨ x ∈ vs) := by
  cases o with
  | cells c =>
    simp only [Ob.wr] at h
    split at h
    · rename_i hm
      simp only [Bool.and_eq_true] at hm
      obtain ⟨⟨h1, h2⟩, h3⟩ := hm
      have h1 := nbeq h1
      have h2 := nbeq h2
      have h3 := nble h3
      rw [setRangeK_eq] at h
      have e := T.ret_some h
      subst e
      refine ⟨trivial, trivial, id, fun q hq => ?_, fun m' i' j' x hx => ?_, fun l hl => ⟨c, rfl, fun x hx => ?_⟩⟩
      · simp only [Ob.at, h1, h2, and_self, if_true]
        exact ⟨_, List.getElem?_eq_getElem (by omega)⟩
      · simp only [Ob.at] at hx
        split at hx
        · rename_i hz
          obtain ⟨rfl, rfl⟩ := hz
          subst h1 h2
          rcases setRange_get c j vs j' x hx with ⟨q, hq, hv⟩ | ⟨hq, hv⟩
          · exact .inl ⟨q, by omega, hv⟩
          · exact .inr ⟨by simp [Ob.at, hq], fun q hq' => by have := hv q hq'; omega⟩
        · cases hx
      · cases hl
        obtain ⟨p, hp⟩ := List.mem_iff_getElem?.1 hx
        rcases setRange_get c j vs p x hp with ⟨q, _, hv⟩ | ⟨hq, _⟩
        · exact .inr (List.mem_of_getElem? hv)
        · exact .inl (List.mem_of_getElem? hq)
    · exact (T.bad_some h).elim
  | arr live sz N e =>
    simp only [Ob.wr] at h
    split at h
    · rename_i fs hm hfs
      simp only [Bool.and_eq_true] at hm
      obtain ⟨⟨h1, h2⟩, h3⟩ := hm
      have h1 := nbeq h1
      have h2 := nble h2
      have h3 := nbeq h3
      obtain ⟨hlive, h⟩ := T.need_some h
      obtain ⟨hi, h⟩ := T.need_some h
      have hi := nble hi
      have e1 := T.ret_some h
      subst e1
      have hvs := fvs?_eq _ _ hfs
      subst hvs
      subst h1
      simp only [List.length_map] at h2
      refine ⟨hlive, hlive, id, fun q hq => ?_, fun m' i' j' x hx => ?_, fun l hl => by cases hl⟩
      · simp only [List.length_map] at hq
        simp only [Ob.at]
        rw [if_pos ⟨hlive, trivial, by omega, by omega⟩, List.getElem?_eq_getElem (by omega)]
        exact ⟨_, rfl⟩
      · simp only [Ob.at] at hx
        split at hx
        · rename_i hz
          obtain ⟨_, rfl, hi', hj'⟩ := hz
          rw [iteL_eq] at hx
          cases hb : Nat.beq i' i with
          | true =>
            have := nbeq hb
            subst this
            rw [hb] at hx
            simp only at hx
            cases hq : (setRange (e i') j fs)[j']? with
            | none => rw [hq] at hx; cases hx
            | some y =>
              rw [hq] at hx
              simp only [Option.map_some, Option.some.injEq] at hx
              rcases setRange_get _ j fs j' y hq with ⟨q, hq1, hv⟩ | ⟨hq1, hv⟩
              · exact .inl ⟨q, by omega, by simp [hv, hx]⟩
              · refine .inr ⟨?_, fun q hq' => ?_⟩
                · simp only [Ob.at]
                  rw [if_pos ⟨hlive, trivial, hi', hj'⟩, hq1]
                  simp [hx]
                · have := hv q (by simpa using hq')
                  omega
          | false =>
            have hne : i' ≠ i := fun e => by subst e; simp at hb
            rw [hb] at hx
            simp only at hx
            refine .inr ⟨?_, fun q hq' he => ?_⟩
            · simp only [Ob.at]
              rw [if_pos ⟨hlive, trivial, hi', hj'⟩]
              exact hx
            · simp only [List.length_map] at hq'
              rcases Nat.lt_or_gt_of_ne hne with hlt | hlt
              · have : (i' + 1) * m' ≤ i * m' := Nat.mul_le_mul_right _ hlt
                rw [Nat.add_mul] at this
                omega
              · have : (i + 1) * m' ≤ i' * m' := Nat.mul_le_mul_right _ hlt
                rw [Nat.add_mul] at this
                omega
        · cases hx
    · exact (T.bad_some h).elim
  | map es => exact (T.bad_some h).elim
  | dead => exact (T.bad_some h).elim

theorem ad_add (f : Fn) (b m i j k : Nat) : (ad f b m i j).add k = ad f b m i (j + k) := by
  unfold Addr.add ad
  by_cases h : k = 0
  · subst h; simp
  · simp [h, Nat.add_assoc]

theorem RL.exist {f : Fn} {nx : Nat} {z : Z} : ∀ (l : List CV) (p : Nat → Value → Prop), (∀ (k : Nat) x, l[k]? = some x → ∃ v, p k v ∧ RC f nx z x v) → ∃ vs, RL f nx z l vs ∧ ∀ (k : Nat) v, vs[k]? = some v → p k v
  | [], p, _ => ⟨[], ⟨rfl, fun i x v h => by simp at h⟩, fun k v h => by simp at h⟩
  | x :: l, p, h => by
    obtain ⟨v, h1, h2⟩ := h 0 x rfl
    obtain ⟨vs, h3, h4⟩ := RL.exist l (fun k => p (k + 1)) (fun k y hy => h (k + 1) y (by simpa using hy))
    refine ⟨v :: vs, ⟨by simp [h3.1], fun i y u hy hu => ?_⟩, fun k u hu => ?_⟩
    · cases i with
      | zero => simp only [List.getElem?_cons_zero, Option.some.injEq] at hy hu; rw [← hy, ← hu]; exact h2
      | succ i => exact h3.2 i y u (by simpa using hy) (by simpa using hu)
    · cases k with
      | zero => simp only [List.getElem?_cons_zero, Option.some.injEq] at hu; rw [← hu]; exact h1
      | succ k => exact h4 k u (by simpa using hu)

/-- the cells that are read -/
theorem BOk.read {f : Fn} {nx : Nat} {z : Z} {w : World} {b : Nat} {o : Ob} (h : BOk f nx z w b o) {m i j n : Nat} {l : List CV} (hr : (o.rd m i j n).res = some l) :
    ∃ vs, RL f nx z l vs ∧ vs.length = n ∧ ∀ (k : Nat) v, vs[k]? = some v → w.cell? ((ad f b m i j).add k) = some v := by
  obtain ⟨h1, _, _, h2⟩ := Ob.rd_ok hr
  obtain ⟨vs, h3, h4⟩ := RL.exist l (fun k v => w.cell? ((ad f b m i j).add k) = some v) (fun k x hx => by
    obtain ⟨_, v, hv, hc⟩ := h.cell m i (j + k) x (h2 k x hx)
    exact ⟨v, by rw [ad_add]; exact hv, hc⟩)
  exact ⟨vs, h3, by rw [← h3.1, h1], h4⟩

theorem World.heap_setCells (b : Nat) : ∀ (vs : List Value) (o : Nat) (w : World) (k : Nat), k ≠ b → (w.setCells b o vs).heap[k]? = w.heap[k]?
  | [], _, _, _, _ => rfl
  | v :: r, o, w, k, h => by
    rw [World.setCells, World.heap_setCells b r (o + 1) _ k h]
    exact heap_setCell_other w ⟨b, o, none⟩ k v h

theorem frange_setCell (w : World) (a : Addr) (v : Value) (k : Nat) : frange (w.setCell a v) k = frange w k := by
  unfold frange World.setCell
  simp only [Array.getElem?_modify]
  by_cases h : a.block = k
  · subst h
    simp only [if_true]
    cases hq : w.heap[a.block]? with
    | none => rfl
    | some o => cases o <;> rfl
  · simp only [h, if_false]

theorem frange_setCells (b : Nat) : ∀ (vs : List Value) (o : Nat) (w : World) (k : Nat), frange (w.setCells b o vs) k = frange w k
  | [], _, _, _ => rfl
  | v :: r, o, w, k => by rw [World.setCells, frange_setCells b r (o + 1) _ k, frange_setCell]

theorem World.size_setCells (b : Nat) : ∀ (vs : List Value) (o : Nat) (w : World), (w.setCells b o vs).heap.size = w.heap.size
  | [], _, _ => rfl
  | v :: r, o, w => by rw [World.setCells, World.size_setCells b r]; simp

theorem World.os_setCells (b : Nat) : ∀ (vs : List Value) (o : Nat) (w : World), (w.setCells b o vs).os = w.os ∧ (w.setCells b o vs).tape = w.tape ∧ (w.setCells b o vs).output = w.output
  | [], _, _ => ⟨rfl, rfl, rfl⟩
  | v :: r, o, w => by rw [World.setCells]; exact World.os_setCells b r (o + 1) _

/-- a write into an own block -/
theorem Post.write {f : Fn} {nx : Nat} {z : Z} {w : World} {H : Heap} {b : Nat} {o' : Ob} {m i j : Nat} {vs : List CV} {us : List Value} {S : Nat → Prop} (hS : S b) (hr : Rel S f nx z w H)
    (hw : ((H.get b).wr m i j vs).res = some o') (hu : RL f nx z vs us) (hno : ∀ b, nx ≤ b → ¬ (H.get b).live) {esc : Bool} (hesc : esc = false → vs.any (CV.beyond (b + 1)) = false) :
    Post S f nx z w H f nx z (w.setCells (f b).k ((f b).d + (i * m + j)) us) (H.put b o') esc := by
  obtain ⟨hl, hl', hnm, hex, hat, hcl⟩ := Ob.wr_ok hw
  obtain ⟨hb, hok⟩ := hr.own b hS hl
  have hlen := hu.1
  have hroom : ∀ q, q < us.length → i * m + j + q < (f b).t := fun q hq => by
    obtain ⟨y, hy⟩ := hex q (by omega)
    have := (hok.cell _ _ _ _ hy).1
    omega
  have hisome : ∀ q, q < us.length → (w.cell? ⟨(f b).k, (f b).d + (i * m + j) + q, none⟩).isSome = true := fun q hq => by
    have := hok.hasCell (hroom q hq)
    rwa [← Nat.add_assoc] at this
  have hother : ∀ k p, k ≠ (f b).k → (w.setCells (f b).k ((f b).d + (i * m + j)) us).cell? ⟨k, p, none⟩ = w.cell? ⟨k, p, none⟩ := fun k p hk =>
    World.cell?_of_block (w := w) (World.heap_setCells _ _ _ _ _ hk)
  have hget : ∀ c, (H.put b o').get c = if b = c then o' else H.get c := Heap.get_put H b o'
  have hlive : ∀ c, ((H.put b o').get c).live → (H.get c).live := fun c hc => by
    rw [hget] at hc
    by_cases e : b = c
    · subst e; exact hl
    · simpa [e] using hc
  have hnot : ∀ c, S c → (H.get c).live → c ≠ b → (f c).k ≠ (f b).k := fun c hc hcl hne => hr.inj c b hc hS hcl hl hne
  refine ⟨Nat.le_refl _, fun _ _ => rfl, fun _ _ _ h => h, fun _ _ _ h => .inl h, fun c _ hc => ?_, fun c _ hc => hlive c hc, ⟨fun c hc hcl => ?_, fun c d hc hd hcl hdl hne => ?_, fun k p v hv => ?_⟩, fun c hc hcl => ?_, ?_, fun he mm hm hN c l hc hg x hx => ?_⟩
  · left; rw [hget]; rw [if_neg (fun (e : b = c) => hc (e ▸ hS))]
  · have hc' : S c := hc.resolve_right fun e => hno c e (hlive c hcl)
    refine ⟨(hr.own c hc' (hlive c hcl)).1, ?_⟩
    by_cases e : b = c
    · subst e
      rw [hget, if_pos rfl]
      refine ⟨by rw [World.size_setCells]; exact hok.lt, hok.own, fun p hp => ?_, fun m' i' j' x hx => ?_, fun es he => absurd (by rw [he]; trivial) hnm, fun lo hi hq => by rw [frange_setCells] at hq; exact hok.cold lo hi hq⟩
      · rw [World.frozen?_setCells]
        refine ⟨?_, (hok.room p hp).2⟩
        by_cases hin : i * m + j ≤ p ∧ p < i * m + j + us.length
        · have := World.cell?_setCells_in (f b).k us ((f b).d + (i * m + j)) w hisome (p - (i * m + j)) (by omega)
          rw [show (f b).d + (i * m + j) + (p - (i * m + j)) = (f b).d + p by omega] at this
          exact ⟨_, this, hu.all _ (List.getElem_mem _)⟩
        · rw [World.cell?_setCells_out _ _ _ _ _ (fun _ _ => by simp only; omega)]
          exact (hok.room p hp).1
      · rcases hat m' i' j' x hx with ⟨q, hq, hv⟩ | ⟨ho, hne⟩
        · have hq' : q < us.length := by
            have := (List.getElem?_eq_some_iff.1 hv).1
            omega
          refine ⟨by rw [hq]; exact hroom q hq', us[q]'hq', ?_, hu.2 q x (us[q]'hq') hv (List.getElem?_eq_getElem hq')⟩
          have := World.cell?_setCells_in (f b).k us ((f b).d + (i * m + j)) w hisome q hq'
          simp only [ad, hq]
          rw [show (f b).d + (i * m + j + q) = (f b).d + (i * m + j) + q by omega]
          exact this
        · obtain ⟨h1, v, h2, h3⟩ := hok.cell m' i' j' x ho
          refine ⟨h1, v, ?_, h3⟩
          rw [World.cell?_setCells_out _ _ _ _ _ (fun _ _ => ?_)]
          · exact h2
          · simp only [ad]
            rcases Nat.lt_or_ge (i' * m' + j') (i * m + j) with h | h
            · exact .inl (by omega)
            · rcases Nat.lt_or_ge (i' * m' + j') (i * m + j + us.length) with h4 | h4
              · exact absurd (by omega) (hne (i' * m' + j' - (i * m + j)) (by omega))
              · exact .inr (by omega)
    · rw [hget, if_neg e]
      have hcl0 := hlive c hcl
      have hk := hnot c hc' hcl0 (Ne.symm e)
      obtain ⟨_, hc0⟩ := hr.own c hc' hcl0
      refine ⟨by rw [World.size_setCells]; exact hc0.lt, hc0.own, fun p hp => ?_, fun m' i' j' x hx => ?_, fun es he => by rw [World.heap_setCells _ _ _ _ _ hk]; exact hc0.map es he, fun lo hi hq => by rw [frange_setCells] at hq; exact hc0.cold lo hi hq⟩
      · rw [World.frozen?_setCells, hother _ _ hk]; exact hc0.room p hp
      · obtain ⟨h1, v, h2, h3⟩ := hc0.cell m' i' j' x hx
        exact ⟨h1, v, by simp only [ad]; rw [hother _ _ hk]; exact h2, h3⟩
  · have hc' : S c := hc.resolve_right fun e => hno c e (hlive c hcl)
    have hd' : S d := hd.resolve_right fun e => hno d e (hlive d hdl)
    exact hr.inj c d hc' hd' (hlive c hcl) (hlive d hdl) hne
  · have hv' := hr.zok k p v hv
    have hk : k ≠ (f b).k := fun e => by rw [e, hok.own] at hv; cases hv
    rw [hother _ _ hk]; exact hv'
  · exact absurd (hlive c hcl) (hno c hc)
  · refine ⟨by rw [World.size_setCells]; exact Nat.le_refl _, (World.os_setCells _ _ _ _).1, (World.os_setCells _ _ _ _).2.1, (World.os_setCells _ _ _ _).2.2, fun k _ hk => ?_⟩
    exact World.heap_setCells _ _ _ _ _ fun e => hk ⟨b, hS, hl, e.symm⟩
  · rw [hget] at hg
    by_cases e : b = c
    · subst e
      rw [if_pos rfl] at hg
      obtain ⟨l0, hl0, hmem⟩ := hcl l hg
      rcases hmem x hx with h1 | h1
      · exact hN b l0 hc hl0 x h1
      · have h2 := hesc he
        rw [List.any_eq_false] at h2
        have h3 := h2 x h1
        -- beyond is monotone
        have mono : ∀ (y : CV) (p q : Nat), p ≤ q → y.beyond p = false → y.beyond q = false := by
          intro y p q hpq hy
          have hb : ∀ c : Nat, Nat.ble p c = false → Nat.ble q c = false := fun c hc => by
            cases h : Nat.ble q c with
            | false => rfl
            | true => rw [Nat.ble_eq_true_of_le (Nat.le_trans hpq (nble h))] at hc; cases hc
          cases y with
          | f => rfl
          | ptr => exact hb _ hy
          | sl => exact hb _ hy
          | mp => exact hb _ hy
          | fn g l =>
            simp only [CV.beyond, List.any_eq_false] at hy ⊢
            intro y hy'
            have := hy y hy'
            simp only [Bool.not_eq_true] at this ⊢
            exact hb _ this
        exact mono x (b + 1) mm (by omega) (by simpa using h3)
    · rw [if_neg e] at hg
      exact hN c l hc hg x hx

/-- as Post.write, of cells that are told otherwise -/
theorem Post.write2 {f : Fn} {nx : Nat} {z : Z} {w : World} {H : Heap} {b : Nat} {o' : Ob} {vs : List CV} {us : List Value} {S : Nat → Prop} (hS : S b) (hr : Rel S f nx z w H)
    {B : Nat} (hl : (H.get b).live) (hnm : ¬ o'.isMap) (hroom : ∀ q, q < us.length → B + q < (f b).t)
    (hat : ∀ m' i' j' x, o'.at m' i' j' = some x → (∃ q, i' * m' + j' = B + q ∧ vs[q]? = some x) ∨ ((H.get b).at m' i' j' = some x ∧ ∀ q, q < us.length → i' * m' + j' ≠ B + q))
    (hcl : ∀ l, o' ≠ .cells l) (hu : RL f nx z vs us) (hno : ∀ b, nx ≤ b → ¬ (H.get b).live) {esc : Bool} :
    Post S f nx z w H f nx z (w.setCells (f b).k ((f b).d + B) us) (H.put b o') esc := by
  obtain ⟨hb, hok⟩ := hr.own b hS hl
  have hlen := hu.1
  have hisome : ∀ q, q < us.length → (w.cell? ⟨(f b).k, (f b).d + B + q, none⟩).isSome = true := fun q hq => by
    have := hok.hasCell (hroom q hq)
    rwa [← Nat.add_assoc] at this
  have hother : ∀ k p, k ≠ (f b).k → (w.setCells (f b).k ((f b).d + B) us).cell? ⟨k, p, none⟩ = w.cell? ⟨k, p, none⟩ := fun k p hk =>
    World.cell?_of_block (w := w) (World.heap_setCells _ _ _ _ _ hk)
  have hget : ∀ c, (H.put b o').get c = if b = c then o' else H.get c := Heap.get_put H b o'
  have hlive : ∀ c, ((H.put b o').get c).live → (H.get c).live := fun c hc => by
    rw [hget] at hc
    by_cases e : b = c
    · subst e; exact hl
    · simpa [e] using hc
  have hnot : ∀ c, S c → (H.get c).live → c ≠ b → (f c).k ≠ (f b).k := fun c hc hcl hne => hr.inj c b hc hS hcl hl hne
  refine ⟨Nat.le_refl _, fun _ _ => rfl, fun _ _ _ h => h, fun _ _ _ h => .inl h, fun c _ hc => ?_, fun c _ hc => hlive c hc, ⟨fun c hc hcl => ?_, fun c d hc hd hcl hdl hne => ?_, fun k p v hv => ?_⟩, fun c hc hcl => ?_, ?_, fun he mm hm hN c l hc hg x hx => ?_⟩
  · left; rw [hget]; rw [if_neg (fun (e : b = c) => hc (e ▸ hS))]
  · have hc' : S c := hc.resolve_right fun e => hno c e (hlive c hcl)
    refine ⟨(hr.own c hc' (hlive c hcl)).1, ?_⟩
    by_cases e : b = c
    · subst e
      rw [hget, if_pos rfl]
      refine ⟨by rw [World.size_setCells]; exact hok.lt, hok.own, fun p hp => ?_, fun m' i' j' x hx => ?_, fun es he => absurd (by rw [he]; trivial) hnm, fun lo hi hq => by rw [frange_setCells] at hq; exact hok.cold lo hi hq⟩
      · rw [World.frozen?_setCells]
        refine ⟨?_, (hok.room p hp).2⟩
        by_cases hin : B ≤ p ∧ p < B + us.length
        · have := World.cell?_setCells_in (f b).k us ((f b).d + B) w hisome (p - B) (by omega)
          rw [show (f b).d + B + (p - B) = (f b).d + p by omega] at this
          exact ⟨_, this, hu.all _ (List.getElem_mem _)⟩
        · rw [World.cell?_setCells_out _ _ _ _ _ (fun _ _ => by simp only; omega)]
          exact (hok.room p hp).1
      · rcases hat m' i' j' x hx with ⟨q, hq, hv⟩ | ⟨ho, hne⟩
        · have hq' : q < us.length := by
            have := (List.getElem?_eq_some_iff.1 hv).1
            omega
          refine ⟨by rw [hq]; exact hroom q hq', us[q]'hq', ?_, hu.2 q x (us[q]'hq') hv (List.getElem?_eq_getElem hq')⟩
          have := World.cell?_setCells_in (f b).k us ((f b).d + B) w hisome q hq'
          simp only [ad, hq]
          rw [show (f b).d + (B + q) = (f b).d + B + q by omega]
          exact this
        · obtain ⟨h1, v, h2, h3⟩ := hok.cell m' i' j' x ho
          refine ⟨h1, v, ?_, h3⟩
          rw [World.cell?_setCells_out _ _ _ _ _ (fun _ _ => ?_)]
          · exact h2
          · simp only [ad]
            rcases Nat.lt_or_ge (i' * m' + j') B with h | h
            · exact .inl (by omega)
            · rcases Nat.lt_or_ge (i' * m' + j') (B + us.length) with h4 | h4
              · exact absurd (by omega) (hne (i' * m' + j' - B) (by omega))
              · exact .inr (by omega)
    · rw [hget, if_neg e]
      have hcl0 := hlive c hcl
      have hk := hnot c hc' hcl0 (Ne.symm e)
      obtain ⟨_, hc0⟩ := hr.own c hc' hcl0
      refine ⟨by rw [World.size_setCells]; exact hc0.lt, hc0.own, fun p hp => ?_, fun m' i' j' x hx => ?_, fun es he => by rw [World.heap_setCells _ _ _ _ _ hk]; exact hc0.map es he, fun lo hi hq => by rw [frange_setCells] at hq; exact hc0.cold lo hi hq⟩
      · rw [World.frozen?_setCells, hother _ _ hk]; exact hc0.room p hp
      · obtain ⟨h1, v, h2, h3⟩ := hc0.cell m' i' j' x hx
        exact ⟨h1, v, by simp only [ad]; rw [hother _ _ hk]; exact h2, h3⟩
  · have hc' : S c := hc.resolve_right fun e => hno c e (hlive c hcl)
    have hd' : S d := hd.resolve_right fun e => hno d e (hlive d hdl)
    exact hr.inj c d hc' hd' (hlive c hcl) (hlive d hdl) hne
  · have hv' := hr.zok k p v hv
    have hk : k ≠ (f b).k := fun e => by rw [e, hok.own] at hv; cases hv
    rw [hother _ _ hk]; exact hv'
  · exact absurd (hlive c hcl) (hno c hc)
  · refine ⟨by rw [World.size_setCells]; exact Nat.le_refl _, (World.os_setCells _ _ _ _).1, (World.os_setCells _ _ _ _).2.1, (World.os_setCells _ _ _ _).2.2, fun k _ hk => ?_⟩
    exact World.heap_setCells _ _ _ _ _ fun e => hk ⟨b, hS, hl, e.symm⟩
  · rw [hget] at hg
    by_cases e : b = c
    · subst e
      rw [if_pos rfl] at hg
      exact absurd hg (hcl l)
    · rw [if_neg e] at hg
      exact hN c l hc hg x hx

def upd (f : Fn) (n : Nat) (l : Loc) : Fn := fun b => if b = n then l else f b

theorem upd_ext (f : Fn) (n : Nat) (l : Loc) : Ext n f (upd f n l) := fun b hb => by simp [upd, Nat.ne_of_lt hb]
theorem upd_same (f : Fn) (n : Nat) (l : Loc) : upd f n l n = l := by simp [upd]

/-- a new block -/
theorem Post.alloc {f : Fn} {nx : Nat} {z : Z} {w : World} {H : Heap} {S : Nat → Prop} (hr : Rel S f nx z w H) (hno : ∀ b, nx ≤ b → ¬ (H.get b).live) (o : Ob) (cs : Array Value) (e : TypeId) (hnm : ¬ o.isMap) (hone : ∀ v ∈ cs.toList, v.oneCell' = true)
    (hat : ∀ m i j x, o.at m i j = some x → ∃ v, cs[i * m + j]? = some v ∧ RC f nx z x v) {esc : Bool} :
    Post S f nx z w H (upd f nx ⟨w.heap.size, 0, cs.size⟩) (nx + 1) z (w.alloc (.cells cs e)) (Heap.put H nx (o)) esc := by
  have hfr : Fr (img S f H) w (w.alloc (.cells cs e)) := ⟨by simp, rfl, rfl, rfl, fun k hk _ => heap_alloc_old w _ k hk⟩
  have hfr0 : Fr (fun _ => False) w (w.alloc (.cells cs e)) := ⟨by simp, rfl, rfl, rfl, fun k hk _ => heap_alloc_old w _ k hk⟩
  have hg : ∀ b, Heap.get (Heap.put H nx (o)) b = if nx = b then o else H.get b := Heap.get_cons nx o H
  have hold : ∀ b, (S b ∨ nx ≤ b) → (Heap.get (Heap.put H nx (o)) b).live → b = nx ∨ (b < nx ∧ S b ∧ (H.get b).live) := by
    intro b hb hl
    by_cases e : nx = b
    · exact .inl e.symm
    · rw [hg, if_neg e] at hl
      have : ¬ nx ≤ b := fun h => hno b h hl
      exact .inr ⟨by omega, hb.resolve_right this, hl⟩
  have hz0 : ∀ p, z w.heap.size p = none := fun p => by
    cases hv : z w.heap.size p with
    | none => rfl
    | some v => have := block_lt_of_cell (hr.zok _ _ _ hv); simp at this
  refine ⟨by omega, upd_ext _ _ _, fun _ _ _ h => h, fun _ _ _ h => .inl h, fun b hb _ => .inl (by rw [hg, if_neg (by omega)]), fun b hb hl => by rwa [hg, if_neg (by omega)] at hl, ⟨fun b hb hl => ?_, fun b c hb hc hl hl' hne => ?_, fun k p v hv => ?_⟩, fun b hb hl => ?_, hfr, fun _ m hm hN c l hc hgc x hx => ?_⟩
  · rcases hold b hb hl with rfl | ⟨hlt, hs, hl0⟩
    · rw [hg, if_pos rfl]
      refine ⟨by omega, ⟨by simp [upd_same], fun p => by rw [upd_same]; exact hz0 p, fun p hp => ?_, fun m i j x hx => ?_, fun es he => absurd (by rw [he]; trivial) hnm, fun lo hi hq => ?_⟩⟩
      · rw [upd_same] at hp ⊢
        simp only [Nat.zero_add]
        rw [World.cell?_alloc_new, World.frozen?_alloc_new]
        exact ⟨⟨cs[p], by simp [hp], hone _ (by simp)⟩, rfl⟩
      · obtain ⟨v, hv, hc⟩ := hat m i j x hx
        refine ⟨by rw [upd_same]; exact (Array.getElem?_eq_some_iff.1 hv).1, v, ?_, RC.mono (upd_ext _ _ _) (by omega) (fun _ _ _ h => h) hc⟩
        simp only [ad, upd_same, Nat.zero_add]
        rw [World.cell?_alloc_new]
        exact hv
      · rw [upd_same] at hq
        have h2 : frange (w.alloc (.cells cs e)) w.heap.size = some (0, 0) := by
          unfold frange
          show (match (w.heap.push (.cells cs e))[w.heap.size]? with | some (.cells _ _ fr) => some fr | _ => none) = _
          rw [Array.getElem?_push_size]
        rw [h2] at hq
        injection hq with hq
        injection hq with h3 h4
        exact .inl (h3.symm.trans h4)
    · rw [hg, if_neg (by omega)]
      exact ⟨by omega, (hr.own b hs hl0).2.kept hlt hfr0 id (upd_ext _ _ _) (by omega) (fun _ _ _ h => h) (fun _ _ _ h => .inl h)⟩
  · rcases hold b hb hl with rfl | ⟨hlt, hs, hl0⟩
    · rcases hold c hc hl' with rfl | ⟨hlt', hs', hl0'⟩
      · exact absurd rfl hne
      · rw [upd_same, upd_ext _ _ _ _ hlt']
        have := (hr.own c hs' hl0').2.lt
        simp only
        omega
    · rcases hold c hc hl' with rfl | ⟨hlt', hs', hl0'⟩
      · rw [upd_same, upd_ext _ _ _ _ hlt]
        have := (hr.own b hs hl0).2.lt
        simp only
        omega
      · rw [upd_ext _ _ _ _ hlt, upd_ext _ _ _ _ hlt']
        exact hr.inj b c hs hs' hl0 hl0' hne
  · have h1 := hr.zok k p v hv
    rw [World.cell?_alloc_lt _ _ _ (block_lt_of_cell h1)]
    exact h1
  · rcases hold b (.inr hb) hl with rfl | ⟨hlt, _⟩
    · left; rw [upd_same]; exact Nat.le_refl _
    · omega
  · rw [hg, if_neg (by omega)] at hgc
    exact hN c l hc hgc x hx

end Go.Proofs.YtpidkmegakdohaaGreat.Kn
