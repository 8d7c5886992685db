/- Texts put together: F9, F10, F11. -/
import Derived.Test.YtbobakclbdaepaaGreatG12
/- The engine, part 32: what is known of a call, in one of two ways; slices that are handed over and never written any more. -/
namespace Go.Proofs.YtbobakclbdaepaaGreat.En
open Go
set_option linter.unusedVariables false
set_option linter.unusedSimpArgs false

/-- the first way, or the second one -/
def orSum (F G : SumF) : SumF := fun args H nx => match F args H nx with
  | .bad => G args H nx
  | .ret a => .ret a
  | .br b t e => .br b t e

theorem orSum_ok {P : Program} {g : Nat} {F G : SumF} (hF : SumOk P g F) (hG : SumOk P g G) : SumOk P g (orSum F G) := by
  refine ⟨fun args H nx r hr => ?_, fun args H nx => ?_⟩
  · have h1 := hF.to args H nx r
    unfold orSum at hr
    split at hr
    · exact hG.to args H nx r hr
    · rename_i h; rw [h] at h1; exact h1 hr
    · rename_i h; rw [h] at h1; exact h1 hr
  · have h1 := hF.keeps args H nx
    unfold orSum
    split
    · exact hG.keeps args H nx
    · rename_i h; rw [h] at h1; exact h1
    · rename_i h; rw [h] at h1; exact h1

/-- blocks to which slices lead that are handed over -/
def CV.tops : CV → List Nat
  | .sl _ b _ _ _ _ _ _ _ => [b]
  | _ => []
def AV.tops (a : AV) : List Nat := a.cells.flatMap CV.tops

def frzL : List Nat → St → T St
  | [], s => .ret s
  | b :: r, s => (frzSt b s).bind fun s => frzL r s

theorem frzL_ok {m : Nat} : ∀ (l : List Nat) (s s' : St), m ≤ s.nx → (frzL l s).res = some s' → StLe m s s' ∧ s'.nx = s.nx ∧ s'.esc = s.esc
  | [], s, s', hm, h => by
    have := T.ret_some h
    subst this
    exact ⟨StLe.refl hm, rfl, rfl⟩
  | b :: r, s, s', hm, h => by
    obtain ⟨s1, h1, h2⟩ := T.bind_some h
    have e := frzSt_nx h1
    have he : s1.esc = s.esc := by
      unfold frzSt at h1
      split at h1
      · obtain ⟨sl, _, h4⟩ := T.bind_some h1
        obtain ⟨H, _, h5⟩ := T.bind_some h4
        have := T.ret_some h5
        subst this; rfl
      · split at h1
        · obtain ⟨sl, _, h4⟩ := T.bind_some h1
          obtain ⟨H, _, h5⟩ := T.bind_some h4
          have := T.ret_some h5
          subst this; rfl
        · have := T.ret_some h1
          subst this; rfl
      · have := T.ret_some h1
        subst this; rfl
    obtain ⟨h3, h4, h5⟩ := frzL_ok (m := m) r s1 s' (by omega) h2
    exact ⟨(frzSt_ok hm h1).trans h3, h4.trans e, h5.trans he⟩

theorem CV.frz_id {b : Nat} {k : FrzF} {x : CV} (h : b ∉ x.refs) : x.frz b k = .ret x := by
  have key : ∀ c : Nat, b ≠ c → Nat.beq c b = false := fun c hc => by
    cases e : Nat.beq c b with
    | false => rfl
    | true => exact absurd (Nat.eq_of_beq_eq_true e).symm hc
  cases x with
  | f x => rfl
  | ptr c => simp only [CV.refs, List.mem_singleton] at h; simp only [CV.frz, key c h]
  | sl nil c => simp only [CV.refs, List.mem_singleton] at h; simp only [CV.frz, key c h]
  | mp c => simp only [CV.refs, List.mem_singleton] at h; simp only [CV.frz, key c h]
  | fn g l =>
    have : (l.any fun x => Nat.beq x.1 b) = false := by
      rw [List.any_eq_false]
      intro x hx
      rw [key x.1 fun e => h (by simp only [CV.refs, List.mem_map]; exact ⟨x, hx, e.symm⟩)]
      simp
    simp only [CV.frz, this]

theorem mapT_id {α : Type} {k : α → T α} : ∀ (l : List α), (∀ x ∈ l, k x = .ret x) → mapT k l = .ret l
  | [], _ => rfl
  | x :: r, h => by
    simp only [mapT, h x (List.mem_cons_self ..), T.bind, mapT_id r fun y hy => h y (List.mem_cons_of_mem _ hy)]

theorem Ob.frz_id {b : Nat} {k : FrzF} {o : Ob} (h : b ∉ o.refs) : o.frz b k = .ret o := by
  cases o with
  | cells l =>
    simp only [Ob.frz, mapT_id l fun x hx => CV.frz_id fun hb => h (by simp only [Ob.refs, List.mem_flatMap]; exact ⟨x, hx, hb⟩), T.bind]
  | arr => rfl
  | map => rfl
  | dead => rfl

/-- a block that is not frozen, and leads to none that is, stays -/
theorem frzSt_get {b : Nat} {s s' : St} (h : (frzSt b s).res = some s') {c : Nat} (hc : c ≠ b) (hr : b ∉ (s.H.get c).refs) : s'.H.get c = s.H.get c := by
  have key : ∀ (k : FrzF) (H : Heap), (frzH b k s.H).res = some H → H.get c = s.H.get c := fun k H h3 => by
    rcases frzH_some s.H H h3 c with ⟨e, _⟩ | ⟨_, h4, h5⟩ | ⟨_, h4⟩
    · exact absurd e hc
    · rw [h4, h5]
    · rw [Ob.frz_id hr] at h4
      exact (T.ret_some h4).symm
  unfold frzSt at h
  split at h
  · obtain ⟨sl, h1, h2⟩ := T.bind_some h
    obtain ⟨H, h3, h4⟩ := T.bind_some h2
    have := T.ret_some h4
    subst this
    exact key _ H h3
  · split at h
    · obtain ⟨sl, h1, h2⟩ := T.bind_some h
      obtain ⟨H, h3, h4⟩ := T.bind_some h2
      have := T.ret_some h4
      subst this
      exact key _ H h3
    · have := T.ret_some h
      subst this; rfl
  · have := T.ret_some h
    subst this; rfl

theorem frzL_get : ∀ (l : List Nat) (s s' : St), (frzL l s).res = some s' → ∀ c, c ∉ l → (∀ b ∈ l, b ∉ (s.H.get c).refs) → s'.H.get c = s.H.get c
  | [], s, s', h, c, _, _ => by
    have := T.ret_some h
    subst this; rfl
  | b :: r, s, s', h, c, h1, h2 => by
    obtain ⟨s1, h3, h4⟩ := T.bind_some h
    simp only [List.mem_cons, not_or] at h1
    have e := frzSt_get h3 h1.1 (h2 b (List.mem_cons_self ..))
    have := frzL_get r s1 s' h4 c h1.2 fun x hx => by rw [e]; exact h2 x (List.mem_cons_of_mem _ hx)
    rw [this, e]

/-- the slots of arguments, back -/
def argsBack (sl : Slots) : Nat → Nat → Option (List AV)
  | 0, _ => some []
  | n + 1, i => match sl.get i, argsBack sl n (i + 1) with
    | .v a, some l => some (a :: l)
    | _, _ => none

theorem argsBack_ok {f : Fn} {nx : Nat} {z : Z} {sl : Slots} {a : Array Value} (ht : TR f nx z sl a) : ∀ (n i : Nat) (l : List AV) (vs : List Value), argsBack sl n i = some l → vs.length = n → (∀ j, j < n → a.getD (i + j) undef = vs.getD j undef) → RAs f nx z l vs
  | 0, i, l, vs, h, hl, _ => by
    simp only [argsBack, Option.some.injEq] at h
    subst h
    cases vs with
    | nil => exact RAs.nil
    | cons => cases hl
  | n + 1, i, l, vs, h, hl, hv => by
    simp only [argsBack] at h
    split at h
    · rename_i x l' h1 h2
      simp only [Option.some.injEq] at h
      subst h
      cases vs with
      | nil => cases hl
      | cons v vs =>
        refine RAs.cons ?_ (argsBack_ok ht n (i + 1) l' vs h2 (by simpa using hl) fun j hj => ?_)
        · have := ht i
          rw [h1] at this
          have e := hv 0 (Nat.zero_lt_succ n)
          simp only [Nat.add_zero, List.getD_cons_zero] at e
          rw [e] at this
          exact this
        · have e := hv (j + 1) (by omega)
          rw [show i + (j + 1) = i + 1 + j by omega] at e
          simpa using e
    · cases h

theorem get_none : ∀ (H : Heap) (b : Nat), b ∉ H.map (·.1) → H.get b = .dead
  | [], _, _ => rfl
  | (k, o) :: r, b, h => by
    simp only [List.map_cons, List.mem_cons, not_or] at h
    rw [Heap.get_cons, if_neg (Ne.symm h.1)]
    exact get_none r b h.2

/-- slices that are handed over are never written any more -/
def frzSum (F : SumF) : SumF := fun args H nx =>
  let bs := args.flatMap AV.tops
  let chg (w : List Nat) (b : Nat) : Bool := Nat.ble nx b || w.any (Nat.beq b) || bs.any (Nat.beq b) || (H.get b).refs.any fun c => bs.any (Nat.beq c)
  (frzL bs ⟨argSlots 0 args, H, nx, false, 0, []⟩).bind fun s => match argsBack s.sl args.length 0 with
    | none => .bad
    | some args' => (F args' s.H nx).bind fun o =>
      .ret { o with H := (o.H.filter fun e => chg o.wr e.1) ++ (H.filter fun e => !(chg o.wr e.1)), wr := ((H.map (·.1)).filter (chg o.wr)) ++ o.wr ++ bs }

theorem any_neg {l : List Nat} {b : Nat} (h : l.any (Nat.beq b) = false) : b ∉ l := fun hm => by rw [(anyBeq l b).2 hm] at h; cases h

theorem frzSum_ok {P : Program} {g : Nat} {F : SumF} (hF : SumOk P g F) : SumOk P g (frzSum F) := by
  refine ⟨fun args H nx r hr => ?_, fun args H nx => ?_⟩
  · unfold frzSum at hr
    dsimp only at hr
    generalize hbs : args.flatMap AV.tops = bs at hr
    obtain ⟨s, h1, hr⟩ := T.bind_some hr
    split at hr
    · exact (T.bad_some hr).elim
    rename_i args' hargs'
    obtain ⟨o, h2, hr⟩ := T.bind_some hr
    have := T.ret_some hr
    subst this
    obtain ⟨hle, hnx, hesc⟩ := frzL_ok (m := nx) bs _ s (Nat.le_refl _) h1
    simp only at hnx hesc
    have hkeep := (hF.keeps args' s.H nx).res h2
    intro f z w vs hrel hra R hR
    obtain ⟨f1, z1, ht1, hp1⟩ := hle.to f z w _ (argSlots_TR hra 0) hrel
    have hr1 := hp1.all
    simp only [hnx] at ht1 hp1 hr1
    have hlen : vs.toList.length = args.length := hra.1.symm
    have hra1 : RAs f1 nx z1 args' vs.toList := argsBack_ok ht1 args.length 0 args' vs.toList hargs' hlen fun j hj => by
      simp
    refine hF.to args' s.H nx o h2 f1 z1 w vs hr1 hra1 R fun f2 z2 w2 v2 hp2 hv2 => hR f2 z2 w2 v2 ?_ hv2
    have hp := Post.trans' hp1 hp2 (Nat.le_refl _)
    have hesc' : s.esc = false := hesc
    rw [hesc', Bool.false_or] at hp
    refine hp.congr fun b => ?_
    dsimp only
    generalize hchg : (fun b : Nat => Nat.ble nx b || o.wr.any (Nat.beq b) || bs.any (Nat.beq b) || (H.get b).refs.any fun c => bs.any (Nat.beq c)) = chg
    have e1 : (o.H.filter fun e => Nat.ble nx e.1 || o.wr.any (Nat.beq e.1) || bs.any (Nat.beq e.1) || (H.get e.1).refs.any fun c => bs.any (Nat.beq c)) = o.H.filter fun e => chg e.1 := by rw [← hchg]
    have e2 : (H.filter fun e => !(Nat.ble nx e.1 || o.wr.any (Nat.beq e.1) || bs.any (Nat.beq e.1) || (H.get e.1).refs.any fun c => bs.any (Nat.beq c))) = H.filter fun e => !(chg e.1) := by rw [← hchg]
    rw [e1, e2]
    cases hc : chg b with
    | true =>
      rcases get_append (o.H.filter fun e => chg e.1) (H.filter fun e => !(chg e.1)) b with e | ⟨e, e'⟩
      · rw [e, get_filter chg, if_pos hc]
      · have h3 : Heap.get (H.filter fun e => !(chg e.1)) b = .dead := by rw [get_filter (fun b => !(chg b)), if_neg (by simp [hc])]
        rw [get_filter chg, if_pos hc] at e
        rw [e', h3, e]
    | false =>
      rw [get_append_out _ _ _ fun e he hb => by
        rw [List.mem_filter] at he
        rw [hb, hc] at he
        cases he.2]
      rw [get_filter (fun b => !(chg b)), if_pos (by simp [hc])]
      rw [← hchg] at hc
      simp only [Bool.or_eq_false_iff, List.any_eq_false] at hc
      obtain ⟨⟨⟨c1, c2⟩, c3⟩, c4⟩ := hc
      have hb : b < nx := by
        rcases Nat.lt_or_ge b nx with h | h
        · exact h
        · rw [Nat.ble_eq_true_of_le h] at c1; cases c1
      rw [hkeep.2 b hb (any_neg (by rw [List.any_eq_false]; exact c2)), frzL_get bs _ s h1 b (any_neg (by rw [List.any_eq_false]; exact c3)) fun x hx hxr => c4 x hxr ((anyBeq bs x).2 hx)]
  · unfold frzSum
    dsimp only
    generalize hbs : args.flatMap AV.tops = bs
    refine T.Every.bind (fun s => ?_) _
    split
    · trivial
    · rename_i args' _
      refine T.Every.bind2 (q := fun o => nx ≤ o.nx ∧ ∀ b, b < nx → b ∉ o.wr → o.H.get b = s.H.get b) (fun o ho => ?_) (hF.keeps args' s.H nx)
      refine ⟨ho.1, fun b hb hw => ?_⟩
      dsimp only at hw ⊢
      generalize hchg : (fun b : Nat => Nat.ble nx b || o.wr.any (Nat.beq b) || bs.any (Nat.beq b) || (H.get b).refs.any fun c => bs.any (Nat.beq c)) = chg at hw ⊢
      have e1 : (o.H.filter fun e => Nat.ble nx e.1 || o.wr.any (Nat.beq e.1) || bs.any (Nat.beq e.1) || (H.get e.1).refs.any fun c => bs.any (Nat.beq c)) = o.H.filter fun e => chg e.1 := by rw [← hchg]
      have e2 : (H.filter fun e => !(Nat.ble nx e.1 || o.wr.any (Nat.beq e.1) || bs.any (Nat.beq e.1) || (H.get e.1).refs.any fun c => bs.any (Nat.beq c))) = H.filter fun e => !(chg e.1) := by rw [← hchg]
      rw [e1, e2]
      simp only [List.mem_append, not_or] at hw
      obtain ⟨⟨w1, w2⟩, w3⟩ := hw
      cases hc : chg b with
      | false =>
        rw [get_append_out _ _ _ fun e he hb => by
          rw [List.mem_filter] at he
          rw [hb, hc] at he
          cases he.2]
        rw [get_filter (fun b => !(chg b)), if_pos (by simp [hc])]
      | true =>
        -- it leads to one that is frozen: then it is not there
        have hn : b ∉ H.map (·.1) := fun hm => w1 (List.mem_filter.2 ⟨hm, hc⟩)
        rw [← hchg] at hc
        have hd : H.get b = .dead := get_none H b hn
        simp only [hd] at hc
        have c1 : Nat.ble nx b = false := ble_false (by omega)
        have c2 : o.wr.any (Nat.beq b) = false := by
          cases h : o.wr.any (Nat.beq b) with
          | false => rfl
          | true => exact absurd ((anyBeq _ _).1 h) w2
        have c3 : bs.any (Nat.beq b) = false := by
          cases h : bs.any (Nat.beq b) with
          | false => rfl
          | true => exact absurd ((anyBeq _ _).1 h) w3
        rw [c1, c2, c3] at hc
        cases hc

/-- nothing, told as a row that is not there -/
theorem StLe.row {m : Nat} {s : St} (hm : m ≤ s.nx) {sl : Slots} {H : Heap} {base : Nat} {wr : List Nat}
    (ht : ∀ t, sl.get t = s.sl.get t ∨ sl.get t = .top ∨ (s.sl.get t = .v (.one (.f (.lit (.slice none 0 0)))) ∧ ∃ mm ex sz, sl.get t = .v (.one (.sl true s.nx mm 0 0 0 0 ex sz))))
    (hH : ∀ b, b ≠ s.nx → H.get b = s.H.get b) (hd : ¬ (H.get s.nx).live) : StLe m s ⟨sl, H, s.nx + 1, s.esc, base, wr⟩ := by
  refine ⟨id, fun f z w a htr hr => ⟨f, z, fun t => ?_, ?_⟩⟩
  · have h0 : RS f (s.nx + 1) z (s.sl.get t) (a.getD t undef) := RS.mono (fun b hb => rfl) (Nat.le_succ _) (fun _ _ _ h => h) (htr t)
    rcases ht t with e | e | ⟨e, mm, ex, sz, e'⟩
    · simp only [e]; exact h0
    · simp only [e]; trivial
    · simp only [e']
      rw [e] at h0
      have hv : a.getD t undef = .slice none 0 0 := lit_ok h0
      exact ⟨Nat.lt_succ_self _, fun _ => ⟨rfl, rfl, hv⟩, fun h => by cases h⟩
  · have hne : ∀ b, (H.get b).live → b ≠ s.nx := fun b hl e => hd (e ▸ hl)
    refine ⟨Nat.le_succ_of_le hm, fun b hb => rfl, fun _ _ _ h => h, fun _ _ _ h => .inl h, fun _ _ hs => absurd trivial hs, fun b _ hl => by rw [hH b (hne b hl)] at hl; exact hl,
      ⟨fun b _ hl => ?_, fun b c _ _ hl hl' hbc => ?_, hr.zok⟩, fun b hb hl => ?_, Fr.refl _ _, fun _ m' hm' hN b l hb hg x hx => ?_⟩
    · have e := hH b (hne b hl)
      simp only at hl ⊢
      rw [e] at hl ⊢
      obtain ⟨h1, h2⟩ := hr.own b trivial hl
      exact ⟨Nat.lt_succ_of_lt h1, ⟨h2.lt, h2.own, h2.room, fun m i j x hx => by
        obtain ⟨h3, v, h4, h5⟩ := h2.cell m i j x hx
        exact ⟨h3, v, h4, RC.mono (fun b hb => rfl) (Nat.le_succ _) (fun _ _ _ h => h) h5⟩, h2.map⟩⟩
    · rw [hH b (hne b hl)] at hl
      rw [hH c (hne c hl')] at hl'
      exact hr.inj b c trivial trivial hl hl' hbc
    · rw [hH b (hne b hl)] at hl
      exact .inr ⟨b, trivial, hl, rfl⟩
    · simp only at hg
      have hl : (H.get b).live := by rw [hg]; trivial
      rw [hH b (hne b hl)] at hg
      exact hN b l hb hg x hx

/-- n rounds from i on -/
def foldX {A R : Type} (f : Nat → A → A ⊕ R) (fin : A → R) : Nat → Nat → A → R
  | 0, _, a => fin a
  | k + 1, i, a => match f i a with
    | .inl a' => foldX f fin k (i + 1) a'
    | .inr r => r

/-- a loop that counts: what each round makes of a value, or how it ends the loop -/
theorem for_loop {P : Program} {G : Ctx} (hG : CtxOk P G) (hK : KnownOk P G) {K F N : Nat} {c : Code} {m : Nat} {live after : List Nat} {A : Type} (S : Nat → A → St) (n : Nat) (f : Nat → A → A ⊕ (Ex × St)) (fin : A → Ex × St) (Inv : Nat → A → Prop)
    (hround : ∀ i a, i < n → Inv i a → ∃ e s, (evRound G K F N c m live after (S i a)).res = some (e, s) ∧ match f i a with
      | .inl a' => e = .normal ∧ StLe m s (S (i + 1) a') ∧ Inv (i + 1) a'
      | .inr r => e ≠ .normal ∧ e = r.1 ∧ StLe m s r.2)
    (hend : ∀ a, Inv n a → ∃ e s, (evRound G K F N c m live after (S n a)).res = some (e, s) ∧ e ≠ .normal ∧ e = (fin a).1 ∧ StLe m s (fin a).2)
    (hm : ∀ i a, m ≤ (S i a).nx) {i : Nat} {a : A} (hi : i ≤ n) (hI : Inv i a) {st0 : St} (h0 : StLe m st0 (S i a)) (hnx : st0.nx = m) : CodeOk P N (.loop c) st0 (foldX f fin (n - i) i a).1 (foldX f fin (n - i) i a).2 := by
  refine loop_to (K := K) (F := F) (live := live) (after := after) hG hK (α := Nat × A) (fun p => S p.1 p.2) (fun p => n - p.1) (fun p => p.1 ≤ n ∧ Inv p.1 p.2 ∧ foldX f fin (n - p.1) p.1 p.2 = foldX f fin (n - i) i a) _ _ ?_ (fun p => hm p.1 p.2) (p := (i, a)) ⟨hi, hI, rfl⟩ h0 hnx
  rintro ⟨j, b⟩ ⟨h1, h2, h3⟩
  simp only at h1 h2 h3 ⊢
  rcases Nat.lt_or_ge j n with hlt | hge
  · obtain ⟨e, s, h4, h5⟩ := hround j b hlt h2
    refine ⟨e, s, h4, ?_⟩
    have hs : n - j = (n - (j + 1)) + 1 := by omega
    rw [hs] at h3
    simp only [foldX] at h3
    cases hf : f j b with
    | inl b' =>
      rw [hf] at h5 h3
      obtain ⟨h6, h7, h8⟩ := h5
      exact .inl ⟨h6, (j + 1, b'), h7, ⟨hlt, h8, h3⟩, by simp only; omega⟩
    | inr r =>
      rw [hf] at h5 h3
      obtain ⟨h6, h7, h8⟩ := h5
      simp only at h3
      exact .inr ⟨h6, r.2, h8, by rw [h7, h3], by rw [h3]⟩
  · obtain rfl : j = n := by omega
    obtain ⟨e, s, h4, h5, h6, h7⟩ := hend b h2
    rw [Nat.sub_self] at h3
    simp only [foldX] at h3
    exact ⟨e, s, h4, .inr ⟨h5, _, h7, by rw [h6, h3], by rw [h3]⟩⟩

/-- a loop that counts, rows frozen: what each round makes of a value, or how it ends the loop -/
theorem for_loopZ {P : Program} {G : Ctx} (hG : CtxOk P G) (hK : KnownOk P G) {K F N : Nat} {c : Code} {m : Nat} {live after : List Nat} {A : Type} (S : Nat → A → St) (n : Nat) (f : Nat → A → A ⊕ (Ex × St)) (fin : A → Ex × St) (Inv : Nat → A → Prop)
    (hround : ∀ i a, i < n → Inv i a → ∃ e s, (evRoundZ G K F N c m live after (S i a)).res = some (e, s) ∧ match f i a with
      | .inl a' => e = .normal ∧ StLe m s (S (i + 1) a') ∧ Inv (i + 1) a'
      | .inr r => e ≠ .normal ∧ e = r.1 ∧ StLe m s r.2)
    (hend : ∀ a, Inv n a → ∃ e s, (evRoundZ G K F N c m live after (S n a)).res = some (e, s) ∧ e ≠ .normal ∧ e = (fin a).1 ∧ StLe m s (fin a).2)
    (hm : ∀ i a, m ≤ (S i a).nx) {i : Nat} {a : A} (hi : i ≤ n) (hI : Inv i a) {st0 : St} (h0 : StLe m st0 (S i a)) (hnx : st0.nx = m) : CodeOk P N (.loop c) st0 (foldX f fin (n - i) i a).1 (foldX f fin (n - i) i a).2 := by
  refine loop_toZ (K := K) (F := F) (live := live) (after := after) hG hK (α := Nat × A) (fun p => S p.1 p.2) (fun p => n - p.1) (fun p => p.1 ≤ n ∧ Inv p.1 p.2 ∧ foldX f fin (n - p.1) p.1 p.2 = foldX f fin (n - i) i a) _ _ ?_ (fun p => hm p.1 p.2) (p := (i, a)) ⟨hi, hI, rfl⟩ h0 hnx
  rintro ⟨j, b⟩ ⟨h1, h2, h3⟩
  simp only at h1 h2 h3 ⊢
  rcases Nat.lt_or_ge j n with hlt | hge
  · obtain ⟨e, s, h4, h5⟩ := hround j b hlt h2
    refine ⟨e, s, h4, ?_⟩
    have hs : n - j = (n - (j + 1)) + 1 := by omega
    rw [hs] at h3
    simp only [foldX] at h3
    cases hf : f j b with
    | inl b' =>
      rw [hf] at h5 h3
      obtain ⟨h6, h7, h8⟩ := h5
      exact .inl ⟨h6, (j + 1, b'), h7, ⟨hlt, h8, h3⟩, by simp only; omega⟩
    | inr r =>
      rw [hf] at h5 h3
      obtain ⟨h6, h7, h8⟩ := h5
      simp only at h3
      exact .inr ⟨h6, r.2, h8, by rw [h7, h3], by rw [h3]⟩
  · obtain rfl : j = n := by omega
    obtain ⟨e, s, h4, h5, h6, h7⟩ := hend b h2
    rw [Nat.sub_self] at h3
    simp only [foldX] at h3
    exact ⟨e, s, h4, .inr ⟨h5, _, h7, by rw [h6, h3], by rw [h3]⟩⟩

/-- n rounds from i on, none of which ends the loop -/
def foldF {A : Type} (f : Nat → A → A) : Nat → Nat → A → A
  | 0, _, a => a
  | k + 1, i, a => foldF f k (i + 1) (f i a)

theorem foldX_inl {A R : Type} (f : Nat → A → A) (fin : A → R) : ∀ k i a, foldX (fun i a => .inl (f i a)) fin k i a = fin (foldF f k i a)
  | 0, _, _ => rfl
  | k + 1, i, a => foldX_inl f fin k (i + 1) (f i a)

theorem foldF_succ {A : Type} (f : Nat → A → A) : ∀ k i a, foldF f (k + 1) i a = f (i + k) (foldF f k i a)
  | 0, _, _ => rfl
  | k + 1, i, a => by
    have := foldF_succ f k (i + 1) (f i a)
    rw [show i + 1 + k = i + (k + 1) by omega] at this
    exact this

theorem smallB_le {need b : Nat} (h1 : 512 * b ≤ 281474976710656) (h2 : need ≤ (281474976710656 / b - 512) / 2) : smallB need b = true := by
  simp only [smallB, Nat.ble_eq_true_of_le h1, Nat.ble_eq_true_of_le h2, Bool.and_self]
theorem ble_tt {a b : Nat} (h : a ≤ b) : Nat.ble a b = true := Nat.ble_eq_true_of_le h
theorem beq_or (b : Bool) : (b || !b) = true := by cases b <;> rfl
theorem pb_tt : pb True = true := pb_true trivial

/-- nothing, told as a row without elements -/
def AV.rowed (sz : Nat) (e0 : Nat → List FV) (a : AV) : AV := match a with
  | .one (.f (.lit (.slice none 0 0))) => .one (.f (.fs true sz 0 e0))
  | .one (.f (.z0 nil)) => .one (.f (.fs nil sz 0 e0))
  | a => a

theorem AV.rowed_le (sz : Nat) (e0 : Nat → List FV) (a : AV) : a.le (a.rowed sz e0) := by
  unfold AV.rowed
  split
  · exact .f FV.le_nil
  · rename_i nil
    refine .f fun z v h => ?_
    cases h with
    | z0n => exact .fsn _ _
    | z0s ad => exact .fs0 _ _ _ _
  · exact AV.le.refl a

theorem AV.rowed_refs (sz : Nat) (e0 : Nat → List FV) (a : AV) : (a.rowed sz e0).refs = a.refs := by
  unfold AV.rowed
  split <;> rfl

theorem RAs.map {f : Fn} {nx : Nat} {z : Z} {g : AV → AV} (hg : ∀ a : AV, a.le (g a)) : ∀ {l : List AV} {vs : List Value}, RAs f nx z l vs → RAs f nx z (l.map g) vs := by
  intro l vs h
  refine ⟨by rw [List.length_map]; exact h.1, fun i x v hx hv => ?_⟩
  rw [List.getElem?_map] at hx
  obtain ⟨y, hy, rfl⟩ := Option.map_eq_some_iff.1 hx
  exact (hg y).ra (h.2 i y v hy hv)

def nilSum (sz : Nat) (e0 : Nat → List FV) (F : SumF) : SumF := fun args H nx => F (args.map (AV.rowed sz e0)) H nx

theorem nilSum_ok {P : Program} {g : Nat} {sz : Nat} {e0 : Nat → List FV} {F : SumF} (hF : SumOk P g F) : SumOk P g (nilSum sz e0 F) :=
  ⟨fun args H nx r hr f z w vs hrel hra R hR => hF.to _ H nx r hr f z w vs hrel (RAs.map (AV.rowed_le sz e0) hra) R hR, fun args H nx => hF.keeps _ H nx⟩

/-- less is said of arguments -/
def LeAs (l l' : List AV) : Prop := ∀ (f : Fn) (nx : Nat) (z : Z) (vs : List Value), RAs f nx z l vs → RAs f nx z l' vs
theorem LeAs.refl (l : List AV) : LeAs l l := fun _ _ _ _ h => h
theorem LeAs.cons {a b : AV} {l l' : List AV} (h : a.le b) (t : LeAs l l') : LeAs (a :: l) (b :: l') := fun f nx z vs hr => by
  cases vs with
  | nil => exact absurd hr.1 (by simp)
  | cons v vs =>
    refine RAs.cons (h.ra (hr.2 0 a v rfl rfl)) (t f nx z vs ⟨by simpa using hr.1, fun i x u hx hu => hr.2 (i + 1) x u (by simpa using hx) (by simpa using hu)⟩)
theorem CallTo.args {P : Program} {g : Nat} {args args' : List AV} {H : Heap} {nx : Nat} {r : CallOut} (h : CallTo P g args' H nx r) (hl : LeAs args args') : CallTo P g args H nx r :=
  fun f z w vs hr ha R hR => h f z w vs hr (hl f nx z vs.toList ha) R hR

theorem ite_tt {α : Type} {b : Bool} {x y r : α} (h : b = true) (k : x = r) : (if b = true then x else y) = r := by rw [if_pos h]; exact k
theorem ite_ff {α : Type} {b : Bool} {x y r : α} (h : b = false) (k : y = r) : (if b = true then x else y) = r := by rw [if_neg (by rw [h]; simp)]; exact k
theorem foldF_or {p : Nat → Bool} : ∀ (k i : Nat) (a : Bool), (a = true ∨ ∃ j, i ≤ j ∧ j < i + k ∧ p j = true) → foldF (fun i a => a || p i) k i a = true
  | 0, i, a, h => by
    rcases h with h | ⟨j, h1, h2, _⟩
    · exact h
    · omega
  | k + 1, i, a, h => by
    refine foldF_or k (i + 1) (a || p i) ?_
    rcases h with h | ⟨j, h1, h2, h3⟩
    · exact .inl (by rw [h, Bool.true_or])
    · rcases Nat.lt_or_ge i j with hl | hl
      · exact .inr ⟨j, hl, by omega, h3⟩
      · obtain rfl : j = i := by omega
        exact .inl (by rw [h3, Bool.or_true])
theorem foldF_add {A : Type} (f : Nat → A → A) : ∀ (k l i : Nat) (a : A), foldF f (k + l) i a = foldF f l (i + k) (foldF f k i a)
  | 0, l, i, a => by rw [Nat.zero_add]; rfl
  | k + 1, l, i, a => by
    rw [show k + 1 + l = (k + l) + 1 by omega]
    show foldF f (k + l) (i + 1) (f i a) = _
    rw [foldF_add f k l (i + 1) (f i a), show i + 1 + k = i + (k + 1) by omega]
    rfl
theorem foldF_congr {A : Type} {f g : Nat → A → A} {d : Nat} : ∀ (k i : Nat) (a : A), (∀ j a, i ≤ j → j < i + k → f (j + d) a = g j a) → foldF f k (i + d) a = foldF g k i a
  | 0, _, _, _ => rfl
  | k + 1, i, a, h => by
    show foldF f k (i + d + 1) (f (i + d) a) = foldF g k (i + 1) (g i a)
    rw [h i a (Nat.le_refl _) (by omega), show i + d + 1 = i + 1 + d by omega]
    exact foldF_congr k (i + 1) _ fun j a h1 h2 => h j a (by omega) (by omega)

theorem beq_ff {a b : Nat} (h : a ≠ b) : Nat.beq a b = false := by
  cases e : Nat.beq a b with
  | false => rfl
  | true => exact absurd (Nat.eq_of_beq_eq_true e) h
theorem FV.le.trans {a b c : FV} (h : a.le b) (k : b.le c) : a.le c := fun z v hv => k z v (h z v hv)
theorem CV.le.trans {x y w : CV} (h : x.le y) (k : y.le w) : x.le w := by
  rcases h with rfl | ⟨a, b, rfl, rfl, h⟩
  · exact k
  · rcases k with rfl | ⟨b', c, e3, rfl, k⟩
    · exact .inr ⟨a, b, rfl, rfl, h⟩
    · cases e3
      exact .inr ⟨a, c, rfl, rfl, h.trans k⟩
theorem leL.trans : ∀ {l r q : List CV}, leL l r → leL r q → leL l q
  | [], [], _, _, k => k
  | x :: l, y :: r, w :: q, h, k => ⟨h.1.trans k.1, leL.trans h.2 k.2⟩
  | _ :: _, _ :: _, [], _, k => k.elim
  | [], _ :: _, _, h, _ => h.elim
  | _ :: _, [], _, h, _ => h.elim
theorem Ob.le.trans {a b c : Ob} (h : a.le b) (k : b.le c) : a.le c := by
  rcases h with rfl | h
  · exact k
  rcases k with rfl | k
  · exact .inr h
  rcases h with ⟨l, r, rfl, rfl, h⟩ | ⟨live, sz, n, e, e', rfl, rfl, h⟩
  · rcases k with ⟨l', r', e1, rfl, k⟩ | ⟨_, _, _, _, _, e1, _⟩
    · cases e1
      exact .cells (h.trans k)
    · cases e1
  · rcases k with ⟨_, _, e1, _⟩ | ⟨live', sz', n', e1, e2, h1, rfl, k⟩
    · cases e1
    · cases h1
      exact .arr fun i hi => (h i hi).trans (k i hi)

def mv (b n : Nat) (c : Nat) : Nat := if c = b then n else c

/-- a block under another name -/
theorem StLe.move {m : Nat} {s : St} (hm : m ≤ s.nx) (b : Nat) (hb : b < s.nx) {sl : Slots} {H : Heap} {base : Nat} {wr : List Nat}
    (ht : ∀ t, sl.get t = (s.sl.get t).ren (mv b s.nx) ∨ sl.get t = .top)
    (hH : ∀ c, c ≠ s.nx → c ≠ b → H.get c = s.H.get c) (hb0 : ¬ (H.get b).live) (hn : H.get s.nx = s.H.get b) (hnr : ∀ c, b ∉ (s.H.get c).refs) : StLe m s ⟨sl, H, s.nx + 1, s.esc, base, wr⟩ := by
  refine ⟨id, fun f z w a htr hr => ⟨fun c => if c = s.nx then f b else f c, z, fun t => ?_, ?_⟩⟩
  · have led : ∀ c, c < s.nx → Led f (fun c => if c = s.nx then f b else f c) (s.nx + 1) (mv b s.nx) c := fun c hc => by
      unfold Led mv
      by_cases e : c = b
      · subst e; simp
      · simp only [e, if_false]
        exact ⟨if_neg (by omega), by omega⟩
    rcases ht t with e | e
    · simp only [e]
      exact RS.ren (htr t) fun c hc => led c (RS.refs_lt (htr t) c hc)
    · simp only [e]; trivial
  · have hcase : ∀ c, (H.get c).live → (c = s.nx ∧ H.get c = s.H.get b) ∨ (c ≠ s.nx ∧ c ≠ b ∧ H.get c = s.H.get c) := fun c hl => by
      by_cases e : c = s.nx
      · subst e; exact .inl ⟨rfl, hn⟩
      · by_cases e' : c = b
        · subst e'; exact absurd hl hb0
        · exact .inr ⟨e, e', hH c e e'⟩
    have bok : ∀ c c', BOk f s.nx z w c (s.H.get c) → (fun c => if c = s.nx then f b else f c) c' = f c → BOk (fun c => if c = s.nx then f b else f c) (s.nx + 1) z w c' (s.H.get c) := fun c c' h e => by
      have := BOk.ren (f' := fun c => if c = s.nx then f b else f c) (nx' := s.nx + 1) (b' := c') (ρ := id) h e fun d hd => by
        have hd' := h.refs_lt d hd
        exact ⟨by simp only [id]; exact if_neg (by omega), by simp only [id]; omega⟩
      have e2 : (s.H.get c).ren id = s.H.get c := by
        cases s.H.get c with
        | cells l =>
          simp only [Ob.ren, Ob.cells.injEq]
          have : ∀ x ∈ l, CV.ren id x = x := fun x _ => by
            cases x with
            | fn g l => simp [CV.ren]
            | _ => rfl
          exact (List.map_congr_left this).trans (List.map_id l)
        | _ => rfl
      rwa [e2] at this
    refine ⟨by dsimp only; omega, fun c hc => if_neg (by omega), fun _ _ _ h => h, fun _ _ _ h => .inl h, fun _ _ hs => absurd trivial hs, fun c hc hl => ?_,
      ⟨fun c _ hl => ?_, fun c d _ _ hl hl' hcd => ?_, hr.zok⟩, fun c hc hl => ?_, Fr.refl _ _, fun _ m' hm' hN c l hc hg x hx => ?_⟩
    · rcases hcase c hl with ⟨e, _⟩ | ⟨_, _, e⟩
      · omega
      · rw [e] at hl; exact hl
    · simp only at hl ⊢
      rcases hcase c hl with ⟨e, e'⟩ | ⟨e1, _, e'⟩
      · rw [e'] at hl ⊢
        subst e
        exact ⟨Nat.lt_succ_self _, bok b _ (hr.own b trivial hl).2 (by simp)⟩
      · rw [e'] at hl ⊢
        obtain ⟨h1, h2⟩ := hr.own c trivial hl
        exact ⟨Nat.lt_succ_of_lt h1, bok c c h2 (if_neg e1)⟩
    · simp only at hl hl'
      rcases hcase c hl with ⟨e, e'⟩ | ⟨e1, e2, e'⟩ <;> rcases hcase d hl' with ⟨k, k'⟩ | ⟨k1, k2, k'⟩
      · omega
      · rw [e'] at hl
        rw [k'] at hl'
        simp only [e, if_true, if_neg k1]
        exact hr.inj b d trivial trivial hl hl' (Ne.symm k2)
      · rw [e'] at hl
        rw [k'] at hl'
        simp only [k, if_true, if_neg e1]
        exact hr.inj c b trivial trivial hl hl' e2
      · rw [e'] at hl
        rw [k'] at hl'
        simp only [if_neg e1, if_neg k1]
        exact hr.inj c d trivial trivial hl hl' hcd
    · simp only at hl
      rcases hcase c hl with ⟨e, e'⟩ | ⟨e1, e2, e'⟩
      · rw [e'] at hl
        exact .inr ⟨b, trivial, hl, by simp [e]⟩
      · rw [e'] at hl
        exact .inr ⟨c, trivial, hl, by simp [e1]⟩
    · simp only at hg
      have hl : (H.get c).live := by rw [hg]; trivial
      rcases hcase c hl with ⟨e, _⟩ | ⟨_, _, e'⟩
      · omega
      · rw [e'] at hg
        exact hN c l hc hg x hx

def allF {R : Type} (p : Nat → Bool) (r0 : R) : Nat → Unit → Unit ⊕ R := fun i _ => match p i with | true => .inl () | false => .inr r0
theorem foldX_yes {R : Type} {p : Nat → Bool} {r1 r0 : R} : ∀ k i, (∀ j, i ≤ j → j < i + k → p j = true) → foldX (allF p r0) (fun _ => r1) k i () = r1
  | 0, _, _ => rfl
  | k + 1, i, h => by
    have h0 := h i (Nat.le_refl _) (by omega)
    simp only [foldX, allF, h0]
    exact foldX_yes k (i + 1) fun j h1 h2 => h j (by omega) (by omega)
theorem foldX_no {R : Type} {p : Nat → Bool} {r1 r0 : R} : ∀ k i, (∃ j, i ≤ j ∧ j < i + k ∧ p j = false) → foldX (allF p r0) (fun _ => r1) k i () = r0
  | 0, _, ⟨j, h1, h2, _⟩ => by omega
  | k + 1, i, ⟨j, h1, h2, h3⟩ => by
    simp only [foldX, allF]
    cases h0 : p i with
    | false => rfl
    | true =>
      refine foldX_no k (i + 1) ⟨j, ?_, by omega, h3⟩
      rcases Nat.lt_or_ge i j with h | h
      · exact h
      · obtain rfl : j = i := by omega
        rw [h0] at h3; cases h3
theorem pb_false {p : Prop} (h : ¬ p) : pb p = false := by
  cases e : pb p with
  | false => rfl
  | true => exact absurd (pb_of e) h
/-- elements of which less is said -/
theorem FV.le_fsE {nil : Bool} {sz n : Nat} {e e' : Nat → List FV} (h : ∀ i, i < n → ∀ (j : Nat) x', (e' i)[j]? = some x' → ∃ x, (e i)[j]? = some x ∧ x.le x') : FV.le (.fs nil sz n e) (.fs nil sz n e') := by
  intro z v hv
  cases hv with
  | fsn => exact .fsn _ _
  | fs0 => exact .fs0 _ _ _ _
  | fss _ _ _ k o cap g hc h1 h2 h3 =>
    refine .fss sz n e' k o cap g hc h1 (fun i j x' hi hj hx => ?_) h3
    obtain ⟨x, h4, h5⟩ := h i hi j x' hx
    exact h5 _ _ (h2 i j x hi hj h4)

end Go.Proofs.YtbobakclbdaepaaGreat.En
/- The engine, part 33: own slices that are lent: the callee reads them alone. -/
namespace Go.Proofs.YtbobakclbdaepaaGreat.En
open Go
set_option linter.unusedVariables false
set_option linter.unusedSimpArgs false

def FV.isLit : FV → Bool
  | .lit _ => true
  | .z0 _ => true
  | _ => false
def CV.noZ : CV → Bool
  | .f x => x.isLit
  | _ => true
def SV.noZ : SV → Bool
  | .v a => a.cells.all CV.noZ
  | .tup l => l.all fun a => a.cells.all CV.noZ
  | .top => true
/-- a row of plain values -/
def ArrLit (n : Nat) (e : Nat → List FV) : Prop := ∀ i, i < n → ∀ x ∈ e i, x.isLit = true
noncomputable def Ob.noZ : Ob → Bool
  | .cells l => l.all CV.noZ
  | .arr _ _ n e => pb (ArrLit n e)
  | _ => true

theorem FV.isLit_ok {x : FV} (h : x.isLit = true) {z z' : Z} {v : Value} (hx : RF z x v) : RF z' x v := by
  cases hx with
  | lit v h1 => exact .lit v h1
  | z0n => exact .z0n
  | z0s a => exact .z0s a
  | _ => cases h

theorem CV.noZ_ok {x : CV} (h : x.noZ = true) {f : Fn} {nx : Nat} {z z' : Z} {v : Value} (hx : RC f nx z x v) : RC f nx z' x v := by
  cases x with
  | f x => exact FV.isLit_ok h hx
  | _ => exact hx

theorem RL.noZ {l : List CV} (h : l.all CV.noZ = true) {f : Fn} {nx : Nat} {z z' : Z} {vs : List Value} (hx : RL f nx z l vs) : RL f nx z' l vs :=
  ⟨hx.1, fun i x v h1 h2 => CV.noZ_ok (List.all_eq_true.1 h x (List.mem_of_getElem? h1)) (hx.2 i x v h1 h2)⟩

theorem AV.noZ_ok {a : AV} (h : a.cells.all CV.noZ = true) {f : Fn} {nx : Nat} {z z' : Z} {v : Value} (hx : RA f nx z a v) : RA f nx z' a v := by
  cases a with
  | one x => exact CV.noZ_ok (by simpa [AV.cells] using h) hx
  | agg l =>
    obtain ⟨cs, rfl, hl⟩ := hx
    exact ⟨cs, rfl, hl.noZ h⟩

theorem SV.noZ_ok {s : SV} (h : s.noZ = true) {f : Fn} {nx : Nat} {z z' : Z} {v : Value} (hx : RS f nx z s v) : RS f nx z' s v := by
  cases s with
  | v a => exact AV.noZ_ok h hx
  | tup l =>
    obtain ⟨vs, rfl, hl⟩ := hx
    exact ⟨vs, rfl, hl.1, fun i x v h1 h2 => AV.noZ_ok (List.all_eq_true.1 h x (List.mem_of_getElem? h1)) (hl.2 i x v h1 h2)⟩
  | top => trivial

theorem Ob.noZ_ok {o : Ob} (h : o.noZ = true) {f : Fn} {nx : Nat} {z z' : Z} {w : World} {b : Nat} (hz : ∀ p, z (f b).k p = none → z' (f b).k p = none) (hb : BOk f nx z w b o) : BOk f nx z' w b o := by
  refine ⟨hb.lt, fun p => hz p (hb.own p), hb.room, fun m i j x hx => ?_, hb.map⟩
  obtain ⟨h1, v, h2, h3⟩ := hb.cell m i j x hx
  refine ⟨h1, v, h2, CV.noZ_ok ?_ h3⟩
  cases o with
  | cells l =>
    simp only [Ob.at] at hx
    split at hx
    · exact List.all_eq_true.1 h x (List.mem_of_getElem? hx)
    · cases hx
  | arr live sz n e =>
    simp only [Ob.at] at hx
    split at hx
    · rename_i hc
      obtain ⟨y, hy, rfl⟩ := Option.map_eq_some_iff.1 hx
      exact pb_of h i hc.2.2.1 y (List.mem_of_getElem? hy)
    · cases hx
  | map es => cases hx
  | dead => cases hx

/-- frozen: what stands for what -/
theorem frzSt_to {b : Nat} {s s' : St} (h : (frzSt b s).res = some s') {f : Fn} {z : Z} {w : World} {a : Array Value} (ht : TR f s.nx z s.sl a) (hr : Rel All f s.nx z w s.H) (hdead : s'.H.get b = .dead) :
    TR f s.nx (zFrz f z w s.H b) s'.sl a ∧ Rel All f s.nx (zFrz f z w s.H b) w s'.H ∧ s'.nx = s.nx ∧ (∀ c, (s'.H.get c).live → c ≠ b ∧ (s.H.get c).live) := by
  have key : ∀ (k : FrzF) (sl : Slots) (H : Heap), KOk f s.nx z w s.H b k → (frzSl b k s.sl).res = some sl → (frzH b k s.H).res = some H →
      TR f s.nx (zFrz f z w s.H b) sl a ∧ Rel All f s.nx (zFrz f z w s.H b) w H ∧ (∀ c, (H.get c).live → c ≠ b ∧ (s.H.get c).live) := by
    intro k sl H hk h1 h3
    have hR := frzH_some s.H H h3
    have hold : ∀ c, (H.get c).live → c ≠ b ∧ (s.H.get c).live ∧ ((s.H.get c).frz b k).res = some (H.get c) := fun c hl => by
      rcases hR c with ⟨_, h5⟩ | ⟨_, _, h5⟩ | ⟨h5, h6⟩
      · rw [h5] at hl; exact hl.elim
      · rw [h5] at hl; exact hl.elim
      · exact ⟨h5, (Ob.frz_live h6).1.1 hl, h6⟩
    refine ⟨fun t => ?_, ⟨fun c _ hl => ?_, fun c d _ _ hl hl' => hr.inj c d trivial trivial (hold c hl).2.1 (hold d hl').2.1, fun c o v hv => ?_⟩, fun c hl => ⟨(hold c hl).1, (hold c hl).2.1⟩⟩
    · rcases frzSl_some s.sl sl h1 t with ⟨_, h5⟩ | h5
      · simp only [h5]; trivial
      · exact RS.frz hr hk (ht t) h5
    · obtain ⟨h5, h6, h7⟩ := hold c hl
      obtain ⟨h8, h9⟩ := hr.own c trivial h6
      exact ⟨h8, h9.frz hr hk (fun hlv => hr.inj c b trivial trivial h6 hlv h5) h7⟩
    · rcases zFrz_some hv with ⟨_, _, h5⟩ | h5
      · exact h5
      · exact hr.zok c o v h5
  have keep : s' = s → TR f s.nx (zFrz f z w s.H b) s'.sl a ∧ Rel All f s.nx (zFrz f z w s.H b) w s'.H ∧ s'.nx = s.nx ∧ (∀ c, (s'.H.get c).live → c ≠ b ∧ (s.H.get c).live) := by
    rintro rfl
    have hz : zFrz f z w s'.H b = z := by
      funext k p
      exact zFrz_out fun h => by rw [hdead] at h; exact h.1
    rw [hz]
    exact ⟨ht, hr, rfl, fun c hl => ⟨fun e => by rw [e, hdead] at hl; exact hl, hl⟩⟩
  unfold frzSt at h
  split at h
  · rename_i live sz n e hb
    obtain ⟨sl, h1, h2⟩ := T.bind_some h
    obtain ⟨H, h3, h4⟩ := T.bind_some h2
    have := T.ret_some h4
    subst this
    obtain ⟨k1, k2, k3⟩ := key _ sl H (kArr_ok hr hb) h1 h3
    exact ⟨k1, k2, rfl, k3⟩
  · rename_i l hb
    split at h
    · rename_i fs hf _
      obtain ⟨sl, h1, h2⟩ := T.bind_some h
      obtain ⟨H, h3, h4⟩ := T.bind_some h2
      have := T.ret_some h4
      subst this
      obtain ⟨k1, k2, k3⟩ := key _ sl H (kCells_ok hr hb hf) h1 h3
      exact ⟨k1, k2, rfl, k3⟩
    · exact keep (T.ret_some h).symm
  · exact keep (T.ret_some h).symm

/-- block b is lent: the callee sees plain memory, which it leaves as it is -/
noncomputable def lend (F : SumF) (b : Nat) : SumF := fun args H nx =>
  match H.all (fun e => !(e.2.refs.any (Nat.beq b))) && Nat.ble (b + 1) nx with
  | false => .bad
  | true => (frzSt b ⟨argSlots 0 args, H, nx, false, 0, []⟩).bind fun s => match s.H.get b, argsBack s.sl args.length 0 with
    | .dead, some args' => (F args' s.H nx).bind fun o =>
      .need (o.v.noZ && o.H.all fun e => e.2.noZ)
        (.ret { o with H := (b, H.get b) :: ((o.H.filter fun e => (Nat.ble nx e.1 || o.wr.any (Nat.beq e.1)) && !(Nat.beq e.1 b)) ++ (H.filter fun e => !(Nat.ble nx e.1 || o.wr.any (Nat.beq e.1)))) })
    | _, _ => .bad

theorem get_noZ : ∀ (H : Heap), H.all (fun e => e.2.noZ) = true → ∀ c, (H.get c).noZ = true
  | [], _, c => rfl
  | (k, o) :: r, h, c => by
    simp only [List.all_cons, Bool.and_eq_true] at h
    rw [Heap.get_cons]
    split
    · exact h.1
    · exact get_noZ r h.2 c

theorem get_noref {b : Nat} : ∀ (H : Heap), H.all (fun e => !(e.2.refs.any (Nat.beq b))) = true → ∀ c, b ∉ (H.get c).refs
  | [], _, c => by intro h; cases h
  | (k, o) :: r, h, c => by
    simp only [List.all_cons, Bool.and_eq_true, Bool.not_eq_true'] at h
    rw [Heap.get_cons]
    split
    · exact any_neg h.1
    · exact get_noref r h.2 c

theorem lend_ok {P : Program} {g : Nat} {F : SumF} (hF : SumOk P g F) (b : Nat) : SumOk P g (lend F b) := by
  have hget : ∀ (H : Heap) (nx : Nat) (o : CallOut) (c : Nat), Heap.get ((b, H.get b) :: ((o.H.filter fun e => (Nat.ble nx e.1 || o.wr.any (Nat.beq e.1)) && !(Nat.beq e.1 b)) ++ (H.filter fun e => !(Nat.ble nx e.1 || o.wr.any (Nat.beq e.1))))) c =
      if c = b then H.get b else if nx ≤ c ∨ c ∈ o.wr then o.H.get c else H.get c := by
    intro H nx o c
    rw [Heap.get_cons]
    by_cases hcb : c = b
    · rw [if_pos hcb.symm, if_pos hcb]
    · rw [if_neg (Ne.symm hcb), if_neg hcb]
      have hbeq : Nat.beq c b = false := by
        cases e : Nat.beq c b with
        | false => rfl
        | true => exact absurd (Nat.eq_of_beq_eq_true e) hcb
      by_cases hc : nx ≤ c ∨ c ∈ o.wr
      · rw [if_pos hc]
        have ht : (Nat.ble nx c || o.wr.any (Nat.beq c)) = true := by
          rw [Bool.or_eq_true]
          exact hc.imp Nat.ble_eq_true_of_le (anyBeq _ _).2
        rcases get_append (o.H.filter fun e => (Nat.ble nx e.1 || o.wr.any (Nat.beq e.1)) && !(Nat.beq e.1 b)) (H.filter fun e => !(Nat.ble nx e.1 || o.wr.any (Nat.beq e.1))) c with e | ⟨e, e'⟩
        · rw [e, get_filter (fun c => (Nat.ble nx c || o.wr.any (Nat.beq c)) && !(Nat.beq c b)), if_pos (by rw [ht, hbeq]; rfl)]
        · rw [get_filter (fun c => (Nat.ble nx c || o.wr.any (Nat.beq c)) && !(Nat.beq c b)), if_pos (by rw [ht, hbeq]; rfl)] at e
          rw [e', get_filter (fun c => !(Nat.ble nx c || o.wr.any (Nat.beq c))), if_neg (by rw [ht]; simp), e]
      · rw [if_neg hc]
        have ht : (Nat.ble nx c || o.wr.any (Nat.beq c)) = false := by
          rw [Bool.or_eq_false_iff]
          simp only [not_or] at hc
          refine ⟨ble_false hc.1, ?_⟩
          cases h : o.wr.any (Nat.beq c) with
          | false => rfl
          | true => exact absurd ((anyBeq _ _).1 h) hc.2
        rw [get_append_out _ _ _ fun e he hb => by
          rw [List.mem_filter] at he
          rw [hb, ht] at he
          cases he.2]
        rw [get_filter (fun c => !(Nat.ble nx c || o.wr.any (Nat.beq c))), if_pos (by rw [ht]; rfl)]
  refine ⟨fun args H nx r hr => ?_, fun args H nx => ?_⟩
  · unfold lend at hr
    split at hr
    · exact (T.bad_some hr).elim
    rename_i hck
    rw [Bool.and_eq_true] at hck
    obtain ⟨hnr, hbn⟩ := hck
    have hnoref := get_noref H hnr
    have hbn := nble hbn
    obtain ⟨s, h1, hr⟩ := T.bind_some hr
    split at hr
    · rename_i args' hdead hargs'
      obtain ⟨o, h2, hr⟩ := T.bind_some hr
      obtain ⟨hz, hr⟩ := T.need_some hr
      have := T.ret_some hr
      subst this
      rw [Bool.and_eq_true] at hz
      have hkeep := (hF.keeps args' s.H nx).res h2
      intro f z w vs hrel hra R hR
      obtain ⟨ht1, hr1, hnx, hlive⟩ := frzSt_to h1 (argSlots_TR hra 0) hrel hdead
      simp only at ht1 hr1 hnx hlive
      have hlen : vs.toList.length = args.length := hra.1.symm
      have hra1 := argsBack_ok ht1 args.length 0 args' vs.toList hargs' hlen fun j hj => by simp
      have hsame : ∀ c, c ≠ b → s.H.get c = H.get c := fun c hc => frzSt_get h1 hc (hnoref c)
      refine hF.to args' s.H nx o h2 f _ w vs hr1 hra1 R fun f2 z2 w2 v2 hp hv => ?_
      -- memory that is not lent
      let z3 : Z := fun k p => @ite _ ((H.get b).live ∧ k = (f b).k) (Classical.propDecidable _) none (z2 k p)
      have z3_in : ∀ k p, ((H.get b).live ∧ k = (f b).k) → z3 k p = none := fun k p h => by simp only [z3]; rw [if_pos h]
      have z3_out : ∀ k p, ¬ ((H.get b).live ∧ k = (f b).k) → z3 k p = z2 k p := fun k p h => by simp only [z3]; rw [if_neg h]
      have z3_some : ∀ k p v, z3 k p = some v → z2 k p = some v ∧ ¬ ((H.get b).live ∧ k = (f b).k) := fun k p v h => by
        by_cases hc : (H.get b).live ∧ k = (f b).k
        · rw [z3_in k p hc] at h; cases h
        · rw [z3_out k p hc] at h; exact ⟨h, hc⟩
      have z3_none : ∀ k p, z2 k p = none → z3 k p = none := fun k p h => by
        by_cases hc : (H.get b).live ∧ k = (f b).k
        · exact z3_in k p hc
        · rw [z3_out k p hc]; exact h
      have hown : ∀ p, (H.get b).live → z (f b).k p = none := fun p hl => (hrel.own b trivial hl).2.own p
      have zle3 : z.le z3 := fun k p v hv => by
        have hne : ¬ ((H.get b).live ∧ k = (f b).k) := by
          rintro ⟨hl, rfl⟩
          rw [hown p hl] at hv; cases hv
        rw [z3_out k p hne]
        exact hp.zle _ _ _ (zFrz_le hrel _ _ _ hv)
      have himg : ∀ k, img All f s.H k → img All f H k := by
        rintro k ⟨c, _, hl, rfl⟩
        exact ⟨c, trivial, (hlive c hl).2, rfl⟩
      have hnimg : (H.get b).live → ¬ img All f s.H (f b).k := by
        rintro hl ⟨c, _, hlc, e⟩
        obtain ⟨h5, h6⟩ := hlive c hlc
        exact hrel.inj c b trivial trivial h6 hl h5 e
      have znew3 : ∀ k p v, z3 k p = some v → z k p = some v ∨ w.heap.size ≤ k ∨ img All f s.H k := fun k p v hv => by
        obtain ⟨h5, h6⟩ := z3_some k p v hv
        rcases hp.znew k p v h5 with h7 | h7
        · rcases zFrz_some h7 with ⟨h8, h9, _⟩ | h8
          · exact absurd ⟨h8, h9⟩ h6
          · exact .inl h8
        · exact .inr h7
      have hcase : ∀ c, c ≠ b → (if nx ≤ c ∨ c ∈ o.wr then o.H.get c else H.get c) = o.H.get c := fun c hc => by
        split
        · rfl
        · rename_i hn
          simp only [not_or] at hn
          rw [hkeep.2 c (by omega) hn.2, hsame c hc]
      have hHo : ∀ c, Heap.get ((b, H.get b) :: ((o.H.filter fun e => (Nat.ble nx e.1 || o.wr.any (Nat.beq e.1)) && !(Nat.beq e.1 b)) ++ (H.filter fun e => !(Nat.ble nx e.1 || o.wr.any (Nat.beq e.1))))) c = if c = b then H.get b else o.H.get c := fun c => by
        rw [hget]
        split
        · rfl
        · rename_i hc; exact hcase c hc
      have hfb : f2 b = f b := hp.ext b hbn
      refine hR f2 z3 w2 v2 ⟨hp.hnx, hp.ext, zle3, fun k p v hv => (znew3 k p v hv).imp id (Or.imp id (himg k)), fun _ _ hs => absurd trivial hs, fun c hc hl => ?_, ⟨fun c _ hl => ?_, fun c d _ _ hl hl' hcd => ?_, fun k p v hv => hp.rel.zok k p v (z3_some k p v hv).1⟩, fun c hc hl => ?_, hp.fr.less fun x _ => himg x, fun he m hm hN c l hc hg x hx => ?_⟩ (SV.noZ_ok hz.1 hv)
      · simp only [hHo] at hl
        split at hl
        · rename_i e; rw [e]; exact hl
        · exact (hlive c (hp.dead c hc hl)).2
      · simp only [hHo] at hl ⊢
        split at hl
        · rename_i e
          subst e
          rw [if_pos rfl]
          obtain ⟨h5, h6⟩ := hrel.own c trivial hl
          exact ⟨Nat.lt_of_lt_of_le h5 hp.hnx, h6.kept h5 hp.fr (hnimg hl) hp.ext hp.hnx zle3 znew3⟩
        · rename_i e
          rw [if_neg e]
          obtain ⟨h5, h6⟩ := hp.all.own c trivial hl
          exact ⟨h5, Ob.noZ_ok (get_noZ o.H hz.2 c) (fun p => z3_none _ p) h6⟩
      · simp only [hHo] at hl hl'
        have side : ∀ c, c ≠ b → (o.H.get c).live → (H.get b).live → (f2 c).k ≠ (f b).k := fun c hc hlc hlb e => by
          rcases Nat.lt_or_ge c nx with h | h
          · rw [hp.ext c h] at e
            exact hrel.inj c b trivial trivial (hlive c (hp.dead c h hlc)).2 hlb hc e
          · rcases hp.fresh c h hlc with h5 | h5
            · have := (hrel.own b trivial hlb).2.lt
              omega
            · rw [e] at h5
              exact hnimg hlb h5
        by_cases e1 : c = b <;> by_cases e2 : d = b
        · exact absurd (e1.trans e2.symm) hcd
        · subst e1
          rw [if_pos rfl] at hl
          rw [if_neg e2] at hl'
          rw [hfb]
          exact (side d e2 hl' hl).symm
        · subst e2
          rw [if_pos rfl] at hl'
          rw [if_neg e1] at hl
          rw [hfb]
          exact side c e1 hl hl'
        · rw [if_neg e1] at hl
          rw [if_neg e2] at hl'
          exact hp.all.inj c d trivial trivial hl hl' hcd
      · simp only [hHo] at hl
        have hc : nx ≤ c := hc
        rw [if_neg (by omega)] at hl
        exact (hp.fresh c hc hl).imp id (himg _)
      · simp only [hHo] at hg
        split at hg
        · rename_i e
          subst e
          exact hN c l hc hg x hx
        · rename_i e
          refine hp.noesc he m hm (fun c' l' hc' hg' x' hx' => ?_) c l hc hg x hx
          by_cases e' : c' = b
          · rw [e', hdead] at hg'; cases hg'
          · rw [hsame c' e'] at hg'
            exact hN c' l' hc' hg' x' hx'
    · exact (T.bad_some hr).elim
  · unfold lend
    split
    · trivial
    · refine T.Every.bind (fun s => ?_) _
      split
      · rename_i args' _ _
        refine T.Every.bind2 (q := fun o => nx ≤ o.nx ∧ ∀ b, b < nx → b ∉ o.wr → o.H.get b = s.H.get b) (fun o ho => ?_) (hF.keeps args' s.H nx)
        refine T.Every.need ⟨ho.1, fun c hc hw => ?_⟩
        simp only [hget]
        by_cases e : c = b
        · rw [if_pos e, e]
        · rw [if_neg e, if_neg (by simp only [not_or]; exact ⟨by omega, hw⟩)]
      · trivial

/-- own slices among the arguments are lent -/
noncomputable def lendN : Nat → SumF → SumF
  | 0, F => F
  | k + 1, F => fun args H nx => match args.flatMap AV.tops with
    | [] => F args H nx
    | b :: _ => lend (lendN k F) b args H nx

theorem lendN_ok {P : Program} {g : Nat} {F : SumF} (hF : SumOk P g F) : ∀ k, SumOk P g (lendN k F)
  | 0 => hF
  | k + 1 => by
    refine ⟨fun args H nx r hr => ?_, fun args H nx => ?_⟩
    · simp only [lendN] at hr
      split at hr
      · exact hF.to args H nx r hr
      · exact (lend_ok (lendN_ok hF k) _).to args H nx r hr
    · simp only [lendN]
      split
      · exact hF.keeps args H nx
      · exact (lend_ok (lendN_ok hF k) _).keeps args H nx

noncomputable def lendSum (F : SumF) : SumF := canonSum (lendN 3 (canonSum F))
theorem lendSum_ok {P : Program} {g : Nat} {F : SumF} (hF : SumOk P g F) : SumOk P g (lendSum F) := canonSum_ok (lendN_ok (canonSum_ok hF) 3)

end Go.Proofs.YtbobakclbdaepaaGreat.En
/- The engine, part 34: loops that are known, told of the blocks alone that their slots reach. -/
namespace Go.Proofs.YtbobakclbdaepaaGreat.En
open Go
set_option linter.unusedVariables false
set_option linter.unusedSimpArgs false

theorem get_renS (ρ : Nat → Nat) : ∀ (l : Slots) (t : Nat), Slots.get (l.map fun x => (x.1, x.2.ren ρ)) t = (l.get t).ren ρ
  | [], t => rfl
  | (k, v) :: r, t => by
    rw [List.map_cons, Slots.get_cons, Slots.get_cons]
    split
    · rfl
    · exact get_renS ρ r t

def slRefs (sl : Slots) : List Nat := sl.flatMap fun x => x.2.refs

theorem slRefs_get {sl : Slots} {t c : Nat} (h : c ∈ (sl.get t).refs) : c ∈ slRefs sl := by
  rcases Slots.get_mem sl t with e | e
  · rw [e] at h; cases h
  · exact List.mem_flatMap.2 ⟨_, e, h⟩

/-- what is known of a loop: of its slots, and of what they reach, renamed -/
noncomputable def mkCodeF (live : List Nat) (c0 : Code) (N0 : Nat) (B : Slots → Heap → Nat → T (Ex × Slots × Heap × Nat × Bool)) (N : Nat) (c : Code) (st : St) : T (Ex × St) :=
  .need (pb (c = c0 ∧ N = N0)) (pruneK st.sl live fun sl =>
    let ids := (reach st.H 4000 (slRefs sl) []).reverse
    match okNames 0 st.nx ids st.H && (slRefs sl).all (okRef 0 ids) with
    | false => .bad
    | true => (B (sl.map fun x => (x.1, x.2.ren (reName 0 ids))) (renH 0 ids st.H) ids.length).bind fun x => match Nat.ble ids.length x.2.2.2.1 with
      | true => .ret (x.1, ⟨x.2.1.map fun y => (y.1, y.2.ren (backName ids st.nx)), backH ids st.nx x.2.2.2.1 x.2.2.1 ++ st.H.filter fun e => !(ids.any (Nat.beq e.1)), st.nx + (x.2.2.2.1 - ids.length),
          st.esc || escB ids (renH 0 ids st.H) ⟨.top, x.2.2.1, x.2.2.2.1, x.2.2.2.2, List.range ids.length⟩, st.base, ids ++ st.wr⟩)
      | false => .bad)

theorem mkCodeF_ok {P : Program} {live : List Nat} {c0 : Code} {N0 : Nat} {B : Slots → Heap → Nat → T (Ex × Slots × Heap × Nat × Bool)}
    (h : ∀ sl H nx e sl' H' nx' esc', (B sl H nx).res = some (e, sl', H', nx', esc') → CodeOk P N0 c0 ⟨sl, H, nx, false, 0, []⟩ e ⟨sl', H', nx', esc', 0, []⟩) : LoopOk P (mkCodeF live c0 N0 B) := by
  refine ⟨fun N c st e st' hr => ?_, fun N c st => ?_⟩
  · unfold mkCodeF at hr
    obtain ⟨hp, hr2⟩ := T.need_some hr
    clear hr
    obtain ⟨rfl, rfl⟩ := pb_of hp
    obtain ⟨sl, h1, h2⟩ := pruneK_eq (β := T (Ex × St)) st.sl live
    rw [h1] at hr2
    dsimp only at hr2
    generalize hids : (reach st.H 4000 (slRefs sl) []).reverse = ids at hr2
    split at hr2
    · exact (T.bad_some hr2).elim
    rename_i hok
    rw [Bool.and_eq_true] at hok
    have hn := okNames_ok hok.1
    have hargs : ∀ c ∈ slRefs sl, c < 0 ∨ c ∈ ids := fun c hc => okRef_ok (List.all_eq_true.1 hok.2 c hc)
    obtain ⟨⟨e1, sl1, H1, nx1, esc1⟩, hb, hr⟩ := T.bind_some hr2
    simp only at hr
    split at hr
    · rename_i hle
      have hle := nble hle
      have := T.ret_some hr
      simp only [Prod.mk.injEq] at this
      obtain ⟨rfl, rfl⟩ := this
      have hc := h _ _ _ _ _ _ _ _ hb
      refine ⟨fun he => by simp only [Bool.or_eq_false_iff] at he; exact he.1, fun f z w a ht hrel hN hd Q hQ => ?_⟩
      have hrel0 := hrel.ren hn
      rw [Nat.zero_add] at hrel0
      have hts : TR f st.nx z sl a.tmps := fun t => by
        rw [h2]
        split
        · exact ht t
        · trivial
      refine hc.2 (fun b => f (unName 0 ids b)) z w a (fun t => ?_) hrel0 hN hd Q fun f0 z' w' a' hp ht' hN' hd' => ?_
      · rw [get_renS]
        exact (hts t).ren fun c hcr => by have := hn.led f (hargs c (slRefs_get hcr)); rwa [Nat.zero_add] at this
      · obtain ⟨f', k1, k2, _⟩ := framed (o := ⟨.top, H1, nx1, esc1, List.range ids.length⟩) hn hle (fun b hb hw => absurd (List.mem_range.2 hb) hw) hrel hp
        refine hQ f' z' w' a' (k1.weak fun he => ?_) (fun t => ?_) hN' hd'
        · simp only [Bool.or_eq_false_iff] at he
          exact he.2
        · simp only
          rw [get_renS]
          exact (ht' t).ren fun c hcr => k2 c ((ht' t).refs_lt c hcr)
    · exact (T.bad_some hr).elim
  · unfold mkCodeF
    refine T.Every.need ?_
    obtain ⟨sl, h1⟩ := pruneK_at (β := T (Ex × St)) st.sl live
    rw [h1]
    dsimp only
    generalize hids : (reach st.H 4000 (slRefs sl) []).reverse = ids
    split
    · trivial
    · rename_i hok
      rw [Bool.and_eq_true] at hok
      have hn := okNames_ok hok.1
      have hB : Back ids st.nx := ⟨fun c hc => (hn.ge c hc).2, hn.nodup⟩
      refine T.Every.bind (fun x => ?_) _
      split
      · rename_i hle
        have hle := nble hle
        refine ⟨rfl, Nat.le_add_right _ _, fun b hb hn' hw => ?_⟩
        simp only [List.mem_append, not_or] at hw
        obtain ⟨w1, w2⟩ := hw
        refine ⟨w2, ?_⟩
        simp only
        rw [get_append_out, get_filter (fun b => !(ids.any (Nat.beq b))), if_pos]
        · cases hq : ids.any (Nat.beq b) with
          | false => rfl
          | true => exact absurd ((anyBeq ids b).1 hq) w1
        · intro e he
          unfold backH at he
          obtain ⟨y, hy, rfl⟩ := List.mem_map.1 he
          intro h2
          simp only at h2
          rcases Nat.lt_or_ge y.1 ids.length with hi | hi
          · rw [(hB.old hi).1] at h2
            exact w1 (h2 ▸ List.getElem_mem hi)
          · rw [Back.new hi] at h2
            omega
      · trivial

/-- what is known of a loop -/
noncomputable def mkLoopF (live : List Nat) (c0 : Code) (N0 : Nat) (B : Slots → Heap → Nat → T (Ex × Slots × Heap × Nat × Bool)) : Nat → Code → St → T (Ex × St) := mkCodeF live (.loop c0) N0 B
theorem mkLoopF_ok {P : Program} {live : List Nat} {c0 : Code} {N0 : Nat} {B : Slots → Heap → Nat → T (Ex × Slots × Heap × Nat × Bool)}
    (h : ∀ sl H nx e sl' H' nx' esc', (B sl H nx).res = some (e, sl', H', nx', esc') → CodeOk P N0 (.loop c0) ⟨sl, H, nx, false, 0, []⟩ e ⟨sl', H', nx', esc', 0, []⟩) : LoopOk P (mkLoopF live c0 N0 B) := mkCodeF_ok h

/-- a code's run from a state of which less is said -/
theorem CodeOk.from {P : Program} {N : Nat} {c : Code} {st st1 : St} {e : Ex} {st2 : St} (h : CodeOk P N c st1 e st2) (hle : StLe st.nx st st1) : CodeOk P N c st e st2 := by
  refine ⟨fun he => hle.esc (h.1 he), fun f z w a ht hr hN hd Q hQ => ?_⟩
  obtain ⟨f1, z1, ht1, hp1⟩ := hle.to f z w a.tmps ht hr
  refine h.2 f1 z1 w a ht1 hp1.all hN hd Q fun f' z' w' a' hp ht' hN' hd' => hQ f' z' w' a' ((Post.trans' hp1 hp hp1.hnx).weak fun he => ?_) ht' hN' hd'
  rw [Bool.or_eq_false_iff]
  exact ⟨h.1 he, he⟩

def SV.tops : SV → List Nat
  | .v a => a.tops
  | _ => []

/-- a pointer into one of these blocks is no longer told -/
def SV.noPtr (bs : List Nat) : SV → SV
  | .v (.one (.ptr c m i j)) => match bs.any (Nat.beq c) with | true => .top | false => .v (.one (.ptr c m i j))
  | x => x
theorem SV.noPtr_le (bs : List Nat) (s : SV) : s.le (s.noPtr bs) := by
  unfold SV.noPtr
  split
  · split
    · exact .inl rfl
    · exact .inr (.inl rfl)
  · exact .inr (.inl rfl)
def Slots.noPtr (bs : List Nat) : Slots → Slots
  | [] => []
  | (k, v) :: r => (k, v.noPtr bs) :: Slots.noPtr bs r
theorem Slots.noPtr_get (bs : List Nat) (t : Nat) : ∀ sl : Slots, (Slots.noPtr bs sl).get t = (sl.get t).noPtr bs
  | [] => rfl
  | (k, v) :: r => by
    simp only [Slots.noPtr, Slots.get]
    cases Nat.beq k t
    · exact Slots.noPtr_get bs t r
    · rfl

/-- slices in these slots are never written any more -/
def frzAt (slots : List Nat) (st : St) : T St :=
  (frzL (slots.flatMap fun t => (st.sl.get t).tops) ⟨Slots.noPtr (slots.flatMap fun t => (st.sl.get t).tops) st.sl, st.H, st.nx, st.esc, st.base, st.wr⟩).bind fun s =>
    .ret { s with H := s.H.filter (fun e => (st.H.map (·.1)).any (Nat.beq e.1)), nx := st.nx, base := st.base, wr := st.H.map (·.1) ++ st.wr }

def preL : List (Nat × Nat × List Nat) → Nat → Nat → Option (St → T St)
  | [], _, _ => none
  | (k, j, l) :: r, g, id => match Nat.beq k g && Nat.beq j id with | true => some (frzAt l) | false => preL r g id

theorem preL_some : ∀ (l : List (Nat × Nat × List Nat)) (g id : Nat) (p : St → T St), preL l g id = some p → ∃ s, p = frzAt s
  | [], g, id, p, h => by cases h
  | (k, j, x) :: r, g, id, p, h => by
    simp only [preL] at h
    split at h
    · exact ⟨x, (Option.some.inj h).symm⟩
    · exact preL_some r g id p h

/-- with what is known, and slices that are never written any more from a region on -/
def Ctx.withP (G : Ctx) (s : List (Nat × SumF)) (l : List (Nat × Nat × LoopF)) (p : List (Nat × Nat × List Nat)) : Ctx := ⟨G.ti, G.fi, G.sym, sumL s, lsL l, preL p⟩

theorem CtxOk.withP {P : Program} {G : Ctx} (h : CtxOk P G) (s : List (Nat × SumF)) (l : List (Nat × Nat × LoopF)) (p : List (Nat × Nat × List Nat)) : CtxOk P (G.withP s l p) := ⟨h.ti, h.fi, h.mixed⟩

theorem KnownOk.listsP {P : Program} {G : Ctx} {s : List (Nat × SumF)} {l : List (Nat × Nat × LoopF)} {p : List (Nat × Nat × List Nat)} (hs : ∀ x ∈ s, SumOk P x.1 x.2) (hl : ∀ x ∈ l, LoopOk P x.2.2) : KnownOk P (G.withP s l p) where
  sum := fun g F h => (sumL_ok s hs g F h).to
  ls := fun F id L h => (lsL_ok l hl F id L h).to
  sumK := fun g F h => (sumL_ok s hs g F h).keeps
  lsK := fun F id L h => (lsL_ok l hl F id L h).keeps
  pre := fun F id q h st st1 hr N c e st2 hc => by
    obtain ⟨sl, rfl⟩ := preL_some p F id q h
    obtain ⟨s, h1, h2⟩ := T.bind_some hr
    have := T.ret_some h2
    subst this
    obtain ⟨hle, hnx, hesc⟩ := frzL_ok (m := st.nx) (sl.flatMap fun t => (st.sl.get t).tops) ⟨Slots.noPtr (sl.flatMap fun t => (st.sl.get t).tops) st.sl, st.H, st.nx, st.esc, st.base, st.wr⟩ s (Nat.le_refl st.nx) h1
    simp only at hnx
    refine hc.from ((StLe.less (m := st.nx) (s := st) (base := st.base) (wr := st.wr) (Nat.le_refl _) (fun t => (Slots.noPtr_get (sl.flatMap fun t => (st.sl.get t).tops) t st.sl) ▸ SV.noPtr_le _ _) (fun b => .inl rfl)).trans (hle.trans ?_))
    have := StLe.sift (m := st.nx) (s := s) (by omega) fun b => (st.H.map (·.1)).any (Nat.beq b)
    refine ⟨this.esc, fun f z w a ht hr => ?_⟩
    have := this.to f z w a ht hr
    simpa only [hnx] using this
  preK := fun F id q h st => by
    obtain ⟨sl, rfl⟩ := preL_some p F id q h
    unfold frzAt
    refine T.Every.bind (fun s => ?_) _
    show Kp st _
    refine ⟨rfl, Nat.le_refl _, fun b hb hn hw => ?_⟩
    simp only [List.mem_append, not_or] at hw
    refine ⟨hw.2, ?_⟩
    simp only
    rw [get_filter (fun b => (st.H.map (·.1)).any (Nat.beq b)), if_neg, get_none _ _ hw.1]
    intro h
    exact hw.1 ((anyBeq _ _).1 h)

end Go.Proofs.YtbobakclbdaepaaGreat.En
