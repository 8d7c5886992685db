/- The engine, part 32: what is known of a call, in one of two ways; slices that are handed over and never written any more. -/
import Derived.Test.YtbobakclbdaepaaGreatF8
namespace Go.Proofs.YtbobakclbdaepaaGreat.En
open Go
set_option linter.unusedVariables false
set_option linter.unusedSimpArgs false

/-- the first way, or the second one -/
def orSum (F G : SumF) : SumF := fun args H nx => match F args H nx with
  | .bad => G args H nx
  | .ret a => .ret a
  | .br b t e => .br b t e

theorem orSum_ok {P : Program} {g : Nat} {F G : SumF} (hF : SumOk P g F) (hG : SumOk P g G) : SumOk P g (orSum F G) := by
  refine ⟨fun args H nx r hr => ?_, fun args H nx => ?_⟩
  · have h1 := hF.to args H nx r
    unfold orSum at hr
    split at hr
    · exact hG.to args H nx r hr
    · rename_i h; rw [h] at h1; exact h1 hr
    · rename_i h; rw [h] at h1; exact h1 hr
  · have h1 := hF.keeps args H nx
    unfold orSum
    split
    · exact hG.keeps args H nx
    · rename_i h; rw [h] at h1; exact h1
    · rename_i h; rw [h] at h1; exact h1

/-- blocks to which slices lead that are handed over -/
def CV.tops : CV → List Nat
  | .sl _ b _ _ _ _ _ _ _ => [b]
  | _ => []
def AV.tops (a : AV) : List Nat := a.cells.flatMap CV.tops

def frzL : List Nat → St → T St
  | [], s => .ret s
  | b :: r, s => (frzSt b s).bind fun s => frzL r s

theorem frzL_ok {m : Nat} : ∀ (l : List Nat) (s s' : St), m ≤ s.nx → (frzL l s).res = some s' → StLe m s s' ∧ s'.nx = s.nx ∧ s'.esc = s.esc
  | [], s, s', hm, h => by
    have := T.ret_some h
    subst this
    exact ⟨StLe.refl hm, rfl, rfl⟩
  | b :: r, s, s', hm, h => by
    obtain ⟨s1, h1, h2⟩ := T.bind_some h
    have e := frzSt_nx h1
    have he : s1.esc = s.esc := by
      unfold frzSt at h1
      split at h1
      · obtain ⟨sl, _, h4⟩ := T.bind_some h1
        obtain ⟨H, _, h5⟩ := T.bind_some h4
        have := T.ret_some h5
        subst this; rfl
      · split at h1
        · obtain ⟨sl, _, h4⟩ := T.bind_some h1
          obtain ⟨H, _, h5⟩ := T.bind_some h4
          have := T.ret_some h5
          subst this; rfl
        · have := T.ret_some h1
          subst this; rfl
      · have := T.ret_some h1
        subst this; rfl
    obtain ⟨h3, h4, h5⟩ := frzL_ok (m := m) r s1 s' (by omega) h2
    exact ⟨(frzSt_ok hm h1).trans h3, h4.trans e, h5.trans he⟩

theorem CV.frz_id {b : Nat} {k : FrzF} {x : CV} (h : b ∉ x.refs) : x.frz b k = .ret x := by
  have key : ∀ c : Nat, b ≠ c → Nat.beq c b = false := fun c hc => by
    cases e : Nat.beq c b with
    | false => rfl
    | true => exact absurd (Nat.eq_of_beq_eq_true e).symm hc
  cases x with
  | f x => rfl
  | ptr c => simp only [CV.refs, List.mem_singleton] at h; simp only [CV.frz, key c h]
  | sl nil c => simp only [CV.refs, List.mem_singleton] at h; simp only [CV.frz, key c h]
  | mp c => simp only [CV.refs, List.mem_singleton] at h; simp only [CV.frz, key c h]
  | fn g l =>
    have : (l.any fun x => Nat.beq x.1 b) = false := by
      rw [List.any_eq_false]
      intro x hx
      rw [key x.1 fun e => h (by simp only [CV.refs, List.mem_map]; exact ⟨x, hx, e.symm⟩)]
      simp
    simp only [CV.frz, this]

theorem mapT_id {α : Type} {k : α → T α} : ∀ (l : List α), (∀ x ∈ l, k x = .ret x) → mapT k l = .ret l
  | [], _ => rfl
  | x :: r, h => by
    simp only [mapT, h x (List.mem_cons_self ..), T.bind, mapT_id r fun y hy => h y (List.mem_cons_of_mem _ hy)]

theorem Ob.frz_id {b : Nat} {k : FrzF} {o : Ob} (h : b ∉ o.refs) : o.frz b k = .ret o := by
  cases o with
  | cells l =>
    simp only [Ob.frz, mapT_id l fun x hx => CV.frz_id fun hb => h (by simp only [Ob.refs, List.mem_flatMap]; exact ⟨x, hx, hb⟩), T.bind]
  | arr => rfl
  | map => rfl
  | dead => rfl

/-- a block that is not frozen, and leads to none that is, stays -/
theorem frzSt_get {b : Nat} {s s' : St} (h : (frzSt b s).res = some s') {c : Nat} (hc : c ≠ b) (hr : b ∉ (s.H.get c).refs) : s'.H.get c = s.H.get c := by
  have key : ∀ (k : FrzF) (H : Heap), (frzH b k s.H).res = some H → H.get c = s.H.get c := fun k H h3 => by
    rcases frzH_some s.H H h3 c with ⟨e, _⟩ | ⟨_, h4, h5⟩ | ⟨_, h4⟩
    · exact absurd e hc
    · rw [h4, h5]
    · rw [Ob.frz_id hr] at h4
      exact (T.ret_some h4).symm
  unfold frzSt at h
  split at h
  · obtain ⟨sl, h1, h2⟩ := T.bind_some h
    obtain ⟨H, h3, h4⟩ := T.bind_some h2
    have := T.ret_some h4
    subst this
    exact key _ H h3
  · split at h
    · obtain ⟨sl, h1, h2⟩ := T.bind_some h
      obtain ⟨H, h3, h4⟩ := T.bind_some h2
      have := T.ret_some h4
      subst this
      exact key _ H h3
    · have := T.ret_some h
      subst this; rfl
  · have := T.ret_some h
    subst this; rfl

theorem frzL_get : ∀ (l : List Nat) (s s' : St), (frzL l s).res = some s' → ∀ c, c ∉ l → (∀ b ∈ l, b ∉ (s.H.get c).refs) → s'.H.get c = s.H.get c
  | [], s, s', h, c, _, _ => by
    have := T.ret_some h
    subst this; rfl
  | b :: r, s, s', h, c, h1, h2 => by
    obtain ⟨s1, h3, h4⟩ := T.bind_some h
    simp only [List.mem_cons, not_or] at h1
    have e := frzSt_get h3 h1.1 (h2 b (List.mem_cons_self ..))
    have := frzL_get r s1 s' h4 c h1.2 fun x hx => by rw [e]; exact h2 x (List.mem_cons_of_mem _ hx)
    rw [this, e]

/-- the slots of arguments, back -/
def argsBack (sl : Slots) : Nat → Nat → Option (List AV)
  | 0, _ => some []
  | n + 1, i => match sl.get i, argsBack sl n (i + 1) with
    | .v a, some l => some (a :: l)
    | _, _ => none

theorem argsBack_ok {f : Fn} {nx : Nat} {z : Z} {sl : Slots} {a : Array Value} (ht : TR f nx z sl a) : ∀ (n i : Nat) (l : List AV) (vs : List Value), argsBack sl n i = some l → vs.length = n → (∀ j, j < n → a.getD (i + j) undef = vs.getD j undef) → RAs f nx z l vs
  | 0, i, l, vs, h, hl, _ => by
    simp only [argsBack, Option.some.injEq] at h
    subst h
    cases vs with
    | nil => exact RAs.nil
    | cons => cases hl
  | n + 1, i, l, vs, h, hl, hv => by
    simp only [argsBack] at h
    split at h
    · rename_i x l' h1 h2
      simp only [Option.some.injEq] at h
      subst h
      cases vs with
      | nil => cases hl
      | cons v vs =>
        refine RAs.cons ?_ (argsBack_ok ht n (i + 1) l' vs h2 (by simpa using hl) fun j hj => ?_)
        · have := ht i
          rw [h1] at this
          have e := hv 0 (Nat.zero_lt_succ n)
          simp only [Nat.add_zero, List.getD_cons_zero] at e
          rw [e] at this
          exact this
        · have e := hv (j + 1) (by omega)
          rw [show i + (j + 1) = i + 1 + j by omega] at e
          simpa using e
    · cases h

theorem get_none : ∀ (H : Heap) (b : Nat), b ∉ H.map (·.1) → H.get b = .dead
  | [], _, _ => rfl
  | (k, o) :: r, b, h => by
    simp only [List.map_cons, List.mem_cons, not_or] at h
    rw [Heap.get_cons, if_neg (Ne.symm h.1)]
    exact get_none r b h.2

/-- slices that are handed over are never written any more -/
def frzSum (F : SumF) : SumF := fun args H nx =>
  let bs := args.flatMap AV.tops
  let chg (w : List Nat) (b : Nat) : Bool := Nat.ble nx b || w.any (Nat.beq b) || bs.any (Nat.beq b) || (H.get b).refs.any fun c => bs.any (Nat.beq c)
  (frzL bs ⟨argSlots 0 args, H, nx, false, 0, []⟩).bind fun s => match argsBack s.sl args.length 0 with
    | none => .bad
    | some args' => (F args' s.H nx).bind fun o =>
      .ret { o with H := (o.H.filter fun e => chg o.wr e.1) ++ (H.filter fun e => !(chg o.wr e.1)), wr := ((H.map (·.1)).filter (chg o.wr)) ++ o.wr ++ bs }

theorem any_neg {l : List Nat} {b : Nat} (h : l.any (Nat.beq b) = false) : b ∉ l := fun hm => by rw [(anyBeq l b).2 hm] at h; cases h

theorem frzSum_ok {P : Program} {g : Nat} {F : SumF} (hF : SumOk P g F) : SumOk P g (frzSum F) := by
  refine ⟨fun args H nx r hr => ?_, fun args H nx => ?_⟩
  · unfold frzSum at hr
    dsimp only at hr
    generalize hbs : args.flatMap AV.tops = bs at hr
    obtain ⟨s, h1, hr⟩ := T.bind_some hr
    split at hr
    · exact (T.bad_some hr).elim
    rename_i args' hargs'
    obtain ⟨o, h2, hr⟩ := T.bind_some hr
    have := T.ret_some hr
    subst this
    obtain ⟨hle, hnx, hesc⟩ := frzL_ok (m := nx) bs _ s (Nat.le_refl _) h1
    simp only at hnx hesc
    have hkeep := (hF.keeps args' s.H nx).res h2
    intro f z w vs hrel hra R hR
    obtain ⟨f1, z1, ht1, hp1⟩ := hle.to f z w _ (argSlots_TR hra 0) hrel
    have hr1 := hp1.all
    simp only [hnx] at ht1 hp1 hr1
    have hlen : vs.toList.length = args.length := hra.1.symm
    have hra1 : RAs f1 nx z1 args' vs.toList := argsBack_ok ht1 args.length 0 args' vs.toList hargs' hlen fun j hj => by
      simp
    refine hF.to args' s.H nx o h2 f1 z1 w vs hr1 hra1 R fun f2 z2 w2 v2 hp2 hv2 => hR f2 z2 w2 v2 ?_ hv2
    have hp := Post.trans' hp1 hp2 (Nat.le_refl _)
    have hesc' : s.esc = false := hesc
    rw [hesc', Bool.false_or] at hp
    refine hp.congr fun b => ?_
    dsimp only
    generalize hchg : (fun b : Nat => Nat.ble nx b || o.wr.any (Nat.beq b) || bs.any (Nat.beq b) || (H.get b).refs.any fun c => bs.any (Nat.beq c)) = chg
    have e1 : (o.H.filter fun e => Nat.ble nx e.1 || o.wr.any (Nat.beq e.1) || bs.any (Nat.beq e.1) || (H.get e.1).refs.any fun c => bs.any (Nat.beq c)) = o.H.filter fun e => chg e.1 := by rw [← hchg]
    have e2 : (H.filter fun e => !(Nat.ble nx e.1 || o.wr.any (Nat.beq e.1) || bs.any (Nat.beq e.1) || (H.get e.1).refs.any fun c => bs.any (Nat.beq c))) = H.filter fun e => !(chg e.1) := by rw [← hchg]
    rw [e1, e2]
    cases hc : chg b with
    | true =>
      rcases get_append (o.H.filter fun e => chg e.1) (H.filter fun e => !(chg e.1)) b with e | ⟨e, e'⟩
      · rw [e, get_filter chg, if_pos hc]
      · have h3 : Heap.get (H.filter fun e => !(chg e.1)) b = .dead := by rw [get_filter (fun b => !(chg b)), if_neg (by simp [hc])]
        rw [get_filter chg, if_pos hc] at e
        rw [e', h3, e]
    | false =>
      rw [get_append_out _ _ _ fun e he hb => by
        rw [List.mem_filter] at he
        rw [hb, hc] at he
        cases he.2]
      rw [get_filter (fun b => !(chg b)), if_pos (by simp [hc])]
      rw [← hchg] at hc
      simp only [Bool.or_eq_false_iff, List.any_eq_false] at hc
      obtain ⟨⟨⟨c1, c2⟩, c3⟩, c4⟩ := hc
      have hb : b < nx := by
        rcases Nat.lt_or_ge b nx with h | h
        · exact h
        · rw [Nat.ble_eq_true_of_le h] at c1; cases c1
      rw [hkeep.2 b hb (any_neg (by rw [List.any_eq_false]; exact c2)), frzL_get bs _ s h1 b (any_neg (by rw [List.any_eq_false]; exact c3)) fun x hx hxr => c4 x hxr ((anyBeq bs x).2 hx)]
  · unfold frzSum
    dsimp only
    generalize hbs : args.flatMap AV.tops = bs
    refine T.Every.bind (fun s => ?_) _
    split
    · trivial
    · rename_i args' _
      refine T.Every.bind2 (q := fun o => nx ≤ o.nx ∧ ∀ b, b < nx → b ∉ o.wr → o.H.get b = s.H.get b) (fun o ho => ?_) (hF.keeps args' s.H nx)
      refine ⟨ho.1, fun b hb hw => ?_⟩
      dsimp only at hw ⊢
      generalize hchg : (fun b : Nat => Nat.ble nx b || o.wr.any (Nat.beq b) || bs.any (Nat.beq b) || (H.get b).refs.any fun c => bs.any (Nat.beq c)) = chg at hw ⊢
      have e1 : (o.H.filter fun e => Nat.ble nx e.1 || o.wr.any (Nat.beq e.1) || bs.any (Nat.beq e.1) || (H.get e.1).refs.any fun c => bs.any (Nat.beq c)) = o.H.filter fun e => chg e.1 := by rw [← hchg]
      have e2 : (H.filter fun e => !(Nat.ble nx e.1 || o.wr.any (Nat.beq e.1) || bs.any (Nat.beq e.1) || (H.get e.1).refs.any fun c => bs.any (Nat.beq c))) = H.filter fun e => !(chg e.1) := by rw [← hchg]
      rw [e1, e2]
      simp only [List.mem_append, not_or] at hw
      obtain ⟨⟨w1, w2⟩, w3⟩ := hw
      cases hc : chg b with
      | false =>
        rw [get_append_out _ _ _ fun e he hb => by
          rw [List.mem_filter] at he
          rw [hb, hc] at he
          cases he.2]
        rw [get_filter (fun b => !(chg b)), if_pos (by simp [hc])]
      | true =>
        -- it leads to one that is frozen: then it is not there
        have hn : b ∉ H.map (·.1) := fun hm => w1 (List.mem_filter.2 ⟨hm, hc⟩)
        rw [← hchg] at hc
        have hd : H.get b = .dead := get_none H b hn
        simp only [hd] at hc
        have c1 : Nat.ble nx b = false := ble_false (by omega)
        have c2 : o.wr.any (Nat.beq b) = false := by
          cases h : o.wr.any (Nat.beq b) with
          | false => rfl
          | true => exact absurd ((anyBeq _ _).1 h) w2
        have c3 : bs.any (Nat.beq b) = false := by
          cases h : bs.any (Nat.beq b) with
          | false => rfl
          | true => exact absurd ((anyBeq _ _).1 h) w3
        rw [c1, c2, c3] at hc
        cases hc

/-- nothing, told as a row that is not there -/
theorem StLe.row {m : Nat} {s : St} (hm : m ≤ s.nx) {sl : Slots} {H : Heap} {base : Nat} {wr : List Nat}
    (ht : ∀ t, sl.get t = s.sl.get t ∨ sl.get t = .top ∨ (s.sl.get t = .v (.one (.f (.lit (.slice none 0 0)))) ∧ ∃ mm ex sz, sl.get t = .v (.one (.sl true s.nx mm 0 0 0 0 ex sz))))
    (hH : ∀ b, b ≠ s.nx → H.get b = s.H.get b) (hd : ¬ (H.get s.nx).live) : StLe m s ⟨sl, H, s.nx + 1, s.esc, base, wr⟩ := by
  refine ⟨id, fun f z w a htr hr => ⟨f, z, fun t => ?_, ?_⟩⟩
  · have h0 : RS f (s.nx + 1) z (s.sl.get t) (a.getD t undef) := RS.mono (fun b hb => rfl) (Nat.le_succ _) (fun _ _ _ h => h) (htr t)
    rcases ht t with e | e | ⟨e, mm, ex, sz, e'⟩
    · simp only [e]; exact h0
    · simp only [e]; trivial
    · simp only [e']
      rw [e] at h0
      have hv : a.getD t undef = .slice none 0 0 := lit_ok h0
      exact ⟨Nat.lt_succ_self _, fun _ => ⟨rfl, rfl, hv⟩, fun h => by cases h⟩
  · have hne : ∀ b, (H.get b).live → b ≠ s.nx := fun b hl e => hd (e ▸ hl)
    refine ⟨Nat.le_succ_of_le hm, fun b hb => rfl, fun _ _ _ h => h, fun _ _ _ h => .inl h, fun _ _ hs => absurd trivial hs, fun b _ hl => by rw [hH b (hne b hl)] at hl; exact hl,
      ⟨fun b _ hl => ?_, fun b c _ _ hl hl' hbc => ?_, hr.zok⟩, fun b hb hl => ?_, Fr.refl _ _, fun _ m' hm' hN b l hb hg x hx => ?_⟩
    · have e := hH b (hne b hl)
      simp only at hl ⊢
      rw [e] at hl ⊢
      obtain ⟨h1, h2⟩ := hr.own b trivial hl
      exact ⟨Nat.lt_succ_of_lt h1, ⟨h2.lt, h2.own, h2.room, fun m i j x hx => by
        obtain ⟨h3, v, h4, h5⟩ := h2.cell m i j x hx
        exact ⟨h3, v, h4, RC.mono (fun b hb => rfl) (Nat.le_succ _) (fun _ _ _ h => h) h5⟩, h2.map⟩⟩
    · rw [hH b (hne b hl)] at hl
      rw [hH c (hne c hl')] at hl'
      exact hr.inj b c trivial trivial hl hl' hbc
    · rw [hH b (hne b hl)] at hl
      exact .inr ⟨b, trivial, hl, rfl⟩
    · simp only at hg
      have hl : (H.get b).live := by rw [hg]; trivial
      rw [hH b (hne b hl)] at hg
      exact hN b l hb hg x hx

/-- n rounds from i on -/
def foldX {A R : Type} (f : Nat → A → A ⊕ R) (fin : A → R) : Nat → Nat → A → R
  | 0, _, a => fin a
  | k + 1, i, a => match f i a with
    | .inl a' => foldX f fin k (i + 1) a'
    | .inr r => r

/-- a loop that counts: what each round makes of a value, or how it ends the loop -/
theorem for_loop {P : Program} {G : Ctx} (hG : CtxOk P G) (hK : KnownOk P G) {K F N : Nat} {c : Code} {m : Nat} {live after : List Nat} {A : Type} (S : Nat → A → St) (n : Nat) (f : Nat → A → A ⊕ (Ex × St)) (fin : A → Ex × St) (Inv : Nat → A → Prop)
    (hround : ∀ i a, i < n → Inv i a → ∃ e s, (evRound G K F N c m live after (S i a)).res = some (e, s) ∧ match f i a with
      | .inl a' => e = .normal ∧ StLe m s (S (i + 1) a') ∧ Inv (i + 1) a'
      | .inr r => e ≠ .normal ∧ e = r.1 ∧ StLe m s r.2)
    (hend : ∀ a, Inv n a → ∃ e s, (evRound G K F N c m live after (S n a)).res = some (e, s) ∧ e ≠ .normal ∧ e = (fin a).1 ∧ StLe m s (fin a).2)
    (hm : ∀ i a, m ≤ (S i a).nx) {i : Nat} {a : A} (hi : i ≤ n) (hI : Inv i a) {st0 : St} (h0 : StLe m st0 (S i a)) (hnx : st0.nx = m) : CodeOk P N (.loop c) st0 (foldX f fin (n - i) i a).1 (foldX f fin (n - i) i a).2 := by
  refine loop_to (K := K) (F := F) (live := live) (after := after) hG hK (α := Nat × A) (fun p => S p.1 p.2) (fun p => n - p.1) (fun p => p.1 ≤ n ∧ Inv p.1 p.2 ∧ foldX f fin (n - p.1) p.1 p.2 = foldX f fin (n - i) i a) _ _ ?_ (fun p => hm p.1 p.2) (p := (i, a)) ⟨hi, hI, rfl⟩ h0 hnx
  rintro ⟨j, b⟩ ⟨h1, h2, h3⟩
  simp only at h1 h2 h3 ⊢
  rcases Nat.lt_or_ge j n with hlt | hge
  · obtain ⟨e, s, h4, h5⟩ := hround j b hlt h2
    refine ⟨e, s, h4, ?_⟩
    have hs : n - j = (n - (j + 1)) + 1 := by omega
    rw [hs] at h3
    simp only [foldX] at h3
    cases hf : f j b with
    | inl b' =>
      rw [hf] at h5 h3
      obtain ⟨h6, h7, h8⟩ := h5
      exact .inl ⟨h6, (j + 1, b'), h7, ⟨hlt, h8, h3⟩, by simp only; omega⟩
    | inr r =>
      rw [hf] at h5 h3
      obtain ⟨h6, h7, h8⟩ := h5
      simp only at h3
      exact .inr ⟨h6, r.2, h8, by rw [h7, h3], by rw [h3]⟩
  · obtain rfl : j = n := by omega
    obtain ⟨e, s, h4, h5, h6, h7⟩ := hend b h2
    rw [Nat.sub_self] at h3
    simp only [foldX] at h3
    exact ⟨e, s, h4, .inr ⟨h5, _, h7, by rw [h6, h3], by rw [h3]⟩⟩

/-- a loop that counts, rows frozen: what each round makes of a value, or how it ends the loop -/
theorem for_loopZ {P : Program} {G : Ctx} (hG : CtxOk P G) (hK : KnownOk P G) {K F N : Nat} {c : Code} {m : Nat} {live after : List Nat} {A : Type} (S : Nat → A → St) (n : Nat) (f : Nat → A → A ⊕ (Ex × St)) (fin : A → Ex × St) (Inv : Nat → A → Prop)
    (hround : ∀ i a, i < n → Inv i a → ∃ e s, (evRoundZ G K F N c m live after (S i a)).res = some (e, s) ∧ match f i a with
      | .inl a' => e = .normal ∧ StLe m s (S (i + 1) a') ∧ Inv (i + 1) a'
      | .inr r => e ≠ .normal ∧ e = r.1 ∧ StLe m s r.2)
    (hend : ∀ a, Inv n a → ∃ e s, (evRoundZ G K F N c m live after (S n a)).res = some (e, s) ∧ e ≠ .normal ∧ e = (fin a).1 ∧ StLe m s (fin a).2)
    (hm : ∀ i a, m ≤ (S i a).nx) {i : Nat} {a : A} (hi : i ≤ n) (hI : Inv i a) {st0 : St} (h0 : StLe m st0 (S i a)) (hnx : st0.nx = m) : CodeOk P N (.loop c) st0 (foldX f fin (n - i) i a).1 (foldX f fin (n - i) i a).2 := by
  refine loop_toZ (K := K) (F := F) (live := live) (after := after) hG hK (α := Nat × A) (fun p => S p.1 p.2) (fun p => n - p.1) (fun p => p.1 ≤ n ∧ Inv p.1 p.2 ∧ foldX f fin (n - p.1) p.1 p.2 = foldX f fin (n - i) i a) _ _ ?_ (fun p => hm p.1 p.2) (p := (i, a)) ⟨hi, hI, rfl⟩ h0 hnx
  rintro ⟨j, b⟩ ⟨h1, h2, h3⟩
  simp only at h1 h2 h3 ⊢
  rcases Nat.lt_or_ge j n with hlt | hge
  · obtain ⟨e, s, h4, h5⟩ := hround j b hlt h2
    refine ⟨e, s, h4, ?_⟩
    have hs : n - j = (n - (j + 1)) + 1 := by omega
    rw [hs] at h3
    simp only [foldX] at h3
    cases hf : f j b with
    | inl b' =>
      rw [hf] at h5 h3
      obtain ⟨h6, h7, h8⟩ := h5
      exact .inl ⟨h6, (j + 1, b'), h7, ⟨hlt, h8, h3⟩, by simp only; omega⟩
    | inr r =>
      rw [hf] at h5 h3
      obtain ⟨h6, h7, h8⟩ := h5
      simp only at h3
      exact .inr ⟨h6, r.2, h8, by rw [h7, h3], by rw [h3]⟩
  · obtain rfl : j = n := by omega
    obtain ⟨e, s, h4, h5, h6, h7⟩ := hend b h2
    rw [Nat.sub_self] at h3
    simp only [foldX] at h3
    exact ⟨e, s, h4, .inr ⟨h5, _, h7, by rw [h6, h3], by rw [h3]⟩⟩

/-- n rounds from i on, none of which ends the loop -/
def foldF {A : Type} (f : Nat → A → A) : Nat → Nat → A → A
  | 0, _, a => a
  | k + 1, i, a => foldF f k (i + 1) (f i a)

theorem foldX_inl {A R : Type} (f : Nat → A → A) (fin : A → R) : ∀ k i a, foldX (fun i a => .inl (f i a)) fin k i a = fin (foldF f k i a)
  | 0, _, _ => rfl
  | k + 1, i, a => foldX_inl f fin k (i + 1) (f i a)

theorem foldF_succ {A : Type} (f : Nat → A → A) : ∀ k i a, foldF f (k + 1) i a = f (i + k) (foldF f k i a)
  | 0, _, _ => rfl
  | k + 1, i, a => by
    have := foldF_succ f k (i + 1) (f i a)
    rw [show i + 1 + k = i + (k + 1) by omega] at this
    exact this

theorem smallB_le {need b : Nat} (h1 : 512 * b ≤ 281474976710656) (h2 : need ≤ (281474976710656 / b - 512) / 2) : smallB need b = true := by
  simp only [smallB, Nat.ble_eq_true_of_le h1, Nat.ble_eq_true_of_le h2, Bool.and_self]
theorem ble_tt {a b : Nat} (h : a ≤ b) : Nat.ble a b = true := Nat.ble_eq_true_of_le h
theorem beq_or (b : Bool) : (b || !b) = true := by cases b <;> rfl
theorem pb_tt : pb True = true := pb_true trivial

/-- nothing, told as a row without elements -/
def AV.rowed (sz : Nat) (e0 : Nat → List FV) (a : AV) : AV := match a with
  | .one (.f (.lit (.slice none 0 0))) => .one (.f (.fs true sz 0 e0))
  | .one (.f (.z0 nil)) => .one (.f (.fs nil sz 0 e0))
  | a => a

theorem AV.rowed_le (sz : Nat) (e0 : Nat → List FV) (a : AV) : a.le (a.rowed sz e0) := by
  unfold AV.rowed
  split
  · exact .f FV.le_nil
  · rename_i nil
    refine .f fun z v h => ?_
    cases h with
    | z0n => exact .fsn _ _
    | z0s ad => exact .fs0 _ _ _ _
  · exact AV.le.refl a

theorem AV.rowed_refs (sz : Nat) (e0 : Nat → List FV) (a : AV) : (a.rowed sz e0).refs = a.refs := by
  unfold AV.rowed
  split <;> rfl

theorem RAs.map {f : Fn} {nx : Nat} {z : Z} {g : AV → AV} (hg : ∀ a : AV, a.le (g a)) : ∀ {l : List AV} {vs : List Value}, RAs f nx z l vs → RAs f nx z (l.map g) vs := by
  intro l vs h
  refine ⟨by rw [List.length_map]; exact h.1, fun i x v hx hv => ?_⟩
  rw [List.getElem?_map] at hx
  obtain ⟨y, hy, rfl⟩ := Option.map_eq_some_iff.1 hx
  exact (hg y).ra (h.2 i y v hy hv)

def nilSum (sz : Nat) (e0 : Nat → List FV) (F : SumF) : SumF := fun args H nx => F (args.map (AV.rowed sz e0)) H nx

theorem nilSum_ok {P : Program} {g : Nat} {sz : Nat} {e0 : Nat → List FV} {F : SumF} (hF : SumOk P g F) : SumOk P g (nilSum sz e0 F) :=
  ⟨fun args H nx r hr f z w vs hrel hra R hR => hF.to _ H nx r hr f z w vs hrel (RAs.map (AV.rowed_le sz e0) hra) R hR, fun args H nx => hF.keeps _ H nx⟩

/-- less is said of arguments -/
def LeAs (l l' : List AV) : Prop := ∀ (f : Fn) (nx : Nat) (z : Z) (vs : List Value), RAs f nx z l vs → RAs f nx z l' vs
theorem LeAs.refl (l : List AV) : LeAs l l := fun _ _ _ _ h => h
theorem LeAs.cons {a b : AV} {l l' : List AV} (h : a.le b) (t : LeAs l l') : LeAs (a :: l) (b :: l') := fun f nx z vs hr => by
  cases vs with
  | nil => exact absurd hr.1 (by simp)
  | cons v vs =>
    refine RAs.cons (h.ra (hr.2 0 a v rfl rfl)) (t f nx z vs ⟨by simpa using hr.1, fun i x u hx hu => hr.2 (i + 1) x u (by simpa using hx) (by simpa using hu)⟩)
theorem CallTo.args {P : Program} {g : Nat} {args args' : List AV} {H : Heap} {nx : Nat} {r : CallOut} (h : CallTo P g args' H nx r) (hl : LeAs args args') : CallTo P g args H nx r :=
  fun f z w vs hr ha R hR => h f z w vs hr (hl f nx z vs.toList ha) R hR

theorem ite_tt {α : Type} {b : Bool} {x y r : α} (h : b = true) (k : x = r) : (if b = true then x else y) = r := by rw [if_pos h]; exact k
theorem ite_ff {α : Type} {b : Bool} {x y r : α} (h : b = false) (k : y = r) : (if b = true then x else y) = r := by rw [if_neg (by rw [h]; simp)]; exact k
theorem foldF_or {p : Nat → Bool} : ∀ (k i : Nat) (a : Bool), (a = true ∨ ∃ j, i ≤ j ∧ j < i + k ∧ p j = true) → foldF (fun i a => a || p i) k i a = true
  | 0, i, a, h => by
    rcases h with h | ⟨j, h1, h2, _⟩
    · exact h
    · omega
  | k + 1, i, a, h => by
    refine foldF_or k (i + 1) (a || p i) ?_
    rcases h with h | ⟨j, h1, h2, h3⟩
    · exact .inl (by rw [h, Bool.true_or])
    · rcases Nat.lt_or_ge i j with hl | hl
      · exact .inr ⟨j, hl, by omega, h3⟩
      · obtain rfl : j = i := by omega
        exact .inl (by rw [h3, Bool.or_true])
theorem foldF_add {A : Type} (f : Nat → A → A) : ∀ (k l i : Nat) (a : A), foldF f (k + l) i a = foldF f l (i + k) (foldF f k i a)
  | 0, l, i, a => by rw [Nat.zero_add]; rfl
  | k + 1, l, i, a => by
    rw [show k + 1 + l = (k + l) + 1 by omega]
    show foldF f (k + l) (i + 1) (f i a) = _
    rw [foldF_add f k l (i + 1) (f i a), show i + 1 + k = i + (k + 1) by omega]
    rfl
theorem foldF_congr {A : Type} {f g : Nat → A → A} {d : Nat} : ∀ (k i : Nat) (a : A), (∀ j a, i ≤ j → j < i + k → f (j + d) a = g j a) → foldF f k (i + d) a = foldF g k i a
  | 0, _, _, _ => rfl
  | k + 1, i, a, h => by
    show foldF f k (i + d + 1) (f (i + d) a) = foldF g k (i + 1) (g i a)
    rw [h i a (Nat.le_refl _) (by omega), show i + d + 1 = i + 1 + d by omega]
    exact foldF_congr k (i + 1) _ fun j a h1 h2 => h j a (by omega) (by omega)

theorem beq_ff {a b : Nat} (h : a ≠ b) : Nat.beq a b = false := by
  cases e : Nat.beq a b with
  | false => rfl
  | true => exact absurd (Nat.eq_of_beq_eq_true e) h
theorem FV.le.trans {a b c : FV} (h : a.le b) (k : b.le c) : a.le c := fun z v hv => k z v (h z v hv)
theorem CV.le.trans {x y w : CV} (h : x.le y) (k : y.le w) : x.le w := by
  rcases h with rfl | ⟨a, b, rfl, rfl, h⟩
  · exact k
  · rcases k with rfl | ⟨b', c, e3, rfl, k⟩
    · exact .inr ⟨a, b, rfl, rfl, h⟩
    · cases e3
      exact .inr ⟨a, c, rfl, rfl, h.trans k⟩
theorem leL.trans : ∀ {l r q : List CV}, leL l r → leL r q → leL l q
  | [], [], _, _, k => k
  | x :: l, y :: r, w :: q, h, k => ⟨h.1.trans k.1, leL.trans h.2 k.2⟩
  | _ :: _, _ :: _, [], _, k => k.elim
  | [], _ :: _, _, h, _ => h.elim
  | _ :: _, [], _, h, _ => h.elim
theorem Ob.le.trans {a b c : Ob} (h : a.le b) (k : b.le c) : a.le c := by
  rcases h with rfl | h
  · exact k
  rcases k with rfl | k
  · exact .inr h
  rcases h with ⟨l, r, rfl, rfl, h⟩ | ⟨live, sz, n, e, e', rfl, rfl, h⟩
  · rcases k with ⟨l', r', e1, rfl, k⟩ | ⟨_, _, _, _, _, e1, _⟩
    · cases e1
      exact .cells (h.trans k)
    · cases e1
  · rcases k with ⟨_, _, e1, _⟩ | ⟨live', sz', n', e1, e2, h1, rfl, k⟩
    · cases e1
    · cases h1
      exact .arr fun i hi => (h i hi).trans (k i hi)

def mv (b n : Nat) (c : Nat) : Nat := if c = b then n else c

/-- a block under another name -/
theorem StLe.move {m : Nat} {s : St} (hm : m ≤ s.nx) (b : Nat) (hb : b < s.nx) {sl : Slots} {H : Heap} {base : Nat} {wr : List Nat}
    (ht : ∀ t, sl.get t = (s.sl.get t).ren (mv b s.nx) ∨ sl.get t = .top)
    (hH : ∀ c, c ≠ s.nx → c ≠ b → H.get c = s.H.get c) (hb0 : ¬ (H.get b).live) (hn : H.get s.nx = s.H.get b) (hnr : ∀ c, b ∉ (s.H.get c).refs) : StLe m s ⟨sl, H, s.nx + 1, s.esc, base, wr⟩ := by
  refine ⟨id, fun f z w a htr hr => ⟨fun c => if c = s.nx then f b else f c, z, fun t => ?_, ?_⟩⟩
  · have led : ∀ c, c < s.nx → Led f (fun c => if c = s.nx then f b else f c) (s.nx + 1) (mv b s.nx) c := fun c hc => by
      unfold Led mv
      by_cases e : c = b
      · subst e; simp
      · simp only [e, if_false]
        exact ⟨if_neg (by omega), by omega⟩
    rcases ht t with e | e
    · simp only [e]
      exact RS.ren (htr t) fun c hc => led c (RS.refs_lt (htr t) c hc)
    · simp only [e]; trivial
  · have hcase : ∀ c, (H.get c).live → (c = s.nx ∧ H.get c = s.H.get b) ∨ (c ≠ s.nx ∧ c ≠ b ∧ H.get c = s.H.get c) := fun c hl => by
      by_cases e : c = s.nx
      · subst e; exact .inl ⟨rfl, hn⟩
      · by_cases e' : c = b
        · subst e'; exact absurd hl hb0
        · exact .inr ⟨e, e', hH c e e'⟩
    have bok : ∀ c c', BOk f s.nx z w c (s.H.get c) → (fun c => if c = s.nx then f b else f c) c' = f c → BOk (fun c => if c = s.nx then f b else f c) (s.nx + 1) z w c' (s.H.get c) := fun c c' h e => by
      have := BOk.ren (f' := fun c => if c = s.nx then f b else f c) (nx' := s.nx + 1) (b' := c') (ρ := id) h e fun d hd => by
        have hd' := h.refs_lt d hd
        exact ⟨by simp only [id]; exact if_neg (by omega), by simp only [id]; omega⟩
      have e2 : (s.H.get c).ren id = s.H.get c := by
        cases s.H.get c with
        | cells l =>
          simp only [Ob.ren, Ob.cells.injEq]
          have : ∀ x ∈ l, CV.ren id x = x := fun x _ => by
            cases x with
            | fn g l => simp [CV.ren]
            | _ => rfl
          exact (List.map_congr_left this).trans (List.map_id l)
        | _ => rfl
      rwa [e2] at this
    refine ⟨by dsimp only; omega, fun c hc => if_neg (by omega), fun _ _ _ h => h, fun _ _ _ h => .inl h, fun _ _ hs => absurd trivial hs, fun c hc hl => ?_,
      ⟨fun c _ hl => ?_, fun c d _ _ hl hl' hcd => ?_, hr.zok⟩, fun c hc hl => ?_, Fr.refl _ _, fun _ m' hm' hN c l hc hg x hx => ?_⟩
    · rcases hcase c hl with ⟨e, _⟩ | ⟨_, _, e⟩
      · omega
      · rw [e] at hl; exact hl
    · simp only at hl ⊢
      rcases hcase c hl with ⟨e, e'⟩ | ⟨e1, _, e'⟩
      · rw [e'] at hl ⊢
        subst e
        exact ⟨Nat.lt_succ_self _, bok b _ (hr.own b trivial hl).2 (by simp)⟩
      · rw [e'] at hl ⊢
        obtain ⟨h1, h2⟩ := hr.own c trivial hl
        exact ⟨Nat.lt_succ_of_lt h1, bok c c h2 (if_neg e1)⟩
    · simp only at hl hl'
      rcases hcase c hl with ⟨e, e'⟩ | ⟨e1, e2, e'⟩ <;> rcases hcase d hl' with ⟨k, k'⟩ | ⟨k1, k2, k'⟩
      · omega
      · rw [e'] at hl
        rw [k'] at hl'
        simp only [e, if_true, if_neg k1]
        exact hr.inj b d trivial trivial hl hl' (Ne.symm k2)
      · rw [e'] at hl
        rw [k'] at hl'
        simp only [k, if_true, if_neg e1]
        exact hr.inj c b trivial trivial hl hl' e2
      · rw [e'] at hl
        rw [k'] at hl'
        simp only [if_neg e1, if_neg k1]
        exact hr.inj c d trivial trivial hl hl' hcd
    · simp only at hl
      rcases hcase c hl with ⟨e, e'⟩ | ⟨e1, e2, e'⟩
      · rw [e'] at hl
        exact .inr ⟨b, trivial, hl, by simp [e]⟩
      · rw [e'] at hl
        exact .inr ⟨c, trivial, hl, by simp [e1]⟩
    · simp only at hg
      have hl : (H.get c).live := by rw [hg]; trivial
      rcases hcase c hl with ⟨e, _⟩ | ⟨_, _, e'⟩
      · omega
      · rw [e'] at hg
        exact hN c l hc hg x hx

def allF {R : Type} (p : Nat → Bool) (r0 : R) : Nat → Unit → Unit ⊕ R := fun i _ => match p i with | true => .inl () | false => .inr r0
theorem foldX_yes {R : Type} {p : Nat → Bool} {r1 r0 : R} : ∀ k i, (∀ j, i ≤ j → j < i + k → p j = true) → foldX (allF p r0) (fun _ => r1) k i () = r1
  | 0, _, _ => rfl
  | k + 1, i, h => by
    have h0 := h i (Nat.le_refl _) (by omega)
    simp only [foldX, allF, h0]
    exact foldX_yes k (i + 1) fun j h1 h2 => h j (by omega) (by omega)
theorem foldX_no {R : Type} {p : Nat → Bool} {r1 r0 : R} : ∀ k i, (∃ j, i ≤ j ∧ j < i + k ∧ p j = false) → foldX (allF p r0) (fun _ => r1) k i () = r0
  | 0, _, ⟨j, h1, h2, _⟩ => by omega
  | k + 1, i, ⟨j, h1, h2, h3⟩ => by
    simp only [foldX, allF]
    cases h0 : p i with
    | false => rfl
    | true =>
      refine foldX_no k (i + 1) ⟨j, ?_, by omega, h3⟩
      rcases Nat.lt_or_ge i j with h | h
      · exact h
      · obtain rfl : j = i := by omega
        rw [h0] at h3; cases h3
theorem pb_false {p : Prop} (h : ¬ p) : pb p = false := by
  cases e : pb p with
  | false => rfl
  | true => exact absurd (pb_of e) h
/-- elements of which less is said -/
theorem FV.le_fsE {nil : Bool} {sz n : Nat} {e e' : Nat → List FV} (h : ∀ i, i < n → ∀ (j : Nat) x', (e' i)[j]? = some x' → ∃ x, (e i)[j]? = some x ∧ x.le x') : FV.le (.fs nil sz n e) (.fs nil sz n e') := by
  intro z v hv
  cases hv with
  | fsn => exact .fsn _ _
  | fs0 => exact .fs0 _ _ _ _
  | fss _ _ _ k o cap g hc h1 h2 h3 =>
    refine .fss sz n e' k o cap g hc h1 (fun i j x' hi hj hx => ?_) h3
    obtain ⟨x, h4, h5⟩ := h i hi j x' hx
    exact h5 _ _ (h2 i j x hi hj h4)

end Go.Proofs.YtbobakclbdaepaaGreat.En
