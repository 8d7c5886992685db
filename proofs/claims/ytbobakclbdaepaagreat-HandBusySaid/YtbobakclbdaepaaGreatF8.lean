/- The engine, part 31: less is said of a cell; loops by rounds with frozen rows. -/
import Derived.Test.YtbobakclbdaepaaGreatF7
namespace Go.Proofs.YtbobakclbdaepaaGreat.En
open Go
set_option linter.unusedVariables false
set_option linter.unusedSimpArgs false

/-- a loop that is known by its rounds, rows frozen after each -/
theorem loop_toZ {P : Program} {G : Ctx} (hG : CtxOk P G) (hK : KnownOk P G) {K F N : Nat} {c : Code} {m : Nat} {live after : List Nat} {α : Type} (S : α → St) (μ : α → Nat) (Inv : α → Prop) (e : Ex) (s : St)
    (h : ∀ p, Inv p → ∃ e' s', (evRoundZ G K F N c m live after (S p)).res = some (e', s') ∧ ((e' = .normal ∧ ∃ p', StLe m s' (S p') ∧ Inv p' ∧ μ p' < μ p) ∨ (e' ≠ .normal ∧ ∃ s'', StLe m s' s'' ∧ e' = e ∧ s'' = s)))
    (hm : ∀ p, m ≤ (S p).nx) {p : α} (hI : Inv p) {st0 : St} (h0 : StLe m st0 (S p)) (hnx : st0.nx = m) : CodeOk P N (.loop c) st0 e s := by
  have key : ∀ k p, μ p ≤ k → Inv p → Chain S μ m (ev G noLive K F N c) p e s := by
    intro k
    induction k with
    | zero =>
      intro p hk hI
      obtain ⟨e', s', h1, h2⟩ := h p hI
      obtain ⟨st1, h3, h4⟩ := evRoundZ_some h1
      rcases h2 with ⟨rfl, p', h5, h6, h7⟩ | ⟨hne, s', h5, rfl, rfl⟩
      · omega
      · exact .stop h3 hne (h4.trans h5)
    | succ k ih =>
      intro p hk hI
      obtain ⟨e', s', h1, h2⟩ := h p hI
      obtain ⟨st1, h3, h4⟩ := evRoundZ_some h1
      rcases h2 with ⟨rfl, p', h5, h6, h7⟩ | ⟨hne, s', h5, rfl, rfl⟩
      · exact .step h3 (h4.trans h5) h7 (ih p' (by omega) h6)
      · exact .stop h3 hne (h4.trans h5)
  exact (key (μ p) p (Nat.le_refl _) hI).ok (fun st e st' hr => ev_ok hG hK K F N c st e st' hr) hm h0 hnx

/-- b says less than a -/
def FV.le (a b : FV) : Prop := ∀ z v, RF z a v → RF z b v
theorem FV.le.refl (a : FV) : a.le a := fun _ _ h => h

theorem FV.le_fs {nil : Bool} {sz n : Nat} {e e' : Nat → List FV} (h : ∀ i, i < n → e i = e' i) : FV.le (.fs nil sz n e) (.fs nil sz n e') := by
  intro z v hv
  cases hv with
  | fsn => exact .fsn _ _
  | fs0 => exact .fs0 _ _ _ _
  | fss _ _ _ k o cap g hc h1 h2 h3 => exact .fss sz n e' k o cap g hc h1 (fun i j x hi hj hx => h2 i j x hi hj (by rw [h i hi]; exact hx)) h3

theorem FV.le_nil {sz : Nat} {e : Nat → List FV} : FV.le (.lit (.slice none 0 0)) (.fs true sz 0 e) := by
  intro z v hv
  cases hv
  exact .fsn _ _

theorem FV.le_z0 {sz : Nat} {e : Nat → List FV} : FV.le (.z0 true) (.fs true sz 0 e) := by
  intro z v hv
  cases hv
  exact .fsn _ _

def CV.le (x y : CV) : Prop := x = y ∨ ∃ a b, x = .f a ∧ y = .f b ∧ a.le b
theorem CV.le.refl (x : CV) : x.le x := .inl rfl
theorem CV.le.f {a b : FV} (h : a.le b) : CV.le (.f a) (.f b) := .inr ⟨a, b, rfl, rfl, h⟩

theorem CV.le.rc {x y : CV} (h : x.le y) {f : Fn} {nx : Nat} {z : Z} {v : Value} (hx : RC f nx z x v) : RC f nx z y v := by
  rcases h with rfl | ⟨a, b, rfl, rfl, h⟩
  · exact hx
  · exact h z v hx

theorem CV.le.beyond {x y : CV} (h : x.le y) (m : Nat) : y.beyond m = x.beyond m := by
  rcases h with rfl | ⟨a, b, rfl, rfl, h⟩ <;> rfl

def leL : List CV → List CV → Prop
  | [], [] => True
  | x :: r, y :: q => x.le y ∧ leL r q
  | _, _ => False

theorem leL.refl : ∀ l : List CV, leL l l
  | [] => trivial
  | x :: r => ⟨.inl rfl, leL.refl r⟩

theorem leL.get : ∀ {l q : List CV}, leL l q → ∀ {i : Nat} {y : CV}, q[i]? = some y → ∃ x, l[i]? = some x ∧ x.le y
  | [], [], _, i, y, hy => by simp at hy
  | x :: r, y' :: q, h, 0, y, hy => by
    simp only [List.getElem?_cons_zero, Option.some.injEq] at hy
    subst hy
    exact ⟨x, rfl, h.1⟩
  | x :: r, y' :: q, h, i + 1, y, hy => by
    simp only [List.getElem?_cons_succ] at hy
    exact leL.get h.2 hy
  | [], _ :: _, h, _, _, _ => h.elim
  | _ :: _, [], h, _, _, _ => h.elim

theorem leL.len : ∀ {l q : List CV}, leL l q → q.length = l.length
  | [], [], _ => rfl
  | x :: r, y :: q, h => by simp only [List.length_cons, leL.len h.2]
  | [], _ :: _, h => h.elim
  | _ :: _, [], h => h.elim

theorem leL.rl {f : Fn} {nx : Nat} {z : Z} {l q : List CV} {vs : List Value} (hl : leL l q) (h : RL f nx z l vs) : RL f nx z q vs :=
  ⟨hl.len.trans h.1, fun i y v hy hv => by
    obtain ⟨x, h1, h2⟩ := hl.get hy
    exact h2.rc (h.2 i x v h1 hv)⟩

def AV.le : AV → AV → Prop
  | .one x, .one y => x.le y
  | .agg l, .agg q => leL l q
  | _, _ => False

theorem AV.le.refl : ∀ a : AV, a.le a
  | .one x => .inl rfl
  | .agg l => leL.refl l

theorem AV.le.ra {a b : AV} (h : a.le b) {f : Fn} {nx : Nat} {z : Z} {v : Value} (ha : RA f nx z a v) : RA f nx z b v := by
  cases a <;> cases b
  · exact h.rc ha
  · exact h.elim
  · exact h.elim
  · obtain ⟨cs, rfl, h1⟩ := ha
    exact ⟨cs, rfl, leL.rl h h1⟩

def SV.le (a b : SV) : Prop := b = .top ∨ a = b ∨ ∃ x y, a = .v x ∧ b = .v y ∧ x.le y

theorem SV.le.rs {a b : SV} (h : a.le b) {f : Fn} {nx : Nat} {z : Z} {v : Value} (ha : RS f nx z a v) : RS f nx z b v := by
  rcases h with rfl | rfl | ⟨x, y, rfl, rfl, h⟩
  · trivial
  · exact ha
  · exact h.ra ha

def Ob.le (o q : Ob) : Prop := o = q ∨ (∃ l r, o = .cells l ∧ q = .cells r ∧ leL l r) ∨ ∃ live sz n e e', o = .arr live sz n e ∧ q = .arr live sz n e' ∧ ∀ i, i < n → e i = e' i

theorem Ob.le.refl (o : Ob) : o.le o := .inl rfl
theorem Ob.le.cells {l r : List CV} (h : leL l r) : Ob.le (.cells l) (.cells r) := .inr (.inl ⟨l, r, rfl, rfl, h⟩)
theorem Ob.le.arr {live : Bool} {sz n : Nat} {e e' : Nat → List FV} (h : ∀ i, i < n → e i = e' i) : Ob.le (.arr live sz n e) (.arr live sz n e') := .inr (.inr ⟨live, sz, n, e, e', rfl, rfl, h⟩)

theorem Ob.le.live {o q : Ob} (h : o.le q) : q.live ↔ o.live := by
  rcases h with rfl | ⟨l, r, rfl, rfl, h⟩ | ⟨live, sz, n, e, e', rfl, rfl, h⟩
  · exact Iff.rfl
  · exact Iff.rfl
  · exact Iff.rfl

theorem Ob.le.ok {o q : Ob} (h : o.le q) {f : Fn} {nx : Nat} {z : Z} {w : World} {b : Nat} (hb : BOk f nx z w b o) : BOk f nx z w b q := by
  rcases h with rfl | ⟨l, r, rfl, rfl, h⟩ | ⟨live, sz, n, e, e', rfl, rfl, h⟩
  · exact hb
  rotate_left
  · refine ⟨hb.lt, hb.own, hb.room, fun m i j x hx => ?_, fun es he => by cases he⟩
    simp only [Ob.at] at hx
    split at hx
    · rename_i hz
      rw [← h i hz.2.2.1] at hx
      exact hb.cell m i j x (by simp only [Ob.at]; rw [if_pos hz]; exact hx)
    · cases hx
  · refine ⟨hb.lt, hb.own, hb.room, fun m i j x hx => ?_, fun es he => by cases he⟩
    simp only [Ob.at] at hx
    split at hx
    · rename_i hz
      obtain ⟨x', h1, h2⟩ := h.get hx
      obtain ⟨h3, v, h4, h5⟩ := hb.cell m i j x' (by simp only [Ob.at]; rw [if_pos hz, h1])
      exact ⟨h3, v, h4, h2.rc h5⟩
    · cases hx

/-- less is said, cell by cell -/
theorem StLe.less {m : Nat} {s : St} {sl : Slots} {H : Heap} (hm : m ≤ s.nx) (ht : ∀ t, (s.sl.get t).le (sl.get t)) (hH : ∀ b, (s.H.get b).le (H.get b)) {base : Nat} {wr : List Nat} : StLe m s ⟨sl, H, s.nx, s.esc, base, wr⟩ :=
  ⟨id, fun f z w a htr hr => ⟨f, z, fun t => (ht t).rs (htr t), hm, fun b hb => rfl, fun _ _ _ h => h, fun _ _ _ h => .inl h, fun _ _ hs => absurd trivial hs, fun b _ hl => (hH b).live.1 hl,
    ⟨fun b _ hl => ⟨(hr.own b trivial ((hH b).live.1 hl)).1, (hH b).ok (hr.own b trivial ((hH b).live.1 hl)).2⟩, fun b c _ _ hl hl' => hr.inj b c trivial trivial ((hH b).live.1 hl) ((hH c).live.1 hl'), hr.zok⟩,
    fun b hb hl => .inr ⟨b, trivial, (hH b).live.1 hl, rfl⟩, Fr.refl _ _, fun _ m' hm' hN b l hb hg x hx => by
      rcases hH b with e | ⟨l0, r, e1, e2, h⟩ | ⟨_, _, _, _, _, e1, e2, h⟩
      rotate_right
      · simp only at hg
        rw [e2] at hg
        cases hg
      · exact hN b l hb (by rw [e]; exact hg) x hx
      · simp only at hg
        rw [e2] at hg
        cases hg
        obtain ⟨i, hi⟩ := List.mem_iff_getElem?.1 hx
        obtain ⟨x', h1, h2⟩ := h.get hi
        rw [h2.beyond]
        exact hN b l0 hb e1 x' (List.mem_of_getElem? h1)⟩⟩

/-- a call of whose answer less is said -/
theorem CallTo.less {P : Program} {g : Nat} {args : List AV} {H : Heap} {nx : Nat} {r r' : CallOut} (h : CallTo P g args H nx r) (hn : nx ≤ r.nx) (h1 : r.v.le r'.v) (h2 : ∀ b, (r.H.get b).le (r'.H.get b)) (h3 : r'.nx = r.nx) (h4 : r'.esc = r.esc) : CallTo P g args H nx r' := by
  obtain ⟨v, H1, nx1, esc, wr⟩ := r
  obtain ⟨v', H1', nx1', esc', wr'⟩ := r'
  simp only at h3 h4 h1 h2 hn
  subst h3 h4
  refine h.le ?_
  exact StLe.less (m := nx) (s := CallOut.st ⟨v, H1, nx1', esc', wr⟩) (sl := [(0, v')]) (H := H1') hn (fun t => by
    simp only [CallOut.st]
    rw [Slots.get_cons, Slots.get_cons]
    split
    · exact h1
    · exact .inr (.inl rfl)) h2

/-- no cell of what is left reaches a block: nothing has got out -/
theorem CallTo.noesc {P : Program} {g : Nat} {args : List AV} {H : Heap} {nx : Nat} {v : SV} {H' : Heap} {nx' : Nat} {esc : Bool} {wr : List Nat} (h : CallTo P g args H nx ⟨v, H', nx', esc, wr⟩) (hn : ∀ b l, H'.get b = .cells l → ∀ x ∈ l, x.refs = []) {wr' : List Nat} : CallTo P g args H nx ⟨v, H', nx', false, wr'⟩ := by
  intro f z w vs hr ha R hR
  refine h f z w vs hr ha R fun f1 z1 w1 v1 hp hv => hR f1 z1 w1 v1 ?_ hv
  refine ⟨hp.hnx, hp.ext, hp.zle, hp.znew, hp.same, hp.dead, hp.rel, hp.fresh, hp.fr, fun _ m hm _ b l hb hg x hx => ?_⟩
  exact beyond_refs.2 (by rw [hn b l hg x hx]; simp)

theorem T.over_ex {α A : Type} {t u : T α} {p : PT} {g : A → α} (ht : t.over p = u) (h : ∃ a, u.res = some (g a)) : ∃ a, t.res = some (g a) := by
  obtain ⟨a, h⟩ := h
  exact ⟨a, T.over_eq _ ht h⟩

theorem T.over_exP {α A : Type} {t u : T α} {p : PT} {g : A → α} {Q : A → Prop} (ht : t.over p = u) (h : ∃ a, u.res = some (g a) ∧ Q a) : ∃ a, t.res = some (g a) ∧ Q a := by
  obtain ⟨a, h, q⟩ := h
  exact ⟨a, T.over_eq _ ht h, q⟩

theorem T.over_exP2 {α A B : Type} {t u : T α} {p : PT} {g : A → B → α} {Q : A → B → Prop} (ht : t.over p = u) (h : ∃ a b, u.res = some (g a b) ∧ Q a b) : ∃ a b, t.res = some (g a b) ∧ Q a b := by
  obtain ⟨a, b, h, q⟩ := h
  exact ⟨a, b, T.over_eq _ ht h, q⟩

theorem StLe.same {m : Nat} {s s' : St} (hm : m ≤ s.nx) (h1 : s'.sl = s.sl) (h2 : s'.nx = s.nx) (h3 : s'.esc = s.esc) (h4 : ∀ b, s'.H.get b = s.H.get b) : StLe m s s' := by
  obtain ⟨sl, H, nx, esc, base, wr⟩ := s
  obtain ⟨sl', H', nx', esc', base', wr'⟩ := s'
  simp only at h1 h2 h3 h4 hm
  subst h1 h2 h3
  exact StLe.less (s := ⟨sl', H, nx', esc', base, wr⟩) hm (fun t => .inr (.inl rfl)) fun b => .inl (h4 b).symm

end Go.Proofs.YtbobakclbdaepaaGreat.En
