/- The engine, part 24: states that say less; a loop that is known. -/
import Derived.Test.YtbobakclbdaepaaGreatF0
namespace Go.Proofs.YtbobakclbdaepaaGreat.En
open Go
set_option linter.unusedVariables false
set_option linter.unusedSimpArgs false

theorem Post.trans' {f f1 f2 : Fn} {nx n1 m n2 : Nat} {z z1 z2 : Z} {w w1 w2 : World} {H H1 H2 : Heap} {e1 e2 : Bool}
    (h : Post All f nx z w H f1 n1 z1 w1 H1 e1) (k : Post All f1 m z1 w1 H1 f2 n2 z2 w2 H2 e2) (hm : nx ≤ m) : Post All f nx z w H f2 n2 z2 w2 H2 (e1 || e2) := by
  have himg : ∀ x, img All f1 H1 x → w.heap.size ≤ x ∨ img All f H x := by
    rintro x ⟨b, _, hl, rfl⟩
    rcases Nat.lt_or_ge b nx with hb | hb
    · exact .inr ⟨b, trivial, h.dead b hb hl, by rw [h.ext b hb]⟩
    · exact h.fresh b hb hl
  refine ⟨Nat.le_trans hm k.hnx, fun b hb => (k.ext b (Nat.lt_of_lt_of_le hb hm)).trans (h.ext b hb), fun a b c hv => k.zle _ _ _ (h.zle _ _ _ hv), fun a b c hv => ?_, fun b _ hs => absurd trivial hs,
    fun b hb hl => h.dead b hb (k.dead b (Nat.lt_of_lt_of_le hb hm) hl), ⟨fun b _ => k.rel.own b (.inl trivial), fun b c _ _ => k.rel.inj b c (.inl trivial) (.inl trivial), k.rel.zok⟩, fun b hb hl => ?_, ?_, fun he m' hm' hN => ?_⟩
  · rcases k.znew a b c hv with h1 | h1 | h1
    · exact h.znew a b c h1
    · exact .inr (.inl (Nat.le_trans h.fr.size h1))
    · exact .inr (himg _ h1)
  · rcases Nat.lt_or_ge b m with h1 | h1
    · rw [k.ext b h1]
      exact h.fresh b hb (k.dead b h1 hl)
    · rcases k.fresh b h1 hl with h2 | h2
      · exact .inl (Nat.le_trans h.fr.size h2)
      · exact himg _ h2
  · refine h.fr.trans k.fr fun x hx hi => ?_
    rcases himg x hi with h1 | h1
    · omega
    · exact h1
  · simp only [Bool.or_eq_false_iff] at he
    exact k.noesc he.2 m' (Nat.le_trans hm' hm) (h.noesc he.1 m' hm' hN)

theorem Post.lower {f f1 : Fn} {nx n1 m : Nat} {z z1 : Z} {w w1 : World} {H H1 : Heap} {e : Bool} (h : Post All f nx z w H f1 n1 z1 w1 H1 e) (hm : m ≤ nx) : Post All f m z w H f1 n1 z1 w1 H1 e :=
  ⟨Nat.le_trans hm h.hnx, fun b hb => h.ext b (by omega), h.zle, h.znew, fun _ _ hs => absurd trivial hs, fun b hb => h.dead b (by omega), ⟨fun b _ => h.rel.own b (.inl trivial), fun b c _ _ => h.rel.inj b c (.inl trivial) (.inl trivial), h.rel.zok⟩, fun b hb hl => by
    rcases Nat.lt_or_ge b nx with h1 | h1
    · rw [h.ext b h1]; exact .inr ⟨b, trivial, h.dead b h1 hl, rfl⟩
    · exact h.fresh b h1 hl, h.fr, fun he m' hm' => h.noesc he m' (by omega)⟩

theorem beyond_refs {x : CV} {n : Nat} : x.beyond n = false ↔ ∀ c ∈ x.refs, c < n := by
  have key : ∀ b : Nat, Nat.ble n b = false ↔ b < n := fun b => by
    constructor
    · intro h
      rcases Nat.lt_or_ge b n with h' | h'
      · exact h'
      · rw [Nat.ble_eq_true_of_le h'] at h; cases h
    · intro h; exact ble_false (by omega)
  cases x with
  | f x => simp [CV.beyond, CV.refs]
  | ptr => simp [CV.beyond, CV.refs, key]
  | sl => simp [CV.beyond, CV.refs, key]
  | mp => simp [CV.beyond, CV.refs, key]
  | fn g l =>
    simp only [CV.beyond, CV.refs, List.any_eq_false, List.mem_map, Bool.not_eq_true, key]
    constructor
    · rintro h c ⟨y, hy, rfl⟩; exact h y hy
    · intro h y hy; exact h _ ⟨y, hy, rfl⟩

theorem Post.ren {f : Fn} {nx : Nat} {z : Z} {w : World} {H : Heap} {m : Nat} {news : List Nat} {esc : Bool} (hr : Rel All f nx z w H) (h : Names m nx news H) :
    Post All f m z w H (fun b => f (unName m news b)) (m + news.length) z w (renH m news H) esc := by
  have un : ∀ b, b < m → unName m news b = b := fun b hb => by
    have : Nat.ble (b + 1) m = true := Nat.ble_eq_true_of_le hb
    simp only [unName, this]
  have hR := hr.ren h
  refine ⟨Nat.le_add_right _ _, fun b hb => by simp only [un b hb], fun _ _ _ h => h, fun _ _ _ h => .inl h, fun _ _ hs => absurd trivial hs, fun b hb hl => ?_, ⟨fun b _ => hR.own b trivial, fun b c _ _ => hR.inj b c trivial trivial, hR.zok⟩, fun b hb hl => ?_, Fr.refl _ _, fun _ m' hm' hN b l hb hg x hx => ?_⟩
  · obtain ⟨_, h2⟩ := get_renH hl
    rw [h2, Ob.ren_live, un b hb] at hl
    exact hl
  · obtain ⟨_, h2⟩ := get_renH hl
    rw [h2, Ob.ren_live] at hl
    exact .inr ⟨_, trivial, hl, rfl⟩
  · have hl : ((renH m news H).get b).live := by rw [hg]; trivial
    obtain ⟨_, h2⟩ := get_renH hl
    rw [hg, un b (by omega)] at h2
    cases ho : H.get b with
    | cells l0 =>
      rw [ho] at h2
      simp only [Ob.ren, Ob.cells.injEq] at h2
      subst h2
      obtain ⟨y, hy, rfl⟩ := List.mem_map.1 hx
      have hy' := beyond_refs.1 (hN b l0 hb ho y hy)
      rw [beyond_refs]
      have e : y.ren (reName m news) = y := by
        have rn : ∀ c ∈ y.refs, reName m news c = c := fun c hc => by
          have : Nat.ble (c + 1) m = true := Nat.ble_eq_true_of_le (by have := hy' c hc; omega)
          simp only [reName, this]
        cases y with
        | f x => rfl
        | ptr b => simp only [CV.ren, rn b (by simp [CV.refs])]
        | sl nil b => simp only [CV.ren, rn b (by simp [CV.refs])]
        | mp b => simp only [CV.ren, rn b (by simp [CV.refs])]
        | fn g l =>
          simp only [CV.ren, CV.fn.injEq, true_and]
          have : ∀ x ∈ l, (fun x : Nat × Nat × Nat × Nat => (reName m news x.1, x.2.1, x.2.2.1, x.2.2.2)) x = id x := fun x hx => by
            simp only [rn x.1 (List.mem_map.2 ⟨x, hx, rfl⟩), id]
          rw [List.map_congr_left this, List.map_id]
      rw [e]
      exact hy'
    | arr => rw [ho] at h2; cases h2
    | map => rw [ho] at h2; cases h2
    | dead => rw [ho] at h2; cases h2

/-- s' says less than s; what lies below m keeps its name -/
structure StLe (m : Nat) (s s' : St) : Prop where
  esc : s'.esc = false → s.esc = false
  to : ∀ (f : Fn) (z : Z) (w : World) (a : Array Value), TR f s.nx z s.sl a → Rel All f s.nx z w s.H → ∃ f' z', TR f' s'.nx z' s'.sl a ∧ Post All f m z w s.H f' s'.nx z' w s'.H s'.esc

theorem StLe.refl {m : Nat} {s : St} (h : m ≤ s.nx) : StLe m s s :=
  ⟨id, fun f z w a ht hr => ⟨f, z, ht, by
    have := Post.reflA (esc := s.esc) hr
    refine ⟨h, fun b hb => rfl, this.zle, this.znew, fun _ _ hs => absurd trivial hs, fun b _ hl => hl, ⟨fun b _ => hr.own b trivial, fun b c _ _ => hr.inj b c trivial trivial, hr.zok⟩, fun b hb hl => .inr ⟨b, trivial, hl, rfl⟩, this.fr, fun _ _ _ h => h⟩⟩⟩

theorem StLe.trans {m : Nat} {a b c : St} (h : StLe m a b) (k : StLe m b c) : StLe m a c :=
  ⟨fun e => h.esc (k.esc e), fun f z w t ht hr => by
    obtain ⟨f1, z1, t1, p1⟩ := h.to f z w t ht hr
    obtain ⟨f2, z2, t2, p2⟩ := k.to f1 z1 w t t1 p1.all
    refine ⟨f2, z2, t2, (Post.trans' p1 p2 (Nat.le_refl _)).weak fun e => ?_⟩
    rw [Bool.or_eq_false_iff]
    exact ⟨k.esc e, e⟩⟩

/-- slots of which less is said -/
theorem StLe.slots {m : Nat} {s : St} {sl : Slots} (hm : m ≤ s.nx) (h : ∀ t, sl.get t = .top ∨ sl.get t = s.sl.get t) : StLe m s { s with sl := sl } :=
  ⟨id, fun f z w a ht hr => by
    obtain ⟨f', z', t', p'⟩ := (StLe.refl hm).to f z w a ht hr
    obtain ⟨f1, z1, _, p1⟩ := (StLe.refl hm).to f z w a ht hr
    refine ⟨f, z, fun t => ?_, ?_⟩
    · rcases h t with e | e
      · simp only [e]; trivial
      · simp only [e]; exact ht t
    · exact ⟨hm, fun b hb => rfl, fun _ _ _ h => h, fun _ _ _ h => .inl h, fun _ _ hs => absurd trivial hs, fun b _ hl => hl, ⟨fun b _ => hr.own b trivial, fun b c _ _ => hr.inj b c trivial trivial, hr.zok⟩, fun b hb hl => .inr ⟨b, trivial, hl, rfl⟩, Fr.refl _ _, fun _ _ _ h => h⟩⟩

/-- another name for some blocks; the others are dropped -/
theorem StLe.ren {m : Nat} {s : St} {news : List Nat} (h : Names m s.nx news s.H) (hs : ∀ t c, c ∈ (s.sl.get t).refs → c < m ∨ c ∈ news) {base : Nat} {wr : List Nat} :
    StLe m s ⟨s.sl.map fun x => (x.1, x.2.ren (reName m news)), renH m news s.H, m + news.length, s.esc, base, wr⟩ :=
  ⟨id, fun f z w a ht hr => ⟨fun b => f (unName m news b), z, fun t => by
    have : ∀ (l : Slots) (t : Nat), Slots.get (l.map fun x => (x.1, x.2.ren (reName m news))) t = (Slots.get l t).ren (reName m news) := by
      intro l t
      induction l with
      | nil => rfl
      | cons x l ih =>
        obtain ⟨k, v⟩ := x
        simp only [List.map_cons]
        rw [Slots.get_cons, Slots.get_cons, ih]
        split <;> rfl
    rw [this]
    exact (ht t).ren fun c hc => h.led f (hs t c hc), Post.ren hr h⟩⟩

/-- a run of a loop, from round to round -/
inductive Chain {α : Type} (S : α → St) (μ : α → Nat) (m : Nat) (run : St → T (Ex × St)) : α → Ex → St → Prop
  | stop {p : α} {e : Ex} {st1 st2 : St} (h : (run (S p)).res = some (e, st1)) (hne : e ≠ .normal) (hle : StLe m st1 st2) : Chain S μ m run p e st2
  | step {p p' : α} {e : Ex} {st1 st2 : St} (h : (run (S p)).res = some (.normal, st1)) (hle : StLe m st1 (S p')) (hμ : μ p' < μ p) (hc : Chain S μ m run p' e st2) : Chain S μ m run p e st2

theorem Chain.esc {α : Type} {S : α → St} {μ : α → Nat} {m N : Nat} {run : St → T (Ex × St)} {P : Program} {c : Code} (hrun : ∀ st e st', (run st).res = some (e, st') → CodeOk P N c st e st') {p : α} {e : Ex} {st' : St}
    (h : Chain S μ m run p e st') : st'.esc = false → (S p).esc = false := by
  induction h with
  | stop h hne hle => exact fun he => (hrun _ _ _ h).1 (hle.esc he)
  | step h hle hμ hc ih => exact fun he => (hrun _ _ _ h).1 (hle.esc (ih he))

theorem Chain.ok {α : Type} {S : α → St} {μ : α → Nat} {m N : Nat} {run : St → T (Ex × St)} {P : Program} {c : Code} (hrun : ∀ st e st', (run st).res = some (e, st') → CodeOk P N c st e st') (hm : ∀ p, m ≤ (S p).nx)
    {p : α} {e : Ex} {st' st0 : St} (h : Chain S μ m run p e st') (h0 : StLe m st0 (S p)) (hnx : st0.nx = m) : CodeOk P N (.loop c) st0 e st' := by
  refine ⟨fun he => h0.esc (h.esc hrun he), fun f z w a ht hr hN hd Q hQ => ?_⟩
  obtain ⟨f0, z0, ht0, hp0⟩ := h0.to f z w a.tmps ht hr
  refine wp_loop_ghost (fun k a w => ∃ p, μ p = k ∧ Chain S μ m run p e st' ∧ ∃ f z, TR f (S p).nx z (S p).sl a.tmps ∧ Rel All f (S p).nx z w (S p).H ∧ a.tmps.size = N ∧ a.defers = [] ∧
    ∀ f' z' w' a', Post All f m z w (S p).H f' st'.nx z' w' st'.H st'.esc → TR f' st'.nx z' st'.sl a'.tmps → a'.tmps.size = N → a'.defers = [] → Q (exitOf e) a' w') (μ p) ⟨p, rfl, h, f0, z0, ht0, hp0.all, hN, hd, fun f' z' w' a' hp ht' hN' hd' => ?_⟩ ?_
  · refine hQ f' z' w' a' ?_ ht' hN' hd'
    rw [hnx]
    refine (Post.trans' hp0 hp (Nat.le_refl _)).weak fun he => ?_
    rw [Bool.or_eq_false_iff]
    exact ⟨h.esc hrun he, he⟩
  · rintro k a w ⟨p, rfl, h, f, z, ht, hr, hN, hd, hQ⟩
    cases h with
    | stop h hne hle =>
      rename_i st1
      refine (hrun _ _ _ h).2 f z w a ht hr hN hd _ fun f1 z1 w1 a1 hp1 ht1 hN1 hd1 => ?_
      obtain ⟨f2, z2, ht2, hp2⟩ := hle.to f1 z1 w1 a1.tmps ht1 hp1.all
      have := hQ f2 z2 w1 a1 ((Post.trans' (hp1.lower (hm p)) hp2 (Nat.le_refl _)).weak fun he => by
        rw [Bool.or_eq_false_iff]
        exact ⟨hle.esc he, he⟩) ht2 hN1 hd1
      cases e with
      | normal => exact absurd rfl hne
      | exit id => exact this
      | ret => exact this
    | step h hle hμ hc =>
      rename_i p' st1
      refine (hrun _ _ _ h).2 f z w a ht hr hN hd _ fun f1 z1 w1 a1 hp1 ht1 hN1 hd1 => ?_
      obtain ⟨f2, z2, ht2, hp2⟩ := hle.to f1 z1 w1 a1.tmps ht1 hp1.all
      refine ⟨μ p', hμ, p', rfl, hc, f2, z2, ht2, hp2.all, hN1, hd1, fun f' z' w' a' hp ht' hN' hd' => ?_⟩
      have hp3 := (Post.trans' (hp1.lower (hm p)) hp2 (Nat.le_refl _))
      refine hQ f' z' w' a' ((Post.trans' hp3 hp (Nat.le_refl _)).weak fun he => ?_) ht' hN' hd'
      have h1 := hc.esc hrun he
      rw [Bool.or_eq_false_iff, Bool.or_eq_false_iff]
      exact ⟨⟨hle.esc h1, h1⟩, he⟩

end Go.Proofs.YtbobakclbdaepaaGreat.En
