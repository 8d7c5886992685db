/- The engine, part 26: parts of a tree; what is known, as lists; results that say less. -/
import Derived.Test.YtbobakclbdaepaaGreatF2
namespace Go.Proofs.YtbobakclbdaepaaGreat.En
open Go
set_option linter.unusedVariables false
set_option linter.unusedSimpArgs false

/-- a sentence as a truth; it is never reckoned -/
noncomputable def pb (p : Prop) : Bool := @decide p (Classical.propDecidable p)
theorem pb_of {p : Prop} (h : pb p = true) : p := @of_decide_eq_true p (Classical.propDecidable p) h
theorem pb_true {p : Prop} (h : p) : pb p = true := @decide_eq_true p (Classical.propDecidable p) h

/-- which parts of a tree are looked at -/
inductive PT where
  | leaf
  | br (p q : PT)
  | tt (p : PT)
  | ff (q : PT)
  | skip

def T.over {α : Type} : T α → PT → T α
  | t, .leaf => t
  | .br b x y, .br p q => .br b (x.over p) (y.over q)
  | .br b x _, .tt p => match b with | true => x.over p | false => .bad
  | .br b _ y, .ff q => match b with | true => .bad | false => y.over q
  | _, _ => .bad

theorem T.over_res {α : Type} {a : α} : ∀ (p : PT) (t : T α), (t.over p).res = some a → t.res = some a
  | .leaf, t, h => by
    have e : t.over .leaf = t := by cases t <;> rfl
    rw [e] at h; exact h
  | .br p q, t, h => by
    cases t with
    | br b x y =>
      cases b with
      | true => exact T.over_res p x h
      | false => exact T.over_res q y h
    | ret a => exact (T.bad_some h).elim
    | bad => exact (T.bad_some h).elim
  | .tt p, t, h => by
    cases t with
    | br b x y =>
      cases b with
      | true => exact T.over_res p x h
      | false => exact (T.bad_some h).elim
    | ret a => exact (T.bad_some h).elim
    | bad => exact (T.bad_some h).elim
  | .ff q, t, h => by
    cases t with
    | br b x y =>
      cases b with
      | true => exact (T.bad_some h).elim
      | false => exact T.over_res q y h
    | ret a => exact (T.bad_some h).elim
    | bad => exact (T.bad_some h).elim
  | .skip, t, h => by
    cases t with
    | br b x y => exact (T.bad_some h).elim
    | ret a => exact (T.bad_some h).elim
    | bad => exact (T.bad_some h).elim

/-! a call's end that says less -/

def CallOut.st (r : CallOut) : St := ⟨[(0, r.v)], r.H, r.nx, r.esc, 0, r.wr⟩

def OutLe (m : Nat) (r r' : CallOut) : Prop := StLe m r.st r'.st

theorem CallTo.le {P : Program} {g : Nat} {args : List AV} {H : Heap} {nx : Nat} {r r' : CallOut} (h : CallTo P g args H nx r) (hle : OutLe nx r r') : CallTo P g args H nx r' := by
  intro f z w vs hr ha R hR
  refine h f z w vs hr ha R fun f1 z1 w1 v1 hp hv => ?_
  obtain ⟨f2, z2, ht, hp2⟩ := hle.to f1 z1 w1 #[v1] (fun t => by
    simp only [CallOut.st]
    rw [Slots.get_cons]
    by_cases e : 0 = t
    · subst e; simpa using hv
    · rw [if_neg e]; trivial) hp.all
  have h0 := ht 0
  simp only [CallOut.st] at h0 hp2
  rw [Slots.get_cons, if_pos rfl] at h0
  refine hR f2 z2 w1 v1 ((Post.trans' hp hp2 (Nat.le_refl _)).weak fun he => ?_) (by simpa using h0)
  rw [Bool.or_eq_false_iff]
  exact ⟨hle.esc he, he⟩

theorem OutLe.refl {m : Nat} {r : CallOut} (h : m ≤ r.nx) : OutLe m r r := StLe.refl h

/-- a call's end, its blocks from m on named anew, and what no one sees dropped -/
def canonOut (m : Nat) (r : CallOut) : Option CallOut :=
  match canonSt m [0] r.st with
  | some s => some ⟨s.sl.get 0, s.H, s.nx, s.esc, s.wr⟩
  | none => none

theorem canonOut_ok {m : Nat} {r r' : CallOut} (h : canonOut m r = some r') : OutLe m r r' := by
  unfold canonOut at h
  split at h
  · rename_i s hs
    have hle := canonSt_ok hs
    simp only [Option.some.injEq] at h
    subst h
    refine hle.trans ?_
    have hm : m ≤ s.nx := by
      unfold canonSt at hs
      obtain ⟨sl, h1, _⟩ := pruneK_eq (β := Option St) r.st.sl [0]
      rw [h1] at hs
      dsimp only at hs
      split at hs
      · simp only [Option.some.injEq] at hs
        subst hs
        exact Nat.le_add_right _ _
      · cases hs
    have := StLe.slots (s := s) hm (sl := [(0, s.sl.get 0)]) fun t => by
      rw [Slots.get_cons]
      by_cases e : 0 = t
      · subst e; exact .inr (if_pos rfl)
      · rw [if_neg e]; exact .inl rfl
    exact ⟨this.esc, fun f z w a ht hr => this.to f z w a ht hr⟩
  · cases h

/-! loops -/

structure LoopOk (P : Program) (L : Nat → Code → St → T (Ex × St)) : Prop where
  to : ∀ N c st e st', (L N c st).res = some (e, st') → CodeOk P N c st e st'
  keeps : ∀ N c st, (L N c st).Every fun x => Kp st x.2

/-- what is known of a loop: out of its slots, its heap, what comes of it -/
noncomputable def mkLoop (live : List Nat) (c0 : Code) (N0 : Nat) (B : Slots → Heap → Nat → Bool → T (Ex × Slots × Heap × Nat × Bool)) (N : Nat) (c : Code) (st : St) : T (Ex × St) :=
  .need (pb (c = .loop c0 ∧ N = N0)) (pruneK st.sl live fun sl => (B sl st.H st.nx st.esc).bind fun x => match Nat.ble st.nx x.2.2.2.1 with
    | true => .ret (x.1, ⟨x.2.1, x.2.2.1.filter (fun e => Nat.ble st.nx e.1 || (st.H.map (·.1)).any (Nat.beq e.1)), x.2.2.2.1, x.2.2.2.2, st.base, st.H.map (·.1) ++ st.wr⟩)
    | false => .bad)

theorem CodeOk.wide {P : Program} {N : Nat} {c : Code} {st : St} {e : Ex} {st' : St} {b : Nat} {wr : List Nat} {b' : Nat} {wr' : List Nat} (h : CodeOk P N c ⟨st.sl, st.H, st.nx, st.esc, b, wr⟩ e ⟨st'.sl, st'.H, st'.nx, st'.esc, b', wr'⟩) : CodeOk P N c st e st' :=
  ⟨h.1, h.2⟩

theorem CodeOk.less {P : Program} {N : Nat} {c : Code} {st : St} {e : Ex} {st' st'' : St} (h : CodeOk P N c st e st') (hle : StLe st.nx st' st'') : CodeOk P N c st e st'' :=
  ⟨fun he => h.1 (hle.esc he), fun f z w a ht hr hN hd Q hQ => h.2 f z w a ht hr hN hd Q fun f1 z1 w1 a1 hp ht1 hN1 hd1 => by
    obtain ⟨f2, z2, ht2, hp2⟩ := hle.to f1 z1 w1 a1.tmps ht1 hp.all
    refine hQ f2 z2 w1 a1 ((Post.trans' hp hp2 (Nat.le_refl _)).weak fun he => ?_) ht2 hN1 hd1
    rw [Bool.or_eq_false_iff]
    exact ⟨hle.esc he, he⟩⟩

theorem StLe.sift {m : Nat} {s : St} (hm : m ≤ s.nx) (p : Nat → Bool) : StLe m s { s with H := s.H.filter fun e => p e.1 } :=
  ⟨id, fun f z w a ht hr => by
    have hg : ∀ b, (Heap.get (s.H.filter fun e => p e.1) b).live → Heap.get (s.H.filter fun e => p e.1) b = s.H.get b ∧ (s.H.get b).live := fun b hl => by
      rw [get_filter p] at hl ⊢
      split at hl
      · rename_i h; rw [if_pos h]; exact ⟨rfl, hl⟩
      · exact hl.elim
    refine ⟨f, z, ht, hm, fun b hb => rfl, fun _ _ _ h => h, fun _ _ _ h => .inl h, fun _ _ hs => absurd trivial hs, fun b _ hl => (hg b hl).2, ⟨fun b _ hl => ?_, fun b c _ _ hl hl' => hr.inj b c trivial trivial (hg b hl).2 (hg c hl').2, hr.zok⟩, fun b hb hl => .inr ⟨b, trivial, (hg b hl).2, rfl⟩, Fr.refl _ _, fun _ m' hm' hN b l hb hgl x hx => ?_⟩
    · simp only at hl ⊢
      rw [(hg b hl).1]
      exact hr.own b trivial (hg b hl).2
    · simp only at hgl
      have hl : (Heap.get (s.H.filter fun e => p e.1) b).live := by rw [hgl]; trivial
      rw [(hg b hl).1] at hgl
      exact hN b l hb hgl x hx⟩

theorem mkLoop_ok {P : Program} {live : List Nat} {c0 : Code} {N0 : Nat} {B : Slots → Heap → Nat → Bool → T (Ex × Slots × Heap × Nat × Bool)}
    (h : ∀ sl H nx esc e sl' H' nx' esc', (B sl H nx esc).res = some (e, sl', H', nx', esc') → CodeOk P N0 (.loop c0) ⟨sl, H, nx, esc, 0, []⟩ e ⟨sl', H', nx', esc', 0, []⟩) : LoopOk P (mkLoop live c0 N0 B) := by
  refine ⟨fun N c st e st' hr => ?_, fun N c st => ?_⟩
  · unfold mkLoop at hr
    obtain ⟨hp, hr2⟩ := T.need_some hr
    clear hr
    obtain ⟨rfl, rfl⟩ := pb_of hp
    obtain ⟨sl, h1, h2⟩ := pruneK_eq (β := T (Ex × St)) st.sl live
    rw [h1] at hr2
    obtain ⟨⟨e1, sl1, H1, nx1, esc1⟩, hb, hr⟩ := T.bind_some hr2
    simp only at hr
    split at hr
    · rename_i hle
      have hle := nble hle
      have := T.ret_some hr
      simp only [Prod.mk.injEq] at this
      obtain ⟨rfl, rfl⟩ := this
      have hc := h _ _ _ _ _ _ _ _ _ hb
      have hc := CodeOk.less (st'' := ⟨sl1, H1.filter fun e => (fun b => Nat.ble st.nx b || (st.H.map (·.1)).any (Nat.beq b)) e.1, nx1, esc1, 0, []⟩) hc (StLe.sift (s := ⟨sl1, H1, nx1, esc1, 0, []⟩) hle fun b => Nat.ble st.nx b || (st.H.map (·.1)).any (Nat.beq b))
      have hc := CodeOk.slots (st := { st with base := 0, wr := [] }) (s := sl) hc fun f z a ht t => by
        rw [h2]
        split
        · exact ht t
        · trivial
      exact ⟨hc.1, hc.2⟩
    · exact (T.bad_some hr).elim
  · unfold mkLoop
    refine T.Every.need ?_
    obtain ⟨sl, h1⟩ := pruneK_at (β := T (Ex × St)) st.sl live
    rw [h1]
    refine T.Every.bind (fun x => ?_) _
    split
    · rename_i hle
      have hle := nble hle
      refine ⟨rfl, hle, fun b hb hn hw => ?_⟩
      simp only [List.mem_append, not_or] at hw
      obtain ⟨w1, w2⟩ := hw
      refine ⟨w2, ?_⟩
      simp only
      have hd : ¬ (st.H.get b).live := fun hl => w1 (live_key _ _ hl)
      have key : ∀ (H : Heap), b ∉ H.map (·.1) → H.get b = .dead := by
        intro H
        induction H with
        | nil => intro _; rfl
        | cons e H ih =>
          obtain ⟨k, o⟩ := e
          intro hm
          simp only [List.map_cons, List.mem_cons, not_or] at hm
          rw [Heap.get_cons, if_neg (Ne.symm hm.1)]
          exact ih hm.2
      rw [get_filter (fun b => Nat.ble st.nx b || (st.H.map (·.1)).any (Nat.beq b)), if_neg, key _ w1]
      rw [ble_false (by omega)]
      simp only [Bool.false_or, Bool.not_eq_true]
      cases hq : (st.H.map (·.1)).any (Nat.beq b) with
      | false => rfl
      | true => exact absurd ((anyBeq _ _).1 hq) w1
    · trivial

/-! lists of what is known -/

abbrev SumF := List AV → Heap → Nat → T CallOut
abbrev LoopF := Nat → Code → St → T (Ex × St)

def sumL : List (Nat × SumF) → Nat → Option SumF
  | [], _ => none
  | (k, s) :: r, g => match Nat.beq k g with | true => some s | false => sumL r g

def lsL : List (Nat × Nat × LoopF) → Nat → Nat → Option LoopF
  | [], _, _ => none
  | (k, j, s) :: r, g, id => match Nat.beq k g && Nat.beq j id with | true => some s | false => lsL r g id

theorem sumL_ok {P : Program} : ∀ (l : List (Nat × SumF)), (∀ x ∈ l, SumOk P x.1 x.2) → ∀ g s, sumL l g = some s → SumOk P g s
  | [], _, g, s, h => by cases h
  | (k, s0) :: r, hl, g, s, h => by
    simp only [sumL] at h
    split at h
    · rename_i e
      have := nbeq e
      simp only [Option.some.injEq] at h
      subst this h
      exact hl _ (List.mem_cons_self ..)
    · exact sumL_ok r (fun x hx => hl x (List.mem_cons_of_mem _ hx)) g s h

theorem lsL_ok {P : Program} : ∀ (l : List (Nat × Nat × LoopF)), (∀ x ∈ l, LoopOk P x.2.2) → ∀ g id s, lsL l g id = some s → LoopOk P s
  | [], _, g, id, s, h => by cases h
  | (k, j, s0) :: r, hl, g, id, s, h => by
    simp only [lsL] at h
    split at h
    · simp only [Option.some.injEq] at h
      subst h
      exact hl _ (List.mem_cons_self ..)
    · exact lsL_ok r (fun x hx => hl x (List.mem_cons_of_mem _ hx)) g id s h

/-- with what is known -/
def Ctx.with (G : Ctx) (s : List (Nat × SumF)) (l : List (Nat × Nat × LoopF)) : Ctx := ⟨G.ti, G.fi, G.sym, sumL s, lsL l, fun _ _ => none⟩

theorem CtxOk.with {P : Program} {G : Ctx} (h : CtxOk P G) (s : List (Nat × SumF)) (l : List (Nat × Nat × LoopF)) : CtxOk P (G.with s l) := ⟨h.ti, h.fi, h.mixed⟩

theorem KnownOk.lists {P : Program} {G : Ctx} {s : List (Nat × SumF)} {l : List (Nat × Nat × LoopF)} (hs : ∀ x ∈ s, SumOk P x.1 x.2) (hl : ∀ x ∈ l, LoopOk P x.2.2) : KnownOk P (G.with s l) where
  sum := fun g F h => (sumL_ok s hs g F h).to
  ls := fun F id L h => (lsL_ok l hl F id L h).to
  sumK := fun g F h => (sumL_ok s hs g F h).keeps
  lsK := fun F id L h => (lsL_ok l hl F id L h).keeps
  pre := fun F id p h => by cases h
  preK := fun F id p h => by cases h

end Go.Proofs.YtbobakclbdaepaaGreat.En
