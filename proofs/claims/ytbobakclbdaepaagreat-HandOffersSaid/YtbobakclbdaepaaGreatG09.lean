/- Texts put together: E15, E16, E17, E18, E19. -/
import Derived.Test.YtbobakclbdaepaaGreatG08
/- The engine, part 15: a region that draws, run in the text's order with what each operation looks at. -/
namespace Go.Proofs.YtbobakclbdaepaaGreat.En
open Go
set_option linter.unusedVariables false
set_option linter.unusedSimpArgs false

structure Stp where
  s : St
  u : Out

def effS (x : Stp) : Eff := effOf x.s.nx x.u

def nextS (o : Oper) (x : Stp) : St := (x.s.up x.u).put o.dst x.u.v

structure StepOk (P : Program) (ops : Array Oper) (N : Nat) (k : Nat) (o : Oper) (x : Stp) : Prop where
  sem : ∀ (f : Fn) (z : Z) (w : World) (a : Act), (∀ t ∈ o.looksAt ops, RS f x.s.nx z (x.s.sl.get t) (a.tmps.getD t undef)) → Rel (Sx x.u.fp x.u.wr) f x.s.nx z w x.s.H → (∀ b, x.s.nx ≤ b → ¬ (x.s.H.get b).live) →
    ∀ (K : Act → World → Prop) (Q : Exit → Act → World → Prop), (∀ f' z' w' v', Post (Sx x.u.fp x.u.wr) f x.s.nx z w x.s.H f' x.u.nx z' w' x.u.H x.u.esc → RS f' x.u.nx z' x.u.v v' → K (a.put o.dst v') w') → wpOp P ops Q k K a w
  keep : ∀ b, b ∉ x.u.wr → x.u.H.get b = x.s.H.get b
  nx : x.s.nx ≤ x.u.nx
  lt : ∀ b ∈ x.u.wr, b < x.u.nx
  new : ∀ b, x.s.nx ≤ b → b < x.u.nx → b ∈ x.u.wr
  dst : ∀ d, o.dst = some d → d < N

def Run (ok : Nat → Oper → Stp → Prop) : Nat → List Oper → List Stp → St → St → Prop
  | _, [], [], st, st' => st = st'
  | k, o :: l, x :: r, st, st' => x.s = st ∧ ok k o x ∧ Run ok (k + 1) l r (nextS o x) st'
  | _, _, _, _, _ => False

theorem pruneK_eq {β : Type} (s : Slots) : ∀ (l : List Nat), ∃ s' : Slots, (∀ k : Slots → β, pruneK s l k = k s') ∧ ∀ t, s'.get t = if t ∈ l then s.get t else .top
  | [] => ⟨[], fun _ => rfl, fun t => by simp [Slots.get]⟩
  | t :: l => by
    obtain ⟨s', h1, h2⟩ := pruneK_eq s l
    have key : ∀ x, s.get t = x → ∀ u, Slots.get ((t, x) :: s') u = if u ∈ t :: l then s.get u else .top := fun x hx u => by
      rw [Slots.get_cons, h2]
      by_cases e : t = u
      · subst e; simp [hx]
      · have : ¬ u = t := fun h => e h.symm
        simp [e, this]
    cases hx : s.get t with
    | top =>
      refine ⟨s', fun k => by simp only [pruneK, hx]; exact h1 k, fun u => ?_⟩
      rw [h2]
      by_cases e : u = t
      · subst e; simp [hx]
      · simp [e]
    | v x => exact ⟨(t, .v x) :: s', fun k => by simp only [pruneK, hx]; exact h1 _, key _ hx⟩
    | tup x => exact ⟨(t, .tup x) :: s', fun k => by simp only [pruneK, hx]; exact h1 _, key _ hx⟩

theorem okOut_ok {n : Nat} {u : Out} (h : okOut n u = true) : n ≤ u.nx ∧ (∀ b ∈ u.wr, b < u.nx) ∧ ∀ b, n ≤ b → b < u.nx → b ∈ u.wr := by
  simp only [okOut, Bool.and_eq_true, List.all_eq_true, List.mem_range] at h
  obtain ⟨⟨h1, h2⟩, h3⟩ := h
  refine ⟨nble h1, fun b hb => nble (h2 b hb), fun b hb hb' => ?_⟩
  have := h3 (b - n) (by omega)
  rw [show n + (b - n) = b by omega] at this
  exact (anyBeq _ _).1 this

section ops
variable {P : Program} {G : Ctx} (hG : CtxOk P G) {call : CallF} (hC : CallOk P call) (hCK : CallKeeps call)
include hG hC hCK

theorem evDraw_run {N : Nat} {ops : Array Oper} : ∀ (l : List Oper) (k : Nat) (st : St) (es : List Eff) (st' : St) (es' : List Eff), (∀ i, l[i]? = ops.toList[k + i]?) → (evDraw G call N ops l st es).res = some (st', es') →
    ∃ r : List Stp, es' = (r.map effS).reverse ++ es ∧ Run (StepOk P ops N) k l r st st'
  | [], k, st, es, st', es', hl, h => by
    have h := T.ret_some h
    simp only [Prod.mk.injEq] at h
    exact ⟨[], by simp [h.2], h.1⟩
  | o :: l, k, st, es, st', es', hl, h => by
    have ho : ops[k]? = some o := by
      have := hl 0
      simp only [List.getElem?_cons_zero, Nat.add_zero] at this
      simpa using this.symm
    have hl' : ∀ i, l[i]? = ops.toList[k + 1 + i]? := fun i => by
      have := hl (i + 1)
      rw [List.getElem?_cons_succ] at this
      rw [this]
      congr 1
      omega
    simp only [evDraw] at h
    split at h
    · exact (T.bad_some h).elim
    rename_i hd
    have hd' : ∀ d, o.dst = some d → d < N := fun d e => by
      rw [e] at hd
      exact nble (a := d + 1) (b := N) hd
    obtain ⟨s, hs1, hs2⟩ := pruneK_eq (β := T (St × List Eff)) st.sl (o.looksAt ops)
    rw [hs1] at h
    have htr : ∀ {f : Fn} {z : Z} {a : Act}, (∀ t ∈ o.looksAt ops, RS f st.nx z (st.sl.get t) (a.tmps.getD t undef)) → TR f st.nx z s a.tmps := fun {f z a} ht t => by
      rw [hs2]
      split
      · rename_i hm; exact ht t hm
      · trivial
    -- it is run
    have doit : (∀ {f : Fn} {z : Z} {a : Act}, (∀ t ∈ o.looksAt ops, RS f st.nx z (st.sl.get t) (a.tmps.getD t undef)) → Region.wanted o (yielded ops a.tmps) = true) →
        ((evOp G call true ⟨s, st.H, st.nx, false, st.base, []⟩ o).bind fun u => match okOut st.nx u with
          | true => forceV G.sym u.v fun v => evDraw G call N ops l ((st.up u).put o.dst v) (effOf st.nx u :: es)
          | false => .bad).res = some (st', es') →
        ∃ r : List Stp, es' = (r.map effS).reverse ++ es ∧ Run (StepOk P ops N) k (o :: l) r st st' := by
      intro hw h
      obtain ⟨u, hu, h⟩ := T.bind_some h
      split at h
      · rename_i hok
        rw [forceV_eq] at h
        obtain ⟨r, hr1, hr2⟩ := evDraw_run l (k + 1) _ _ st' es' hl' h
        obtain ⟨o1, o2, o3⟩ := okOut_ok hok
        refine ⟨⟨st, u⟩ :: r, by rw [hr1]; simp [effS], rfl, ⟨?_, fun b hb => ((evOp_keeps hCK).res hu).2 b (.inl rfl) hb, o1, o2, o3, hd'⟩, hr2⟩
        intro f z w a ht hr hno K Q hk
        unfold wpOp
        simp only [ho, hw ht, if_true]
        exact .inl (evOp_ok hG hC hu f z w a (htr ht) hr hno K Q hk)
      · exact (T.bad_some h).elim
    split at h
    · rename_i hgd
      exact doit (fun _ => by simp [Region.wanted, hgd]) h
    · rename_i j want hgd
      split at h
      · exact (T.bad_some h).elim
      rename_i t hj
      have hj' : (ops[j]?).bind (·.dst) = some t := by simpa using hj
      have hmem : t ∈ o.looksAt ops := by simp [Oper.looksAt, hgd, hj']
      -- it isn't carried out
      have skip : (evDraw G call N ops l (st.put o.dst (.tup [])) (⟨[], [], st.nx, st.nx, []⟩ :: es)).res = some (st', es') →
          (∀ {f : Fn} {z : Z} {a : Act}, (∀ t ∈ o.looksAt ops, RS f st.nx z (st.sl.get t) (a.tmps.getD t undef)) → Region.wanted o (yielded ops a.tmps) = false) →
          ∃ r : List Stp, es' = (r.map effS).reverse ++ es ∧ Run (StepOk P ops N) k (o :: l) r st st' := by
        intro h hw
        obtain ⟨r, hr1, hr2⟩ := evDraw_run l (k + 1) _ _ st' es' hl' h
        have hup : nextS o ⟨st, ⟨.tup [], st.H, st.nx, false, [], []⟩⟩ = st.put o.dst (.tup []) := by
          simp only [nextS, St.up, Bool.or_false, addWr]
        refine ⟨⟨st, ⟨.tup [], st.H, st.nx, false, [], []⟩⟩ :: r, by rw [hr1]; simp [effS, effOf, SV.refs], rfl, ⟨?_, fun _ _ => rfl, Nat.le_refl _, fun b hb => by simp at hb, fun b h1 h2 => by simp only at h1 h2; omega, hd'⟩, by rw [hup]; exact hr2⟩
        intro f z w a ht hr hno K Q hk
        unfold wpOp
        simp only [ho, hw ht, Bool.false_eq_true, if_false]
        exact hk f z w undef (Post.refl hr hno) ⟨#[], rfl, RAs.nil⟩
      split at h
      · rename_i c hc
        have hwant : ∀ {f : Fn} {z : Z} {a : Act}, (∀ t ∈ o.looksAt ops, RS f st.nx z (st.sl.get t) (a.tmps.getD t undef)) → Region.wanted o (yielded ops a.tmps) = (c == want) := by
          intro f z a ht
          have hs := (htr ht).slot (t := t) (v := .bool c) (by rw [hs2, if_pos hmem]; exact hc) (by intro h; cases h)
          have : yielded ops a.tmps j = some c := by simp [yielded, hj', hs]
          simp only [Region.wanted, hgd, this]
          cases c <;> cases want <;> rfl
        split at h
        · rcases T.br_some h with ⟨rfl, h⟩ | ⟨rfl, h⟩
          · exact doit (fun ht => by rw [hwant ht]; rfl) h
          · exact skip h fun ht => by rw [hwant ht]; rfl
        · rcases T.br_some h with ⟨rfl, h⟩ | ⟨rfl, h⟩
          · exact skip h fun ht => by rw [hwant ht]; rfl
          · exact doit (fun ht => by rw [hwant ht]; rfl) h
      · rename_i hc
        refine skip h fun {f z a} ht => ?_
        have h1 := ht t hmem
        rw [hc] at h1
        obtain ⟨vs, h1, h2⟩ := h1
        have hvs : vs = #[] := by
          have := h2.1
          simp at this
          exact Array.eq_empty_of_size_eq_zero this.symm
        have : yielded ops a.tmps j = none := by
          simp only [yielded, hj', Option.bind_some]
          cases hq : a.tmps[t]? with
          | none => rfl
          | some v =>
            rw [Array.getD_eq_getD_getElem?, hq] at h1
            simp only [Option.getD_some] at h1
            rw [h1]
        simp only [Region.wanted, hgd, this]
        rfl
      · exact (T.bad_some h).elim

end ops

def sAt (r : List Stp) (st' : St) (i : Nat) : St := match r[i]? with | some x => x.s | none => st'

theorem Run.facts {ok : Nat → Oper → Stp → Prop} : ∀ {l : List Oper} {r : List Stp} {k : Nat} {st st' : St}, Run ok k l r st st' →
    r.length = l.length ∧ sAt r st' 0 = st ∧ ∀ i o x, l[i]? = some o → r[i]? = some x → ok (k + i) o x ∧ sAt r st' (i + 1) = nextS o x
  | [], [], k, st, st', h => ⟨rfl, h.symm, fun i o x h => by simp at h⟩
  | o :: l, x :: r, k, st, st', h => by
    obtain ⟨h1, h2, h3⟩ := h
    obtain ⟨i1, i2, i3⟩ := Run.facts h3
    refine ⟨by simp [i1], h1, fun i o' x' ho hx => ?_⟩
    cases i with
    | zero =>
      simp only [List.getElem?_cons_zero, Option.some.injEq] at ho hx
      subst ho hx
      exact ⟨h2, i2⟩
    | succ i =>
      rw [List.getElem?_cons_succ] at ho hx
      have := i3 i o' x' ho hx
      rw [show k + 1 + i = k + (i + 1) by omega] at this
      exact this
  | [], _ :: _, _, _, _, h => h.elim
  | _ :: _, [], _, _, _, h => h.elim

end Go.Proofs.YtbobakclbdaepaaGreat.En
/- The engine, part 16: whatever order is drawn, the text's order stands for it. -/
namespace Go.Proofs.YtbobakclbdaepaaGreat.En
open Go
set_option linter.unusedVariables false
set_option linter.unusedSimpArgs false

/-! what a value stands for hangs on the blocks that it names alone -/

theorem RC.agree {f f' : Fn} {nx : Nat} {z z' : Z} (hz : z.le z') {x : CV} {v : Value} (e : ∀ b ∈ x.refs, f' b = f b) (h : RC f nx z x v) : RC f' nx z' x v := by
  cases x with
  | f x => exact RF.mono hz h
  | ptr b m i j =>
    obtain ⟨h1, rfl⟩ := h
    exact ⟨h1, by simp [ad, e b (by simp [CV.refs])]⟩
  | sl nil b m i j len cap ex sz =>
    obtain ⟨h0, h1, h2⟩ := h
    have e := e b (by simp [CV.refs])
    refine ⟨h0, h1, fun hn => ?_⟩
    obtain ⟨c, rfl, h3⟩ := h2 hn
    exact ⟨c, by simp [ad, e], by rw [e]; exact h3⟩
  | mp b => obtain ⟨h1, rfl⟩ := h; exact ⟨h1, by rw [e b (by simp [CV.refs])]⟩
  | fn g l =>
    obtain ⟨rfl, h⟩ := h
    refine ⟨?_, h⟩
    congr 2
    exact List.map_congr_left fun x hx => by simp [ad, e x.1 (by simp only [CV.refs, List.mem_map]; exact ⟨x, hx, rfl⟩)]

theorem RA.agree {f f' : Fn} {nx : Nat} {z z' : Z} (hz : z.le z') {x : AV} {v : Value} (e : ∀ b ∈ x.cells.flatMap CV.refs, f' b = f b) (h : RA f nx z x v) : RA f' nx z' x v := by
  cases x with
  | one x => exact RC.agree hz (fun b hb => e b (by simpa [AV.cells] using hb)) h
  | agg l =>
    obtain ⟨cs, rfl, h1, h2⟩ := h
    exact ⟨cs, rfl, h1, fun i y u hy hu => RC.agree hz (fun b hb => e b (List.mem_flatMap.2 ⟨y, List.mem_of_getElem? hy, hb⟩)) (h2 i y u hy hu)⟩

theorem RS.agree {f f' : Fn} {nx : Nat} {z z' : Z} (hz : z.le z') {x : SV} {v : Value} (e : ∀ b ∈ x.refs, f' b = f b) (h : RS f nx z x v) : RS f' nx z' x v := by
  cases x with
  | v x => exact RA.agree hz e h
  | tup l =>
    obtain ⟨vs, rfl, h1, h2⟩ := h
    exact ⟨vs, rfl, h1, fun i y u hy hu => RA.agree hz (fun b hb => e b (List.mem_flatMap.2 ⟨y, List.mem_of_getElem? hy, hb⟩)) (h2 i y u hy hu)⟩
  | top => trivial

theorem Ob.at_refs {o : Ob} {m i j : Nat} {x : CV} (h : o.at m i j = some x) : ∀ c ∈ x.refs, c ∈ o.refs := by
  intro c hc
  cases o with
  | cells l =>
    simp only [Ob.at] at h
    split at h
    · exact List.mem_flatMap.2 ⟨x, List.mem_of_getElem? h, hc⟩
    · cases h
  | arr live sz n e =>
    simp only [Ob.at] at h
    split at h
    · cases hq : (e i)[j]? with
      | none => rw [hq] at h; cases h
      | some y => rw [hq] at h; simp only [Option.map_some, Option.some.injEq] at h; subst h; simp [CV.refs] at hc
    · cases h
  | map es => cases h
  | dead => cases h

theorem RC.refs_lt {f : Fn} {nx : Nat} {z : Z} {x : CV} {v : Value} (h : RC f nx z x v) : ∀ b ∈ x.refs, b < nx := by
  intro b hb
  cases x with
  | f x => simp [CV.refs] at hb
  | ptr b' m i j => simp [CV.refs] at hb; subst hb; exact h.1
  | sl nil b' m i j len cap ex sz => simp [CV.refs] at hb; subst hb; exact h.1
  | mp b' => simp [CV.refs] at hb; subst hb; exact h.1
  | fn g l =>
    simp only [CV.refs, List.mem_map] at hb
    obtain ⟨x, hx, rfl⟩ := hb
    exact h.2 x hx

theorem BOk.ext {f f' : Fn} {nx : Nat} {z : Z} {w : World} {b : Nat} {o : Ob} (h : BOk f nx z w b o) (hb : b < nx) (he : Ext nx f f') : BOk f' nx z w b o := by
  have e := he b hb
  refine ⟨by rw [e]; exact h.lt, fun p => by rw [e]; exact h.own p, fun p hp => ?_, fun m i j x hx => ?_, fun es he => by rw [e]; exact h.map es he⟩
  · rw [e] at hp ⊢; exact h.room p hp
  · obtain ⟨h1, v, h2, h3⟩ := h.cell m i j x hx
    exact ⟨by rw [e]; exact h1, v, by simp only [ad, e]; exact h2, RC.mono he (Nat.le_refl _) (fun _ _ _ h => h) h3⟩

theorem BOk.agree {f f' : Fn} {nx : Nat} {z : Z} {w : World} {b : Nat} {o : Ob} (h : BOk f nx z w b o) (e : f' b = f b) (hr : ∀ m i j x, o.at m i j = some x → ∀ c ∈ x.refs, f' c = f c) : BOk f' nx z w b o := by
  refine ⟨by rw [e]; exact h.lt, fun p => by rw [e]; exact h.own p, fun p hp => ?_, fun m i j x hx => ?_, fun es he => by rw [e]; exact h.map es he⟩
  · rw [e] at hp ⊢; exact h.room p hp
  · obtain ⟨h1, v, h2, h3⟩ := h.cell m i j x hx
    exact ⟨by rw [e]; exact h1, v, by simp only [ad, e]; exact h2, RC.agree (fun _ _ _ h => h) (hr m i j x hx) h3⟩

theorem BOk.up {f : Fn} {nx nx' : Nat} {z : Z} {w : World} {b : Nat} {o : Ob} (h : BOk f nx z w b o) (hn : nx ≤ nx') : BOk f nx' z w b o :=
  ⟨h.lt, h.own, h.room, fun m i j x hx => let ⟨h1, v, h2, h3⟩ := h.cell m i j x hx; ⟨h1, v, h2, RC.mono (fun _ _ => rfl) hn (fun _ _ _ h => h) h3⟩, h.map⟩

theorem BOk.re {f f' : Fn} {nx nx' : Nat} {z z' : Z} {w w' : World} {b : Nat} {o : Ob} (h : BOk f' nx' z' w' b o) (k : BOk f nx z w b o) : BOk f' nx z' w' b o :=
  ⟨h.lt, h.own, h.room, fun m i j x hx =>
    let ⟨h1, v, h2, h3⟩ := h.cell m i j x hx
    let ⟨_, _, _, h4⟩ := k.cell m i j x hx
    ⟨h1, v, h2, RC.below h3 h4.inside⟩, h.map⟩

/-! what comes before an operation, whatever order is drawn -/

theorem closure_fold (g : Nat → Nat) (i : Nat) : ∀ (L : List Nat) (s : Nat), (L.foldl (fun s e => s ||| (1 <<< e) ||| g e) s).testBit i = true → s.testBit i = true ∨ ∃ e ∈ L, i = e ∨ (g e).testBit i = true
  | [], s, h => .inl h
  | e :: L, s, h => by
    rw [List.foldl_cons] at h
    rcases closure_fold g i L _ h with h1 | ⟨e', h1, h2⟩
    · rw [Nat.testBit_or, Nat.testBit_or, Nat.one_shiftLeft, Nat.testBit_two_pow] at h1
      simp only [Bool.or_eq_true, decide_eq_true_eq] at h1
      rcases h1 with (h1 | h1) | h1
      · exact .inl h1
      · exact .inr ⟨e, by simp, .inl h1.symm⟩
      · exact .inr ⟨e, by simp, .inr h1⟩
    · exact .inr ⟨e', by simp [h1], h2⟩

theorem closure_keeps : ∀ (l : List Oper) (acc : List Nat) (e : Nat), e < acc.length → (closure l acc).getD e 0 = acc.getD e 0
  | [], _, _, _ => rfl
  | o :: l, acc, e, h => by
    rw [closure, closure_keeps l _ e (by simp; omega)]
    simp only [List.getD_eq_getElem?_getD]
    rw [List.getElem?_append_left h]

theorem closure_spec : ∀ (l : List Oper) (acc : List Nat) (i : Nat) (o : Oper) (b : Nat), l[i]? = some o → ((closure l acc).getD (acc.length + i) 0).testBit b = true → (∀ e ∈ edges o, e < acc.length + i) →
    ∃ e ∈ edges o, b = e ∨ ((closure l acc).getD e 0).testBit b = true
  | [], _, _, _, _, h, _, _ => by simp at h
  | o :: l, acc, 0, o', b, h, hb, he => by
    simp only [List.getElem?_cons_zero, Option.some.injEq] at h
    subst h
    have e1 : (closure (o :: l) acc).getD (acc.length + 0) 0 = (edges o).foldl (fun s e => s ||| (1 <<< e) ||| acc.getD e 0) 0 := by
      rw [closure, closure_keeps l _ _ (by simp)]
      simp
    rw [e1] at hb
    rcases closure_fold (fun e => acc.getD e 0) b (edges o) 0 hb with h1 | ⟨e, h1, h2⟩
    · simp at h1
    · refine ⟨e, h1, h2.imp id fun h3 => ?_⟩
      rw [closure_keeps (o :: l) acc e (by have := he e h1; omega)]
      exact h3
  | o :: l, acc, i + 1, o', b, h, hb, he => by
    rw [List.getElem?_cons_succ] at h
    rw [closure] at hb ⊢
    have hl : (acc ++ [(edges o).foldl (fun s e => s ||| (1 <<< e) ||| acc.getD e 0) 0]).length = acc.length + 1 := by simp
    refine closure_spec l _ i o' b h ?_ ?_
    · rw [hl, show acc.length + 1 + i = acc.length + (i + 1) by omega]; exact hb
    · rw [hl]; intro e h1; have := he e h1; omega

theorem meets_false {a b : List Nat} (h : meets a b = false) : ∀ x ∈ a, x ∉ b := by
  intro x hx hb
  simp only [meets, List.any_eq_false, Bool.not_eq_true] at h
  have := h x hx x hb
  rw [Nat.beq_refl] at this
  cases this

theorem clash_false {a b : Eff} (h : clash a b = false) : (∀ x ∈ a.wr, x ∉ b.fp) ∧ (∀ x ∈ a.wr, x ∉ b.wr) ∧ ∀ x ∈ a.fp, x ∉ b.wr := by
  simp only [clash, Bool.or_eq_false_iff] at h
  exact ⟨meets_false h.1.1, meets_false h.1.2, meets_false h.2⟩

def Pre (ops : Array Oper) (i j : Nat) : Prop := ((closure ops.toList []).getD j 0).testBit i = true

structure Plan (P : Program) (ops : Array Oper) (N : Nat) (r : List Stp) (st st' : St) : Prop where
  len : r.length = ops.size
  s0 : sAt r st' 0 = st
  ok : ∀ i o x, ops[i]? = some o → r[i]? = some x → StepOk P ops N i o x ∧ sAt r st' (i + 1) = nextS o x
  pairs : ∀ i j oi oj xi xj, i < j → ops[i]? = some oi → ops[j]? = some oj → r[i]? = some xi → r[j]? = some xj → Pre ops i j ∨ (oi.apart ops oj = true ∧ clash (effS xi) (effS xj) = false)
  back : ∀ j o, ops[j]? = some o → ∀ e ∈ o.after, Region.binds .any e = true → e.on < j
  clos : ∀ j o i, ops[j]? = some o → Pre ops i j → ∃ e ∈ o.after, Region.binds .any e = true ∧ (i = e.on ∨ Pre ops i e.on)
  refs : ∀ k x, r[k]? = some x → ∀ b ∈ (effS x).rf, b < st.nx ∨ ∃ i xi, (i = k ∨ Pre ops i k) ∧ r[i]? = some xi ∧ xi.s.nx ≤ b ∧ b < xi.u.nx

theorem edges_mem {o : Oper} {e : Nat} : e ∈ edges o ↔ ∃ d ∈ o.after, Region.binds .any d = true ∧ d.on = e := by
  simp [edges, and_assoc]

theorem plan_ok {P : Program} {ops : Array Oper} {N : Nat} {r : List Stp} {st st' : St} (hr : Run (StepOk P ops N) 0 ops.toList r st st') (h : okDraw st.nx ops (r.map effS) = true) : Plan P ops N r st st' := by
  obtain ⟨f1, f2, f3⟩ := hr.facts
  simp only [okDraw, Bool.and_eq_true] at h
  obtain ⟨⟨⟨⟨_, _⟩, h3⟩, h4⟩, h5⟩ := h
  have hback : ∀ j o, ops[j]? = some o → ∀ e ∈ o.after, Region.binds .any e = true → e.on < j := by
    intro j o ho e he hb
    rw [List.all_eq_true] at h3
    have := h3 (o, j) (by
      rw [List.mem_iff_getElem?]
      exact ⟨j, by rw [List.getElem?_zipIdx]; simp [ho]⟩)
    simp only [List.all_eq_true] at this
    exact nble (this e.on (edges_mem.2 ⟨e, he, hb, rfl⟩))
  have hlen : r.length = ops.size := by simpa using f1
  refine ⟨hlen, f2, fun i o x ho hx => ?_, fun i j oi oj xi xj hij hoi hoj hxi hxj => ?_, hback, fun j o i ho hp => ?_, fun k x hx b hb => ?_⟩
  · have := f3 i o x (by simpa using ho) hx
    rw [Nat.zero_add] at this
    exact this
  · have hj : j < ops.size := (Array.getElem?_eq_some_iff.1 hoj).1
    simp only [okPairs, List.all_eq_true, List.mem_range] at h4
    have := h4 j (by simpa using hj) i hij
    rw [Bool.or_eq_true] at this
    refine this.imp id fun this => ?_
    simp only [Array.getElem?_toList, hoi, hoj, List.getElem?_map, hxi, hxj, Option.map_some, Bool.and_eq_true, Bool.not_eq_true'] at this
    exact this
  · have := closure_spec ops.toList [] j o i (by simpa using ho) (by simpa [Pre] using hp) (fun e he => by
      obtain ⟨d, h1, h2, rfl⟩ := edges_mem.1 he
      simpa using hback j o ho d h1 h2)
    obtain ⟨e, he, h⟩ := this
    obtain ⟨d, h1, h2, rfl⟩ := edges_mem.1 he
    exact ⟨d, h1, h2, h⟩
  · simp only [okRefs, List.all_eq_true, List.mem_range] at h5
    have hk : k < ops.toList.length := by rw [← f1]; exact (List.getElem?_eq_some_iff.1 hx).1
    have := h5 k hk
    simp only [List.getElem?_map, hx, Option.map_some] at this
    rw [List.all_eq_true] at this
    have := this b hb
    rw [Bool.or_eq_true] at this
    refine this.imp nble fun this => ?_
    simp only [List.any_eq_true, List.mem_range, Bool.and_eq_true, Bool.or_eq_true] at this
    obtain ⟨i, _, h6, h7⟩ := this
    split at h7
    · rename_i e' he
      cases hxi : r[i]? with
      | none => rw [hxi] at he; cases he
      | some xi =>
        rw [hxi] at he
        simp only [Option.map_some, Option.some.injEq] at he
        subst he
        simp only [Bool.and_eq_true] at h7
        exact ⟨i, xi, h6.imp (fun h => nbeq h) id, hxi, nble h7.1, nble h7.2⟩
    · cases h7

end Go.Proofs.YtbobakclbdaepaaGreat.En
/- The engine, part 17: a region that draws: the invariant of its orders. -/
namespace Go.Proofs.YtbobakclbdaepaaGreat.En
open Go
set_option linter.unusedVariables false
set_option linter.unusedSimpArgs false

def Last (Wr E : Nat → Prop) (p : Nat) : Prop := (∀ i, i + 1 = p → E i ∧ Wr i) ∧ ∀ k, E k → p ≤ k → ¬ Wr k

theorem Last.uniq {Wr E : Nat → Prop} {p q : Nat} (h : Last Wr E p) (k : Last Wr E q) : p = q := by
  have key : ∀ p q, Last Wr E p → Last Wr E q → ¬ p < q := fun p q h k hlt => by
    obtain ⟨h1, h2⟩ := k.1 (q - 1) (by omega)
    exact h.2 (q - 1) h1 (by omega) h2
  have := key p q h k
  have := key q p k h
  omega

theorem static_last (Wr : Nat → Prop) : ∀ j : Nat, ∃ p, p ≤ j ∧ (∀ i, i + 1 = p → Wr i) ∧ ∀ k, p ≤ k → k < j → ¬ Wr k
  | 0 => ⟨0, Nat.le_refl _, fun i h => by omega, fun k _ h => by omega⟩
  | j + 1 => by
    by_cases h : Wr j
    · exact ⟨j + 1, Nat.le_refl _, fun i hi => by rw [show i = j by omega]; exact h, fun k h1 h2 => by omega⟩
    · obtain ⟨p, h1, h2, h3⟩ := static_last Wr j
      refine ⟨p, by omega, h2, fun k hk hk' => ?_⟩
      rcases Nat.lt_or_ge k j with h4 | h4
      · exact h3 k hk h4
      · rw [show k = j by omega]; exact h

def WrB (r : List Stp) (b : Nat) (i : Nat) : Prop := ∃ x, r[i]? = some x ∧ b ∈ x.u.wr
def WrT (ops : Array Oper) (t : Nat) (i : Nat) : Prop := ∃ o, ops[i]? = some o ∧ o.dst = some t

section
variable {P : Program} {ops : Array Oper} {N : Nat} {r : List Stp} {st st' : St} (hP : Plan P ops N r st st')
include hP

theorem Plan.get {i : Nat} (hi : i < ops.size) : ∃ o x, ops[i]? = some o ∧ r[i]? = some x ∧ x.s = sAt r st' i ∧ StepOk P ops N i o x ∧ sAt r st' (i + 1) = nextS o x := by
  have h1 : i < r.length := by rw [hP.len]; exact hi
  refine ⟨ops[i], r[i], by simp [hi], by simp [h1], ?_, hP.ok i _ _ (by simp [hi]) (by simp [h1])⟩
  simp [sAt, h1]

theorem Plan.after {i : Nat} (hi : i < ops.size) {o : Oper} {x : Stp} (ho : ops[i]? = some o) (hx : r[i]? = some x) :
    x.s = sAt r st' i ∧ (sAt r st' (i + 1)).H = x.u.H ∧ (sAt r st' (i + 1)).nx = x.u.nx ∧ (sAt r st' (i + 1)).esc = (x.s.esc || x.u.esc) ∧
      (∀ t, (sAt r st' (i + 1)).sl.get t = if o.dst = some t then x.u.v else x.s.sl.get t) := by
  obtain ⟨_, h2⟩ := hP.ok i o x ho hx
  refine ⟨by simp [sAt, hx], ?_⟩
  rw [h2]
  unfold nextS
  cases hd : o.dst with
  | none => exact ⟨rfl, rfl, rfl, fun t => by simp [St.put, St.up]⟩
  | some d =>
    refine ⟨rfl, rfl, rfl, fun t => ?_⟩
    simp only [St.put]
    rw [Slots.get_cons]
    simp [St.up]

theorem Plan.nx_le : ∀ {i j : Nat}, i ≤ j → j ≤ ops.size → (sAt r st' i).nx ≤ (sAt r st' j).nx
  | i, 0, h, _ => by rw [show i = 0 by omega]; exact Nat.le_refl _
  | i, j + 1, h, hj => by
    rcases Nat.lt_or_ge j i with h1 | h1
    · rw [show i = j + 1 by omega]; exact Nat.le_refl _
    · obtain ⟨o, x, ho, hx, hs, hok, _⟩ := hP.get (i := j) (by omega)
      have := Plan.nx_le (i := i) (j := j) h1 (by omega)
      have h2 := hok.nx
      rw [(hP.after (by omega) ho hx).2.2.1]
      rw [hs] at h2
      omega

theorem Plan.chainH {b : Nat} {p : Nat} : ∀ {j : Nat}, p ≤ j → j ≤ ops.size → (∀ k, p ≤ k → k < j → ¬ WrB r b k) → (sAt r st' j).H.get b = (sAt r st' p).H.get b
  | 0, h, _, _ => by rw [show p = 0 by omega]
  | j + 1, h, hj, hn => by
    rcases Nat.lt_or_ge j p with h1 | h1
    · rw [show p = j + 1 by omega]
    · obtain ⟨o, x, ho, hx, hs, hok, _⟩ := hP.get (i := j) (by omega)
      rw [(hP.after (by omega) ho hx).2.1, hok.keep b fun hb => hn j h1 (by omega) ⟨x, hx, hb⟩, hs]
      exact Plan.chainH (j := j) h1 (by omega) fun k h2 h3 => hn k h2 (by omega)

theorem Plan.chainS {t : Nat} {p : Nat} : ∀ {j : Nat}, p ≤ j → j ≤ ops.size → (∀ k, p ≤ k → k < j → ¬ WrT ops t k) → (sAt r st' j).sl.get t = (sAt r st' p).sl.get t
  | 0, h, _, _ => by rw [show p = 0 by omega]
  | j + 1, h, hj, hn => by
    rcases Nat.lt_or_ge j p with h1 | h1
    · rw [show p = j + 1 by omega]
    · obtain ⟨o, x, ho, hx, hs, hok, _⟩ := hP.get (i := j) (by omega)
      rw [(hP.after (by omega) ho hx).2.2.2.2 t, if_neg fun hd => hn j h1 (by omega) ⟨o, ho, hd⟩, hs]
      exact Plan.chainS (j := j) h1 (by omega) fun k h2 h3 => hn k h2 (by omega)

theorem Plan.noLive (h0 : ∀ b, st.nx ≤ b → ¬ (st.H.get b).live) : ∀ {j : Nat}, j ≤ ops.size → ∀ b, (sAt r st' j).nx ≤ b → ¬ ((sAt r st' j).H.get b).live
  | 0, _, b, hb => by rw [hP.s0] at hb ⊢; exact h0 b hb
  | j + 1, hj, b, hb => by
    obtain ⟨o, x, ho, hx, hs, hok, _⟩ := hP.get (i := j) (by omega)
    obtain ⟨_, a1, a2, _⟩ := hP.after (by omega) ho hx
    rw [a1]
    rw [a2] at hb
    have hnw : b ∉ x.u.wr := fun h => by have := hok.lt b h; omega
    rw [hok.keep b hnw, hs]
    refine Plan.noLive h0 (j := j) (by omega) b ?_
    have := hok.nx
    rw [hs] at this
    omega

/-- what is written once more is written in the text's order -/
theorem Plan.wrH {i j : Nat} {b : Nat} {xj : Stp} (hij : i < j) (hj : j < ops.size) (hi : WrB r b i) (hxj : r[j]? = some xj) (hb : b ∈ xj.u.fp ∨ b ∈ xj.u.wr) : Pre ops i j := by
  obtain ⟨xi, hxi, hbi⟩ := hi
  obtain ⟨oi, _, hoi, _⟩ := hP.get (i := i) (by omega)
  obtain ⟨oj, _, hoj, _⟩ := hP.get (i := j) hj
  rcases hP.pairs i j oi oj xi xj hij hoi hoj hxi hxj with h | ⟨_, h⟩
  · exact h
  · obtain ⟨c1, c2, _⟩ := clash_false h
    rcases hb with hb | hb
    · exact absurd hb (c1 b hbi)
    · exact absurd hb (c2 b hbi)

theorem Plan.wrH' {i j : Nat} {b : Nat} {xi : Stp} (hij : i < j) (hj : j < ops.size) (hxi : r[i]? = some xi) (hb : b ∈ xi.u.fp ∨ b ∈ xi.u.wr) (h : WrB r b j) : Pre ops i j := by
  obtain ⟨xj, hxj, hbj⟩ := h
  obtain ⟨oi, _, hoi, _⟩ := hP.get (i := i) (by omega)
  obtain ⟨oj, _, hoj, _⟩ := hP.get (i := j) hj
  rcases hP.pairs i j oi oj xi xj hij hoi hoj hxi hxj with h | ⟨_, h⟩
  · exact h
  · obtain ⟨_, c2, c3⟩ := clash_false h
    rcases hb with hb | hb
    · exact absurd hbj (c3 b hb)
    · exact absurd hbj (c2 b hb)

theorem Plan.wrT {i j : Nat} {t : Nat} {oj : Oper} (hij : i < j) (hoj : ops[j]? = some oj) (hi : WrT ops t i) (hb : t ∈ oj.looksAt ops ∨ oj.dst = some t) : Pre ops i j := by
  obtain ⟨oi, hoi, hd⟩ := hi
  have hj : j < ops.size := (Array.getElem?_eq_some_iff.1 hoj).1
  obtain ⟨_, xi, _, hxi, _⟩ := hP.get (i := i) (by omega)
  obtain ⟨_, xj, _, hxj, _⟩ := hP.get (i := j) hj
  rcases hP.pairs i j oi oj xi xj hij hoi hoj hxi hxj with h | ⟨h, _⟩
  · exact h
  · obtain ⟨c1, c2, _⟩ := Oper.apart_spec h
    rcases hb with hb | hb
    · exact absurd hb (c1 t hd)
    · exact absurd hb (c2 t hd)

theorem Plan.wrT' {i j : Nat} {t : Nat} {oi : Oper} (hij : i < j) (hoi : ops[i]? = some oi) (hj : WrT ops t j) (hb : t ∈ oi.looksAt ops ∨ oi.dst = some t) : Pre ops i j := by
  obtain ⟨oj, hoj, hd⟩ := hj
  have hj : j < ops.size := (Array.getElem?_eq_some_iff.1 hoj).1
  obtain ⟨_, xi, _, hxi, _⟩ := hP.get (i := i) (by omega)
  obtain ⟨_, xj, _, hxj, _⟩ := hP.get (i := j) hj
  rcases hP.pairs i j oi oj xi xj hij hoi hoj hxi hxj with h | ⟨h, _⟩
  · exact h
  · obtain ⟨_, c2, c3⟩ := Oper.apart_spec h
    rcases hb with hb | hb
    · exact absurd hb (c3 t hd)
    · exact absurd hd (c2 t hb)

/-- where a block that an operation looks at was written last -/
theorem Plan.atH {E : Nat → Prop} (hEn : ∀ k, E k → k < ops.size) (hdown : ∀ i k, E k → Pre ops i k → E i) {j : Nat} (hj : j < ops.size) (hnj : ¬ E j) (hready : ∀ i, Pre ops i j → E i) {x : Stp} (hx : r[j]? = some x)
    {b : Nat} (hb : b ∈ x.u.fp ∨ b ∈ x.u.wr) : ∃ p, p ≤ j ∧ Last (WrB r b) E p ∧ (sAt r st' j).H.get b = (sAt r st' p).H.get b := by
  obtain ⟨p, h1, h2, h3⟩ := static_last (WrB r b) j
  refine ⟨p, h1, ⟨fun i hi => ⟨hready i (hP.wrH (by omega) hj (h2 i hi) hx hb), h2 i hi⟩, fun k hk hpk hw => ?_⟩, hP.chainH h1 (by omega) h3⟩
  rcases Nat.lt_trichotomy k j with h | h | h
  · exact h3 k hpk h hw
  · exact hnj (h ▸ hk)
  · exact hnj (hdown j k hk (hP.wrH' h (hEn k hk) hx hb hw))

theorem Plan.atS {E : Nat → Prop} (hEn : ∀ k, E k → k < ops.size) (hdown : ∀ i k, E k → Pre ops i k → E i) {j : Nat} (hj : j < ops.size) (hnj : ¬ E j) (hready : ∀ i, Pre ops i j → E i) {o : Oper} (ho : ops[j]? = some o)
    {t : Nat} (hb : t ∈ o.looksAt ops) : ∃ p, p ≤ j ∧ Last (WrT ops t) E p ∧ (sAt r st' j).sl.get t = (sAt r st' p).sl.get t := by
  obtain ⟨p, h1, h2, h3⟩ := static_last (WrT ops t) j
  refine ⟨p, h1, ⟨fun i hi => ⟨hready i (hP.wrT (by omega) ho (h2 i hi) (.inl hb)), h2 i hi⟩, fun k hk hpk hw => ?_⟩, hP.chainS h1 (by omega) h3⟩
  rcases Nat.lt_trichotomy k j with h | h | h
  · exact h3 k hpk h hw
  · exact hnj (h ▸ hk)
  · exact hnj (hdown j k hk (hP.wrT' h ho hw (.inl hb)))

end

/-- what holds when the operations E have been carried out, in whatever order -/
structure Inv (N : Nat) (ops : Array Oper) (r : List Stp) (st st' : St) (f0 : Fn) (z0 : Z) (w0 : World) (ds : List Deferred) (E : Nat → Prop) (f : Fn) (z : Z) (w : World) (a : Act) : Prop where
  size : a.tmps.size = N
  defs : a.defers = ds
  ext : Ext st.nx f0 f
  zle : z0.le z
  znew : ∀ k o v, z k o = some v → z0 k o = some v ∨ w0.heap.size ≤ k ∨ img All f0 st.H k
  zok : ∀ k o v, z k o = some v → w.cell? ⟨k, o, none⟩ = some v
  fr : Fr (img All f0 st.H) w0 w
  sl : ∀ t p, p ≤ ops.size → Last (WrT ops t) E p → RS f (sAt r st' p).nx z ((sAt r st' p).sl.get t) (a.tmps.getD t undef)
  hp : ∀ b p, p ≤ ops.size → Last (WrB r b) E p → ((sAt r st' p).H.get b).live → b < (sAt r st' p).nx ∧ BOk f (sAt r st' p).nx z w b ((sAt r st' p).H.get b) ∧
    (b < st.nx → (st.H.get b).live) ∧ (st.nx ≤ b → w0.heap.size ≤ (f b).k ∨ img All f0 st.H (f b).k)
  inj : ∀ b c p q, p ≤ ops.size → q ≤ ops.size → Last (WrB r b) E p → Last (WrB r c) E q → ((sAt r st' p).H.get b).live → ((sAt r st' q).H.get c).live → b ≠ c → (f b).k ≠ (f c).k
  noesc : ∀ k x, E k → r[k]? = some x → x.u.esc = false → ∀ m, m ≤ x.s.nx → NoNew m x.s.H → NoNew m x.u.H

end Go.Proofs.YtbobakclbdaepaaGreat.En
/- The engine, part 18: a region that draws: one operation more. -/
namespace Go.Proofs.YtbobakclbdaepaaGreat.En
open Go
set_option linter.unusedVariables false
set_option linter.unusedSimpArgs false

section
variable {P : Program} {ops : Array Oper} {N : Nat} {r : List Stp} {st st' : St} (hP : Plan P ops N r st st') {f0 : Fn} {z0 : Z} {w0 : World} {ds : List Deferred}
include hP

/-- what is executed names blocks that are made -/
theorem Plan.named {E : Nat → Prop} (hEn : ∀ k, E k → k < ops.size) (hdown : ∀ i k, E k → Pre ops i k → E i) {j : Nat} (hj : j < ops.size) (hnj : ¬ E j) {x : Stp} (hx : r[j]? = some x) {k : Nat} (hk : E k) {y : Stp} (hy : r[k]? = some y)
    {b : Nat} (hb : b ∈ (effS y).rf) : ¬ (x.s.nx ≤ b ∧ b < x.u.nx) := by
  rintro ⟨h1, h2⟩
  have hxs : x.s = sAt r st' j := by simp [sAt, hx]
  rcases hP.refs k y hy b hb with h | ⟨i, xi, hi, hxi, h3, h4⟩
  · have := hP.nx_le (i := 0) (j := j) (by omega) (by omega)
    rw [hP.s0, ← hxs] at this
    omega
  · have hEi : E i := by
      rcases hi with rfl | hi
      · exact hk
      · exact hdown i k hk hi
    have hin := hEn i hEi
    obtain ⟨oi, xi', hoi, hxi', hsi, hoki, _⟩ := hP.get (i := i) hin
    rw [hxi] at hxi'
    simp only [Option.some.injEq] at hxi'
    subst hxi'
    obtain ⟨oj, xj', hoj, hxj', hsj, hokj, _⟩ := hP.get (i := j) hj
    rw [hx] at hxj'
    simp only [Option.some.injEq] at hxj'
    subst hxj'
    rcases Nat.lt_trichotomy i j with h | h | h
    · have := hP.nx_le (i := i + 1) (j := j) (by omega) (by omega)
      rw [(hP.after hin hoi hxi).2.2.1, ← hxs] at this
      omega
    · exact hnj (h ▸ hEi)
    · have := hP.nx_le (i := j + 1) (j := i) (by omega) (by omega)
      rw [(hP.after hj hoj hx).2.2.1, ← hsi] at this
      omega

theorem Inv.step (h0 : ∀ b, st.nx ≤ b → ¬ (st.H.get b).live) {E : Nat → Prop} (hEn : ∀ k, E k → k < ops.size) (hdown : ∀ i k, E k → Pre ops i k → E i) {j : Nat} (hj : j < ops.size) (hnj : ¬ E j) (hready : ∀ i, Pre ops i j → E i)
    {f : Fn} {z : Z} {w : World} {a : Act} (hI : Inv N ops r st st' f0 z0 w0 ds E f z w a) (K : Act → World → Prop) (Q : Exit → Act → World → Prop)
    (hK : ∀ f' z' w' a', Inv N ops r st st' f0 z0 w0 ds (fun k => E k ∨ k = j) f' z' w' a' → K a' w') : wpOp P ops Q j K a w := by
  obtain ⟨o, x, ho, hx, hs, hok, _⟩ := hP.get hj
  obtain ⟨_, aH, anx, aesc, asl⟩ := hP.after hj ho hx
  have hn0 : st.nx ≤ x.s.nx := by
    have := hP.nx_le (i := 0) (j := j) (by omega) (by omega)
    rwa [hP.s0, ← hs] at this
  have atH := fun {b : Nat} (hb : b ∈ x.u.fp ∨ b ∈ x.u.wr) => hP.atH hEn hdown hj hnj hready hx hb
  -- what it looks at is as in the text's order
  have hpos : ∀ {b : Nat}, (b ∈ x.u.fp ∨ b ∈ x.u.wr) → (x.s.H.get b).live → ∃ p, p ≤ j ∧ Last (WrB r b) E p ∧ x.s.H.get b = (sAt r st' p).H.get b ∧ ((sAt r st' p).H.get b).live := fun hb hl => by
    obtain ⟨p, h1, h2, h3⟩ := atH hb
    rw [← hs] at h3
    exact ⟨p, h1, h2, h3, by rw [← h3]; exact hl⟩
  have hrel : Rel (Sx x.u.fp x.u.wr) f x.s.nx z w x.s.H := by
    refine ⟨fun b hb hl => ?_, fun b c hb hc hl hl' hne => ?_, hI.zok⟩
    · obtain ⟨p, h1, h2, h3, h4⟩ := hpos hb hl
      obtain ⟨h5, h6, _⟩ := hI.hp b p (by omega) h2 h4
      have hle := hP.nx_le (i := p) (j := j) h1 (by omega)
      rw [← hs] at hle
      rw [h3]
      exact ⟨by omega, h6.up hle⟩
    · obtain ⟨p, h1, h2, _, h4⟩ := hpos hb hl
      obtain ⟨q, k1, k2, _, k4⟩ := hpos hc hl'
      exact hI.inj b c p q (by omega) (by omega) h2 k2 h4 k4 hne
  refine hok.sem f z w a (fun t ht => ?_) hrel (fun b hb => ?_) K Q fun f' z' w' v' hp hv => ?_
  · obtain ⟨p, h1, h2, h3⟩ := hP.atS hEn hdown hj hnj hready ho ht
    have hle := hP.nx_le (i := p) (j := j) h1 (by omega)
    rw [hs, h3]
    exact RS.mono (fun _ _ => rfl) hle (fun _ _ _ h => h) (hI.sl t p (by omega) h2)
  · rw [hs] at hb ⊢
    exact hP.noLive h0 (by omega) b hb
  -- behind it
  let g : Fn := fun b => if x.s.nx ≤ b ∧ b < x.u.nx then f' b else f b
  have e1 : Ext x.u.nx f' g := fun b hb => by
    show (if x.s.nx ≤ b ∧ b < x.u.nx then f' b else f b) = f' b
    by_cases h : x.s.nx ≤ b
    · rw [if_pos ⟨h, hb⟩]
    · rw [if_neg (fun e => h e.1)]
      exact (hp.ext b (by omega)).symm
  have e2 : ∀ b, b ∉ x.u.wr → g b = f b := fun b hb => by
    show (if x.s.nx ≤ b ∧ b < x.u.nx then f' b else f b) = f b
    rw [if_neg (fun e => hb (hok.new b e.1 e.2))]
  have e3 : ∀ b, ¬ (x.s.nx ≤ b ∧ b < x.u.nx) → g b = f b := fun b hb => by
    show (if x.s.nx ≤ b ∧ b < x.u.nx then f' b else f b) = f b
    rw [if_neg hb]
  have e4 : Ext st.nx f g := fun b hb => e3 b (by omega)
  -- the blocks that it was told of
  have hY : ∀ d, (d ∈ x.u.fp ∨ d ∈ x.u.wr) → (x.s.H.get d).live → w0.heap.size ≤ (f d).k ∨ img All f0 st.H (f d).k := fun d hd hl => by
    obtain ⟨p, h1, h2, _, h4⟩ := hpos hd hl
    obtain ⟨_, _, h6, h7⟩ := hI.hp d p (by omega) h2 h4
    rcases Nat.lt_or_ge d st.nx with h | h
    · exact .inr ⟨d, trivial, h6 h, by rw [hI.ext d h]⟩
    · exact h7 h
  have himg : ∀ k, img (Sx x.u.fp x.u.wr) f x.s.H k → w0.heap.size ≤ k ∨ img All f0 st.H k := by
    rintro k ⟨d, hd, hl, rfl⟩
    exact hY d hd hl
  have hZ : ∀ b, (b ∈ x.u.fp ∨ b ∈ x.u.wr) → (x.u.H.get b).live → w.heap.size ≤ (f' b).k ∨ ∃ d, (d ∈ x.u.fp ∨ d ∈ x.u.wr) ∧ (x.s.H.get d).live ∧ (f d).k = (f' b).k := fun b hb hl => by
    rcases Nat.lt_or_ge b x.s.nx with h | h
    · exact .inr ⟨b, hb, hp.dead b h hl, by rw [hp.ext b h]⟩
    · exact (hp.fresh b h hl).imp id fun ⟨d, h1, h2, h3⟩ => ⟨d, h1, h2, h3⟩
  have hlastT : ∀ t p, Last (WrT ops t) (fun k => E k ∨ k = j) p → o.dst ≠ some t → Last (WrT ops t) E p := fun t p hL hd =>
    ⟨fun i hi => by
      obtain ⟨h1, h2⟩ := hL.1 i hi
      refine ⟨h1.resolve_right fun e => ?_, h2⟩
      obtain ⟨oi, h3, h4⟩ := h2
      rw [e, ho] at h3
      simp only [Option.some.injEq] at h3
      exact hd (h3 ▸ h4), fun k hk => hL.2 k (.inl hk)⟩
  have hlastB : ∀ b p, Last (WrB r b) (fun k => E k ∨ k = j) p → b ∉ x.u.wr → Last (WrB r b) E p := fun b p hL hd =>
    ⟨fun i hi => by
      obtain ⟨h1, h2⟩ := hL.1 i hi
      refine ⟨h1.resolve_right fun e => ?_, h2⟩
      obtain ⟨xi, h3, h4⟩ := h2
      rw [e, hx] at h3
      simp only [Option.some.injEq] at h3
      exact hd (h3 ▸ h4), fun k hk => hL.2 k (.inl hk)⟩
  have hatT : ∀ t p, Last (WrT ops t) (fun k => E k ∨ k = j) p → o.dst = some t → p = j + 1 := fun t p hL hd => by
    have h1 : ¬ p ≤ j := fun h => hL.2 j (.inr rfl) h ⟨o, ho, hd⟩
    rcases Nat.lt_or_ge (j + 1) p with h | h
    · obtain ⟨h2, h3⟩ := hL.1 (p - 1) (by omega)
      have h2 := h2.resolve_right (by omega)
      exact absurd (hdown j (p - 1) h2 (hP.wrT' (by omega) ho h3 (.inr hd))) hnj
    · omega
  have hatB : ∀ b p, Last (WrB r b) (fun k => E k ∨ k = j) p → b ∈ x.u.wr → p = j + 1 := fun b p hL hd => by
    have h1 : ¬ p ≤ j := fun h => hL.2 j (.inr rfl) h ⟨x, hx, hd⟩
    rcases Nat.lt_or_ge (j + 1) p with h | h
    · obtain ⟨h2, h3⟩ := hL.1 (p - 1) (by omega)
      have h2 := h2.resolve_right (by omega)
      exact absurd (hdown j (p - 1) h2 (hP.wrH' (by omega) (hEn _ h2) hx (.inr hd) h3)) hnj
    · omega
  -- a block that it doesn't write, but looks at
  have hread : ∀ b p, Last (WrB r b) E p → b ∈ x.u.fp → b ∉ x.u.wr → p ≤ j ∧ x.u.H.get b = (sAt r st' p).H.get b := fun b p hL hb hn => by
    obtain ⟨q, h1, h2, h3⟩ := atH (.inl hb)
    have := hL.uniq h2
    subst this
    refine ⟨h1, ?_⟩
    rw [hok.keep b hn, hs, h3]
  refine hK g z' w' _ ⟨?_, ?_, ?_, ?_, ?_, hp.rel.zok, ?_, ?_, ?_, ?_, ?_⟩
  · cases hd : o.dst with
    | none => exact hI.size
    | some d => simp [Act.put]; exact hI.size
  · cases hd : o.dst with
    | none => exact hI.defs
    | some d => exact hI.defs
  · exact fun b hb => (e4 b hb).trans (hI.ext b hb)
  · exact fun k p v h => hp.zle _ _ _ (hI.zle _ _ _ h)
  · intro k p v h
    rcases hp.znew k p v h with h1 | h1 | h1
    · exact hI.znew k p v h1
    · exact .inr (.inl (Nat.le_trans hI.fr.size h1))
    · exact .inr (himg k h1)
  · refine hI.fr.trans hp.fr fun k hk hi => ?_
    rcases himg k hi with h1 | h1
    · omega
    · exact h1
  -- slots
  · intro t p hpn hL
    by_cases hd : o.dst = some t
    · have := hatT t p hL hd
      subst this
      have hlt : t < a.tmps.size := by rw [hI.size]; exact hok.dst t hd
      rw [anx, asl t, if_pos hd]
      have : (a.put o.dst v').tmps.getD t undef = v' := by
        rw [hd]
        simp only [Act.put]
        rw [Array.getD_eq_getD_getElem?, Array.getElem?_setIfInBounds_self_of_lt hlt]
        rfl
      rw [this]
      exact RS.mono e1 (Nat.le_refl _) (fun _ _ _ h => h) hv
    · have hL' := hlastT t p hL hd
      have : (a.put o.dst v').tmps.getD t undef = a.tmps.getD t undef := by
        cases hd' : o.dst with
        | none => rfl
        | some d =>
          simp only [Act.put]
          rw [Array.getD_eq_getD_getElem?, Array.getD_eq_getD_getElem?, Array.getElem?_setIfInBounds_ne (fun e => hd (by rw [hd', e]))]
      rw [this]
      have hold := hI.sl t p hpn hL'
      cases p with
      | zero =>
        rw [hP.s0] at hold ⊢
        exact RS.mono e4 (Nat.le_refl _) hp.zle hold
      | succ i =>
        obtain ⟨hEi, oi, hoi, hdi⟩ := hL'.1 i rfl
        obtain ⟨_, xi, _, hxi, _⟩ := hP.get (hEn i hEi)
        have hsl := (hP.after (hEn i hEi) hoi hxi).2.2.2.2 t
        rw [if_pos hdi] at hsl
        refine RS.agree hp.zle (fun b hb => e3 b (hP.named hEn hdown hj hnj hx hEi hxi ?_)) hold
        rw [hsl] at hb
        exact List.mem_append.2 (.inl hb)
  -- blocks
  · intro b p hpn hL hl
    by_cases hd : b ∈ x.u.wr
    · have := hatB b p hL hd
      subst this
      rw [aH] at hl
      rw [aH, anx]
      obtain ⟨h1, h2⟩ := hp.rel.own b (.inl (.inr hd)) hl
      refine ⟨h1, h2.ext h1 e1, fun hb => ?_, fun hb => ?_⟩
      · have hl' := hp.dead b (by omega) hl
        obtain ⟨q, k1, k2, _, k4⟩ := hpos (.inr hd) hl'
        exact (hI.hp b q (by omega) k2 k4).2.2.1 hb
      · rw [e1 b h1]
        rcases hZ b (.inr hd) hl with h3 | ⟨d, h3, h4, h5⟩
        · exact .inl (Nat.le_trans hI.fr.size h3)
        · rw [← h5]; exact hY d h3 h4
    · have hL' := hlastB b p hL hd
      obtain ⟨h1, h2, h3, h4⟩ := hI.hp b p hpn hL' hl
      have eb := e2 b hd
      refine ⟨h1, ?_, h3, fun hb => by rw [eb]; exact h4 hb⟩
      by_cases hf : b ∈ x.u.fp
      · obtain ⟨hpj, hg⟩ := hread b p hL' hf hd
        have hl2 : (x.u.H.get b).live := by rw [hg]; exact hl
        obtain ⟨k1, k2⟩ := hp.rel.own b (.inl (.inl hf)) hl2
        rw [hg] at k2
        exact (k2.ext k1 e1).re h2
      · have hni : ¬ img (Sx x.u.fp x.u.wr) f x.s.H (f b).k := by
          rintro ⟨d, hd', hdl, he⟩
          obtain ⟨q, q1, q2, _, q4⟩ := hpos hd' hdl
          refine hI.inj d b q p (by omega) hpn q2 hL' q4 hl (fun e => ?_) he
          subst e
          exact hd'.elim hf hd
        have hk : BOk f (sAt r st' p).nx z' w' b ((sAt r st' p).H.get b) := h2.kept h1 hp.fr hni (fun _ _ => rfl) (Nat.le_refl _) hp.zle hp.znew
        refine hk.agree eb fun m i k y hy c hc => ?_
        cases p with
        | zero =>
          obtain ⟨_, u, _, hu⟩ := hk.cell m i k y hy
          have := RC.refs_lt hu c hc
          rw [hP.s0] at this
          exact e4 c this
        | succ i' =>
          obtain ⟨hEi, xi, hxi, hbi⟩ := hL'.1 i' rfl
          obtain ⟨oi, _, hoi, _⟩ := hP.get (hEn i' hEi)
          refine e3 c (hP.named hEn hdown hj hnj hx hEi hxi ?_)
          rw [(hP.after (hEn i' hEi) hoi hxi).2.1] at hy
          exact List.mem_append.2 (.inr (List.mem_flatMap.2 ⟨b, hbi, Ob.at_refs hy c hc⟩))
  -- no two of them are one
  · -- what is told of behind it
    have hin : ∀ b p, Last (WrB r b) (fun k => E k ∨ k = j) p → p ≤ ops.size → ((sAt r st' p).H.get b).live → (b ∈ x.u.fp ∨ b ∈ x.u.wr) → (x.u.H.get b).live ∧ g b = f' b := fun b p hL hpn hl hb => by
      by_cases hd : b ∈ x.u.wr
      · have := hatB b p hL hd
        subst this
        rw [aH] at hl
        exact ⟨hl, e1 b (hok.lt b hd)⟩
      · have hf := hb.resolve_right hd
        have hL' := hlastB b p hL hd
        obtain ⟨hpj, hg⟩ := hread b p hL' hf hd
        have hlt := (hI.hp b p hpn hL' hl).1
        have hle := hP.nx_le (i := p) (j := j) hpj (by omega)
        rw [← hs] at hle
        have := hok.nx
        exact ⟨by rw [hg]; exact hl, e1 b (by omega)⟩
    have side : ∀ b c p q, Last (WrB r b) (fun k => E k ∨ k = j) p → Last (WrB r c) (fun k => E k ∨ k = j) q → p ≤ ops.size → q ≤ ops.size → ((sAt r st' p).H.get b).live → ((sAt r st' q).H.get c).live →
        (b ∈ x.u.fp ∨ b ∈ x.u.wr) → ¬ (c ∈ x.u.fp ∨ c ∈ x.u.wr) → (g b).k ≠ (g c).k := by
      intro b c p q hp1 hq1 hpn hqn hl hl' hb hc
      simp only [not_or] at hc
      obtain ⟨hb1, hb2⟩ := hin b p hp1 hpn hl hb
      have hL' := hlastB c q hq1 hc.2
      rw [hb2, e2 c hc.2]
      rcases hZ b hb hb1 with h3 | ⟨d, h3, h4, h5⟩
      · have := (hI.hp c q hqn hL' hl').2.1.lt
        omega
      · obtain ⟨p', k1, k2, _, k4⟩ := hpos h3 h4
        rw [← h5]
        refine hI.inj d c p' q (by omega) hqn k2 hL' k4 hl' fun e => ?_
        subst e
        exact h3.elim hc.1 hc.2
    intro b c p q hpn hqn hp1 hq1 hl hl' hne
    by_cases hb : b ∈ x.u.fp ∨ b ∈ x.u.wr
    · by_cases hc : c ∈ x.u.fp ∨ c ∈ x.u.wr
      · obtain ⟨hb1, hb2⟩ := hin b p hp1 hpn hl hb
        obtain ⟨hc1, hc2⟩ := hin c q hq1 hqn hl' hc
        rw [hb2, hc2]
        exact hp.rel.inj b c (.inl hb) (.inl hc) hb1 hc1 hne
      · exact side b c p q hp1 hq1 hpn hqn hl hl' hb hc
    · by_cases hc : c ∈ x.u.fp ∨ c ∈ x.u.wr
      · exact (side c b q p hq1 hp1 hqn hpn hl' hl hc hb).symm
      · simp only [not_or] at hb hc
        rw [e2 b hb.2, e2 c hc.2]
        exact hI.inj b c p q hpn hqn (hlastB b p hp1 hb.2) (hlastB c q hq1 hc.2) hl hl' hne
  · intro k y hk hy he
    rcases hk with hk | rfl
    · exact hI.noesc k y hk hy he
    · rw [hx] at hy
      simp only [Option.some.injEq] at hy
      subst hy
      exact hp.noesc he

end

end Go.Proofs.YtbobakclbdaepaaGreat.En
/- The engine, part 19: a region that draws, whole. -/
namespace Go.Proofs.YtbobakclbdaepaaGreat.En
open Go
set_option linter.unusedVariables false
set_option linter.unusedSimpArgs false

section
variable {P : Program} {ops : Array Oper} {N : Nat} {r : List Stp} {st st' : St} (hP : Plan P ops N r st st') {f0 : Fn} {z0 : Z} {w0 : World} {ds : List Deferred}
include hP

theorem Inv.start {f : Fn} {z : Z} {w : World} {a : Act} {E : Nat → Prop} (hE : ∀ k, ¬ E k) (ht : TR f st.nx z st.sl a.tmps) (hr : Rel All f st.nx z w st.H) (hN : a.tmps.size = N) : Inv N ops r st st' f z w a.defers E f z w a := by
  have h0 : ∀ {Wr : Nat → Prop} {p : Nat}, Last Wr E p → p = 0 := fun {Wr p} h => by
    cases p with
    | zero => rfl
    | succ i => exact absurd (h.1 i rfl).1 (hE i)
  refine ⟨hN, rfl, fun _ _ => rfl, fun _ _ _ h => h, fun _ _ _ h => .inl h, hr.zok, Fr.refl _ _, fun t p _ hL => ?_, fun b p _ hL hl => ?_, fun b c p q _ _ hL hL' hl hl' hne => ?_, fun k x hk => absurd hk (hE k)⟩
  · rw [h0 hL, hP.s0]; exact ht t
  · rw [h0 hL, hP.s0] at hl ⊢
    obtain ⟨h1, h2⟩ := hr.own b trivial hl
    exact ⟨h1, h2, fun _ => hl, fun h => by omega⟩
  · rw [h0 hL, hP.s0] at hl
    rw [h0 hL', hP.s0] at hl'
    exact hr.inj b c trivial trivial hl hl' hne

theorem Inv.done {f : Fn} {z : Z} {w : World} {a : Act} {E : Nat → Prop} (hE : ∀ k, E k ↔ k < ops.size) (hI : Inv N ops r st st' f0 z0 w0 ds E f z w a) : Post All f0 st.nx z0 w0 st.H f st'.nx z w st'.H st'.esc ∧ TR f st'.nx z st'.sl a.tmps := by
  have hn : sAt r st' ops.size = st' := by
    have : r[ops.size]? = none := List.getElem?_eq_none (by rw [hP.len]; exact Nat.le_refl _)
    simp [sAt, this]
  have hnx : st.nx ≤ st'.nx := by
    have := hP.nx_le (i := 0) (j := ops.size) (by omega) (by omega)
    rwa [hP.s0, hn] at this
  have lastOf : ∀ (Wr : Nat → Prop) p, (∀ i, i + 1 = p → Wr i) → p ≤ ops.size → (∀ k, p ≤ k → k < ops.size → ¬ Wr k) → Last Wr E p := fun Wr p h1 h2 h3 =>
    ⟨fun i hi => ⟨(hE i).2 (by omega), h1 i hi⟩, fun k hk hpk => h3 k hpk ((hE k).1 hk)⟩
  have hpos : ∀ b, ∃ p, p ≤ ops.size ∧ Last (WrB r b) E p ∧ st'.H.get b = (sAt r st' p).H.get b ∧ (sAt r st' p).nx ≤ st'.nx := fun b => by
    obtain ⟨p, h1, h2, h3⟩ := static_last (WrB r b) ops.size
    refine ⟨p, h1, lastOf _ p h2 h1 h3, ?_, ?_⟩
    · have := hP.chainH h1 (Nat.le_refl _) h3
      rwa [hn] at this
    · have := hP.nx_le h1 (Nat.le_refl _)
      rwa [hn] at this
  refine ⟨⟨hnx, hI.ext, hI.zle, hI.znew, fun b _ hs => absurd trivial hs, fun b hb hl => ?_, ⟨fun b _ hl => ?_, fun b c _ _ hl hl' hne => ?_, hI.zok⟩, fun b hb hl => ?_, hI.fr, fun he => ?_⟩, fun t => ?_⟩
  · obtain ⟨p, h1, h2, h3, _⟩ := hpos b
    rw [h3] at hl
    exact (hI.hp b p h1 h2 hl).2.2.1 hb
  · obtain ⟨p, h1, h2, h3, h4⟩ := hpos b
    rw [h3] at hl ⊢
    obtain ⟨k1, k2, _⟩ := hI.hp b p h1 h2 hl
    exact ⟨by omega, k2.up h4⟩
  · obtain ⟨p, h1, h2, h3, _⟩ := hpos b
    obtain ⟨q, k1, k2, k3, _⟩ := hpos c
    rw [h3] at hl
    rw [k3] at hl'
    exact hI.inj b c p q h1 k1 h2 k2 hl hl' hne
  · obtain ⟨p, h1, h2, h3, _⟩ := hpos b
    rw [h3] at hl
    exact (hI.hp b p h1 h2 hl).2.2.2 hb
  · have hesc : ∀ d i, i + d = ops.size → (sAt r st' i).esc = false ∧ ∀ m, m ≤ st.nx → NoNew m (sAt r st' i).H → NoNew m st'.H := by
      intro d
      induction d with
      | zero => intro i hi; rw [show i = ops.size by omega, hn]; exact ⟨he, fun _ _ h => h⟩
      | succ d ih =>
        intro i hi
        obtain ⟨i1, i2⟩ := ih (i + 1) (by omega)
        obtain ⟨o, x, ho, hx, hs, hok, _⟩ := hP.get (i := i) (by omega)
        obtain ⟨_, aH, _, aesc, _⟩ := hP.after (by omega) ho hx
        rw [aesc, Bool.or_eq_false_iff] at i1
        have hle := hP.nx_le (i := 0) (j := i) (by omega) (by omega)
        rw [hP.s0, ← hs] at hle
        refine ⟨by rw [← hs]; exact i1.1, fun m hm hN => i2 m hm ?_⟩
        rw [aH]
        refine hI.noesc i x ((hE i).2 (by omega)) hx i1.2 m (by omega) ?_
        rw [hs]; exact hN
    intro m hm hN
    refine (hesc ops.size 0 (by omega)).2 m hm ?_
    rw [hP.s0]; exact hN
  · obtain ⟨p, h1, h2, h3⟩ := static_last (WrT ops t) ops.size
    have hc := hP.chainS h1 (Nat.le_refl _) h3
    rw [hn] at hc
    have hle := hP.nx_le h1 (Nat.le_refl _)
    rw [hn] at hle
    rw [hc]
    exact RS.mono (fun _ _ => rfl) hle (fun _ _ _ h => h) (hI.sl t p h1 (lastOf _ p h2 h1 h3))

theorem Plan.esc : st'.esc = false → st.esc = false := by
  intro he
  have hn : sAt r st' ops.size = st' := by
    have : r[ops.size]? = none := List.getElem?_eq_none (by rw [hP.len]; exact Nat.le_refl _)
    simp [sAt, this]
  have : ∀ d i, i + d = ops.size → (sAt r st' i).esc = false := by
    intro d
    induction d with
    | zero => intro i hi; rw [show i = ops.size by omega, hn]; exact he
    | succ d ih =>
      intro i hi
      have i1 := ih (i + 1) (by omega)
      obtain ⟨o, x, ho, hx, hs, hok, _⟩ := hP.get (i := i) (by omega)
      rw [(hP.after (by omega) ho hx).2.2.2.1, Bool.or_eq_false_iff] at i1
      rw [← hs]; exact i1.1
  rw [← hP.s0]
  exact this ops.size 0 (by omega)

/-- whatever order is drawn -/
theorem Inv.all (h0 : ∀ b, st.nx ≤ b → ¬ (st.H.get b).live) {Q : Exit → Act → World → Prop} (hQ : ∀ f z w a, (∃ E : Nat → Prop, (∀ k, E k ↔ k < ops.size) ∧ Inv N ops r st st' f0 z0 w0 ds E f z w a) → Q .normal a w) :
    ∀ (fuel : Nat) (listed : Array Bool), listed.size = ops.size → listed.toList.countP (fun b => !b) = fuel → (∀ i k, listed.getD k false = true → Pre ops i k → listed.getD i false = true) →
      ∀ (f : Fn) (z : Z) (w : World) (a : Act), Inv N ops r st st' f0 z0 w0 ds (fun k => listed.getD k false = true) f z w a → wpAny P .any ops Q fuel listed a w := by
  have hlt : ∀ (listed : Array Bool), listed.size = ops.size → ∀ k, listed.getD k false = true → k < ops.size := fun listed hs k hk => by
    rcases Nat.lt_or_ge k ops.size with h | h
    · exact h
    · rw [Array.getD_eq_getD_getElem?, Array.getElem?_eq_none (by omega)] at hk
      cases hk
  have hdone : ∀ (listed : Array Bool), listed.size = ops.size → (Region.ready .any ops listed = []) → ∀ j k, k < j → k < ops.size → listed.getD k false = true := by
    intro listed hs hr j
    induction j with
    | zero => intro k hk; omega
    | succ j ih =>
      intro k hk hkn
      rcases Nat.lt_or_ge k j with h | h
      · exact ih k h hkn
      · have hkj : k = j := by omega
        subst hkj
        cases hv : listed.getD k false with
        | true => rfl
        | false =>
          exfalso
          obtain ⟨o, x, ho, _⟩ := hP.get (i := k) hkn
          have : k ∈ Region.ready .any ops listed := by
            rw [mem_ready]
            refine ⟨?_, o, ho, fun e he hb => ?_⟩
            · have : k < listed.size := by omega
              simp [this] at hv ⊢
              exact hv
            · have h1 := hP.back k o ho e he hb
              exact ih e.on h1 (by omega)
          rw [hr] at this
          cases this
  have hfin : ∀ (listed : Array Bool), listed.size = ops.size → (Region.ready .any ops listed = []) → ∀ k, listed.getD k false = true ↔ k < ops.size := fun listed hs hr k =>
    ⟨hlt listed hs k, fun hk => hdone listed hs hr (k + 1) k (by omega) hk⟩
  intro fuel
  induction fuel with
  | zero =>
    intro listed hs hc hdown f z w a hI
    have hall : ∀ k, k < ops.size → listed.getD k false = true := fun k hk => by
      have hk' : k < listed.size := by omega
      rw [List.countP_eq_zero] at hc
      have := hc listed[k] (by simp)
      simp [hk'] at this ⊢
      exact this
    refine ⟨?_, hQ f z w a ⟨_, fun k => ⟨hlt listed hs k, hall k⟩, hI⟩⟩
    cases hr : Region.ready .any ops listed with
    | nil => rfl
    | cons j l =>
      exfalso
      have hm : j ∈ Region.ready .any ops listed := by rw [hr]; simp
      rw [mem_ready] at hm
      obtain ⟨h1, o, ho, _⟩ := hm
      have hjn : j < ops.size := (Array.getElem?_eq_some_iff.1 ho).1
      have := hall j hjn
      have hj' : j < listed.size := by omega
      simp [hj'] at h1 this
      rw [h1] at this
      cases this
  | succ fuel ih =>
    intro listed hs hc hdown f z w a hI
    refine ⟨fun hr => hQ f z w a ⟨_, hfin listed hs hr, hI⟩, fun j hj => ?_⟩
    rw [mem_ready] at hj
    obtain ⟨h1, o, ho, h2⟩ := hj
    have hjn : j < ops.size := (Array.getElem?_eq_some_iff.1 ho).1
    have hj' : j < listed.size := by omega
    have hnj : listed[j] = false := by simpa [hj'] using h1
    have hready : ∀ i, Pre ops i j → listed.getD i false = true := fun i hi => by
      obtain ⟨e, he, hb, h3⟩ := hP.clos j o i ho hi
      have h4 := h2 e he hb
      rcases h3 with rfl | h3
      · exact h4
      · exact hdown i e.on h4 h3
    have hset : ∀ k, (listed.setIfInBounds j true).getD k false = true ↔ (listed.getD k false = true ∨ k = j) := fun k => by
      by_cases e : j = k
      · subst e
        rw [Array.getD_eq_getD_getElem?, Array.getElem?_setIfInBounds_self_of_lt hj']
        simp
      · rw [getD_set_ne false e]
        exact ⟨.inl, fun h => h.resolve_right (fun h => e h.symm)⟩
    refine Inv.step hP h0 (hlt listed hs) hdown hjn (by simp [hj', hnj]) hready hI _ Q fun f' z' w' a' hI' => ?_
    refine ih _ (by simp [hs]) ?_ ?_ f' z' w' a' ?_
    · have hj3 : j < listed.toList.length := by simpa using hj'
      have e : listed.toList[j] = false := by simpa using hnj
      rw [Array.toList_setIfInBounds, List.countP_set hj3, hc, e]
      rfl
    · intro i k hk hp
      rw [hset] at hk ⊢
      rcases hk with hk | rfl
      · exact .inl (hdown i k hk hp)
      · exact .inl (hready i hp)
    · have : (fun k => (listed.setIfInBounds j true).getD k false = true) = fun k => listed.getD k false = true ∨ k = j := funext fun k => propext (hset k)
      rw [this]
      exact hI'

end

end Go.Proofs.YtbobakclbdaepaaGreat.En
