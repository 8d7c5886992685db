/- The engine, part 15: a region that draws, run in the text's order with what each operation looks at. -/
import Derived.Test.YtbobakclbdaepaaGreatE14
namespace Go.Proofs.YtbobakclbdaepaaGreat.En
open Go
set_option linter.unusedVariables false
set_option linter.unusedSimpArgs false

structure Stp where
  s : St
  u : Out

def effS (x : Stp) : Eff := effOf x.s.nx x.u

def nextS (o : Oper) (x : Stp) : St := (x.s.up x.u).put o.dst x.u.v

structure StepOk (P : Program) (ops : Array Oper) (N : Nat) (k : Nat) (o : Oper) (x : Stp) : Prop where
  sem : ∀ (f : Fn) (z : Z) (w : World) (a : Act), (∀ t ∈ o.looksAt ops, RS f x.s.nx z (x.s.sl.get t) (a.tmps.getD t undef)) → Rel (Sx x.u.fp x.u.wr) f x.s.nx z w x.s.H → (∀ b, x.s.nx ≤ b → ¬ (x.s.H.get b).live) →
    ∀ (K : Act → World → Prop) (Q : Exit → Act → World → Prop), (∀ f' z' w' v', Post (Sx x.u.fp x.u.wr) f x.s.nx z w x.s.H f' x.u.nx z' w' x.u.H x.u.esc → RS f' x.u.nx z' x.u.v v' → K (a.put o.dst v') w') → wpOp P ops Q k K a w
  keep : ∀ b, b ∉ x.u.wr → x.u.H.get b = x.s.H.get b
  nx : x.s.nx ≤ x.u.nx
  lt : ∀ b ∈ x.u.wr, b < x.u.nx
  new : ∀ b, x.s.nx ≤ b → b < x.u.nx → b ∈ x.u.wr
  dst : ∀ d, o.dst = some d → d < N

def Run (ok : Nat → Oper → Stp → Prop) : Nat → List Oper → List Stp → St → St → Prop
  | _, [], [], st, st' => st = st'
  | k, o :: l, x :: r, st, st' => x.s = st ∧ ok k o x ∧ Run ok (k + 1) l r (nextS o x) st'
  | _, _, _, _, _ => False

theorem pruneK_eq {β : Type} (s : Slots) : ∀ (l : List Nat), ∃ s' : Slots, (∀ k : Slots → β, pruneK s l k = k s') ∧ ∀ t, s'.get t = if t ∈ l then s.get t else .top
  | [] => ⟨[], fun _ => rfl, fun t => by simp [Slots.get]⟩
  | t :: l => by
    obtain ⟨s', h1, h2⟩ := pruneK_eq s l
    have key : ∀ x, s.get t = x → ∀ u, Slots.get ((t, x) :: s') u = if u ∈ t :: l then s.get u else .top := fun x hx u => by
      rw [Slots.get_cons, h2]
      by_cases e : t = u
      · subst e; simp [hx]
      · have : ¬ u = t := fun h => e h.symm
        simp [e, this]
    cases hx : s.get t with
    | top =>
      refine ⟨s', fun k => by simp only [pruneK, hx]; exact h1 k, fun u => ?_⟩
      rw [h2]
      by_cases e : u = t
      · subst e; simp [hx]
      · simp [e]
    | v x => exact ⟨(t, .v x) :: s', fun k => by simp only [pruneK, hx]; exact h1 _, key _ hx⟩
    | tup x => exact ⟨(t, .tup x) :: s', fun k => by simp only [pruneK, hx]; exact h1 _, key _ hx⟩

theorem okOut_ok {n : Nat} {u : Out} (h : okOut n u = true) : n ≤ u.nx ∧ (∀ b ∈ u.wr, b < u.nx) ∧ ∀ b, n ≤ b → b < u.nx → b ∈ u.wr := by
  simp only [okOut, Bool.and_eq_true, List.all_eq_true, List.mem_range] at h
  obtain ⟨⟨h1, h2⟩, h3⟩ := h
  refine ⟨nble h1, fun b hb => nble (h2 b hb), fun b hb hb' => ?_⟩
  have := h3 (b - n) (by omega)
  rw [show n + (b - n) = b by omega] at this
  exact (anyBeq _ _).1 this

section ops
variable {P : Program} {G : Ctx} (hG : CtxOk P G) {call : CallF} (hC : CallOk P call) (hCK : CallKeeps call)
include hG hC hCK

theorem evDraw_run {N : Nat} {ops : Array Oper} : ∀ (l : List Oper) (k : Nat) (st : St) (es : List Eff) (st' : St) (es' : List Eff), (∀ i, l[i]? = ops.toList[k + i]?) → (evDraw G call N ops l st es).res = some (st', es') →
    ∃ r : List Stp, es' = (r.map effS).reverse ++ es ∧ Run (StepOk P ops N) k l r st st'
  | [], k, st, es, st', es', hl, h => by
    have h := T.ret_some h
    simp only [Prod.mk.injEq] at h
    exact ⟨[], by simp [h.2], h.1⟩
  | o :: l, k, st, es, st', es', hl, h => by
    have ho : ops[k]? = some o := by
      have := hl 0
      simp only [List.getElem?_cons_zero, Nat.add_zero] at this
      simpa using this.symm
    have hl' : ∀ i, l[i]? = ops.toList[k + 1 + i]? := fun i => by
      have := hl (i + 1)
      rw [List.getElem?_cons_succ] at this
      rw [this]
      congr 1
      omega
    simp only [evDraw] at h
    split at h
    · exact (T.bad_some h).elim
    rename_i hd
    have hd' : ∀ d, o.dst = some d → d < N := fun d e => by
      rw [e] at hd
      exact nble (a := d + 1) (b := N) hd
    obtain ⟨s, hs1, hs2⟩ := pruneK_eq (β := T (St × List Eff)) st.sl (o.looksAt ops)
    rw [hs1] at h
    have htr : ∀ {f : Fn} {z : Z} {a : Act}, (∀ t ∈ o.looksAt ops, RS f st.nx z (st.sl.get t) (a.tmps.getD t undef)) → TR f st.nx z s a.tmps := fun {f z a} ht t => by
      rw [hs2]
      split
      · rename_i hm; exact ht t hm
      · trivial
    -- it is run
    have doit : (∀ {f : Fn} {z : Z} {a : Act}, (∀ t ∈ o.looksAt ops, RS f st.nx z (st.sl.get t) (a.tmps.getD t undef)) → Region.wanted o (yielded ops a.tmps) = true) →
        ((evOp G call true ⟨s, st.H, st.nx, false, st.base, []⟩ o).bind fun u => match okOut st.nx u with
          | true => forceV G.sym u.v fun v => evDraw G call N ops l ((st.up u).put o.dst v) (effOf st.nx u :: es)
          | false => .bad).res = some (st', es') →
        ∃ r : List Stp, es' = (r.map effS).reverse ++ es ∧ Run (StepOk P ops N) k (o :: l) r st st' := by
      intro hw h
      obtain ⟨u, hu, h⟩ := T.bind_some h
      split at h
      · rename_i hok
        rw [forceV_eq] at h
        obtain ⟨r, hr1, hr2⟩ := evDraw_run l (k + 1) _ _ st' es' hl' h
        obtain ⟨o1, o2, o3⟩ := okOut_ok hok
        refine ⟨⟨st, u⟩ :: r, by rw [hr1]; simp [effS], rfl, ⟨?_, fun b hb => ((evOp_keeps hCK).res hu).2 b (.inl rfl) hb, o1, o2, o3, hd'⟩, hr2⟩
        intro f z w a ht hr hno K Q hk
        unfold wpOp
        simp only [ho, hw ht, if_true]
        exact .inl (evOp_ok hG hC hu f z w a (htr ht) hr hno K Q hk)
      · exact (T.bad_some h).elim
    split at h
    · rename_i hgd
      exact doit (fun _ => by simp [Region.wanted, hgd]) h
    · rename_i j want hgd
      split at h
      · exact (T.bad_some h).elim
      rename_i t hj
      have hj' : (ops[j]?).bind (·.dst) = some t := by simpa using hj
      have hmem : t ∈ o.looksAt ops := by simp [Oper.looksAt, hgd, hj']
      -- it isn't carried out
      have skip : (evDraw G call N ops l (st.put o.dst (.tup [])) (⟨[], [], st.nx, st.nx, []⟩ :: es)).res = some (st', es') →
          (∀ {f : Fn} {z : Z} {a : Act}, (∀ t ∈ o.looksAt ops, RS f st.nx z (st.sl.get t) (a.tmps.getD t undef)) → Region.wanted o (yielded ops a.tmps) = false) →
          ∃ r : List Stp, es' = (r.map effS).reverse ++ es ∧ Run (StepOk P ops N) k (o :: l) r st st' := by
        intro h hw
        obtain ⟨r, hr1, hr2⟩ := evDraw_run l (k + 1) _ _ st' es' hl' h
        have hup : nextS o ⟨st, ⟨.tup [], st.H, st.nx, false, [], []⟩⟩ = st.put o.dst (.tup []) := by
          simp only [nextS, St.up, Bool.or_false, addWr]
        refine ⟨⟨st, ⟨.tup [], st.H, st.nx, false, [], []⟩⟩ :: r, by rw [hr1]; simp [effS, effOf, SV.refs], rfl, ⟨?_, fun _ _ => rfl, Nat.le_refl _, fun b hb => by simp at hb, fun b h1 h2 => by simp only at h1 h2; omega, hd'⟩, by rw [hup]; exact hr2⟩
        intro f z w a ht hr hno K Q hk
        unfold wpOp
        simp only [ho, hw ht, Bool.false_eq_true, if_false]
        exact hk f z w undef (Post.refl hr hno) ⟨#[], rfl, RAs.nil⟩
      split at h
      · rename_i c hc
        have hwant : ∀ {f : Fn} {z : Z} {a : Act}, (∀ t ∈ o.looksAt ops, RS f st.nx z (st.sl.get t) (a.tmps.getD t undef)) → Region.wanted o (yielded ops a.tmps) = (c == want) := by
          intro f z a ht
          have hs := (htr ht).slot (t := t) (v := .bool c) (by rw [hs2, if_pos hmem]; exact hc) (by intro h; cases h)
          have : yielded ops a.tmps j = some c := by simp [yielded, hj', hs]
          simp only [Region.wanted, hgd, this]
          cases c <;> cases want <;> rfl
        split at h
        · rcases T.br_some h with ⟨rfl, h⟩ | ⟨rfl, h⟩
          · exact doit (fun ht => by rw [hwant ht]; rfl) h
          · exact skip h fun ht => by rw [hwant ht]; rfl
        · rcases T.br_some h with ⟨rfl, h⟩ | ⟨rfl, h⟩
          · exact skip h fun ht => by rw [hwant ht]; rfl
          · exact doit (fun ht => by rw [hwant ht]; rfl) h
      · rename_i hc
        refine skip h fun {f z a} ht => ?_
        have h1 := ht t hmem
        rw [hc] at h1
        obtain ⟨vs, h1, h2⟩ := h1
        have hvs : vs = #[] := by
          have := h2.1
          simp at this
          exact Array.eq_empty_of_size_eq_zero this.symm
        have : yielded ops a.tmps j = none := by
          simp only [yielded, hj', Option.bind_some]
          cases hq : a.tmps[t]? with
          | none => rfl
          | some v =>
            rw [Array.getD_eq_getD_getElem?, hq] at h1
            simp only [Option.getD_some] at h1
            rw [h1]
        simp only [Region.wanted, hgd, this]
        rfl
      · exact (T.bad_some h).elim

end ops

def sAt (r : List Stp) (st' : St) (i : Nat) : St := match r[i]? with | some x => x.s | none => st'

theorem Run.facts {ok : Nat → Oper → Stp → Prop} : ∀ {l : List Oper} {r : List Stp} {k : Nat} {st st' : St}, Run ok k l r st st' →
    r.length = l.length ∧ sAt r st' 0 = st ∧ ∀ i o x, l[i]? = some o → r[i]? = some x → ok (k + i) o x ∧ sAt r st' (i + 1) = nextS o x
  | [], [], k, st, st', h => ⟨rfl, h.symm, fun i o x h => by simp at h⟩
  | o :: l, x :: r, k, st, st', h => by
    obtain ⟨h1, h2, h3⟩ := h
    obtain ⟨i1, i2, i3⟩ := Run.facts h3
    refine ⟨by simp [i1], h1, fun i o' x' ho hx => ?_⟩
    cases i with
    | zero =>
      simp only [List.getElem?_cons_zero, Option.some.injEq] at ho hx
      subst ho hx
      exact ⟨h2, i2⟩
    | succ i =>
      rw [List.getElem?_cons_succ] at ho hx
      have := i3 i o' x' ho hx
      rw [show k + 1 + i = k + (i + 1) by omega] at this
      exact this
  | [], _ :: _, _, _, _, h => h.elim
  | _ :: _, [], _, _, _, h => h.elim

end Go.Proofs.YtbobakclbdaepaaGreat.En
