/- The engine, part 15: a region that draws, run in the text's order with what each operation looks at. -/
import Derived.Test.YtpidkmegakdohaaGreatK14
namespace Go.Proofs.YtpidkmegakdohaaGreat.Kn
open Go
set_option linter.unusedVariables false
set_option linter.unusedSimpArgs false

/-- what an operation comes to hangs on its operands alone -/
theorem partsOf_slots {st st' : St} : ∀ (l : List (Nat × Operand)), (∀ p ∈ l, st'.val p.2 = st.val p.2) → partsOf st' l = partsOf st l
  | [], _ => rfl
  | (i, x) :: l, h => by
    simp only [partsOf]
    rw [h (i, x) (by simp), partsOf_slots l fun p hp => h p (by simp [hp])]

theorem omap_slots {st st' : St} {x : Option Operand} (h : ∀ y ∈ x.toList, st'.val y = st.val y) : x.map st'.val = x.map st.val := by
  cases x with
  | none => rfl
  | some y => simp [h y (by simp)]

theorem evOp_slots {G : Ctx} {call : CallF} {d : Bool} {st : St} {s' : Slots} {o : Oper} (h : ∀ t, .tmp t ∈ o.op.operands → Slots.get s' t = Slots.get st.sl t) : evOp G call d { st with sl := s' } o = evOp G call d st o := by
  have hv : ∀ x ∈ o.op.operands, St.val { st with sl := s' } x = st.val x := fun x hx => by
    cases x with
    | tmp t => exact h t hx
    | const v => rfl
    | global g => rfl
    | func g => rfl
  clear h
  cases hop : o.op with
  | move x => simp only [evOp, hop]; rw [hv x (by simp [hop, Op.operands])]; rfl
  | assign x => simp only [evOp, hop]; rw [hv x (by simp [hop, Op.operands])]; rfl
  | pick c a b =>
    have h1 := hv a (by simp [hop, Op.operands])
    have h2 := hv b (by simp [hop, Op.operands])
    simp only [evOp, hop, split]
    rw [hv c (by simp [hop, Op.operands])]
    split
    · show T.br _ (pure1 _ (St.val _ a)) (pure1 _ (St.val _ b)) = _
      rw [h1, h2]
      rfl
    · rfl
  | alloc t => simp only [evOp, hop]; rfl
  | box t x => simp only [evOp, hop]; rw [hv x (by simp [hop, Op.operands])]; rfl
  | build t ps =>
    simp only [evOp, hop]
    rw [partsOf_slots (st := st) ps.toList fun p hp => hv p.2 (by simp only [hop, Op.operands, List.mem_toArray, List.mem_map]; exact ⟨p, hp, rfl⟩)]
    rfl
  | buildSlice t n ps =>
    simp only [evOp, hop]
    rw [partsOf_slots (st := st) ps.toList fun p hp => hv p.2 (by simp only [hop, Op.operands, List.mem_toArray, List.mem_map]; exact ⟨p, hp, rfl⟩)]
    rfl
  | load t x => simp only [evOp, hop]; rw [hv x (by simp [hop, Op.operands])]; rfl
  | store t x y => simp only [evOp, hop]; rw [hv x (by simp [hop, Op.operands]), hv y (by simp [hop, Op.operands])]
  | nilCheck x => simp only [evOp, hop]; rw [hv x (by simp [hop, Op.operands])]; rfl
  | binOp op t x y t' => simp only [evOp, hop]; rw [hv x (by simp [hop, Op.operands]), hv y (by simp [hop, Op.operands])]; rfl
  | unOp op t x => simp only [evOp, hop]; rw [hv x (by simp [hop, Op.operands])]; rfl
  | convert a b x => simp only [evOp, hop]; rw [hv x (by simp [hop, Op.operands])]; rfl
  | makeFunc fn first cap =>
    simp only [evOp, hop]
    rw [show cap.toList.map (St.val { st with sl := s' }) = cap.toList.map st.val from List.map_congr_left fun x hx => hv x (by simp only [hop, Op.operands, Array.mem_append]; exact .inr (by simpa using hx))]
    rfl
  | makeSlice t l c => simp only [evOp, hop]; rw [hv l (by simp [hop, Op.operands]), hv c (by simp [hop, Op.operands])]; rfl
  | makeMap t r =>
    cases r with
    | none =>
      simp only [evOp, hop]
      rcases G.ti t with _ | ⟨_, _, _, kd, _, _⟩
      · rfl
      · cases kd <;> rfl
    | some r =>
      have hr := hv r (by simp [hop, Op.operands])
      simp only [evOp, hop]
      rcases G.ti t with _ | ⟨_, _, _, kd, _, _⟩
      · rfl
      · cases kd with
        | map k e => dsimp only; rw [hr]
        | _ => rfl
  | lookup t m k ok => simp only [evOp, hop]; rw [hv m (by simp [hop, Op.operands]), hv k (by simp [hop, Op.operands])]; rfl
  | mapUpdate t m k v => simp only [evOp, hop]; rw [hv m (by simp [hop, Op.operands]), hv k (by simp [hop, Op.operands]), hv v (by simp [hop, Op.operands])]; rfl
  | insert t m k v => simp only [evOp, hop]; rw [hv m (by simp [hop, Op.operands]), hv k (by simp [hop, Op.operands]), hv v (by simp [hop, Op.operands])]; rfl
  | slice t x lo hi mx =>
    simp only [evOp, hop]
    rw [hv x (by simp [hop, Op.operands]), omap_slots (st := st) (x := lo) fun y hy => hv y (by simp only [hop, Op.operands, Array.mem_append]; simp_all),
      omap_slots (st := st) (x := hi) fun y hy => hv y (by simp only [hop, Op.operands, Array.mem_append]; simp_all), omap_slots (st := st) (x := mx) fun y hy => hv y (by simp only [hop, Op.operands, Array.mem_append]; simp_all)]
  | fieldAddr t x f => simp only [evOp, hop]; rw [hv x (by simp [hop, Op.operands])]; rfl
  | field t x f => simp only [evOp, hop]; rw [hv x (by simp [hop, Op.operands])]; rfl
  | indexAddr t x i => simp only [evOp, hop]; rw [hv x (by simp [hop, Op.operands]), hv i (by simp [hop, Op.operands])]; rfl
  | index t x i => simp only [evOp, hop]; rw [hv x (by simp [hop, Op.operands]), hv i (by simp [hop, Op.operands])]; rfl
  | extract x i => simp only [evOp, hop]; rw [hv x (by simp [hop, Op.operands])]; rfl
  | call c =>
    have hargs : c.args.toList.map (St.val { st with sl := s' }) = c.args.toList.map st.val := List.map_congr_left fun x hx => hv x (by simp only [hop, Op.operands, Call.operands, Array.mem_append]; exact .inr (by simpa using hx))
    simp only [evOp, hop]
    rw [hargs]
    cases hc : c.callee with
    | builtin b => rfl
    | value f =>
      have hf := hv f (by simp [hop, Op.operands, Call.operands, hc])
      dsimp only
      rw [hf]
      rfl
    | invoke r m => rfl
  | _ => simp only [evOp, hop]

structure Stp where
  s : St
  u : Out

noncomputable def effS (x : Stp) : Eff := effOf x.s.nx x.u

noncomputable def nextS (o : Oper) (x : Stp) : St := (x.s.up x.u).put o.dst x.u.v

structure StepOk (P : Program) (G : Ctx) (ops : Array Oper) (N : Nat) (k : Nat) (o : Oper) (x : Stp) : Prop where
  sem : ∀ (f : Fn) (z : Z) (w : World) (a : Act), (∀ t ∈ o.looksAt ops, RS f x.s.nx z (x.s.sl.get t) (a.tmps.getD t undef)) → Rel (Sx x.u.fp x.u.wr) f x.s.nx z w x.s.H → (∀ b, x.s.nx ≤ b → ¬ (x.s.H.get b).live) →
    ∀ (K : Act → World → Prop) (Q : Exit → Act → World → Prop), (∀ f' z' w' v', Post (Sx x.u.fp x.u.wr) f x.s.nx z w x.s.H f' x.u.nx z' w' x.u.H x.u.esc → RS f' x.u.nx z' x.u.v v' → K (a.put o.dst v') w') → wpOp P ops Q k K a w
  keep : ∀ b, b ∉ x.u.wr → ((x.u.H.get b).live ∨ (x.s.H.get b).live) → x.u.H.get b = x.s.H.get b
  nx : x.s.nx ≤ x.u.nx
  lt : ∀ b ∈ x.u.wr, b < x.u.nx
  new : ∀ b, x.s.nx ≤ b → b < x.u.nx → b ∈ x.u.wr
  dst : ∀ d, o.dst = some d → d < N
  came : (∃ d call st, (evOp G call d st o).res = some x.u ∧ st.nx = x.s.nx) ∨ (x.u.v = .tup [] ∧ x.u.fp = [] ∧ x.u.wr = [] ∧ x.u.nx = x.s.nx)

def Run (ok : Nat → Oper → Stp → Prop) : Nat → List Oper → List Stp → St → St → Prop
  | _, [], [], st, st' => st = st'
  | k, o :: l, x :: r, st, st' => x.s = st ∧ ok k o x ∧ Run ok (k + 1) l r (nextS o x) st'
  | _, _, _, _, _ => False

/-- the slots that are asked for -/
noncomputable def prune (s : Slots) : List Nat → Slots
  | [] => Slots.none 0
  | t :: l => (prune s l).put t (s.get t)

theorem prune_get (s : Slots) : ∀ (l : List Nat) (t : Nat), (prune s l).get t = if t ∈ l then s.get t else .top
  | [], t => Tr.get_forks _ _ _
  | u :: l, t => by
    rw [prune, Slots.get_cons, prune_get s l]
    by_cases e : u = t
    · subst e; simp
    · have : ¬ t = u := fun h => e h.symm
      simp [e, this]

section ops
variable {P : Program} {G : Ctx} (hG : CtxOk P G) {call : CallF} (hC : CallOk P call) (hCK : CallKeeps call)
include hG hC hCK

theorem evDraw_run {N : Nat} {ops : Array Oper} : ∀ (l : List Oper) (k : Nat) (fl : List Bool) (st : St) (es : List Eff) (st' : St) (es' : List Eff), Low st.nx st.H → (∀ i, l[i]? = ops.toList[k + i]?) → (evDraw G call N ops l fl st es).res = some (st', es') →
    ∃ r : List Stp, es' = (r.map effS).reverse ++ es ∧ Run (StepOk P G ops N) k l r st st'
  | [], k, fl, st, es, st', es', hlow, hl, h => by
    have h := T.ret_some h
    simp only [Prod.mk.injEq] at h
    exact ⟨[], by simp [h.2], h.1⟩
  | o :: l, k, fl, st, es, st', es', hlow, hl, h => by
    have ho : ops[k]? = some o := by
      have := hl 0
      simp only [List.getElem?_cons_zero, Nat.add_zero] at this
      simpa using this.symm
    have hl' : ∀ i, l[i]? = ops.toList[k + 1 + i]? := fun i => by
      have := hl (i + 1)
      rw [List.getElem?_cons_succ] at this
      rw [this]
      congr 1
      omega
    simp only [evDraw, St.putK_eq] at h
    split at h
    · exact (T.bad_some h).elim
    rename_i hd
    have hd' : ∀ d, o.dst = some d → d < N := fun d e => by
      rw [e] at hd
      exact nble (a := d + 1) (b := N) hd
    let s := prune st.sl (o.looksAt ops)
    have hs2 : ∀ t, s.get t = if t ∈ o.looksAt ops then Slots.get st.sl t else .top := prune_get st.sl (o.looksAt ops)
    have htr : ∀ {f : Fn} {z : Z} {a : Act}, (∀ t ∈ o.looksAt ops, RS f st.nx z (Slots.get st.sl t) (a.tmps.getD t undef)) → TR f st.nx z s a.tmps := fun {f z a} ht t => by
      rw [hs2]
      split
      · rename_i hm; exact ht t hm
      · trivial
    have hops : ∀ t, Operand.tmp t ∈ o.op.operands → t ∈ o.looksAt ops := fun t ht => by
      simp only [Oper.looksAt, List.mem_append, List.mem_filterMap]
      exact .inl ⟨.tmp t, by simpa using ht, rfl⟩
    -- it is run
    have doit : (∀ {f : Fn} {z : Z} {a : Act}, (∀ t ∈ o.looksAt ops, RS f st.nx z (Slots.get st.sl t) (a.tmps.getD t undef)) → Region.wanted o (yielded ops a.tmps) = true) →
        ((evOp G call (fl.headD false) ⟨st.sl, st.H, st.nx, false, st.base, []⟩ o).bind fun u => forceV G.sym u.v fun v => evDraw G call N ops l fl.tail ((st.up u).put o.dst v) (effOf st.nx u :: es)).res = some (st', es') →
        ∃ r : List Stp, es' = (r.map effS).reverse ++ es ∧ Run (StepOk P G ops N) k (o :: l) r st st' := by
      intro hw h
      obtain ⟨u, hu, h⟩ := T.bind_some h
      rw [forceV_eq] at h
      have hkp := (evOp_keeps hCK).res hu
      obtain ⟨k1, k2, k3, k4, k5⟩ := hkp hlow
      have hput := put_H (st.up u) o.dst u.v
      obtain ⟨r, hr1, hr2⟩ := evDraw_run l (k + 1) _ _ _ st' es' (by rw [hput.1, hput.2.1]; exact k2) hl' h
      have hu' : (evOp G call (fl.headD false) { (⟨st.sl, st.H, st.nx, false, st.base, []⟩ : St) with sl := s } o).res = some u := by
        rw [evOp_slots (fun t ht => by rw [hs2, if_pos (hops t ht)])]
        exact hu
      refine ⟨⟨st, u⟩ :: r, by rw [hr1]; simp [effS], rfl, ⟨?_, fun b hb hl => ?_, k1, k4, k5, hd', .inl ⟨fl.headD false, call, ⟨st.sl, st.H, st.nx, false, st.base, []⟩, hu, rfl⟩⟩, hr2⟩
      · intro f z w a ht hr hno K Q hk
        unfold wpOp
        simp only [ho, hw ht, if_true]
        exact .inl (evOp_ok hG hC hu' f z w a (htr ht) hr hno K Q hk)
      · rcases Nat.lt_or_ge b st.nx with h1 | h1
        · exact k3 b h1 hb
        · exfalso
          rcases hl with hl | hl
          · exact hb (k5 b h1 (k2.lt hl))
          · exact hlow b h1 hl
    split at h
    · rename_i hgd
      exact doit (fun _ => by simp [Region.wanted, hgd]) h
    · rename_i j want hgd
      split at h
      · exact (T.bad_some h).elim
      rename_i t hj
      have hj' : (ops[j]?).bind (·.dst) = some t := by simpa using hj
      have hmem : t ∈ o.looksAt ops := by simp [Oper.looksAt, hgd, hj']
      -- it isn't carried out
      have skip : (evDraw G call N ops l fl.tail (st.put o.dst (.tup [])) (⟨[], [], st.nx, st.nx, []⟩ :: es)).res = some (st', es') →
          (∀ {f : Fn} {z : Z} {a : Act}, (∀ t ∈ o.looksAt ops, RS f st.nx z (Slots.get st.sl t) (a.tmps.getD t undef)) → Region.wanted o (yielded ops a.tmps) = false) →
          ∃ r : List Stp, es' = (r.map effS).reverse ++ es ∧ Run (StepOk P G ops N) k (o :: l) r st st' := by
        intro h hw
        have hput := put_H st o.dst (.tup [])
        obtain ⟨r, hr1, hr2⟩ := evDraw_run l (k + 1) _ _ _ st' es' (by rw [hput.1, hput.2.1]; exact hlow) hl' h
        have hup : nextS o ⟨st, ⟨.tup [], st.H, st.nx, false, [], []⟩⟩ = st.put o.dst (.tup []) := by
          simp only [nextS, St.up, Bool.or_false, addWr]
        refine ⟨⟨st, ⟨.tup [], st.H, st.nx, false, [], []⟩⟩ :: r, by rw [hr1]; simp [effS, effOf, SV.refs], rfl, ⟨?_, fun _ _ _ => rfl, Nat.le_refl _, fun b hb => by simp at hb, fun b h1 h2 => by simp only at h1 h2; omega, hd', .inr ⟨rfl, rfl, rfl, rfl⟩⟩, by rw [hup]; exact hr2⟩
        intro f z w a ht hr hno K Q hk
        unfold wpOp
        simp only [ho, hw ht, Bool.false_eq_true, if_false]
        exact hk f z w undef (Post.refl hr hno) ⟨#[], rfl, RAs.nil⟩
      split at h
      · rename_i c hc
        have hwant : ∀ {f : Fn} {z : Z} {a : Act}, (∀ t ∈ o.looksAt ops, RS f st.nx z (Slots.get st.sl t) (a.tmps.getD t undef)) → Region.wanted o (yielded ops a.tmps) = (c == want) := by
          intro f z a ht
          have hs := (htr ht).slot (t := t) (v := .bool c) (by rw [hs2, if_pos hmem]; exact hc) (by intro h; cases h)
          have : yielded ops a.tmps j = some c := by simp [yielded, hj', hs]
          simp only [Region.wanted, hgd, this]
          cases c <;> cases want <;> rfl
        split at h
        · rcases T.br_some h with ⟨rfl, h⟩ | ⟨rfl, h⟩
          · exact doit (fun ht => by rw [hwant ht]; rfl) h
          · exact skip h fun ht => by rw [hwant ht]; rfl
        · rcases T.br_some h with ⟨rfl, h⟩ | ⟨rfl, h⟩
          · exact skip h fun ht => by rw [hwant ht]; rfl
          · exact doit (fun ht => by rw [hwant ht]; rfl) h
      · rename_i hc
        refine skip h fun {f z a} ht => ?_
        have h1 := ht t hmem
        rw [hc] at h1
        obtain ⟨vs, h1, h2⟩ := h1
        have hvs : vs = #[] := by
          have := h2.1
          simp at this
          exact Array.eq_empty_of_size_eq_zero this.symm
        have : yielded ops a.tmps j = none := by
          simp only [yielded, hj', Option.bind_some]
          cases hq : a.tmps[t]? with
          | none => rfl
          | some v =>
            rw [Array.getD_eq_getD_getElem?, hq] at h1
            simp only [Option.getD_some] at h1
            rw [h1]
        simp only [Region.wanted, hgd, this]
        rfl
      · exact (T.bad_some h).elim

end ops

noncomputable def sAt (r : List Stp) (st' : St) (i : Nat) : St := match r[i]? with | some x => x.s | none => st'

theorem Run.facts {ok : Nat → Oper → Stp → Prop} : ∀ {l : List Oper} {r : List Stp} {k : Nat} {st st' : St}, Run ok k l r st st' →
    r.length = l.length ∧ sAt r st' 0 = st ∧ ∀ i o x, l[i]? = some o → r[i]? = some x → ok (k + i) o x ∧ sAt r st' (i + 1) = nextS o x
  | [], [], k, st, st', h => ⟨rfl, h.symm, fun i o x h => by simp at h⟩
  | o :: l, x :: r, k, st, st', h => by
    obtain ⟨h1, h2, h3⟩ := h
    obtain ⟨i1, i2, i3⟩ := Run.facts h3
    refine ⟨by simp [i1], h1, fun i o' x' ho hx => ?_⟩
    cases i with
    | zero =>
      simp only [List.getElem?_cons_zero, Option.some.injEq] at ho hx
      subst ho hx
      exact ⟨h2, i2⟩
    | succ i =>
      rw [List.getElem?_cons_succ] at ho hx
      have := i3 i o' x' ho hx
      rw [show k + 1 + i = k + (i + 1) by omega] at this
      exact this
  | [], _ :: _, _, _, _, h => h.elim
  | _ :: _, [], _, _, _, h => h.elim

end Go.Proofs.YtpidkmegakdohaaGreat.Kn
