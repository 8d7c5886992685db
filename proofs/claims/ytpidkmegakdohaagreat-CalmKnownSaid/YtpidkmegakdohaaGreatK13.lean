/- The engine, part 13: operations in a row; what a function hands back. -/
import Derived.Test.YtpidkmegakdohaaGreatK12
namespace Go.Proofs.YtpidkmegakdohaaGreat.Kn
open Go
set_option linter.unusedVariables false
set_option linter.unusedSimpArgs false

theorem forceV_eq {β : Type} (sym : Bool) (v : SV) (k : SV → β) : forceV sym v k = k v := by
  unfold forceV
  split <;> rfl

theorem Post.weak {S : Nat → Prop} {f f' : Fn} {nx nx' : Nat} {z z' : Z} {w w' : World} {H H' : Heap} {e e' : Bool} (h : Post S f nx z w H f' nx' z' w' H' e) (he : e' = false → e = false) : Post S f nx z w H f' nx' z' w' H' e' :=
  ⟨h.hnx, h.ext, h.zle, h.znew, h.same, h.dead, h.rel, h.fresh, h.fr, fun h' => h.noesc (he h')⟩

theorem TR.slot {f : Fn} {nx : Nat} {z : Z} {s : Slots} {a : Array Value} (h : TR f nx z s a) {t : Nat} {v : Value} (hs : s.get t = .v (.one (.f (.lit v)))) (hv : v ≠ undef) : a[t]? = some v := by
  have h1 := h t
  rw [hs] at h1
  have h1 := lit_ok h1
  cases hq : a[t]? with
  | none => simp [hq] at h1; exact absurd h1.symm hv
  | some q => simp [hq] at h1; rw [h1]

theorem put_TR {f : Fn} {nx : Nat} {z : Z} {sl : Slots} {a : Act} {N : Nat} {d : Option Nat} {x : SV} {v : Value} {st : St} (hst : st.sl = sl) (ht : TR f nx z sl a.tmps) (hN : a.tmps.size = N) (hd : (match d with | some d => Nat.ble (d + 1) N | none => true) = true) (hx : RS f nx z x v) :
    TR f nx z (st.put d x).sl (a.put d v).tmps ∧ (a.put d v).tmps.size = N ∧ (a.put d v).defers = a.defers := by
  cases d with
  | none => exact ⟨by simpa [St.put, Act.put, hst] using ht, hN, rfl⟩
  | some d =>
    have hd := nble hd
    refine ⟨?_, by simpa [Act.put] using hN, rfl⟩
    simp only [St.put, Act.put, hst]
    exact ht.put (by omega) hx

theorem put_H (st : St) (d : Option Nat) (v : SV) : (st.put d v).H = st.H ∧ (st.put d v).nx = st.nx ∧ (st.put d v).esc = st.esc := by
  cases d <;> exact ⟨rfl, rfl, rfl⟩

theorem St.putK_eq {β : Type} (st : St) (d : Option Nat) (v : SV) (k : St → β) : st.putK d v k = k (st.put d v) := by
  cases d with
  | none => rfl
  | some d => exact Tr.putK_eq st.sl d v fun s => k { st with sl := s }

theorem Post.reflA {f : Fn} {nx : Nat} {z : Z} {w : World} {H : Heap} {esc : Bool} (hr : Rel All f nx z w H) : Post All f nx z w H f nx z w H esc := Post.refl hr hr.noLive

section ops
variable {P : Program} {G : Ctx} (hG : CtxOk P G) {call : CallF} (hC : CallOk P call)
include hG hC

theorem evOps_seq {N : Nat} {ops : Array Oper} {Q : Exit → Act → World → Prop} : ∀ (l : List Oper) (k : Nat) (st : St) (st' : St), (∀ i, l[i]? = ops.toList[k + i]?) → (evOps G call N ops.toList l st).res = some st' →
    (st'.esc = false → st.esc = false) ∧ ∀ (f : Fn) (z : Z) (w : World) (a : Act), TR f st.nx z st.sl a.tmps → Rel All f st.nx z w st.H → a.tmps.size = N →
      (∀ f' z' w' a', Post All f st.nx z w st.H f' st'.nx z' w' st'.H st'.esc → TR f' st'.nx z' st'.sl a'.tmps → a'.tmps.size = N → a'.defers = a.defers → Q .normal a' w') → wpOps P ops Q (List.range' k l.length) a w
  | [], k, st, st', hl, h => by
    have h := T.ret_some h
    subst h
    refine ⟨id, fun f z w a ht hr hN hQ => ?_⟩
    simp only [List.length_nil, List.range'_zero, wpOps]
    exact hQ f z w a (Post.reflA hr) ht hN rfl
  | o :: l, k, st, st', hl, h => by
    have ho : ops[k]? = some o := by
      have := hl 0
      simp only [List.getElem?_cons_zero, Nat.add_zero] at this
      simpa using this.symm
    have hl' : ∀ i, l[i]? = ops.toList[k + 1 + i]? := fun i => by
      have := hl (i + 1)
      rw [List.getElem?_cons_succ] at this
      rw [this]
      congr 1
      omega
    -- an operation is run
    have doit : ∀ (st1 : St), st1.H = st.H → st1.nx = st.nx → st1.esc = st.esc → (match o.dst with | some d => Nat.ble (d + 1) N | none => true) = true →
        ((evOp G call false st1 o).bind fun u => forceV G.sym u.v fun v => evOps G call N ops.toList l ((st1.up u).put o.dst v)).res = some st' →
        (st'.esc = false → st.esc = false) ∧ ∀ (f : Fn) (z : Z) (w : World) (a : Act), TR f st.nx z st1.sl a.tmps → Rel All f st.nx z w st.H → a.tmps.size = N →
          (∀ f' z' w' a', Post All f st.nx z w st.H f' st'.nx z' w' st'.H st'.esc → TR f' st'.nx z' st'.sl a'.tmps → a'.tmps.size = N → a'.defers = a.defers → Q .normal a' w') → o.wp P a w (wpOps P ops Q (List.range' (k + 1) l.length)) Q := by
      intro st1 e1 e2 e3 hd h
      obtain ⟨u, hu, h⟩ := T.bind_some h
      rw [forceV_eq] at h
      obtain ⟨p1, p2, p3⟩ := put_H (st1.up u) o.dst u.v
      obtain ⟨i1, i2⟩ := evOps_seq l (k + 1) _ st' hl' h
      rw [p3] at i1
      have i1 : st'.esc = false → (st1.esc || u.esc) = false := i1
      refine ⟨fun he => ?_, fun f z w a ht hr hN hQ => ?_⟩
      · have := i1 he
        rw [e3] at this
        simp only [Bool.or_eq_false_iff] at this
        exact this.1
      · have hop := evOp_ok hG hC hu
        rw [← e2] at ht hr
        rw [← e1] at hr
        refine hop f z w a ht (hr.less fun b _ => trivial) hr.noLive _ Q fun f' z' w' v' hp hv => ?_
        have hp := Post.lift hr hp
        obtain ⟨q1, q2, q3⟩ := put_TR (st := (st1.up u)) rfl (ht.mono hp.ext hp.hnx hp.zle) hN hd hv
        refine i2 f' z' w' (a.put o.dst v') (by rw [p2]; exact q1) (by rw [p1, p2]; exact hp.all) q2 fun f'' z'' w'' a'' hp2 ht2 hN2 hd2 => ?_
        rw [p1, p2] at hp2
        rw [← e1, ← e2] at hQ
        refine hQ f'' z'' w'' a'' ((Post.trans hp hp2).weak fun he => ?_) ht2 hN2 (hd2.trans q3)
        have := i1 he
        simp only [Bool.or_eq_false_iff] at this ⊢
        exact ⟨this.2, he⟩
    simp only [evOps, St.putK_eq] at h
    split at h
    · exact (T.bad_some h).elim
    rename_i hd
    have hd' : (match o.dst with | some d => Nat.ble (d + 1) N | none => true) = true := hd
    split at h
    · rename_i hgd
      obtain ⟨a1, a2⟩ := doit st rfl rfl rfl hd' h
      refine ⟨a1, fun f z w a ht hr hN hQ => ?_⟩
      simp only [List.length_cons, List.range'_succ, wpOps, ho]
      rw [if_pos (by simp [Region.wanted, hgd])]
      exact .inl (a2 f z w a ht hr hN hQ)
    · rename_i j want hgd
      split at h
      · exact (T.bad_some h).elim
      rename_i t hj
      have hj' : (ops[j]?).bind (·.dst) = some t := by simpa using hj
      -- it isn't carried out
      have skip : ∀ (st1 : St), st1.H = st.H → st1.nx = st.nx → st1.esc = st.esc → (evOps G call N ops.toList l (st1.put o.dst (.tup []))).res = some st' →
          (∀ (f : Fn) (z : Z) (w : World) (a : Act), TR f st.nx z st.sl a.tmps → TR f st1.nx z st1.sl a.tmps ∧ Region.wanted o (yielded ops a.tmps) = false) →
          (st'.esc = false → st.esc = false) ∧ ∀ (f : Fn) (z : Z) (w : World) (a : Act), TR f st.nx z st.sl a.tmps → Rel All f st.nx z w st.H → a.tmps.size = N →
            (∀ f' z' w' a', Post All f st.nx z w st.H f' st'.nx z' w' st'.H st'.esc → TR f' st'.nx z' st'.sl a'.tmps → a'.tmps.size = N → a'.defers = a.defers → Q .normal a' w') → wpOps P ops Q (List.range' k (o :: l).length) a w := by
        intro st1 e1 e2 e3 h hw
        obtain ⟨p1, p2, p3⟩ := put_H st1 o.dst (.tup [])
        obtain ⟨i1, i2⟩ := evOps_seq l (k + 1) _ st' hl' h
        rw [p3, e3] at i1
        refine ⟨i1, fun f z w a ht hr hN hQ => ?_⟩
        obtain ⟨ht2, hwant⟩ := hw f z w a ht
        simp only [List.length_cons, List.range'_succ, wpOps, ho]
        rw [if_neg (by rw [hwant]; simp)]
        obtain ⟨q1, q2, q3⟩ := put_TR (x := .tup []) (v := undef) (st := st1) rfl ht2 hN hd' ⟨#[], rfl, RAs.nil⟩
        refine i2 f z w _ (by rw [p2]; exact q1) (by rw [p1, p2, e1, e2]; exact hr) q2 fun f'' z'' w'' a'' hp2 ht3 hN2 hd2 => ?_
        rw [p1, p2, e1, e2] at hp2
        exact hQ f'' z'' w'' a'' hp2 ht3 hN2 (hd2.trans q3)
      split at h
      · rename_i hnone
        refine skip st rfl rfl rfl h fun f z w a ht => ⟨ht, ?_⟩
        have h1 := ht t
        cases hs : st.sl.get t with
        | v x => rw [hs] at hnone; cases hnone
        | top => rw [hs] at hnone; cases hnone
        | tup l' =>
          cases l' with
          | cons x l' => rw [hs] at hnone; cases hnone
          | nil =>
            rw [hs] at h1
            obtain ⟨vs, h1, _⟩ := h1
            have : yielded ops a.tmps j = none := by
              simp only [yielded, hj', Option.bind_some]
              cases hq : a.tmps[t]? with
              | none => rfl
              | some v =>
                rw [Array.getD_eq_getD_getElem?, hq] at h1
                simp only [Option.getD_some] at h1
                rw [h1]
            simp only [Region.wanted, hgd, this]
            rfl
      obtain ⟨c, hc, h⟩ := split_some h
      have hwant : ∀ (f : Fn) (z : Z) (w : World) (a : Act), TR f st.nx z st.sl a.tmps → Region.wanted o (yielded ops a.tmps) = (c == want) := by
        intro f z w a ht
        have hs := ht.slot (t := t) (v := .bool c) hc (by intro h; cases h)
        have : yielded ops a.tmps j = some c := by simp [yielded, hj', hs]
        simp only [Region.wanted, hgd, this]
        cases c <;> cases want <;> rfl
      split at h
      · rename_i hcw
        have hcw' : (c == want) = true := by revert hcw; cases c <;> cases want <;> simp
        obtain ⟨a1, a2⟩ := doit st rfl rfl rfl hd' h
        refine ⟨a1, fun f z w a ht hr hN hQ => ?_⟩
        simp only [List.length_cons, List.range'_succ, wpOps, ho]
        rw [if_pos (by rw [hwant f z w a ht, hcw'])]
        exact .inl (a2 f z w a ht hr hN hQ)
      · rename_i hcw
        have hcw' : (c == want) = false := by revert hcw; cases c <;> cases want <;> simp
        exact skip st rfl rfl rfl h fun f z w a ht => ⟨ht, by rw [hwant f z w a ht, hcw']⟩

end ops

/-- what stands in an own block leads to no block that isn't there yet -/
theorem RC.inside {f : Fn} {nx : Nat} {z : Z} {x : CV} {v : Value} (h : RC f nx z x v) : x.beyond nx = false := by
  have key : ∀ b, b < nx → Nat.ble nx b = false := fun b hb => by
    cases hq : Nat.ble nx b with
    | false => rfl
    | true => have := nble hq; omega
  cases x with
  | f x => rfl
  | ptr b m i j => exact key _ h.1
  | sl nil b m i j len cap ex sz => exact key _ h.1
  | mp b => exact key _ h.1
  | fn g l =>
    simp only [CV.beyond, List.any_eq_false, Bool.not_eq_true]
    exact fun x hx => key _ (h.2 x hx)

theorem Rel.noNew {f : Fn} {nx : Nat} {z : Z} {w : World} {H : Heap} (hr : Rel All f nx z w H) : NoNew nx H := by
  intro b l hb hg x hx
  have hl : (H.get b).live := by rw [hg]; trivial
  obtain ⟨_, hok⟩ := hr.own b trivial hl
  obtain ⟨i, hi⟩ := List.mem_iff_getElem?.1 hx
  obtain ⟨_, v, _, hc⟩ := hok.cell 0 0 i x (by rw [hg]; simp [Ob.at, hi])
  exact hc.inside

theorem RA.below {f : Fn} {nx n0 : Nat} {z : Z} {x : AV} {v : Value} (h : RA f nx z x v) (hb : x.cells.any (CV.beyond n0) = false) : RA f n0 z x v := by
  rw [List.any_eq_false] at hb
  cases x with
  | one x => exact RC.below h (by simpa using hb x (by simp [AV.cells]))
  | agg l =>
    obtain ⟨cs, rfl, h1, h2⟩ := h
    exact ⟨cs, rfl, h1, fun i y w hy hw => RC.below (h2 i y w hy hw) (by simpa using hb y (List.mem_of_getElem? hy))⟩

noncomputable def argSlots : Nat → List AV → Slots → Slots
  | _, [], s => s
  | n, a :: r, s => argSlots (n + 1) r (s.put n (.v a))

theorem argSlotsK_eq {β : Type} : ∀ (l : List AV) (n : Nat) (s : Slots) (k : Slots → β), argSlotsK n l s k = k (argSlots n l s)
  | [], _, _, _ => rfl
  | a :: r, n, s, k => by
    simp only [argSlotsK, argSlots]
    exact (Tr.putK_eq s n (.v a) fun s => argSlotsK (n + 1) r s k).trans (argSlotsK_eq r (n + 1) _ k)

theorem argSlots_get : ∀ (l : List AV) (n : Nat) (s : Slots) (t : Nat), (argSlots n l s).get t = match (if n ≤ t then l[t - n]? else none) with | some x => .v x | none => s.get t
  | [], n, s, t => by simp [argSlots]
  | a :: r, n, s, t => by
    simp only [argSlots]
    rw [argSlots_get r (n + 1)]
    by_cases e : n = t
    · subst e
      have : ¬ n + 1 ≤ n := by omega
      simp only [this, if_false, Nat.le_refl, if_true, Nat.sub_self, List.getElem?_cons_zero]
      rw [Slots.get_cons, if_pos rfl]
    · by_cases h : n ≤ t
      · have h2 : n + 1 ≤ t := by omega
        simp only [h, h2, if_true]
        rw [show t - n = (t - (n + 1)) + 1 by omega, List.getElem?_cons_succ, Slots.get_cons, if_neg e]
      · have h2 : ¬ n + 1 ≤ t := by omega
        simp only [h, h2, if_false]
        rw [Slots.get_cons, if_neg e]

theorem argSlots_TR {f : Fn} {nx : Nat} {z : Z} {args : List AV} {vs : Array Value} (h : RAs f nx z args vs.toList) (k N : Nat) : TR f nx z (argSlots 0 args (Slots.none N)) (vs ++ Array.replicate k undef) := by
  intro t
  rw [argSlots_get, show (Slots.none N).get t = .top from Tr.get_forks _ _ _]
  simp only [Nat.zero_le, if_true, Nat.sub_zero]
  cases hx : args[t]? with
  | none => trivial
  | some x =>
    have hlt : t < vs.toList.length := by rw [← h.1]; exact (List.getElem?_eq_some_iff.1 hx).1
    have hlt' : t < vs.size := by simpa using hlt
    have := h.2 t x vs[t] hx (by simp [hlt'])
    have e : (vs ++ Array.replicate k undef).getD t undef = vs[t] := by
      rw [Array.getD_eq_getD_getElem?, Array.getElem?_append_left hlt']
      simp [hlt']
    rw [e]
    exact this

theorem resultsOf_ok {P : Program} {G : Ctx} (hG : CtxOk P G) {f : Fn} {z : Z} {w : World} {st : St} {a : Array Value} (ht : TR f st.nx z st.sl a) (hr : Rel All f st.nx z w st.H) : ∀ (l : List ResultVar) (r : List AV), (resultsOf G st l).res = some r →
    ∃ vs : List Value, (l.mapM fun | .tmp t => pure (a.getD t undef) | .cell x t => do loadVar t (← asAddr (a.getD x undef)) : Sem (List Value)).run P w = .ok vs w ∧ RAs f st.nx z r vs
  | [], r, h => by
    have h := T.ret_some h
    subst h
    exact ⟨[], rfl, RAs.nil⟩
  | .tmp t :: l, r, h => by
    simp only [resultsOf] at h
    split at h
    · rename_i x hx
      obtain ⟨q, hq, h⟩ := T.bind_some h
      have h := T.ret_some h
      subst h
      obtain ⟨vs, h1, h2⟩ := resultsOf_ok hG ht hr l q hq
      have hv := ht t
      rw [hx] at hv
      refine ⟨a.getD t undef :: vs, ?_, RAs.cons hv h2⟩
      simp only [List.mapM_cons, Sem.run_bind, Sem.run_pure, Result.andThen_ok, h1]
    · exact (T.bad_some h).elim
  | .cell x t :: l, r, h => by
    simp only [resultsOf] at h
    split at h
    · rename_i i b m c j hi hx
      obtain ⟨cl, hcl, h⟩ := T.bind_some h
      split at h
      · rename_i v hv
        obtain ⟨q, hq, h⟩ := T.bind_some h
        have h := T.ret_some h
        subst h
        obtain ⟨vs, h1, h2⟩ := resultsOf_ok hG ht hr l q hq
        have hp := ht x
        rw [hx] at hp
        obtain ⟨hb, hp⟩ := hp
        have hlive := (Ob.rd_ok hcl).2.1
        obtain ⟨_, hok⟩ := hr.own b trivial hlive
        obtain ⟨us, r1, r2, r3⟩ := hok.read hcl
        obtain ⟨y, y1, y2⟩ := run_loadVar' (hG.ti t i hi) r1 r2 hv w (ad f b m c j) r3
        refine ⟨y :: vs, ?_, RAs.cons y2 h2⟩
        rw [List.mapM_cons, Sem.run_bind]
        show Result.andThen ((do loadVar t (← asAddr (a.getD x undef))).run P w) _ = _
        rw [hp]
        have e0 : (do loadVar t (← asAddr (Value.pointer (some (ad f b m c j)))) : Sem Value) = loadVar t (ad f b m c j) := rfl
        rw [e0, y1, Result.andThen_ok, Sem.run_bind]
        erw [h1]
        rfl
      · exact (T.bad_some h).elim
    · exact (T.bad_some h).elim

end Go.Proofs.YtpidkmegakdohaaGreat.Kn
