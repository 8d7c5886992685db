/- The engine, part 14: what an operation writes is all that it changes. -/
import Derived.Test.YtpidkmegakdohaaGreatK13
namespace Go.Proofs.YtpidkmegakdohaaGreat.Kn
open Go
set_option linter.unusedVariables false
set_option linter.unusedSimpArgs false

def T.Every {α : Type} (p : α → Prop) : T α → Prop
  | .ret a => p a
  | .bad => True

theorem T.Every.res {α : Type} {p : α → Prop} : ∀ {t : T α} {a : α}, t.Every p → t.res = some a → p a
  | .ret b, a, h, e => by
    simp only [T.res, Option.some.injEq] at e
    subst e
    exact h
  | .bad, a, h, e => by cases e

theorem T.Every.bindR {α β : Type} {p : β → Prop} {k : α → T β} {t : T α} (h : ∀ a, t.res = some a → (k a).Every p) : (t.bind k).Every p := by
  cases t with
  | ret a => exact h a rfl
  | bad => trivial

theorem T.Every.brR {α : Type} {p : α → Prop} {b : Bool} {t e : T α} (h : b = true → t.Every p) (k : b = false → e.Every p) : (T.br b t e).Every p := by
  cases b with
  | true => exact h rfl
  | false => exact k rfl

theorem T.Every.needR {α : Type} {p : α → Prop} {b : Bool} {t : T α} (h : b = true → t.Every p) : (T.need b t).Every p := T.Every.brR h fun _ => trivial

theorem T.Every.bind2 {α β : Type} {q : α → Prop} {p : β → Prop} {k : α → T β} (h : ∀ a, q a → (k a).Every p) {t : T α} (ht : t.Every q) : (t.bind k).Every p :=
  T.Every.bindR fun a ha => h a (ht.res ha)

/-- no block stands from the n-th on -/
def Low (n : Nat) (H : Heap) : Prop := ∀ b, n ≤ b → ¬ (H.get b).live

theorem Low.lt {n : Nat} {H : Heap} (h : Low n H) {b : Nat} (hl : (H.get b).live) : b < n := by
  rcases Nat.lt_or_ge b n with h1 | h1
  · exact h1
  · exact absurd hl (h b h1)

/-- what isn't written is as it was -/
def Keeps (st : St) (u : Out) : Prop := Low st.nx st.H → st.nx ≤ u.nx ∧ Low u.nx u.H ∧ (∀ b, b < st.nx → b ∉ u.wr → u.H.get b = st.H.get b) ∧ (∀ b ∈ u.wr, b < u.nx) ∧ ∀ b, st.nx ≤ b → b < u.nx → b ∈ u.wr

def CallKeeps (call : CallF) : Prop := ∀ g args H nx, (call g args H nx).Every fun o => Low nx H → nx ≤ o.nx ∧ Low o.nx o.H ∧ (∀ b, b < nx → b ∉ o.wr → o.H.get b = H.get b) ∧ ∀ b ∈ o.wr, b < nx

theorem keeps_same {st : St} {v : SV} {e : Bool} {fp : List Nat} : (T.ret ⟨v, st.H, st.nx, e, fp, []⟩ : T Out).Every (Keeps st) := fun h =>
  ⟨Nat.le_refl _, h, fun _ _ _ => rfl, fun b hb => by simp at hb, fun b h1 h2 => by simp only at h2; omega⟩

theorem keeps_mark {st : St} {v : SV} {e : Bool} {fp : List Nat} {b : Nat} (hl : (st.H.get b).live) : (T.ret ⟨v, st.H, st.nx, e, fp, [b]⟩ : T Out).Every (Keeps st) := fun h =>
  ⟨Nat.le_refl _, h, fun _ _ _ => rfl, fun c hc => by simp only [List.mem_singleton] at hc; subst hc; exact h.lt hl, fun b h1 h2 => by simp only at h2; omega⟩

theorem keeps_pure {st : St} {v : SV} : (pure1 st v).Every (Keeps st) := keeps_same

theorem keeps_cons {st : St} {v : SV} {o : Ob} {e : Bool} {fp : List Nat} : (T.ret ⟨v, st.H.put st.nx o, st.nx + 1, e, fp, [st.nx]⟩ : T Out).Every (Keeps st) := fun h => by
  refine ⟨Nat.le_succ _, fun b hb => ?_, fun b _ hb => ?_, fun b hb => ?_, fun b h1 h2 => ?_⟩
  · simp only at hb ⊢
    rw [Heap.get_cons, if_neg (by omega)]
    exact h b (by omega)
  · simp only [List.mem_singleton] at hb
    simp only
    rw [Heap.get_cons, if_neg (fun e => hb e.symm)]
  · simp only [List.mem_singleton] at hb
    subst hb
    exact Nat.lt_succ_self _
  · simp only at h2
    simp only [List.mem_singleton]
    omega

theorem keeps_new {st : St} {l : List CV} {v : Nat → SV} : (newBlock st l v).Every (Keeps st) := by
  unfold newBlock
  rw [Heap.putK_eq]
  exact keeps_cons

theorem keeps_put {st : St} {v : SV} {b : Nat} {o : Ob} {e : Bool} {fp : List Nat} (hl : (st.H.get b).live) : (T.ret ⟨v, st.H.put b o, st.nx, e, fp, [b]⟩ : T Out).Every (Keeps st) := fun h => by
  have hb := h.lt hl
  refine ⟨Nat.le_refl _, fun c hc => ?_, fun c _ hc => ?_, fun c hc => ?_, fun c h1 h2 => by simp only at h2; omega⟩
  · simp only at hc ⊢
    rw [Heap.get_put, if_neg (by omega)]
    exact h c hc
  · simp only [List.mem_singleton] at hc
    simp only
    rw [Heap.get_put, if_neg (fun e => hc e.symm)]
  · simp only [List.mem_singleton] at hc
    subst hc
    exact hb

theorem get_kill : ∀ (l : List Nat) (H : Heap) (b : Nat), b ∉ l → (l.foldl (fun H b => H.put b .dead) H).get b = H.get b
  | [], _, _, _ => rfl
  | c :: l, H, b, h => by
    simp only [List.mem_cons, not_or] at h
    rw [List.foldl_cons, get_kill l _ b h.2, Heap.get_put, if_neg (fun e => h.1 e.symm)]

theorem low_kill {n : Nat} : ∀ (l : List Nat) (H : Heap), Low n H → Low n (l.foldl (fun H b => H.put b .dead) H)
  | [], _, h => h
  | c :: l, H, h => by
    rw [List.foldl_cons]
    refine low_kill l _ fun b hb => ?_
    rw [Heap.get_put]
    split
    · exact id
    · exact h b hb

theorem keeps_grown {st : St} {kill : List Nat} {sz : Nat} {s : Src} {fp : List Nat} (hk : ∀ b ∈ kill, (st.H.get b).live) : (grown st kill sz s fp).Every (Keeps st) := by
  have key : ∀ (v : SV) (o : Ob), (T.ret ⟨v, (kill.foldl (fun H b => H.put b .dead) st.H).put st.nx o, st.nx + 1, false, fp, st.nx :: kill⟩ : T Out).Every (Keeps st) := fun v o h => by
    refine ⟨Nat.le_succ _, fun b hb => ?_, fun b _ hb => ?_, fun b hb => ?_, fun b h1 h2 => ?_⟩
    · simp only at hb ⊢
      rw [Heap.get_cons, if_neg (by omega)]
      exact low_kill kill _ h b (by omega)
    · simp only [List.mem_cons, not_or] at hb
      simp only
      rw [Heap.get_cons, if_neg (fun e => hb.1 e.symm), get_kill _ _ _ hb.2]
    · rcases List.mem_cons.1 hb with rfl | hb
      · exact Nat.lt_succ_self _
      · have := h.lt (hk b hb)
        simp only
        omega
    · simp only at h2
      simp only [List.mem_cons]
      left
      omega
  unfold grown
  cases s with
  | flat n l => dsimp only; rw [Heap.putK_eq]; exact key _ _
  | fn n e => dsimp only; rw [Heap.putK_eq]; exact key _ _

theorem srcOf_live {H : Heap} {sz : Nat} {nil : Bool} {b m i j len cap : Nat} {ex : Bool} {s : Nat} {r : Src × List Nat} (h : (srcOf H sz (.sl nil b m i j len cap ex s)).res = some r) : (H.get b).live := by
  simp only [srcOf] at h
  split at h
  · split at h
    · rename_i hq; rw [hq]; trivial
    · rename_i hq
      rw [hq]
      split at h
      · obtain ⟨h, _⟩ := T.need_some h
        rw [Bool.and_eq_true] at h
        exact h.1
      · exact (T.bad_some h).elim
    · exact (T.bad_some h).elim
  · exact (T.bad_some h).elim

theorem killOf_live {H : Heap} {ex : Bool} {b : Nat} (h : (H.get b).live) : ∀ c ∈ killOf ex b, (H.get c).live := fun c hc => by
  cases ex with
  | true => cases hc
  | false => simp only [killOf, List.mem_singleton] at hc; subst hc; exact h

theorem keeps_call {d : Bool} {call : CallF} (hC : CallKeeps call) {st : St} {g : Nat} {args : List AV} : (evCallOp call d st g args).Every (Keeps st) := by
  have hnew : ∀ (n b : Nat), b ∈ (List.range (n - st.nx)).map (st.nx + ·) ↔ (st.nx ≤ b ∧ b < n) := fun n b => by
    simp only [List.mem_map, List.mem_range]
    constructor
    · rintro ⟨a, ha, rfl⟩; exact ⟨by omega, by omega⟩
    · rintro ⟨h1, h2⟩; exact ⟨b - st.nx, by omega, by omega⟩
  unfold evCallOp
  cases d with
  | false =>
    refine T.Every.bind2 (fun o ho => ?_) (hC _ _ _ _)
    show Keeps st _
    intro h
    obtain ⟨h1, h2, h3, h4⟩ := ho h
    refine ⟨h1, h2, fun b hb hw => ?_, fun b hb => ?_, fun b h5 h6 => ?_⟩
    · simp only [List.mem_append, not_or] at hw
      exact h3 b hb hw.1
    · simp only [List.mem_append, hnew] at hb
      rcases hb with hb | hb
      · exact Nat.lt_of_lt_of_le (h4 b hb) h1
      · exact hb.2
    · simp only [List.mem_append, hnew]
      exact .inr ⟨h5, h6⟩
  | true =>
    simp only
    generalize hids : List.filter _ (reach st.H 4000 _ []) = ids
    have hlt : ∀ b ∈ ids, b < st.nx := fun b hb => by
      rw [← hids, List.mem_filter] at hb
      exact nble hb.2
    refine T.Every.bind2 (fun o ho => ?_) (hC _ _ _ _)
    show Keeps st _
    intro h
    have hlow : Low st.nx (lay st.H ids Heap.none) := fun b hb => by
      rw [get_lay, if_neg (fun h => by have := hlt b h; omega), Heap.get_none]
      exact id
    obtain ⟨h1, h2, h3, h4⟩ := ho hlow
    have hget : ∀ b, Heap.get (lay o.H (ids ++ (List.range (o.nx - st.nx)).map (st.nx + ·)) st.H) b = if b ∈ ids ∨ (st.nx ≤ b ∧ b < o.nx) then o.H.get b else st.H.get b := fun b => by
      rw [get_lay]
      simp only [List.mem_append, hnew]
    refine ⟨h1, fun b hb => ?_, fun b hb hw => ?_, fun b hb => ?_, fun b h5 h6 => ?_⟩
    · simp only at hb ⊢
      rw [hget, if_neg]
      · exact h b (by omega)
      · rintro (h | h)
        · have := hlt b h; omega
        · omega
    · simp only [List.mem_append, List.mem_filter, hnew, not_or, not_and, Bool.not_eq_true] at hw
      simp only
      rw [hget]
      split
      · rename_i hc
        rcases hc with hc | hc
        · have hnw : b ∉ o.wr := fun h => by
            have := hw.1 hc
            rw [(anyBeq _ _).2 h] at this
            cases this
          rw [h3 b hb hnw, get_lay, if_pos hc]
        · omega
      · rfl
    · simp only [List.mem_append, List.mem_filter, hnew] at hb
      simp only
      rcases hb with hb | hb
      · have := hlt b hb.1; omega
      · exact hb.2
    · simp only [List.mem_append, hnew]
      exact .inr ⟨h5, h6⟩

theorem keeps_pick {st : St} {x : Operand} {k : Bool → SV} : (split st x fun b => pure1 st (k b)).Every (Keeps st) := by
  unfold split
  split
  · exact T.Every.brR (fun _ => keeps_pure) fun _ => keeps_pure
  · trivial

theorem evOp_keeps {d : Bool} {G : Ctx} {call : CallF} (hC : CallKeeps call) {st : St} {o : Oper} : (evOp G call d st o).Every (Keeps st) := by
  unfold evOp
  split <;> repeat' (first
    | exact keeps_pick | exact keeps_pure | exact keeps_new | exact keeps_same | exact keeps_cons | exact keeps_call hC | exact keeps_grown (by simp) | exact keeps_grown (killOf_live (srcOf_live ‹_›))
    | exact keeps_put (Ob.wr_ok ‹_›).1 | (refine keeps_put ?_; simp_all [Ob.live]; done) | (refine keeps_mark ?_; simp_all [Ob.live]; done) | trivial
    | refine T.Every.needR (fun _ => ?_) | refine T.Every.brR (fun _ => ?_) (fun _ => ?_)
    | refine T.Every.bindR (fun _ _ => ?_)
    | (unfold evBuiltin) | (unfold evAppend) | (unfold evCopy) | (unfold evClear) | (unfold evConvert) | (unfold evLookup) | (unfold evMapUpdate) | (unfold lookS)
    | (rw [Heap.putK_eq])
    | split | dsimp only)

/-! the same of code -/

def Kp (st st' : St) : Prop := st'.base = st.base ∧ (Low st.nx st.H → st.nx ≤ st'.nx ∧ Low st'.nx st'.H ∧ ∀ b, b < st.base → b < st.nx → b ∉ st'.wr → b ∉ st.wr ∧ st'.H.get b = st.H.get b) ∧ ((∀ b ∈ st.wr, b < st.base) → ∀ b ∈ st'.wr, b < st.base)

theorem Kp.refl (st : St) : Kp st st := ⟨rfl, fun h => ⟨Nat.le_refl _, h, fun _ _ _ h => ⟨h, rfl⟩⟩, id⟩

theorem Kp.trans {a b c : St} (h : Kp a b) (k : Kp b c) : Kp a c :=
  ⟨k.1.trans h.1, fun hl => by
    obtain ⟨h1, h2, h3⟩ := h.2.1 hl
    obtain ⟨k1, k2, k3⟩ := k.2.1 h2
    refine ⟨Nat.le_trans h1 k1, k2, fun x p1 p2 p3 => ?_⟩
    obtain ⟨q1, q2⟩ := k3 x (by rw [h.1]; exact p1) (Nat.lt_of_lt_of_le p2 h1) p3
    obtain ⟨q4, q5⟩ := h3 x p1 p2 q1
    exact ⟨q4, q2.trans q5⟩, fun hw => by
    have := k.2.2
    rw [h.1] at this
    exact this (h.2.2 hw)⟩

theorem Kp.of {a b : St} (h1 : b.base = a.base) (h2 : b.nx = a.nx) (h3 : b.wr = a.wr) (h4 : b.H = a.H) : Kp a b :=
  ⟨h1, fun h => ⟨by rw [h2]; exact Nat.le_refl _, by rw [h2, h4]; exact h, fun x _ _ h => ⟨by rw [← h3]; exact h, by rw [h4]⟩⟩, fun h => by rw [h3]; exact h⟩

theorem Kp.put (st : St) (d : Option Nat) (v : SV) : Kp st (st.put d v) := by cases d <;> exact Kp.of rfl rfl rfl rfl

theorem addWr_mem {base b : Nat} (hb : b < base) : ∀ (l acc : List Nat), (b ∈ l ∨ b ∈ acc) → b ∈ addWr base l acc
  | [], acc, h => h.resolve_left (by simp)
  | c :: l, acc, h => by
    simp only [addWr]
    split
    · rename_i hc
      refine addWr_mem hb l acc ?_
      rcases h with h | h
      · rcases List.mem_cons.1 h with rfl | h
        · rw [Bool.or_eq_true] at hc
          rcases hc with hc | hc
          · have := nble hc; omega
          · exact .inr ((anyBeq _ _).1 hc)
        · exact .inl h
      · exact .inr h
    · refine addWr_mem hb l (c :: acc) ?_
      rcases h with h | h
      · rcases List.mem_cons.1 h with rfl | h
        · exact .inr (by simp)
        · exact .inl h
      · exact .inr (by simp [h])

theorem addWr_lt {base : Nat} : ∀ (l acc : List Nat), (∀ b ∈ acc, b < base) → ∀ b ∈ addWr base l acc, b < base
  | [], acc, h => h
  | c :: l, acc, h => by
    simp only [addWr]
    split
    · exact addWr_lt l acc h
    · rename_i hc
      refine addWr_lt l (c :: acc) fun b hb => ?_
      rcases List.mem_cons.1 hb with rfl | hb
      · rw [Bool.or_eq_false_iff] at hc
        rcases Nat.lt_or_ge b base with h1 | h1
        · exact h1
        · rw [Nat.ble_eq_true_of_le h1] at hc; cases hc.1
      · exact h b hb

theorem Kp.up {st : St} {u : Out} (h : Keeps st u) : Kp st (st.up u) :=
  ⟨rfl, fun hl => by
    obtain ⟨h1, h2, h3, _, _⟩ := h hl
    exact ⟨h1, h2, fun b p1 p2 p3 => ⟨fun h4 => p3 (addWr_mem p1 _ _ (.inr h4)), h3 b p2 fun h4 => p3 (addWr_mem p1 _ _ (.inl h4))⟩⟩, fun hw => addWr_lt _ _ hw⟩

theorem T.Every.mono {α : Type} {p q : α → Prop} (h : ∀ a, p a → q a) : ∀ {t : T α}, t.Every p → t.Every q
  | .ret a, ha => h a ha
  | .bad, _ => trivial

theorem evOps_keeps {G : Ctx} {call : CallF} (hC : CallKeeps call) {N : Nat} {all : List Oper} : ∀ (l : List Oper) (st : St), (evOps G call N all l st).Every (Kp st)
  | [], st => Kp.refl st
  | o :: l, st => by
    have run : ((evOp G call false st o).bind fun u => forceV G.sym u.v fun v => (evOps G call N all l) ((st.up u).put o.dst v)).Every (Kp st) :=
      T.Every.bind2 (fun u hu => by
        rw [forceV_eq]
        exact (evOps_keeps hC l _).mono fun st' h => ((Kp.up hu).trans ((Kp.put _ _ _).trans h))) (evOp_keeps hC)
    have skip : (evOps G call N all l (st.put o.dst (.tup []))).Every (Kp st) := (evOps_keeps hC l _).mono fun st' h => (Kp.put _ _ _).trans h
    simp only [evOps, St.putK_eq]
    split
    · trivial
    · split
      · exact run
      · split
        · trivial
        · split
          · exact skip
          · unfold split
            split
            · refine T.Every.brR (fun _ => ?_) (fun _ => ?_) <;> dsimp only
              · split
                · exact run
                · exact skip
              · split
                · exact run
                · exact skip
            · trivial

theorem evDraw_keeps {G : Ctx} {call : CallF} (hC : CallKeeps call) {N : Nat} {ops : Array Oper} : ∀ (l : List Oper) (fl : List Bool) (st : St) (es : List Eff), (evDraw G call N ops l fl st es).Every fun x => Kp st x.1
  | [], fl, st, es => Kp.refl st
  | o :: l, fl, st, es => by
    have skip : ∀ es', (evDraw G call N ops l fl.tail (st.put o.dst (.tup [])) es').Every fun x => Kp st x.1 := fun es' => (evDraw_keeps hC l _ _ _).mono fun x h => (Kp.put _ _ _).trans h
    have run : ((evOp G call (fl.headD false) ⟨st.sl, st.H, st.nx, false, st.base, []⟩ o).bind fun u => forceV G.sym u.v fun v => evDraw G call N ops l fl.tail ((st.up u).put o.dst v) (effOf st.nx u :: es)).Every fun x => Kp st x.1 := by
      refine T.Every.bind2 (fun u hu => ?_) (evOp_keeps hC)
      rw [forceV_eq]
      exact (evDraw_keeps hC l _ _ _).mono fun x h => (Kp.up (st := st) (u := u) hu).trans ((Kp.put _ _ _).trans h)
    simp only [evDraw, St.putK_eq]
    split
    · trivial
    · split
      · exact run
      · split
        · trivial
        · split
          · split
            · exact T.Every.brR (fun _ => run) fun _ => skip _
            · exact T.Every.brR (fun _ => skip _) fun _ => run
          · exact skip _
          · trivial

def RunKeeps (run : Nat → Nat → Code → St → T (Ex × St)) : Prop := ∀ F N c st, (run F N c st).Every fun x => Kp st x.2

theorem evFn_keeps {G : Ctx} {run : Nat → Nat → Code → St → T (Ex × St)} (h : RunKeeps run) : CallKeeps (evFn G run) := by
  intro g args H nx
  unfold evFn
  split
  · trivial
  · split
    · rw [argSlotsK_eq]
      refine T.Every.bind2 (fun x hx => ?_) (h _ _ _ _)
      obtain ⟨e, st⟩ := x
      obtain ⟨h1, h2, h3⟩ := hx
      have key : ((resultsOf G st ‹Func›.results.toList).bind fun l => (T.ret ⟨outV l, st.H, st.nx, st.esc, st.wr⟩ : T CallOut)).Every fun (o : CallOut) => Low nx H → nx ≤ o.nx ∧ Low o.nx o.H ∧ (∀ b, b < nx → b ∉ o.wr → o.H.get b = H.get b) ∧ ∀ b ∈ o.wr, b < nx :=
        T.Every.bindR fun l _ hl => by
          obtain ⟨k1, k2, k3⟩ := h2 hl
          exact ⟨k1, k2, fun b hb hw => (k3 b hb hb hw).2, h3 (fun b hb => by simp at hb)⟩
      cases e with
      | exit id => trivial
      | normal => exact key
      | ret => exact key
    · trivial

def SumsKeep (G : Ctx) : Prop := ∀ g s, G.sum g = some s → ∀ args H nx, (s args H nx).Every fun o => Low nx H → nx ≤ o.nx ∧ Low o.nx o.H ∧ (∀ b, b < nx → b ∉ o.wr → o.H.get b = H.get b) ∧ ∀ b ∈ o.wr, b < nx

theorem evKnown_keeps {G : Ctx} (hs : SumsKeep G) {run : Nat → Nat → Code → St → T (Ex × St)} (h : RunKeeps run) : CallKeeps (evKnown G run) := by
  intro g args H nx
  unfold evKnown
  split
  · rename_i s hsum
    exact hs g s hsum args H nx
  · exact evFn_keeps h g args H nx

theorem ev_keeps {G : Ctx} (hs : SumsKeep G) : ∀ n, RunKeeps (ev G n)
  | 0 => fun _ _ _ _ => trivial
  | n + 1 => by
    have ih := ev_keeps (G := G) hs n
    intro F N c st
    cases c with
    | skip => exact Kp.refl st
    | label l => exact Kp.refl st
    | exit id => exact Kp.refl st
    | ret => exact Kp.refl st
    | seq a b =>
      simp only [ev]
      refine T.Every.bind2 (fun x hx => ?_) (ih F N a st)
      obtain ⟨e, st1⟩ := x
      cases e with
      | normal => exact (ih F N b st1).mono fun y hy => hx.trans hy
      | exit id => exact hx
      | ret => exact hx
    | cond c a b =>
      simp only [ev]
      unfold split
      split
      · exact T.Every.brR (fun _ => ih F N a _) fun _ => ih F N b _
      · trivial
    | block id c =>
      simp only [ev]
      refine T.Every.bind2 (fun x hx => ?_) (ih F N c st)
      obtain ⟨e, st1⟩ := x
      cases e with
      | normal => exact hx
      | ret => exact hx
      | exit k =>
        simp only
        split
        · exact hx
        · exact hx
    | loop c =>
      simp only [ev]
      refine T.Every.bind2 (fun x hx => ?_) (ih F N c st)
      obtain ⟨e, st1⟩ := x
      cases e with
      | normal => exact (ih F N (.loop c) st1).mono fun y hy => Kp.trans hx hy
      | exit id => exact hx
      | ret => exact hx
    | region id ops draw =>
      cases draw with
      | false =>
        simp only [ev]
        exact T.Every.bind2 (fun st1 h1 => h1) (evOps_keeps (evKnown_keeps hs ih) _ st)
      | true =>
        simp only [ev]
        split
        · trivial
        · refine T.Every.bind2 (fun x hx => ?_) (evDraw_keeps (evKnown_keeps hs ih) _ _ st _)
          obtain ⟨st1, es⟩ := x
          simp only
          split
          · exact hx
          · trivial
    | rangeFunc => trivial
    | scope => trivial
    | goto => trivial
    | refuse => trivial

theorem evCall_keeps {G : Ctx} (hs : SumsKeep G) (n : Nat) : CallKeeps (evCall G n) := evFn_keeps (ev_keeps hs n)

end Go.Proofs.YtpidkmegakdohaaGreat.Kn
