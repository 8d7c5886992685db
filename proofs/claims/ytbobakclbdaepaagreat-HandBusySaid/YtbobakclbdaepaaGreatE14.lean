/- The engine, part 14: what an operation writes is all that it changes. -/
import Derived.Test.YtbobakclbdaepaaGreatE13
namespace Go.Proofs.YtbobakclbdaepaaGreat.En
open Go
set_option linter.unusedVariables false
set_option linter.unusedSimpArgs false

def T.Every {α : Type} (p : α → Prop) : T α → Prop
  | .ret a => p a
  | .br _ t e => t.Every p ∧ e.Every p
  | .bad => True

theorem T.Every.res {α : Type} {p : α → Prop} : ∀ {t : T α} {a : α}, t.Every p → t.res = some a → p a
  | .ret b, a, h, e => by
    simp only [T.res, Option.some.injEq] at e
    subst e
    exact h
  | .br b t e, a, h, he => by
    cases b with
    | true => exact T.Every.res (t := t) h.1 he
    | false => exact T.Every.res (t := e) h.2 he
  | .bad, a, h, e => by cases e

theorem T.Every.bind {α β : Type} {p : β → Prop} {k : α → T β} (h : ∀ a, (k a).Every p) : ∀ (t : T α), (t.bind k).Every p
  | .ret a => h a
  | .br b t e => ⟨T.Every.bind h t, T.Every.bind h e⟩
  | .bad => trivial

theorem T.Every.need {α : Type} {p : α → Prop} {b : Bool} {t : T α} (h : t.Every p) : (T.need b t).Every p := ⟨h, trivial⟩

theorem T.Every.bind2 {α β : Type} {q : α → Prop} {p : β → Prop} {k : α → T β} (h : ∀ a, q a → (k a).Every p) : ∀ {t : T α}, t.Every q → (t.bind k).Every p
  | .ret a, ha => h a ha
  | .br b t e, ⟨h1, h2⟩ => ⟨T.Every.bind2 h h1, T.Every.bind2 h h2⟩
  | .bad, _ => trivial

/-- what isn't written is as it was; 'd': also where nothing was -/
def Keeps (d : Bool) (st : St) (u : Out) : Prop := st.nx ≤ u.nx ∧ ∀ b, (d = true ∨ b < st.nx) → b ∉ u.wr → u.H.get b = st.H.get b

def CallKeeps (call : CallF) : Prop := ∀ g args H nx, (call g args H nx).Every fun o => nx ≤ o.nx ∧ ∀ b, b < nx → b ∉ o.wr → o.H.get b = H.get b

theorem keeps_same {d : Bool} {st : St} {v : SV} {e : Bool} {fp wr : List Nat} : (T.ret ⟨v, st.H, st.nx, e, fp, wr⟩ : T Out).Every (Keeps d st) := ⟨Nat.le_refl _, fun _ _ _ => rfl⟩

theorem keeps_pure {d : Bool} {st : St} {v : SV} : (pure1 st v).Every (Keeps d st) := keeps_same

theorem keeps_cons {d : Bool} {st : St} {v : SV} {o : Ob} {e : Bool} {fp : List Nat} : (T.ret ⟨v, (st.nx, o) :: st.H, st.nx + 1, e, fp, [st.nx]⟩ : T Out).Every (Keeps d st) := ⟨Nat.le_succ _, fun b _ hb => by
  simp only [List.mem_singleton] at hb
  simp only
  rw [Heap.get_cons, if_neg (fun e => hb e.symm)]⟩

theorem keeps_new {d : Bool} {st : St} {l : List CV} {v : Nat → SV} : (newBlock st l v).Every (Keeps d st) := keeps_cons

theorem keeps_put {d : Bool} {st : St} {v : SV} {b : Nat} {o : Ob} {e : Bool} {fp : List Nat} : (T.ret ⟨v, st.H.put b o, st.nx, e, fp, [b]⟩ : T Out).Every (Keeps d st) := ⟨Nat.le_refl _, fun c _ hc => by
  simp only [List.mem_singleton] at hc
  simp only
  rw [Heap.get_put, if_neg (fun e => hc e.symm)]⟩

theorem get_kill : ∀ (l : List Nat) (H : Heap) (b : Nat), b ∉ l → (l.foldl (fun H b => H.put b .dead) H).get b = H.get b
  | [], _, _, _ => rfl
  | c :: l, H, b, h => by
    simp only [List.mem_cons, not_or] at h
    rw [List.foldl_cons, get_kill l _ b h.2, Heap.get_put, if_neg (fun e => h.1 e.symm)]

theorem keeps_grown {d : Bool} {st : St} {kill : List Nat} {sz : Nat} {s : Src} {fp : List Nat} : (grown st kill sz s fp).Every (Keeps d st) := by
  unfold grown
  cases s with
  | flat n l =>
    refine ⟨Nat.le_succ _, fun b _ hb => ?_⟩
    simp only [List.mem_cons, not_or] at hb
    simp only
    rw [Heap.get_cons, if_neg (fun e => hb.1 e.symm), get_kill _ _ _ hb.2]
  | fn n e =>
    refine ⟨Nat.le_succ _, fun b _ hb => ?_⟩
    simp only [List.mem_cons, not_or] at hb
    simp only
    rw [Heap.get_cons, if_neg (fun e => hb.1 e.symm), get_kill _ _ _ hb.2]

theorem get_append_out : ∀ (A B : Heap) (b : Nat), (∀ e ∈ A, e.1 ≠ b) → Heap.get (A ++ B) b = B.get b
  | [], _, _, _ => rfl
  | (k, o) :: A, B, b, h => by
    rw [List.cons_append, Heap.get_cons, if_neg (h (k, o) (by simp)), get_append_out A B b fun e he => h e (by simp [he])]

theorem keeps_call {d : Bool} {call : CallF} (hC : CallKeeps call) {st : St} {g : Nat} {args : List AV} : (evCallOp call d st g args).Every (Keeps d st) := by
  unfold evCallOp
  cases d with
  | false =>
    refine T.Every.bind2 (p := Keeps false st) (fun o ho => ?_) (hC _ _ _ _)
    refine ⟨ho.1, fun b hb hw => ?_⟩
    simp only [List.mem_append, not_or] at hw
    exact ho.2 b (hb.resolve_left (by simp)) hw.1
  | true =>
    simp only
    generalize hids : List.filter _ (reach st.H 4000 _ []) = ids
    have hlt : ∀ b ∈ ids, b < st.nx := fun b hb => by
      rw [← hids, List.mem_filter] at hb
      exact nble hb.2
    refine T.Every.bind2 (p := Keeps true st) (fun o ho => ?_) (hC _ _ _ _)
    refine ⟨ho.1, fun b _ hb => ?_⟩
    simp only [List.mem_append, List.mem_filter, not_or, not_and, Bool.not_eq_true] at hb
    have hin : Heap.get (st.H.filter fun e => ids.any (Nat.beq e.1)) b = if ids.any (Nat.beq b) = true then st.H.get b else .dead := get_filter (fun b => ids.any (Nat.beq b)) _ _
    have hout : Heap.get (st.H.filter fun e => !(ids.any (Nat.beq e.1))) b = if (!(ids.any (Nat.beq b))) = true then st.H.get b else .dead := get_filter (fun b => !(ids.any (Nat.beq b))) _ _
    have hnew : Heap.get (o.H.filter fun e => (ids ++ (List.range (o.nx - st.nx)).map (st.nx + ·)).any (Nat.beq e.1)) b = if (ids ++ (List.range (o.nx - st.nx)).map (st.nx + ·)).any (Nat.beq b) = true then o.H.get b else .dead :=
      get_filter (fun b => (ids ++ (List.range (o.nx - st.nx)).map (st.nx + ·)).any (Nat.beq b)) _ _
    by_cases hi : b ∈ ids
    · have hnw : b ∉ o.wr := fun h => by
        have := hb.1 hi
        rw [(anyBeq _ _).2 h] at this
        cases this
      have e1 := ho.2 b (hlt b hi) hnw
      rw [hin, if_pos ((anyBeq _ _).2 hi)] at e1
      rw [if_pos ((anyBeq _ _).2 (List.mem_append.2 (.inl hi)))] at hnew
      rw [if_neg (by rw [(anyBeq _ _).2 hi]; simp)] at hout
      rcases get_append (o.H.filter fun e => (ids ++ (List.range (o.nx - st.nx)).map (st.nx + ·)).any (Nat.beq e.1)) (st.H.filter fun e => !(ids.any (Nat.beq e.1))) b with h | ⟨h1, h2⟩
      · rw [h, hnew, e1]
      · rw [h2, hout, ← e1, ← hnew, h1]
    · rw [get_append_out, hout, if_pos]
      · cases hq : ids.any (Nat.beq b) with
        | false => rfl
        | true => exact absurd ((anyBeq _ _).1 hq) hi
      · intro e he heq
        rw [List.mem_filter] at he
        have := (anyBeq _ _).1 he.2
        rw [heq] at this
        rcases List.mem_append.1 this with h | h
        · exact hi h
        · exact hb.2 h

theorem keeps_pick {d : Bool} {st : St} {x : Operand} {k : Bool → St → SV} : (split st x fun b s => pure1 s (k b s)).Every (Keeps d st) := by
  unfold split
  split
  · refine ⟨⟨?_, fun b _ _ => ?_⟩, ⟨?_, fun b _ _ => ?_⟩⟩ <;> simp only
    · rw [(setB_H st x true).2.1]; exact Nat.le_refl _
    · rw [(setB_H st x true).1]
    · rw [(setB_H st x false).2.1]; exact Nat.le_refl _
    · rw [(setB_H st x false).1]
  · trivial

theorem evOp_keeps {d : Bool} {G : Ctx} {call : CallF} (hC : CallKeeps call) {st : St} {o : Oper} : (evOp G call d st o).Every (Keeps d st) := by
  unfold evOp
  split <;> repeat' (first
    | exact keeps_pick | exact keeps_pure | exact keeps_new | exact keeps_same | exact keeps_cons | exact keeps_call hC | exact keeps_grown | exact keeps_put | trivial
    | refine T.Every.need ?_
    | (refine T.Every.bind (fun _ => ?_) _)
    | (unfold evBuiltin) | (unfold evAppend) | (unfold evCopy) | (unfold evClear) | (unfold evConvert) | (unfold evLookup) | (unfold evMapUpdate) | (unfold lookS)
    | (rw [Heap.putK_eq])
    | split | refine ⟨?_, ?_⟩ | dsimp only)

/-! the same of code -/

def Kp (st st' : St) : Prop := st'.base = st.base ∧ st.nx ≤ st'.nx ∧ ∀ b, b < st.base → b < st.nx → b ∉ st'.wr → b ∉ st.wr ∧ st'.H.get b = st.H.get b

theorem Kp.refl (st : St) : Kp st st := ⟨rfl, Nat.le_refl _, fun _ _ _ h => ⟨h, rfl⟩⟩

theorem Kp.trans {a b c : St} (h : Kp a b) (k : Kp b c) : Kp a c :=
  ⟨k.1.trans h.1, Nat.le_trans h.2.1 k.2.1, fun x h1 h2 h3 => by
    obtain ⟨k1, k2⟩ := k.2.2 x (by rw [h.1]; exact h1) (Nat.lt_of_lt_of_le h2 h.2.1) h3
    obtain ⟨h4, h5⟩ := h.2.2 x h1 h2 k1
    exact ⟨h4, k2.trans h5⟩⟩

theorem Kp.of {a b : St} (h1 : b.base = a.base) (h2 : b.nx = a.nx) (h3 : b.wr = a.wr) (h4 : b.H = a.H) : Kp a b :=
  ⟨h1, by rw [h2]; exact Nat.le_refl _, fun x _ _ h => ⟨by rw [← h3]; exact h, by rw [h4]⟩⟩

theorem Kp.put (st : St) (d : Option Nat) (v : SV) : Kp st (st.put d v) := by cases d <;> exact Kp.of rfl rfl rfl rfl
theorem Kp.setB (st : St) (x : Operand) (b : Bool) : Kp st (st.setB x b) := by cases x <;> exact Kp.of rfl rfl rfl rfl

theorem addWr_mem {base b : Nat} (hb : b < base) : ∀ (l acc : List Nat), (b ∈ l ∨ b ∈ acc) → b ∈ addWr base l acc
  | [], acc, h => h.resolve_left (by simp)
  | c :: l, acc, h => by
    simp only [addWr]
    split
    · rename_i hc
      refine addWr_mem hb l acc ?_
      rcases h with h | h
      · rcases List.mem_cons.1 h with rfl | h
        · rw [Bool.or_eq_true] at hc
          rcases hc with hc | hc
          · have := nble hc; omega
          · exact .inr ((anyBeq _ _).1 hc)
        · exact .inl h
      · exact .inr h
    · refine addWr_mem hb l (c :: acc) ?_
      rcases h with h | h
      · rcases List.mem_cons.1 h with rfl | h
        · exact .inr (by simp)
        · exact .inl h
      · exact .inr (by simp [h])

theorem Kp.up {d : Bool} {st : St} {u : Out} (h : Keeps d st u) : Kp st (st.up u) :=
  ⟨rfl, h.1, fun b h1 h2 h3 => ⟨fun h4 => h3 (addWr_mem h1 _ _ (.inr h4)), h.2 b (.inr h2) fun h4 => h3 (addWr_mem h1 _ _ (.inl h4))⟩⟩

theorem T.Every.mono {α : Type} {p q : α → Prop} (h : ∀ a, p a → q a) : ∀ {t : T α}, t.Every p → t.Every q
  | .ret a, ha => h a ha
  | .br b t e, ⟨h1, h2⟩ => ⟨T.Every.mono h h1, T.Every.mono h h2⟩
  | .bad, _ => trivial

theorem evOps_keeps {G : Ctx} {call : CallF} (hC : CallKeeps call) {N : Nat} {all : List Oper} : ∀ (l : List Oper) (st : St), (evOps G call N all l st).Every (Kp st)
  | [], st => Kp.refl st
  | o :: l, st => by
    have run : ∀ st1, Kp st st1 → ((evOp G call false st1 o).bind fun u => forceV G.sym u.v fun v => evOps G call N all l ((st1.up u).put o.dst v)).Every (Kp st) := fun st1 h1 =>
      T.Every.bind2 (fun u hu => by
        rw [forceV_eq]
        exact (evOps_keeps hC l _).mono fun st' h => h1.trans ((Kp.up hu).trans ((Kp.put _ _ _).trans h))) (evOp_keeps hC)
    have skip : ∀ st1, Kp st st1 → (evOps G call N all l (st1.put o.dst (.tup []))).Every (Kp st) := fun st1 h1 => (evOps_keeps hC l _).mono fun st' h => h1.trans ((Kp.put _ _ _).trans h)
    simp only [evOps]
    split
    · trivial
    · split
      · exact run st (Kp.refl st)
      · split
        · trivial
        · split
          · exact skip st (Kp.refl st)
          · unfold split
            split
            · refine ⟨?_, ?_⟩ <;> dsimp only
              · split
                · exact run _ (Kp.setB _ _ _)
                · exact skip _ (Kp.setB _ _ _)
              · split
                · exact run _ (Kp.setB _ _ _)
                · exact skip _ (Kp.setB _ _ _)
            · trivial

theorem pruneK_at {β : Type} (s : Slots) : ∀ (l : List Nat), ∃ s' : Slots, (∀ k : Slots → β, pruneK s l k = k s')
  | [] => ⟨[], fun _ => rfl⟩
  | t :: l => by
    obtain ⟨s', h1⟩ := pruneK_at s l
    cases hx : s.get t with
    | top => exact ⟨s', fun k => by simp only [pruneK, hx]; exact h1 k⟩
    | v x => exact ⟨(t, .v x) :: s', fun k => by simp only [pruneK, hx]; exact h1 _⟩
    | tup x => exact ⟨(t, .tup x) :: s', fun k => by simp only [pruneK, hx]; exact h1 _⟩

theorem evDraw_keeps {G : Ctx} {call : CallF} (hC : CallKeeps call) {N : Nat} {ops : Array Oper} : ∀ (l : List Oper) (st : St) (es : List Eff), (evDraw G call N ops l st es).Every fun x => Kp st x.1
  | [], st, es => Kp.refl st
  | o :: l, st, es => by
    have skip : ∀ es', (evDraw G call N ops l (st.put o.dst (.tup [])) es').Every fun x => Kp st x.1 := fun es' => (evDraw_keeps hC l _ _).mono fun x h => (Kp.put _ _ _).trans h
    have run : (pruneK st.sl (o.looksAt ops) fun s => (evOp G call true ⟨s, st.H, st.nx, false, st.base, []⟩ o).bind fun u => match okOut st.nx u with
      | true => forceV G.sym u.v fun v => evDraw G call N ops l ((st.up u).put o.dst v) (effOf st.nx u :: es)
      | false => .bad).Every fun x => Kp st x.1 := by
      obtain ⟨s', h1⟩ := pruneK_at (β := T (St × List Eff)) st.sl (o.looksAt ops)
      rw [h1]
      refine T.Every.bind2 (fun u hu => ?_) (evOp_keeps hC)
      split
      · rw [forceV_eq]
        exact (evDraw_keeps hC l _ _).mono fun x h => (Kp.up (d := true) (st := st) (u := u) hu).trans ((Kp.put _ _ _).trans h)
      · trivial
    simp only [evDraw]
    split
    · trivial
    · split
      · exact run
      · split
        · trivial
        · split
          · split
            · exact ⟨run, skip _⟩
            · exact ⟨skip _, run⟩
          · exact skip _
          · trivial

def RunKeeps (run : Nat → Nat → Code → St → T (Ex × St)) : Prop := ∀ F N c st, (run F N c st).Every fun x => Kp st x.2

theorem popK_keeps {n0 : Nat} {u : CallOut} {H : Heap} (h1 : n0 ≤ u.nx) (h2 : ∀ b, b < n0 → b ∉ u.wr → u.H.get b = H.get b) : (popK n0 u T.ret).Every fun o => n0 ≤ o.nx ∧ ∀ b, b < n0 → b ∉ o.wr → o.H.get b = H.get b := by
  unfold popK
  split
  · exact ⟨h1, h2⟩
  · rw [popK_go]
    refine ⟨Nat.le_refl _, fun b hb hw => ?_⟩
    simp only at hw ⊢
    rw [get_filter (fun b => !(Nat.ble n0 b)), if_pos]
    · exact h2 b hb hw
    · cases hq : Nat.ble n0 b with
      | false => rfl
      | true => have := nble hq; omega

theorem evFn_keeps {G : Ctx} {run : Nat → Nat → Code → St → T (Ex × St)} (h : RunKeeps run) : CallKeeps (evFn G run) := by
  intro g args H nx
  unfold evFn
  split
  · trivial
  · split
    · refine T.Every.bind2 (fun x hx => ?_) (h _ _ _ _)
      obtain ⟨e, st⟩ := x
      obtain ⟨h1, h2, h3⟩ := hx
      have key : ((resultsOf G st ‹Func›.results.toList).bind fun l => popK nx ⟨outV l, st.H, st.nx, st.esc, st.wr⟩ .ret).Every fun o => nx ≤ o.nx ∧ ∀ b, b < nx → b ∉ o.wr → o.H.get b = H.get b :=
        T.Every.bind (fun l => popK_keeps h2 fun b hb hw => (h3 b hb hb hw).2) _
      cases e with
      | exit id => trivial
      | normal => exact key
      | ret => exact key
    · trivial

def SumsKeep (G : Ctx) : Prop := ∀ g s, G.sum g = some s → ∀ args H nx, (s args H nx).Every fun o => nx ≤ o.nx ∧ ∀ b, b < nx → b ∉ o.wr → o.H.get b = H.get b
def LoopsKeep (G : Ctx) : Prop := ∀ F id L, G.ls F id = some L → ∀ N c st, (L N c st).Every fun x => Kp st x.2

theorem evKnown_keeps {G : Ctx} (hs : SumsKeep G) {run : Nat → Nat → Code → St → T (Ex × St)} (h : RunKeeps run) : CallKeeps (evKnown G run) := by
  intro g args H nx
  unfold evKnown
  split
  · rename_i s hsum
    exact hs g s hsum args H nx
  · exact evFn_keeps h g args H nx

def PresKeep (G : Ctx) : Prop := ∀ F id p, G.pre F id = some p → ∀ st, (p st).Every fun s => Kp st s

theorem hook_keeps {G : Ctx} (hp : PresKeep G) (F id : Nat) (st : St) : (hook G F id st).Every fun s => Kp st s := by
  unfold hook
  split
  · rename_i p h; exact hp F id p h st
  · exact Kp.refl st

theorem ev_keeps {G : Ctx} (hs : SumsKeep G) (hl : LoopsKeep G) (hp : PresKeep G) {live : Nat → Nat → Option (List Nat)} : ∀ n, RunKeeps (ev G live n)
  | 0 => fun _ _ _ _ => trivial
  | n + 1 => by
    have ih := ev_keeps (G := G) hs hl hp (live := live) n
    intro F N c st
    cases c with
    | skip => exact Kp.refl st
    | label l => exact Kp.refl st
    | exit id => exact Kp.refl st
    | ret => exact Kp.refl st
    | seq a b =>
      simp only [ev]
      split
      · rename_i L hL
        obtain ⟨id, h1, h2⟩ := Option.bind_eq_some_iff.1 hL
        exact hl F id L h2 N (.seq a b) st
      refine T.Every.bind2 (fun x hx => ?_) (ih F N a st)
      obtain ⟨e, st1⟩ := x
      cases e with
      | normal => exact (ih F N b st1).mono fun y hy => hx.trans hy
      | exit id => exact hx
      | ret => exact hx
    | cond c a b =>
      simp only [ev]
      unfold split
      split
      · exact ⟨(ih F N a _).mono fun y hy => (Kp.setB _ _ _).trans hy, (ih F N b _).mono fun y hy => (Kp.setB _ _ _).trans hy⟩
      · trivial
    | block id c =>
      simp only [ev]
      refine T.Every.bind2 (fun x hx => ?_) (ih F N c st)
      obtain ⟨e, st1⟩ := x
      cases e with
      | normal => exact hx
      | ret => exact hx
      | exit k =>
        simp only
        split
        · exact hx
        · exact hx
    | loop c =>
      have go : ∀ s : Slots, ((ev G live n F N c { st with sl := s }).bind fun x => match x.fst with | .normal => ev G live n F N (.loop c) x.snd | e => .ret (e, x.snd)).Every fun x => Kp st x.2 := fun s => by
        refine T.Every.bind2 (fun x hx => ?_) (ih F N c { st with sl := s })
        obtain ⟨e, st1⟩ := x
        have h1 : Kp st st1 := (Kp.of (a := st) (b := { st with sl := s }) rfl rfl rfl rfl).trans hx
        cases e with
        | normal => exact (ih F N (.loop c) st1).mono fun y hy => h1.trans hy
        | exit id => exact h1
        | ret => exact h1
      simp only [ev]
      split
      · rename_i L hL
        obtain ⟨id, h1, h2⟩ := Option.bind_eq_some_iff.1 hL
        exact hl F id L h2 N (.loop c) st
      split
      · rename_i l hl
        obtain ⟨s', h1⟩ := pruneK_at (β := T (Ex × St)) st.sl l
        rw [h1]
        exact go s'
      · exact go st.sl
    | region id ops draw =>
      cases draw with
      | false =>
        simp only [ev]
        exact T.Every.bind2 (fun st0 h0 => T.Every.bind2 (fun st1 h1 => h0.trans h1) (evOps_keeps (evKnown_keeps hs ih) _ st0)) (hook_keeps hp F id st)
      | true =>
        simp only [ev]
        refine T.Every.bind2 (fun st0 h0 => T.Every.bind2 (fun x hx => ?_) (evDraw_keeps (evKnown_keeps hs ih) _ st0 _)) (hook_keeps hp F id st)
        split
        · exact h0.trans hx
        · trivial
    | rangeFunc => trivial
    | scope => trivial
    | goto => trivial
    | refuse => trivial

theorem evCall_keeps {G : Ctx} (hs : SumsKeep G) (hl : LoopsKeep G) (hp : PresKeep G) {live : Nat → Nat → Option (List Nat)} (n : Nat) : CallKeeps (evCall G live n) := evFn_keeps (ev_keeps hs hl hp n)

end Go.Proofs.YtbobakclbdaepaaGreat.En
