/- The engine, part 14: what an operation writes is all that it changes. -/
import Derived.Test.YtabmkefbceepmaaE13
namespace Go.Proofs.Ytabmkefbceepmaa.En
open Go
set_option linter.unusedVariables false
set_option linter.unusedSimpArgs false

def T.Every {α : Type} (p : α → Prop) : T α → Prop
  | .ret a => p a
  | .br _ t e => t.Every p ∧ e.Every p
  | .bad => True

theorem T.Every.res {α : Type} {p : α → Prop} : ∀ {t : T α} {a : α}, t.Every p → t.res = some a → p a
  | .ret b, a, h, e => by
    simp only [T.res, Option.some.injEq] at e
    subst e
    exact h
  | .br b t e, a, h, he => by
    cases b with
    | true => exact T.Every.res (t := t) h.1 he
    | false => exact T.Every.res (t := e) h.2 he
  | .bad, a, h, e => by cases e

theorem T.Every.bind {α β : Type} {p : β → Prop} {k : α → T β} (h : ∀ a, (k a).Every p) : ∀ (t : T α), (t.bind k).Every p
  | .ret a => h a
  | .br b t e => ⟨T.Every.bind h t, T.Every.bind h e⟩
  | .bad => trivial

theorem T.Every.need {α : Type} {p : α → Prop} {b : Bool} {t : T α} (h : t.Every p) : (T.need b t).Every p := ⟨h, trivial⟩

def Keeps (st : St) (u : Out) : Prop := ∀ b, b ∉ u.wr → u.H.get b = st.H.get b

theorem keeps_same {st : St} {v : SV} {n : Nat} {e : Bool} {fp wr : List Nat} : (T.ret ⟨v, st.H, n, e, fp, wr⟩ : T Out).Every (Keeps st) := fun _ _ => rfl

theorem keeps_pure {st : St} {v : SV} : (pure1 st v).Every (Keeps st) := fun _ _ => rfl

theorem keeps_cons {st : St} {v : SV} {k : Nat} {o : Ob} {n : Nat} {e : Bool} {fp : List Nat} : (T.ret ⟨v, (k, o) :: st.H, n, e, fp, [k]⟩ : T Out).Every (Keeps st) := fun b hb => by
  simp only [List.mem_singleton] at hb
  simp only
  rw [Heap.get_cons, if_neg (fun e => hb e.symm)]

theorem keeps_new {st : St} {l : List CV} {v : Nat → SV} : (newBlock st l v).Every (Keeps st) := keeps_cons

theorem keeps_put {st : St} {v : SV} {b : Nat} {o : Ob} {n : Nat} {e : Bool} {fp : List Nat} : (T.ret ⟨v, st.H.put b o, n, e, fp, [b]⟩ : T Out).Every (Keeps st) := fun c hc => by
  simp only [List.mem_singleton] at hc
  simp only
  rw [Heap.get_put, if_neg (fun e => hc e.symm)]

theorem get_kill : ∀ (l : List Nat) (H : Heap) (b : Nat), b ∉ l → (l.foldl (fun H b => H.put b .dead) H).get b = H.get b
  | [], _, _, _ => rfl
  | c :: l, H, b, h => by
    simp only [List.mem_cons, not_or] at h
    rw [List.foldl_cons, get_kill l _ b h.2, Heap.get_put, if_neg (fun e => h.1 e.symm)]

theorem keeps_grown {st : St} {kill : List Nat} {sz : Nat} {s : Src} {fp : List Nat} : (grown st kill sz s fp).Every (Keeps st) := by
  unfold grown
  cases s with
  | flat n l =>
    intro b hb
    simp only [List.mem_cons, not_or] at hb
    simp only
    rw [Heap.get_cons, if_neg (fun e => hb.1 e.symm), get_kill _ _ _ hb.2]
  | fn n e =>
    intro b hb
    simp only [List.mem_cons, not_or] at hb
    simp only
    rw [Heap.get_cons, if_neg (fun e => hb.1 e.symm), get_kill _ _ _ hb.2]

theorem get_append_out : ∀ (A B : Heap) (b : Nat), (∀ e ∈ A, e.1 ≠ b) → Heap.get (A ++ B) b = B.get b
  | [], _, _, _ => rfl
  | (k, o) :: A, B, b, h => by
    rw [List.cons_append, Heap.get_cons, if_neg (h (k, o) (by simp)), get_append_out A B b fun e he => h e (by simp [he])]

theorem keeps_call {call : CallF} {st : St} {g : Nat} {args : List AV} : (evCallOp call true st g args).Every (Keeps st) := by
  unfold evCallOp
  simp only
  refine T.Every.bind (fun o => ?_) _
  intro b hb
  simp only at hb ⊢
  rw [get_append_out]
  · rw [get_filter (fun b => !(List.any _ (Nat.beq b)))]
    rw [if_pos]
    simp only [List.mem_append, not_or] at hb
    simp only [Bool.not_eq_true']
    cases hq : List.any _ (Nat.beq b) with
    | false => rfl
    | true => exact absurd ((anyBeq _ b).1 hq) hb.1
  · intro e he heq
    rw [List.mem_filter] at he
    have := (anyBeq _ _).1 he.2
    rw [heq] at this
    exact hb this

theorem keeps_pick {st : St} {x : Operand} {k : Bool → St → SV} : (split st x fun b s => pure1 s (k b s)).Every (Keeps st) := by
  unfold split
  split
  · exact ⟨fun b _ => by simp only; rw [(setB_H st x true).1], fun b _ => by simp only; rw [(setB_H st x false).1]⟩
  · trivial

theorem evOp_keeps {G : Ctx} {call : CallF} {st : St} {o : Oper} : (evOp G call true st o).Every (Keeps st) := by
  unfold evOp
  split <;> repeat' (first
    | exact keeps_pick | exact keeps_pure | exact keeps_new | exact keeps_same | exact keeps_cons | exact keeps_call | exact keeps_grown | exact keeps_put | trivial
    | refine T.Every.need ?_
    | (refine T.Every.bind (fun _ => ?_) _)
    | (unfold evBuiltin) | (unfold evAppend) | (unfold evCopy) | (unfold evClear) | (unfold evConvert)
    | (rw [Heap.putK_eq])
    | split | refine ⟨?_, ?_⟩ | dsimp only)

end Go.Proofs.Ytabmkefbceepmaa.En
