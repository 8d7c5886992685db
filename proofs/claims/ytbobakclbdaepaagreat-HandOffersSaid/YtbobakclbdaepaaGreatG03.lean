/- Texts put together: E3, E4, E5. -/
import Derived.Test.YtbobakclbdaepaaGreatG02
import Derived.Laws.StructEq
/- The engine, part 3: the operations that make values of values. -/
namespace Go.Proofs.YtbobakclbdaepaaGreat.En
open Go
set_option linter.unusedVariables false
set_option linter.unusedSimpArgs false

def isAggD : TypeDesc → Bool
  | .struct _ | .array _ _ => true
  | _ => false

def fieldRow (P : Program) (f : Field) : Option (Nat × Nat × Nat × Bool) :=
  match P.info? f.type, P.underlying f.type with
  | some i, some d => some (f.offset, i.size, f.type, isAggD d)
  | _, _ => none

def fieldRows (P : Program) : List Field → Option (List (Nat × Nat × Nat × Bool))
  | [] => some []
  | f :: r => match fieldRow P f, fieldRows P r with
    | some x, some l => some (x :: l)
    | _, _ => none

def kindOf (P : Program) : TypeDesc → TK
  | .bool => .bool
  | .int k => .int k
  | .string => .str
  | .pointer e => .ptr e
  | .slice e => .slice e
  | .struct fs => match fieldRows P fs.toList with | some l => .struct l | none => .other
  | .array n e => .array n e
  | .map k e => .map k e
  | .func _ _ _ => .fn
  | _ => .other

def flatGo (P : Program) (rec' : Nat → Option (List Nat)) : List Field → Nat → Option (List Nat)
  | [], _ => some []
  | f :: r, off => match (f.name != "_") && Nat.beq f.offset off, rec' f.type, fieldRow P f with
    | true, some a, some (_, size, _, _) => match Nat.beq a.length size, flatGo P rec' r (off + size) with
      | true, some b => some (a ++ b)
      | _, _ => none
    | _, _, _ => none

/-- such a type's '==' is cell by cell: the cells' kinds -/
def flatK (P : Program) : Nat → Nat → Option (List Nat)
  | 0, _ => none
  | d + 1, t =>
    match P.underlying t with
    | some .bool => some [0]
    | some (.int _) => some [1]
    | some .string => some [2]
    | some (.struct fs) => match P.stoodInHeld t with | true => none | false => flatGo P (flatK P d) fs.toList 0
    | _ => none

def isAggV : Value → Bool
  | .agg _ => true
  | _ => false

structure TIOk (P : Program) (t : Nat) (i : TI) : Prop where
  row : (P.info? t).map (fun x => (x.size, x.bytes, x.zero.map fun v => (v.cells.toList, isAggV v))) = some (i.size, i.bytes, some (i.zero, i.agg))
  kind : (P.underlying t).map (kindOf P) = some i.kind
  agg : (P.underlying t).map isAggD = some i.agg
  one : i.zero.all Value.oneCell' = true
  len : i.zero.length = i.size
  eqs : i.eqs = [] ∨ (flatK P 20 t = some i.eqs ∧ P.eqGuardType P.depth t = false)

structure CtxOk (P : Program) (G : Ctx) : Prop where
  ti : ∀ t i, G.ti t = some i → TIOk P t i
  fi : ∀ f fn, G.fi f = some fn → P.funcs[f]? = some fn ∧ fn.body.isSome = true ∧ (fn.name == "runtime.NumGoroutine") = false
  mixed : P.follows .mixedOrders = true

theorem TIOk.info' {P : Program} {t : Nat} {i : TI} (h : TIOk P t i) : ∃ x zv, P.info? t = some x ∧ x.size = i.size ∧ x.bytes = i.bytes ∧ x.zero = some zv ∧ zv.cells.toList = i.zero ∧ isAggV zv = i.agg := by
  have := h.row
  cases hx : P.info? t with
  | none => rw [hx] at this; cases this
  | some x =>
    rw [hx] at this
    simp only [Option.map_some, Option.some.injEq, Prod.mk.injEq] at this
    obtain ⟨h1, h2, h3⟩ := this
    cases hz : x.zero with
    | none => rw [hz] at h3; cases h3
    | some zv =>
      rw [hz] at h3
      simp only [Option.map_some, Option.some.injEq, Prod.mk.injEq] at h3
      exact ⟨x, zv, rfl, h1, h2, hz, h3.1, h3.2⟩

theorem TIOk.info {P : Program} {t : Nat} {i : TI} (h : TIOk P t i) : ∃ x zv, P.info? t = some x ∧ x.size = i.size ∧ x.bytes = i.bytes ∧ x.zero = some zv ∧ zv.cells.toList = i.zero := by
  obtain ⟨x, zv, h1, h2, h3, h4, h5, _⟩ := h.info'
  exact ⟨x, zv, h1, h2, h3, h4, h5⟩

theorem TIOk.und {P : Program} {t : Nat} {i : TI} (h : TIOk P t i) : ∃ d, P.underlying t = some d ∧ kindOf P d = i.kind ∧ isAggD d = i.agg := by
  have h1 := h.kind
  have h2 := h.agg
  cases hd : P.underlying t with
  | none => rw [hd] at h1; cases h1
  | some d => rw [hd] at h1 h2; exact ⟨d, rfl, by simpa using h1, by simpa using h2⟩

section
variable {P : Program} {t : Nat} {i : TI} (h : TIOk P t i) (w : World)
include h

theorem TIOk.run_sizeOf : (sizeOf t).run P w = .ok i.size w := by
  obtain ⟨x, zv, h1, h2, _⟩ := h.info
  simp [sizeOf, typeInfo, Sem.run_bind, Result.andThen, h1, h2]

theorem TIOk.run_typeInfo : ∃ x, (typeInfo t).run P w = .ok x w ∧ x.size = i.size ∧ x.bytes = i.bytes := by
  obtain ⟨x, zv, h1, h2, h3, _⟩ := h.info
  exact ⟨x, by simp [typeInfo, Sem.run_bind, Result.andThen, h1], h2, h3⟩

theorem TIOk.run_zero : ∃ zv, (zeroValue t).run P w = .ok zv w ∧ zv.cells.toList = i.zero := by
  obtain ⟨x, zv, h1, h2, h3, h4, h5⟩ := h.info
  exact ⟨zv, by simp [zeroValue, typeInfo, Sem.run_bind, Result.andThen, h1, h4], h5⟩

theorem TIOk.run_und : ∃ d, (underlying t).run P w = .ok d w ∧ kindOf P d = i.kind ∧ isAggD d = i.agg ∧ P.underlying t = some d := by
  obtain ⟨d, h1, h2, h3⟩ := h.und
  exact ⟨d, by simp [underlying, Sem.run_bind, Result.andThen, h1], h2, h3, h1⟩

theorem TIOk.run_isAgg : (isAgg t).run P w = .ok i.agg w := by
  obtain ⟨d, h1, h2, h3, _⟩ := h.run_und w
  rw [← h3]
  cases d <;> simp [isAgg, Sem.run_bind, Result.andThen, h1, isAggD]
end

theorem kindOf_int {P : Program} {d : TypeDesc} {k : IntKind} (h : kindOf P d = .int k) : d = .int k := by
  cases d <;> simp [kindOf] at h <;> first | (subst h; rfl) | (split at h <;> cases h)
theorem kindOf_bool {P : Program} {d : TypeDesc} (h : kindOf P d = .bool) : d = .bool := by
  cases d <;> simp [kindOf] at h <;> first | rfl | (split at h <;> cases h)
theorem kindOf_str {P : Program} {d : TypeDesc} (h : kindOf P d = .str) : d = .string := by
  cases d <;> simp [kindOf] at h <;> first | rfl | (split at h <;> cases h)
theorem kindOf_ptr {P : Program} {d : TypeDesc} {e : Nat} (h : kindOf P d = .ptr e) : d = .pointer e := by
  cases d <;> simp [kindOf] at h <;> first | (subst h; rfl) | (split at h <;> cases h)
theorem kindOf_slice {P : Program} {d : TypeDesc} {e : Nat} (h : kindOf P d = .slice e) : d = .slice e := by
  cases d <;> simp [kindOf] at h <;> first | (subst h; rfl) | (split at h <;> cases h)
theorem kindOf_array {P : Program} {d : TypeDesc} {n e : Nat} (h : kindOf P d = .array n e) : d = .array n e := by
  cases d <;> simp [kindOf] at h <;> first | (obtain ⟨rfl, rfl⟩ := h; rfl) | (split at h <;> cases h)
theorem kindOf_map {P : Program} {d : TypeDesc} {n e : Nat} (h : kindOf P d = .map n e) : d = .map n e := by
  cases d <;> simp [kindOf] at h <;> first | (obtain ⟨rfl, rfl⟩ := h; rfl) | (split at h <;> cases h)
theorem kindOf_fn {P : Program} {d : TypeDesc} (h : kindOf P d = .fn) : ∃ a b c, d = .func a b c := by
  cases d <;> simp [kindOf] at h <;> first | exact ⟨_, _, _, rfl⟩ | (split at h <;> cases h)
theorem kindOf_struct {P : Program} {d : TypeDesc} {l : List (Nat × Nat × Nat × Bool)} (h : kindOf P d = .struct l) : ∃ fs : Array Field, d = .struct fs ∧ fieldRows P fs.toList = some l := by
  cases d <;> simp [kindOf] at h
  rename_i fs
  refine ⟨fs, rfl, ?_⟩
  split at h
  · rename_i q hq; simp at h; rw [hq, h]
  · cases h

theorem fieldRows_get {P : Program} : ∀ (fs : List Field) (l : List (Nat × Nat × Nat × Bool)), fieldRows P fs = some l → ∀ (k : Nat) x, l[k]? = some x → ∃ f, fs[k]? = some f ∧ fieldRow P f = some x
  | [], l, h, k, x, hx => by simp [fieldRows] at h; subst h; simp at hx
  | f :: r, l, h, k, x, hx => by
    simp only [fieldRows] at h
    split at h
    · rename_i y q h1 h2
      simp only [Option.some.injEq] at h
      subst h
      cases k with
      | zero => simp at hx; subst hx; exact ⟨f, rfl, h1⟩
      | succ k => exact fieldRows_get r q h2 k x (by simpa using hx)
    · cases h

theorem fieldRows_len {P : Program} : ∀ (fs : List Field) (l : List (Nat × Nat × Nat × Bool)), fieldRows P fs = some l → l.length = fs.length
  | [], l, h => by simp [fieldRows] at h; subst h; rfl
  | f :: r, l, h => by
    simp only [fieldRows] at h
    split at h
    · rename_i y q h1 h2
      simp only [Option.some.injEq] at h
      subst h
      simp [fieldRows_len r q h2]
    · cases h

theorem fieldRow_info {P : Program} {f : Field} {x : Nat × Nat × Nat × Bool} (h : fieldRow P f = some x) : ∃ i d, P.info? f.type = some i ∧ P.underlying f.type = some d ∧ x = (f.offset, i.size, f.type, isAggD d) := by
  simp only [fieldRow] at h
  split at h
  · rename_i i d h1 h2
    simp only [Option.some.injEq] at h
    exact ⟨i, d, h1, h2, h.symm⟩
  · cases h

theorem constSV_ok {f : Fn} {nx : Nat} {z : Z} (v : Value) : RS f nx z (constSV v) v := by
  cases v with
  | agg cs =>
    simp only [constSV]
    split
    · rename_i h
      refine ⟨cs, rfl, by simp, fun i x u hx hu => ?_⟩
      simp only [List.getElem?_map] at hx
      rw [hu] at hx
      simp only [Option.map_some, Option.some.injEq] at hx
      subst hx
      rw [List.all_eq_true] at h
      exact RF.lit u (h u (List.mem_of_getElem? hu))
    · trivial
  | tuple vs => trivial
  | _ => exact RF.lit _ rfl

theorem val_ok {f : Fn} {z : Z} {st : St} {a : Act} (h : TR f st.nx z st.sl a.tmps) (x : Operand) : RS f st.nx z (st.val x) (a.eval x) := by
  cases x with
  | tmp t => exact h t
  | const v => exact constSV_ok v
  | global g => trivial
  | func g => exact ⟨by simp [Act.eval], fun x hx => by cases hx⟩

theorem lit_ok {f : Fn} {nx : Nat} {z : Z} {v u : Value} (h : RS f nx z (.v (.one (.f (.lit v)))) u) : u = v := by
  cases h; rfl

theorem one_lit {f : Fn} {nx : Nat} {z : Z} {v : Value} (h : v.oneCell' = true) : RS f nx z (.v (.one (.f (.lit v)))) v := RF.lit v h

/-- a Bool slot decides -/
theorem split_some {α : Type} {st : St} {x : Operand} {k : Bool → St → T α} {r : α} (h : (split st x k).res = some r) :
    ∃ b, st.val x = .v (.one (.f (.lit (.bool b)))) ∧ (k b (st.setB x b)).res = some r := by
  unfold split at h
  split at h
  · rename_i b hb
    rcases T.br_some h with ⟨rfl, h⟩ | ⟨rfl, h⟩
    · exact ⟨true, hb, h⟩
    · exact ⟨false, hb, h⟩
  · exact (T.bad_some h).elim

theorem setB_TR {f : Fn} {z : Z} {st : St} {a : Act} (h : TR f st.nx z st.sl a.tmps) {x : Operand} {b : Bool} (hb : st.val x = .v (.one (.f (.lit (.bool b))))) : TR f (st.setB x b).nx z (st.setB x b).sl a.tmps := by
  cases x with
  | tmp t =>
    have h1 := h t
    simp only [St.val] at hb
    rw [hb] at h1
    exact TR.tell h h1
  | _ => exact h

theorem setB_H (st : St) (x : Operand) (b : Bool) : (st.setB x b).H = st.H ∧ (st.setB x b).nx = st.nx ∧ (st.setB x b).esc = st.esc := by
  cases x <;> exact ⟨rfl, rfl, rfl⟩

theorem binInt_ok {P : Program} {op : BinOp} {k : IntKind} {x y : Int} {v : Value} (h : (binInt op k x y).res = some v) (t : Nat) (w : World) :
    (binOp op t (.int k x) (.int k y)).run P w = .ok v w ∧ v.oneCell' = true := by
  cases op <;> simp only [binInt] at h <;>
    first
      | (have := T.ret_some h; subst this; exact ⟨by simp [binOp, Op.intArith, Op.intBits, Op.intCmp], rfl⟩)
      | (rcases T.br_some h with ⟨_, h⟩ | ⟨hy, h⟩
         · exact (T.bad_some h).elim
         · have := T.ret_some h; subst this
           have hy : ¬ y = 0 := by simpa using hy
           exact ⟨by simp [binOp, Op.intDiv, hy], rfl⟩)
      | exact (T.bad_some h).elim

theorem shiftInt_ok {P : Program} {op : BinOp} {k k' : IntKind} {x y : Int} {v : Value} (h : (shiftInt op k x y).res = some v) (t : Nat) (w : World) :
    (binOp op t (.int k x) (.int k' y)).run P w = .ok v w ∧ v.oneCell' = true := by
  cases op <;> simp only [shiftInt] at h <;>
    first
      | (rcases T.br_some h with ⟨_, h⟩ | ⟨hy, h⟩
         · exact (T.bad_some h).elim
         · have := T.ret_some h; subst this
           have hy : ¬ y < 0 := by simpa using hy
           exact ⟨by simp [binOp, Op.shift, hy], rfl⟩)
      | exact (T.bad_some h).elim

theorem binStr_ok {P : Program} {op : BinOp} {x y : ByteArray} {v : Value} (h : (binStr op x y).res = some v) (t : Nat) (w : World) :
    (binOp op t (.string x) (.string y)).run P w = .ok v w ∧ v.oneCell' = true := by
  cases op <;> simp only [binStr] at h <;>
    first
      | (have := T.ret_some h; subst this; exact ⟨by simp [binOp, Op.stringOp], rfl⟩)
      | (rcases T.br_some h with ⟨_, h⟩ | ⟨hy, h⟩
         · exact (T.bad_some h).elim
         · have := T.ret_some h; subst this
           have hy : ¬ ((x.size + y.size : Nat) : Int) > IntKind.i64.max := by simpa using hy
           exact ⟨by simp only [binOp, Op.stringOp]; rw [if_neg hy]; rfl, rfl⟩)
      | exact (T.bad_some h).elim


theorem eqCells_app : ∀ (ks a b ls c d : List _) (r : Bool), ks.length = a.length → ks.length = b.length → eqCells (ks ++ ls) (a ++ c) (b ++ d) = some r → ∃ p q, eqCells ks a b = some p ∧ eqCells ls c d = some q ∧ r = (p && q)
  | [], [], [], ls, c, d, r, _, _, h => ⟨true, r, rfl, h, rfl⟩
  | k :: ks, x :: a, y :: b, ls, c, d, r, hl, hl', h => by
    simp only [List.cons_append, eqCells] at h
    split at h
    · rename_i u v hu hv
      simp only [Option.some.injEq] at h
      obtain ⟨p, q, h1, h2, h3⟩ := eqCells_app ks a b ls c d v (by simpa using hl) (by simpa using hl') hv
      refine ⟨u && p, q, ?_, h2, ?_⟩
      · simp only [eqCells, hu, h1]
      · rw [← h, h3, Bool.and_assoc]
    · cases h
  | [], _ :: _, _, _, _, _, _, h, _, _ => by simp at h
  | [], [], _ :: _, _, _, _, _, _, h, _ => by simp at h
  | _ :: _, [], _, _, _, _, _, h, _, _ => by simp at h
  | _ :: _, _ :: _, [], _, _, _, _, _, h, _ => by simp at h

theorem eqCells_len : ∀ (ks a b : List _) (r : Bool), eqCells ks a b = some r → ks.length = a.length ∧ ks.length = b.length
  | [], [], [], _, _ => ⟨rfl, rfl⟩
  | k :: ks, x :: a, y :: b, r, h => by
    simp only [eqCells] at h
    split at h
    · rename_i u v hu hv
      have := eqCells_len ks a b v hv
      simp [this.1, ← this.2]
    · cases h
  | [], _ :: _, _, _, h => by simp [eqCells] at h
  | [], [], _ :: _, _, h => by simp [eqCells] at h
  | _ :: _, [], _, _, h => by simp [eqCells] at h
  | _ :: _, _ :: _, [], _, h => by simp [eqCells] at h

theorem RL.part {f : Fn} {nx : Nat} {z : Z} {l : List CV} {vs : List Value} (h : RL f nx z l vs) (off n : Nat) : RL f nx z ((l.drop off).take n) ((vs.drop off).take n) := by
  refine ⟨by simp [h.1], fun i x v hx hv => ?_⟩
  rw [List.getElem?_take] at hx hv
  split at hx
  · rename_i hi
    rw [if_pos hi] at hv
    simp only [List.getElem?_drop] at hx hv
    exact h.2 _ x v hx hv
  · cases hx

/-- a part of a struct's or an array's cells, as a value -/
theorem part_ok {P : Program} {f : Fn} {nx : Nat} {z : Z} {l : List CV} {cs : Array Value} (h : RL f nx z l cs.toList) {t : Nat} {size : Nat} {agg : Bool} {off : Nat} (w : World)
    (hs : (sizeOf t).run P w = .ok size w) (ha : (isAgg t).run P w = .ok agg w) {x : AV} (hl : ((l.drop off).take size).length = size) (hx : ofCells agg ((l.drop off).take size) = some x) :
    ∃ v, (part t cs off).run P w = .ok v w ∧ RA f nx z x v := by
  have hp := h.part off size
  cases agg with
  | true =>
    simp only [ofCells, Option.some.injEq] at hx
    subst hx
    refine ⟨.agg (cs.extract off (off + size)), by simp [part, Sem.run_bind, Result.andThen, hs, ha], _, rfl, ?_⟩
    have : (cs.extract off (off + size)).toList = (cs.toList.drop off).take size := by
      rw [Array.toList_extract]
      simp [List.extract_eq_take_drop]
    rw [this]
    exact hp
  | false =>
    simp only [ofCells] at hx
    split at hx
    · rename_i y hy
      simp only [Option.some.injEq] at hx
      subst hx
      rw [hy] at hp hl
      have h1 : size = 1 := by simpa using hl.symm
      subst h1
      have hlen := hp.1
      have hget : cs[off]? = ((cs.toList.drop off).take 1)[0]? := by
        rw [List.getElem?_take]
        simp
      cases hv : ((cs.toList.drop off).take 1)[0]? with
      | none =>
        rw [List.getElem?_eq_none_iff] at hv
        simp only [List.length_cons, List.length_nil] at hlen
        omega
      | some v =>
        rw [hv] at hget
        refine ⟨v, by simp [part, Sem.run_bind, Result.andThen, hs, ha, hget], hp.2 0 y v rfl hv⟩
    · cases hx

theorem eqCell_ok {P : Program} {f : Fn} {nx : Nat} {z : Z} {k : Nat} {x y : CV} {u v : Value} {r : Bool} (h : eqCell k x y = some r) (hu : RC f nx z x u) (hv : RC f nx z y v) {t : Nat} (D : Nat) (w : World)
    (hf : (k = 0 ∧ P.underlying t = some .bool) ∨ (k = 1 ∧ ∃ k, P.underlying t = some (.int k)) ∨ (k = 2 ∧ P.underlying t = some .string)) :
    (Op.equalIn (D + 1) t u v).run P w = .ok r w := by
  unfold eqCell at h
  split at h
  · rename_i a b
    simp only [Option.some.injEq] at h
    subst h
    cases hu; cases hv
    rcases hf with ⟨_, hf⟩ | ⟨h, _⟩ | ⟨h, _⟩
    · exact run_equalIn_bool' w D t a b hf
    · cases h
    · cases h
  · rename_i k a k' b
    split at h
    · rename_i hk
      simp only [decide_eq_true_eq] at hk
      subst hk
      simp only [Option.some.injEq] at h
      subst h
      cases hu; cases hv
      rcases hf with ⟨h, _⟩ | ⟨_, k2, hf⟩ | ⟨h, _⟩
      · cases h
      · exact run_equalIn_int w D t k k2 a b hf
      · cases h
    · cases h
  · rename_i a b
    simp only [Option.some.injEq] at h
    subst h
    cases hu; cases hv
    rcases hf with ⟨h, _⟩ | ⟨h, _⟩ | ⟨_, hf⟩
    · cases h
    · cases h
    · rw [run_equalIn_string w D t a b hf, beq_toListBytes]
  · cases h

theorem flatK_agg {P : Program} {d t : Nat} {ks : List Nat} (h : flatK P d t = some ks) : (∃ k, ks = [k] ∧ ((k = 0 ∧ P.underlying t = some .bool) ∨ (k = 1 ∧ ∃ k, P.underlying t = some (.int k)) ∨ (k = 2 ∧ P.underlying t = some .string))) ∨
    (∃ e fs, d = e + 1 ∧ P.underlying t = some (.struct fs) ∧ P.stoodInHeld t = false ∧ flatGo P (flatK P e) fs.toList 0 = some ks) := by
  cases d with
  | zero => simp [flatK] at h
  | succ d =>
    simp only [flatK] at h
    split at h
    · rename_i hu; simp only [Option.some.injEq] at h; exact .inl ⟨0, h.symm, .inl ⟨rfl, hu⟩⟩
    · rename_i k hu; simp only [Option.some.injEq] at h; exact .inl ⟨1, h.symm, .inr (.inl ⟨rfl, k, hu⟩)⟩
    · rename_i hu; simp only [Option.some.injEq] at h; exact .inl ⟨2, h.symm, .inr (.inr ⟨rfl, hu⟩)⟩
    · rename_i fs hu
      split at h
      · cases h
      · rename_i hs; exact .inr ⟨d, fs, rfl, hu, hs, h⟩
    · cases h

theorem eqFlat {P : Program} {f : Fn} {nx : Nat} {z : Z} (w : World) : ∀ (d t : Nat) (ks : List Nat), flatK P d t = some ks → ∀ (D : Nat), d ≤ D →
    ∀ (x y : AV) (u v : Value) (r : Bool), (isAgg t).run P w = .ok (match x with | .agg _ => true | .one _ => false) w → (match x, y with | .agg _, .agg _ => True | .one _, .one _ => True | _, _ => False) →
      RA f nx z x u → RA f nx z y v → eqCells ks x.cells y.cells = some r → (Op.equalIn D t u v).run P w = .ok r w := by
  intro d
  induction d with
  | zero => intro t ks h; simp [flatK] at h
  | succ d ih =>
    intro t ks h D hD x y u v r hag hsh hu hv he
    obtain ⟨D, rfl⟩ : ∃ E, D = E + 1 := ⟨D - 1, by omega⟩
    rcases flatK_agg h with ⟨k, rfl, hf⟩ | ⟨e, fs, he', hun, hst, hgo⟩
    · have hna : (isAgg t).run P w = .ok false w := by
        rcases hf with ⟨_, hf⟩ | ⟨_, k2, hf⟩ | ⟨_, hf⟩ <;> simp [isAgg, underlying, Sem.run_bind, Result.andThen, hf]
      rw [hna] at hag
      cases x with
      | agg l => simp at hag
      | one x =>
        cases y with
        | agg l => exact hsh.elim
        | one y =>
          simp only [AV.cells, eqCells] at he
          split at he
          · rename_i a b ha hb
            simp only [Option.some.injEq] at he hb
            subst hb
            subst he
            rw [Bool.and_true]
            exact eqCell_ok ha hu hv D w hf
          · cases he
    · have : e = d := by omega
      subst this
      have hya : (isAgg t).run P w = .ok true w := by simp [isAgg, underlying, Sem.run_bind, Result.andThen, hun]
      rw [hya] at hag
      cases x with
      | one x => simp at hag
      | agg lx =>
        cases y with
        | one y => exact hsh.elim
        | agg ly =>
          obtain ⟨xs, rfl, hx⟩ := hu
          obtain ⟨ys, rfl, hy⟩ := hv
          have hfo : P.fieldsOf t = fs := by simp [Program.fieldsOf, hun]
          rw [run_equalIn_struct w D t xs ys (by rw [hfo]; exact hun) hst, hfo]
          clear hfo hun hya hag hsh h
          simp only [AV.cells] at he
          -- field by field
          have key : ∀ (fl : List Field) (off : Nat) (ks : List Nat) (r : Bool), flatGo P (flatK P e) fl off = some ks → eqCells ks (lx.drop off) (ly.drop off) = some r → (Op.eqFields D xs ys fl).run P w = .ok r w := by
            intro fl
            induction fl with
            | nil =>
              intro off ks r hk hq
              simp only [flatGo, Option.some.injEq] at hk
              subst hk
              obtain ⟨h1, h2⟩ := eqCells_len _ _ _ _ hq
              rw [List.length_eq_zero_iff.1 h1.symm, List.length_eq_zero_iff.1 h2.symm] at hq
              simp only [eqCells, Option.some.injEq] at hq
              subst hq
              simp [Op.eqFields]
            | cons g fl ihf =>
              intro off ks r hk hq
              simp only [flatGo] at hk
              split at hk
              · rename_i ka o2 sz t2 ag hc hka hfr
                split at hk
                · rename_i kb ha hkb
                  simp only [Option.some.injEq] at hk
                  subst hk
                  rw [Bool.and_eq_true, bne_iff_ne] at hc
                  have hoff := nbeq hc.2
                  have hsz := nbeq ha
                  obtain ⟨inf, dd, hi1, hi2, hi3⟩ := fieldRow_info hfr
                  simp only [Prod.mk.injEq] at hi3
                  obtain ⟨_, hs1, _, hs2⟩ := hi3
                  have hlen := eqCells_len _ _ _ _ hq
                  simp only [List.length_append] at hlen
                  have e1 : lx.drop off = (lx.drop off).take sz ++ lx.drop (off + sz) := by rw [← List.drop_drop, List.take_append_drop]
                  have e2 : ly.drop off = (ly.drop off).take sz ++ ly.drop (off + sz) := by rw [← List.drop_drop, List.take_append_drop]
                  have l1 : ((lx.drop off).take sz).length = sz := by rw [List.length_take]; omega
                  have l2 : ((ly.drop off).take sz).length = sz := by rw [List.length_take]; omega
                  rw [e1, e2] at hq
                  obtain ⟨p, q, hp, hq', rfl⟩ := eqCells_app _ _ _ _ _ _ _ (by rw [l1, hsz]) (by rw [l2, hsz]) hq
                  have hrs : (sizeOf g.type).run P w = .ok sz w := by simp [sizeOf, typeInfo, Sem.run_bind, Result.andThen, hi1, hs1]
                  have hra : (isAgg g.type).run P w = .ok ag w := by
                    rw [hs2]
                    cases dd <;> simp [isAgg, underlying, Sem.run_bind, Result.andThen, hi2, isAggD]
                  -- the two parts as values
                  have hval : ∀ (l : List CV), l.length = sz → ∃ av, ofCells ag l = some av ∧ av.cells = l ∧ (match av with | .agg _ => true | .one _ => false) = ag := by
                    intro l hl
                    cases ag with
                    | true => exact ⟨.agg l, rfl, rfl, rfl⟩
                    | false =>
                      have h1 : sz = 1 := by
                        rcases flatK_agg hka with ⟨k, rfl, _⟩ | ⟨e', fs', _, hun', _, _⟩
                        · simpa using hsz.symm
                        · rw [hi2] at hun'
                          simp only [Option.some.injEq] at hun'
                          subst hun'
                          simp [isAggD] at hs2
                      match l, hl with
                      | [x], _ => exact ⟨.one x, rfl, rfl, rfl⟩
                      | [], hl => simp at hl; omega
                      | _ :: _ :: _, hl => simp at hl; omega
                  obtain ⟨ax, hax, hcx, hgx⟩ := hval _ l1
                  obtain ⟨ay, hay, hcy, hgy⟩ := hval _ l2
                  obtain ⟨u1, hu1, hu2⟩ := part_ok hx w hrs hra l1 hax
                  obtain ⟨v1, hv1, hv2⟩ := part_ok hy w hrs hra l2 hay
                  have heq := ih g.type ka hka D (by omega) ax ay u1 v1 p (by rw [hgx]; exact hra) (by
                    clear hu1 hv1 hu2 hv2 hp hq hq' ih ihf hra hrs e1 e2 l1 l2 hx hy he hax hay hcx hcy
                    cases ax <;> cases ay
                    · trivial
                    · rw [← hgy] at hgx; cases hgx
                    · rw [← hgy] at hgx; cases hgx
                    · trivial) hu2 hv2 (by rw [hcx, hcy]; exact hp)
                  rw [← hoff] at hu1 hv1
                  have hne := hc.1
                  rw [Op.eqFields, if_pos hne, Sem.run_bind, hu1, Result.andThen_ok, Sem.run_bind, hv1, Result.andThen_ok, Sem.run_bind, heq, Result.andThen_ok]
                  cases p with
                  | true => rw [if_neg (by simp), Bool.true_and]; exact ihf (off + sz) kb q hkb hq'
                  | false => rw [if_pos (by simp), Bool.false_and]; rfl
                · cases hk
              · cases hk
          exact key fs.toList 0 ks r hgo (by simpa using he)

end Go.Proofs.YtbobakclbdaepaaGreat.En
/- The engine, part 4: tests, fields, indexes, slice expressions. -/
namespace Go.Proofs.YtbobakclbdaepaaGreat.En
open Go
set_option linter.unusedVariables false
set_option linter.unusedSimpArgs false

theorem sl_shape {f : Fn} {nx : Nat} {z : Z} {nil : Bool} {b m i j len cap : Nat} {ex : Bool} {sz : Nat} {u : Value} (hu : RC f nx z (.sl nil b m i j len cap ex sz) u) : ∃ p n c, u = .slice p n c ∧ nil = p.isNone := by
  obtain ⟨_, h1, h2⟩ := hu
  cases nil with
  | true => obtain ⟨_, _, rfl⟩ := h1 rfl; exact ⟨_, _, _, rfl, rfl⟩
  | false => obtain ⟨c, rfl, _⟩ := h2 rfl; exact ⟨_, _, _, rfl, rfl⟩

theorem nilK_ok {f : Fn} {nx : Nat} {z : Z} {k : Nat} {x : CV} {r : Bool} {u : Value} (h : nilK k x = some r) (hu : RC f nx z x u) :
    (k = 0 ∧ ∃ p, u = .pointer p ∧ r = p.isNone) ∨ (k = 1 ∧ ∃ p n c, u = .slice p n c ∧ r = p.isNone) ∨ (k = 2 ∧ ∃ p, u = .map p ∧ r = p.isNone) ∨
      (k = 3 ∧ ((u = .nilFunc ∧ r = true) ∨ (∃ g a b, u = .func g a b ∧ r = false))) := by
  unfold nilK at h
  split at h <;> first | (cases h; done) | (simp only [Option.some.injEq] at h; subst h)
  · cases hu; exact .inl ⟨rfl, _, rfl, rfl⟩
  · cases hu; exact .inl ⟨rfl, _, rfl, rfl⟩
  · obtain ⟨_, rfl⟩ := hu; exact .inl ⟨rfl, _, rfl, rfl⟩
  · cases hu; exact .inr (.inl ⟨rfl, _, _, _, rfl, rfl⟩)
  · cases hu <;> exact .inr (.inl ⟨rfl, _, _, _, rfl, rfl⟩)
  · cases hu <;> exact .inr (.inl ⟨rfl, _, _, _, rfl, rfl⟩)
  · exact .inr (.inl ⟨rfl, sl_shape hu⟩)
  · cases hu; exact .inr (.inr (.inl ⟨rfl, _, rfl, rfl⟩))
  · obtain ⟨_, rfl⟩ := hu; exact .inr (.inr (.inl ⟨rfl, _, rfl, rfl⟩))
  · cases hu; exact .inr (.inr (.inr ⟨rfl, .inl ⟨rfl, rfl⟩⟩))
  · obtain ⟨rfl, _⟩ := hu; exact .inr (.inr (.inr ⟨rfl, .inr ⟨_, _, _, rfl, rfl⟩⟩))

theorem litNil_ok {f : Fn} {nx : Nat} {z : Z} {k : Nat} {x : CV} {u : Value} (h : litNil k x = true) (hu : RC f nx z x u) :
    (k = 0 ∧ u = .pointer none) ∨ (k = 1 ∧ ∃ n c, u = .slice none n c) ∨ (k = 2 ∧ u = .map none) ∨ (k = 3 ∧ u = .nilFunc) := by
  unfold litNil at h
  split at h <;> first | cases h | skip
  · cases hu; exact .inl ⟨rfl, rfl⟩
  · cases hu; exact .inr (.inl ⟨rfl, _, _, rfl⟩)
  · cases hu; exact .inr (.inr (.inl ⟨rfl, rfl⟩))
  · cases hu; exact .inr (.inr (.inr ⟨rfl, rfl⟩))

def kindD : Nat → TypeDesc → Prop
  | 0, d => ∃ e, d = .pointer e
  | 1, d => ∃ e, d = .slice e
  | 2, d => ∃ k e, d = .map k e
  | 3, d => ∃ a b c, d = .func a b c
  | _, _ => False

theorem eqNil_ok {P : Program} {f : Fn} {nx : Nat} {z : Z} {k : Nat} {x y : CV} {r : Bool} {u v : Value} (h : eqNil k x y = some r) (hu : RC f nx z x u) (hv : RC f nx z y v) {t : Nat} {d : TypeDesc}
    (ht : P.underlying t = some d) (hk : kindD k d) (D : Nat) (w : World) : (Op.equalIn (D + 1) t u v).run P w = .ok r w := by
  have hun : (underlying t).run P w = .ok d w := by simp [underlying, Sem.run_bind, Result.andThen, ht]
  unfold eqNil at h
  split at h
  · rename_i hl
    rcases litNil_ok hl hv with ⟨rfl, rfl⟩ | ⟨rfl, n, c, rfl⟩ | ⟨rfl, rfl⟩ | ⟨rfl, rfl⟩ <;>
      rcases nilK_ok h hu with ⟨h0, p, rfl, rfl⟩ | ⟨h0, p, n, c, rfl, rfl⟩ | ⟨h0, p, rfl, rfl⟩ | ⟨h0, (⟨rfl, rfl⟩ | ⟨g, a, b, rfl, rfl⟩)⟩ <;> first | (cases h0; done) | skip
    · obtain ⟨e, rfl⟩ := hk
      cases p <;> simp [Op.equalIn, Sem.run_bind, hun, Result.andThen]
    · obtain ⟨e, rfl⟩ := hk
      cases p <;> simp [Op.equalIn, Sem.run_bind, hun, Result.andThen]
    · obtain ⟨e, e', rfl⟩ := hk
      cases p <;> simp [Op.equalIn, Sem.run_bind, hun, Result.andThen]
    · obtain ⟨a, b, c, rfl⟩ := hk
      simp [Op.equalIn, Sem.run_bind, hun, Result.andThen]
    · obtain ⟨a, b, c, rfl⟩ := hk
      simp [Op.equalIn, Sem.run_bind, hun, Result.andThen]
  · split at h
    · rename_i hl
      rcases litNil_ok hl hu with ⟨rfl, rfl⟩ | ⟨rfl, n, c, rfl⟩ | ⟨rfl, rfl⟩ | ⟨rfl, rfl⟩ <;>
        rcases nilK_ok h hv with ⟨h0, p, rfl, rfl⟩ | ⟨h0, p, n, c, rfl, rfl⟩ | ⟨h0, p, rfl, rfl⟩ | ⟨h0, (⟨rfl, rfl⟩ | ⟨g, a, b, rfl, rfl⟩)⟩ <;> first | (cases h0; done) | skip
      · obtain ⟨e, rfl⟩ := hk
        cases p <;> simp [Op.equalIn, Sem.run_bind, hun, Result.andThen]
      · obtain ⟨e, rfl⟩ := hk
        cases p <;> simp [Op.equalIn, Sem.run_bind, hun, Result.andThen]
      · obtain ⟨e, e', rfl⟩ := hk
        cases p <;> simp [Op.equalIn, Sem.run_bind, hun, Result.andThen]
      · obtain ⟨a, b, c, rfl⟩ := hk
        simp [Op.equalIn, Sem.run_bind, hun, Result.andThen]
      · obtain ⟨a, b, c, rfl⟩ := hk
        simp [Op.equalIn, Sem.run_bind, hun, Result.andThen]
    · cases h

theorem kind_ptr {P : Program} {d : TypeDesc} {e : Nat} (h : kindOf P d = .ptr e) : kindD 0 d := ⟨e, kindOf_ptr h⟩
theorem kind_slice {P : Program} {d : TypeDesc} {e : Nat} (h : kindOf P d = .slice e) : kindD 1 d := ⟨e, kindOf_slice h⟩
theorem kind_map {P : Program} {d : TypeDesc} {k e : Nat} (h : kindOf P d = .map k e) : kindD 2 d := ⟨k, e, kindOf_map h⟩
theorem kind_fn {P : Program} {d : TypeDesc} (h : kindOf P d = .fn) : kindD 3 d := kindOf_fn h

/-- what is no nil interface, and no struct with an interface in it, is guarded by nothing -/
def plainEq (P : Program) (t : Nat) (u v : Value) : Prop := (∃ a b, u = .agg a ∧ v = .agg b ∧ P.eqGuardType P.depth t = false) ∨
  ((∀ a b, ¬ (u = .agg a ∧ v = .agg b)) ∧ ¬ (u = .nilIface ∧ v = .nilIface))

theorem eqGuard_ok {P : Program} {t : Nat} {u v : Value} (h : plainEq P t u v) (op : BinOp) (x y : Operand) (w : World) : (eqGuard op t x y u v).run P w = .ok () w := by
  rcases h with ⟨a, b, rfl, rfl, h⟩ | ⟨h1, h2⟩
  · exact run_eqGuard_agg w op t x y a b h
  · cases u <;> cases v <;> first
      | (exfalso; exact h1 _ _ ⟨rfl, rfl⟩)
      | (exfalso; exact h2 ⟨rfl, rfl⟩)
      | (cases op <;> simp [eqGuard])

theorem evEq_ok {P : Program} {G : Ctx} (hG : CtxOk P G) {f : Fn} {nx : Nat} {z : Z} {t : Nat} {x y : AV} {r : Bool} {u v : Value} (h : evEq G t x y = some r) (hu : RA f nx z x u) (hv : RA f nx z y v) (w : World) :
    (binOp .eql t u v).run P w = .ok (.bool r) w ∧ (binOp .neq t u v).run P w = .ok (.bool !r) w ∧ plainEq P t u v := by
  unfold evEq at h
  split at h
  · cases h
  · rename_i i hi
    have hT := hG.ti t i hi
    obtain ⟨d, hd, hk, _⟩ := hT.und
    -- by Op.equal
    have fin : (Op.equal t u v).run P w = .ok r w → (∀ k n m, ¬ (u = .int k n ∧ v = .int k m)) → (∀ k n k' m, ¬ (u = .int k n ∧ v = .int k' m)) → (∀ k n k' m, ¬ (u = .float k n ∧ v = .float k' m)) →
        (∀ k n m k' n' m', ¬ (u = .complex k n m ∧ v = .complex k' n' m')) → (∀ a b, ¬ (u = .string a ∧ v = .string b)) →
        (binOp .eql t u v).run P w = .ok (.bool r) w ∧ (binOp .neq t u v).run P w = .ok (.bool !r) w := by
      intro he h1 h2 h3 h4 h5
      cases u <;> cases v <;> first
        | (exfalso; exact h2 _ _ _ _ ⟨rfl, rfl⟩)
        | (exfalso; exact h3 _ _ _ _ ⟨rfl, rfl⟩)
        | (exfalso; exact h4 _ _ _ _ _ _ ⟨rfl, rfl⟩)
        | (exfalso; exact h5 _ _ ⟨rfl, rfl⟩)
        | exact ⟨by simp only [binOp, Sem.run_bind, he, Result.andThen_ok]; rfl, by simp only [binOp, Sem.run_bind, he, Result.andThen_ok]; rfl⟩
    -- nil tests
    have nils : ∀ (k : Nat) (a b : CV), eqNil k a b = some r → kindD k d → x = .one a → y = .one b → (binOp .eql t u v).run P w = .ok (.bool r) w ∧ (binOp .neq t u v).run P w = .ok (.bool !r) w ∧ plainEq P t u v := by
      rintro k a b hn hk rfl rfl
      have he : (Op.equal t u v).run P w = .ok r w := eqNil_ok hn hu hv hd hk 9999 w
      have shape : (∃ p, u = .pointer p) ∨ (∃ p n c, u = .slice p n c) ∨ (∃ p, u = .map p) ∨ u = .nilFunc ∨ (∃ g a b, u = .func g a b) := by
        unfold eqNil at hn
        split at hn
        · rcases nilK_ok hn hu with ⟨_, p, rfl, _⟩ | ⟨_, p, n, c, rfl, _⟩ | ⟨_, p, rfl, _⟩ | ⟨_, (⟨rfl, _⟩ | ⟨g, a, b, rfl, _⟩)⟩
          · exact .inl ⟨_, rfl⟩
          · exact .inr (.inl ⟨_, _, _, rfl⟩)
          · exact .inr (.inr (.inl ⟨_, rfl⟩))
          · exact .inr (.inr (.inr (.inl rfl)))
          · exact .inr (.inr (.inr (.inr ⟨_, _, _, rfl⟩)))
        · split at hn
          · rename_i hl
            rcases litNil_ok hl hu with ⟨_, rfl⟩ | ⟨_, n, c, rfl⟩ | ⟨_, rfl⟩ | ⟨_, rfl⟩
            · exact .inl ⟨_, rfl⟩
            · exact .inr (.inl ⟨_, _, _, rfl⟩)
            · exact .inr (.inr (.inl ⟨_, rfl⟩))
            · exact .inr (.inr (.inr (.inl rfl)))
          · cases hn
      have hx : ∀ k n k' m, ¬ (u = .int k n ∧ v = .int k' m) := by
        rintro k n k' m ⟨rfl, _⟩
        rcases shape with ⟨p, h⟩ | ⟨p, n, c, h⟩ | ⟨p, h⟩ | h | ⟨g, a, b, h⟩ <;> cases h
      have hfin := fin he (fun k n m => hx k n k m) hx (by
        rintro k n k' m ⟨rfl, _⟩
        rcases shape with ⟨p, h⟩ | ⟨p, n, c, h⟩ | ⟨p, h⟩ | h | ⟨g, a, b, h⟩ <;> cases h) (by
        rintro k n m k' n' m' ⟨rfl, _⟩
        rcases shape with ⟨p, h⟩ | ⟨p, n, c, h⟩ | ⟨p, h⟩ | h | ⟨g, a, b, h⟩ <;> cases h) (by
        rintro a b ⟨rfl, _⟩
        rcases shape with ⟨p, h⟩ | ⟨p, n, c, h⟩ | ⟨p, h⟩ | h | ⟨g, a, b, h⟩ <;> cases h)
      refine ⟨hfin.1, hfin.2, .inr ⟨?_, ?_⟩⟩
      · rintro a b ⟨rfl, _⟩
        rcases shape with ⟨p, h⟩ | ⟨p, n, c, h⟩ | ⟨p, h⟩ | h | ⟨g, a, b, h⟩ <;> cases h
      · rintro ⟨rfl, _⟩
        rcases shape with ⟨p, h⟩ | ⟨p, n, c, h⟩ | ⟨p, h⟩ | h | ⟨g, a, b, h⟩ <;> cases h
    split at h
    · rename_i a b hkk
      cases hu
      cases hv
      have hb := kindOf_bool (hk.trans hkk)
      subst hb
      simp only [Option.some.injEq] at h
      subst h
      have he : (Op.equal t (.bool a) (.bool b)).run P w = .ok (a == b) w := run_equalIn_bool' w 9999 t a b hd
      exact ⟨by simp only [binOp, Sem.run_bind, he, Result.andThen_ok]; rfl, by simp only [binOp, Sem.run_bind, he, Result.andThen_ok]; rfl, .inr ⟨(by rintro a b ⟨h, _⟩; cases h), (by rintro ⟨h, _⟩; cases h)⟩⟩
    · rename_i hkk; exact nils 0 _ _ h (kind_ptr (hk.trans hkk)) rfl rfl
    · rename_i hkk; exact nils 1 _ _ h (kind_slice (hk.trans hkk)) rfl rfl
    · rename_i hkk; exact nils 2 _ _ h (kind_map (hk.trans hkk)) rfl rfl
    · rename_i hkk; exact nils 3 _ _ h (kind_fn (hk.trans hkk)) rfl rfl
    · rename_i lx ly hkk
      split at h
      · cases h
      · rename_i ks hks
        rcases hT.eqs with h0 | ⟨h1, h2⟩
        · exact absurd h0 hks
        · have hag := hT.run_isAgg w
          have : i.agg = true := by
            obtain ⟨fs, rfl, _⟩ := kindOf_struct (hk.trans hkk)
            have := hT.agg
            rw [hd] at this
            simpa [isAggD] using this.symm
          rw [this] at hag
          have he := eqFlat w 20 t i.eqs h1 10000 (by omega) (.agg lx) (.agg ly) u v r hag trivial hu hv h
          obtain ⟨xs, rfl, _⟩ := hu
          obtain ⟨ys, rfl, _⟩ := hv
          exact ⟨by rw [run_eql_struct, he]; rfl, by rw [run_neq_struct, he]; rfl, .inl ⟨xs, ys, rfl, rfl, h2⟩⟩
    · cases h

theorem evBin_ok {P : Program} {G : Ctx} (hG : CtxOk P G) {f : Fn} {nx : Nat} {z : Z} {op : BinOp} {t : Nat} {x y r : AV} {u v : Value} (h : (evBin G op t x y).res = some r) (hu : RA f nx z x u) (hv : RA f nx z y v)
    (xo yo : Operand) (w : World) : ∃ q, (do eqGuard op t xo yo u v; binOp op t u v : Sem Value).run P w = .ok q w ∧ RA f nx z r q := by
  unfold evBin at h
  split at h
  · rename_i k a k' b
    cases hu; cases hv
    have hg : (eqGuard op t xo yo (.int k a) (.int k' b)).run P w = .ok () w := eqGuard_ok (.inr ⟨(by rintro a b ⟨h, _⟩; cases h), (by rintro ⟨h, _⟩; cases h)⟩) op xo yo w
    simp only [Sem.run_bind, hg, Result.andThen_ok]
    split at h
    · obtain ⟨q, h1, h2⟩ := T.bind_some h
      have h2 := T.ret_some h2
      subst h2
      obtain ⟨h3, h4⟩ := shiftInt_ok (P := P) (k' := k') h1 t w
      exact ⟨q, h3, RF.lit q h4⟩
    · obtain ⟨q, h1, h2⟩ := T.bind_some h
      have h2 := T.ret_some h2
      subst h2
      obtain ⟨h3, h4⟩ := shiftInt_ok (P := P) (k' := k') h1 t w
      exact ⟨q, h3, RF.lit q h4⟩
    · split at h
      · rename_i hk
        simp only [decide_eq_true_eq] at hk
        subst hk
        obtain ⟨q, h1, h2⟩ := T.bind_some h
        have h2 := T.ret_some h2
        subst h2
        obtain ⟨h3, h4⟩ := binInt_ok (P := P) h1 t w
        exact ⟨q, h3, RF.lit q h4⟩
      · exact (T.bad_some h).elim
  · rename_i a b
    cases hu; cases hv
    have hg : (eqGuard op t xo yo (.string a) (.string b)).run P w = .ok () w := eqGuard_ok (.inr ⟨(by rintro a b ⟨h, _⟩; cases h), (by rintro ⟨h, _⟩; cases h)⟩) op xo yo w
    simp only [Sem.run_bind, hg, Result.andThen_ok]
    obtain ⟨q, h1, h2⟩ := T.bind_some h
    have h2 := T.ret_some h2
    subst h2
    obtain ⟨h3, h4⟩ := binStr_ok (P := P) h1 t w
    exact ⟨q, h3, RF.lit q h4⟩
  · split at h
    · split at h
      · rename_i b hb
        have h2 := T.ret_some h
        subst h2
        obtain ⟨h1, _, h3⟩ := evEq_ok hG hb hu hv w
        simp only [Sem.run_bind, eqGuard_ok h3 .eql xo yo w, Result.andThen_ok]
        exact ⟨_, h1, RF.lit _ rfl⟩
      · exact (T.bad_some h).elim
    · split at h
      · rename_i b hb
        have h2 := T.ret_some h
        subst h2
        obtain ⟨_, h1, h3⟩ := evEq_ok hG hb hu hv w
        simp only [Sem.run_bind, eqGuard_ok h3 .neq xo yo w, Result.andThen_ok]
        exact ⟨_, h1, RF.lit _ rfl⟩
      · exact (T.bad_some h).elim
    · exact (T.bad_some h).elim

theorem evUn_ok {P : Program} {f : Fn} {nx : Nat} {z : Z} {op : UnOp} {x r : CV} {u : Value} (h : (evUn op x).res = some r) (hu : RC f nx z x u) (w : World) : ∃ q, (Op.unary op u).run P w = .ok q w ∧ RC f nx z r q := by
  unfold evUn at h
  split at h
  · have h2 := T.ret_some h
    subst h2
    cases hu
    exact ⟨_, by simp [Op.unary], RF.lit _ rfl⟩
  · have h2 := T.ret_some h
    subst h2
    cases hu
    exact ⟨_, by simp [Op.unary, Op.intArith], RF.lit _ rfl⟩
  · exact (T.bad_some h).elim

theorem inRange_some {α : Type} {i : Int} {n : Nat} {t : T α} {r : α} (h : (inRange i n t).res = some r) : 0 ≤ i ∧ i < (n : Int) ∧ t.res = some r := by
  obtain ⟨h1, h2⟩ := T.need_some h
  simp only [decide_eq_true_eq] at h1
  exact ⟨h1.1, h1.2, h2⟩

theorem atIndex_some {α : Type} {sym : Bool} {n : Nat} {i : Int} {k : Nat → T α} {r : α} (h : (atIndex sym n i k).res = some r) : (k i.toNat).res = some r := by
  cases sym with
  | false => exact h
  | true =>
    simp only [atIndex] at h
    have key : ∀ (m c : Nat), (atIndex.go i k m c).res = some r → (k i.toNat).res = some r := by
      intro m
      induction m with
      | zero => intro c h; exact (T.bad_some h).elim
      | succ m ih =>
        intro c h
        simp only [atIndex.go] at h
        rcases T.br_some h with ⟨hc, h1⟩ | ⟨_, h1⟩
        · simp only [decide_eq_true_eq] at hc
          rw [hc]
          exact h1
        · exact ih (c + 1) h1
    exact key n 0 h

end Go.Proofs.YtbobakclbdaepaaGreat.En
/- The engine, part 5: operations one by one (but slice expressions, the builtins, calls). -/
namespace Go.Proofs.YtbobakclbdaepaaGreat.En
open Go
set_option linter.unusedVariables false
set_option linter.unusedSimpArgs false

def Sx (fp wr : List Nat) : Nat → Prop := fun b => b ∈ fp ∨ b ∈ wr

/-- an operation comes to 'u' -/
def OpOk (P : Program) (o : Oper) (st : St) (u : Out) : Prop :=
  ∀ (f : Fn) (z : Z) (w : World) (a : Act), TR f st.nx z st.sl a.tmps → Rel (Sx u.fp u.wr) f st.nx z w st.H → (∀ b, st.nx ≤ b → ¬ (st.H.get b).live) →
    ∀ (K : Act → World → Prop) (Q : Exit → Act → World → Prop),
      (∀ f' z' w' v', Post (Sx u.fp u.wr) f st.nx z w st.H f' u.nx z' w' u.H u.esc → RS f' u.nx z' u.v v' → K (a.put o.dst v') w') → o.wp P a w K Q

theorem wp_value {P : Program} {o : Oper} {a : Act} {w w' : World} {K : Act → World → Prop} {Q : Exit → Act → World → Prop} {v : Value}
    (h : (execOp a.eval o).run P w = .ok (.value v) w') (hk : K (a.put o.dst v) w') : o.wp P a w K Q := by
  unfold Oper.wp; rw [h]; exact hk

theorem wp_skip' {P : Program} {o : Oper} {a : Act} {w w' : World} {K : Act → World → Prop} {Q : Exit → Act → World → Prop}
    (h : (execOp a.eval o).run P w = .ok .skip w') (hk : K (a.put o.dst undef) w') : o.wp P a w K Q := by
  unfold Oper.wp; rw [h]; exact hk

theorem run_v {P : Program} {w w' : World} {S : Sem Value} {v : Value} (h : S.run P w = .ok v w') : (do let x ← S; pure (Next.value x) : Sem Next).run P w = .ok (.value v) w' := by
  rw [Sem.run_bind, h]; rfl

theorem run_u {P : Program} {w w' : World} {S : Sem Unit} (h : S.run P w = .ok () w') : (do S; pure Next.skip : Sem Next).run P w = .ok .skip w' := by
  rw [Sem.run_bind, h]; rfl

/-- what makes a value of values -/
theorem OpOk.pure {P : Program} {o : Oper} {st : St} {sv : SV} (h : ∀ (f : Fn) (z : Z) (w : World) (a : Act), TR f st.nx z st.sl a.tmps → ∃ v, (execOp a.eval o).run P w = .ok (.value v) w ∧ RS f st.nx z sv v) :
    OpOk P o st ⟨sv, st.H, st.nx, false, [], []⟩ := by
  intro f z w a ht hr hno K Q hk
  obtain ⟨v, h1, h2⟩ := h f z w a ht
  exact wp_value h1 (hk f z w v (Post.refl hr hno) h2)

theorem one_cells {x : CV} : (AV.one x).cells = [x] := rfl

theorem run_loadVar' {P : Program} {f : Fn} {nx : Nat} {z : Z} {t : Nat} {i : TI} (hT : TIOk P t i) {l : List CV} {vs : List Value} (hl : RL f nx z l vs) (hn : vs.length = i.size) {x : AV} (hx : ofCells i.agg l = some x)
    (w : World) (ad : Addr) (hc : ∀ (k : Nat) v, vs[k]? = some v → w.cell? (ad.add k) = some v) : ∃ v, (loadVar t ad).run P w = .ok v w ∧ RA f nx z x v := by
  have h1 := hT.run_isAgg w
  have h2 := hT.run_sizeOf w
  cases ha : i.agg with
  | true =>
    rw [ha] at h1 hx
    simp only [ofCells, Option.some.injEq] at hx
    subst hx
    have h3 := run_loadCells_list (P := P) w ad vs hc
    rw [hn] at h3
    exact ⟨.agg vs.toArray, by simp [loadVar, Sem.run_bind, Result.andThen, h1, h2, h3], _, rfl, by simpa using hl⟩
  | false =>
    rw [ha] at h1 hx
    simp only [ofCells] at hx
    split at hx
    · rename_i y
      simp only [Option.some.injEq] at hx
      subst hx
      have hlen := hl.1
      match vs, hlen with
      | [v], _ =>
        have h3 := hc 0 v rfl
        rw [show ad.add 0 = ad by unfold Addr.add; simp] at h3
        exact ⟨v, by simp [loadVar, Sem.run_bind, Result.andThen, h1, h3], hl.2 0 y v rfl rfl⟩
    · cases hx

theorem RL.lits {f : Fn} {nx : Nat} {z : Z} {l : List Value} (h : l.all Value.oneCell' = true) : RL f nx z (l.map fun v => .f (.lit v)) l := by
  refine ⟨by simp, fun i x v hx hv => ?_⟩
  simp only [List.getElem?_map, hv, Option.map_some, Option.some.injEq] at hx
  subst hx
  rw [List.all_eq_true] at h
  exact RF.lit v (h v (List.mem_of_getElem? hv))

theorem RL.nil {f : Fn} {nx : Nat} {z : Z} : RL f nx z [] [] := ⟨rfl, fun i x v h => by simp at h⟩

theorem RL.append {f : Fn} {nx : Nat} {z : Z} {a b : List CV} {u v : List Value} (h : RL f nx z a u) (k : RL f nx z b v) : RL f nx z (a ++ b) (u ++ v) := by
  refine ⟨by simp [h.1, k.1], fun i x y hx hy => ?_⟩
  rcases Nat.lt_or_ge i a.length with hi | hi
  · rw [List.getElem?_append_left hi] at hx
    rw [List.getElem?_append_left (by rw [← h.1]; exact hi)] at hy
    exact h.2 i x y hx hy
  · rw [List.getElem?_append_right hi] at hx
    rw [List.getElem?_append_right (by rw [← h.1]; exact hi), ← h.1] at hy
    exact k.2 _ x y hx hy

theorem RL.repl {f : Fn} {nx : Nat} {z : Z} {a : List CV} {u : List Value} (h : RL f nx z a u) : ∀ n, RL f nx z (List.replicate n a).flatten (List.replicate n u).flatten
  | 0 => by simpa using RL.nil
  | n + 1 => by simp only [List.replicate_succ, List.flatten_cons]; exact h.append (RL.repl h n)

theorem setRange_RL {f : Fn} {nx : Nat} {z : Z} : ∀ (l : List CV) (vs : List Value) (j : Nat) (a : List CV) (b : List Value), RL f nx z l vs → RL f nx z a b → RL f nx z (setRange l j a) (setRange vs j b) := by
  intro l vs j a b h k
  refine ⟨by rw [setRange_length, setRange_length, h.1], fun i x v hx hv => ?_⟩
  rcases setRange_get l j a i x hx with ⟨q, hq, hq1⟩ | ⟨hq1, hq2⟩ <;> rcases setRange_get vs j b i v hv with ⟨p, hp, hp1⟩ | ⟨hp1, hp2⟩
  · have : p = q := by omega
    subst this
    exact k.2 _ x v hq1 hp1
  · exact absurd hq (hp2 q (by rw [← k.1]; exact (List.getElem?_eq_some_iff.1 hq1).1))
  · exact absurd hp (hq2 p (by rw [k.1]; exact (List.getElem?_eq_some_iff.1 hp1).1))
  · exact h.2 i x v hq1 hp1

theorem foldl_set (off : Nat) : ∀ (vs : List Value) (k : Nat) (c : Array Value), ((vs.zipIdx k).foldl (fun (cs : Array Value) (p : Value × Nat) => cs.setIfInBounds (off + p.2) p.1) c).toList = setRange c.toList (off + k) vs
  | [], k, c => by
    simp only [List.zipIdx_nil, List.foldl_nil]
    have : ∀ (l : List Value) (j : Nat), setRange l j [] = l := by
      intro l
      induction l with
      | nil => intro j; simp [setRange]
      | cons x r ih => intro j; cases j <;> simp [setRange, ih]
    rw [this]
  | v :: vs, k, c => by
    simp only [List.zipIdx_cons, List.foldl_cons]
    rw [foldl_set off vs (k + 1), Array.toList_setIfInBounds]
    have : ∀ (l : List Value) (j : Nat), setRange (l.set j v) (j + 1) vs = setRange l j (v :: vs) := by
      intro l
      induction l with
      | nil => intro j; simp [setRange]
      | cons x r ih =>
        intro j
        cases j with
        | zero => simp [setRange]
        | succ j => simp [setRange, ih]
    rw [← this]
    rfl

def PartsOk (f : Fn) (nx : Nat) (z : Z) (ps : List (Nat × List CV)) (qs : List (Nat × Value)) : Prop :=
  ps.length = qs.length ∧ ∀ (i : Nat) p q, ps[i]? = some p → qs[i]? = some q → p.1 = q.1 ∧ RL f nx z p.2 q.2.cells.toList

theorem fill_ok {f : Fn} {nx : Nat} {z : Z} {place : Nat → Option (Nat × Nat)} : ∀ (ps : List (Nat × List CV)) (qs : List (Nat × Value)) (l l' : List CV) (cs : Array Value), fill place l ps = some l' → PartsOk f nx z ps qs → RL f nx z l cs.toList →
    ∃ cs', Instr.fill place cs qs = some cs' ∧ RL f nx z l' cs'.toList
  | [], [], l, l', cs, h, hp, hl => by
    simp only [fill, Option.some.injEq] at h
    subst h
    exact ⟨cs, rfl, hl⟩
  | [], _ :: _, _, _, _, _, hp, _ => by have := hp.1; simp at this
  | _ :: _, [], _, _, _, _, hp, _ => by have := hp.1; simp at this
  | (i, v) :: ps, (k, u) :: qs, l, l', cs, h, hp, hl => by
    obtain ⟨h1, h2⟩ := hp.2 0 _ _ rfl rfl
    simp only at h1 h2
    subst h1
    simp only [fill] at h
    split at h
    · cases h
    · rename_i off size hpl
      split at h
      · rename_i hc
        rw [Bool.and_eq_true] at hc
        have c1 := nbeq hc.1
        have c2 := nble hc.2
        have hlen : u.cells.size = v.length := by rw [h2.1]; rfl
        have hcs : cs.size = l.length := by rw [hl.1]; rfl
        obtain ⟨cs', e1, e2⟩ := fill_ok ps qs (setRange l off v) l' (u.cells.zipIdx.foldl (fun cs (c, j) => cs.setIfInBounds (off + j) c) cs) h ⟨by have := hp.1; simpa using this, fun i p q hi hq => hp.2 (i + 1) p q (by simpa using hi) (by simpa using hq)⟩ (by
          have := foldl_set off u.cells.toList 0 cs
          rw [← Array.foldl_toList, Array.toList_zipIdx]
          rw [this]
          exact setRange_RL _ _ _ _ _ hl h2)
        refine ⟨cs', ?_, e2⟩
        simp only [Instr.fill, hpl]
        rw [if_neg]
        · exact e1
        · simp only [Bool.or_eq_true, decide_eq_true_eq, not_or, ne_eq, bne_iff_ne, Decidable.not_not]
          omega
      · cases h

theorem partsOf_ok {f : Fn} {z : Z} {st : St} {a : Act} (h : TR f st.nx z st.sl a.tmps) : ∀ (l : List (Nat × Operand)) (ps : List (Nat × List CV)), partsOf st l = some ps → PartsOk f st.nx z ps (l.map fun x => (x.1, a.eval x.2))
  | [], ps, hp => by
    simp only [partsOf, Option.some.injEq] at hp
    subst hp
    exact ⟨rfl, fun i p q hi => by simp at hi⟩
  | (i, x) :: r, ps, hp => by
    simp only [partsOf] at hp
    split at hp
    · rename_i v q hv hq
      simp only [Option.some.injEq] at hp
      subst hp
      have ih := partsOf_ok h r q hq
      have hx := val_ok h x
      rw [hv] at hx
      refine ⟨by simp [ih.1], fun k p u hp hu => ?_⟩
      cases k with
      | zero =>
        simp only [List.getElem?_cons_zero, Option.some.injEq, List.map_cons] at hp hu
        subst hp
        subst hu
        exact ⟨rfl, hx.cells⟩
      | succ k => exact ih.2 k p u (by simpa using hp) (by simpa using hu)
    · cases hp

/-- a new block of cells -/
theorem OpOk.block {P : Program} {o : Oper} {st : St} {l : List CV} {v : Nat → SV} {u : Out} (hu : (newBlock st l v).res = some u)
    (h : ∀ (f : Fn) (z : Z) (w : World) (a : Act), TR f st.nx z st.sl a.tmps → ∃ (cs : Array Value) (e : TypeId) (val : Value), (execOp a.eval o).run P w = .ok (.value val) (w.alloc (.cells cs e)) ∧ RL f st.nx z l cs.toList ∧
      RS (upd f st.nx ⟨w.heap.size, 0, cs.size⟩) (st.nx + 1) z (v st.nx) val) : OpOk P o st u := by
  have := T.ret_some hu
  subst this
  intro f z w a ht hr hno K Q hk
  obtain ⟨cs, e, val, h1, h2, h3⟩ := h f z w a ht
  refine wp_value h1 (hk _ z _ val (Post.alloc hr hno (.cells l) cs e id h2.all ?_) h3)
  intro m i j x hx
  simp only [Ob.at] at hx
  split at hx
  · rename_i hz
    obtain ⟨rfl, rfl⟩ := hz
    have hlt : j < cs.toList.length := by rw [← h2.1]; exact (List.getElem?_eq_some_iff.1 hx).1
    refine ⟨cs.toList[j], by simp, h2.2 j x _ hx (List.getElem?_eq_getElem hlt)⟩
  · cases hx

theorem run_newVar {P : Program} (w : World) (t : TypeId) (v : Value) : (newVar t v).run P w = .ok ⟨w.heap.size, 0, none⟩ (w.alloc (.cells v.cells t)) := rfl
theorem run_newRow {P : Program} (w : World) (t : TypeId) (c : Array Value) : (newRow t c).run P w = .ok ⟨w.heap.size, 0, none⟩ (w.alloc (.cells c t)) := rfl

theorem ptr_new {f : Fn} {nx k t : Nat} {z : Z} : RS (upd f nx ⟨k, 0, t⟩) (nx + 1) z (.one (.ptr nx 0 0 0)) (.pointer (some ⟨k, 0, none⟩)) :=
  ⟨Nat.lt_succ_self _, by simp [ad, upd_same]⟩

section ops
variable {P : Program} {G : Ctx} (hG : CtxOk P G) {call : CallF} {draw : Bool} {st : St} {o : Oper} {u : Out}

theorem op_move {x : Operand} (ho : o.op = .move x ∨ o.op = .assign x) (h : (pure1 st (st.val x)).res = some u) : OpOk P o st u := by
  have := T.ret_some h
  subst this
  refine OpOk.pure fun f z w a ht => ⟨a.eval x, ?_, val_ok ht x⟩
  rcases ho with ho | ho <;> simp [execOp, ho]

theorem op_pick {c x y : Operand} (ho : o.op = .pick c x y) (h : (split st c fun t st => pure1 st (st.val (match t with | true => x | false => y))).res = some u) : OpOk P o st u := by
  obtain ⟨b, hb, h⟩ := split_some h
  have := T.ret_some h
  obtain ⟨e1, e2, e3⟩ := setB_H st c b
  rw [e1, e2] at this
  subst this
  refine OpOk.pure fun f z w a ht => ?_
  have hc := val_ok ht c
  rw [hb] at hc
  have hc := lit_ok hc
  have ht' := setB_TR ht hb
  cases b with
  | true =>
    have hv := val_ok (a := a) ht' x
    rw [e2] at hv
    refine ⟨_, ?_, hv⟩
    simp only [execOp, ho, hc, asBool]
    simp [Sem.run_bind, Result.andThen]
  | false =>
    have hv := val_ok (a := a) ht' y
    rw [e2] at hv
    refine ⟨_, ?_, hv⟩
    simp only [execOp, ho, hc, asBool]
    simp [Sem.run_bind, Result.andThen]

include hG

theorem op_alloc {t : Nat} (ho : o.op = .alloc t) {i : TI} (hi : G.ti t = some i) (h : (newBlock st (zeros i) fun b => .one (.ptr b 0 0 0)).res = some u) : OpOk P o st u := by
  have hT := hG.ti t i hi
  refine OpOk.block h fun f z w a ht => ?_
  obtain ⟨zv, h1, h2⟩ := hT.run_zero w
  refine ⟨zv.cells, t, _, ?_, by rw [h2]; exact RL.lits hT.one, ptr_new⟩
  simp only [execOp, ho]
  refine run_v ?_
  simp only [Instr.alloc, Sem.run_bind, h1, Result.andThen_ok, run_newVar]
  rfl

omit hG in
theorem op_box {t : Nat} {x : Operand} (ho : o.op = .box t x) {v : AV} (hv : st.val x = .v v) (h : (newBlock st v.cells fun b => .one (.ptr b 0 0 0)).res = some u) : OpOk P o st u := by
  refine OpOk.block h fun f z w a ht => ?_
  have hx := val_ok ht x
  rw [hv] at hx
  refine ⟨(a.eval x).cells, t, _, ?_, hx.cells, ptr_new⟩
  simp only [execOp, ho]
  refine run_v ?_
  simp only [Instr.box, Sem.run_bind, run_newVar, Result.andThen_ok]
  rfl

theorem op_load {t : Nat} {x : Operand} (ho : o.op = .load t x) {i : TI} (hi : G.ti t = some i) {b m c j : Nat} (hv : st.val x = .v (.one (.ptr b m c j)))
    (h : (((st.H.get b).rd m c j i.size).bind fun l => match ofCells i.agg l with | some v => .ret ⟨.v v, st.H, st.nx, false, [b], []⟩ | none => .bad).res = some u) : OpOk P o st u := by
  have hT := hG.ti t i hi
  obtain ⟨l, hl, h⟩ := T.bind_some h
  split at h
  · rename_i v hv'
    have := T.ret_some h
    subst this
    intro f z w a ht hr hno K Q hk
    have hx := val_ok ht x
    rw [hv] at hx
    obtain ⟨hb, hx⟩ := hx
    have hlive := (Ob.rd_ok hl).2.1
    obtain ⟨_, hok⟩ := hr.own b (.inl (by simp)) hlive
    obtain ⟨vs, h1, h2, h3⟩ := hok.read hl
    obtain ⟨q, h4, h5⟩ := run_loadVar' hT h1 h2 hv' w (ad f b m c j) h3
    refine wp_value (v := q) (w' := w) ?_ (hk f z w q (Post.refl hr hno) h5)
    simp only [execOp, ho, hx]
    refine run_v ?_
    simp only [Instr.loadAt, Instr.sureAddr, Sem.run_bind, Sem.run_pure, Result.andThen_ok, h4]
  · exact (T.bad_some h).elim

theorem op_loadF {t : Nat} {x : Operand} (ho : o.op = .load t x) {i : TI} (hi : G.ti t = some i) {l : List FV} (hv : st.val x = .v (.one (.f (.fp l)))) {v : AV}
    (hlen : Nat.beq (l.take i.size).length i.size = true) (hc : ofCells i.agg ((l.take i.size).map .f) = some v) (h : (pure1 st (.v v)).res = some u) : OpOk P o st u := by
  have hT := hG.ti t i hi
  have := T.ret_some h
  subst this
  intro f z w a ht hr hno K Q hk
  have hx := val_ok ht x
  rw [hv] at hx
  have hlen := nbeq hlen
  generalize hax : a.eval x = ax at hx
  cases hx with
  | fp _ k off g h1 h2 =>
    obtain ⟨vs, e1, e2⟩ := RL.exist (f := f) (nx := st.nx) (z := z) ((l.take i.size).map .f) (fun q v => w.cell? ((⟨k, off, none⟩ : Addr).add q) = some v) (fun q y hy => by
      simp only [List.getElem?_map] at hy
      cases hq : (l.take i.size)[q]? with
      | none => rw [hq] at hy; cases hy
      | some y' =>
        rw [hq] at hy
        simp only [Option.map_some, Option.some.injEq] at hy
        subst hy
        rw [List.getElem?_take] at hq
        split at hq
        · have hlt := (List.getElem?_eq_some_iff.1 hq).1
          refine ⟨g q, ?_, h2 q y' hq⟩
          have := hr.zok _ _ _ (h1 q hlt)
          rw [show (⟨k, off, none⟩ : Addr).add q = ⟨k, off + q, none⟩ by unfold Addr.add; split <;> simp_all]
          exact this
        · cases hq)
    obtain ⟨q, h4, h5⟩ := run_loadVar' hT e1 (by rw [← e1.1]; simpa using hlen) hc w ⟨k, off, none⟩ e2
    refine wp_value (v := q) (w' := w) ?_ (hk f z w q (Post.refl hr hno) h5)
    simp only [execOp, ho, hax]
    refine run_v ?_
    simp only [Instr.loadAt, Instr.sureAddr, Sem.run_bind, Sem.run_pure, Result.andThen_ok, h4]

theorem op_store {t : Nat} {x y : Operand} (ho : o.op = .store t x y) {i : TI} (hi : G.ti t = some i) {b m c j : Nat} (hx : st.val x = .v (.one (.ptr b m c j))) {v : AV} (hy : st.val y = .v v) (hs : Nat.beq v.cells.length i.size = true)
    (h : (((st.H.get b).wr m c j v.cells).bind fun ob => st.H.putK b ob fun H => .ret ⟨.top, H, st.nx, false || v.cells.any (CV.beyond (b + 1)), [b], [b]⟩).res = some u) : OpOk P o st u := by
  have hT := hG.ti t i hi
  obtain ⟨ob, hw, h⟩ := T.bind_some h
  rw [Heap.putK_eq] at h
  have := T.ret_some h
  subst this
  intro f z w a ht hr hno K Q hk
  have hX := val_ok ht x
  have hY := val_ok ht y
  rw [hx] at hX
  rw [hy] at hY
  obtain ⟨hb, hX⟩ := hX
  have hl : (st.H.get b).live := (Ob.wr_ok hw).1
  have hcells := hY.cells
  have hS : Sx [b] [b] b := .inl (by simp)
  obtain ⟨_, hok⟩ := hr.own b hS hl
  obtain ⟨_, _, _, hex, _⟩ := Ob.wr_ok hw
  have hroom : ∀ q, q < (a.eval y).cells.toList.length → c * m + j + q < (f b).t := fun q hq => by
    obtain ⟨e, he⟩ := hex q (by rw [hcells.1]; exact hq)
    have := (hok.cell _ _ _ _ he).1
    omega
  refine wp_skip' (w' := w.setCells (f b).k ((f b).d + (c * m + j)) (a.eval y).cells.toList) ?_ (hk f z _ undef (Post.write hS hr hw hcells hno fun he => ?_) trivial)
  · simp only [execOp, ho, hX]
    refine run_u ?_
    have hz : (a.eval y).cells.size = i.size := by
      have := nbeq hs
      rw [← this, hcells.1]; rfl
    have h1 := hT.run_sizeOf w
    have h2 := run_storeCells_cells (P := P) (f b).k ((f b).d + (c * m + j)) (a.eval y).cells.toList 0 w (fun q hq => by
        have := hok.hasCell (hroom q hq)
        rwa [← Nat.add_assoc] at this) (fun q hq => by
        have := (hok.room _ (hroom q hq)).2
        rwa [← Nat.add_assoc] at this) (fun e he => by
        obtain ⟨q, hq⟩ := List.mem_iff_getElem?.1 he
        have hlt : q < v.cells.length := by rw [hcells.1]; exact (List.getElem?_eq_some_iff.1 hq).1
        exact (hcells.2 q _ e (List.getElem?_eq_getElem hlt) hq).one)
    simp only [Nat.add_zero] at h2
    simp only [Instr.storeAt, Instr.sureAddr, storeVar, Sem.run_bind, Sem.run_pure, Result.andThen_ok, h1]
    rw [if_neg (by simpa using hz)]
    exact h2
  · simp only [Bool.or_eq_false_iff] at he
    exact he.2

end ops

end Go.Proofs.YtbobakclbdaepaaGreat.En
