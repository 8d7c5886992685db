/- The engine, part 3: the operations that make values of values. -/
import Derived.Test.YtpidkmegakdohaaGreatK2
import Derived.Laws.StructEq
namespace Go.Proofs.YtpidkmegakdohaaGreat.Kn
open Go
set_option linter.unusedVariables false
set_option linter.unusedSimpArgs false

def isAggD : TypeDesc → Bool
  | .struct _ | .array _ _ => true
  | _ => false

def fieldRow (P : Program) (f : Field) : Option (Nat × Nat × Nat × Bool) :=
  match P.info? f.type, P.underlying f.type with
  | some i, some d => some (f.offset, i.size, f.type, isAggD d)
  | _, _ => none

def fieldRows (P : Program) : List Field → Option (List (Nat × Nat × Nat × Bool))
  | [] => some []
  | f :: r => match fieldRow P f, fieldRows P r with
    | some x, some l => some (x :: l)
    | _, _ => none

def kindOf (P : Program) : TypeDesc → TK
  | .bool => .bool
  | .int k => .int k
  | .string => .str
  | .pointer e => .ptr e
  | .slice e => .slice e
  | .struct fs => match fieldRows P fs.toList with | some l => .struct l | none => .other
  | .array n e => .array n e
  | .map k e => .map k e
  | .func _ _ _ => .fn
  | _ => .other

def flatGo (P : Program) (rec' : Nat → Option (List Nat)) : List Field → Nat → Option (List Nat)
  | [], _ => some []
  | f :: r, off => match (f.name != "_") && Nat.beq f.offset off, rec' f.type, fieldRow P f with
    | true, some a, some (_, size, _, _) => match Nat.beq a.length size, flatGo P rec' r (off + size) with
      | true, some b => some (a ++ b)
      | _, _ => none
    | _, _, _ => none

/-- such a type's '==' is cell by cell: the cells' kinds -/
def flatK (P : Program) : Nat → Nat → Option (List Nat)
  | 0, _ => none
  | d + 1, t =>
    match P.underlying t with
    | some .bool => some [0]
    | some (.int _) => some [1]
    | some .string => some [2]
    | some (.struct fs) => match P.stoodInHeld t with | true => none | false => flatGo P (flatK P d) fs.toList 0
    | _ => none

def isAggV : Value → Bool
  | .agg _ => true
  | _ => false

structure TIOk (P : Program) (t : Nat) (i : TI) : Prop where
  row : (P.info? t).map (fun x => (x.size, x.bytes, x.zero.map fun v => (v.cells.toList, isAggV v))) = some (i.size, i.bytes, some (i.zero, i.agg))
  kind : (P.underlying t).map (kindOf P) = some i.kind
  agg : (P.underlying t).map isAggD = some i.agg
  one : i.zero.all Value.oneCell' = true
  len : i.zero.length = i.size
  eqs : i.eqs = [] ∨ (flatK P 20 t = some i.eqs ∧ P.eqGuardType P.depth t = false)

structure CtxOk (P : Program) (G : Ctx) : Prop where
  ti : ∀ t i, G.ti t = some i → TIOk P t i
  fi : ∀ f fn, G.fi f = some fn → P.funcs[f]? = some fn ∧ fn.body.isSome = true ∧ (fn.name == "runtime.NumGoroutine") = false
  mixed : P.follows .mixedOrders = true

theorem TIOk.info' {P : Program} {t : Nat} {i : TI} (h : TIOk P t i) : ∃ x zv, P.info? t = some x ∧ x.size = i.size ∧ x.bytes = i.bytes ∧ x.zero = some zv ∧ zv.cells.toList = i.zero ∧ isAggV zv = i.agg := by
  have := h.row
  cases hx : P.info? t with
  | none => rw [hx] at this; cases this
  | some x =>
    rw [hx] at this
    simp only [Option.map_some, Option.some.injEq, Prod.mk.injEq] at this
    obtain ⟨h1, h2, h3⟩ := this
    cases hz : x.zero with
    | none => rw [hz] at h3; cases h3
    | some zv =>
      rw [hz] at h3
      simp only [Option.map_some, Option.some.injEq, Prod.mk.injEq] at h3
      exact ⟨x, zv, rfl, h1, h2, hz, h3.1, h3.2⟩

theorem TIOk.info {P : Program} {t : Nat} {i : TI} (h : TIOk P t i) : ∃ x zv, P.info? t = some x ∧ x.size = i.size ∧ x.bytes = i.bytes ∧ x.zero = some zv ∧ zv.cells.toList = i.zero := by
  obtain ⟨x, zv, h1, h2, h3, h4, h5, _⟩ := h.info'
  exact ⟨x, zv, h1, h2, h3, h4, h5⟩

theorem TIOk.und {P : Program} {t : Nat} {i : TI} (h : TIOk P t i) : ∃ d, P.underlying t = some d ∧ kindOf P d = i.kind ∧ isAggD d = i.agg := by
  have h1 := h.kind
  have h2 := h.agg
  cases hd : P.underlying t with
  | none => rw [hd] at h1; cases h1
  | some d => rw [hd] at h1 h2; exact ⟨d, rfl, by simpa using h1, by simpa using h2⟩

section
variable {P : Program} {t : Nat} {i : TI} (h : TIOk P t i) (w : World)
include h

theorem TIOk.run_sizeOf : (sizeOf t).run P w = .ok i.size w := by
  obtain ⟨x, zv, h1, h2, _⟩ := h.info
  simp [sizeOf, typeInfo, Sem.run_bind, Result.andThen, h1, h2]

theorem TIOk.run_typeInfo : ∃ x, (typeInfo t).run P w = .ok x w ∧ x.size = i.size ∧ x.bytes = i.bytes := by
  obtain ⟨x, zv, h1, h2, h3, _⟩ := h.info
  exact ⟨x, by simp [typeInfo, Sem.run_bind, Result.andThen, h1], h2, h3⟩

theorem TIOk.run_zero : ∃ zv, (zeroValue t).run P w = .ok zv w ∧ zv.cells.toList = i.zero := by
  obtain ⟨x, zv, h1, h2, h3, h4, h5⟩ := h.info
  exact ⟨zv, by simp [zeroValue, typeInfo, Sem.run_bind, Result.andThen, h1, h4], h5⟩

theorem TIOk.run_und : ∃ d, (underlying t).run P w = .ok d w ∧ kindOf P d = i.kind ∧ isAggD d = i.agg ∧ P.underlying t = some d := by
  obtain ⟨d, h1, h2, h3⟩ := h.und
  exact ⟨d, by simp [underlying, Sem.run_bind, Result.andThen, h1], h2, h3, h1⟩

theorem TIOk.run_isAgg : (isAgg t).run P w = .ok i.agg w := by
  obtain ⟨d, h1, h2, h3, _⟩ := h.run_und w
  rw [← h3]
  cases d <;> simp [isAgg, Sem.run_bind, Result.andThen, h1, isAggD]
end

theorem kindOf_int {P : Program} {d : TypeDesc} {k : IntKind} (h : kindOf P d = .int k) : d = .int k := by
  cases d <;> simp [kindOf] at h <;> first | (subst h; rfl) | (split at h <;> cases h)
theorem kindOf_bool {P : Program} {d : TypeDesc} (h : kindOf P d = .bool) : d = .bool := by
  cases d <;> simp [kindOf] at h <;> first | rfl | (split at h <;> cases h)
theorem kindOf_str {P : Program} {d : TypeDesc} (h : kindOf P d = .str) : d = .string := by
  cases d <;> simp [kindOf] at h <;> first | rfl | (split at h <;> cases h)
theorem kindOf_ptr {P : Program} {d : TypeDesc} {e : Nat} (h : kindOf P d = .ptr e) : d = .pointer e := by
  cases d <;> simp [kindOf] at h <;> first | (subst h; rfl) | (split at h <;> cases h)
theorem kindOf_slice {P : Program} {d : TypeDesc} {e : Nat} (h : kindOf P d = .slice e) : d = .slice e := by
  cases d <;> simp [kindOf] at h <;> first | (subst h; rfl) | (split at h <;> cases h)
theorem kindOf_array {P : Program} {d : TypeDesc} {n e : Nat} (h : kindOf P d = .array n e) : d = .array n e := by
  cases d <;> simp [kindOf] at h <;> first | (obtain ⟨rfl, rfl⟩ := h; rfl) | (split at h <;> cases h)
theorem kindOf_map {P : Program} {d : TypeDesc} {n e : Nat} (h : kindOf P d = .map n e) : d = .map n e := by
  cases d <;> simp [kindOf] at h <;> first | (obtain ⟨rfl, rfl⟩ := h; rfl) | (split at h <;> cases h)
theorem kindOf_fn {P : Program} {d : TypeDesc} (h : kindOf P d = .fn) : ∃ a b c, d = .func a b c := by
  cases d <;> simp [kindOf] at h <;> first | exact ⟨_, _, _, rfl⟩ | (split at h <;> cases h)
theorem kindOf_struct {P : Program} {d : TypeDesc} {l : List (Nat × Nat × Nat × Bool)} (h : kindOf P d = .struct l) : ∃ fs : Array Field, d = .struct fs ∧ fieldRows P fs.toList = some l := by
  cases d <;> simp [kindOf] at h
  rename_i fs
  refine ⟨fs, rfl, ?_⟩
  split at h
  · rename_i q hq; simp at h; rw [hq, h]
  · cases h

theorem fieldRows_get {P : Program} : ∀ (fs : List Field) (l : List (Nat × Nat × Nat × Bool)), fieldRows P fs = some l → ∀ (k : Nat) x, l[k]? = some x → ∃ f, fs[k]? = some f ∧ fieldRow P f = some x
  | [], l, h, k, x, hx => by simp [fieldRows] at h; subst h; simp at hx
  | f :: r, l, h, k, x, hx => by
    simp only [fieldRows] at h
    split at h
    · rename_i y q h1 h2
      simp only [Option.some.injEq] at h
      subst h
      cases k with
      | zero => simp at hx; subst hx; exact ⟨f, rfl, h1⟩
      | succ k => exact fieldRows_get r q h2 k x (by simpa using hx)
    · cases h

theorem fieldRows_len {P : Program} : ∀ (fs : List Field) (l : List (Nat × Nat × Nat × Bool)), fieldRows P fs = some l → l.length = fs.length
  | [], l, h => by simp [fieldRows] at h; subst h; rfl
  | f :: r, l, h => by
    simp only [fieldRows] at h
    split at h
    · rename_i y q h1 h2
      simp only [Option.some.injEq] at h
      subst h
      simp [fieldRows_len r q h2]
    · cases h

theorem fieldRow_info {P : Program} {f : Field} {x : Nat × Nat × Nat × Bool} (h : fieldRow P f = some x) : ∃ i d, P.info? f.type = some i ∧ P.underlying f.type = some d ∧ x = (f.offset, i.size, f.type, isAggD d) := by
  simp only [fieldRow] at h
  split at h
  · rename_i i d h1 h2
    simp only [Option.some.injEq] at h
    exact ⟨i, d, h1, h2, h.symm⟩
  · cases h

theorem constSV_ok {f : Fn} {nx : Nat} {z : Z} (v : Value) : RS f nx z (constSV v) v := by
  cases v with
  | agg cs =>
    simp only [constSV]
    split
    · rename_i h
      refine ⟨cs, rfl, by simp, fun i x u hx hu => ?_⟩
      simp only [List.getElem?_map] at hx
      rw [hu] at hx
      simp only [Option.map_some, Option.some.injEq] at hx
      subst hx
      rw [List.all_eq_true] at h
      exact RF.lit u (h u (List.mem_of_getElem? hu))
    · trivial
  | tuple vs => trivial
  | _ => exact RF.lit _ rfl

theorem val_ok {f : Fn} {z : Z} {st : St} {a : Act} (h : TR f st.nx z st.sl a.tmps) (x : Operand) : RS f st.nx z (st.val x) (a.eval x) := by
  cases x with
  | tmp t => exact h t
  | const v => exact constSV_ok v
  | global g => trivial
  | func g => exact ⟨by simp [Act.eval], fun x hx => by cases hx⟩

theorem lit_ok {f : Fn} {nx : Nat} {z : Z} {v u : Value} (h : RS f nx z (.v (.one (.f (.lit v)))) u) : u = v := by
  cases h; rfl

theorem one_lit {f : Fn} {nx : Nat} {z : Z} {v : Value} (h : v.oneCell' = true) : RS f nx z (.v (.one (.f (.lit v)))) v := RF.lit v h

/-- a Bool slot decides -/
theorem split_some {α : Type} {st : St} {x : Operand} {k : Bool → T α} {r : α} (h : (split st x k).res = some r) :
    ∃ b, st.val x = .v (.one (.f (.lit (.bool b)))) ∧ (k b).res = some r := by
  unfold split at h
  split at h
  · rename_i b hb
    rcases T.br_some h with ⟨rfl, h⟩ | ⟨rfl, h⟩
    · exact ⟨true, hb, h⟩
    · exact ⟨false, hb, h⟩
  · exact (T.bad_some h).elim

theorem binInt_ok {P : Program} {op : BinOp} {k : IntKind} {x y : Int} {v : Value} (h : (binInt op k x y).res = some v) (t : Nat) (w : World) :
    (binOp op t (.int k x) (.int k y)).run P w = .ok v w ∧ v.oneCell' = true := by
  cases op <;> simp only [binInt] at h <;>
    first
      | (have := T.ret_some h; subst this; exact ⟨by simp [binOp, Op.intArith, Op.intBits, Op.intCmp], rfl⟩)
      | (rcases T.br_some h with ⟨_, h⟩ | ⟨hy, h⟩
         · exact (T.bad_some h).elim
         · have := T.ret_some h; subst this
           have hy : ¬ y = 0 := by simpa using hy
           exact ⟨by simp [binOp, Op.intDiv, hy], rfl⟩)
      | exact (T.bad_some h).elim

theorem shiftInt_ok {P : Program} {op : BinOp} {k k' : IntKind} {x y : Int} {v : Value} (h : (shiftInt op k x y).res = some v) (t : Nat) (w : World) :
    (binOp op t (.int k x) (.int k' y)).run P w = .ok v w ∧ v.oneCell' = true := by
  cases op <;> simp only [shiftInt] at h <;>
    first
      | (rcases T.br_some h with ⟨_, h⟩ | ⟨hy, h⟩
         · exact (T.bad_some h).elim
         · have := T.ret_some h; subst this
           have hy : ¬ y < 0 := by simpa using hy
           exact ⟨by simp [binOp, Op.shift, hy], rfl⟩)
      | exact (T.bad_some h).elim

theorem binStr_ok {P : Program} {op : BinOp} {x y : ByteArray} {v : Value} (h : (binStr op x y).res = some v) (t : Nat) (w : World) :
    (binOp op t (.string x) (.string y)).run P w = .ok v w ∧ v.oneCell' = true := by
  cases op <;> simp only [binStr] at h <;>
    first
      | (have := T.ret_some h; subst this; exact ⟨by simp [binOp, Op.stringOp], rfl⟩)
      | (rcases T.br_some h with ⟨_, h⟩ | ⟨hy, h⟩
         · exact (T.bad_some h).elim
         · have := T.ret_some h; subst this
           have hy : ¬ ((x.size + y.size : Nat) : Int) > IntKind.i64.max := by simpa using hy
           exact ⟨by simp only [binOp, Op.stringOp]; rw [if_neg hy]; rfl, rfl⟩)
      | exact (T.bad_some h).elim


theorem eqCells_app : ∀ (ks a b ls c d : List _) (r : Bool), ks.length = a.length → ks.length = b.length → eqCells (ks ++ ls) (a ++ c) (b ++ d) = some r → ∃ p q, eqCells ks a b = some p ∧ eqCells ls c d = some q ∧ r = (p && q)
  | [], [], [], ls, c, d, r, _, _, h => ⟨true, r, rfl, h, rfl⟩
  | k :: ks, x :: a, y :: b, ls, c, d, r, hl, hl', h => by
    simp only [List.cons_append, eqCells] at h
    split at h
    · rename_i u v hu hv
      simp only [Option.some.injEq] at h
      obtain ⟨p, q, h1, h2, h3⟩ := eqCells_app ks a b ls c d v (by simpa using hl) (by simpa using hl') hv
      refine ⟨u && p, q, ?_, h2, ?_⟩
      · simp only [eqCells, hu, h1]
      · rw [← h, h3, Bool.and_assoc]
    · cases h
  | [], _ :: _, _, _, _, _, _, h, _, _ => by simp at h
  | [], [], _ :: _, _, _, _, _, _, h, _ => by simp at h
  | _ :: _, [], _, _, _, _, _, h, _, _ => by simp at h
  | _ :: _, _ :: _, [], _, _, _, _, _, h, _ => by simp at h

theorem eqCells_len : ∀ (ks a b : List _) (r : Bool), eqCells ks a b = some r → ks.length = a.length ∧ ks.length = b.length
  | [], [], [], _, _ => ⟨rfl, rfl⟩
  | k :: ks, x :: a, y :: b, r, h => by
    simp only [eqCells] at h
    split at h
    · rename_i u v hu hv
      have := eqCells_len ks a b v hv
      simp [this.1, ← this.2]
    · cases h
  | [], _ :: _, _, _, h => by simp [eqCells] at h
  | [], [], _ :: _, _, h => by simp [eqCells] at h
  | _ :: _, [], _, _, h => by simp [eqCells] at h
  | _ :: _, _ :: _, [], _, h => by simp [eqCells] at h

theorem RL.part {f : Fn} {nx : Nat} {z : Z} {l : List CV} {vs : List Value} (h : RL f nx z l vs) (off n : Nat) : RL f nx z ((l.drop off).take n) ((vs.drop off).take n) := by
  refine ⟨by simp [h.1], fun i x v hx hv => ?_⟩
  rw [List.getElem?_take] at hx hv
  split at hx
  · rename_i hi
    rw [if_pos hi] at hv
    simp only [List.getElem?_drop] at hx hv
    exact h.2 _ x v hx hv
  · cases hx

/-- a part of a struct's or an array's cells, as a value -/
theorem part_ok {P : Program} {f : Fn} {nx : Nat} {z : Z} {l : List CV} {cs : Array Value} (h : RL f nx z l cs.toList) {t : Nat} {size : Nat} {agg : Bool} {off : Nat} (w : World)
    (hs : (sizeOf t).run P w = .ok size w) (ha : (isAgg t).run P w = .ok agg w) {x : AV} (hl : ((l.drop off).take size).length = size) (hx : ofCells agg ((l.drop off).take size) = some x) :
    ∃ v, (part t cs off).run P w = .ok v w ∧ RA f nx z x v := by
  have hp := h.part off size
  cases agg with
  | true =>
    simp only [ofCells, Option.some.injEq] at hx
    subst hx
    refine ⟨.agg (cs.extract off (off + size)), by simp [part, Sem.run_bind, Result.andThen, hs, ha], _, rfl, ?_⟩
    have : (cs.extract off (off + size)).toList = (cs.toList.drop off).take size := by
      rw [Array.toList_extract]
      simp [List.extract_eq_take_drop]
    rw [this]
    exact hp
  | false =>
    simp only [ofCells] at hx
    split at hx
    · rename_i y hy
      simp only [Option.some.injEq] at hx
      subst hx
      rw [hy] at hp hl
      have h1 : size = 1 := by simpa using hl.symm
      subst h1
      have hlen := hp.1
      have hget : cs[off]? = ((cs.toList.drop off).take 1)[0]? := by
        rw [List.getElem?_take]
        simp
      cases hv : ((cs.toList.drop off).take 1)[0]? with
      | none =>
        rw [List.getElem?_eq_none_iff] at hv
        simp only [List.length_cons, List.length_nil] at hlen
        omega
      | some v =>
        rw [hv] at hget
        refine ⟨v, by simp [part, Sem.run_bind, Result.andThen, hs, ha, hget], hp.2 0 y v rfl hv⟩
    · cases hx

theorem eqCell_ok {P : Program} {f : Fn} {nx : Nat} {z : Z} {k : Nat} {x y : CV} {u v : Value} {r : Bool} (h : eqCell k x y = some r) (hu : RC f nx z x u) (hv : RC f nx z y v) {t : Nat} (D : Nat) (w : World)
    (hf : (k = 0 ∧ P.underlying t = some .bool) ∨ (k = 1 ∧ ∃ k, P.underlying t = some (.int k)) ∨ (k = 2 ∧ P.underlying t = some .string)) :
    (Op.equalIn (D + 1) t u v).run P w = .ok r w := by
  unfold eqCell at h
  split at h
  · rename_i a b
    simp only [Option.some.injEq] at h
    subst h
    cases hu; cases hv
    rcases hf with ⟨_, hf⟩ | ⟨h, _⟩ | ⟨h, _⟩
    · exact run_equalIn_bool' w D t a b hf
    · cases h
    · cases h
  · rename_i k a k' b
    split at h
    · rename_i hk
      simp only [decide_eq_true_eq] at hk
      subst hk
      simp only [Option.some.injEq] at h
      subst h
      cases hu; cases hv
      rcases hf with ⟨h, _⟩ | ⟨_, k2, hf⟩ | ⟨h, _⟩
      · cases h
      · exact run_equalIn_int w D t k k2 a b hf
      · cases h
    · cases h
  · rename_i a b
    simp only [Option.some.injEq] at h
    subst h
    cases hu; cases hv
    rcases hf with ⟨h, _⟩ | ⟨h, _⟩ | ⟨_, hf⟩
    · cases h
    · cases h
    · rw [run_equalIn_string w D t a b hf, beq_toListBytes]
  · cases h

theorem flatK_agg {P : Program} {d t : Nat} {ks : List Nat} (h : flatK P d t = some ks) : (∃ k, ks = [k] ∧ ((k = 0 ∧ P.underlying t = some .bool) ∨ (k = 1 ∧ ∃ k, P.underlying t = some (.int k)) ∨ (k = 2 ∧ P.underlying t = some .string))) ∨
    (∃ e fs, d = e + 1 ∧ P.underlying t = some (.struct fs) ∧ P.stoodInHeld t = false ∧ flatGo P (flatK P e) fs.toList 0 = some ks) := by
  cases d with
  | zero => simp [flatK] at h
  | succ d =>
    simp only [flatK] at h
    split at h
    · rename_i hu; simp only [Option.some.injEq] at h; exact .inl ⟨0, h.symm, .inl ⟨rfl, hu⟩⟩
    · rename_i k hu; simp only [Option.some.injEq] at h; exact .inl ⟨1, h.symm, .inr (.inl ⟨rfl, k, hu⟩)⟩
    · rename_i hu; simp only [Option.some.injEq] at h; exact .inl ⟨2, h.symm, .inr (.inr ⟨rfl, hu⟩)⟩
    · rename_i fs hu
      split at h
      · cases h
      · rename_i hs; exact .inr ⟨d, fs, rfl, hu, hs, h⟩
    · cases h

theorem eqFlat {P : Program} {f : Fn} {nx : Nat} {z : Z} (w : World) : ∀ (d t : Nat) (ks : List Nat), flatK P d t = some ks → ∀ (D : Nat), d ≤ D →
    ∀ (x y : AV) (u v : Value) (r : Bool), (isAgg t).run P w = .ok (match x with | .agg _ => true | .one _ => false) w → (match x, y with | .agg _, .agg _ => True | .one _, .one _ => True | _, _ => False) →
      RA f nx z x u → RA f nx z y v → eqCells ks x.cells y.cells = some r → (Op.equalIn D t u v).run P w = .ok r w := by
  intro d
  induction d with
  | zero => intro t ks h; simp [flatK] at h
  | succ d ih =>
    intro t ks h D hD x y u v r hag hsh hu hv he
    obtain ⟨D, rfl⟩ : ∃ E, D = E + 1 := ⟨D - 1, by omega⟩
    rcases flatK_agg h with ⟨k, rfl, hf⟩ | ⟨e, fs, he', hun, hst, hgo⟩
    · have hna : (isAgg t).run P w = .ok false w := by
        rcases hf with ⟨_, hf⟩ | ⟨_, k2, hf⟩ | ⟨_, hf⟩ <;> simp [isAgg, underlying, Sem.run_bind, Result.andThen, hf]
      rw [hna] at hag
      cases x with
      | agg l => simp at hag
      | one x =>
        cases y with
        | agg l => exact hsh.elim
        | one y =>
          simp only [AV.cells, eqCells] at he
          split at he
          · rename_i a b ha hb
            simp only [Option.some.injEq] at he hb
            subst hb
            subst he
            rw [Bool.and_true]
            exact eqCell_ok ha hu hv D w hf
          · cases he
    · have : e = d := by omega
      subst this
      have hya : (isAgg t).run P w = .ok true w := by simp [isAgg, underlying, Sem.run_bind, Result.andThen, hun]
      rw [hya] at hag
      cases x with
      | one x => simp at hag
      | agg lx =>
        cases y with
        | one y => exact hsh.elim
        | agg ly =>
          obtain ⟨xs, rfl, hx⟩ := hu
          obtain ⟨ys, rfl, hy⟩ := hv
          have hfo : P.fieldsOf t = fs := by simp [Program.fieldsOf, hun]
          rw [run_equalIn_struct w D t xs ys (by rw [hfo]; exact hun) hst, hfo]
          clear hfo hun hya hag hsh h
          simp only [AV.cells] at he
          -- field by field
          have key : ∀ (fl : List Field) (off : Nat) (ks : List Nat) (r : Bool), flatGo P (flatK P e) fl off = some ks → eqCells ks (lx.drop off) (ly.drop off) = some r → (Op.eqFields D xs ys fl).run P w = .ok r w := by
            intro fl
            induction fl with
            | nil =>
              intro off ks r hk hq
              simp only [flatGo, Option.some.injEq] at hk
              subst hk
              obtain ⟨h1, h2⟩ := eqCells_len _ _ _ _ hq
              rw [List.length_eq_zero_iff.1 h1.symm, List.length_eq_zero_iff.1 h2.symm] at hq
              simp only [eqCells, Option.some.injEq] at hq
              subst hq
              simp [Op.eqFields]
            | cons g fl ihf =>
              intro off ks r hk hq
              simp only [flatGo] at hk
              split at hk
              · rename_i ka o2 sz t2 ag hc hka hfr
                split at hk
                · rename_i kb ha hkb
                  simp only [Option.some.injEq] at hk
                  subst hk
                  rw [Bool.and_eq_true, bne_iff_ne] at hc
                  have hoff := nbeq hc.2
                  have hsz := nbeq ha
                  obtain ⟨inf, dd, hi1, hi2, hi3⟩ := fieldRow_info hfr
                  simp only [Prod.mk.injEq] at hi3
                  obtain ⟨_, hs1, _, hs2⟩ := hi3
                  have hlen := eqCells_len _ _ _ _ hq
                  simp only [List.length_append] at hlen
                  have e1 : lx.drop off = (lx.drop off).take sz ++ lx.drop (off + sz) := by rw [← List.drop_drop, List.take_append_drop]
                  have e2 : ly.drop off = (ly.drop off).take sz ++ ly.drop (off + sz) := by rw [← List.drop_drop, List.take_append_drop]
                  have l1 : ((lx.drop off).take sz).length = sz := by rw [List.length_take]; omega
                  have l2 : ((ly.drop off).take sz).length = sz := by rw [List.length_take]; omega
                  rw [e1, e2] at hq
                  obtain ⟨p, q, hp, hq', rfl⟩ := eqCells_app _ _ _ _ _ _ _ (by rw [l1, hsz]) (by rw [l2, hsz]) hq
                  have hrs : (sizeOf g.type).run P w = .ok sz w := by simp [sizeOf, typeInfo, Sem.run_bind, Result.andThen, hi1, hs1]
                  have hra : (isAgg g.type).run P w = .ok ag w := by
                    rw [hs2]
                    cases dd <;> simp [isAgg, underlying, Sem.run_bind, Result.andThen, hi2, isAggD]
                  -- the two parts as values
                  have hval : ∀ (l : List CV), l.length = sz → ∃ av, ofCells ag l = some av ∧ av.cells = l ∧ (match av with | .agg _ => true | .one _ => false) = ag := by
                    intro l hl
                    cases ag with
                    | true => exact ⟨.agg l, rfl, rfl, rfl⟩
                    | false =>
                      have h1 : sz = 1 := by
                        rcases flatK_agg hka with ⟨k, rfl, _⟩ | ⟨e', fs', _, hun', _, _⟩
                        · simpa using hsz.symm
                        · rw [hi2] at hun'
                          simp only [Option.some.injEq] at hun'
                          subst hun'
                          simp [isAggD] at hs2
                      match l, hl with
                      | [x], _ => exact ⟨.one x, rfl, rfl, rfl⟩
                      | [], hl => simp at hl; omega
                      | _ :: _ :: _, hl => simp at hl; omega
                  obtain ⟨ax, hax, hcx, hgx⟩ := hval _ l1
                  obtain ⟨ay, hay, hcy, hgy⟩ := hval _ l2
                  obtain ⟨u1, hu1, hu2⟩ := part_ok hx w hrs hra l1 hax
                  obtain ⟨v1, hv1, hv2⟩ := part_ok hy w hrs hra l2 hay
                  have heq := ih g.type ka hka D (by omega) ax ay u1 v1 p (by rw [hgx]; exact hra) (by
                    clear hu1 hv1 hu2 hv2 hp hq hq' ih ihf hra hrs e1 e2 l1 l2 hx hy he hax hay hcx hcy
                    cases ax <;> cases ay
                    · trivial
                    · rw [← hgy] at hgx; cases hgx
                    · rw [← hgy] at hgx; cases hgx
                    · trivial) hu2 hv2 (by rw [hcx, hcy]; exact hp)
                  rw [← hoff] at hu1 hv1
                  have hne := hc.1
                  rw [Op.eqFields, if_pos hne, Sem.run_bind, hu1, Result.andThen_ok, Sem.run_bind, hv1, Result.andThen_ok, Sem.run_bind, heq, Result.andThen_ok]
                  cases p with
                  | true => rw [if_neg (by simp), Bool.true_and]; exact ihf (off + sz) kb q hkb hq'
                  | false => rw [if_pos (by simp), Bool.false_and]; rfl
                · cases hk
              · cases hk
          exact key fs.toList 0 ks r hgo (by simpa using he)

end Go.Proofs.YtpidkmegakdohaaGreat.Kn
