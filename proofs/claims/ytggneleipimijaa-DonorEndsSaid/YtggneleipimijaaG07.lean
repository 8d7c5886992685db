/- Texts put together: F5, F6, F7, F8, F9, F10, F11. -/
import Derived.Test.YtggneleipimijaaG06
import Derived.DataElems
import Derived.ChangeShapes
import Derived.DataReads
/- The engine, part 28: arguments as they are read; a law's end. -/
namespace Go.Proofs.Ytggneleipimijaa.En
open Go
set_option linter.unusedVariables false
set_option linter.unusedSimpArgs false

/-- a cell's shape -/
inductive Sh where
  | bool | int (k : IntKind) | str | sl (sz : Nat) (e : List Sh)

def shapes (P : Program) (rec' : Nat → Option (List Sh)) : List Field → Nat → Option (List Sh)
  | [], _ => some []
  | f :: r, off => match rec' f.type, Nat.beq f.offset off with
    | some a, true => match Nat.beq a.length (P.cellsOf f.type), shapes P rec' r (off + a.length) with
      | true, some b => some (a ++ b)
      | _, _ => none
    | _, _ => none

def shapeOf (P : Program) : Nat → Nat → Option (List Sh)
  | 0, _ => none
  | d + 1, t => match P.underlying t with
    | some .bool => some [.bool]
    | some (.int k) => some [.int k]
    | some .string => some [.str]
    | some (.slice e) => match shapeOf P d e with
      | some s => match Nat.beq s.length (P.cellsOf e) && Nat.ble 1 s.length with | true => some [.sl s.length s] | false => none
      | none => none
    | some (.struct fs) => match shapes P (shapeOf P d) fs.toList 0 with
      | some s => match Nat.beq s.length (P.cellsOf t) with | true => some s | false => none
      | none => none
    | _ => none

mutual
def RSh (w : World) : Sh → Value → Prop
  | .bool, v => ∃ b, v = .bool b
  | .int k, v => ∃ n, v = .int k n ∧ k.min ≤ n ∧ n ≤ k.max
  | .str, v => ∃ s, v = .string s ∧ s.size ≤ maxLen
  | .sl sz e, v => v = .slice none 0 0 ∨ ∃ a n cap, v = .slice (some a) n cap ∧ n ≤ cap ∧ cap ≤ maxLen ∧ (0 < n → ∃ k o, a = ⟨k, o, none⟩ ∧ ∀ i, i < n → RShs w e k (o + i * sz))
def RShs (w : World) : List Sh → Nat → Nat → Prop
  | [], _, _ => True
  | s :: r, k, o => (∃ u, w.cell? ⟨k, o, none⟩ = some u ∧ RSh w s u) ∧ RShs w r k (o + 1)
end

def RShl (w : World) : List Sh → List Value → Prop
  | [], [] => True
  | s :: r, v :: vs => RSh w s v ∧ RShl w r vs
  | _, _ => False

theorem RShl.append {w : World} : ∀ {a b : List Sh} {u v : List Value}, RShl w a u → RShl w b v → RShl w (a ++ b) (u ++ v)
  | [], b, [], v, _, h => h
  | s :: a, b, x :: u, v, h, k => ⟨h.1, RShl.append h.2 k⟩
  | [], _, _ :: _, _, h, _ => h.elim
  | _ :: _, _, [], _, h, _ => h.elim

theorem RShl.len {w : World} : ∀ {a : List Sh} {u : List Value}, RShl w a u → u.length = a.length
  | [], [], _ => rfl
  | _ :: a, _ :: u, h => by simp [RShl.len h.2]
  | [], _ :: _, h => h.elim
  | _ :: _, [], h => h.elim

theorem RShs.of {w : World} {k : Nat} : ∀ {a : List Sh} {u : List Value} {o : Nat}, RShl w a u → (∀ j v, u[j]? = some v → w.cell? ⟨k, o + j, none⟩ = some v) → RShs w a k o
  | [], [], _, _, _ => trivial
  | s :: a, x :: u, o, h, hc => ⟨⟨x, hc 0 x rfl, h.1⟩, RShs.of h.2 fun j v hj => by
      have := hc (j + 1) v (by simpa using hj)
      rw [show o + 1 + j = o + (j + 1) by omega]
      exact this⟩
  | [], _ :: _, _, h, _ => h.elim
  | _ :: _, [], _, h, _ => h.elim

section
variable {H : Type} {enc : TypeId × Value → H} {P : Program} {w : World} {base : Nat} {sp : Nat → Bool} {held : Bool}

omit enc base sp held in
theorem shapes_read {cs : List Value} {rec' : Nat → Option (List Sh)} : ∀ (fs : List Field) (off : Nat) (ss : List Sh), shapes P rec' fs off = some ss →
    (∀ f ∈ fs, ∀ ss, rec' f.type = some ss → RShl w ss ((cs.drop f.offset).take (P.cellsOf f.type))) → RShl w ss ((cs.drop off).take ss.length)
  | [], off, ss, h, _ => by
    simp only [shapes, Option.some.injEq] at h
    subst h
    simp [RShl]
  | f :: r, off, ss, h, hf => by
    simp only [shapes] at h
    split at h
    · rename_i a h1 h2
      split at h
      · rename_i b h3 h4
        simp only [Option.some.injEq] at h
        subst h
        have e1 := nbeq h2
        have e2 := nbeq h3
        have k1 := hf f (List.mem_cons_self ..) a h1
        rw [e1, ← e2] at k1
        have k2 := shapes_read r (off + a.length) b h4 fun g hg => hf g (List.mem_cons_of_mem _ hg)
        rw [List.length_append, List.take_add, List.drop_drop]
        exact k1.append k2
      · cases h
    · cases h

theorem shape_read : ∀ (d : Nat) (t : Nat) (ss : List Sh), shapeOf P d t = some ss → ∀ (fuel : Nat) (cs : List Value) (x : DataW H × List MemPlace), DataW.trod enc P w base sp held fuel t cs = some x → RShl w ss cs
  | 0, t, ss, h, _, _, _, _ => by cases h
  | d + 1, t, ss, h, fuel, cs, x, hx => by
    cases fuel with
    | zero => cases hx
    | succ fuel =>
      simp only [shapeOf] at h
      split at h
      · rename_i hu
        simp only [Option.some.injEq] at h
        subst h
        unfold DataW.trod at hx
        rw [hu] at hx
        split at hx <;> first | (rename_i heq; cases heq; done) | (cases hx; done) | skip
        exact ⟨⟨_, rfl⟩, trivial⟩
      · rename_i k hu
        simp only [Option.some.injEq] at h
        subst h
        unfold DataW.trod at hx
        rw [hu] at hx
        split at hx <;> first | (rename_i heq; cases heq; done) | (cases hx; done) | skip
        rename_i heq
        simp only [Option.some.injEq, TypeDesc.int.injEq] at heq
        subst heq
        split at hx
        · rename_i hk
          obtain ⟨rfl, hw⟩ := hk
          simp only [Lit.wf, Bool.and_eq_true, decide_eq_true_eq] at hw
          exact ⟨⟨_, rfl, hw.1, hw.2⟩, trivial⟩
        · cases hx
      · rename_i hu
        simp only [Option.some.injEq] at h
        subst h
        unfold DataW.trod at hx
        rw [hu] at hx
        split at hx <;> first | (rename_i heq; cases heq; done) | (cases hx; done) | skip
        rename_i heq
        split at hx
        · rename_i hs
          exact ⟨⟨_, rfl, hs⟩, trivial⟩
        · cases hx
      · rename_i e hu
        split at h
        · rename_i s hs
          split at h
          · rename_i hb
            rw [Bool.and_eq_true] at hb
            have hl := nbeq hb.1
            have h1 := nble hb.2
            simp only [Option.some.injEq] at h
            subst h
            unfold DataW.trod at hx
            rw [hu] at hx
            split at hx <;> first | (rename_i heq; cases heq; done) | (cases hx; done) | skip
            · exact ⟨.inl rfl, trivial⟩
            · rename_i e' a len cap heq
              simp only [Option.some.injEq, TypeDesc.slice.injEq] at heq
              subst heq
              dsimp only at hx
              split at hx
              · rename_i hc
                obtain ⟨_, c2, c3⟩ := hc
                obtain ⟨elems, he, _⟩ := Option.bind_eq_some_iff.1 hx
                refine ⟨.inr ⟨a, len, cap, rfl, c2, c3, fun hpos => ?_⟩, trivial⟩
                have at' : ∀ i, i < len → ∃ cs y, cs.length = P.cellsOf e ∧ (∀ j, j < P.cellsOf e → w.cell? ((a.add (i * P.cellsOf e)).add j) = cs[j]?) ∧ DataW.trod enc P w base sp held fuel e cs = some y := fun i hi => by
                  obtain ⟨y, hy⟩ : ∃ y, (w.cells? base (a.add (i * P.cellsOf e)) (P.cellsOf e)).bind (DataW.trod enc P w base sp held fuel e) = some y := by
                    have h1 := mapM_some_get he i i (by rw [List.getElem?_range hi])
                    have h2 := mapM_some_length he
                    rw [List.getElem?_eq_getElem (by rw [h2]; simpa using hi)] at h1
                    exact ⟨_, h1⟩
                  obtain ⟨cs, h2, h3⟩ := Option.bind_eq_some_iff.1 hy
                  obtain ⟨_, h4, h5⟩ := World.cells?_some h2
                  exact ⟨cs, y, h4, h5, h3⟩
                have hsp : a.spot = none := by
                  obtain ⟨cs, y, h4, h5, _⟩ := at' 0 hpos
                  have := h5 0 (by omega)
                  rw [List.getElem?_eq_getElem (by omega)] at this
                  have e0 : (a.add (0 * P.cellsOf e)).add 0 = a := by simp [Addr.add]
                  rw [e0] at this
                  exact World.cell?_spot this
                obtain ⟨k, o, q⟩ := a
                simp only at hsp
                subst hsp
                refine ⟨k, o, rfl, fun i hi => ?_⟩
                obtain ⟨cs, y, h4, h5, h6⟩ := at' i hi
                refine RShs.of (shape_read d e s hs fuel cs y h6) fun j v hj => ?_
                have hjlt := (List.getElem?_eq_some_iff.1 hj).1
                have := h5 j (by omega)
                rw [hj, Addr.add_add] at this
                rw [← this, show o + i * s.length + j = o + (i * P.cellsOf e + j) by rw [hl]; omega]
                generalize i * P.cellsOf e + j = q
                unfold Addr.add
                split
                · rename_i h0; subst h0; rfl
                · rfl
              · cases hx
          · cases h
        · cases h
      · rename_i fs hu
        split at h
        · rename_i s hs
          split at h
          · rename_i hb
            have hl := nbeq hb
            simp only [Option.some.injEq] at h
            subst h
            unfold DataW.trod at hx
            rw [hu] at hx
            split at hx <;> first | (rename_i heq; cases heq; done) | (cases hx; done) | (exfalso; simp_all; done) | skip
            rename_i cs1 x1 cs2 fs' heq
            simp only [Option.some.injEq, TypeDesc.struct.injEq] at heq
            subst heq
            split at hx
            · rename_i hlen
              obtain ⟨xs, hxs, _⟩ := Option.map_eq_some_iff.1 hx
              have := shapes_read (P := P) (w := w) (cs := cs1) (rec' := shapeOf P d) fs.toList 0 s hs fun f hf ss hss => by
                obtain ⟨i, hi⟩ := List.mem_iff_getElem?.1 hf
                have h1 := mapM_some_get hxs i f hi
                have h2 := mapM_some_length hxs
                have hlt := (List.getElem?_eq_some_iff.1 hi).1
                rw [List.getElem?_eq_getElem (by rw [h2]; exact hlt)] at h1
                exact shape_read d f.type ss hss fuel _ _ h1
              rw [List.drop_zero, hl, ← hlen, List.take_length] at this
              exact this
            · cases hx
          · cases h
        · cases h
      · cases h
end

end Go.Proofs.Ytggneleipimijaa.En
/- The engine, part 29: slices that came in; a law's end. -/
namespace Go.Proofs.Ytggneleipimijaa.En
open Go
set_option linter.unusedVariables false
set_option linter.unusedSimpArgs false

/-- all that there is -/
def zAll (w : World) : Z := fun k o => w.cell? ⟨k, o, none⟩

theorem slice_arg {w : World} {sz : Nat} {ss : List Sh} {α : Type} [Inhabited α] {fs : α → List FV} (hfs : ∀ a, (fs a).length = sz)
    (hx : ∀ k o, RShs w ss k o → ∃ a : α, ∀ (j : Nat) y, (fs a)[j]? = some y → ∃ u, w.cell? ⟨k, o + j, none⟩ = some u ∧ RF (zAll w) y u)
    {v : Value} (h : RSh w (.sl sz ss) v) : ∃ nl n, ∃ x : Nat → α, RF (zAll w) (.fs nl sz n fun i => fs (x i)) v ∧ (nl = true → n = 0) ∧ n ≤ maxLen ∧ (∃ a cap, v = .slice a n cap) := by
  simp only [RSh] at h
  rcases h with rfl | ⟨a, n, cap, rfl, h1, h2, h3⟩
  · exact ⟨true, 0, fun _ => default, .fsn _ _, fun _ => rfl, Nat.zero_le _, _, _, rfl⟩
  · rcases Nat.eq_zero_or_pos n with rfl | hpos
    · exact ⟨false, 0, fun _ => default, .fs0 _ _ _ _, (fun h => by cases h), Nat.zero_le _, _, _, rfl⟩
    · obtain ⟨k, o, rfl, hs⟩ := h3 hpos
      have hc : ∀ i, i < n → ∃ a : α, ∀ (j : Nat) y, (fs a)[j]? = some y → ∃ u, w.cell? ⟨k, o + i * sz + j, none⟩ = some u ∧ RF (zAll w) y u := fun i hi => hx k (o + i * sz) (hs i hi)
      refine ⟨false, n, fun i => if hi : i < n then Classical.choose (hc i hi) else default, ?_, (fun h => by cases h), by omega, _, _, rfl⟩
      have key : ∀ i j, i < n → j < sz → ∃ u, w.cell? ⟨k, o + (i * sz + j), none⟩ = some u ∧ u.oneCell' = true ∧
          ∀ y, (fs (if hi : i < n then Classical.choose (hc i hi) else default))[j]? = some y → RF (zAll w) y u := fun i j hi hj => by
        have hcs := Classical.choose_spec (hc i hi)
        rw [dif_pos hi]
        have hlt : j < (fs (Classical.choose (hc i hi))).length := by rw [hfs]; exact hj
        obtain ⟨u, h4, h5⟩ := hcs j _ (List.getElem?_eq_getElem hlt)
        refine ⟨u, by rw [← Nat.add_assoc]; exact h4, h5.one, fun y hy => ?_⟩
        rw [List.getElem?_eq_getElem hlt] at hy
        simp only [Option.some.injEq] at hy
        rw [← hy]; exact h5
      refine .fss sz n _ k o cap (fun i j => ((w.cell? ⟨k, o + (i * sz + j), none⟩).getD undef)) h1 (fun i j hi hj => ?_) (fun i j x hi hj hx' => ?_) (fun i j hi hj => ?_)
      · obtain ⟨u, h4, _, _⟩ := key i j hi hj
        simp only [zAll, h4, Option.getD_some]
      · obtain ⟨u, h4, _, h6⟩ := key i j hi hj
        simp only [h4, Option.getD_some]
        exact h6 x hx'
      · obtain ⟨u, h4, h5, _⟩ := key i j hi hj
        simp only [h4, Option.getD_some]
        exact h5

/-- a law that comes to true -/
theorem law_true {P : Program} {G : Ctx} (hG : CtxOk P G) (hK : KnownOk P G) {wr : List Nat} {n g : Nat} {args : List AV} {w : World} {vs : Array Value} (ha : RAs noFn 0 (zAll w) args vs.toList)
    (h : (evCallW wr G n g args [] 0).res = some (out0 (.v (AB true)))) :
    Calls P g vs w fun e w' => e = .returned (.bool true) ∧ Go.RowKit.Below w.heap.size w w' := by
  refine evCallW_ok hG hK h noFn (zAll w) w vs (Rel.seen ⟨fun k o v h => h⟩) ha _ fun f' z' w' v' hp hv' => ⟨?_, hp.below⟩
  rw [lit_ok hv']

end Go.Proofs.Ytggneleipimijaa.En
/- The engine, part 30: an own row of elements that is never written any more. -/
namespace Go.Proofs.Ytggneleipimijaa.En
open Go
set_option linter.unusedVariables false
set_option linter.unusedSimpArgs false

/-- what becomes of slices over block b -/
abbrev FrzF := Bool → Nat → Nat → Nat → Nat → Nat → T CV

def CV.frz (b : Nat) (k : FrzF) (x : CV) : T CV :=
  match x with
  | .f x => .ret (.f x)
  | .ptr c m i j => match Nat.beq c b with | true => .bad | false => .ret (.ptr c m i j)
  | .sl nil c m i j len cap ex z => match Nat.beq c b with
    | false => .ret (.sl nil c m i j len cap ex z)
    | true => k nil m i j len z
  | .mp c => match Nat.beq c b with | true => .bad | false => .ret (.mp c)
  | .fn g l => match l.any fun x => Nat.beq x.1 b with | true => .bad | false => .ret (.fn g l)

/-- block b is a row of n elements -/
def kArr (live : Bool) (sz n : Nat) (e : Nat → List FV) : FrzF := fun nil m i j len z =>
  match Nat.beq m sz && Nat.beq z sz && Nat.beq j 0 && Nat.beq i 0 with
  | true => .need (Nat.ble len n && (live || Nat.beq len 0)) (.ret (.f (.fs nil sz len e)))
  | false => .bad

/-- block b is cells in a row -/
def kCells (l : List FV) : FrzF := fun nil m i j len z =>
  match Nat.beq m 0 && Nat.beq j 0 && Nat.beq i 0 && Nat.ble (len * z) l.length with
  | true => .ret (.f (.fs nil z len (selL (chunks z len l))))
  | false => .bad

def mapT {α β : Type} (k : α → T β) : List α → T (List β)
  | [] => .ret []
  | x :: r => (k x).bind fun y => (mapT k r).bind fun l => .ret (y :: l)

def AV.frz (b : Nat) (k : FrzF) : AV → T AV
  | .one x => (x.frz b k).bind fun y => .ret (.one y)
  | .agg l => (mapT (CV.frz b k) l).bind fun l => .ret (.agg l)

def SV.frz (b : Nat) (k : FrzF) : SV → T SV
  | .v x => (x.frz b k).bind fun y => .ret (.v y)
  | .tup l => (mapT (AV.frz b k) l).bind fun l => .ret (.tup l)
  | .top => .ret .top

def Ob.frz (b : Nat) (k : FrzF) : Ob → T Ob
  | .cells l => (mapT (CV.frz b k) l).bind fun l => .ret (.cells l)
  | o => .ret o

def frzH (b : Nat) (k : FrzF) : Heap → T Heap
  | [] => .ret []
  | (c, o) :: r => match Nat.beq c b with
    | true => (frzH b k r).bind fun r => .ret ((c, .dead) :: r)
    | false => (o.frz b k).bind fun o => (frzH b k r).bind fun r => .ret ((c, o) :: r)

def frzSl (b : Nat) (k : FrzF) : Slots → T Slots
  | [] => .ret []
  | (c, v) :: r => (v.frz b k).bind fun v => (frzSl b k r).bind fun r => .ret ((c, v) :: r)

/-- blocks that are pointed at -/
def CV.ptrs : CV → List Nat
  | .ptr b _ _ _ => [b]
  | .fn _ l => l.map (·.1)
  | _ => []
def Ob.ptrs : Ob → List Nat
  | .cells l => l.flatMap CV.ptrs
  | _ => []
def SV.ptrs : SV → List Nat
  | .v a => a.cells.flatMap CV.ptrs
  | .tup l => l.flatMap fun a => a.cells.flatMap CV.ptrs
  | .top => []

def frzSt (b : Nat) (s : St) : T St :=
  match s.H.get b with
  | .arr live sz n e => (frzSl b (kArr live sz n e) s.sl).bind fun sl => (frzH b (kArr live sz n e) s.H).bind fun H => .ret { s with sl := sl, H := H }
  | .cells l => match fvs? l, s.H.any (fun e => e.2.ptrs.any (Nat.beq b)) || s.sl.any (fun x => x.2.ptrs.any (Nat.beq b)) with
    | some fs, false => (frzSl b (kCells fs) s.sl).bind fun sl => (frzH b (kCells fs) s.H).bind fun H => .ret { s with sl := sl, H := H }
    | _, _ => .ret s
  | _ => .ret s

section
variable {f : Fn} {nx : Nat} {z : Z} {w : World} {H : Heap} {b : Nat} {k : FrzF}

/-- what is never written now -/
noncomputable def zFrz (f : Fn) (z : Z) (w : World) (H : Heap) (b : Nat) : Z := fun c p => @ite _ ((H.get b).live ∧ c = (f b).k ∧ (f b).d ≤ p ∧ p < (f b).d + (f b).t) (Classical.propDecidable _) (w.cell? ⟨c, p, none⟩) (z c p)

theorem zFrz_in {c p : Nat} (h : (H.get b).live ∧ c = (f b).k ∧ (f b).d ≤ p ∧ p < (f b).d + (f b).t) : zFrz f z w H b c p = w.cell? ⟨c, p, none⟩ := by
  unfold zFrz; rw [if_pos h]

theorem zFrz_out {c p : Nat} (h : ¬ ((H.get b).live ∧ c = (f b).k)) : zFrz f z w H b c p = z c p := by
  unfold zFrz; rw [if_neg fun hh => h ⟨hh.1, hh.2.1⟩]

theorem zFrz_some {c p : Nat} {v : Value} (h : zFrz f z w H b c p = some v) : ((H.get b).live ∧ c = (f b).k ∧ w.cell? ⟨c, p, none⟩ = some v) ∨ z c p = some v := by
  unfold zFrz at h
  split at h
  · rename_i hh; exact .inl ⟨hh.1, hh.2.1, h⟩
  · exact .inr h

theorem zFrz_le (hr : Rel All f nx z w H) : z.le (zFrz f z w H b) := by
  intro c o v hv
  by_cases h : (H.get b).live ∧ c = (f b).k
  · obtain ⟨h1, rfl⟩ := h
    have := (hr.own b trivial h1).2.own o
    rw [this] at hv; cases hv
  · rw [zFrz_out h]; exact hv

/-- slices over block b may be told so -/
def KOk (f : Fn) (nx : Nat) (z : Z) (w : World) (H : Heap) (b : Nat) (k : FrzF) : Prop :=
  ∀ nil m i j len cap ex zz v y, RC f nx z (.sl nil b m i j len cap ex zz) v → (k nil m i j len zz).res = some y → RC f nx (zFrz f z w H b) y v ∧ y.refs = []

/-- a slice whose cells are at the block's begin -/
theorem fs_of (hr : Rel All f nx z w H) {nil : Bool} {m i j len cap zz : Nat} {ex : Bool} {v : Value} {e : Nat → List FV} (h0 : i * m + j = 0) (hx : RC f nx z (.sl nil b m i j len cap ex zz) v) (hl : (H.get b).live ∨ len = 0)
    (he : (H.get b).live → ∀ t q x, t < len → q < zz → (e t)[q]? = some x → ∃ m' i' j', i' * m' + j' = t * zz + q ∧ (H.get b).at m' i' j' = some (.f x)) : RF (zFrz f z w H b) (.fs nil zz len e) v := by
  have hle : z.le (zFrz f z w H b) := zFrz_le hr
  obtain ⟨_, hx1, hx2⟩ := hx
  cases nil with
  | true =>
    obtain ⟨rfl, _, rfl⟩ := hx1 rfl
    exact RF.fsn _ _
  | false =>
    obtain ⟨cap', rfl, q1, q2, q3, q4⟩ := hx2 rfl
    rcases Nat.eq_zero_or_pos len with rfl | hpos
    · exact RF.fs0 _ _ _ _
    · have hl : (H.get b).live := hl.resolve_right (by omega)
      obtain ⟨_, hok⟩ := hr.own b trivial hl
      have room : ∀ t q, t < len → q < zz → t * zz + q < (f b).t := fun t q ht hq => by
        have : (t + 1) * zz ≤ cap' * zz := Nat.mul_le_mul_right _ (by omega)
        rw [Nat.add_mul] at this
        omega
      have key : ∀ t q, t < len → q < zz → ∃ u, w.cell? ⟨(f b).k, (f b).d + (t * zz + q), none⟩ = some u ∧ u.oneCell' = true ∧ ∀ x, (e t)[q]? = some x → RF z x u := fun t q ht hq => by
        obtain ⟨u, hu, h1⟩ := (hok.room _ (room t q ht hq)).1
        refine ⟨u, hu, h1, fun x hx => ?_⟩
        obtain ⟨m', i', j', e1, e2⟩ := he hl t q x ht hq hx
        obtain ⟨_, u', hu', hc⟩ := hok.cell m' i' j' (.f x) e2
        simp only [ad, e1] at hu'
        rw [hu] at hu'
        simp only [Option.some.injEq] at hu'
        subst hu'
        exact hc
      have had : ad f b m i j = ⟨(f b).k, (f b).d, none⟩ := by simp [ad, h0]
      rw [had]
      refine RF.fss zz len e (f b).k (f b).d cap' (fun t q => (w.cell? ⟨(f b).k, (f b).d + (t * zz + q), none⟩).getD undef) q1 (fun t q ht hq => ?_) (fun t q x ht hq hx => ?_) (fun t q ht hq => ?_)
      · obtain ⟨u, hu, _, _⟩ := key t q ht hq
        have h6 := room t q ht hq
        rw [zFrz_in ⟨hl, rfl, by omega, by omega⟩, hu]
        rfl
      · obtain ⟨u, hu, _, h3⟩ := key t q ht hq
        simp only [hu, Option.getD_some]
        exact (h3 x hx).mono hle
      · obtain ⟨u, hu, h1, _⟩ := key t q ht hq
        simp only [hu, Option.getD_some]
        exact h1

theorem kArr_ok {live : Bool} {sz n : Nat} {e : Nat → List FV} (hr : Rel All f nx z w H) (hb : H.get b = .arr live sz n e) : KOk f nx z w H b (kArr live sz n e) := by
  intro nil m i j len cap ex zz v y hx h
  unfold kArr at h
  split at h
  · rename_i hc
    simp only [Bool.and_eq_true] at hc
    obtain ⟨⟨⟨h1, h2⟩, h3⟩, h4⟩ := hc
    have h1 := nbeq h1
    have h2 := nbeq h2
    have h3 := nbeq h3
    have h4 := nbeq h4
    obtain ⟨hn, hret⟩ := T.need_some h
    have := T.ret_some hret
    subst this
    rw [Bool.and_eq_true, Bool.or_eq_true] at hn
    obtain ⟨n1, n2⟩ := hn
    have n1 := nble n1
    subst h3 h4
    rw [← h2]
    refine ⟨fs_of hr (by simp) hx ?_ fun hl t q x ht hq hx => ?_, rfl⟩
    · rcases n2 with n2 | n2
      · exact .inl (by rw [hb]; exact n2)
      · exact .inr (nbeq n2)
    · rw [hb] at hl
      refine ⟨sz, t, q, by rw [h2], ?_⟩
      rw [hb]
      simp only [Ob.at]
      rw [if_pos ⟨hl, trivial, by omega, by omega⟩, hx]
      rfl
  · exact (T.bad_some h).elim

theorem kCells_ok {l : List CV} {fs : List FV} (hr : Rel All f nx z w H) (hb : H.get b = .cells l) (hf : fvs? l = some fs) : KOk f nx z w H b (kCells fs) := by
  intro nil m i j len cap ex zz v y hx h
  unfold kCells at h
  split at h
  · rename_i hc
    simp only [Bool.and_eq_true] at hc
    obtain ⟨⟨⟨h1, h2⟩, h3⟩, h4⟩ := hc
    have h1 := nbeq h1
    have h2 := nbeq h2
    have h3 := nbeq h3
    have h4 := nble h4
    have := T.ret_some h
    subst this
    subst h1 h2 h3
    have hfv := fvs?_eq _ _ hf
    refine ⟨fs_of hr (by simp) hx (.inl (by rw [hb]; trivial)) fun hl t q x ht hq hx => ?_, rfl⟩
    rw [selL_chunks len fs t ht] at hx
    simp only [chop, List.getElem?_take] at hx
    rw [if_pos hq, List.getElem?_drop] at hx
    refine ⟨0, 0, t * zz + q, by simp, ?_⟩
    rw [hb]
    simp only [Ob.at]
    rw [if_pos ⟨trivial, trivial⟩, hfv, List.getElem?_map, hx]
    rfl
  · exact (T.bad_some h).elim

theorem CV.frz_ok (hr : Rel All f nx z w H) (hk : KOk f nx z w H b k) {x y : CV} {v : Value} (hx : RC f nx z x v) (h : (x.frz b k).res = some y) : RC f nx (zFrz f z w H b) y v ∧ ∀ c ∈ y.refs, c ∈ x.refs ∧ c ≠ b := by
  have hle : z.le (zFrz f z w H b) := zFrz_le hr
  have mono := RC.mono (f := f) (f' := f) (fun _ _ => rfl) (Nat.le_refl nx) hle hx
  unfold CV.frz at h
  split at h
  · have := T.ret_some h; subst this; exact ⟨mono, fun c hc => by simp [CV.refs] at hc⟩
  · split at h
    · exact (T.bad_some h).elim
    · rename_i hne
      have := T.ret_some h; subst this
      refine ⟨mono, fun c hc => ⟨hc, ?_⟩⟩
      simp only [CV.refs, List.mem_singleton] at hc
      subst hc
      rintro rfl
      simp at hne
  · rename_i nil c m i j len cap ex zz
    split at h
    · rename_i hne
      have := T.ret_some h; subst this
      refine ⟨mono, fun d hd => ⟨hd, ?_⟩⟩
      simp only [CV.refs, List.mem_singleton] at hd
      subst hd
      rintro rfl
      simp at hne
    · rename_i heq
      have := nbeq heq
      subst this
      obtain ⟨h1, h2⟩ := hk _ _ _ _ _ _ _ _ _ _ hx h
      exact ⟨h1, fun c hc => by rw [h2] at hc; cases hc⟩
  · split at h
    · exact (T.bad_some h).elim
    · rename_i hne
      have := T.ret_some h; subst this
      refine ⟨mono, fun c hc => ⟨hc, ?_⟩⟩
      simp only [CV.refs, List.mem_singleton] at hc
      subst hc
      rintro rfl
      simp at hne
  · split at h
    · exact (T.bad_some h).elim
    · rename_i g l hne
      have := T.ret_some h; subst this
      refine ⟨mono, fun c hc => ⟨hc, ?_⟩⟩
      simp only [CV.refs, List.mem_map] at hc
      obtain ⟨y, hy, rfl⟩ := hc
      rintro rfl
      simp only [List.any_eq_false] at hne
      exact hne y hy (Nat.beq_refl _)

theorem mapT_some {α β : Type} {k : α → T β} : ∀ (l : List α) (r : List β), (mapT k l).res = some r → l.length = r.length ∧ ∀ (i : Nat) x y, l[i]? = some x → r[i]? = some y → (k x).res = some y
  | [], r, h => by
    have := T.ret_some h
    subst this
    exact ⟨rfl, fun i x y hx => by simp at hx⟩
  | x :: l, r, h => by
    obtain ⟨y, h1, h2⟩ := T.bind_some h
    obtain ⟨q, h3, h4⟩ := T.bind_some h2
    have := T.ret_some h4
    subst this
    obtain ⟨i1, i2⟩ := mapT_some l q h3
    refine ⟨by simp [i1], fun i u v hu hv => ?_⟩
    cases i with
    | zero => simp only [List.getElem?_cons_zero, Option.some.injEq] at hu hv; subst hu hv; exact h1
    | succ i => exact i2 i u v (by simpa using hu) (by simpa using hv)

theorem RL.frz (hr : Rel All f nx z w H) (hk : KOk f nx z w H b k) {l r : List CV} {vs : List Value} (hl : RL f nx z l vs) (h : (mapT (CV.frz b k) l).res = some r) : RL f nx (zFrz f z w H b) r vs := by
  obtain ⟨h1, h2⟩ := mapT_some l r h
  refine ⟨by rw [← h1, hl.1], fun i y v hy hv => ?_⟩
  have hlt : i < l.length := by rw [h1]; exact (List.getElem?_eq_some_iff.1 hy).1
  exact (CV.frz_ok hr hk (hl.2 i _ v (List.getElem?_eq_getElem hlt) hv) (h2 i _ y (List.getElem?_eq_getElem hlt) hy)).1

theorem RA.frz (hr : Rel All f nx z w H) (hk : KOk f nx z w H b k) {x y : AV} {v : Value} (hx : RA f nx z x v) (h : (x.frz b k).res = some y) : RA f nx (zFrz f z w H b) y v := by
  cases x with
  | one x =>
    obtain ⟨q, h1, h2⟩ := T.bind_some h
    have := T.ret_some h2
    subst this
    exact (CV.frz_ok hr hk hx h1).1
  | agg l =>
    obtain ⟨q, h1, h2⟩ := T.bind_some h
    have := T.ret_some h2
    subst this
    obtain ⟨cs, rfl, hl⟩ := hx
    exact ⟨cs, rfl, hl.frz hr hk h1⟩

theorem RS.frz (hr : Rel All f nx z w H) (hk : KOk f nx z w H b k) {x y : SV} {v : Value} (hx : RS f nx z x v) (h : (x.frz b k).res = some y) : RS f nx (zFrz f z w H b) y v := by
  cases x with
  | v x =>
    obtain ⟨q, h1, h2⟩ := T.bind_some h
    have := T.ret_some h2
    subst this
    exact RA.frz hr hk hx h1
  | tup l =>
    obtain ⟨q, h1, h2⟩ := T.bind_some h
    have := T.ret_some h2
    subst this
    obtain ⟨vs, rfl, hl⟩ := hx
    obtain ⟨k1, k2⟩ := mapT_some l q h1
    refine ⟨vs, rfl, by rw [← k1, hl.1], fun i y v hy hv => ?_⟩
    have hlt : i < l.length := by rw [k1]; exact (List.getElem?_eq_some_iff.1 hy).1
    exact RA.frz hr hk (hl.2 i _ v (List.getElem?_eq_getElem hlt) hv) (k2 i _ y (List.getElem?_eq_getElem hlt) hy)
  | top =>
    have := T.ret_some h
    subst this
    trivial

theorem frzSl_some : ∀ (s r : Slots), (frzSl b k s).res = some r → ∀ t, (s.get t = .top ∧ r.get t = .top) ∨ ((s.get t).frz b k).res = some (r.get t)
  | [], r, h, t => by
    have := T.ret_some h
    subst this
    exact .inl ⟨rfl, rfl⟩
  | (d, v) :: s, r, h, t => by
    obtain ⟨v', h1, h2⟩ := T.bind_some h
    obtain ⟨r', h3, h4⟩ := T.bind_some h2
    have := T.ret_some h4
    subst this
    rw [Slots.get_cons, Slots.get_cons]
    by_cases ek : d = t
    · rw [if_pos ek, if_pos ek]; exact .inr h1
    · rw [if_neg ek, if_neg ek]; exact frzSl_some s r' h3 t

theorem frzH_some : ∀ (H R : Heap), (frzH b k H).res = some R → ∀ c, (c = b ∧ R.get c = .dead) ∨ (c ≠ b ∧ H.get c = .dead ∧ R.get c = .dead) ∨ (c ≠ b ∧ ((H.get c).frz b k).res = some (R.get c))
  | [], R, h, c => by
    have := T.ret_some h
    subst this
    by_cases ec : c = b
    · exact .inl ⟨ec, rfl⟩
    · exact .inr (.inl ⟨ec, rfl, rfl⟩)
  | (d, o) :: H, R, h, c => by
    simp only [frzH] at h
    split at h
    · rename_i hk
      have hk := nbeq hk
      obtain ⟨R', h1, h2⟩ := T.bind_some h
      have := T.ret_some h2
      subst this
      rw [Heap.get_cons, Heap.get_cons]
      by_cases ek : d = c
      · rw [if_pos ek, if_pos ek]; exact .inl ⟨by rw [← ek, hk], rfl⟩
      · rw [if_neg ek, if_neg ek]; exact frzH_some H R' h1 c
    · rename_i hk
      have hk : d ≠ b := fun e => by subst e; simp at hk
      obtain ⟨o', h1, h2⟩ := T.bind_some h
      obtain ⟨R', h3, h4⟩ := T.bind_some h2
      have := T.ret_some h4
      subst this
      rw [Heap.get_cons, Heap.get_cons]
      by_cases ek : d = c
      · rw [if_pos ek, if_pos ek]; exact .inr (.inr ⟨by rw [← ek]; exact hk, h1⟩)
      · rw [if_neg ek, if_neg ek]; exact frzH_some H R' h3 c

theorem Ob.frz_live {o o' : Ob} (h : (o.frz b k).res = some o') : (o'.live ↔ o.live) ∧ (∀ es, o' = .map es → o = .map es) := by
  cases o with
  | cells l =>
    obtain ⟨q, h1, h2⟩ := T.bind_some h
    have := T.ret_some h2
    subst this
    exact ⟨Iff.rfl, fun es h => by cases h⟩
  | arr => have := T.ret_some h; subst this; exact ⟨Iff.rfl, fun es h => h⟩
  | map => have := T.ret_some h; subst this; exact ⟨Iff.rfl, fun es h => h⟩
  | dead => have := T.ret_some h; subst this; exact ⟨Iff.rfl, fun es h => h⟩

theorem BOk.frz (hr : Rel All f nx z w H) (hk : KOk f nx z w H b k) {c : Nat} {o o' : Ob} (hc : BOk f nx z w c o) (hne : (H.get b).live → (f c).k ≠ (f b).k) (h : (o.frz b k).res = some o') : BOk f nx (zFrz f z w H b) w c o' := by
  have hle : z.le (zFrz f z w H b) := zFrz_le hr
  refine ⟨hc.lt, fun p => ?_, hc.room, fun m i j x hx => ?_, fun es he => hc.map es ((Ob.frz_live h).2 es he)⟩
  · rw [zFrz_out fun hh => hne hh.1 hh.2]
    exact hc.own p
  · cases o with
    | cells l =>
      obtain ⟨q, h1, h2⟩ := T.bind_some h
      have := T.ret_some h2
      subst this
      simp only [Ob.at] at hx
      split at hx
      · rename_i hz
        obtain ⟨k1, k2⟩ := mapT_some l q h1
        have hlt : j < l.length := by rw [k1]; exact (List.getElem?_eq_some_iff.1 hx).1
        obtain ⟨h3, v, h4, h5⟩ := hc.cell m i j l[j] (by simp only [Ob.at]; rw [if_pos hz, List.getElem?_eq_getElem hlt])
        exact ⟨h3, v, h4, (CV.frz_ok hr hk h5 (k2 j _ x (List.getElem?_eq_getElem hlt) hx)).1⟩
      · cases hx
    | arr =>
      have := T.ret_some h
      subst this
      obtain ⟨h3, v, h4, h5⟩ := hc.cell m i j x hx
      exact ⟨h3, v, h4, h5.mono (fun _ _ => rfl) (Nat.le_refl _) hle⟩
    | map => have := T.ret_some h; subst this; cases hx
    | dead => have := T.ret_some h; subst this; cases hx
end

theorem frzAt_ok {m b : Nat} {k : FrzF} {s : St} {sl : Slots} {H : Heap} (hm : m ≤ s.nx) (hK : ∀ f z w, Rel All f s.nx z w s.H → KOk f s.nx z w s.H b k) (h1 : (frzSl b k s.sl).res = some sl) (h3 : (frzH b k s.H).res = some H) : StLe m s { s with sl := sl, H := H } := by
  refine ⟨id, fun f z w a ht hr => ?_⟩
  have hk := hK f z w hr
  have hle : z.le (zFrz f z w s.H b) := zFrz_le hr
  have hR := frzH_some s.H H h3
  -- a block behind it
  have hold : ∀ c, (H.get c).live → c ≠ b ∧ (s.H.get c).live ∧ ((s.H.get c).frz b k).res = some (H.get c) := fun c hl => by
    rcases hR c with ⟨_, h5⟩ | ⟨_, _, h5⟩ | ⟨h5, h6⟩
    · rw [h5] at hl; exact hl.elim
    · rw [h5] at hl; exact hl.elim
    · exact ⟨h5, (Ob.frz_live h6).1.1 hl, h6⟩
  have hown : ∀ c, (H.get c).live → c < s.nx ∧ BOk f s.nx (zFrz f z w s.H b) w c (H.get c) := fun c hl => by
    obtain ⟨h5, h6, h7⟩ := hold c hl
    obtain ⟨h8, h9⟩ := hr.own c trivial h6
    exact ⟨h8, h9.frz hr hk (fun hlv => hr.inj c b trivial trivial h6 hlv h5) h7⟩
  refine ⟨f, zFrz f z w s.H b, fun t => ?_, hm, fun _ _ => rfl, hle, fun c o v hv => ?_, fun _ _ hs => absurd trivial hs, fun c _ hl => (hold c hl).2.1,
    ⟨fun c _ hl => hown c hl, fun c d _ _ hl hl' => hr.inj c d trivial trivial (hold c hl).2.1 (hold d hl').2.1, fun c o v hv => ?_⟩, fun c _ hl => .inr ⟨c, trivial, (hold c hl).2.1, rfl⟩, Fr.refl _ _, fun _ m' hm' hN c l hc hg x hx => ?_⟩
  · rcases frzSl_some s.sl sl h1 t with ⟨_, h5⟩ | h5
    · simp only [h5]; trivial
    · exact RS.frz hr hk (ht t) h5
  · rcases zFrz_some hv with ⟨h5, rfl, _⟩ | h5
    · exact .inr (.inr ⟨b, trivial, h5, rfl⟩)
    · exact .inl h5
  · rcases zFrz_some hv with ⟨_, _, h5⟩ | h5
    · exact h5
    · exact hr.zok c o v h5
  · simp only at hg
    have hl : (H.get c).live := by rw [hg]; trivial
    obtain ⟨h5, h6, h7⟩ := hold c hl
    rw [hg] at h7
    cases ho : s.H.get c with
    | cells l0 =>
      rw [ho] at h7
      obtain ⟨q, h8, h9⟩ := T.bind_some h7
      have := T.ret_some h9
      simp only [Ob.cells.injEq] at this
      subst this
      obtain ⟨k1, k2⟩ := mapT_some l0 q h8
      obtain ⟨i, hi⟩ := List.mem_iff_getElem?.1 hx
      have hlt : i < l0.length := by rw [k1]; exact (List.getElem?_eq_some_iff.1 hi).1
      have hy := beyond_refs.1 (hN c l0 hc ho l0[i] (List.getElem_mem hlt))
      rw [beyond_refs]
      obtain ⟨_, v, _, hv⟩ := (hr.own c trivial h6).2.cell 0 0 i l0[i] (by rw [ho]; simp [Ob.at])
      exact fun d hd => hy d ((CV.frz_ok hr hk hv (k2 i _ x (List.getElem?_eq_getElem hlt) hi)).2 d hd).1
    | arr => rw [ho] at h7; have := T.ret_some h7; cases this
    | map => rw [ho] at h7; have := T.ret_some h7; cases this
    | dead => rw [ho] at h7; have := T.ret_some h7; cases this

theorem frzSt_ok {m b : Nat} {s s' : St} (hm : m ≤ s.nx) (h : (frzSt b s).res = some s') : StLe m s s' := by
  unfold frzSt at h
  split at h
  · rename_i live sz n e hb
    obtain ⟨sl, h1, h2⟩ := T.bind_some h
    obtain ⟨H, h3, h4⟩ := T.bind_some h2
    have := T.ret_some h4
    subst this
    exact frzAt_ok hm (fun f z w hr => kArr_ok hr hb) h1 h3
  · rename_i l hb
    split at h
    · rename_i fs hf _
      obtain ⟨sl, h1, h2⟩ := T.bind_some h
      obtain ⟨H, h3, h4⟩ := T.bind_some h2
      have := T.ret_some h4
      subst this
      exact frzAt_ok hm (fun f z w hr => kCells_ok hr hb hf) h1 h3
    · have := T.ret_some h
      subst this
      exact StLe.refl hm
  · have := T.ret_some h
    subst this
    exact StLe.refl hm

/-- all new rows -/
def frzFrom : Nat → Nat → St → T St
  | 0, _, s => .ret s
  | k + 1, b, s => (frzSt b s).bind fun s => frzFrom k (b + 1) s

theorem frzSt_nx {b : Nat} {s s' : St} (h : (frzSt b s).res = some s') : s'.nx = s.nx := by
  unfold frzSt at h
  split at h
  · obtain ⟨sl, h1, h2⟩ := T.bind_some h
    obtain ⟨H, h3, h4⟩ := T.bind_some h2
    have := T.ret_some h4
    subst this
    rfl
  · split at h
    · obtain ⟨sl, h1, h2⟩ := T.bind_some h
      obtain ⟨H, h3, h4⟩ := T.bind_some h2
      have := T.ret_some h4
      subst this
      rfl
    · have := T.ret_some h
      subst this
      rfl
  · have := T.ret_some h
    subst this
    rfl

theorem frzFrom_ok {m : Nat} : ∀ (k b : Nat) (s s' : St), m ≤ s.nx → (frzFrom k b s).res = some s' → StLe m s s'
  | 0, b, s, s', hm, h => by
    have := T.ret_some h
    subst this
    exact StLe.refl hm
  | k + 1, b, s, s', hm, h => by
    obtain ⟨s1, h1, h2⟩ := T.bind_some h
    have e := frzSt_nx h1
    exact (frzSt_ok hm h1).trans (frzFrom_ok k (b + 1) s1 s' (by omega) h2)

theorem canonSt_nx {m : Nat} {live : List Nat} {s s' : St} (h : canonSt m live s = some s') : m ≤ s'.nx := by
  unfold canonSt at h
  obtain ⟨sl, h1, _⟩ := pruneK_eq (β := Option St) s.sl live
  rw [h1] at h
  dsimp only at h
  split at h
  · simp only [Option.some.injEq] at h
    subst h
    exact Nat.le_add_right _ _
  · cases h

/-- named anew; new rows are never written any more; named anew -/
def canonFz (m : Nat) (live : List Nat) (s : St) : T St :=
  match canonSt m live s with
  | none => .bad
  | some s1 => (frzFrom (s1.nx - m) m s1).bind fun s2 => match canonSt m live s2 with
    | none => .bad
    | some s3 => .ret s3

theorem canonFz_ok {m : Nat} {live : List Nat} {s s' : St} (h : (canonFz m live s).res = some s') : StLe m s s' ∧ m ≤ s'.nx := by
  unfold canonFz at h
  split at h
  · exact (T.bad_some h).elim
  · rename_i s1 h1
    obtain ⟨s2, h2, h3⟩ := T.bind_some h
    split at h3
    · exact (T.bad_some h3).elim
    · rename_i s3 h4
      have := T.ret_some h3
      subst this
      exact ⟨(canonSt_ok h1).trans ((frzFrom_ok _ _ _ _ (canonSt_nx h1) h2).trans (canonSt_ok h4)), canonSt_nx h4⟩

/-- a round, with rows that are never written any more -/
def evRoundZ (G : Ctx) (K F N : Nat) (c : Code) (m : Nat) (live after : List Nat) (st : St) : T (Ex × St) :=
  (ev G noLive K F N c st).bind fun x => (canonFz m (match x.1 with | .normal => live | _ => after) x.2).bind fun s => .ret (x.1, s)

theorem evRoundZ_some {G : Ctx} {K F N : Nat} {c : Code} {m : Nat} {live after : List Nat} {st : St} {e : Ex} {s : St} (h : (evRoundZ G K F N c m live after st).res = some (e, s)) :
    ∃ st1, (ev G noLive K F N c st).res = some (e, st1) ∧ StLe m st1 s := by
  unfold evRoundZ at h
  obtain ⟨⟨e1, st1⟩, h1, h2⟩ := T.bind_some h
  obtain ⟨s2, h3, h4⟩ := T.bind_some h2
  have := T.ret_some h4
  simp only [Prod.mk.injEq] at this
  obtain ⟨rfl, rfl⟩ := this
  exact ⟨st1, h1, (canonFz_ok h3).1⟩

/-- a call's run, its new rows never written any more -/
def evCallZ (wr : List Nat) (G : Ctx) (n g : Nat) (args : List AV) (H : Heap) (nx : Nat) : T CallOut :=
  (evCall G noLive n g args H nx).bind fun o => (canonFz nx [0] o.st).bind fun s => .ret ⟨s.sl.get 0, s.H, s.nx, s.esc, wr⟩

theorem evCallZ_ok {P : Program} {G : Ctx} (hG : CtxOk P G) (hK : KnownOk P G) {wr : List Nat} {n g : Nat} {args : List AV} {H : Heap} {nx : Nat} {r : CallOut} (h : (evCallZ wr G n g args H nx).res = some r) : CallTo P g args H nx r := by
  obtain ⟨o, h1, h2⟩ := T.bind_some h
  obtain ⟨s, h3, h4⟩ := T.bind_some h2
  have := T.ret_some h4
  subst this
  obtain ⟨hle, hnx⟩ := canonFz_ok h3
  refine (evCall_ok hG hK n g args H nx o h1).le (hle.trans ?_)
  have := StLe.slots (s := s) hnx (sl := [(0, s.sl.get 0)]) fun t => by
    rw [Slots.get_cons]
    by_cases e : 0 = t
    · subst e; exact .inr (if_pos rfl)
    · rw [if_neg e]; exact .inl rfl
  exact ⟨this.esc, fun f z w a ht hr => this.to f z w a ht hr⟩

end Go.Proofs.Ytggneleipimijaa.En
/- The engine, part 31: less is said of a cell; loops by rounds with frozen rows. -/
namespace Go.Proofs.Ytggneleipimijaa.En
open Go
set_option linter.unusedVariables false
set_option linter.unusedSimpArgs false

/-- a loop that is known by its rounds, rows frozen after each -/
theorem loop_toZ {P : Program} {G : Ctx} (hG : CtxOk P G) (hK : KnownOk P G) {K F N : Nat} {c : Code} {m : Nat} {live after : List Nat} {α : Type} (S : α → St) (μ : α → Nat) (Inv : α → Prop) (e : Ex) (s : St)
    (h : ∀ p, Inv p → ∃ e' s', (evRoundZ G K F N c m live after (S p)).res = some (e', s') ∧ ((e' = .normal ∧ ∃ p', StLe m s' (S p') ∧ Inv p' ∧ μ p' < μ p) ∨ (e' ≠ .normal ∧ ∃ s'', StLe m s' s'' ∧ e' = e ∧ s'' = s)))
    (hm : ∀ p, m ≤ (S p).nx) {p : α} (hI : Inv p) {st0 : St} (h0 : StLe m st0 (S p)) (hnx : st0.nx = m) : CodeOk P N (.loop c) st0 e s := by
  have key : ∀ k p, μ p ≤ k → Inv p → Chain S μ m (ev G noLive K F N c) p e s := by
    intro k
    induction k with
    | zero =>
      intro p hk hI
      obtain ⟨e', s', h1, h2⟩ := h p hI
      obtain ⟨st1, h3, h4⟩ := evRoundZ_some h1
      rcases h2 with ⟨rfl, p', h5, h6, h7⟩ | ⟨hne, s', h5, rfl, rfl⟩
      · omega
      · exact .stop h3 hne (h4.trans h5)
    | succ k ih =>
      intro p hk hI
      obtain ⟨e', s', h1, h2⟩ := h p hI
      obtain ⟨st1, h3, h4⟩ := evRoundZ_some h1
      rcases h2 with ⟨rfl, p', h5, h6, h7⟩ | ⟨hne, s', h5, rfl, rfl⟩
      · exact .step h3 (h4.trans h5) h7 (ih p' (by omega) h6)
      · exact .stop h3 hne (h4.trans h5)
  exact (key (μ p) p (Nat.le_refl _) hI).ok (fun st e st' hr => ev_ok hG hK K F N c st e st' hr) hm h0 hnx

/-- b says less than a -/
def FV.le (a b : FV) : Prop := ∀ z v, RF z a v → RF z b v
theorem FV.le.refl (a : FV) : a.le a := fun _ _ h => h

theorem FV.le_fs {nil : Bool} {sz n : Nat} {e e' : Nat → List FV} (h : ∀ i, i < n → e i = e' i) : FV.le (.fs nil sz n e) (.fs nil sz n e') := by
  intro z v hv
  cases hv with
  | fsn => exact .fsn _ _
  | fs0 => exact .fs0 _ _ _ _
  | fss _ _ _ k o cap g hc h1 h2 h3 => exact .fss sz n e' k o cap g hc h1 (fun i j x hi hj hx => h2 i j x hi hj (by rw [h i hi]; exact hx)) h3

theorem FV.le_nil {sz : Nat} {e : Nat → List FV} : FV.le (.lit (.slice none 0 0)) (.fs true sz 0 e) := by
  intro z v hv
  cases hv
  exact .fsn _ _

theorem FV.le_z0 {sz : Nat} {e : Nat → List FV} : FV.le (.z0 true) (.fs true sz 0 e) := by
  intro z v hv
  cases hv
  exact .fsn _ _

def CV.le (x y : CV) : Prop := x = y ∨ ∃ a b, x = .f a ∧ y = .f b ∧ a.le b
theorem CV.le.refl (x : CV) : x.le x := .inl rfl
theorem CV.le.f {a b : FV} (h : a.le b) : CV.le (.f a) (.f b) := .inr ⟨a, b, rfl, rfl, h⟩

theorem CV.le.rc {x y : CV} (h : x.le y) {f : Fn} {nx : Nat} {z : Z} {v : Value} (hx : RC f nx z x v) : RC f nx z y v := by
  rcases h with rfl | ⟨a, b, rfl, rfl, h⟩
  · exact hx
  · exact h z v hx

theorem CV.le.beyond {x y : CV} (h : x.le y) (m : Nat) : y.beyond m = x.beyond m := by
  rcases h with rfl | ⟨a, b, rfl, rfl, h⟩ <;> rfl

def leL : List CV → List CV → Prop
  | [], [] => True
  | x :: r, y :: q => x.le y ∧ leL r q
  | _, _ => False

theorem leL.refl : ∀ l : List CV, leL l l
  | [] => trivial
  | x :: r => ⟨.inl rfl, leL.refl r⟩

theorem leL.get : ∀ {l q : List CV}, leL l q → ∀ {i : Nat} {y : CV}, q[i]? = some y → ∃ x, l[i]? = some x ∧ x.le y
  | [], [], _, i, y, hy => by simp at hy
  | x :: r, y' :: q, h, 0, y, hy => by
    simp only [List.getElem?_cons_zero, Option.some.injEq] at hy
    subst hy
    exact ⟨x, rfl, h.1⟩
  | x :: r, y' :: q, h, i + 1, y, hy => by
    simp only [List.getElem?_cons_succ] at hy
    exact leL.get h.2 hy
  | [], _ :: _, h, _, _, _ => h.elim
  | _ :: _, [], h, _, _, _ => h.elim

theorem leL.len : ∀ {l q : List CV}, leL l q → q.length = l.length
  | [], [], _ => rfl
  | x :: r, y :: q, h => by simp only [List.length_cons, leL.len h.2]
  | [], _ :: _, h => h.elim
  | _ :: _, [], h => h.elim

theorem leL.rl {f : Fn} {nx : Nat} {z : Z} {l q : List CV} {vs : List Value} (hl : leL l q) (h : RL f nx z l vs) : RL f nx z q vs :=
  ⟨hl.len.trans h.1, fun i y v hy hv => by
    obtain ⟨x, h1, h2⟩ := hl.get hy
    exact h2.rc (h.2 i x v h1 hv)⟩

def AV.le : AV → AV → Prop
  | .one x, .one y => x.le y
  | .agg l, .agg q => leL l q
  | _, _ => False

theorem AV.le.refl : ∀ a : AV, a.le a
  | .one x => .inl rfl
  | .agg l => leL.refl l

theorem AV.le.ra {a b : AV} (h : a.le b) {f : Fn} {nx : Nat} {z : Z} {v : Value} (ha : RA f nx z a v) : RA f nx z b v := by
  cases a <;> cases b
  · exact h.rc ha
  · exact h.elim
  · exact h.elim
  · obtain ⟨cs, rfl, h1⟩ := ha
    exact ⟨cs, rfl, leL.rl h h1⟩

def SV.le (a b : SV) : Prop := b = .top ∨ a = b ∨ ∃ x y, a = .v x ∧ b = .v y ∧ x.le y

theorem SV.le.rs {a b : SV} (h : a.le b) {f : Fn} {nx : Nat} {z : Z} {v : Value} (ha : RS f nx z a v) : RS f nx z b v := by
  rcases h with rfl | rfl | ⟨x, y, rfl, rfl, h⟩
  · trivial
  · exact ha
  · exact h.ra ha

def Ob.le (o q : Ob) : Prop := o = q ∨ (∃ l r, o = .cells l ∧ q = .cells r ∧ leL l r) ∨ ∃ live sz n e e', o = .arr live sz n e ∧ q = .arr live sz n e' ∧ ∀ i, i < n → e i = e' i

theorem Ob.le.refl (o : Ob) : o.le o := .inl rfl
theorem Ob.le.cells {l r : List CV} (h : leL l r) : Ob.le (.cells l) (.cells r) := .inr (.inl ⟨l, r, rfl, rfl, h⟩)
theorem Ob.le.arr {live : Bool} {sz n : Nat} {e e' : Nat → List FV} (h : ∀ i, i < n → e i = e' i) : Ob.le (.arr live sz n e) (.arr live sz n e') := .inr (.inr ⟨live, sz, n, e, e', rfl, rfl, h⟩)

theorem Ob.le.live {o q : Ob} (h : o.le q) : q.live ↔ o.live := by
  rcases h with rfl | ⟨l, r, rfl, rfl, h⟩ | ⟨live, sz, n, e, e', rfl, rfl, h⟩
  · exact Iff.rfl
  · exact Iff.rfl
  · exact Iff.rfl

theorem Ob.le.ok {o q : Ob} (h : o.le q) {f : Fn} {nx : Nat} {z : Z} {w : World} {b : Nat} (hb : BOk f nx z w b o) : BOk f nx z w b q := by
  rcases h with rfl | ⟨l, r, rfl, rfl, h⟩ | ⟨live, sz, n, e, e', rfl, rfl, h⟩
  · exact hb
  rotate_left
  · refine ⟨hb.lt, hb.own, hb.room, fun m i j x hx => ?_, fun es he => by cases he⟩
    simp only [Ob.at] at hx
    split at hx
    · rename_i hz
      rw [← h i hz.2.2.1] at hx
      exact hb.cell m i j x (by simp only [Ob.at]; rw [if_pos hz]; exact hx)
    · cases hx
  · refine ⟨hb.lt, hb.own, hb.room, fun m i j x hx => ?_, fun es he => by cases he⟩
    simp only [Ob.at] at hx
    split at hx
    · rename_i hz
      obtain ⟨x', h1, h2⟩ := h.get hx
      obtain ⟨h3, v, h4, h5⟩ := hb.cell m i j x' (by simp only [Ob.at]; rw [if_pos hz, h1])
      exact ⟨h3, v, h4, h2.rc h5⟩
    · cases hx

/-- less is said, cell by cell -/
theorem StLe.less {m : Nat} {s : St} {sl : Slots} {H : Heap} (hm : m ≤ s.nx) (ht : ∀ t, (s.sl.get t).le (sl.get t)) (hH : ∀ b, (s.H.get b).le (H.get b)) {base : Nat} {wr : List Nat} : StLe m s ⟨sl, H, s.nx, s.esc, base, wr⟩ :=
  ⟨id, fun f z w a htr hr => ⟨f, z, fun t => (ht t).rs (htr t), hm, fun b hb => rfl, fun _ _ _ h => h, fun _ _ _ h => .inl h, fun _ _ hs => absurd trivial hs, fun b _ hl => (hH b).live.1 hl,
    ⟨fun b _ hl => ⟨(hr.own b trivial ((hH b).live.1 hl)).1, (hH b).ok (hr.own b trivial ((hH b).live.1 hl)).2⟩, fun b c _ _ hl hl' => hr.inj b c trivial trivial ((hH b).live.1 hl) ((hH c).live.1 hl'), hr.zok⟩,
    fun b hb hl => .inr ⟨b, trivial, (hH b).live.1 hl, rfl⟩, Fr.refl _ _, fun _ m' hm' hN b l hb hg x hx => by
      rcases hH b with e | ⟨l0, r, e1, e2, h⟩ | ⟨_, _, _, _, _, e1, e2, h⟩
      rotate_right
      · simp only at hg
        rw [e2] at hg
        cases hg
      · exact hN b l hb (by rw [e]; exact hg) x hx
      · simp only at hg
        rw [e2] at hg
        cases hg
        obtain ⟨i, hi⟩ := List.mem_iff_getElem?.1 hx
        obtain ⟨x', h1, h2⟩ := h.get hi
        rw [h2.beyond]
        exact hN b l0 hb e1 x' (List.mem_of_getElem? h1)⟩⟩

/-- a call of whose answer less is said -/
theorem CallTo.less {P : Program} {g : Nat} {args : List AV} {H : Heap} {nx : Nat} {r r' : CallOut} (h : CallTo P g args H nx r) (hn : nx ≤ r.nx) (h1 : r.v.le r'.v) (h2 : ∀ b, (r.H.get b).le (r'.H.get b)) (h3 : r'.nx = r.nx) (h4 : r'.esc = r.esc) : CallTo P g args H nx r' := by
  obtain ⟨v, H1, nx1, esc, wr⟩ := r
  obtain ⟨v', H1', nx1', esc', wr'⟩ := r'
  simp only at h3 h4 h1 h2 hn
  subst h3 h4
  refine h.le ?_
  exact StLe.less (m := nx) (s := CallOut.st ⟨v, H1, nx1', esc', wr⟩) (sl := [(0, v')]) (H := H1') hn (fun t => by
    simp only [CallOut.st]
    rw [Slots.get_cons, Slots.get_cons]
    split
    · exact h1
    · exact .inr (.inl rfl)) h2

/-- no cell of what is left reaches a block: nothing has got out -/
theorem CallTo.noesc {P : Program} {g : Nat} {args : List AV} {H : Heap} {nx : Nat} {v : SV} {H' : Heap} {nx' : Nat} {esc : Bool} {wr : List Nat} (h : CallTo P g args H nx ⟨v, H', nx', esc, wr⟩) (hn : ∀ b l, H'.get b = .cells l → ∀ x ∈ l, x.refs = []) {wr' : List Nat} : CallTo P g args H nx ⟨v, H', nx', false, wr'⟩ := by
  intro f z w vs hr ha R hR
  refine h f z w vs hr ha R fun f1 z1 w1 v1 hp hv => hR f1 z1 w1 v1 ?_ hv
  refine ⟨hp.hnx, hp.ext, hp.zle, hp.znew, hp.same, hp.dead, hp.rel, hp.fresh, hp.fr, fun _ m hm _ b l hb hg x hx => ?_⟩
  exact beyond_refs.2 (by rw [hn b l hg x hx]; simp)

theorem T.over_ex {α A : Type} {t u : T α} {p : PT} {g : A → α} (ht : t.over p = u) (h : ∃ a, u.res = some (g a)) : ∃ a, t.res = some (g a) := by
  obtain ⟨a, h⟩ := h
  exact ⟨a, T.over_eq _ ht h⟩

theorem T.over_exP {α A : Type} {t u : T α} {p : PT} {g : A → α} {Q : A → Prop} (ht : t.over p = u) (h : ∃ a, u.res = some (g a) ∧ Q a) : ∃ a, t.res = some (g a) ∧ Q a := by
  obtain ⟨a, h, q⟩ := h
  exact ⟨a, T.over_eq _ ht h, q⟩

theorem T.over_exP2 {α A B : Type} {t u : T α} {p : PT} {g : A → B → α} {Q : A → B → Prop} (ht : t.over p = u) (h : ∃ a b, u.res = some (g a b) ∧ Q a b) : ∃ a b, t.res = some (g a b) ∧ Q a b := by
  obtain ⟨a, b, h, q⟩ := h
  exact ⟨a, b, T.over_eq _ ht h, q⟩

theorem StLe.same {m : Nat} {s s' : St} (hm : m ≤ s.nx) (h1 : s'.sl = s.sl) (h2 : s'.nx = s.nx) (h3 : s'.esc = s.esc) (h4 : ∀ b, s'.H.get b = s.H.get b) : StLe m s s' := by
  obtain ⟨sl, H, nx, esc, base, wr⟩ := s
  obtain ⟨sl', H', nx', esc', base', wr'⟩ := s'
  simp only at h1 h2 h3 h4 hm
  subst h1 h2 h3
  exact StLe.less (s := ⟨sl', H, nx', esc', base, wr⟩) hm (fun t => .inr (.inl rfl)) fun b => .inl (h4 b).symm

end Go.Proofs.Ytggneleipimijaa.En
/- The engine, part 32: what is known of a call, in one of two ways; slices that are handed over and never written any more. -/
namespace Go.Proofs.Ytggneleipimijaa.En
open Go
set_option linter.unusedVariables false
set_option linter.unusedSimpArgs false

/-- the first way, or the second one -/
def orSum (F G : SumF) : SumF := fun args H nx => match F args H nx with
  | .bad => G args H nx
  | .ret a => .ret a
  | .br b t e => .br b t e

theorem orSum_ok {P : Program} {g : Nat} {F G : SumF} (hF : SumOk P g F) (hG : SumOk P g G) : SumOk P g (orSum F G) := by
  refine ⟨fun args H nx r hr => ?_, fun args H nx => ?_⟩
  · have h1 := hF.to args H nx r
    unfold orSum at hr
    split at hr
    · exact hG.to args H nx r hr
    · rename_i h; rw [h] at h1; exact h1 hr
    · rename_i h; rw [h] at h1; exact h1 hr
  · have h1 := hF.keeps args H nx
    unfold orSum
    split
    · exact hG.keeps args H nx
    · rename_i h; rw [h] at h1; exact h1
    · rename_i h; rw [h] at h1; exact h1

/-- blocks to which slices lead that are handed over -/
def CV.tops : CV → List Nat
  | .sl _ b _ _ _ _ _ _ _ => [b]
  | _ => []
def AV.tops (a : AV) : List Nat := a.cells.flatMap CV.tops

def frzL : List Nat → St → T St
  | [], s => .ret s
  | b :: r, s => (frzSt b s).bind fun s => frzL r s

theorem frzL_ok {m : Nat} : ∀ (l : List Nat) (s s' : St), m ≤ s.nx → (frzL l s).res = some s' → StLe m s s' ∧ s'.nx = s.nx ∧ s'.esc = s.esc
  | [], s, s', hm, h => by
    have := T.ret_some h
    subst this
    exact ⟨StLe.refl hm, rfl, rfl⟩
  | b :: r, s, s', hm, h => by
    obtain ⟨s1, h1, h2⟩ := T.bind_some h
    have e := frzSt_nx h1
    have he : s1.esc = s.esc := by
      unfold frzSt at h1
      split at h1
      · obtain ⟨sl, _, h4⟩ := T.bind_some h1
        obtain ⟨H, _, h5⟩ := T.bind_some h4
        have := T.ret_some h5
        subst this; rfl
      · split at h1
        · obtain ⟨sl, _, h4⟩ := T.bind_some h1
          obtain ⟨H, _, h5⟩ := T.bind_some h4
          have := T.ret_some h5
          subst this; rfl
        · have := T.ret_some h1
          subst this; rfl
      · have := T.ret_some h1
        subst this; rfl
    obtain ⟨h3, h4, h5⟩ := frzL_ok (m := m) r s1 s' (by omega) h2
    exact ⟨(frzSt_ok hm h1).trans h3, h4.trans e, h5.trans he⟩

theorem CV.frz_id {b : Nat} {k : FrzF} {x : CV} (h : b ∉ x.refs) : x.frz b k = .ret x := by
  have key : ∀ c : Nat, b ≠ c → Nat.beq c b = false := fun c hc => by
    cases e : Nat.beq c b with
    | false => rfl
    | true => exact absurd (Nat.eq_of_beq_eq_true e).symm hc
  cases x with
  | f x => rfl
  | ptr c => simp only [CV.refs, List.mem_singleton] at h; simp only [CV.frz, key c h]
  | sl nil c => simp only [CV.refs, List.mem_singleton] at h; simp only [CV.frz, key c h]
  | mp c => simp only [CV.refs, List.mem_singleton] at h; simp only [CV.frz, key c h]
  | fn g l =>
    have : (l.any fun x => Nat.beq x.1 b) = false := by
      rw [List.any_eq_false]
      intro x hx
      rw [key x.1 fun e => h (by simp only [CV.refs, List.mem_map]; exact ⟨x, hx, e.symm⟩)]
      simp
    simp only [CV.frz, this]

theorem mapT_id {α : Type} {k : α → T α} : ∀ (l : List α), (∀ x ∈ l, k x = .ret x) → mapT k l = .ret l
  | [], _ => rfl
  | x :: r, h => by
    simp only [mapT, h x (List.mem_cons_self ..), T.bind, mapT_id r fun y hy => h y (List.mem_cons_of_mem _ hy)]

theorem Ob.frz_id {b : Nat} {k : FrzF} {o : Ob} (h : b ∉ o.refs) : o.frz b k = .ret o := by
  cases o with
  | cells l =>
    simp only [Ob.frz, mapT_id l fun x hx => CV.frz_id fun hb => h (by simp only [Ob.refs, List.mem_flatMap]; exact ⟨x, hx, hb⟩), T.bind]
  | arr => rfl
  | map => rfl
  | dead => rfl

/-- a block that is not frozen, and leads to none that is, stays -/
theorem frzSt_get {b : Nat} {s s' : St} (h : (frzSt b s).res = some s') {c : Nat} (hc : c ≠ b) (hr : b ∉ (s.H.get c).refs) : s'.H.get c = s.H.get c := by
  have key : ∀ (k : FrzF) (H : Heap), (frzH b k s.H).res = some H → H.get c = s.H.get c := fun k H h3 => by
    rcases frzH_some s.H H h3 c with ⟨e, _⟩ | ⟨_, h4, h5⟩ | ⟨_, h4⟩
    · exact absurd e hc
    · rw [h4, h5]
    · rw [Ob.frz_id hr] at h4
      exact (T.ret_some h4).symm
  unfold frzSt at h
  split at h
  · obtain ⟨sl, h1, h2⟩ := T.bind_some h
    obtain ⟨H, h3, h4⟩ := T.bind_some h2
    have := T.ret_some h4
    subst this
    exact key _ H h3
  · split at h
    · obtain ⟨sl, h1, h2⟩ := T.bind_some h
      obtain ⟨H, h3, h4⟩ := T.bind_some h2
      have := T.ret_some h4
      subst this
      exact key _ H h3
    · have := T.ret_some h
      subst this; rfl
  · have := T.ret_some h
    subst this; rfl

theorem frzL_get : ∀ (l : List Nat) (s s' : St), (frzL l s).res = some s' → ∀ c, c ∉ l → (∀ b ∈ l, b ∉ (s.H.get c).refs) → s'.H.get c = s.H.get c
  | [], s, s', h, c, _, _ => by
    have := T.ret_some h
    subst this; rfl
  | b :: r, s, s', h, c, h1, h2 => by
    obtain ⟨s1, h3, h4⟩ := T.bind_some h
    simp only [List.mem_cons, not_or] at h1
    have e := frzSt_get h3 h1.1 (h2 b (List.mem_cons_self ..))
    have := frzL_get r s1 s' h4 c h1.2 fun x hx => by rw [e]; exact h2 x (List.mem_cons_of_mem _ hx)
    rw [this, e]

/-- the slots of arguments, back -/
def argsBack (sl : Slots) : Nat → Nat → Option (List AV)
  | 0, _ => some []
  | n + 1, i => match sl.get i, argsBack sl n (i + 1) with
    | .v a, some l => some (a :: l)
    | _, _ => none

theorem argsBack_ok {f : Fn} {nx : Nat} {z : Z} {sl : Slots} {a : Array Value} (ht : TR f nx z sl a) : ∀ (n i : Nat) (l : List AV) (vs : List Value), argsBack sl n i = some l → vs.length = n → (∀ j, j < n → a.getD (i + j) undef = vs.getD j undef) → RAs f nx z l vs
  | 0, i, l, vs, h, hl, _ => by
    simp only [argsBack, Option.some.injEq] at h
    subst h
    cases vs with
    | nil => exact RAs.nil
    | cons => cases hl
  | n + 1, i, l, vs, h, hl, hv => by
    simp only [argsBack] at h
    split at h
    · rename_i x l' h1 h2
      simp only [Option.some.injEq] at h
      subst h
      cases vs with
      | nil => cases hl
      | cons v vs =>
        refine RAs.cons ?_ (argsBack_ok ht n (i + 1) l' vs h2 (by simpa using hl) fun j hj => ?_)
        · have := ht i
          rw [h1] at this
          have e := hv 0 (Nat.zero_lt_succ n)
          simp only [Nat.add_zero, List.getD_cons_zero] at e
          rw [e] at this
          exact this
        · have e := hv (j + 1) (by omega)
          rw [show i + (j + 1) = i + 1 + j by omega] at e
          simpa using e
    · cases h

theorem get_none : ∀ (H : Heap) (b : Nat), b ∉ H.map (·.1) → H.get b = .dead
  | [], _, _ => rfl
  | (k, o) :: r, b, h => by
    simp only [List.map_cons, List.mem_cons, not_or] at h
    rw [Heap.get_cons, if_neg (Ne.symm h.1)]
    exact get_none r b h.2

/-- slices that are handed over are never written any more -/
def frzSum (F : SumF) : SumF := fun args H nx =>
  let bs := args.flatMap AV.tops
  let chg (w : List Nat) (b : Nat) : Bool := Nat.ble nx b || w.any (Nat.beq b) || bs.any (Nat.beq b) || (H.get b).refs.any fun c => bs.any (Nat.beq c)
  (frzL bs ⟨argSlots 0 args, H, nx, false, 0, []⟩).bind fun s => match argsBack s.sl args.length 0 with
    | none => .bad
    | some args' => (F args' s.H nx).bind fun o =>
      .ret { o with H := (o.H.filter fun e => chg o.wr e.1) ++ (H.filter fun e => !(chg o.wr e.1)), wr := ((H.map (·.1)).filter (chg o.wr)) ++ o.wr ++ bs }

theorem any_neg {l : List Nat} {b : Nat} (h : l.any (Nat.beq b) = false) : b ∉ l := fun hm => by rw [(anyBeq l b).2 hm] at h; cases h

theorem frzSum_ok {P : Program} {g : Nat} {F : SumF} (hF : SumOk P g F) : SumOk P g (frzSum F) := by
  refine ⟨fun args H nx r hr => ?_, fun args H nx => ?_⟩
  · unfold frzSum at hr
    dsimp only at hr
    generalize hbs : args.flatMap AV.tops = bs at hr
    obtain ⟨s, h1, hr⟩ := T.bind_some hr
    split at hr
    · exact (T.bad_some hr).elim
    rename_i args' hargs'
    obtain ⟨o, h2, hr⟩ := T.bind_some hr
    have := T.ret_some hr
    subst this
    obtain ⟨hle, hnx, hesc⟩ := frzL_ok (m := nx) bs _ s (Nat.le_refl _) h1
    simp only at hnx hesc
    have hkeep := (hF.keeps args' s.H nx).res h2
    intro f z w vs hrel hra R hR
    obtain ⟨f1, z1, ht1, hp1⟩ := hle.to f z w _ (argSlots_TR hra 0) hrel
    have hr1 := hp1.all
    simp only [hnx] at ht1 hp1 hr1
    have hlen : vs.toList.length = args.length := hra.1.symm
    have hra1 : RAs f1 nx z1 args' vs.toList := argsBack_ok ht1 args.length 0 args' vs.toList hargs' hlen fun j hj => by
      simp
    refine hF.to args' s.H nx o h2 f1 z1 w vs hr1 hra1 R fun f2 z2 w2 v2 hp2 hv2 => hR f2 z2 w2 v2 ?_ hv2
    have hp := Post.trans' hp1 hp2 (Nat.le_refl _)
    have hesc' : s.esc = false := hesc
    rw [hesc', Bool.false_or] at hp
    refine hp.congr fun b => ?_
    dsimp only
    generalize hchg : (fun b : Nat => Nat.ble nx b || o.wr.any (Nat.beq b) || bs.any (Nat.beq b) || (H.get b).refs.any fun c => bs.any (Nat.beq c)) = chg
    have e1 : (o.H.filter fun e => Nat.ble nx e.1 || o.wr.any (Nat.beq e.1) || bs.any (Nat.beq e.1) || (H.get e.1).refs.any fun c => bs.any (Nat.beq c)) = o.H.filter fun e => chg e.1 := by rw [← hchg]
    have e2 : (H.filter fun e => !(Nat.ble nx e.1 || o.wr.any (Nat.beq e.1) || bs.any (Nat.beq e.1) || (H.get e.1).refs.any fun c => bs.any (Nat.beq c))) = H.filter fun e => !(chg e.1) := by rw [← hchg]
    rw [e1, e2]
    cases hc : chg b with
    | true =>
      rcases get_append (o.H.filter fun e => chg e.1) (H.filter fun e => !(chg e.1)) b with e | ⟨e, e'⟩
      · rw [e, get_filter chg, if_pos hc]
      · have h3 : Heap.get (H.filter fun e => !(chg e.1)) b = .dead := by rw [get_filter (fun b => !(chg b)), if_neg (by simp [hc])]
        rw [get_filter chg, if_pos hc] at e
        rw [e', h3, e]
    | false =>
      rw [get_append_out _ _ _ fun e he hb => by
        rw [List.mem_filter] at he
        rw [hb, hc] at he
        cases he.2]
      rw [get_filter (fun b => !(chg b)), if_pos (by simp [hc])]
      rw [← hchg] at hc
      simp only [Bool.or_eq_false_iff, List.any_eq_false] at hc
      obtain ⟨⟨⟨c1, c2⟩, c3⟩, c4⟩ := hc
      have hb : b < nx := by
        rcases Nat.lt_or_ge b nx with h | h
        · exact h
        · rw [Nat.ble_eq_true_of_le h] at c1; cases c1
      rw [hkeep.2 b hb (any_neg (by rw [List.any_eq_false]; exact c2)), frzL_get bs _ s h1 b (any_neg (by rw [List.any_eq_false]; exact c3)) fun x hx hxr => c4 x hxr ((anyBeq bs x).2 hx)]
  · unfold frzSum
    dsimp only
    generalize hbs : args.flatMap AV.tops = bs
    refine T.Every.bind (fun s => ?_) _
    split
    · trivial
    · rename_i args' _
      refine T.Every.bind2 (q := fun o => nx ≤ o.nx ∧ ∀ b, b < nx → b ∉ o.wr → o.H.get b = s.H.get b) (fun o ho => ?_) (hF.keeps args' s.H nx)
      refine ⟨ho.1, fun b hb hw => ?_⟩
      dsimp only at hw ⊢
      generalize hchg : (fun b : Nat => Nat.ble nx b || o.wr.any (Nat.beq b) || bs.any (Nat.beq b) || (H.get b).refs.any fun c => bs.any (Nat.beq c)) = chg at hw ⊢
      have e1 : (o.H.filter fun e => Nat.ble nx e.1 || o.wr.any (Nat.beq e.1) || bs.any (Nat.beq e.1) || (H.get e.1).refs.any fun c => bs.any (Nat.beq c)) = o.H.filter fun e => chg e.1 := by rw [← hchg]
      have e2 : (H.filter fun e => !(Nat.ble nx e.1 || o.wr.any (Nat.beq e.1) || bs.any (Nat.beq e.1) || (H.get e.1).refs.any fun c => bs.any (Nat.beq c))) = H.filter fun e => !(chg e.1) := by rw [← hchg]
      rw [e1, e2]
      simp only [List.mem_append, not_or] at hw
      obtain ⟨⟨w1, w2⟩, w3⟩ := hw
      cases hc : chg b with
      | false =>
        rw [get_append_out _ _ _ fun e he hb => by
          rw [List.mem_filter] at he
          rw [hb, hc] at he
          cases he.2]
        rw [get_filter (fun b => !(chg b)), if_pos (by simp [hc])]
      | true =>
        -- it leads to one that is frozen: then it is not there
        have hn : b ∉ H.map (·.1) := fun hm => w1 (List.mem_filter.2 ⟨hm, hc⟩)
        rw [← hchg] at hc
        have hd : H.get b = .dead := get_none H b hn
        simp only [hd] at hc
        have c1 : Nat.ble nx b = false := ble_false (by omega)
        have c2 : o.wr.any (Nat.beq b) = false := by
          cases h : o.wr.any (Nat.beq b) with
          | false => rfl
          | true => exact absurd ((anyBeq _ _).1 h) w2
        have c3 : bs.any (Nat.beq b) = false := by
          cases h : bs.any (Nat.beq b) with
          | false => rfl
          | true => exact absurd ((anyBeq _ _).1 h) w3
        rw [c1, c2, c3] at hc
        cases hc

/-- nothing, told as a row that is not there -/
theorem StLe.row {m : Nat} {s : St} (hm : m ≤ s.nx) {sl : Slots} {H : Heap} {base : Nat} {wr : List Nat}
    (ht : ∀ t, sl.get t = s.sl.get t ∨ sl.get t = .top ∨ (s.sl.get t = .v (.one (.f (.lit (.slice none 0 0)))) ∧ ∃ mm ex sz, sl.get t = .v (.one (.sl true s.nx mm 0 0 0 0 ex sz))))
    (hH : ∀ b, b ≠ s.nx → H.get b = s.H.get b) (hd : ¬ (H.get s.nx).live) : StLe m s ⟨sl, H, s.nx + 1, s.esc, base, wr⟩ := by
  refine ⟨id, fun f z w a htr hr => ⟨f, z, fun t => ?_, ?_⟩⟩
  · have h0 : RS f (s.nx + 1) z (s.sl.get t) (a.getD t undef) := RS.mono (fun b hb => rfl) (Nat.le_succ _) (fun _ _ _ h => h) (htr t)
    rcases ht t with e | e | ⟨e, mm, ex, sz, e'⟩
    · simp only [e]; exact h0
    · simp only [e]; trivial
    · simp only [e']
      rw [e] at h0
      have hv : a.getD t undef = .slice none 0 0 := lit_ok h0
      exact ⟨Nat.lt_succ_self _, fun _ => ⟨rfl, rfl, hv⟩, fun h => by cases h⟩
  · have hne : ∀ b, (H.get b).live → b ≠ s.nx := fun b hl e => hd (e ▸ hl)
    refine ⟨Nat.le_succ_of_le hm, fun b hb => rfl, fun _ _ _ h => h, fun _ _ _ h => .inl h, fun _ _ hs => absurd trivial hs, fun b _ hl => by rw [hH b (hne b hl)] at hl; exact hl,
      ⟨fun b _ hl => ?_, fun b c _ _ hl hl' hbc => ?_, hr.zok⟩, fun b hb hl => ?_, Fr.refl _ _, fun _ m' hm' hN b l hb hg x hx => ?_⟩
    · have e := hH b (hne b hl)
      simp only at hl ⊢
      rw [e] at hl ⊢
      obtain ⟨h1, h2⟩ := hr.own b trivial hl
      exact ⟨Nat.lt_succ_of_lt h1, ⟨h2.lt, h2.own, h2.room, fun m i j x hx => by
        obtain ⟨h3, v, h4, h5⟩ := h2.cell m i j x hx
        exact ⟨h3, v, h4, RC.mono (fun b hb => rfl) (Nat.le_succ _) (fun _ _ _ h => h) h5⟩, h2.map⟩⟩
    · rw [hH b (hne b hl)] at hl
      rw [hH c (hne c hl')] at hl'
      exact hr.inj b c trivial trivial hl hl' hbc
    · rw [hH b (hne b hl)] at hl
      exact .inr ⟨b, trivial, hl, rfl⟩
    · simp only at hg
      have hl : (H.get b).live := by rw [hg]; trivial
      rw [hH b (hne b hl)] at hg
      exact hN b l hb hg x hx

/-- n rounds from i on -/
def foldX {A R : Type} (f : Nat → A → A ⊕ R) (fin : A → R) : Nat → Nat → A → R
  | 0, _, a => fin a
  | k + 1, i, a => match f i a with
    | .inl a' => foldX f fin k (i + 1) a'
    | .inr r => r

/-- a loop that counts: what each round makes of a value, or how it ends the loop -/
theorem for_loop {P : Program} {G : Ctx} (hG : CtxOk P G) (hK : KnownOk P G) {K F N : Nat} {c : Code} {m : Nat} {live after : List Nat} {A : Type} (S : Nat → A → St) (n : Nat) (f : Nat → A → A ⊕ (Ex × St)) (fin : A → Ex × St) (Inv : Nat → A → Prop)
    (hround : ∀ i a, i < n → Inv i a → ∃ e s, (evRound G K F N c m live after (S i a)).res = some (e, s) ∧ match f i a with
      | .inl a' => e = .normal ∧ StLe m s (S (i + 1) a') ∧ Inv (i + 1) a'
      | .inr r => e ≠ .normal ∧ e = r.1 ∧ StLe m s r.2)
    (hend : ∀ a, Inv n a → ∃ e s, (evRound G K F N c m live after (S n a)).res = some (e, s) ∧ e ≠ .normal ∧ e = (fin a).1 ∧ StLe m s (fin a).2)
    (hm : ∀ i a, m ≤ (S i a).nx) {i : Nat} {a : A} (hi : i ≤ n) (hI : Inv i a) {st0 : St} (h0 : StLe m st0 (S i a)) (hnx : st0.nx = m) : CodeOk P N (.loop c) st0 (foldX f fin (n - i) i a).1 (foldX f fin (n - i) i a).2 := by
  refine loop_to (K := K) (F := F) (live := live) (after := after) hG hK (α := Nat × A) (fun p => S p.1 p.2) (fun p => n - p.1) (fun p => p.1 ≤ n ∧ Inv p.1 p.2 ∧ foldX f fin (n - p.1) p.1 p.2 = foldX f fin (n - i) i a) _ _ ?_ (fun p => hm p.1 p.2) (p := (i, a)) ⟨hi, hI, rfl⟩ h0 hnx
  rintro ⟨j, b⟩ ⟨h1, h2, h3⟩
  simp only at h1 h2 h3 ⊢
  rcases Nat.lt_or_ge j n with hlt | hge
  · obtain ⟨e, s, h4, h5⟩ := hround j b hlt h2
    refine ⟨e, s, h4, ?_⟩
    have hs : n - j = (n - (j + 1)) + 1 := by omega
    rw [hs] at h3
    simp only [foldX] at h3
    cases hf : f j b with
    | inl b' =>
      rw [hf] at h5 h3
      obtain ⟨h6, h7, h8⟩ := h5
      exact .inl ⟨h6, (j + 1, b'), h7, ⟨hlt, h8, h3⟩, by simp only; omega⟩
    | inr r =>
      rw [hf] at h5 h3
      obtain ⟨h6, h7, h8⟩ := h5
      simp only at h3
      exact .inr ⟨h6, r.2, h8, by rw [h7, h3], by rw [h3]⟩
  · obtain rfl : j = n := by omega
    obtain ⟨e, s, h4, h5, h6, h7⟩ := hend b h2
    rw [Nat.sub_self] at h3
    simp only [foldX] at h3
    exact ⟨e, s, h4, .inr ⟨h5, _, h7, by rw [h6, h3], by rw [h3]⟩⟩

/-- a loop that counts, rows frozen: what each round makes of a value, or how it ends the loop -/
theorem for_loopZ {P : Program} {G : Ctx} (hG : CtxOk P G) (hK : KnownOk P G) {K F N : Nat} {c : Code} {m : Nat} {live after : List Nat} {A : Type} (S : Nat → A → St) (n : Nat) (f : Nat → A → A ⊕ (Ex × St)) (fin : A → Ex × St) (Inv : Nat → A → Prop)
    (hround : ∀ i a, i < n → Inv i a → ∃ e s, (evRoundZ G K F N c m live after (S i a)).res = some (e, s) ∧ match f i a with
      | .inl a' => e = .normal ∧ StLe m s (S (i + 1) a') ∧ Inv (i + 1) a'
      | .inr r => e ≠ .normal ∧ e = r.1 ∧ StLe m s r.2)
    (hend : ∀ a, Inv n a → ∃ e s, (evRoundZ G K F N c m live after (S n a)).res = some (e, s) ∧ e ≠ .normal ∧ e = (fin a).1 ∧ StLe m s (fin a).2)
    (hm : ∀ i a, m ≤ (S i a).nx) {i : Nat} {a : A} (hi : i ≤ n) (hI : Inv i a) {st0 : St} (h0 : StLe m st0 (S i a)) (hnx : st0.nx = m) : CodeOk P N (.loop c) st0 (foldX f fin (n - i) i a).1 (foldX f fin (n - i) i a).2 := by
  refine loop_toZ (K := K) (F := F) (live := live) (after := after) hG hK (α := Nat × A) (fun p => S p.1 p.2) (fun p => n - p.1) (fun p => p.1 ≤ n ∧ Inv p.1 p.2 ∧ foldX f fin (n - p.1) p.1 p.2 = foldX f fin (n - i) i a) _ _ ?_ (fun p => hm p.1 p.2) (p := (i, a)) ⟨hi, hI, rfl⟩ h0 hnx
  rintro ⟨j, b⟩ ⟨h1, h2, h3⟩
  simp only at h1 h2 h3 ⊢
  rcases Nat.lt_or_ge j n with hlt | hge
  · obtain ⟨e, s, h4, h5⟩ := hround j b hlt h2
    refine ⟨e, s, h4, ?_⟩
    have hs : n - j = (n - (j + 1)) + 1 := by omega
    rw [hs] at h3
    simp only [foldX] at h3
    cases hf : f j b with
    | inl b' =>
      rw [hf] at h5 h3
      obtain ⟨h6, h7, h8⟩ := h5
      exact .inl ⟨h6, (j + 1, b'), h7, ⟨hlt, h8, h3⟩, by simp only; omega⟩
    | inr r =>
      rw [hf] at h5 h3
      obtain ⟨h6, h7, h8⟩ := h5
      simp only at h3
      exact .inr ⟨h6, r.2, h8, by rw [h7, h3], by rw [h3]⟩
  · obtain rfl : j = n := by omega
    obtain ⟨e, s, h4, h5, h6, h7⟩ := hend b h2
    rw [Nat.sub_self] at h3
    simp only [foldX] at h3
    exact ⟨e, s, h4, .inr ⟨h5, _, h7, by rw [h6, h3], by rw [h3]⟩⟩

/-- n rounds from i on, none of which ends the loop -/
def foldF {A : Type} (f : Nat → A → A) : Nat → Nat → A → A
  | 0, _, a => a
  | k + 1, i, a => foldF f k (i + 1) (f i a)

theorem foldX_inl {A R : Type} (f : Nat → A → A) (fin : A → R) : ∀ k i a, foldX (fun i a => .inl (f i a)) fin k i a = fin (foldF f k i a)
  | 0, _, _ => rfl
  | k + 1, i, a => foldX_inl f fin k (i + 1) (f i a)

theorem foldF_succ {A : Type} (f : Nat → A → A) : ∀ k i a, foldF f (k + 1) i a = f (i + k) (foldF f k i a)
  | 0, _, _ => rfl
  | k + 1, i, a => by
    have := foldF_succ f k (i + 1) (f i a)
    rw [show i + 1 + k = i + (k + 1) by omega] at this
    exact this

theorem smallB_le {need b : Nat} (h1 : 512 * b ≤ 281474976710656) (h2 : need ≤ (281474976710656 / b - 512) / 2) : smallB need b = true := by
  simp only [smallB, Nat.ble_eq_true_of_le h1, Nat.ble_eq_true_of_le h2, Bool.and_self]
theorem ble_tt {a b : Nat} (h : a ≤ b) : Nat.ble a b = true := Nat.ble_eq_true_of_le h
theorem beq_or (b : Bool) : (b || !b) = true := by cases b <;> rfl
theorem pb_tt : pb True = true := pb_true trivial

/-- nothing, told as a row without elements -/
def AV.rowed (sz : Nat) (e0 : Nat → List FV) (a : AV) : AV := match a with
  | .one (.f (.lit (.slice none 0 0))) => .one (.f (.fs true sz 0 e0))
  | .one (.f (.z0 nil)) => .one (.f (.fs nil sz 0 e0))
  | a => a

theorem AV.rowed_le (sz : Nat) (e0 : Nat → List FV) (a : AV) : a.le (a.rowed sz e0) := by
  unfold AV.rowed
  split
  · exact .f FV.le_nil
  · rename_i nil
    refine .f fun z v h => ?_
    cases h with
    | z0n => exact .fsn _ _
    | z0s ad => exact .fs0 _ _ _ _
  · exact AV.le.refl a

theorem AV.rowed_refs (sz : Nat) (e0 : Nat → List FV) (a : AV) : (a.rowed sz e0).refs = a.refs := by
  unfold AV.rowed
  split <;> rfl

theorem RAs.map {f : Fn} {nx : Nat} {z : Z} {g : AV → AV} (hg : ∀ a : AV, a.le (g a)) : ∀ {l : List AV} {vs : List Value}, RAs f nx z l vs → RAs f nx z (l.map g) vs := by
  intro l vs h
  refine ⟨by rw [List.length_map]; exact h.1, fun i x v hx hv => ?_⟩
  rw [List.getElem?_map] at hx
  obtain ⟨y, hy, rfl⟩ := Option.map_eq_some_iff.1 hx
  exact (hg y).ra (h.2 i y v hy hv)

def nilSum (sz : Nat) (e0 : Nat → List FV) (F : SumF) : SumF := fun args H nx => F (args.map (AV.rowed sz e0)) H nx

theorem nilSum_ok {P : Program} {g : Nat} {sz : Nat} {e0 : Nat → List FV} {F : SumF} (hF : SumOk P g F) : SumOk P g (nilSum sz e0 F) :=
  ⟨fun args H nx r hr f z w vs hrel hra R hR => hF.to _ H nx r hr f z w vs hrel (RAs.map (AV.rowed_le sz e0) hra) R hR, fun args H nx => hF.keeps _ H nx⟩

/-- less is said of arguments -/
def LeAs (l l' : List AV) : Prop := ∀ (f : Fn) (nx : Nat) (z : Z) (vs : List Value), RAs f nx z l vs → RAs f nx z l' vs
theorem LeAs.refl (l : List AV) : LeAs l l := fun _ _ _ _ h => h
theorem LeAs.cons {a b : AV} {l l' : List AV} (h : a.le b) (t : LeAs l l') : LeAs (a :: l) (b :: l') := fun f nx z vs hr => by
  cases vs with
  | nil => exact absurd hr.1 (by simp)
  | cons v vs =>
    refine RAs.cons (h.ra (hr.2 0 a v rfl rfl)) (t f nx z vs ⟨by simpa using hr.1, fun i x u hx hu => hr.2 (i + 1) x u (by simpa using hx) (by simpa using hu)⟩)
theorem CallTo.args {P : Program} {g : Nat} {args args' : List AV} {H : Heap} {nx : Nat} {r : CallOut} (h : CallTo P g args' H nx r) (hl : LeAs args args') : CallTo P g args H nx r :=
  fun f z w vs hr ha R hR => h f z w vs hr (hl f nx z vs.toList ha) R hR

theorem ite_tt {α : Type} {b : Bool} {x y r : α} (h : b = true) (k : x = r) : (if b = true then x else y) = r := by rw [if_pos h]; exact k
theorem ite_ff {α : Type} {b : Bool} {x y r : α} (h : b = false) (k : y = r) : (if b = true then x else y) = r := by rw [if_neg (by rw [h]; simp)]; exact k
theorem foldF_or {p : Nat → Bool} : ∀ (k i : Nat) (a : Bool), (a = true ∨ ∃ j, i ≤ j ∧ j < i + k ∧ p j = true) → foldF (fun i a => a || p i) k i a = true
  | 0, i, a, h => by
    rcases h with h | ⟨j, h1, h2, _⟩
    · exact h
    · omega
  | k + 1, i, a, h => by
    refine foldF_or k (i + 1) (a || p i) ?_
    rcases h with h | ⟨j, h1, h2, h3⟩
    · exact .inl (by rw [h, Bool.true_or])
    · rcases Nat.lt_or_ge i j with hl | hl
      · exact .inr ⟨j, hl, by omega, h3⟩
      · obtain rfl : j = i := by omega
        exact .inl (by rw [h3, Bool.or_true])
theorem foldF_add {A : Type} (f : Nat → A → A) : ∀ (k l i : Nat) (a : A), foldF f (k + l) i a = foldF f l (i + k) (foldF f k i a)
  | 0, l, i, a => by rw [Nat.zero_add]; rfl
  | k + 1, l, i, a => by
    rw [show k + 1 + l = (k + l) + 1 by omega]
    show foldF f (k + l) (i + 1) (f i a) = _
    rw [foldF_add f k l (i + 1) (f i a), show i + 1 + k = i + (k + 1) by omega]
    rfl
theorem foldF_congr {A : Type} {f g : Nat → A → A} {d : Nat} : ∀ (k i : Nat) (a : A), (∀ j a, i ≤ j → j < i + k → f (j + d) a = g j a) → foldF f k (i + d) a = foldF g k i a
  | 0, _, _, _ => rfl
  | k + 1, i, a, h => by
    show foldF f k (i + d + 1) (f (i + d) a) = foldF g k (i + 1) (g i a)
    rw [h i a (Nat.le_refl _) (by omega), show i + d + 1 = i + 1 + d by omega]
    exact foldF_congr k (i + 1) _ fun j a h1 h2 => h j a (by omega) (by omega)

theorem beq_ff {a b : Nat} (h : a ≠ b) : Nat.beq a b = false := by
  cases e : Nat.beq a b with
  | false => rfl
  | true => exact absurd (Nat.eq_of_beq_eq_true e) h
theorem FV.le.trans {a b c : FV} (h : a.le b) (k : b.le c) : a.le c := fun z v hv => k z v (h z v hv)
theorem CV.le.trans {x y w : CV} (h : x.le y) (k : y.le w) : x.le w := by
  rcases h with rfl | ⟨a, b, rfl, rfl, h⟩
  · exact k
  · rcases k with rfl | ⟨b', c, e3, rfl, k⟩
    · exact .inr ⟨a, b, rfl, rfl, h⟩
    · cases e3
      exact .inr ⟨a, c, rfl, rfl, h.trans k⟩
theorem leL.trans : ∀ {l r q : List CV}, leL l r → leL r q → leL l q
  | [], [], _, _, k => k
  | x :: l, y :: r, w :: q, h, k => ⟨h.1.trans k.1, leL.trans h.2 k.2⟩
  | _ :: _, _ :: _, [], _, k => k.elim
  | [], _ :: _, _, h, _ => h.elim
  | _ :: _, [], _, h, _ => h.elim
theorem Ob.le.trans {a b c : Ob} (h : a.le b) (k : b.le c) : a.le c := by
  rcases h with rfl | h
  · exact k
  rcases k with rfl | k
  · exact .inr h
  rcases h with ⟨l, r, rfl, rfl, h⟩ | ⟨live, sz, n, e, e', rfl, rfl, h⟩
  · rcases k with ⟨l', r', e1, rfl, k⟩ | ⟨_, _, _, _, _, e1, _⟩
    · cases e1
      exact .cells (h.trans k)
    · cases e1
  · rcases k with ⟨_, _, e1, _⟩ | ⟨live', sz', n', e1, e2, h1, rfl, k⟩
    · cases e1
    · cases h1
      exact .arr fun i hi => (h i hi).trans (k i hi)

def mv (b n : Nat) (c : Nat) : Nat := if c = b then n else c

/-- a block under another name -/
theorem StLe.move {m : Nat} {s : St} (hm : m ≤ s.nx) (b : Nat) (hb : b < s.nx) {sl : Slots} {H : Heap} {base : Nat} {wr : List Nat}
    (ht : ∀ t, sl.get t = (s.sl.get t).ren (mv b s.nx) ∨ sl.get t = .top)
    (hH : ∀ c, c ≠ s.nx → c ≠ b → H.get c = s.H.get c) (hb0 : ¬ (H.get b).live) (hn : H.get s.nx = s.H.get b) (hnr : ∀ c, b ∉ (s.H.get c).refs) : StLe m s ⟨sl, H, s.nx + 1, s.esc, base, wr⟩ := by
  refine ⟨id, fun f z w a htr hr => ⟨fun c => if c = s.nx then f b else f c, z, fun t => ?_, ?_⟩⟩
  · have led : ∀ c, c < s.nx → Led f (fun c => if c = s.nx then f b else f c) (s.nx + 1) (mv b s.nx) c := fun c hc => by
      unfold Led mv
      by_cases e : c = b
      · subst e; simp
      · simp only [e, if_false]
        exact ⟨if_neg (by omega), by omega⟩
    rcases ht t with e | e
    · simp only [e]
      exact RS.ren (htr t) fun c hc => led c (RS.refs_lt (htr t) c hc)
    · simp only [e]; trivial
  · have hcase : ∀ c, (H.get c).live → (c = s.nx ∧ H.get c = s.H.get b) ∨ (c ≠ s.nx ∧ c ≠ b ∧ H.get c = s.H.get c) := fun c hl => by
      by_cases e : c = s.nx
      · subst e; exact .inl ⟨rfl, hn⟩
      · by_cases e' : c = b
        · subst e'; exact absurd hl hb0
        · exact .inr ⟨e, e', hH c e e'⟩
    have bok : ∀ c c', BOk f s.nx z w c (s.H.get c) → (fun c => if c = s.nx then f b else f c) c' = f c → BOk (fun c => if c = s.nx then f b else f c) (s.nx + 1) z w c' (s.H.get c) := fun c c' h e => by
      have := BOk.ren (f' := fun c => if c = s.nx then f b else f c) (nx' := s.nx + 1) (b' := c') (ρ := id) h e fun d hd => by
        have hd' := h.refs_lt d hd
        exact ⟨by simp only [id]; exact if_neg (by omega), by simp only [id]; omega⟩
      have e2 : (s.H.get c).ren id = s.H.get c := by
        cases s.H.get c with
        | cells l =>
          simp only [Ob.ren, Ob.cells.injEq]
          have : ∀ x ∈ l, CV.ren id x = x := fun x _ => by
            cases x with
            | fn g l => simp [CV.ren]
            | _ => rfl
          exact (List.map_congr_left this).trans (List.map_id l)
        | _ => rfl
      rwa [e2] at this
    refine ⟨by dsimp only; omega, fun c hc => if_neg (by omega), fun _ _ _ h => h, fun _ _ _ h => .inl h, fun _ _ hs => absurd trivial hs, fun c hc hl => ?_,
      ⟨fun c _ hl => ?_, fun c d _ _ hl hl' hcd => ?_, hr.zok⟩, fun c hc hl => ?_, Fr.refl _ _, fun _ m' hm' hN c l hc hg x hx => ?_⟩
    · rcases hcase c hl with ⟨e, _⟩ | ⟨_, _, e⟩
      · omega
      · rw [e] at hl; exact hl
    · simp only at hl ⊢
      rcases hcase c hl with ⟨e, e'⟩ | ⟨e1, _, e'⟩
      · rw [e'] at hl ⊢
        subst e
        exact ⟨Nat.lt_succ_self _, bok b _ (hr.own b trivial hl).2 (by simp)⟩
      · rw [e'] at hl ⊢
        obtain ⟨h1, h2⟩ := hr.own c trivial hl
        exact ⟨Nat.lt_succ_of_lt h1, bok c c h2 (if_neg e1)⟩
    · simp only at hl hl'
      rcases hcase c hl with ⟨e, e'⟩ | ⟨e1, e2, e'⟩ <;> rcases hcase d hl' with ⟨k, k'⟩ | ⟨k1, k2, k'⟩
      · omega
      · rw [e'] at hl
        rw [k'] at hl'
        simp only [e, if_true, if_neg k1]
        exact hr.inj b d trivial trivial hl hl' (Ne.symm k2)
      · rw [e'] at hl
        rw [k'] at hl'
        simp only [k, if_true, if_neg e1]
        exact hr.inj c b trivial trivial hl hl' e2
      · rw [e'] at hl
        rw [k'] at hl'
        simp only [if_neg e1, if_neg k1]
        exact hr.inj c d trivial trivial hl hl' hcd
    · simp only at hl
      rcases hcase c hl with ⟨e, e'⟩ | ⟨e1, e2, e'⟩
      · rw [e'] at hl
        exact .inr ⟨b, trivial, hl, by simp [e]⟩
      · rw [e'] at hl
        exact .inr ⟨c, trivial, hl, by simp [e1]⟩
    · simp only at hg
      have hl : (H.get c).live := by rw [hg]; trivial
      rcases hcase c hl with ⟨e, _⟩ | ⟨_, _, e'⟩
      · omega
      · rw [e'] at hg
        exact hN c l hc hg x hx

def allF {R : Type} (p : Nat → Bool) (r0 : R) : Nat → Unit → Unit ⊕ R := fun i _ => match p i with | true => .inl () | false => .inr r0
theorem foldX_yes {R : Type} {p : Nat → Bool} {r1 r0 : R} : ∀ k i, (∀ j, i ≤ j → j < i + k → p j = true) → foldX (allF p r0) (fun _ => r1) k i () = r1
  | 0, _, _ => rfl
  | k + 1, i, h => by
    have h0 := h i (Nat.le_refl _) (by omega)
    simp only [foldX, allF, h0]
    exact foldX_yes k (i + 1) fun j h1 h2 => h j (by omega) (by omega)
theorem foldX_no {R : Type} {p : Nat → Bool} {r1 r0 : R} : ∀ k i, (∃ j, i ≤ j ∧ j < i + k ∧ p j = false) → foldX (allF p r0) (fun _ => r1) k i () = r0
  | 0, _, ⟨j, h1, h2, _⟩ => by omega
  | k + 1, i, ⟨j, h1, h2, h3⟩ => by
    simp only [foldX, allF]
    cases h0 : p i with
    | false => rfl
    | true =>
      refine foldX_no k (i + 1) ⟨j, ?_, by omega, h3⟩
      rcases Nat.lt_or_ge i j with h | h
      · exact h
      · obtain rfl : j = i := by omega
        rw [h0] at h3; cases h3
theorem pb_false {p : Prop} (h : ¬ p) : pb p = false := by
  cases e : pb p with
  | false => rfl
  | true => exact absurd (pb_of e) h
/-- elements of which less is said -/
theorem FV.le_fsE {nil : Bool} {sz n : Nat} {e e' : Nat → List FV} (h : ∀ i, i < n → ∀ (j : Nat) x', (e' i)[j]? = some x' → ∃ x, (e i)[j]? = some x ∧ x.le x') : FV.le (.fs nil sz n e) (.fs nil sz n e') := by
  intro z v hv
  cases hv with
  | fsn => exact .fsn _ _
  | fs0 => exact .fs0 _ _ _ _
  | fss _ _ _ k o cap g hc h1 h2 h3 =>
    refine .fss sz n e' k o cap g hc h1 (fun i j x' hi hj hx => ?_) h3
    obtain ⟨x, h4, h5⟩ := h i hi j x' hx
    exact h5 _ _ (h2 i j x hi hj h4)

end Go.Proofs.Ytggneleipimijaa.En
/- The engine, part 33: own slices that are lent: the callee reads them alone. -/
namespace Go.Proofs.Ytggneleipimijaa.En
open Go
set_option linter.unusedVariables false
set_option linter.unusedSimpArgs false

def FV.isLit : FV → Bool
  | .lit _ => true
  | .z0 _ => true
  | _ => false
def CV.noZ : CV → Bool
  | .f x => x.isLit
  | _ => true
def SV.noZ : SV → Bool
  | .v a => a.cells.all CV.noZ
  | .tup l => l.all fun a => a.cells.all CV.noZ
  | .top => true
/-- a row of plain values -/
def ArrLit (n : Nat) (e : Nat → List FV) : Prop := ∀ i, i < n → ∀ x ∈ e i, x.isLit = true
noncomputable def Ob.noZ : Ob → Bool
  | .cells l => l.all CV.noZ
  | .arr _ _ n e => pb (ArrLit n e)
  | _ => true

theorem FV.isLit_ok {x : FV} (h : x.isLit = true) {z z' : Z} {v : Value} (hx : RF z x v) : RF z' x v := by
  cases hx with
  | lit v h1 => exact .lit v h1
  | z0n => exact .z0n
  | z0s a => exact .z0s a
  | _ => cases h

theorem CV.noZ_ok {x : CV} (h : x.noZ = true) {f : Fn} {nx : Nat} {z z' : Z} {v : Value} (hx : RC f nx z x v) : RC f nx z' x v := by
  cases x with
  | f x => exact FV.isLit_ok h hx
  | _ => exact hx

theorem RL.noZ {l : List CV} (h : l.all CV.noZ = true) {f : Fn} {nx : Nat} {z z' : Z} {vs : List Value} (hx : RL f nx z l vs) : RL f nx z' l vs :=
  ⟨hx.1, fun i x v h1 h2 => CV.noZ_ok (List.all_eq_true.1 h x (List.mem_of_getElem? h1)) (hx.2 i x v h1 h2)⟩

theorem AV.noZ_ok {a : AV} (h : a.cells.all CV.noZ = true) {f : Fn} {nx : Nat} {z z' : Z} {v : Value} (hx : RA f nx z a v) : RA f nx z' a v := by
  cases a with
  | one x => exact CV.noZ_ok (by simpa [AV.cells] using h) hx
  | agg l =>
    obtain ⟨cs, rfl, hl⟩ := hx
    exact ⟨cs, rfl, hl.noZ h⟩

theorem SV.noZ_ok {s : SV} (h : s.noZ = true) {f : Fn} {nx : Nat} {z z' : Z} {v : Value} (hx : RS f nx z s v) : RS f nx z' s v := by
  cases s with
  | v a => exact AV.noZ_ok h hx
  | tup l =>
    obtain ⟨vs, rfl, hl⟩ := hx
    exact ⟨vs, rfl, hl.1, fun i x v h1 h2 => AV.noZ_ok (List.all_eq_true.1 h x (List.mem_of_getElem? h1)) (hl.2 i x v h1 h2)⟩
  | top => trivial

theorem Ob.noZ_ok {o : Ob} (h : o.noZ = true) {f : Fn} {nx : Nat} {z z' : Z} {w : World} {b : Nat} (hz : ∀ p, z (f b).k p = none → z' (f b).k p = none) (hb : BOk f nx z w b o) : BOk f nx z' w b o := by
  refine ⟨hb.lt, fun p => hz p (hb.own p), hb.room, fun m i j x hx => ?_, hb.map⟩
  obtain ⟨h1, v, h2, h3⟩ := hb.cell m i j x hx
  refine ⟨h1, v, h2, CV.noZ_ok ?_ h3⟩
  cases o with
  | cells l =>
    simp only [Ob.at] at hx
    split at hx
    · exact List.all_eq_true.1 h x (List.mem_of_getElem? hx)
    · cases hx
  | arr live sz n e =>
    simp only [Ob.at] at hx
    split at hx
    · rename_i hc
      obtain ⟨y, hy, rfl⟩ := Option.map_eq_some_iff.1 hx
      exact pb_of h i hc.2.2.1 y (List.mem_of_getElem? hy)
    · cases hx
  | map es => cases hx
  | dead => cases hx

/-- frozen: what stands for what -/
theorem frzSt_to {b : Nat} {s s' : St} (h : (frzSt b s).res = some s') {f : Fn} {z : Z} {w : World} {a : Array Value} (ht : TR f s.nx z s.sl a) (hr : Rel All f s.nx z w s.H) (hdead : s'.H.get b = .dead) :
    TR f s.nx (zFrz f z w s.H b) s'.sl a ∧ Rel All f s.nx (zFrz f z w s.H b) w s'.H ∧ s'.nx = s.nx ∧ (∀ c, (s'.H.get c).live → c ≠ b ∧ (s.H.get c).live) := by
  have key : ∀ (k : FrzF) (sl : Slots) (H : Heap), KOk f s.nx z w s.H b k → (frzSl b k s.sl).res = some sl → (frzH b k s.H).res = some H →
      TR f s.nx (zFrz f z w s.H b) sl a ∧ Rel All f s.nx (zFrz f z w s.H b) w H ∧ (∀ c, (H.get c).live → c ≠ b ∧ (s.H.get c).live) := by
    intro k sl H hk h1 h3
    have hR := frzH_some s.H H h3
    have hold : ∀ c, (H.get c).live → c ≠ b ∧ (s.H.get c).live ∧ ((s.H.get c).frz b k).res = some (H.get c) := fun c hl => by
      rcases hR c with ⟨_, h5⟩ | ⟨_, _, h5⟩ | ⟨h5, h6⟩
      · rw [h5] at hl; exact hl.elim
      · rw [h5] at hl; exact hl.elim
      · exact ⟨h5, (Ob.frz_live h6).1.1 hl, h6⟩
    refine ⟨fun t => ?_, ⟨fun c _ hl => ?_, fun c d _ _ hl hl' => hr.inj c d trivial trivial (hold c hl).2.1 (hold d hl').2.1, fun c o v hv => ?_⟩, fun c hl => ⟨(hold c hl).1, (hold c hl).2.1⟩⟩
    · rcases frzSl_some s.sl sl h1 t with ⟨_, h5⟩ | h5
      · simp only [h5]; trivial
      · exact RS.frz hr hk (ht t) h5
    · obtain ⟨h5, h6, h7⟩ := hold c hl
      obtain ⟨h8, h9⟩ := hr.own c trivial h6
      exact ⟨h8, h9.frz hr hk (fun hlv => hr.inj c b trivial trivial h6 hlv h5) h7⟩
    · rcases zFrz_some hv with ⟨_, _, h5⟩ | h5
      · exact h5
      · exact hr.zok c o v h5
  have keep : s' = s → TR f s.nx (zFrz f z w s.H b) s'.sl a ∧ Rel All f s.nx (zFrz f z w s.H b) w s'.H ∧ s'.nx = s.nx ∧ (∀ c, (s'.H.get c).live → c ≠ b ∧ (s.H.get c).live) := by
    rintro rfl
    have hz : zFrz f z w s'.H b = z := by
      funext k p
      exact zFrz_out fun h => by rw [hdead] at h; exact h.1
    rw [hz]
    exact ⟨ht, hr, rfl, fun c hl => ⟨fun e => by rw [e, hdead] at hl; exact hl, hl⟩⟩
  unfold frzSt at h
  split at h
  · rename_i live sz n e hb
    obtain ⟨sl, h1, h2⟩ := T.bind_some h
    obtain ⟨H, h3, h4⟩ := T.bind_some h2
    have := T.ret_some h4
    subst this
    obtain ⟨k1, k2, k3⟩ := key _ sl H (kArr_ok hr hb) h1 h3
    exact ⟨k1, k2, rfl, k3⟩
  · rename_i l hb
    split at h
    · rename_i fs hf _
      obtain ⟨sl, h1, h2⟩ := T.bind_some h
      obtain ⟨H, h3, h4⟩ := T.bind_some h2
      have := T.ret_some h4
      subst this
      obtain ⟨k1, k2, k3⟩ := key _ sl H (kCells_ok hr hb hf) h1 h3
      exact ⟨k1, k2, rfl, k3⟩
    · exact keep (T.ret_some h).symm
  · exact keep (T.ret_some h).symm

/-- block b is lent: the callee sees plain memory, which it leaves as it is -/
noncomputable def lend (F : SumF) (b : Nat) : SumF := fun args H nx =>
  match H.all (fun e => !(e.2.refs.any (Nat.beq b))) && Nat.ble (b + 1) nx with
  | false => .bad
  | true => (frzSt b ⟨argSlots 0 args, H, nx, false, 0, []⟩).bind fun s => match s.H.get b, argsBack s.sl args.length 0 with
    | .dead, some args' => (F args' s.H nx).bind fun o =>
      .need (o.v.noZ && o.H.all fun e => e.2.noZ)
        (.ret { o with H := (b, H.get b) :: ((o.H.filter fun e => (Nat.ble nx e.1 || o.wr.any (Nat.beq e.1)) && !(Nat.beq e.1 b)) ++ (H.filter fun e => !(Nat.ble nx e.1 || o.wr.any (Nat.beq e.1)))) })
    | _, _ => .bad

theorem get_noZ : ∀ (H : Heap), H.all (fun e => e.2.noZ) = true → ∀ c, (H.get c).noZ = true
  | [], _, c => rfl
  | (k, o) :: r, h, c => by
    simp only [List.all_cons, Bool.and_eq_true] at h
    rw [Heap.get_cons]
    split
    · exact h.1
    · exact get_noZ r h.2 c

theorem get_noref {b : Nat} : ∀ (H : Heap), H.all (fun e => !(e.2.refs.any (Nat.beq b))) = true → ∀ c, b ∉ (H.get c).refs
  | [], _, c => by intro h; cases h
  | (k, o) :: r, h, c => by
    simp only [List.all_cons, Bool.and_eq_true, Bool.not_eq_true'] at h
    rw [Heap.get_cons]
    split
    · exact any_neg h.1
    · exact get_noref r h.2 c

theorem lend_ok {P : Program} {g : Nat} {F : SumF} (hF : SumOk P g F) (b : Nat) : SumOk P g (lend F b) := by
  have hget : ∀ (H : Heap) (nx : Nat) (o : CallOut) (c : Nat), Heap.get ((b, H.get b) :: ((o.H.filter fun e => (Nat.ble nx e.1 || o.wr.any (Nat.beq e.1)) && !(Nat.beq e.1 b)) ++ (H.filter fun e => !(Nat.ble nx e.1 || o.wr.any (Nat.beq e.1))))) c =
      if c = b then H.get b else if nx ≤ c ∨ c ∈ o.wr then o.H.get c else H.get c := by
    intro H nx o c
    rw [Heap.get_cons]
    by_cases hcb : c = b
    · rw [if_pos hcb.symm, if_pos hcb]
    · rw [if_neg (Ne.symm hcb), if_neg hcb]
      have hbeq : Nat.beq c b = false := by
        cases e : Nat.beq c b with
        | false => rfl
        | true => exact absurd (Nat.eq_of_beq_eq_true e) hcb
      by_cases hc : nx ≤ c ∨ c ∈ o.wr
      · rw [if_pos hc]
        have ht : (Nat.ble nx c || o.wr.any (Nat.beq c)) = true := by
          rw [Bool.or_eq_true]
          exact hc.imp Nat.ble_eq_true_of_le (anyBeq _ _).2
        rcases get_append (o.H.filter fun e => (Nat.ble nx e.1 || o.wr.any (Nat.beq e.1)) && !(Nat.beq e.1 b)) (H.filter fun e => !(Nat.ble nx e.1 || o.wr.any (Nat.beq e.1))) c with e | ⟨e, e'⟩
        · rw [e, get_filter (fun c => (Nat.ble nx c || o.wr.any (Nat.beq c)) && !(Nat.beq c b)), if_pos (by rw [ht, hbeq]; rfl)]
        · rw [get_filter (fun c => (Nat.ble nx c || o.wr.any (Nat.beq c)) && !(Nat.beq c b)), if_pos (by rw [ht, hbeq]; rfl)] at e
          rw [e', get_filter (fun c => !(Nat.ble nx c || o.wr.any (Nat.beq c))), if_neg (by rw [ht]; simp), e]
      · rw [if_neg hc]
        have ht : (Nat.ble nx c || o.wr.any (Nat.beq c)) = false := by
          rw [Bool.or_eq_false_iff]
          simp only [not_or] at hc
          refine ⟨ble_false hc.1, ?_⟩
          cases h : o.wr.any (Nat.beq c) with
          | false => rfl
          | true => exact absurd ((anyBeq _ _).1 h) hc.2
        rw [get_append_out _ _ _ fun e he hb => by
          rw [List.mem_filter] at he
          rw [hb, ht] at he
          cases he.2]
        rw [get_filter (fun c => !(Nat.ble nx c || o.wr.any (Nat.beq c))), if_pos (by rw [ht]; rfl)]
  refine ⟨fun args H nx r hr => ?_, fun args H nx => ?_⟩
  · unfold lend at hr
    split at hr
    · exact (T.bad_some hr).elim
    rename_i hck
    rw [Bool.and_eq_true] at hck
    obtain ⟨hnr, hbn⟩ := hck
    have hnoref := get_noref H hnr
    have hbn := nble hbn
    obtain ⟨s, h1, hr⟩ := T.bind_some hr
    split at hr
    · rename_i args' hdead hargs'
      obtain ⟨o, h2, hr⟩ := T.bind_some hr
      obtain ⟨hz, hr⟩ := T.need_some hr
      have := T.ret_some hr
      subst this
      rw [Bool.and_eq_true] at hz
      have hkeep := (hF.keeps args' s.H nx).res h2
      intro f z w vs hrel hra R hR
      obtain ⟨ht1, hr1, hnx, hlive⟩ := frzSt_to h1 (argSlots_TR hra 0) hrel hdead
      simp only at ht1 hr1 hnx hlive
      have hlen : vs.toList.length = args.length := hra.1.symm
      have hra1 := argsBack_ok ht1 args.length 0 args' vs.toList hargs' hlen fun j hj => by simp
      have hsame : ∀ c, c ≠ b → s.H.get c = H.get c := fun c hc => frzSt_get h1 hc (hnoref c)
      refine hF.to args' s.H nx o h2 f _ w vs hr1 hra1 R fun f2 z2 w2 v2 hp hv => ?_
      -- memory that is not lent
      let z3 : Z := fun k p => @ite _ ((H.get b).live ∧ k = (f b).k) (Classical.propDecidable _) none (z2 k p)
      have z3_in : ∀ k p, ((H.get b).live ∧ k = (f b).k) → z3 k p = none := fun k p h => by simp only [z3]; rw [if_pos h]
      have z3_out : ∀ k p, ¬ ((H.get b).live ∧ k = (f b).k) → z3 k p = z2 k p := fun k p h => by simp only [z3]; rw [if_neg h]
      have z3_some : ∀ k p v, z3 k p = some v → z2 k p = some v ∧ ¬ ((H.get b).live ∧ k = (f b).k) := fun k p v h => by
        by_cases hc : (H.get b).live ∧ k = (f b).k
        · rw [z3_in k p hc] at h; cases h
        · rw [z3_out k p hc] at h; exact ⟨h, hc⟩
      have z3_none : ∀ k p, z2 k p = none → z3 k p = none := fun k p h => by
        by_cases hc : (H.get b).live ∧ k = (f b).k
        · exact z3_in k p hc
        · rw [z3_out k p hc]; exact h
      have hown : ∀ p, (H.get b).live → z (f b).k p = none := fun p hl => (hrel.own b trivial hl).2.own p
      have zle3 : z.le z3 := fun k p v hv => by
        have hne : ¬ ((H.get b).live ∧ k = (f b).k) := by
          rintro ⟨hl, rfl⟩
          rw [hown p hl] at hv; cases hv
        rw [z3_out k p hne]
        exact hp.zle _ _ _ (zFrz_le hrel _ _ _ hv)
      have himg : ∀ k, img All f s.H k → img All f H k := by
        rintro k ⟨c, _, hl, rfl⟩
        exact ⟨c, trivial, (hlive c hl).2, rfl⟩
      have hnimg : (H.get b).live → ¬ img All f s.H (f b).k := by
        rintro hl ⟨c, _, hlc, e⟩
        obtain ⟨h5, h6⟩ := hlive c hlc
        exact hrel.inj c b trivial trivial h6 hl h5 e
      have znew3 : ∀ k p v, z3 k p = some v → z k p = some v ∨ w.heap.size ≤ k ∨ img All f s.H k := fun k p v hv => by
        obtain ⟨h5, h6⟩ := z3_some k p v hv
        rcases hp.znew k p v h5 with h7 | h7
        · rcases zFrz_some h7 with ⟨h8, h9, _⟩ | h8
          · exact absurd ⟨h8, h9⟩ h6
          · exact .inl h8
        · exact .inr h7
      have hcase : ∀ c, c ≠ b → (if nx ≤ c ∨ c ∈ o.wr then o.H.get c else H.get c) = o.H.get c := fun c hc => by
        split
        · rfl
        · rename_i hn
          simp only [not_or] at hn
          rw [hkeep.2 c (by omega) hn.2, hsame c hc]
      have hHo : ∀ c, Heap.get ((b, H.get b) :: ((o.H.filter fun e => (Nat.ble nx e.1 || o.wr.any (Nat.beq e.1)) && !(Nat.beq e.1 b)) ++ (H.filter fun e => !(Nat.ble nx e.1 || o.wr.any (Nat.beq e.1))))) c = if c = b then H.get b else o.H.get c := fun c => by
        rw [hget]
        split
        · rfl
        · rename_i hc; exact hcase c hc
      have hfb : f2 b = f b := hp.ext b hbn
      refine hR f2 z3 w2 v2 ⟨hp.hnx, hp.ext, zle3, fun k p v hv => (znew3 k p v hv).imp id (Or.imp id (himg k)), fun _ _ hs => absurd trivial hs, fun c hc hl => ?_, ⟨fun c _ hl => ?_, fun c d _ _ hl hl' hcd => ?_, fun k p v hv => hp.rel.zok k p v (z3_some k p v hv).1⟩, fun c hc hl => ?_, hp.fr.less fun x _ => himg x, fun he m hm hN c l hc hg x hx => ?_⟩ (SV.noZ_ok hz.1 hv)
      · simp only [hHo] at hl
        split at hl
        · rename_i e; rw [e]; exact hl
        · exact (hlive c (hp.dead c hc hl)).2
      · simp only [hHo] at hl ⊢
        split at hl
        · rename_i e
          subst e
          rw [if_pos rfl]
          obtain ⟨h5, h6⟩ := hrel.own c trivial hl
          exact ⟨Nat.lt_of_lt_of_le h5 hp.hnx, h6.kept h5 hp.fr (hnimg hl) hp.ext hp.hnx zle3 znew3⟩
        · rename_i e
          rw [if_neg e]
          obtain ⟨h5, h6⟩ := hp.all.own c trivial hl
          exact ⟨h5, Ob.noZ_ok (get_noZ o.H hz.2 c) (fun p => z3_none _ p) h6⟩
      · simp only [hHo] at hl hl'
        have side : ∀ c, c ≠ b → (o.H.get c).live → (H.get b).live → (f2 c).k ≠ (f b).k := fun c hc hlc hlb e => by
          rcases Nat.lt_or_ge c nx with h | h
          · rw [hp.ext c h] at e
            exact hrel.inj c b trivial trivial (hlive c (hp.dead c h hlc)).2 hlb hc e
          · rcases hp.fresh c h hlc with h5 | h5
            · have := (hrel.own b trivial hlb).2.lt
              omega
            · rw [e] at h5
              exact hnimg hlb h5
        by_cases e1 : c = b <;> by_cases e2 : d = b
        · exact absurd (e1.trans e2.symm) hcd
        · subst e1
          rw [if_pos rfl] at hl
          rw [if_neg e2] at hl'
          rw [hfb]
          exact (side d e2 hl' hl).symm
        · subst e2
          rw [if_pos rfl] at hl'
          rw [if_neg e1] at hl
          rw [hfb]
          exact side c e1 hl hl'
        · rw [if_neg e1] at hl
          rw [if_neg e2] at hl'
          exact hp.all.inj c d trivial trivial hl hl' hcd
      · simp only [hHo] at hl
        have hc : nx ≤ c := hc
        rw [if_neg (by omega)] at hl
        exact (hp.fresh c hc hl).imp id (himg _)
      · simp only [hHo] at hg
        split at hg
        · rename_i e
          subst e
          exact hN c l hc hg x hx
        · rename_i e
          refine hp.noesc he m hm (fun c' l' hc' hg' x' hx' => ?_) c l hc hg x hx
          by_cases e' : c' = b
          · rw [e', hdead] at hg'; cases hg'
          · rw [hsame c' e'] at hg'
            exact hN c' l' hc' hg' x' hx'
    · exact (T.bad_some hr).elim
  · unfold lend
    split
    · trivial
    · refine T.Every.bind (fun s => ?_) _
      split
      · rename_i args' _ _
        refine T.Every.bind2 (q := fun o => nx ≤ o.nx ∧ ∀ b, b < nx → b ∉ o.wr → o.H.get b = s.H.get b) (fun o ho => ?_) (hF.keeps args' s.H nx)
        refine T.Every.need ⟨ho.1, fun c hc hw => ?_⟩
        simp only [hget]
        by_cases e : c = b
        · rw [if_pos e, e]
        · rw [if_neg e, if_neg (by simp only [not_or]; exact ⟨by omega, hw⟩)]
      · trivial

/-- own slices among the arguments are lent -/
noncomputable def lendN : Nat → SumF → SumF
  | 0, F => F
  | k + 1, F => fun args H nx => match args.flatMap AV.tops with
    | [] => F args H nx
    | b :: _ => lend (lendN k F) b args H nx

theorem lendN_ok {P : Program} {g : Nat} {F : SumF} (hF : SumOk P g F) : ∀ k, SumOk P g (lendN k F)
  | 0 => hF
  | k + 1 => by
    refine ⟨fun args H nx r hr => ?_, fun args H nx => ?_⟩
    · simp only [lendN] at hr
      split at hr
      · exact hF.to args H nx r hr
      · exact (lend_ok (lendN_ok hF k) _).to args H nx r hr
    · simp only [lendN]
      split
      · exact hF.keeps args H nx
      · exact (lend_ok (lendN_ok hF k) _).keeps args H nx

noncomputable def lendSum (F : SumF) : SumF := canonSum (lendN 3 (canonSum F))
theorem lendSum_ok {P : Program} {g : Nat} {F : SumF} (hF : SumOk P g F) : SumOk P g (lendSum F) := canonSum_ok (lendN_ok (canonSum_ok hF) 3)

end Go.Proofs.Ytggneleipimijaa.En
/- The engine, part 34: loops that are known, told of the blocks alone that their slots reach. -/
namespace Go.Proofs.Ytggneleipimijaa.En
open Go
set_option linter.unusedVariables false
set_option linter.unusedSimpArgs false

theorem get_renS (ρ : Nat → Nat) : ∀ (l : Slots) (t : Nat), Slots.get (l.map fun x => (x.1, x.2.ren ρ)) t = (l.get t).ren ρ
  | [], t => rfl
  | (k, v) :: r, t => by
    rw [List.map_cons, Slots.get_cons, Slots.get_cons]
    split
    · rfl
    · exact get_renS ρ r t

def slRefs (sl : Slots) : List Nat := sl.flatMap fun x => x.2.refs

theorem slRefs_get {sl : Slots} {t c : Nat} (h : c ∈ (sl.get t).refs) : c ∈ slRefs sl := by
  rcases Slots.get_mem sl t with e | e
  · rw [e] at h; cases h
  · exact List.mem_flatMap.2 ⟨_, e, h⟩

/-- what is known of a loop: of its slots, and of what they reach, renamed -/
noncomputable def mkCodeF (live : List Nat) (c0 : Code) (N0 : Nat) (B : Slots → Heap → Nat → T (Ex × Slots × Heap × Nat × Bool)) (N : Nat) (c : Code) (st : St) : T (Ex × St) :=
  .need (pb (c = c0 ∧ N = N0)) (pruneK st.sl live fun sl =>
    let ids := (reach st.H 4000 (slRefs sl) []).reverse
    match okNames 0 st.nx ids st.H && (slRefs sl).all (okRef 0 ids) with
    | false => .bad
    | true => (B (sl.map fun x => (x.1, x.2.ren (reName 0 ids))) (renH 0 ids st.H) ids.length).bind fun x => match Nat.ble ids.length x.2.2.2.1 with
      | true => .ret (x.1, ⟨x.2.1.map fun y => (y.1, y.2.ren (backName ids st.nx)), backH ids st.nx x.2.2.2.1 x.2.2.1 ++ st.H.filter fun e => !(ids.any (Nat.beq e.1)), st.nx + (x.2.2.2.1 - ids.length),
          st.esc || escB ids (renH 0 ids st.H) ⟨.top, x.2.2.1, x.2.2.2.1, x.2.2.2.2, List.range ids.length⟩, st.base, ids ++ st.wr⟩)
      | false => .bad)

theorem mkCodeF_ok {P : Program} {live : List Nat} {c0 : Code} {N0 : Nat} {B : Slots → Heap → Nat → T (Ex × Slots × Heap × Nat × Bool)}
    (h : ∀ sl H nx e sl' H' nx' esc', (B sl H nx).res = some (e, sl', H', nx', esc') → CodeOk P N0 c0 ⟨sl, H, nx, false, 0, []⟩ e ⟨sl', H', nx', esc', 0, []⟩) : LoopOk P (mkCodeF live c0 N0 B) := by
  refine ⟨fun N c st e st' hr => ?_, fun N c st => ?_⟩
  · unfold mkCodeF at hr
    obtain ⟨hp, hr2⟩ := T.need_some hr
    clear hr
    obtain ⟨rfl, rfl⟩ := pb_of hp
    obtain ⟨sl, h1, h2⟩ := pruneK_eq (β := T (Ex × St)) st.sl live
    rw [h1] at hr2
    dsimp only at hr2
    generalize hids : (reach st.H 4000 (slRefs sl) []).reverse = ids at hr2
    split at hr2
    · exact (T.bad_some hr2).elim
    rename_i hok
    rw [Bool.and_eq_true] at hok
    have hn := okNames_ok hok.1
    have hargs : ∀ c ∈ slRefs sl, c < 0 ∨ c ∈ ids := fun c hc => okRef_ok (List.all_eq_true.1 hok.2 c hc)
    obtain ⟨⟨e1, sl1, H1, nx1, esc1⟩, hb, hr⟩ := T.bind_some hr2
    simp only at hr
    split at hr
    · rename_i hle
      have hle := nble hle
      have := T.ret_some hr
      simp only [Prod.mk.injEq] at this
      obtain ⟨rfl, rfl⟩ := this
      have hc := h _ _ _ _ _ _ _ _ hb
      refine ⟨fun he => by simp only [Bool.or_eq_false_iff] at he; exact he.1, fun f z w a ht hrel hN hd Q hQ => ?_⟩
      have hrel0 := hrel.ren hn
      rw [Nat.zero_add] at hrel0
      have hts : TR f st.nx z sl a.tmps := fun t => by
        rw [h2]
        split
        · exact ht t
        · trivial
      refine hc.2 (fun b => f (unName 0 ids b)) z w a (fun t => ?_) hrel0 hN hd Q fun f0 z' w' a' hp ht' hN' hd' => ?_
      · rw [get_renS]
        exact (hts t).ren fun c hcr => by have := hn.led f (hargs c (slRefs_get hcr)); rwa [Nat.zero_add] at this
      · obtain ⟨f', k1, k2, _⟩ := framed (o := ⟨.top, H1, nx1, esc1, List.range ids.length⟩) hn hle (fun b hb hw => absurd (List.mem_range.2 hb) hw) hrel hp
        refine hQ f' z' w' a' (k1.weak fun he => ?_) (fun t => ?_) hN' hd'
        · simp only [Bool.or_eq_false_iff] at he
          exact he.2
        · simp only
          rw [get_renS]
          exact (ht' t).ren fun c hcr => k2 c ((ht' t).refs_lt c hcr)
    · exact (T.bad_some hr).elim
  · unfold mkCodeF
    refine T.Every.need ?_
    obtain ⟨sl, h1⟩ := pruneK_at (β := T (Ex × St)) st.sl live
    rw [h1]
    dsimp only
    generalize hids : (reach st.H 4000 (slRefs sl) []).reverse = ids
    split
    · trivial
    · rename_i hok
      rw [Bool.and_eq_true] at hok
      have hn := okNames_ok hok.1
      have hB : Back ids st.nx := ⟨fun c hc => (hn.ge c hc).2, hn.nodup⟩
      refine T.Every.bind (fun x => ?_) _
      split
      · rename_i hle
        have hle := nble hle
        refine ⟨rfl, Nat.le_add_right _ _, fun b hb hn' hw => ?_⟩
        simp only [List.mem_append, not_or] at hw
        obtain ⟨w1, w2⟩ := hw
        refine ⟨w2, ?_⟩
        simp only
        rw [get_append_out, get_filter (fun b => !(ids.any (Nat.beq b))), if_pos]
        · cases hq : ids.any (Nat.beq b) with
          | false => rfl
          | true => exact absurd ((anyBeq ids b).1 hq) w1
        · intro e he
          unfold backH at he
          obtain ⟨y, hy, rfl⟩ := List.mem_map.1 he
          intro h2
          simp only at h2
          rcases Nat.lt_or_ge y.1 ids.length with hi | hi
          · rw [(hB.old hi).1] at h2
            exact w1 (h2 ▸ List.getElem_mem hi)
          · rw [Back.new hi] at h2
            omega
      · trivial

/-- what is known of a loop -/
noncomputable def mkLoopF (live : List Nat) (c0 : Code) (N0 : Nat) (B : Slots → Heap → Nat → T (Ex × Slots × Heap × Nat × Bool)) : Nat → Code → St → T (Ex × St) := mkCodeF live (.loop c0) N0 B
theorem mkLoopF_ok {P : Program} {live : List Nat} {c0 : Code} {N0 : Nat} {B : Slots → Heap → Nat → T (Ex × Slots × Heap × Nat × Bool)}
    (h : ∀ sl H nx e sl' H' nx' esc', (B sl H nx).res = some (e, sl', H', nx', esc') → CodeOk P N0 (.loop c0) ⟨sl, H, nx, false, 0, []⟩ e ⟨sl', H', nx', esc', 0, []⟩) : LoopOk P (mkLoopF live c0 N0 B) := mkCodeF_ok h

/-- a code's run from a state of which less is said -/
theorem CodeOk.from {P : Program} {N : Nat} {c : Code} {st st1 : St} {e : Ex} {st2 : St} (h : CodeOk P N c st1 e st2) (hle : StLe st.nx st st1) : CodeOk P N c st e st2 := by
  refine ⟨fun he => hle.esc (h.1 he), fun f z w a ht hr hN hd Q hQ => ?_⟩
  obtain ⟨f1, z1, ht1, hp1⟩ := hle.to f z w a.tmps ht hr
  refine h.2 f1 z1 w a ht1 hp1.all hN hd Q fun f' z' w' a' hp ht' hN' hd' => hQ f' z' w' a' ((Post.trans' hp1 hp hp1.hnx).weak fun he => ?_) ht' hN' hd'
  rw [Bool.or_eq_false_iff]
  exact ⟨h.1 he, he⟩

def SV.tops : SV → List Nat
  | .v a => a.tops
  | _ => []

/-- a pointer into one of these blocks is no longer told -/
def SV.noPtr (bs : List Nat) : SV → SV
  | .v (.one (.ptr c m i j)) => match bs.any (Nat.beq c) with | true => .top | false => .v (.one (.ptr c m i j))
  | x => x
theorem SV.noPtr_le (bs : List Nat) (s : SV) : s.le (s.noPtr bs) := by
  unfold SV.noPtr
  split
  · split
    · exact .inl rfl
    · exact .inr (.inl rfl)
  · exact .inr (.inl rfl)
def Slots.noPtr (bs : List Nat) : Slots → Slots
  | [] => []
  | (k, v) :: r => (k, v.noPtr bs) :: Slots.noPtr bs r
theorem Slots.noPtr_get (bs : List Nat) (t : Nat) : ∀ sl : Slots, (Slots.noPtr bs sl).get t = (sl.get t).noPtr bs
  | [] => rfl
  | (k, v) :: r => by
    simp only [Slots.noPtr, Slots.get]
    cases Nat.beq k t
    · exact Slots.noPtr_get bs t r
    · rfl

/-- slices in these slots are never written any more -/
def frzAt (slots : List Nat) (st : St) : T St :=
  (frzL (slots.flatMap fun t => (st.sl.get t).tops) ⟨Slots.noPtr (slots.flatMap fun t => (st.sl.get t).tops) st.sl, st.H, st.nx, st.esc, st.base, st.wr⟩).bind fun s =>
    .ret { s with H := s.H.filter (fun e => (st.H.map (·.1)).any (Nat.beq e.1)), nx := st.nx, base := st.base, wr := st.H.map (·.1) ++ st.wr }

def preL : List (Nat × Nat × List Nat) → Nat → Nat → Option (St → T St)
  | [], _, _ => none
  | (k, j, l) :: r, g, id => match Nat.beq k g && Nat.beq j id with | true => some (frzAt l) | false => preL r g id

theorem preL_some : ∀ (l : List (Nat × Nat × List Nat)) (g id : Nat) (p : St → T St), preL l g id = some p → ∃ s, p = frzAt s
  | [], g, id, p, h => by cases h
  | (k, j, x) :: r, g, id, p, h => by
    simp only [preL] at h
    split at h
    · exact ⟨x, (Option.some.inj h).symm⟩
    · exact preL_some r g id p h

/-- with what is known, and slices that are never written any more from a region on -/
def Ctx.withP (G : Ctx) (s : List (Nat × SumF)) (l : List (Nat × Nat × LoopF)) (p : List (Nat × Nat × List Nat)) : Ctx := ⟨G.ti, G.fi, G.sym, sumL s, lsL l, preL p⟩

theorem CtxOk.withP {P : Program} {G : Ctx} (h : CtxOk P G) (s : List (Nat × SumF)) (l : List (Nat × Nat × LoopF)) (p : List (Nat × Nat × List Nat)) : CtxOk P (G.withP s l p) := ⟨h.ti, h.fi, h.mixed⟩

theorem KnownOk.listsP {P : Program} {G : Ctx} {s : List (Nat × SumF)} {l : List (Nat × Nat × LoopF)} {p : List (Nat × Nat × List Nat)} (hs : ∀ x ∈ s, SumOk P x.1 x.2) (hl : ∀ x ∈ l, LoopOk P x.2.2) : KnownOk P (G.withP s l p) where
  sum := fun g F h => (sumL_ok s hs g F h).to
  ls := fun F id L h => (lsL_ok l hl F id L h).to
  sumK := fun g F h => (sumL_ok s hs g F h).keeps
  lsK := fun F id L h => (lsL_ok l hl F id L h).keeps
  pre := fun F id q h st st1 hr N c e st2 hc => by
    obtain ⟨sl, rfl⟩ := preL_some p F id q h
    obtain ⟨s, h1, h2⟩ := T.bind_some hr
    have := T.ret_some h2
    subst this
    obtain ⟨hle, hnx, hesc⟩ := frzL_ok (m := st.nx) (sl.flatMap fun t => (st.sl.get t).tops) ⟨Slots.noPtr (sl.flatMap fun t => (st.sl.get t).tops) st.sl, st.H, st.nx, st.esc, st.base, st.wr⟩ s (Nat.le_refl st.nx) h1
    simp only at hnx
    refine hc.from ((StLe.less (m := st.nx) (s := st) (base := st.base) (wr := st.wr) (Nat.le_refl _) (fun t => (Slots.noPtr_get (sl.flatMap fun t => (st.sl.get t).tops) t st.sl) ▸ SV.noPtr_le _ _) (fun b => .inl rfl)).trans (hle.trans ?_))
    have := StLe.sift (m := st.nx) (s := s) (by omega) fun b => (st.H.map (·.1)).any (Nat.beq b)
    refine ⟨this.esc, fun f z w a ht hr => ?_⟩
    have := this.to f z w a ht hr
    simpa only [hnx] using this
  preK := fun F id q h st => by
    obtain ⟨sl, rfl⟩ := preL_some p F id q h
    unfold frzAt
    refine T.Every.bind (fun s => ?_) _
    show Kp st _
    refine ⟨rfl, Nat.le_refl _, fun b hb hn hw => ?_⟩
    simp only [List.mem_append, not_or] at hw
    refine ⟨hw.2, ?_⟩
    simp only
    rw [get_filter (fun b => (st.H.map (·.1)).any (Nat.beq b)), if_neg, get_none _ _ hw.1]
    intro h
    exact hw.1 ((anyBeq _ _).1 h)

end Go.Proofs.Ytggneleipimijaa.En
