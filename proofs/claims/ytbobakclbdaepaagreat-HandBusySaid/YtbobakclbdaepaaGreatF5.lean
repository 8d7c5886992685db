/- The engine, part 28: arguments as they are read; a law's end. -/
import Derived.Test.YtbobakclbdaepaaGreatF4
import Derived.DataElems
import Derived.ChangeShapes
import Derived.DataReads
namespace Go.Proofs.YtbobakclbdaepaaGreat.En
open Go
set_option linter.unusedVariables false
set_option linter.unusedSimpArgs false

/-- a cell's shape -/
inductive Sh where
  | bool | int (k : IntKind) | str | sl (sz : Nat) (e : List Sh)

def shapes (P : Program) (rec' : Nat → Option (List Sh)) : List Field → Nat → Option (List Sh)
  | [], _ => some []
  | f :: r, off => match rec' f.type, Nat.beq f.offset off with
    | some a, true => match Nat.beq a.length (P.cellsOf f.type), shapes P rec' r (off + a.length) with
      | true, some b => some (a ++ b)
      | _, _ => none
    | _, _ => none

def shapeOf (P : Program) : Nat → Nat → Option (List Sh)
  | 0, _ => none
  | d + 1, t => match P.underlying t with
    | some .bool => some [.bool]
    | some (.int k) => some [.int k]
    | some .string => some [.str]
    | some (.slice e) => match shapeOf P d e with
      | some s => match Nat.beq s.length (P.cellsOf e) && Nat.ble 1 s.length with | true => some [.sl s.length s] | false => none
      | none => none
    | some (.struct fs) => match shapes P (shapeOf P d) fs.toList 0 with
      | some s => match Nat.beq s.length (P.cellsOf t) with | true => some s | false => none
      | none => none
    | _ => none

mutual
def RSh (w : World) : Sh → Value → Prop
  | .bool, v => ∃ b, v = .bool b
  | .int k, v => ∃ n, v = .int k n ∧ k.min ≤ n ∧ n ≤ k.max
  | .str, v => ∃ s, v = .string s ∧ s.size ≤ maxLen
  | .sl sz e, v => v = .slice none 0 0 ∨ ∃ a n cap, v = .slice (some a) n cap ∧ n ≤ cap ∧ cap ≤ maxLen ∧ (0 < n → ∃ k o, a = ⟨k, o, none⟩ ∧ ∀ i, i < n → RShs w e k (o + i * sz))
def RShs (w : World) : List Sh → Nat → Nat → Prop
  | [], _, _ => True
  | s :: r, k, o => (∃ u, w.cell? ⟨k, o, none⟩ = some u ∧ RSh w s u) ∧ RShs w r k (o + 1)
end

def RShl (w : World) : List Sh → List Value → Prop
  | [], [] => True
  | s :: r, v :: vs => RSh w s v ∧ RShl w r vs
  | _, _ => False

theorem RShl.append {w : World} : ∀ {a b : List Sh} {u v : List Value}, RShl w a u → RShl w b v → RShl w (a ++ b) (u ++ v)
  | [], b, [], v, _, h => h
  | s :: a, b, x :: u, v, h, k => ⟨h.1, RShl.append h.2 k⟩
  | [], _, _ :: _, _, h, _ => h.elim
  | _ :: _, _, [], _, h, _ => h.elim

theorem RShl.len {w : World} : ∀ {a : List Sh} {u : List Value}, RShl w a u → u.length = a.length
  | [], [], _ => rfl
  | _ :: a, _ :: u, h => by simp [RShl.len h.2]
  | [], _ :: _, h => h.elim
  | _ :: _, [], h => h.elim

theorem RShs.of {w : World} {k : Nat} : ∀ {a : List Sh} {u : List Value} {o : Nat}, RShl w a u → (∀ j v, u[j]? = some v → w.cell? ⟨k, o + j, none⟩ = some v) → RShs w a k o
  | [], [], _, _, _ => trivial
  | s :: a, x :: u, o, h, hc => ⟨⟨x, hc 0 x rfl, h.1⟩, RShs.of h.2 fun j v hj => by
      have := hc (j + 1) v (by simpa using hj)
      rw [show o + 1 + j = o + (j + 1) by omega]
      exact this⟩
  | [], _ :: _, _, h, _ => h.elim
  | _ :: _, [], _, h, _ => h.elim

section
variable {H : Type} {enc : TypeId × Value → H} {P : Program} {w : World} {base : Nat} {sp : Nat → Bool} {held : Bool}

omit enc base sp held in
theorem shapes_read {cs : List Value} {rec' : Nat → Option (List Sh)} : ∀ (fs : List Field) (off : Nat) (ss : List Sh), shapes P rec' fs off = some ss →
    (∀ f ∈ fs, ∀ ss, rec' f.type = some ss → RShl w ss ((cs.drop f.offset).take (P.cellsOf f.type))) → RShl w ss ((cs.drop off).take ss.length)
  | [], off, ss, h, _ => by
    simp only [shapes, Option.some.injEq] at h
    subst h
    simp [RShl]
  | f :: r, off, ss, h, hf => by
    simp only [shapes] at h
    split at h
    · rename_i a h1 h2
      split at h
      · rename_i b h3 h4
        simp only [Option.some.injEq] at h
        subst h
        have e1 := nbeq h2
        have e2 := nbeq h3
        have k1 := hf f (List.mem_cons_self ..) a h1
        rw [e1, ← e2] at k1
        have k2 := shapes_read r (off + a.length) b h4 fun g hg => hf g (List.mem_cons_of_mem _ hg)
        rw [List.length_append, List.take_add, List.drop_drop]
        exact k1.append k2
      · cases h
    · cases h

theorem shape_read : ∀ (d : Nat) (t : Nat) (ss : List Sh), shapeOf P d t = some ss → ∀ (fuel : Nat) (cs : List Value) (x : DataW H × List MemPlace), DataW.trod enc P w base sp held fuel t cs = some x → RShl w ss cs
  | 0, t, ss, h, _, _, _, _ => by cases h
  | d + 1, t, ss, h, fuel, cs, x, hx => by
    cases fuel with
    | zero => cases hx
    | succ fuel =>
      simp only [shapeOf] at h
      split at h
      · rename_i hu
        simp only [Option.some.injEq] at h
        subst h
        unfold DataW.trod at hx
        rw [hu] at hx
        split at hx <;> first | (rename_i heq; cases heq; done) | (cases hx; done) | skip
        exact ⟨⟨_, rfl⟩, trivial⟩
      · rename_i k hu
        simp only [Option.some.injEq] at h
        subst h
        unfold DataW.trod at hx
        rw [hu] at hx
        split at hx <;> first | (rename_i heq; cases heq; done) | (cases hx; done) | skip
        rename_i heq
        simp only [Option.some.injEq, TypeDesc.int.injEq] at heq
        subst heq
        split at hx
        · rename_i hk
          obtain ⟨rfl, hw⟩ := hk
          simp only [Lit.wf, Bool.and_eq_true, decide_eq_true_eq] at hw
          exact ⟨⟨_, rfl, hw.1, hw.2⟩, trivial⟩
        · cases hx
      · rename_i hu
        simp only [Option.some.injEq] at h
        subst h
        unfold DataW.trod at hx
        rw [hu] at hx
        split at hx <;> first | (rename_i heq; cases heq; done) | (cases hx; done) | skip
        rename_i heq
        split at hx
        · rename_i hs
          exact ⟨⟨_, rfl, hs⟩, trivial⟩
        · cases hx
      · rename_i e hu
        split at h
        · rename_i s hs
          split at h
          · rename_i hb
            rw [Bool.and_eq_true] at hb
            have hl := nbeq hb.1
            have h1 := nble hb.2
            simp only [Option.some.injEq] at h
            subst h
            unfold DataW.trod at hx
            rw [hu] at hx
            split at hx <;> first | (rename_i heq; cases heq; done) | (cases hx; done) | skip
            · exact ⟨.inl rfl, trivial⟩
            · rename_i e' a len cap heq
              simp only [Option.some.injEq, TypeDesc.slice.injEq] at heq
              subst heq
              dsimp only at hx
              split at hx
              · rename_i hc
                obtain ⟨_, c2, c3⟩ := hc
                obtain ⟨elems, he, _⟩ := Option.bind_eq_some_iff.1 hx
                refine ⟨.inr ⟨a, len, cap, rfl, c2, c3, fun hpos => ?_⟩, trivial⟩
                have at' : ∀ i, i < len → ∃ cs y, cs.length = P.cellsOf e ∧ (∀ j, j < P.cellsOf e → w.cell? ((a.add (i * P.cellsOf e)).add j) = cs[j]?) ∧ DataW.trod enc P w base sp held fuel e cs = some y := fun i hi => by
                  obtain ⟨y, hy⟩ : ∃ y, (w.cells? base (a.add (i * P.cellsOf e)) (P.cellsOf e)).bind (DataW.trod enc P w base sp held fuel e) = some y := by
                    have h1 := mapM_some_get he i i (by rw [List.getElem?_range hi])
                    have h2 := mapM_some_length he
                    rw [List.getElem?_eq_getElem (by rw [h2]; simpa using hi)] at h1
                    exact ⟨_, h1⟩
                  obtain ⟨cs, h2, h3⟩ := Option.bind_eq_some_iff.1 hy
                  obtain ⟨_, h4, h5⟩ := World.cells?_some h2
                  exact ⟨cs, y, h4, h5, h3⟩
                have hsp : a.spot = none := by
                  obtain ⟨cs, y, h4, h5, _⟩ := at' 0 hpos
                  have := h5 0 (by omega)
                  rw [List.getElem?_eq_getElem (by omega)] at this
                  have e0 : (a.add (0 * P.cellsOf e)).add 0 = a := by simp [Addr.add]
                  rw [e0] at this
                  exact World.cell?_spot this
                obtain ⟨k, o, q⟩ := a
                simp only at hsp
                subst hsp
                refine ⟨k, o, rfl, fun i hi => ?_⟩
                obtain ⟨cs, y, h4, h5, h6⟩ := at' i hi
                refine RShs.of (shape_read d e s hs fuel cs y h6) fun j v hj => ?_
                have hjlt := (List.getElem?_eq_some_iff.1 hj).1
                have := h5 j (by omega)
                rw [hj, Addr.add_add] at this
                rw [← this, show o + i * s.length + j = o + (i * P.cellsOf e + j) by rw [hl]; omega]
                generalize i * P.cellsOf e + j = q
                unfold Addr.add
                split
                · rename_i h0; subst h0; rfl
                · rfl
              · cases hx
          · cases h
        · cases h
      · rename_i fs hu
        split at h
        · rename_i s hs
          split at h
          · rename_i hb
            have hl := nbeq hb
            simp only [Option.some.injEq] at h
            subst h
            unfold DataW.trod at hx
            rw [hu] at hx
            split at hx <;> first | (rename_i heq; cases heq; done) | (cases hx; done) | (exfalso; simp_all; done) | skip
            rename_i cs1 x1 cs2 fs' heq
            simp only [Option.some.injEq, TypeDesc.struct.injEq] at heq
            subst heq
            split at hx
            · rename_i hlen
              obtain ⟨xs, hxs, _⟩ := Option.map_eq_some_iff.1 hx
              have := shapes_read (P := P) (w := w) (cs := cs1) (rec' := shapeOf P d) fs.toList 0 s hs fun f hf ss hss => by
                obtain ⟨i, hi⟩ := List.mem_iff_getElem?.1 hf
                have h1 := mapM_some_get hxs i f hi
                have h2 := mapM_some_length hxs
                have hlt := (List.getElem?_eq_some_iff.1 hi).1
                rw [List.getElem?_eq_getElem (by rw [h2]; exact hlt)] at h1
                exact shape_read d f.type ss hss fuel _ _ h1
              rw [List.drop_zero, hl, ← hlen, List.take_length] at this
              exact this
            · cases hx
          · cases h
        · cases h
      · cases h
end

end Go.Proofs.YtbobakclbdaepaaGreat.En
