/- Texts put together: E1, E2. -/
import Derived.Test.YtbobakclbdaepaaGreatG01
import Derived.Laws.Cells
import Derived.Laws.IdiomCopy
import Derived.Laws.World
import Derived.Laws.Rows
import Derived.Below
/- The engine, part 1: how abstract values and heaps stand for a world's. -/
namespace Go.Proofs.YtbobakclbdaepaaGreat.En
open Go
set_option linter.unusedVariables false

/-- where an own block lies: the world's block, from which cell on, how many cells of it there are -/
structure Loc where
  k : Nat
  d : Nat
  t : Nat

/-- cells that are never written any more -/
abbrev Z := Nat → Nat → Option Value

inductive RF (z : Z) : FV → Value → Prop
  | lit (v : Value) (h : v.oneCell' = true) : RF z (.lit v) v
  | z0n : RF z (.z0 true) (.slice none 0 0)
  | z0s (a : Addr) : RF z (.z0 false) (.slice (some a) 0 0)
  | fsn (sz : Nat) (e : Nat → List FV) : RF z (.fs true sz 0 e) (.slice none 0 0)
  | fs0 (sz : Nat) (e : Nat → List FV) (a : Addr) (cap : Nat) : RF z (.fs false sz 0 e) (.slice (some a) 0 cap)
  | fss (sz n : Nat) (e : Nat → List FV) (k o cap : Nat) (g : Nat → Nat → Value) (hc : n ≤ cap)
      (h1 : ∀ i j, i < n → j < sz → z k (o + (i * sz + j)) = some (g i j))
      (h2 : ∀ i j x, i < n → j < sz → (e i)[j]? = some x → RF z x (g i j)) (h3 : ∀ i j, i < n → j < sz → (g i j).oneCell' = true) : RF z (.fs false sz n e) (.slice (some ⟨k, o, none⟩) n cap)
  | fp (l : List FV) (k o : Nat) (g : Nat → Value) (h1 : ∀ j, j < l.length → z k (o + j) = some (g j))
      (h2 : ∀ j x, l[j]? = some x → RF z x (g j)) : RF z (.fp l) (.pointer (some ⟨k, o, none⟩))

def Z.le (z z' : Z) : Prop := ∀ k o v, z k o = some v → z' k o = some v

theorem RF.mono {z z' : Z} (hz : z.le z') {x : FV} {v : Value} (h : RF z x v) : RF z' x v := by
  induction h with
  | lit v h => exact .lit v h
  | z0n => exact .z0n
  | z0s a => exact .z0s a
  | fsn sz e => exact .fsn sz e
  | fs0 sz e a cap => exact .fs0 sz e a cap
  | fss sz n e k o cap g hc h1 _ h3 ih => exact .fss sz n e k o cap g hc (fun i j hi hj => hz _ _ _ (h1 i j hi hj)) ih h3
  | fp l k o g h1 _ ih => exact .fp l k o g (fun j hj => hz _ _ _ (h1 j hj)) ih

theorem RF.one {z : Z} {x : FV} {v : Value} (h : RF z x v) : v.oneCell' = true := by
  cases h <;> first | assumption | rfl

abbrev Fn := Nat → Loc

def ad (f : Fn) (b m i j : Nat) : Addr := ⟨(f b).k, (f b).d + (i * m + j), none⟩

def RC (f : Fn) (nx : Nat) (z : Z) : CV → Value → Prop
  | .f x, v => RF z x v
  | .ptr b m i j, v => b < nx ∧ v = .pointer (some (ad f b m i j))
  | .sl nil b m i j len cap ex sz, v => b < nx ∧ (nil = true → len = 0 ∧ cap = 0 ∧ v = .slice none 0 0) ∧
      (nil = false → ∃ cap', v = .slice (some (ad f b m i j)) len cap' ∧ len ≤ cap' ∧ cap ≤ cap' ∧ (ex = true → cap' = cap) ∧ (i * m + j) + cap' * sz ≤ (f b).t)
  | .mp b, v => b < nx ∧ v = .map (some (f b).k)
  | .fn g l, v => v = .func (.func g) #[] (l.map fun x => Value.pointer (some (ad f x.1 x.2.1 x.2.2.1 x.2.2.2))).toArray ∧ ∀ x ∈ l, x.1 < nx

theorem RC.one {f : Fn} {nx : Nat} {z : Z} {x : CV} {v : Value} (h : RC f nx z x v) : v.oneCell' = true := by
  cases x with
  | f x => exact RF.one h
  | ptr => obtain ⟨_, rfl⟩ := h; rfl
  | sl nil =>
    obtain ⟨_, h1, h2⟩ := h
    cases nil with
    | true => obtain ⟨_, _, rfl⟩ := h1 rfl; rfl
    | false => obtain ⟨c, rfl, _⟩ := h2 rfl; rfl
  | mp => obtain ⟨_, rfl⟩ := h; rfl
  | fn => obtain ⟨rfl, _⟩ := h; rfl

/-- f' goes on from f -/
def Ext (nx : Nat) (f f' : Fn) : Prop := ∀ b, b < nx → f' b = f b

theorem RC.mono {f f' : Fn} {nx nx' : Nat} {z z' : Z} (hf : Ext nx f f') (hn : nx ≤ nx') (hz : z.le z') {x : CV} {v : Value} (h : RC f nx z x v) : RC f' nx' z' x v := by
  cases x with
  | f x => exact RF.mono hz h
  | ptr b m i j => obtain ⟨h1, rfl⟩ := h; exact ⟨by omega, by simp [ad, hf b h1]⟩
  | sl nil b m i j len cap ex sz =>
    obtain ⟨h0, h1, h2⟩ := h
    refine ⟨by omega, h1, fun hn => ?_⟩
    obtain ⟨c, rfl, h3⟩ := h2 hn
    exact ⟨c, by simp [ad, hf b h0], by rw [hf b h0]; exact h3⟩
  | mp b => obtain ⟨h1, rfl⟩ := h; exact ⟨by omega, by rw [hf b h1]⟩
  | fn g l =>
    obtain ⟨rfl, h⟩ := h
    refine ⟨?_, fun x hx => by have := h x hx; omega⟩
    congr 2
    exact List.map_congr_left fun x hx => by simp [ad, hf x.1 (h x hx)]

/-- what leads to no block behind n0 needs no block behind n0 -/
theorem RC.below {f : Fn} {nx n0 : Nat} {z : Z} {x : CV} {v : Value} (h : RC f nx z x v) (hb : x.beyond n0 = false) : RC f n0 z x v := by
  have key : ∀ b : Nat, Nat.ble n0 b = false → b < n0 := fun b hb => by
    rcases Nat.lt_or_ge b n0 with h | h
    · exact h
    · rw [Nat.ble_eq_true_of_le h] at hb; cases hb
  cases x with
  | f x => exact h
  | ptr b m i j => exact ⟨key _ hb, h.2⟩
  | sl nil b m i j len cap ex sz => exact ⟨key _ hb, h.2⟩
  | mp b => exact ⟨key _ hb, h.2⟩
  | fn g l =>
    refine ⟨h.1, fun x hx => ?_⟩
    simp only [CV.beyond, List.any_eq_false] at hb
    simpa using hb x hx

/-- cell by cell -/
def RL (f : Fn) (nx : Nat) (z : Z) (l : List CV) (vs : List Value) : Prop := l.length = vs.length ∧ ∀ (i : Nat) x v, l[i]? = some x → vs[i]? = some v → RC f nx z x v

theorem RL.mono {f f' : Fn} {nx nx' : Nat} {z z' : Z} (hf : Ext nx f f') (hn : nx ≤ nx') (hz : z.le z') {l : List CV} {vs : List Value} (h : RL f nx z l vs) : RL f' nx' z' l vs :=
  ⟨h.1, fun i x v hx hv => RC.mono hf hn hz (h.2 i x v hx hv)⟩

def RA (f : Fn) (nx : Nat) (z : Z) : AV → Value → Prop
  | .one x, v => RC f nx z x v
  | .agg l, v => ∃ cs : Array Value, v = .agg cs ∧ RL f nx z l cs.toList

theorem RA.mono {f f' : Fn} {nx nx' : Nat} {z z' : Z} (hf : Ext nx f f') (hn : nx ≤ nx') (hz : z.le z') {x : AV} {v : Value} (h : RA f nx z x v) : RA f' nx' z' x v := by
  cases x with
  | one x => exact RC.mono hf hn hz h
  | agg l => obtain ⟨cs, rfl, h⟩ := h; exact ⟨cs, rfl, h.mono hf hn hz⟩

theorem cells_of_one {v : Value} (h : v.oneCell' = true) : v.cells = #[v] := by
  cases v <;> first | rfl | cases h

theorem RA.cells {f : Fn} {nx : Nat} {z : Z} {x : AV} {v : Value} (h : RA f nx z x v) : RL f nx z x.cells v.cells.toList := by
  cases x with
  | one x =>
    have h1 := RC.one h
    rw [cells_of_one h1]
    refine ⟨rfl, fun i y u hy hu => ?_⟩
    match i with
    | 0 =>
      simp [AV.cells] at hy hu
      subst hy
      subst hu
      exact h
    | i + 1 => simp [AV.cells] at hy
  | agg l => obtain ⟨cs, rfl, h⟩ := h; exact h

def RAs (f : Fn) (nx : Nat) (z : Z) (l : List AV) (vs : List Value) : Prop := l.length = vs.length ∧ ∀ (i : Nat) x v, l[i]? = some x → vs[i]? = some v → RA f nx z x v

theorem RAs.mono {f f' : Fn} {nx nx' : Nat} {z z' : Z} (hf : Ext nx f f') (hn : nx ≤ nx') (hz : z.le z') {l : List AV} {vs : List Value} (h : RAs f nx z l vs) : RAs f' nx' z' l vs :=
  ⟨h.1, fun i x v hx hv => RA.mono hf hn hz (h.2 i x v hx hv)⟩

theorem RAs.nil {f : Fn} {nx : Nat} {z : Z} : RAs f nx z [] [] := ⟨rfl, fun i x v h => by simp at h⟩

theorem RAs.cons {f : Fn} {nx : Nat} {z : Z} {x : AV} {v : Value} {l : List AV} {vs : List Value} (h : RA f nx z x v) (hl : RAs f nx z l vs) : RAs f nx z (x :: l) (v :: vs) := by
  refine ⟨by simp [hl.1], fun i y u hy hu => ?_⟩
  match i with
  | 0 => simp at hy hu; subst hy; subst hu; exact h
  | i + 1 => exact hl.2 i y u (by simpa using hy) (by simpa using hu)

def RS (f : Fn) (nx : Nat) (z : Z) : SV → Value → Prop
  | .v x, v => RA f nx z x v
  | .tup l, v => ∃ vs : Array Value, v = .tuple vs ∧ RAs f nx z l vs.toList
  | .top, _ => True

theorem RS.mono {f f' : Fn} {nx nx' : Nat} {z z' : Z} (hf : Ext nx f f') (hn : nx ≤ nx') (hz : z.le z') {x : SV} {v : Value} (h : RS f nx z x v) : RS f' nx' z' x v := by
  cases x with
  | v x => exact RA.mono hf hn hz h
  | tup l => obtain ⟨vs, rfl, h⟩ := h; exact ⟨vs, rfl, h.mono hf hn hz⟩
  | top => trivial

/-- the slots -/
def TR (f : Fn) (nx : Nat) (z : Z) (s : Slots) (a : Array Value) : Prop := ∀ t, RS f nx z (s.get t) (a.getD t undef)

theorem TR.mono {f f' : Fn} {nx nx' : Nat} {z z' : Z} (hf : Ext nx f f') (hn : nx ≤ nx') (hz : z.le z') {s : Slots} {a : Array Value} (h : TR f nx z s a) : TR f' nx' z' s a :=
  fun t => RS.mono hf hn hz (h t)

theorem Slots.get_cons (k : Nat) (v : SV) (r : Slots) (t : Nat) : Slots.get ((k, v) :: r) t = if k = t then v else Slots.get r t := by
  simp only [Slots.get]
  by_cases h : k = t
  · subst h; simp
  · have : Nat.beq k t = false := by
      cases hb : Nat.beq k t with
      | false => rfl
      | true => exact absurd (Nat.eq_of_beq_eq_true hb) h
    simp [this, h]

theorem TR.put {f : Fn} {nx : Nat} {z : Z} {s : Slots} {a : Array Value} (h : TR f nx z s a) {d : Nat} (hd : d < a.size) {x : SV} {v : Value} (hx : RS f nx z x v) :
    TR f nx z ((d, x) :: s) (a.setIfInBounds d v) := by
  intro t
  rw [Slots.get_cons]
  by_cases e : d = t
  · subst e; simp [hd]; exact hx
  · have := h t
    simp [e] at *
    simpa [Array.getElem?_setIfInBounds, e] using this

/-- a slot's value, told anew -/
theorem TR.tell {f : Fn} {nx : Nat} {z : Z} {s : Slots} {a : Array Value} (h : TR f nx z s a) {d : Nat} {x : SV} (hx : RS f nx z x (a.getD d undef)) :
    TR f nx z ((d, x) :: s) a := by
  intro t
  rw [Slots.get_cons]
  by_cases e : d = t
  · subst e; simp only [if_true]; exact hx
  · simp only [e, if_false]; exact h t

def Ob.live : Ob → Prop
  | .cells _ => True
  | .arr live _ _ _ => live = true
  | .map _ => True
  | .dead => False

def Ob.at (o : Ob) (m i j : Nat) : Option CV :=
  match o with
  | .cells l => if m = 0 ∧ i = 0 then l[j]? else none
  | .arr live sz n e => if live = true ∧ m = sz ∧ i < n ∧ j < sz then ((e i)[j]?).map .f else none
  | _ => none

def Ob.isMap : Ob → Prop
  | .map _ => True
  | _ => False

/-- a map's stamps: each is of one entry, and behind the clock -/
def BornOk (arr : Array MapEntry) (clock : Nat) : Prop := (∀ x ∈ arr.toList, x.born < clock) ∧ (arr.toList.map (·.born)).Nodup
theorem BornOk.nil : BornOk #[] 0 := ⟨by simp, by simp⟩
theorem BornOk.push {arr : Array MapEntry} {clock : Nat} (h : BornOk arr clock) (k v : Value) : BornOk (arr.push { key := k, val := v, born := clock }) (clock + 1) := by
  obtain ⟨h1, h2⟩ := h
  refine ⟨fun x hx => ?_, ?_⟩
  · simp only [Array.toList_push, List.mem_append, List.mem_singleton] at hx
    rcases hx with hx | rfl
    · exact Nat.lt_succ_of_lt (h1 x hx)
    · exact Nat.lt_succ_self _
  · simp only [Array.toList_push, List.map_append, List.map_cons, List.map_nil]
    refine List.nodup_append.2 ⟨h2, by simp, ?_⟩
    intro a ha b hb
    simp only [List.mem_singleton] at hb
    subst hb
    obtain ⟨x, hx, rfl⟩ := List.mem_map.1 ha
    exact Nat.ne_of_lt (h1 x hx)
theorem BornOk.modify {arr : Array MapEntry} {clock : Nat} (h : BornOk arr clock) (i : Nat) (k v : Value) : BornOk (arr.modify i fun e => { e with key := k, val := v }) clock := by
  have hb : (arr.modify i fun e => { e with key := k, val := v }).toList.map (·.born) = arr.toList.map (·.born) := by
    apply List.ext_getElem?
    intro j
    simp only [List.getElem?_map, Array.getElem?_toList, Array.getElem?_modify]
    by_cases hij : i = j
    · subst hij
      cases arr[i]? <;> simp
    · simp [hij]
  refine ⟨fun x hx => ?_, by rw [hb]; exact h.2⟩
  have : x.born ∈ (arr.modify i fun e => { e with key := k, val := v }).toList.map (·.born) := List.mem_map.2 ⟨x, hx, rfl⟩
  rw [hb] at this
  obtain ⟨y, hy, e⟩ := List.mem_map.1 this
  rw [← e]; exact h.1 y hy

structure BOk (f : Fn) (nx : Nat) (z : Z) (w : World) (b : Nat) (o : Ob) : Prop where
  lt : (f b).k < w.heap.size
  own : ∀ p, z (f b).k p = none
  room : ∀ p, p < (f b).t → (∃ v, w.cell? ⟨(f b).k, (f b).d + p, none⟩ = some v ∧ v.oneCell' = true) ∧ w.frozen? ⟨(f b).k, (f b).d + p, none⟩ = false
  cell : ∀ m i j x, o.at m i j = some x → i * m + j < (f b).t ∧ ∃ v, w.cell? (ad f b m i j) = some v ∧ RC f nx z x v
  map : ∀ es, o = .map es → (f b).t = 0 ∧ ∃ arr clock, w.heap[(f b).k]? = some (.map arr clock) ∧ arr.toList.map (fun e => (e.key, e.val)) = es ∧ BornOk arr clock

theorem BOk.hasCell {f : Fn} {nx : Nat} {z : Z} {w : World} {b : Nat} {o : Ob} (h : BOk f nx z w b o) {p : Nat} (hp : p < (f b).t) : (w.cell? ⟨(f b).k, (f b).d + p, none⟩).isSome = true := by
  obtain ⟨v, hv, _⟩ := (h.room p hp).1
  rw [hv]; rfl

theorem RL.all {f : Fn} {nx : Nat} {z : Z} {l : List CV} {vs : List Value} (h : RL f nx z l vs) : ∀ v ∈ vs, v.oneCell' = true := by
  intro v hv
  obtain ⟨i, hi⟩ := List.mem_iff_getElem?.1 hv
  have hlt : i < l.length := by rw [h.1]; exact (List.getElem?_eq_some_iff.1 hi).1
  exact (h.2 i _ v (List.getElem?_eq_getElem hlt) hi).one

structure Rel (S : Nat → Prop) (f : Fn) (nx : Nat) (z : Z) (w : World) (H : Heap) : Prop where
  own : ∀ b, S b → (H.get b).live → b < nx ∧ BOk f nx z w b (H.get b)
  inj : ∀ b c, S b → S c → (H.get b).live → (H.get c).live → b ≠ c → (f b).k ≠ (f c).k
  zok : ∀ k o v, z k o = some v → w.cell? ⟨k, o, none⟩ = some v

abbrev All : Nat → Prop := fun _ => True

theorem Rel.less {S S' : Nat → Prop} {f : Fn} {nx : Nat} {z : Z} {w : World} {H : Heap} (h : Rel S f nx z w H) (hs : ∀ b, S' b → S b) : Rel S' f nx z w H :=
  ⟨fun b hb => h.own b (hs b hb), fun b c hb hc => h.inj b c (hs b hb) (hs c hc), h.zok⟩

/-- the world's blocks under S -/
def img (S : Nat → Prop) (f : Fn) (H : Heap) (k : Nat) : Prop := ∃ b, S b ∧ (H.get b).live ∧ (f b).k = k

structure Fr (I : Nat → Prop) (w w' : World) : Prop where
  size : w.heap.size ≤ w'.heap.size
  os : w'.os = w.os
  tape : w'.tape = w.tape
  output : w'.output = w.output
  block : ∀ k, k < w.heap.size → ¬ I k → w'.heap[k]? = w.heap[k]?

theorem Fr.refl (I : Nat → Prop) (w : World) : Fr I w w := ⟨Nat.le_refl _, rfl, rfl, rfl, fun _ _ _ => rfl⟩

theorem Fr.trans {I J : Nat → Prop} {a b c : World} (h : Fr I a b) (k : Fr J b c) (hJ : ∀ x, x < a.heap.size → J x → I x) : Fr I a c :=
  ⟨Nat.le_trans h.size k.size, k.os.trans h.os, k.tape.trans h.tape, k.output.trans h.output, fun x hx hn =>
    (k.block x (Nat.lt_of_lt_of_le hx h.size) fun hj => hn (hJ x hx hj)).trans (h.block x hx hn)⟩

theorem Fr.less {I J : Nat → Prop} {a b : World} (h : Fr I a b) (hJ : ∀ x, x < a.heap.size → I x → J x) : Fr J a b :=
  ⟨h.size, h.os, h.tape, h.output, fun x hx hn => h.block x hx fun hi => hn (hJ x hx hi)⟩

theorem Fr.below {w w' : World} (h : Fr (fun _ => False) w w') : Go.RowKit.Below w.heap.size w w' :=
  ⟨h.os, h.tape, h.output, h.size, fun k hk => h.block k hk id⟩

def NoNew (m : Nat) (H : Heap) : Prop := ∀ b l, b < m → H.get b = .cells l → ∀ x ∈ l, x.beyond m = false

/-- what a step on the blocks S leaves -/
structure Post (S : Nat → Prop) (f : Fn) (nx : Nat) (z : Z) (w : World) (H : Heap) (f' : Fn) (nx' : Nat) (z' : Z) (w' : World) (H' : Heap) (esc : Bool) : Prop where
  hnx : nx ≤ nx'
  ext : Ext nx f f'
  zle : z.le z'
  znew : ∀ k o v, z' k o = some v → z k o = some v ∨ w.heap.size ≤ k ∨ img S f H k
  same : ∀ b, b < nx → ¬ S b → H'.get b = H.get b ∨ ¬ (H'.get b).live
  dead : ∀ b, b < nx → (H'.get b).live → (H.get b).live
  rel : Rel (fun b => S b ∨ nx ≤ b) f' nx' z' w' H'
  fresh : ∀ b, nx ≤ b → (H'.get b).live → w.heap.size ≤ (f' b).k ∨ img S f H (f' b).k
  fr : Fr (img S f H) w w'
  noesc : esc = false → ∀ m, m ≤ nx → NoNew m H → NoNew m H'

theorem Fr.cell {I : Nat → Prop} {w w' : World} (h : Fr I w w') {k : Nat} (hk : k < w.heap.size) (hn : ¬ I k) (o : Nat) : w'.cell? ⟨k, o, none⟩ = w.cell? ⟨k, o, none⟩ :=
  World.cell?_of_block (w := w) (h.block k hk hn)

theorem Fr.frozen {I : Nat → Prop} {w w' : World} (h : Fr I w w') {k : Nat} (hk : k < w.heap.size) (hn : ¬ I k) (o : Nat) : w'.frozen? ⟨k, o, none⟩ = w.frozen? ⟨k, o, none⟩ :=
  World.frozen?_of_block (w := w) (h.block k hk hn)

theorem BOk.kept {f f' : Fn} {nx nx' : Nat} {z z' : Z} {w w' : World} {b : Nat} {o : Ob} (h : BOk f nx z w b o) (hb : b < nx) {I : Nat → Prop} (hfr : Fr I w w') (hn : ¬ I (f b).k)
    (he : Ext nx f f') (hx : nx ≤ nx') (hz : z.le z') (hzn : ∀ k o v, z' k o = some v → z k o = some v ∨ w.heap.size ≤ k ∨ I k) : BOk f' nx' z' w' b o := by
  have e := he b hb
  refine ⟨by rw [e]; exact Nat.lt_of_lt_of_le h.lt hfr.size, fun p => ?_, fun p hp => ?_, fun m i j x hx' => ?_, fun es he => by rw [e, hfr.block _ h.lt hn]; exact h.map es he⟩
  · rw [e]
    cases hv : z' (f b).k p with
    | none => rfl
    | some v =>
      rcases hzn _ _ _ hv with h1 | h1 | h1
      · rw [h.own p] at h1; cases h1
      · have := h.lt; omega
      · exact absurd h1 hn
  · rw [e] at hp ⊢
    rw [hfr.cell h.lt hn, hfr.frozen h.lt hn]
    exact h.room p hp
  · obtain ⟨h1, v, h2, h3⟩ := h.cell m i j x hx'
    refine ⟨by rw [e]; exact h1, v, ?_, RC.mono he hx hz h3⟩
    simp only [ad, e]
    rw [hfr.cell h.lt hn]
    exact h2

/-- a step on some blocks is a step on all of them -/
theorem Post.lift {S : Nat → Prop} {f f' : Fn} {nx nx' : Nat} {z z' : Z} {w w' : World} {H H' : Heap} {esc : Bool} (hr : Rel All f nx z w H)
    (h : Post S f nx z w H f' nx' z' w' H' esc) : Post All f nx z w H f' nx' z' w' H' esc := by
  have himg : ∀ b, b < nx → ¬ S b → (H.get b).live → ¬ img S f H (f b).k := by
    rintro b hb hs hl ⟨c, hc, hcl, he⟩
    exact hr.inj c b trivial trivial hcl hl (fun e => hs (e ▸ hc)) he
  have hsub : ∀ x, img S f H x → img All f H x := fun x ⟨b, _, hl, he⟩ => ⟨b, trivial, hl, he⟩
  have hkeep : ∀ b, b < nx → ¬ S b → (H'.get b).live → BOk f' nx' z' w' b (H'.get b) := by
    intro b hb hs hl
    have hl0 := h.dead b hb hl
    rcases h.same b hb hs with e | e
    · rw [e]
      exact (hr.own b trivial hl0).2.kept hb h.fr (himg b hb hs hl0) h.ext h.hnx h.zle h.znew
    · exact absurd hl e
  refine ⟨h.hnx, h.ext, h.zle, fun k o v hv => (h.znew k o v hv).imp id (Or.imp id (hsub _)), fun b hb hs => absurd trivial hs, h.dead, ⟨?_, ?_, h.rel.zok⟩, fun b hb hl => (h.fresh b hb hl).imp id (hsub _), h.fr.less fun x _ => hsub x, h.noesc⟩
  · intro b _ hl
    by_cases hs : S b ∨ nx ≤ b
    · exact h.rel.own b hs hl
    · have hb : b < nx := by
        rcases Nat.lt_or_ge b nx with h | h
        · exact h
        · exact absurd (Or.inr h) hs
      exact ⟨Nat.lt_of_lt_of_le hb h.hnx, hkeep b hb (fun e => hs (.inl e)) hl⟩
  · have side : ∀ b c, b < nx → ¬ S b → (S c ∨ nx ≤ c) → (H'.get b).live → (H'.get c).live → (f' b).k ≠ (f' c).k := by
      intro b c hb hs hc hl hl' he
      have hl0 := h.dead b hb hl
      rw [h.ext b hb] at he
      have hlt := (hr.own b trivial hl0).2.lt
      rcases Nat.lt_or_ge c nx with h1 | h1
      · have hc' : S c := hc.resolve_right (by omega)
        rw [h.ext c h1] at he
        exact hr.inj b c trivial trivial hl0 (h.dead c h1 hl') (fun e => hs (e ▸ hc')) he
      · rcases h.fresh c h1 hl' with h2 | h2
        · rw [← he] at h2; omega
        · rw [← he] at h2
          exact himg b hb hs hl0 h2
    intro b c _ _ hl hl' hne
    by_cases hb : S b ∨ nx ≤ b
    · by_cases hc : S c ∨ nx ≤ c
      · exact h.rel.inj b c hb hc hl hl' hne
      · have hc0 : c < nx := by
          rcases Nat.lt_or_ge c nx with h | h
          · exact h
          · exact absurd (Or.inr h) hc
        exact (side c b hc0 (fun e => hc (.inl e)) hb hl' hl).symm
    · have hb0 : b < nx := by
        rcases Nat.lt_or_ge b nx with h | h
        · exact h
        · exact absurd (Or.inr h) hb
      by_cases hc : S c ∨ nx ≤ c
      · exact side b c hb0 (fun e => hb (.inl e)) hc hl hl'
      · have hc0 : c < nx := by
          rcases Nat.lt_or_ge c nx with h | h
          · exact h
          · exact absurd (Or.inr h) hc
        rw [h.ext b hb0, h.ext c hc0]
        exact hr.inj b c trivial trivial (h.dead b hb0 hl) (h.dead c hc0 hl') hne

theorem Post.refl {S : Nat → Prop} {f : Fn} {nx : Nat} {z : Z} {w : World} {H : Heap} {esc : Bool} (hr : Rel S f nx z w H) (hf : ∀ b, nx ≤ b → ¬ (H.get b).live) : Post S f nx z w H f nx z w H esc := by
  refine ⟨Nat.le_refl _, fun _ _ => rfl, fun _ _ _ h => h, fun _ _ _ h => .inl h, fun _ _ _ => .inl rfl, fun _ _ h => h, ⟨?_, ?_, hr.zok⟩, fun b hb hl => absurd hl (hf b hb), Fr.refl _ _, fun _ _ _ h => h⟩
  · intro b hb hl
    rcases hb with hb | hb
    · exact hr.own b hb hl
    · exact absurd hl (hf b hb)
  · intro b c hb hc hl hl' hne
    rcases hb with hb | hb
    · rcases hc with hc | hc
      · exact hr.inj b c hb hc hl hl' hne
      · exact absurd hl' (hf c hc)
    · exact absurd hl (hf b hb)

theorem Post.trans {f f1 f2 : Fn} {nx n1 n2 : Nat} {z z1 z2 : Z} {w w1 w2 : World} {H H1 H2 : Heap} {e1 e2 : Bool}
    (h : Post All f nx z w H f1 n1 z1 w1 H1 e1) (k : Post All f1 n1 z1 w1 H1 f2 n2 z2 w2 H2 e2) : Post All f nx z w H f2 n2 z2 w2 H2 (e1 || e2) := by
  have himg : ∀ x, img All f1 H1 x → w.heap.size ≤ x ∨ img All f H x := by
    rintro x ⟨b, _, hl, rfl⟩
    rcases Nat.lt_or_ge b nx with hb | hb
    · exact .inr ⟨b, trivial, h.dead b hb hl, by rw [h.ext b hb]⟩
    · exact h.fresh b hb hl
  refine ⟨Nat.le_trans h.hnx k.hnx, fun b hb => (k.ext b (Nat.lt_of_lt_of_le hb h.hnx)).trans (h.ext b hb), fun a b c hv => k.zle _ _ _ (h.zle _ _ _ hv), fun a b c hv => ?_, fun b _ hs => absurd trivial hs,
    fun b hb hl => h.dead b hb (k.dead b (Nat.lt_of_lt_of_le hb h.hnx) hl), ⟨fun b _ => k.rel.own b (.inl trivial), fun b c _ _ => k.rel.inj b c (.inl trivial) (.inl trivial), k.rel.zok⟩, fun b hb hl => ?_, ?_, fun he m hm hN => ?_⟩
  · rcases k.znew a b c hv with h1 | h1 | h1
    · exact h.znew a b c h1
    · exact .inr (.inl (Nat.le_trans h.fr.size h1))
    · exact .inr (himg _ h1)
  · rcases Nat.lt_or_ge b n1 with h1 | h1
    · rw [k.ext b h1]
      exact h.fresh b hb (k.dead b h1 hl)
    · rcases k.fresh b h1 hl with h2 | h2
      · exact .inl (Nat.le_trans h.fr.size h2)
      · exact himg _ h2
  · refine h.fr.trans k.fr fun x hx hi => ?_
    rcases himg x hi with h1 | h1
    · omega
    · exact h1
  · simp only [Bool.or_eq_false_iff] at he
    exact k.noesc he.2 m (Nat.le_trans hm h.hnx) (h.noesc he.1 m hm hN)

theorem Post.all {f f' : Fn} {nx nx' : Nat} {z z' : Z} {w w' : World} {H H' : Heap} {esc : Bool} (h : Post All f nx z w H f' nx' z' w' H' esc) : Rel All f' nx' z' w' H' :=
  ⟨fun b _ => h.rel.own b (.inl trivial), fun b c _ _ => h.rel.inj b c (.inl trivial) (.inl trivial), h.rel.zok⟩

theorem Rel.noLive {f : Fn} {nx : Nat} {z : Z} {w : World} {H : Heap} (hr : Rel All f nx z w H) : ∀ b, nx ≤ b → ¬ (H.get b).live :=
  fun b hb hl => by have := (hr.own b trivial hl).1; omega

end Go.Proofs.YtbobakclbdaepaaGreat.En
/- The engine, part 2: what reading, writing and making blocks come to. -/
namespace Go.Proofs.YtbobakclbdaepaaGreat.En
open Go
set_option linter.unusedVariables false

theorem T.res_bind {α β : Type} (t : T α) (k : α → T β) : (t.bind k).res = t.res.bind fun a => (k a).res := by
  induction t with
  | ret a => rfl
  | br b t e iht ihe =>
    cases b with
    | true => exact iht
    | false => exact ihe
  | bad => rfl

theorem T.bind_some {α β : Type} {t : T α} {k : α → T β} {r : β} (h : (t.bind k).res = some r) : ∃ a, t.res = some a ∧ (k a).res = some r := by
  rw [T.res_bind] at h
  cases ht : t.res with
  | none => rw [ht] at h; cases h
  | some a => rw [ht] at h; exact ⟨a, rfl, h⟩

theorem T.br_some {α : Type} {b : Bool} {t e : T α} {r : α} (h : (T.br b t e).res = some r) : (b = true ∧ t.res = some r) ∨ (b = false ∧ e.res = some r) := by
  cases b with
  | true => exact .inl ⟨rfl, h⟩
  | false => exact .inr ⟨rfl, h⟩

theorem T.need_some {α : Type} {b : Bool} {t : T α} {r : α} (h : (T.need b t).res = some r) : b = true ∧ t.res = some r := by
  rcases T.br_some h with h | ⟨_, h⟩
  · exact h
  · cases h

theorem T.ret_some {α : Type} {a r : α} (h : (T.ret a).res = some r) : a = r := by injection h

theorem T.bad_some {α : Type} {r : α} (h : (T.bad : T α).res = some r) : False := by cases h

theorem nbeq {a b : Nat} (h : Nat.beq a b = true) : a = b := Nat.eq_of_beq_eq_true h
theorem nble {a b : Nat} (h : Nat.ble a b = true) : a ≤ b := Nat.le_of_ble_eq_true h

theorem FV.ite0_eq (c : Bool) (x y : FV) : FV.ite0 c x y = match c with | true => x | false => y := by
  unfold FV.ite0
  split
  · split
    · rename_i k a k' b hk
      have := of_decide_eq_true hk
      subst this
      cases c <;> rfl
    · rfl
  · cases c <;> rfl
  · cases c <;> rfl
  · rfl

theorem iteL0_eq (c : Bool) : ∀ (l r : List FV), iteL0 c l r = match c with | true => l | false => r
  | x :: xs, y :: ys => by
    simp only [iteL0, FV.ite0_eq, iteL0_eq c xs ys]
    cases c <;> rfl
  | [], [] => by cases c <;> rfl
  | [], _ :: _ => by cases c <;> rfl
  | _ :: _, [] => by cases c <;> rfl

theorem FV.ite_eq (c : Bool) (x y : FV) : FV.ite c x y = match c with | true => x | false => y := by
  unfold FV.ite
  split
  · split
    · rename_i nil sz n e nil' sz' n' e' hs
      have := nbeq hs
      subst this
      simp only [iteL0_eq]
      cases c <;> rfl
    · rfl
  · exact FV.ite0_eq c x y

theorem iteL_eq (c : Bool) : ∀ (l r : List FV), iteL c l r = match c with | true => l | false => r
  | x :: xs, y :: ys => by
    simp only [iteL, FV.ite_eq, iteL_eq c xs ys]
    cases c <;> rfl
  | [], [] => by cases c <;> rfl
  | [], _ :: _ => by cases c <;> rfl
  | _ :: _, [] => by cases c <;> rfl

theorem CV.ite_eq (c : Bool) (x y : CV) : CV.ite c x y = match c with | true => x | false => y := by
  unfold CV.ite
  split
  · rw [FV.ite_eq]; cases c <;> rfl
  · rfl

theorem iteC_eq (c : Bool) : ∀ (l r : List CV), iteC c l r = match c with | true => l | false => r
  | x :: xs, y :: ys => by
    simp only [iteC, CV.ite_eq, iteC_eq c xs ys]
    cases c <;> rfl
  | [], [] => by cases c <;> rfl
  | [], _ :: _ => by cases c <;> rfl
  | _ :: _, [] => by cases c <;> rfl

theorem AV.ite_eq (c : Bool) (x y : AV) : AV.ite c x y = match c with | true => x | false => y := by
  unfold AV.ite
  split
  · rw [CV.ite_eq]; cases c <;> rfl
  · rw [iteC_eq]; cases c <;> rfl
  · rfl

theorem setRange_length {α : Type} : ∀ (l : List α) (j : Nat) (vs : List α), (setRange l j vs).length = l.length
  | [], _, _ => by simp [setRange]
  | x :: r, 0, [] => by simp [setRange]
  | _ :: r, 0, v :: vs => by simp [setRange, setRange_length r 0 vs]
  | x :: r, j + 1, vs => by simp [setRange, setRange_length r j vs]

theorem setRange_get {α : Type} : ∀ (l : List α) (j : Nat) (vs : List α) (p : Nat) (x : α), (setRange l j vs)[p]? = some x →
    (∃ q, p = j + q ∧ vs[q]? = some x) ∨ (l[p]? = some x ∧ ∀ q, q < vs.length → p ≠ j + q)
  | [], _, _, p, x, h => by simp [setRange] at h
  | y :: r, 0, [], p, x, h => .inr ⟨by simpa [setRange] using h, fun q hq => by simp at hq⟩
  | y :: r, 0, v :: vs, p, x, h => by
    cases p with
    | zero => exact .inl ⟨0, rfl, by simpa [setRange] using h⟩
    | succ p =>
      rcases setRange_get r 0 vs p x (by simpa [setRange] using h) with ⟨q, h1, h2⟩ | ⟨h1, h2⟩
      · exact .inl ⟨q + 1, by omega, by simpa using h2⟩
      · refine .inr ⟨by simpa using h1, fun q hq => ?_⟩
        cases q with
        | zero => omega
        | succ q => have := h2 q (by simpa using hq); omega
  | y :: r, j + 1, vs, p, x, h => by
    cases p with
    | zero => exact .inr ⟨by simpa [setRange] using h, fun q hq => by omega⟩
    | succ p =>
      rcases setRange_get r j vs p x (by simpa [setRange] using h) with ⟨q, h1, h2⟩ | ⟨h1, h2⟩
      · exact .inl ⟨q, by omega, h2⟩
      · exact .inr ⟨by simpa using h1, fun q hq => by have := h2 q hq; omega⟩

theorem setRangeK_eq {α β : Type} : ∀ (l : List α) (j : Nat) (vs : List α) (k : List α → β), setRangeK l j vs k = k (setRange l j vs)
  | [], _, _, k => by simp [setRangeK, setRange]
  | x :: r, 0, [], k => by simp [setRangeK, setRange]
  | _ :: r, 0, v :: vs, k => by simp [setRangeK, setRange, setRangeK_eq r 0 vs]
  | x :: r, j + 1, vs, k => by simp [setRangeK, setRange, setRangeK_eq r j vs]

theorem Heap.putK_eq {β : Type} : ∀ (H : Heap) (b : Nat) (o : Ob) (k : Heap → β), H.putK b o k = k (H.put b o)
  | [], _, _, k => rfl
  | (c, p) :: r, b, o, k => by
    simp only [Heap.putK, Heap.put]
    split
    · rfl
    · exact Heap.putK_eq r b o _

theorem Heap.get_cons (k : Nat) (o : Ob) (r : Heap) (b : Nat) : Heap.get ((k, o) :: r) b = if k = b then o else Heap.get r b := by
  simp only [Heap.get]
  by_cases h : k = b
  · subst h; simp
  · have : Nat.beq k b = false := by
      cases hb : Nat.beq k b with
      | false => rfl
      | true => exact absurd (nbeq hb) h
    simp [this, h]

theorem Heap.get_put : ∀ (H : Heap) (b : Nat) (o : Ob) (c : Nat), (H.put b o).get c = if b = c then o else H.get c
  | [], b, o, c => by simp only [Heap.put]; rw [Heap.get_cons]
  | (k, p) :: r, b, o, c => by
    simp only [Heap.put]
    by_cases h : k = b
    · subst h
      simp only [show Nat.beq k k = true from Nat.beq_refl k]
      rw [Heap.get_cons, Heap.get_cons]
      split <;> rfl
    · have : Nat.beq k b = false := by
        cases hb : Nat.beq k b with
        | false => rfl
        | true => exact absurd (nbeq hb) h
      simp only [this]
      rw [Heap.get_cons, Heap.get_cons, Heap.get_put r b o c]
      by_cases e : k = c
      · subst e; simp [Ne.symm h]
      · simp [e]

theorem fvs?_eq : ∀ (l : List CV) (r : List FV), fvs? l = some r → l = r.map .f
  | [], r, h => by simp only [fvs?, Option.some.injEq] at h; subst h; rfl
  | x :: l, r, h => by
    cases x with
    | f x =>
      simp only [fvs?] at h
      cases hl : fvs? l with
      | none => rw [hl] at h; cases h
      | some q =>
        rw [hl] at h
        simp only [Option.some.injEq] at h
        subst h
        rw [fvs?_eq l q hl]; rfl
    | _ => simp [fvs?] at h

theorem Ob.rd_ok {o : Ob} {m i j n : Nat} {l : List CV} (h : (o.rd m i j n).res = some l) : l.length = n ∧ o.live ∧ ¬ o.isMap ∧ ∀ (k : Nat) x, l[k]? = some x → o.at m i (j + k) = some x := by
  cases o with
  | cells c =>
    simp only [Ob.rd] at h
    split at h
    · rename_i hm
      simp only [Bool.and_eq_true] at hm
      have h1 := nbeq hm.1
      have h2 := nbeq hm.2
      split at h
      · rename_i hl
        have e := T.ret_some h
        subst e
        refine ⟨nbeq hl, trivial, id, fun k x hk => ?_⟩
        simp only [Ob.at, h1, h2, and_self, if_true]
        rw [List.getElem?_take] at hk
        split at hk
        · simpa [List.getElem?_drop] using hk
        · cases hk
      · exact (T.bad_some h).elim
    · exact (T.bad_some h).elim
  | arr live sz N e =>
    simp only [Ob.rd] at h
    split at h
    · rename_i hm
      simp only [Bool.and_eq_true] at hm
      have h1 := nbeq hm.1
      have h2 := nble hm.2
      obtain ⟨hlive, h⟩ := T.need_some h
      obtain ⟨hi, h⟩ := T.need_some h
      split at h
      · rename_i hl
        have e := T.ret_some h
        have hl := nbeq hl
        subst e
        refine ⟨by simpa using hl, hlive, id, fun k x hk => ?_⟩
        simp only [List.getElem?_map] at hk
        cases hq : (List.take n (List.drop j (e i)))[k]? with
        | none => rw [hq] at hk; cases hk
        | some y =>
          rw [hq] at hk
          rw [List.getElem?_take] at hq
          split at hq
          · rename_i hkn
            simp only [List.getElem?_drop] at hq
            simp only [Ob.at, hlive, h1, true_and]
            rw [if_pos ⟨nble hi, by omega⟩, hq]
            exact hk
          · cases hq
      · exact (T.bad_some h).elim
    · exact (T.bad_some h).elim
  | map es => exact (T.bad_some h).elim
  | dead => exact (T.bad_some h).elim

theorem Ob.wr_ok {o o' : Ob} {m i j : Nat} {vs : List CV} (h : (o.wr m i j vs).res = some o') : o.live ∧ o'.live ∧ ¬ o'.isMap ∧ (∀ q, q < vs.length → ∃ y, o.at m i (j + q) = some y) ∧
    (∀ m' i' j' x, o'.at m' i' j' = some x → (∃ q, i' * m' + j' = i * m + j + q ∧ vs[q]? = some x) ∨ (o.at m' i' j' = some x ∧ ∀ q, q < vs.length → i' * m' + j' ≠ i * m + j + q)) ∧
    (∀ l, o' = .cells l → ∃ l0, o = .cells l0 ∧ ∀ x ∈ l, x ∈ l0 ∨ x ∈ vs) := by
  cases o with
  | cells c =>
    simp only [Ob.wr] at h
    split at h
    · rename_i hm
      simp only [Bool.and_eq_true] at hm
      obtain ⟨⟨h1, h2⟩, h3⟩ := hm
      have h1 := nbeq h1
      have h2 := nbeq h2
      have h3 := nble h3
      rw [setRangeK_eq] at h
      have e := T.ret_some h
      subst e
      refine ⟨trivial, trivial, id, fun q hq => ?_, fun m' i' j' x hx => ?_, fun l hl => ⟨c, rfl, fun x hx => ?_⟩⟩
      · simp only [Ob.at, h1, h2, and_self, if_true]
        exact ⟨_, List.getElem?_eq_getElem (by omega)⟩
      · simp only [Ob.at] at hx
        split at hx
        · rename_i hz
          obtain ⟨rfl, rfl⟩ := hz
          subst h1 h2
          rcases setRange_get c j vs j' x hx with ⟨q, hq, hv⟩ | ⟨hq, hv⟩
          · exact .inl ⟨q, by omega, hv⟩
          · exact .inr ⟨by simp [Ob.at, hq], fun q hq' => by have := hv q hq'; omega⟩
        · cases hx
      · cases hl
        obtain ⟨p, hp⟩ := List.mem_iff_getElem?.1 hx
        rcases setRange_get c j vs p x hp with ⟨q, _, hv⟩ | ⟨hq, _⟩
        · exact .inr (List.mem_of_getElem? hv)
        · exact .inl (List.mem_of_getElem? hq)
    · exact (T.bad_some h).elim
  | arr live sz N e =>
    simp only [Ob.wr] at h
    split at h
    · rename_i fs hm hfs
      simp only [Bool.and_eq_true] at hm
      obtain ⟨⟨h1, h2⟩, h3⟩ := hm
      have h1 := nbeq h1
      have h2 := nble h2
      have h3 := nbeq h3
      obtain ⟨hlive, h⟩ := T.need_some h
      obtain ⟨hi, h⟩ := T.need_some h
      have hi := nble hi
      have e1 := T.ret_some h
      subst e1
      have hvs := fvs?_eq _ _ hfs
      subst hvs
      subst h1
      simp only [List.length_map] at h2
      refine ⟨hlive, hlive, id, fun q hq => ?_, fun m' i' j' x hx => ?_, fun l hl => by cases hl⟩
      · simp only [List.length_map] at hq
        simp only [Ob.at]
        rw [if_pos ⟨hlive, trivial, by omega, by omega⟩, List.getElem?_eq_getElem (by omega)]
        exact ⟨_, rfl⟩
      · simp only [Ob.at] at hx
        split at hx
        · rename_i hz
          obtain ⟨_, rfl, hi', hj'⟩ := hz
          rw [iteL_eq] at hx
          cases hb : Nat.beq i' i with
          | true =>
            have := nbeq hb
            subst this
            rw [hb] at hx
            simp only at hx
            cases hq : (setRange (e i') j fs)[j']? with
            | none => rw [hq] at hx; cases hx
            | some y =>
              rw [hq] at hx
              simp only [Option.map_some, Option.some.injEq] at hx
              rcases setRange_get _ j fs j' y hq with ⟨q, hq1, hv⟩ | ⟨hq1, hv⟩
              · exact .inl ⟨q, by omega, by simp [hv, hx]⟩
              · refine .inr ⟨?_, fun q hq' => ?_⟩
                · simp only [Ob.at]
                  rw [if_pos ⟨hlive, trivial, hi', hj'⟩, hq1]
                  simp [hx]
                · have := hv q (by simpa using hq')
                  omega
          | false =>
            have hne : i' ≠ i := fun e => by subst e; simp at hb
            rw [hb] at hx
            simp only at hx
            refine .inr ⟨?_, fun q hq' he => ?_⟩
            · simp only [Ob.at]
              rw [if_pos ⟨hlive, trivial, hi', hj'⟩]
              exact hx
            · simp only [List.length_map] at hq'
              rcases Nat.lt_or_gt_of_ne hne with hlt | hlt
              · have : (i' + 1) * m' ≤ i * m' := Nat.mul_le_mul_right _ hlt
                rw [Nat.add_mul] at this
                omega
              · have : (i + 1) * m' ≤ i' * m' := Nat.mul_le_mul_right _ hlt
                rw [Nat.add_mul] at this
                omega
        · cases hx
    · exact (T.bad_some h).elim
  | map es => exact (T.bad_some h).elim
  | dead => exact (T.bad_some h).elim

theorem ad_add (f : Fn) (b m i j k : Nat) : (ad f b m i j).add k = ad f b m i (j + k) := by
  unfold Addr.add ad
  by_cases h : k = 0
  · subst h; simp
  · simp [h, Nat.add_assoc]

theorem RL.exist {f : Fn} {nx : Nat} {z : Z} : ∀ (l : List CV) (p : Nat → Value → Prop), (∀ (k : Nat) x, l[k]? = some x → ∃ v, p k v ∧ RC f nx z x v) → ∃ vs, RL f nx z l vs ∧ ∀ (k : Nat) v, vs[k]? = some v → p k v
  | [], p, _ => ⟨[], ⟨rfl, fun i x v h => by simp at h⟩, fun k v h => by simp at h⟩
  | x :: l, p, h => by
    obtain ⟨v, h1, h2⟩ := h 0 x rfl
    obtain ⟨vs, h3, h4⟩ := RL.exist l (fun k => p (k + 1)) (fun k y hy => h (k + 1) y (by simpa using hy))
    refine ⟨v :: vs, ⟨by simp [h3.1], fun i y u hy hu => ?_⟩, fun k u hu => ?_⟩
    · cases i with
      | zero => simp only [List.getElem?_cons_zero, Option.some.injEq] at hy hu; rw [← hy, ← hu]; exact h2
      | succ i => exact h3.2 i y u (by simpa using hy) (by simpa using hu)
    · cases k with
      | zero => simp only [List.getElem?_cons_zero, Option.some.injEq] at hu; rw [← hu]; exact h1
      | succ k => exact h4 k u (by simpa using hu)

/-- the cells that are read -/
theorem BOk.read {f : Fn} {nx : Nat} {z : Z} {w : World} {b : Nat} {o : Ob} (h : BOk f nx z w b o) {m i j n : Nat} {l : List CV} (hr : (o.rd m i j n).res = some l) :
    ∃ vs, RL f nx z l vs ∧ vs.length = n ∧ ∀ (k : Nat) v, vs[k]? = some v → w.cell? ((ad f b m i j).add k) = some v := by
  obtain ⟨h1, _, _, h2⟩ := Ob.rd_ok hr
  obtain ⟨vs, h3, h4⟩ := RL.exist l (fun k v => w.cell? ((ad f b m i j).add k) = some v) (fun k x hx => by
    obtain ⟨_, v, hv, hc⟩ := h.cell m i (j + k) x (h2 k x hx)
    exact ⟨v, by rw [ad_add]; exact hv, hc⟩)
  exact ⟨vs, h3, by rw [← h3.1, h1], h4⟩

theorem World.heap_setCells (b : Nat) : ∀ (vs : List Value) (o : Nat) (w : World) (k : Nat), k ≠ b → (w.setCells b o vs).heap[k]? = w.heap[k]?
  | [], _, _, _, _ => rfl
  | v :: r, o, w, k, h => by
    rw [World.setCells, World.heap_setCells b r (o + 1) _ k h]
    exact heap_setCell_other w ⟨b, o, none⟩ k v h

theorem World.size_setCells (b : Nat) : ∀ (vs : List Value) (o : Nat) (w : World), (w.setCells b o vs).heap.size = w.heap.size
  | [], _, _ => rfl
  | v :: r, o, w => by rw [World.setCells, World.size_setCells b r]; simp

theorem World.os_setCells (b : Nat) : ∀ (vs : List Value) (o : Nat) (w : World), (w.setCells b o vs).os = w.os ∧ (w.setCells b o vs).tape = w.tape ∧ (w.setCells b o vs).output = w.output
  | [], _, _ => ⟨rfl, rfl, rfl⟩
  | v :: r, o, w => by rw [World.setCells]; exact World.os_setCells b r (o + 1) _

/-- a write into an own block -/
theorem Post.write {f : Fn} {nx : Nat} {z : Z} {w : World} {H : Heap} {b : Nat} {o' : Ob} {m i j : Nat} {vs : List CV} {us : List Value} {S : Nat → Prop} (hS : S b) (hr : Rel S f nx z w H)
    (hw : ((H.get b).wr m i j vs).res = some o') (hu : RL f nx z vs us) (hno : ∀ b, nx ≤ b → ¬ (H.get b).live) {esc : Bool} (hesc : esc = false → vs.any (CV.beyond (b + 1)) = false) :
    Post S f nx z w H f nx z (w.setCells (f b).k ((f b).d + (i * m + j)) us) (H.put b o') esc := by
  obtain ⟨hl, hl', hnm, hex, hat, hcl⟩ := Ob.wr_ok hw
  obtain ⟨hb, hok⟩ := hr.own b hS hl
  have hlen := hu.1
  have hroom : ∀ q, q < us.length → i * m + j + q < (f b).t := fun q hq => by
    obtain ⟨y, hy⟩ := hex q (by omega)
    have := (hok.cell _ _ _ _ hy).1
    omega
  have hisome : ∀ q, q < us.length → (w.cell? ⟨(f b).k, (f b).d + (i * m + j) + q, none⟩).isSome = true := fun q hq => by
    have := hok.hasCell (hroom q hq)
    rwa [← Nat.add_assoc] at this
  have hother : ∀ k p, k ≠ (f b).k → (w.setCells (f b).k ((f b).d + (i * m + j)) us).cell? ⟨k, p, none⟩ = w.cell? ⟨k, p, none⟩ := fun k p hk =>
    World.cell?_of_block (w := w) (World.heap_setCells _ _ _ _ _ hk)
  have hget : ∀ c, (H.put b o').get c = if b = c then o' else H.get c := Heap.get_put H b o'
  have hlive : ∀ c, ((H.put b o').get c).live → (H.get c).live := fun c hc => by
    rw [hget] at hc
    by_cases e : b = c
    · subst e; exact hl
    · simpa [e] using hc
  have hnot : ∀ c, S c → (H.get c).live → c ≠ b → (f c).k ≠ (f b).k := fun c hc hcl hne => hr.inj c b hc hS hcl hl hne
  refine ⟨Nat.le_refl _, fun _ _ => rfl, fun _ _ _ h => h, fun _ _ _ h => .inl h, fun c _ hc => ?_, fun c _ hc => hlive c hc, ⟨fun c hc hcl => ?_, fun c d hc hd hcl hdl hne => ?_, fun k p v hv => ?_⟩, fun c hc hcl => ?_, ?_, fun he mm hm hN c l hc hg x hx => ?_⟩
  · left; rw [hget]; rw [if_neg (fun (e : b = c) => hc (e ▸ hS))]
  · have hc' : S c := hc.resolve_right fun e => hno c e (hlive c hcl)
    refine ⟨(hr.own c hc' (hlive c hcl)).1, ?_⟩
    by_cases e : b = c
    · subst e
      rw [hget, if_pos rfl]
      refine ⟨by rw [World.size_setCells]; exact hok.lt, hok.own, fun p hp => ?_, fun m' i' j' x hx => ?_, fun es he => absurd (by rw [he]; trivial) hnm⟩
      · rw [World.frozen?_setCells]
        refine ⟨?_, (hok.room p hp).2⟩
        by_cases hin : i * m + j ≤ p ∧ p < i * m + j + us.length
        · have := World.cell?_setCells_in (f b).k us ((f b).d + (i * m + j)) w hisome (p - (i * m + j)) (by omega)
          rw [show (f b).d + (i * m + j) + (p - (i * m + j)) = (f b).d + p by omega] at this
          exact ⟨_, this, hu.all _ (List.getElem_mem _)⟩
        · rw [World.cell?_setCells_out _ _ _ _ _ (fun _ _ => by simp only; omega)]
          exact (hok.room p hp).1
      · rcases hat m' i' j' x hx with ⟨q, hq, hv⟩ | ⟨ho, hne⟩
        · have hq' : q < us.length := by
            have := (List.getElem?_eq_some_iff.1 hv).1
            omega
          refine ⟨by rw [hq]; exact hroom q hq', us[q]'hq', ?_, hu.2 q x (us[q]'hq') hv (List.getElem?_eq_getElem hq')⟩
          have := World.cell?_setCells_in (f b).k us ((f b).d + (i * m + j)) w hisome q hq'
          simp only [ad, hq]
          rw [show (f b).d + (i * m + j + q) = (f b).d + (i * m + j) + q by omega]
          exact this
        · obtain ⟨h1, v, h2, h3⟩ := hok.cell m' i' j' x ho
          refine ⟨h1, v, ?_, h3⟩
          rw [World.cell?_setCells_out _ _ _ _ _ (fun _ _ => ?_)]
          · exact h2
          · simp only [ad]
            rcases Nat.lt_or_ge (i' * m' + j') (i * m + j) with h | h
            · exact .inl (by omega)
            · rcases Nat.lt_or_ge (i' * m' + j') (i * m + j + us.length) with h4 | h4
              · exact absurd (by omega) (hne (i' * m' + j' - (i * m + j)) (by omega))
              · exact .inr (by omega)
    · rw [hget, if_neg e]
      have hcl0 := hlive c hcl
      have hk := hnot c hc' hcl0 (Ne.symm e)
      obtain ⟨_, hc0⟩ := hr.own c hc' hcl0
      refine ⟨by rw [World.size_setCells]; exact hc0.lt, hc0.own, fun p hp => ?_, fun m' i' j' x hx => ?_, fun es he => by rw [World.heap_setCells _ _ _ _ _ hk]; exact hc0.map es he⟩
      · rw [World.frozen?_setCells, hother _ _ hk]; exact hc0.room p hp
      · obtain ⟨h1, v, h2, h3⟩ := hc0.cell m' i' j' x hx
        exact ⟨h1, v, by simp only [ad]; rw [hother _ _ hk]; exact h2, h3⟩
  · have hc' : S c := hc.resolve_right fun e => hno c e (hlive c hcl)
    have hd' : S d := hd.resolve_right fun e => hno d e (hlive d hdl)
    exact hr.inj c d hc' hd' (hlive c hcl) (hlive d hdl) hne
  · have hv' := hr.zok k p v hv
    have hk : k ≠ (f b).k := fun e => by rw [e, hok.own] at hv; cases hv
    rw [hother _ _ hk]; exact hv'
  · exact absurd (hlive c hcl) (hno c hc)
  · refine ⟨by rw [World.size_setCells]; exact Nat.le_refl _, (World.os_setCells _ _ _ _).1, (World.os_setCells _ _ _ _).2.1, (World.os_setCells _ _ _ _).2.2, fun k _ hk => ?_⟩
    exact World.heap_setCells _ _ _ _ _ fun e => hk ⟨b, hS, hl, e.symm⟩
  · rw [hget] at hg
    by_cases e : b = c
    · subst e
      rw [if_pos rfl] at hg
      obtain ⟨l0, hl0, hmem⟩ := hcl l hg
      rcases hmem x hx with h1 | h1
      · exact hN b l0 hc hl0 x h1
      · have h2 := hesc he
        rw [List.any_eq_false] at h2
        have h3 := h2 x h1
        -- beyond is monotone
        have mono : ∀ (y : CV) (p q : Nat), p ≤ q → y.beyond p = false → y.beyond q = false := by
          intro y p q hpq hy
          have hb : ∀ c : Nat, Nat.ble p c = false → Nat.ble q c = false := fun c hc => by
            cases h : Nat.ble q c with
            | false => rfl
            | true => rw [Nat.ble_eq_true_of_le (Nat.le_trans hpq (nble h))] at hc; cases hc
          cases y with
          | f => rfl
          | ptr => exact hb _ hy
          | sl => exact hb _ hy
          | mp => exact hb _ hy
          | fn g l =>
            simp only [CV.beyond, List.any_eq_false] at hy ⊢
            intro y hy'
            have := hy y hy'
            simp only [Bool.not_eq_true] at this ⊢
            exact hb _ this
        exact mono x (b + 1) mm (by omega) (by simpa using h3)
    · rw [if_neg e] at hg
      exact hN c l hc hg x hx

/-- as Post.write, of cells that are told otherwise -/
theorem Post.write2 {f : Fn} {nx : Nat} {z : Z} {w : World} {H : Heap} {b : Nat} {o' : Ob} {vs : List CV} {us : List Value} {S : Nat → Prop} (hS : S b) (hr : Rel S f nx z w H)
    {B : Nat} (hl : (H.get b).live) (hnm : ¬ o'.isMap) (hroom : ∀ q, q < us.length → B + q < (f b).t)
    (hat : ∀ m' i' j' x, o'.at m' i' j' = some x → (∃ q, i' * m' + j' = B + q ∧ vs[q]? = some x) ∨ ((H.get b).at m' i' j' = some x ∧ ∀ q, q < us.length → i' * m' + j' ≠ B + q))
    (hcl : ∀ l, o' ≠ .cells l) (hu : RL f nx z vs us) (hno : ∀ b, nx ≤ b → ¬ (H.get b).live) {esc : Bool} :
    Post S f nx z w H f nx z (w.setCells (f b).k ((f b).d + B) us) (H.put b o') esc := by
  obtain ⟨hb, hok⟩ := hr.own b hS hl
  have hlen := hu.1
  have hisome : ∀ q, q < us.length → (w.cell? ⟨(f b).k, (f b).d + B + q, none⟩).isSome = true := fun q hq => by
    have := hok.hasCell (hroom q hq)
    rwa [← Nat.add_assoc] at this
  have hother : ∀ k p, k ≠ (f b).k → (w.setCells (f b).k ((f b).d + B) us).cell? ⟨k, p, none⟩ = w.cell? ⟨k, p, none⟩ := fun k p hk =>
    World.cell?_of_block (w := w) (World.heap_setCells _ _ _ _ _ hk)
  have hget : ∀ c, (H.put b o').get c = if b = c then o' else H.get c := Heap.get_put H b o'
  have hlive : ∀ c, ((H.put b o').get c).live → (H.get c).live := fun c hc => by
    rw [hget] at hc
    by_cases e : b = c
    · subst e; exact hl
    · simpa [e] using hc
  have hnot : ∀ c, S c → (H.get c).live → c ≠ b → (f c).k ≠ (f b).k := fun c hc hcl hne => hr.inj c b hc hS hcl hl hne
  refine ⟨Nat.le_refl _, fun _ _ => rfl, fun _ _ _ h => h, fun _ _ _ h => .inl h, fun c _ hc => ?_, fun c _ hc => hlive c hc, ⟨fun c hc hcl => ?_, fun c d hc hd hcl hdl hne => ?_, fun k p v hv => ?_⟩, fun c hc hcl => ?_, ?_, fun he mm hm hN c l hc hg x hx => ?_⟩
  · left; rw [hget]; rw [if_neg (fun (e : b = c) => hc (e ▸ hS))]
  · have hc' : S c := hc.resolve_right fun e => hno c e (hlive c hcl)
    refine ⟨(hr.own c hc' (hlive c hcl)).1, ?_⟩
    by_cases e : b = c
    · subst e
      rw [hget, if_pos rfl]
      refine ⟨by rw [World.size_setCells]; exact hok.lt, hok.own, fun p hp => ?_, fun m' i' j' x hx => ?_, fun es he => absurd (by rw [he]; trivial) hnm⟩
      · rw [World.frozen?_setCells]
        refine ⟨?_, (hok.room p hp).2⟩
        by_cases hin : B ≤ p ∧ p < B + us.length
        · have := World.cell?_setCells_in (f b).k us ((f b).d + B) w hisome (p - B) (by omega)
          rw [show (f b).d + B + (p - B) = (f b).d + p by omega] at this
          exact ⟨_, this, hu.all _ (List.getElem_mem _)⟩
        · rw [World.cell?_setCells_out _ _ _ _ _ (fun _ _ => by simp only; omega)]
          exact (hok.room p hp).1
      · rcases hat m' i' j' x hx with ⟨q, hq, hv⟩ | ⟨ho, hne⟩
        · have hq' : q < us.length := by
            have := (List.getElem?_eq_some_iff.1 hv).1
            omega
          refine ⟨by rw [hq]; exact hroom q hq', us[q]'hq', ?_, hu.2 q x (us[q]'hq') hv (List.getElem?_eq_getElem hq')⟩
          have := World.cell?_setCells_in (f b).k us ((f b).d + B) w hisome q hq'
          simp only [ad, hq]
          rw [show (f b).d + (B + q) = (f b).d + B + q by omega]
          exact this
        · obtain ⟨h1, v, h2, h3⟩ := hok.cell m' i' j' x ho
          refine ⟨h1, v, ?_, h3⟩
          rw [World.cell?_setCells_out _ _ _ _ _ (fun _ _ => ?_)]
          · exact h2
          · simp only [ad]
            rcases Nat.lt_or_ge (i' * m' + j') B with h | h
            · exact .inl (by omega)
            · rcases Nat.lt_or_ge (i' * m' + j') (B + us.length) with h4 | h4
              · exact absurd (by omega) (hne (i' * m' + j' - B) (by omega))
              · exact .inr (by omega)
    · rw [hget, if_neg e]
      have hcl0 := hlive c hcl
      have hk := hnot c hc' hcl0 (Ne.symm e)
      obtain ⟨_, hc0⟩ := hr.own c hc' hcl0
      refine ⟨by rw [World.size_setCells]; exact hc0.lt, hc0.own, fun p hp => ?_, fun m' i' j' x hx => ?_, fun es he => by rw [World.heap_setCells _ _ _ _ _ hk]; exact hc0.map es he⟩
      · rw [World.frozen?_setCells, hother _ _ hk]; exact hc0.room p hp
      · obtain ⟨h1, v, h2, h3⟩ := hc0.cell m' i' j' x hx
        exact ⟨h1, v, by simp only [ad]; rw [hother _ _ hk]; exact h2, h3⟩
  · have hc' : S c := hc.resolve_right fun e => hno c e (hlive c hcl)
    have hd' : S d := hd.resolve_right fun e => hno d e (hlive d hdl)
    exact hr.inj c d hc' hd' (hlive c hcl) (hlive d hdl) hne
  · have hv' := hr.zok k p v hv
    have hk : k ≠ (f b).k := fun e => by rw [e, hok.own] at hv; cases hv
    rw [hother _ _ hk]; exact hv'
  · exact absurd (hlive c hcl) (hno c hc)
  · refine ⟨by rw [World.size_setCells]; exact Nat.le_refl _, (World.os_setCells _ _ _ _).1, (World.os_setCells _ _ _ _).2.1, (World.os_setCells _ _ _ _).2.2, fun k _ hk => ?_⟩
    exact World.heap_setCells _ _ _ _ _ fun e => hk ⟨b, hS, hl, e.symm⟩
  · rw [hget] at hg
    by_cases e : b = c
    · subst e
      rw [if_pos rfl] at hg
      exact absurd hg (hcl l)
    · rw [if_neg e] at hg
      exact hN c l hc hg x hx

def upd (f : Fn) (n : Nat) (l : Loc) : Fn := fun b => if b = n then l else f b

theorem upd_ext (f : Fn) (n : Nat) (l : Loc) : Ext n f (upd f n l) := fun b hb => by simp [upd, Nat.ne_of_lt hb]
theorem upd_same (f : Fn) (n : Nat) (l : Loc) : upd f n l n = l := by simp [upd]

/-- a new block -/
theorem Post.alloc {f : Fn} {nx : Nat} {z : Z} {w : World} {H : Heap} {S : Nat → Prop} (hr : Rel S f nx z w H) (hno : ∀ b, nx ≤ b → ¬ (H.get b).live) (o : Ob) (cs : Array Value) (e : TypeId) (hnm : ¬ o.isMap) (hone : ∀ v ∈ cs.toList, v.oneCell' = true)
    (hat : ∀ m i j x, o.at m i j = some x → ∃ v, cs[i * m + j]? = some v ∧ RC f nx z x v) {esc : Bool} :
    Post S f nx z w H (upd f nx ⟨w.heap.size, 0, cs.size⟩) (nx + 1) z (w.alloc (.cells cs e)) ((nx, o) :: H) esc := by
  have hfr : Fr (img S f H) w (w.alloc (.cells cs e)) := ⟨by simp, rfl, rfl, rfl, fun k hk _ => heap_alloc_old w _ k hk⟩
  have hfr0 : Fr (fun _ => False) w (w.alloc (.cells cs e)) := ⟨by simp, rfl, rfl, rfl, fun k hk _ => heap_alloc_old w _ k hk⟩
  have hg : ∀ b, Heap.get ((nx, o) :: H) b = if nx = b then o else H.get b := Heap.get_cons nx o H
  have hold : ∀ b, (S b ∨ nx ≤ b) → (Heap.get ((nx, o) :: H) b).live → b = nx ∨ (b < nx ∧ S b ∧ (H.get b).live) := by
    intro b hb hl
    by_cases e : nx = b
    · exact .inl e.symm
    · rw [hg, if_neg e] at hl
      have : ¬ nx ≤ b := fun h => hno b h hl
      exact .inr ⟨by omega, hb.resolve_right this, hl⟩
  have hz0 : ∀ p, z w.heap.size p = none := fun p => by
    cases hv : z w.heap.size p with
    | none => rfl
    | some v => have := block_lt_of_cell (hr.zok _ _ _ hv); simp at this
  refine ⟨by omega, upd_ext _ _ _, fun _ _ _ h => h, fun _ _ _ h => .inl h, fun b hb _ => .inl (by rw [hg, if_neg (by omega)]), fun b hb hl => by rwa [hg, if_neg (by omega)] at hl, ⟨fun b hb hl => ?_, fun b c hb hc hl hl' hne => ?_, fun k p v hv => ?_⟩, fun b hb hl => ?_, hfr, fun _ m hm hN c l hc hgc x hx => ?_⟩
  · rcases hold b hb hl with rfl | ⟨hlt, hs, hl0⟩
    · rw [hg, if_pos rfl]
      refine ⟨by omega, ⟨by simp [upd_same], fun p => by rw [upd_same]; exact hz0 p, fun p hp => ?_, fun m i j x hx => ?_, fun es he => absurd (by rw [he]; trivial) hnm⟩⟩
      · rw [upd_same] at hp ⊢
        simp only [Nat.zero_add]
        rw [World.cell?_alloc_new, World.frozen?_alloc_new]
        exact ⟨⟨cs[p], by simp [hp], hone _ (by simp)⟩, rfl⟩
      · obtain ⟨v, hv, hc⟩ := hat m i j x hx
        refine ⟨by rw [upd_same]; exact (Array.getElem?_eq_some_iff.1 hv).1, v, ?_, RC.mono (upd_ext _ _ _) (by omega) (fun _ _ _ h => h) hc⟩
        simp only [ad, upd_same, Nat.zero_add]
        rw [World.cell?_alloc_new]
        exact hv
    · rw [hg, if_neg (by omega)]
      exact ⟨by omega, (hr.own b hs hl0).2.kept hlt hfr0 id (upd_ext _ _ _) (by omega) (fun _ _ _ h => h) (fun _ _ _ h => .inl h)⟩
  · rcases hold b hb hl with rfl | ⟨hlt, hs, hl0⟩
    · rcases hold c hc hl' with rfl | ⟨hlt', hs', hl0'⟩
      · exact absurd rfl hne
      · rw [upd_same, upd_ext _ _ _ _ hlt']
        have := (hr.own c hs' hl0').2.lt
        simp only
        omega
    · rcases hold c hc hl' with rfl | ⟨hlt', hs', hl0'⟩
      · rw [upd_same, upd_ext _ _ _ _ hlt]
        have := (hr.own b hs hl0).2.lt
        simp only
        omega
      · rw [upd_ext _ _ _ _ hlt, upd_ext _ _ _ _ hlt']
        exact hr.inj b c hs hs' hl0 hl0' hne
  · have h1 := hr.zok k p v hv
    rw [World.cell?_alloc_lt _ _ _ (block_lt_of_cell h1)]
    exact h1
  · rcases hold b (.inr hb) hl with rfl | ⟨hlt, _⟩
    · left; rw [upd_same]; exact Nat.le_refl _
    · omega
  · rw [hg, if_neg (by omega)] at hgc
    exact hN c l hc hgc x hx

end Go.Proofs.YtbobakclbdaepaaGreat.En
