/- The engine, part 1: how abstract values and heaps stand for a world's. -/
import Derived.Test.YtpidkmegakdohaaGreatK0
import Derived.Laws.Cells
import Derived.Laws.IdiomCopy
import Derived.Laws.World
import Derived.Laws.Rows
import Derived.Below
namespace Go.Proofs.YtpidkmegakdohaaGreat.Kn
open Go
set_option linter.unusedVariables false
set_option linter.unusedSimpArgs false

/-- where an own block lies: the world's block, from which cell on, how many cells of it there are -/
structure Loc where
  k : Nat
  d : Nat
  t : Nat

/-- cells that are never written any more -/
abbrev Z := Nat → Nat → Option Value

inductive RF (z : Z) : FV → Value → Prop
  | lit (v : Value) (h : v.oneCell' = true) : RF z (.lit v) v
  | z0n : RF z (.z0 true) (.slice none 0 0)
  | z0s (a : Addr) : RF z (.z0 false) (.slice (some a) 0 0)
  | fsn (sz : Nat) (e : Nat → List FV) : RF z (.fs true sz 0 e) (.slice none 0 0)
  | fs0 (sz : Nat) (e : Nat → List FV) (a : Addr) (cap : Nat) : RF z (.fs false sz 0 e) (.slice (some a) 0 cap)
  | fss (sz n : Nat) (e : Nat → List FV) (k o cap : Nat) (g : Nat → Nat → Value) (hc : n ≤ cap)
      (h1 : ∀ i j, i < n → j < sz → z k (o + (i * sz + j)) = some (g i j))
      (h2 : ∀ i j x, i < n → j < sz → (e i)[j]? = some x → RF z x (g i j)) (h3 : ∀ i j, i < n → j < sz → (g i j).oneCell' = true) : RF z (.fs false sz n e) (.slice (some ⟨k, o, none⟩) n cap)
  | fp (l : List FV) (k o : Nat) (g : Nat → Value) (h1 : ∀ j, j < l.length → z k (o + j) = some (g j))
      (h2 : ∀ j x, l[j]? = some x → RF z x (g j)) : RF z (.fp l) (.pointer (some ⟨k, o, none⟩))

def Z.le (z z' : Z) : Prop := ∀ k o v, z k o = some v → z' k o = some v

theorem RF.mono {z z' : Z} (hz : z.le z') {x : FV} {v : Value} (h : RF z x v) : RF z' x v := by
  induction h with
  | lit v h => exact .lit v h
  | z0n => exact .z0n
  | z0s a => exact .z0s a
  | fsn sz e => exact .fsn sz e
  | fs0 sz e a cap => exact .fs0 sz e a cap
  | fss sz n e k o cap g hc h1 _ h3 ih => exact .fss sz n e k o cap g hc (fun i j hi hj => hz _ _ _ (h1 i j hi hj)) ih h3
  | fp l k o g h1 _ ih => exact .fp l k o g (fun j hj => hz _ _ _ (h1 j hj)) ih

theorem RF.one {z : Z} {x : FV} {v : Value} (h : RF z x v) : v.oneCell' = true := by
  cases h <;> first | assumption | rfl

abbrev Fn := Nat → Loc

def ad (f : Fn) (b m i j : Nat) : Addr := ⟨(f b).k, (f b).d + (i * m + j), none⟩

def RC (f : Fn) (nx : Nat) (z : Z) : CV → Value → Prop
  | .f x, v => RF z x v
  | .ptr b m i j, v => b < nx ∧ v = .pointer (some (ad f b m i j))
  | .sl nil b m i j len cap ex sz, v => b < nx ∧ (nil = true → len = 0 ∧ cap = 0 ∧ v = .slice none 0 0) ∧
      (nil = false → ∃ cap', v = .slice (some (ad f b m i j)) len cap' ∧ len ≤ cap' ∧ cap ≤ cap' ∧ (ex = true → cap' = cap) ∧ (i * m + j) + cap' * sz ≤ (f b).t)
  | .mp b, v => b < nx ∧ v = .map (some (f b).k)
  | .fn g l, v => v = .func (.func g) #[] (l.map fun x => Value.pointer (some (ad f x.1 x.2.1 x.2.2.1 x.2.2.2))).toArray ∧ ∀ x ∈ l, x.1 < nx

theorem RC.one {f : Fn} {nx : Nat} {z : Z} {x : CV} {v : Value} (h : RC f nx z x v) : v.oneCell' = true := by
  cases x with
  | f x => exact RF.one h
  | ptr => obtain ⟨_, rfl⟩ := h; rfl
  | sl nil =>
    obtain ⟨_, h1, h2⟩ := h
    cases nil with
    | true => obtain ⟨_, _, rfl⟩ := h1 rfl; rfl
    | false => obtain ⟨c, rfl, _⟩ := h2 rfl; rfl
  | mp => obtain ⟨_, rfl⟩ := h; rfl
  | fn => obtain ⟨rfl, _⟩ := h; rfl

/-- f' goes on from f -/
def Ext (nx : Nat) (f f' : Fn) : Prop := ∀ b, b < nx → f' b = f b

theorem RC.mono {f f' : Fn} {nx nx' : Nat} {z z' : Z} (hf : Ext nx f f') (hn : nx ≤ nx') (hz : z.le z') {x : CV} {v : Value} (h : RC f nx z x v) : RC f' nx' z' x v := by
  cases x with
  | f x => exact RF.mono hz h
  | ptr b m i j => obtain ⟨h1, rfl⟩ := h; exact ⟨by omega, by simp [ad, hf b h1]⟩
  | sl nil b m i j len cap ex sz =>
    obtain ⟨h0, h1, h2⟩ := h
    refine ⟨by omega, h1, fun hn => ?_⟩
    obtain ⟨c, rfl, h3⟩ := h2 hn
    exact ⟨c, by simp [ad, hf b h0], by rw [hf b h0]; exact h3⟩
  | mp b => obtain ⟨h1, rfl⟩ := h; exact ⟨by omega, by rw [hf b h1]⟩
  | fn g l =>
    obtain ⟨rfl, h⟩ := h
    refine ⟨?_, fun x hx => by have := h x hx; omega⟩
    congr 2
    exact List.map_congr_left fun x hx => by simp [ad, hf x.1 (h x hx)]

/-- what leads to no block behind n0 needs no block behind n0 -/
theorem RC.below {f : Fn} {nx n0 : Nat} {z : Z} {x : CV} {v : Value} (h : RC f nx z x v) (hb : x.beyond n0 = false) : RC f n0 z x v := by
  have key : ∀ b : Nat, Nat.ble n0 b = false → b < n0 := fun b hb => by
    rcases Nat.lt_or_ge b n0 with h | h
    · exact h
    · rw [Nat.ble_eq_true_of_le h] at hb; cases hb
  cases x with
  | f x => exact h
  | ptr b m i j => exact ⟨key _ hb, h.2⟩
  | sl nil b m i j len cap ex sz => exact ⟨key _ hb, h.2⟩
  | mp b => exact ⟨key _ hb, h.2⟩
  | fn g l =>
    refine ⟨h.1, fun x hx => ?_⟩
    simp only [CV.beyond, List.any_eq_false] at hb
    simpa using hb x hx

/-- cell by cell -/
def RL (f : Fn) (nx : Nat) (z : Z) (l : List CV) (vs : List Value) : Prop := l.length = vs.length ∧ ∀ (i : Nat) x v, l[i]? = some x → vs[i]? = some v → RC f nx z x v

theorem RL.mono {f f' : Fn} {nx nx' : Nat} {z z' : Z} (hf : Ext nx f f') (hn : nx ≤ nx') (hz : z.le z') {l : List CV} {vs : List Value} (h : RL f nx z l vs) : RL f' nx' z' l vs :=
  ⟨h.1, fun i x v hx hv => RC.mono hf hn hz (h.2 i x v hx hv)⟩

def RA (f : Fn) (nx : Nat) (z : Z) : AV → Value → Prop
  | .one x, v => RC f nx z x v
  | .agg l, v => ∃ cs : Array Value, v = .agg cs ∧ RL f nx z l cs.toList

theorem RA.mono {f f' : Fn} {nx nx' : Nat} {z z' : Z} (hf : Ext nx f f') (hn : nx ≤ nx') (hz : z.le z') {x : AV} {v : Value} (h : RA f nx z x v) : RA f' nx' z' x v := by
  cases x with
  | one x => exact RC.mono hf hn hz h
  | agg l => obtain ⟨cs, rfl, h⟩ := h; exact ⟨cs, rfl, h.mono hf hn hz⟩

theorem cells_of_one {v : Value} (h : v.oneCell' = true) : v.cells = #[v] := by
  cases v <;> first | rfl | cases h

theorem RA.cells {f : Fn} {nx : Nat} {z : Z} {x : AV} {v : Value} (h : RA f nx z x v) : RL f nx z x.cells v.cells.toList := by
  cases x with
  | one x =>
    have h1 := RC.one h
    rw [cells_of_one h1]
    refine ⟨rfl, fun i y u hy hu => ?_⟩
    match i with
    | 0 =>
      simp [AV.cells] at hy hu
      subst hy
      subst hu
      exact h
    | i + 1 => simp [AV.cells] at hy
  | agg l => obtain ⟨cs, rfl, h⟩ := h; exact h

def RAs (f : Fn) (nx : Nat) (z : Z) (l : List AV) (vs : List Value) : Prop := l.length = vs.length ∧ ∀ (i : Nat) x v, l[i]? = some x → vs[i]? = some v → RA f nx z x v

theorem RAs.mono {f f' : Fn} {nx nx' : Nat} {z z' : Z} (hf : Ext nx f f') (hn : nx ≤ nx') (hz : z.le z') {l : List AV} {vs : List Value} (h : RAs f nx z l vs) : RAs f' nx' z' l vs :=
  ⟨h.1, fun i x v hx hv => RA.mono hf hn hz (h.2 i x v hx hv)⟩

theorem RAs.nil {f : Fn} {nx : Nat} {z : Z} : RAs f nx z [] [] := ⟨rfl, fun i x v h => by simp at h⟩

theorem RAs.cons {f : Fn} {nx : Nat} {z : Z} {x : AV} {v : Value} {l : List AV} {vs : List Value} (h : RA f nx z x v) (hl : RAs f nx z l vs) : RAs f nx z (x :: l) (v :: vs) := by
  refine ⟨by simp [hl.1], fun i y u hy hu => ?_⟩
  match i with
  | 0 => simp at hy hu; subst hy; subst hu; exact h
  | i + 1 => exact hl.2 i y u (by simpa using hy) (by simpa using hu)

def RS (f : Fn) (nx : Nat) (z : Z) : SV → Value → Prop
  | .v x, v => RA f nx z x v
  | .tup l, v => ∃ vs : Array Value, v = .tuple vs ∧ RAs f nx z l vs.toList
  | .top, _ => True

theorem RS.mono {f f' : Fn} {nx nx' : Nat} {z z' : Z} (hf : Ext nx f f') (hn : nx ≤ nx') (hz : z.le z') {x : SV} {v : Value} (h : RS f nx z x v) : RS f' nx' z' x v := by
  cases x with
  | v x => exact RA.mono hf hn hz h
  | tup l => obtain ⟨vs, rfl, h⟩ := h; exact ⟨vs, rfl, h.mono hf hn hz⟩
  | top => trivial

/-- the slots -/
def TR (f : Fn) (nx : Nat) (z : Z) (s : Slots) (a : Array Value) : Prop := ∀ t, RS f nx z (s.get t) (a.getD t undef)

theorem TR.mono {f f' : Fn} {nx nx' : Nat} {z z' : Z} (hf : Ext nx f f') (hn : nx ≤ nx') (hz : z.le z') {s : Slots} {a : Array Value} (h : TR f nx z s a) : TR f' nx' z' s a :=
  fun t => RS.mono hf hn hz (h t)

theorem rowPut_eq {α β : Type} (n : Nat) (o : α) : ∀ (l : List (Nat × α)) (k : List (Nat × α) → β), rowPut n o l k = k (rowPut n o l fun l => l)
  | [], k => rfl
  | (c, p) :: r, k => by
    simp only [rowPut]
    split
    · rfl
    · rw [rowPut_eq n o r fun r' => k ((c, p) :: r'), rowPut_eq n o r fun r' => (c, p) :: r']

theorem rowGet_put {α : Type} (x : α) (n : Nat) (o : α) (m : Nat) : ∀ (l : List (Nat × α)), rowGet x m (rowPut n o l fun l => l) = if n = m then o else rowGet x m l
  | [] => by
    simp only [rowPut, rowGet]
    by_cases e : n = m
    · subst e; simp
    · have : Nat.beq n m = false := by
        cases hb : Nat.beq n m with
        | false => rfl
        | true => exact absurd (Nat.eq_of_beq_eq_true hb) e
      simp [this, e]
  | (c, p) :: r => by
    have ne : ∀ {a b : Nat}, a ≠ b → Nat.beq a b = false := fun {a b} h => by
      cases hb : Nat.beq a b with
      | false => rfl
      | true => exact absurd (Nat.eq_of_beq_eq_true hb) h
    simp only [rowPut]
    by_cases e : c = n
    · subst e
      simp only [Nat.beq_refl, rowGet]
      by_cases e : c = m
      · subst e; simp
      · simp [ne e, e]
    · simp only [ne e]
      rw [rowPut_eq]
      simp only [rowGet]
      by_cases e1 : c = m
      · subst e1; simp [Ne.symm e]
      · simp only [ne e1]
        exact rowGet_put x n o m r

theorem four_0 {α : Type} (a b c d : α) : four a b c d 0 = a := rfl
theorem four_1 {α : Type} (a b c d : α) : four a b c d 1 = b := rfl
theorem four_2 {α : Type} (a b c d : α) : four a b c d 2 = c := rfl
theorem four_3 {α : Type} (a b c d : α) : four a b c d 3 = d := rfl

theorem Tr.putK_eq {α β : Type} : ∀ (t : Tr α) (n : Nat) (o : α) (k : Tr α → β), t.putK n o k = k (t.putK n o fun t => t)
  | .row y l, 0, o, k => rfl
  | .row y l, n + 1, o, k => by
    show rowPut n o l (fun r => k (.row y r)) = k (rowPut n o l fun r => Tr.row y r)
    rw [rowPut_eq n o l fun r => k (.row y r), rowPut_eq n o l fun r => Tr.row y r]
  | .fork a b c d, n, o, k => by
    show four (fun n o => a.putK n o fun x => k (.fork x b c d)) (fun n o => b.putK n o fun x => k (.fork a x c d)) (fun n o => c.putK n o fun x => k (.fork a b x d)) (fun n o => d.putK n o fun x => k (.fork a b c x)) (n % 4) (n / 4) o =
      k (four (fun n o => a.putK n o fun x => Tr.fork x b c d) (fun n o => b.putK n o fun x => Tr.fork a x c d) (fun n o => c.putK n o fun x => Tr.fork a b x d) (fun n o => d.putK n o fun x => Tr.fork a b c x) (n % 4) (n / 4) o)
    match n % 4 with
    | 0 => exact (Tr.putK_eq a _ o fun x => k (.fork x b c d)).trans (congrArg k (Tr.putK_eq a _ o fun x => Tr.fork x b c d).symm)
    | 1 => exact (Tr.putK_eq b _ o fun x => k (.fork a x c d)).trans (congrArg k (Tr.putK_eq b _ o fun x => Tr.fork a x c d).symm)
    | 2 => exact (Tr.putK_eq c _ o fun x => k (.fork a b x d)).trans (congrArg k (Tr.putK_eq c _ o fun x => Tr.fork a b x d).symm)
    | _ + 3 => exact (Tr.putK_eq d _ o fun x => k (.fork a b c x)).trans (congrArg k (Tr.putK_eq d _ o fun x => Tr.fork a b c x).symm)

theorem Tr.get_put {α : Type} (x : α) : ∀ (t : Tr α) (n : Nat) (o : α) (m : Nat), (t.putK n o fun t => t).get x m = if n = m then o else t.get x m
  | .row y l, 0, o, m => by
    show Tr.get x (.row o l) m = _
    match m with
    | 0 => rfl
    | m + 1 => simp [show Tr.get x (.row o l) (m + 1) = Tr.get x (.row y l) (m + 1) from rfl]
  | .row y l, n + 1, o, m => by
    show Tr.get x (rowPut n o l fun r => Tr.row y r) m = _
    rw [rowPut_eq]
    match m with
    | 0 => simp; rfl
    | m + 1 =>
      show rowGet x m (rowPut n o l fun l => l) = if n + 1 = m + 1 then o else rowGet x m l
      rw [rowGet_put]
      simp
  | .fork a b c d, n, o, m => by
    have hnm : n = m ↔ n % 4 = m % 4 ∧ n / 4 = m / 4 := ⟨fun e => by rw [e]; exact ⟨rfl, rfl⟩, fun ⟨h1, h2⟩ => by omega⟩
    have ha := Tr.get_put x a (n / 4) o (m / 4)
    have hb := Tr.get_put x b (n / 4) o (m / 4)
    have hc := Tr.get_put x c (n / 4) o (m / 4)
    have hd := Tr.get_put x d (n / 4) o (m / 4)
    show Tr.get x (four (fun n o => a.putK n o fun x => Tr.fork x b c d) (fun n o => b.putK n o fun x => Tr.fork a x c d) (fun n o => c.putK n o fun x => Tr.fork a b x d) (fun n o => d.putK n o fun x => Tr.fork a b c x) (n % 4) (n / 4) o) m =
      if n = m then o else four (a.get x) (b.get x) (c.get x) (d.get x) (m % 4) (m / 4)
    simp only [hnm]
    have hm : m % 4 < 4 := Nat.mod_lt _ (by decide)
    have hn : n % 4 < 4 := Nat.mod_lt _ (by decide)
    have key : ∀ (p q r u : Tr α), Tr.get x (.fork p q r u) m = four (p.get x) (q.get x) (r.get x) (u.get x) (m % 4) (m / 4) := fun _ _ _ _ => rfl
    generalize hk : n % 4 = i at *
    generalize hj : m % 4 = j at *
    match i, hn with
    | 0, _ =>
      show Tr.get x (a.putK (n / 4) o fun x => Tr.fork x b c d) m = _
      rw [Tr.putK_eq, key]
      match j, hm with
      | 0, _ => simpa [four_0, four_1, four_2, four_3] using ha
      | 1, _ => simp [four_0, four_1, four_2, four_3]
      | 2, _ => simp [four_0, four_1, four_2, four_3]
      | 3, _ => simp [four_0, four_1, four_2, four_3]
    | 1, _ =>
      show Tr.get x (b.putK (n / 4) o fun x => Tr.fork a x c d) m = _
      rw [Tr.putK_eq, key]
      match j, hm with
      | 0, _ => simp [four_0, four_1, four_2, four_3]
      | 1, _ => simpa [four_0, four_1, four_2, four_3] using hb
      | 2, _ => simp [four_0, four_1, four_2, four_3]
      | 3, _ => simp [four_0, four_1, four_2, four_3]
    | 2, _ =>
      show Tr.get x (c.putK (n / 4) o fun x => Tr.fork a b x d) m = _
      rw [Tr.putK_eq, key]
      match j, hm with
      | 0, _ => simp [four_0, four_1, four_2, four_3]
      | 1, _ => simp [four_0, four_1, four_2, four_3]
      | 2, _ => simpa [four_0, four_1, four_2, four_3] using hc
      | 3, _ => simp [four_0, four_1, four_2, four_3]
    | 3, _ =>
      show Tr.get x (d.putK (n / 4) o fun x => Tr.fork a b c x) m = _
      rw [Tr.putK_eq, key]
      match j, hm with
      | 0, _ => simp [four_0, four_1, four_2, four_3]
      | 1, _ => simp [four_0, four_1, four_2, four_3]
      | 2, _ => simp [four_0, four_1, four_2, four_3]
      | 3, _ => simpa [four_0, four_1, four_2, four_3] using hd

theorem Tr.get_forks {α : Type} (x : α) : ∀ (k n : Nat), (Tr.forks x k).get x n = x
  | 0, 0 => rfl
  | 0, n + 1 => rfl
  | k + 1, n => by
    show four ((Tr.forks x k).get x) ((Tr.forks x k).get x) ((Tr.forks x k).get x) ((Tr.forks x k).get x) (n % 4) (n / 4) = x
    match n % 4 with
    | 0 => exact Tr.get_forks x k _
    | 1 => exact Tr.get_forks x k _
    | 2 => exact Tr.get_forks x k _
    | _ + 3 => exact Tr.get_forks x k _

theorem Slots.get_cons (k : Nat) (v : SV) (r : Slots) (t : Nat) : Slots.get (r.put k v) t = if k = t then v else Slots.get r t := Tr.get_put _ r k v t

theorem TR.put {f : Fn} {nx : Nat} {z : Z} {s : Slots} {a : Array Value} (h : TR f nx z s a) {d : Nat} (hd : d < a.size) {x : SV} {v : Value} (hx : RS f nx z x v) :
    TR f nx z (s.put d x) (a.setIfInBounds d v) := by
  intro t
  rw [Slots.get_cons]
  by_cases e : d = t
  · subst e; simp [hd]; exact hx
  · have := h t
    simp [e] at *
    simpa [Array.getElem?_setIfInBounds, e] using this

/-- a slot's value, told anew -/
theorem TR.tell {f : Fn} {nx : Nat} {z : Z} {s : Slots} {a : Array Value} (h : TR f nx z s a) {d : Nat} {x : SV} (hx : RS f nx z x (a.getD d undef)) :
    TR f nx z (s.put d x) a := by
  intro t
  rw [Slots.get_cons]
  by_cases e : d = t
  · subst e; simp only [if_true]; exact hx
  · simp only [e, if_false]; exact h t

def Ob.live : Ob → Prop
  | .cells _ => True
  | .arr live _ _ _ => live = true
  | .map _ => True
  | .dead => False

def Ob.at (o : Ob) (m i j : Nat) : Option CV :=
  match o with
  | .cells l => if m = 0 ∧ i = 0 then l[j]? else none
  | .arr live sz n e => if live = true ∧ m = sz ∧ i < n ∧ j < sz then ((e i)[j]?).map .f else none
  | _ => none

def Ob.isMap : Ob → Prop
  | .map _ => True
  | _ => False

/-- a map's stamps: each is of one entry, and behind the clock -/
def BornOk (arr : Array MapEntry) (clock : Nat) : Prop := (∀ x ∈ arr.toList, x.born < clock) ∧ (arr.toList.map (·.born)).Nodup
theorem BornOk.nil : BornOk #[] 0 := ⟨by simp, by simp⟩
theorem BornOk.push {arr : Array MapEntry} {clock : Nat} (h : BornOk arr clock) (k v : Value) : BornOk (arr.push { key := k, val := v, born := clock }) (clock + 1) := by
  obtain ⟨h1, h2⟩ := h
  refine ⟨fun x hx => ?_, ?_⟩
  · simp only [Array.toList_push, List.mem_append, List.mem_singleton] at hx
    rcases hx with hx | rfl
    · exact Nat.lt_succ_of_lt (h1 x hx)
    · exact Nat.lt_succ_self _
  · simp only [Array.toList_push, List.map_append, List.map_cons, List.map_nil]
    refine List.nodup_append.2 ⟨h2, by simp, ?_⟩
    intro a ha b hb
    simp only [List.mem_singleton] at hb
    subst hb
    obtain ⟨x, hx, rfl⟩ := List.mem_map.1 ha
    exact Nat.ne_of_lt (h1 x hx)
theorem BornOk.modify {arr : Array MapEntry} {clock : Nat} (h : BornOk arr clock) (i : Nat) (k v : Value) : BornOk (arr.modify i fun e => { e with key := k, val := v }) clock := by
  have hb : (arr.modify i fun e => { e with key := k, val := v }).toList.map (·.born) = arr.toList.map (·.born) := by
    apply List.ext_getElem?
    intro j
    simp only [List.getElem?_map, Array.getElem?_toList, Array.getElem?_modify]
    by_cases hij : i = j
    · subst hij
      cases arr[i]? <;> simp
    · simp [hij]
  refine ⟨fun x hx => ?_, by rw [hb]; exact h.2⟩
  have : x.born ∈ (arr.modify i fun e => { e with key := k, val := v }).toList.map (·.born) := List.mem_map.2 ⟨x, hx, rfl⟩
  rw [hb] at this
  obtain ⟨y, hy, e⟩ := List.mem_map.1 this
  rw [← e]; exact h.1 y hy

/-- which cells of a block the world holds for frozen -/
def frange (w : World) (k : Nat) : Option (Nat × Nat) := match w.heap[k]? with | some (.cells _ _ fr) => some fr | _ => none
theorem frange_block {w w' : World} {k : Nat} (h : w'.heap[k]? = w.heap[k]?) : frange w' k = frange w k := by unfold frange; rw [h]

structure BOk (f : Fn) (nx : Nat) (z : Z) (w : World) (b : Nat) (o : Ob) : Prop where
  lt : (f b).k < w.heap.size
  own : ∀ p, z (f b).k p = none
  room : ∀ p, p < (f b).t → (∃ v, w.cell? ⟨(f b).k, (f b).d + p, none⟩ = some v ∧ v.oneCell' = true) ∧ w.frozen? ⟨(f b).k, (f b).d + p, none⟩ = false
  cell : ∀ m i j x, o.at m i j = some x → i * m + j < (f b).t ∧ ∃ v, w.cell? (ad f b m i j) = some v ∧ RC f nx z x v
  map : ∀ es, o = .map es → (f b).t = 0 ∧ ∃ arr clock, w.heap[(f b).k]? = some (.map arr clock) ∧ arr.toList.map (fun e => (e.key, e.val)) = es ∧ BornOk arr clock
  cold : ∀ lo hi, frange w (f b).k = some (lo, hi) → lo = hi ∨ (f b).d + (f b).t ≤ lo

theorem BOk.hasCell {f : Fn} {nx : Nat} {z : Z} {w : World} {b : Nat} {o : Ob} (h : BOk f nx z w b o) {p : Nat} (hp : p < (f b).t) : (w.cell? ⟨(f b).k, (f b).d + p, none⟩).isSome = true := by
  obtain ⟨v, hv, _⟩ := (h.room p hp).1
  rw [hv]; rfl

theorem RL.all {f : Fn} {nx : Nat} {z : Z} {l : List CV} {vs : List Value} (h : RL f nx z l vs) : ∀ v ∈ vs, v.oneCell' = true := by
  intro v hv
  obtain ⟨i, hi⟩ := List.mem_iff_getElem?.1 hv
  have hlt : i < l.length := by rw [h.1]; exact (List.getElem?_eq_some_iff.1 hi).1
  exact (h.2 i _ v (List.getElem?_eq_getElem hlt) hi).one

structure Rel (S : Nat → Prop) (f : Fn) (nx : Nat) (z : Z) (w : World) (H : Heap) : Prop where
  own : ∀ b, S b → (H.get b).live → b < nx ∧ BOk f nx z w b (H.get b)
  inj : ∀ b c, S b → S c → (H.get b).live → (H.get c).live → b ≠ c → (f b).k ≠ (f c).k
  zok : ∀ k o v, z k o = some v → w.cell? ⟨k, o, none⟩ = some v

abbrev All : Nat → Prop := fun _ => True

theorem Rel.less {S S' : Nat → Prop} {f : Fn} {nx : Nat} {z : Z} {w : World} {H : Heap} (h : Rel S f nx z w H) (hs : ∀ b, S' b → S b) : Rel S' f nx z w H :=
  ⟨fun b hb => h.own b (hs b hb), fun b c hb hc => h.inj b c (hs b hb) (hs c hc), h.zok⟩

/-- the world's blocks under S -/
def img (S : Nat → Prop) (f : Fn) (H : Heap) (k : Nat) : Prop := ∃ b, S b ∧ (H.get b).live ∧ (f b).k = k

structure Fr (I : Nat → Prop) (w w' : World) : Prop where
  size : w.heap.size ≤ w'.heap.size
  os : w'.os = w.os
  tape : w'.tape = w.tape
  output : w'.output = w.output
  block : ∀ k, k < w.heap.size → ¬ I k → w'.heap[k]? = w.heap[k]?

theorem Fr.refl (I : Nat → Prop) (w : World) : Fr I w w := ⟨Nat.le_refl _, rfl, rfl, rfl, fun _ _ _ => rfl⟩

theorem Fr.trans {I J : Nat → Prop} {a b c : World} (h : Fr I a b) (k : Fr J b c) (hJ : ∀ x, x < a.heap.size → J x → I x) : Fr I a c :=
  ⟨Nat.le_trans h.size k.size, k.os.trans h.os, k.tape.trans h.tape, k.output.trans h.output, fun x hx hn =>
    (k.block x (Nat.lt_of_lt_of_le hx h.size) fun hj => hn (hJ x hx hj)).trans (h.block x hx hn)⟩

theorem Fr.less {I J : Nat → Prop} {a b : World} (h : Fr I a b) (hJ : ∀ x, x < a.heap.size → I x → J x) : Fr J a b :=
  ⟨h.size, h.os, h.tape, h.output, fun x hx hn => h.block x hx fun hi => hn (hJ x hx hi)⟩

theorem Fr.below {w w' : World} (h : Fr (fun _ => False) w w') : Go.RowKit.Below w.heap.size w w' :=
  ⟨h.os, h.tape, h.output, h.size, fun k hk => h.block k hk id⟩

def NoNew (m : Nat) (H : Heap) : Prop := ∀ b l, b < m → H.get b = .cells l → ∀ x ∈ l, x.beyond m = false

/-- what a step on the blocks S leaves -/
structure Post (S : Nat → Prop) (f : Fn) (nx : Nat) (z : Z) (w : World) (H : Heap) (f' : Fn) (nx' : Nat) (z' : Z) (w' : World) (H' : Heap) (esc : Bool) : Prop where
  hnx : nx ≤ nx'
  ext : Ext nx f f'
  zle : z.le z'
  znew : ∀ k o v, z' k o = some v → z k o = some v ∨ w.heap.size ≤ k ∨ img S f H k
  same : ∀ b, b < nx → ¬ S b → H'.get b = H.get b ∨ ¬ (H'.get b).live
  dead : ∀ b, b < nx → (H'.get b).live → (H.get b).live
  rel : Rel (fun b => S b ∨ nx ≤ b) f' nx' z' w' H'
  fresh : ∀ b, nx ≤ b → (H'.get b).live → w.heap.size ≤ (f' b).k ∨ img S f H (f' b).k
  fr : Fr (img S f H) w w'
  noesc : esc = false → ∀ m, m ≤ nx → NoNew m H → NoNew m H'

theorem Fr.cell {I : Nat → Prop} {w w' : World} (h : Fr I w w') {k : Nat} (hk : k < w.heap.size) (hn : ¬ I k) (o : Nat) : w'.cell? ⟨k, o, none⟩ = w.cell? ⟨k, o, none⟩ :=
  World.cell?_of_block (w := w) (h.block k hk hn)

theorem Fr.frozen {I : Nat → Prop} {w w' : World} (h : Fr I w w') {k : Nat} (hk : k < w.heap.size) (hn : ¬ I k) (o : Nat) : w'.frozen? ⟨k, o, none⟩ = w.frozen? ⟨k, o, none⟩ :=
  World.frozen?_of_block (w := w) (h.block k hk hn)

theorem BOk.kept {f f' : Fn} {nx nx' : Nat} {z z' : Z} {w w' : World} {b : Nat} {o : Ob} (h : BOk f nx z w b o) (hb : b < nx) {I : Nat → Prop} (hfr : Fr I w w') (hn : ¬ I (f b).k)
    (he : Ext nx f f') (hx : nx ≤ nx') (hz : z.le z') (hzn : ∀ k o v, z' k o = some v → z k o = some v ∨ w.heap.size ≤ k ∨ I k) : BOk f' nx' z' w' b o := by
  have e := he b hb
  refine ⟨by rw [e]; exact Nat.lt_of_lt_of_le h.lt hfr.size, fun p => ?_, fun p hp => ?_, fun m i j x hx' => ?_, fun es he => by rw [e, hfr.block _ h.lt hn]; exact h.map es he, fun lo hi hq => by rw [e] at hq ⊢; rw [frange_block (hfr.block _ h.lt hn)] at hq; exact h.cold lo hi hq⟩
  · rw [e]
    cases hv : z' (f b).k p with
    | none => rfl
    | some v =>
      rcases hzn _ _ _ hv with h1 | h1 | h1
      · rw [h.own p] at h1; cases h1
      · have := h.lt; omega
      · exact absurd h1 hn
  · rw [e] at hp ⊢
    rw [hfr.cell h.lt hn, hfr.frozen h.lt hn]
    exact h.room p hp
  · obtain ⟨h1, v, h2, h3⟩ := h.cell m i j x hx'
    refine ⟨by rw [e]; exact h1, v, ?_, RC.mono he hx hz h3⟩
    simp only [ad, e]
    rw [hfr.cell h.lt hn]
    exact h2

/-- a step on some blocks is a step on all of them -/
theorem Post.lift {S : Nat → Prop} {f f' : Fn} {nx nx' : Nat} {z z' : Z} {w w' : World} {H H' : Heap} {esc : Bool} (hr : Rel All f nx z w H)
    (h : Post S f nx z w H f' nx' z' w' H' esc) : Post All f nx z w H f' nx' z' w' H' esc := by
  have himg : ∀ b, b < nx → ¬ S b → (H.get b).live → ¬ img S f H (f b).k := by
    rintro b hb hs hl ⟨c, hc, hcl, he⟩
    exact hr.inj c b trivial trivial hcl hl (fun e => hs (e ▸ hc)) he
  have hsub : ∀ x, img S f H x → img All f H x := fun x ⟨b, _, hl, he⟩ => ⟨b, trivial, hl, he⟩
  have hkeep : ∀ b, b < nx → ¬ S b → (H'.get b).live → BOk f' nx' z' w' b (H'.get b) := by
    intro b hb hs hl
    have hl0 := h.dead b hb hl
    rcases h.same b hb hs with e | e
    · rw [e]
      exact (hr.own b trivial hl0).2.kept hb h.fr (himg b hb hs hl0) h.ext h.hnx h.zle h.znew
    · exact absurd hl e
  refine ⟨h.hnx, h.ext, h.zle, fun k o v hv => (h.znew k o v hv).imp id (Or.imp id (hsub _)), fun b hb hs => absurd trivial hs, h.dead, ⟨?_, ?_, h.rel.zok⟩, fun b hb hl => (h.fresh b hb hl).imp id (hsub _), h.fr.less fun x _ => hsub x, h.noesc⟩
  · intro b _ hl
    by_cases hs : S b ∨ nx ≤ b
    · exact h.rel.own b hs hl
    · have hb : b < nx := by
        rcases Nat.lt_or_ge b nx with h | h
        · exact h
        · exact absurd (Or.inr h) hs
      exact ⟨Nat.lt_of_lt_of_le hb h.hnx, hkeep b hb (fun e => hs (.inl e)) hl⟩
  · have side : ∀ b c, b < nx → ¬ S b → (S c ∨ nx ≤ c) → (H'.get b).live → (H'.get c).live → (f' b).k ≠ (f' c).k := by
      intro b c hb hs hc hl hl' he
      have hl0 := h.dead b hb hl
      rw [h.ext b hb] at he
      have hlt := (hr.own b trivial hl0).2.lt
      rcases Nat.lt_or_ge c nx with h1 | h1
      · have hc' : S c := hc.resolve_right (by omega)
        rw [h.ext c h1] at he
        exact hr.inj b c trivial trivial hl0 (h.dead c h1 hl') (fun e => hs (e ▸ hc')) he
      · rcases h.fresh c h1 hl' with h2 | h2
        · rw [← he] at h2; omega
        · rw [← he] at h2
          exact himg b hb hs hl0 h2
    intro b c _ _ hl hl' hne
    by_cases hb : S b ∨ nx ≤ b
    · by_cases hc : S c ∨ nx ≤ c
      · exact h.rel.inj b c hb hc hl hl' hne
      · have hc0 : c < nx := by
          rcases Nat.lt_or_ge c nx with h | h
          · exact h
          · exact absurd (Or.inr h) hc
        exact (side c b hc0 (fun e => hc (.inl e)) hb hl' hl).symm
    · have hb0 : b < nx := by
        rcases Nat.lt_or_ge b nx with h | h
        · exact h
        · exact absurd (Or.inr h) hb
      by_cases hc : S c ∨ nx ≤ c
      · exact side b c hb0 (fun e => hb (.inl e)) hc hl hl'
      · have hc0 : c < nx := by
          rcases Nat.lt_or_ge c nx with h | h
          · exact h
          · exact absurd (Or.inr h) hc
        rw [h.ext b hb0, h.ext c hc0]
        exact hr.inj b c trivial trivial (h.dead b hb0 hl) (h.dead c hc0 hl') hne

theorem Post.refl {S : Nat → Prop} {f : Fn} {nx : Nat} {z : Z} {w : World} {H : Heap} {esc : Bool} (hr : Rel S f nx z w H) (hf : ∀ b, nx ≤ b → ¬ (H.get b).live) : Post S f nx z w H f nx z w H esc := by
  refine ⟨Nat.le_refl _, fun _ _ => rfl, fun _ _ _ h => h, fun _ _ _ h => .inl h, fun _ _ _ => .inl rfl, fun _ _ h => h, ⟨?_, ?_, hr.zok⟩, fun b hb hl => absurd hl (hf b hb), Fr.refl _ _, fun _ _ _ h => h⟩
  · intro b hb hl
    rcases hb with hb | hb
    · exact hr.own b hb hl
    · exact absurd hl (hf b hb)
  · intro b c hb hc hl hl' hne
    rcases hb with hb | hb
    · rcases hc with hc | hc
      · exact hr.inj b c hb hc hl hl' hne
      · exact absurd hl' (hf c hc)
    · exact absurd hl (hf b hb)

theorem Post.trans {f f1 f2 : Fn} {nx n1 n2 : Nat} {z z1 z2 : Z} {w w1 w2 : World} {H H1 H2 : Heap} {e1 e2 : Bool}
    (h : Post All f nx z w H f1 n1 z1 w1 H1 e1) (k : Post All f1 n1 z1 w1 H1 f2 n2 z2 w2 H2 e2) : Post All f nx z w H f2 n2 z2 w2 H2 (e1 || e2) := by
  have himg : ∀ x, img All f1 H1 x → w.heap.size ≤ x ∨ img All f H x := by
    rintro x ⟨b, _, hl, rfl⟩
    rcases Nat.lt_or_ge b nx with hb | hb
    · exact .inr ⟨b, trivial, h.dead b hb hl, by rw [h.ext b hb]⟩
    · exact h.fresh b hb hl
  refine ⟨Nat.le_trans h.hnx k.hnx, fun b hb => (k.ext b (Nat.lt_of_lt_of_le hb h.hnx)).trans (h.ext b hb), fun a b c hv => k.zle _ _ _ (h.zle _ _ _ hv), fun a b c hv => ?_, fun b _ hs => absurd trivial hs,
    fun b hb hl => h.dead b hb (k.dead b (Nat.lt_of_lt_of_le hb h.hnx) hl), ⟨fun b _ => k.rel.own b (.inl trivial), fun b c _ _ => k.rel.inj b c (.inl trivial) (.inl trivial), k.rel.zok⟩, fun b hb hl => ?_, ?_, fun he m hm hN => ?_⟩
  · rcases k.znew a b c hv with h1 | h1 | h1
    · exact h.znew a b c h1
    · exact .inr (.inl (Nat.le_trans h.fr.size h1))
    · exact .inr (himg _ h1)
  · rcases Nat.lt_or_ge b n1 with h1 | h1
    · rw [k.ext b h1]
      exact h.fresh b hb (k.dead b h1 hl)
    · rcases k.fresh b h1 hl with h2 | h2
      · exact .inl (Nat.le_trans h.fr.size h2)
      · exact himg _ h2
  · refine h.fr.trans k.fr fun x hx hi => ?_
    rcases himg x hi with h1 | h1
    · omega
    · exact h1
  · simp only [Bool.or_eq_false_iff] at he
    exact k.noesc he.2 m (Nat.le_trans hm h.hnx) (h.noesc he.1 m hm hN)

theorem Post.all {f f' : Fn} {nx nx' : Nat} {z z' : Z} {w w' : World} {H H' : Heap} {esc : Bool} (h : Post All f nx z w H f' nx' z' w' H' esc) : Rel All f' nx' z' w' H' :=
  ⟨fun b _ => h.rel.own b (.inl trivial), fun b c _ _ => h.rel.inj b c (.inl trivial) (.inl trivial), h.rel.zok⟩

theorem Rel.noLive {f : Fn} {nx : Nat} {z : Z} {w : World} {H : Heap} (hr : Rel All f nx z w H) : ∀ b, nx ≤ b → ¬ (H.get b).live :=
  fun b hb hl => by have := (hr.own b trivial hl).1; omega

end Go.Proofs.YtpidkmegakdohaaGreat.Kn
