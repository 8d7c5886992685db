/- Texts put together: F13, RB, SL. -/
import Derived.Test.YtbobakclbdaepaaGreatG15
import Derived.Shelf.Sort.Plain
import Derived.Shelf.Small.Bits
import Derived.Shelf.Strconv.Itoa0
import Derived.Ground.Names2Prog
import Derived.Shelf.Slices.Clone
import Derived.Shelf.Slices.CompactI
import Derived.Shelf.Slices.SearchI
import Derived.Shelf.Slices.Cells
import Derived.Shelf.Slices.Empties
import Derived.Ground.SlgnProg
import Derived.Shelf.SlicesE.Clone
import Derived.Test.YtbobakclbdaepaaGreatProg
/- The engine, part 36: rows that a call of the library's has put otherwise: what the kit's own contracts say, told of own blocks. -/
namespace Go.Proofs.YtbobakclbdaepaaGreat.En
open Go
set_option linter.unusedVariables false
set_option linter.unusedSimpArgs false

/-- as Post.write2, of a world behind that is told by its cells -/
theorem Post.row {f : Fn} {nx : Nat} {z : Z} {w w' : World} {H : Heap} {b : Nat} {o' : Ob} {vs : List CV} {us : List Value} {S : Nat → Prop} (hS : S b) (hr : Rel S f nx z w H)
    {B : Nat} (hl : (H.get b).live) (hnm : ¬ o'.isMap) (hroom : ∀ q, q < us.length → B + q < (f b).t)
    (hat : ∀ m' i' j' x, o'.at m' i' j' = some x → (∃ q, i' * m' + j' = B + q ∧ vs[q]? = some x) ∨ ((H.get b).at m' i' j' = some x ∧ ∀ q, q < us.length → i' * m' + j' ≠ B + q))
    (hcl : ∀ l, o' ≠ .cells l) (hu : RL f nx z vs us)
    (hfr : Fr (fun k => k = (f b).k) w w')
    (hin : ∀ q (hq : q < us.length), w'.cell? ⟨(f b).k, (f b).d + B + q, none⟩ = some us[q])
    (hout : ∀ p, (p < (f b).d + B ∨ (f b).d + B + us.length ≤ p) → w'.cell? ⟨(f b).k, p, none⟩ = w.cell? ⟨(f b).k, p, none⟩)
    (hfz : ∀ p, w'.frozen? ⟨(f b).k, p, none⟩ = w.frozen? ⟨(f b).k, p, none⟩) (hno : ∀ b, nx ≤ b → ¬ (H.get b).live) {esc : Bool} :
    Post S f nx z w H f nx z w' (H.put b o') esc := by
  obtain ⟨hb, hok⟩ := hr.own b hS hl
  have hlen := hu.1
  have hbk : ∀ k, k < w.heap.size → k ≠ (f b).k → w'.heap[k]? = w.heap[k]? := fun k hk hne => hfr.block k hk hne
  have hother : ∀ k p, k < w.heap.size → k ≠ (f b).k → w'.cell? ⟨k, p, none⟩ = w.cell? ⟨k, p, none⟩ := fun k p hs hk => World.cell?_of_block (w := w) (hbk k hs hk)
  have hotherf : ∀ k p, k < w.heap.size → k ≠ (f b).k → w'.frozen? ⟨k, p, none⟩ = w.frozen? ⟨k, p, none⟩ := fun k p hs hk => World.frozen?_of_block (w := w) (hbk k hs hk)
  have hget : ∀ c, (H.put b o').get c = if b = c then o' else H.get c := Heap.get_put H b o'
  have hlive : ∀ c, ((H.put b o').get c).live → (H.get c).live := fun c hc => by
    rw [hget] at hc
    by_cases e : b = c
    · subst e; exact hl
    · simpa [e] using hc
  have hnot : ∀ c, S c → (H.get c).live → c ≠ b → (f c).k ≠ (f b).k := fun c hc hcl hne => hr.inj c b hc hS hcl hl hne
  refine ⟨Nat.le_refl _, fun _ _ => rfl, fun _ _ _ h => h, fun _ _ _ h => .inl h, fun c _ hc => ?_, fun c _ hc => hlive c hc, ⟨fun c hc hcl => ?_, fun c d hc hd hcl hdl hne => ?_, fun k p v hv => ?_⟩, fun c hc hcl => ?_, ?_, fun he mm hm hN c l hc hg x hx => ?_⟩
  · left; rw [hget]; rw [if_neg (fun (e : b = c) => hc (e ▸ hS))]
  · have hc' : S c := hc.resolve_right fun e => hno c e (hlive c hcl)
    refine ⟨(hr.own c hc' (hlive c hcl)).1, ?_⟩
    by_cases e : b = c
    · subst e
      rw [hget, if_pos rfl]
      refine ⟨Nat.lt_of_lt_of_le hok.lt hfr.size, hok.own, fun p hp => ?_, fun m' i' j' x hx => ?_, fun es he => absurd (by rw [he]; trivial) hnm⟩
      · rw [hfz]
        refine ⟨?_, (hok.room p hp).2⟩
        by_cases hinn : B ≤ p ∧ p < B + us.length
        · have := hin (p - B) (by omega)
          rw [show (f b).d + B + (p - B) = (f b).d + p by omega] at this
          exact ⟨_, this, hu.all _ (List.getElem_mem _)⟩
        · rw [hout _ (by omega)]
          exact (hok.room p hp).1
      · rcases hat m' i' j' x hx with ⟨q, hq, hv⟩ | ⟨ho, hne⟩
        · have hq' : q < us.length := by
            have := (List.getElem?_eq_some_iff.1 hv).1
            omega
          refine ⟨by rw [hq]; exact hroom q hq', us[q]'hq', ?_, hu.2 q x (us[q]'hq') hv (List.getElem?_eq_getElem hq')⟩
          have := hin q hq'
          simp only [ad, hq]
          rw [show (f b).d + (B + q) = (f b).d + B + q by omega]
          exact this
        · obtain ⟨h1, v, h2, h3⟩ := hok.cell m' i' j' x ho
          refine ⟨h1, v, ?_, h3⟩
          simp only [ad] at h2 ⊢
          rw [hout _ ?_]
          · exact h2
          · rcases Nat.lt_or_ge (i' * m' + j') B with h | h
            · exact .inl (by omega)
            · rcases Nat.lt_or_ge (i' * m' + j') (B + us.length) with h4 | h4
              · exact absurd (by omega) (hne (i' * m' + j' - B) (by omega))
              · exact .inr (by omega)
    · rw [hget, if_neg e]
      have hcl0 := hlive c hcl
      have hk := hnot c hc' hcl0 (Ne.symm e)
      obtain ⟨_, hc0⟩ := hr.own c hc' hcl0
      refine ⟨Nat.lt_of_lt_of_le hc0.lt hfr.size, hc0.own, fun p hp => ?_, fun m' i' j' x hx => ?_, fun es he => by rw [hbk _ hc0.lt hk]; exact hc0.map es he⟩
      · rw [hotherf _ _ hc0.lt hk, hother _ _ hc0.lt hk]; exact hc0.room p hp
      · obtain ⟨h1, v, h2, h3⟩ := hc0.cell m' i' j' x hx
        exact ⟨h1, v, by simp only [ad]; rw [hother _ _ hc0.lt hk]; exact h2, h3⟩
  · have hc' : S c := hc.resolve_right fun e => hno c e (hlive c hcl)
    have hd' : S d := hd.resolve_right fun e => hno d e (hlive d hdl)
    exact hr.inj c d hc' hd' (hlive c hcl) (hlive d hdl) hne
  · have hv' := hr.zok k p v hv
    have hk : k ≠ (f b).k := fun e => by rw [e, hok.own] at hv; cases hv
    rw [hother _ _ (block_lt_of_cell hv') hk]; exact hv'
  · exact absurd (hlive c hcl) (hno c hc)
  · exact ⟨hfr.size, hfr.os, hfr.tape, hfr.output, fun k hs hk => hbk k hs fun e => hk ⟨b, hS, hl, e.symm⟩⟩
  · rw [hget] at hg
    by_cases e : b = c
    · subst e
      rw [if_pos rfl] at hg
      exact absurd hg (hcl l)
    · rw [if_neg e] at hg
      exact hN c l hc hg x hx

/-- a row of numbers -/
abbrev intE (x : Nat → Int) : Nat → List FV := fun i => [.lit (.int .i64 (x i))]
def IntE (e : Nat → List FV) : Prop := ∃ x, e = intE x
def intOf (e : Nat → List FV) : Nat → Int := fun i => match e i with | [.lit (.int _ a)] => a | _ => 0
theorem intOf_intE (x : Nat → Int) : intOf (intE x) = x := rfl
theorem IntE_ok (x : Nat → Int) : IntE (intE x) := ⟨x, rfl⟩
/-- its numbers, n from a on -/
def rowL (x : Nat → Int) (a n : Nat) : List Int := (List.range n).map fun i => x (a + i)
/-- others in their place -/
def putL (x : Nat → Int) (a : Nat) (l : List Int) : Nat → Int := fun i => if a ≤ i ∧ i < a + l.length then l.getD (i - a) 0 else x i
theorem rowL_length (x : Nat → Int) (a n : Nat) : (rowL x a n).length = n := by simp [rowL]
theorem rowL_get (x : Nat → Int) (a n i : Nat) (h : i < n) : (rowL x a n)[i]? = some (x (a + i)) := by simp [rowL, h]

open Go.Sort in
theorem fr_putRow (w : World) (n k o : Nat) (d : Array Int) (os : Array Obj) : Fr (fun x => x = k) w (grow (putRow (Value.int .i64) (Sort.ahead w n) k o d) os) := by
  refine ⟨?_, rfl, rfl, rfl, fun x hx hne => ?_⟩
  · simp [grow, putRow, mapBlock, Sort.ahead]
  · have h1 : x < (putRow (Value.int .i64) (Sort.ahead w n) k o d).heap.size := by simpa [putRow, mapBlock, Sort.ahead] using hx
    rw [heap_grow_old _ _ h1]
    simp only [putRow, mapBlock, Sort.ahead]
    rw [Array.getElem?_modify, if_neg (fun e => hne e.symm)]

open Go.Sort in
/-- a call that leaves other numbers in an own row -/
theorem row_to {P : Program} {g b a n cap N nx : Nat} {ex : Bool} {x : Nat → Int} {H : Heap} {ys : List Int} {vr : SV} (hH : H.get b = .arr true 1 N (intE x)) (hn : a + n ≤ N) (hys : ys.length = n)
    (hC : ∀ (k o c : Nat) (w : World), n ≤ c → Holds (Value.int .i64) w k o (rowL x a n).toArray → k < w.heap.size → Calls P g #[.slice (some ⟨k, o, none⟩) n c] w fun e w' =>
      (∃ v, e = .returned v ∧ ∀ (f : Fn) (z : Z), (⟨k, o, none⟩ : Addr) = ad f b 1 a 0 → b < nx → (ex = true → c = cap) → cap ≤ c → (a * 1 + 0) + c * 1 ≤ (f b).t → RS f nx z vr v) ∧ ∃ q os, w' = grow (putRow (Value.int .i64) (Sort.ahead w q) k o ys.toArray) os) :
    CallTo P g [.one (.sl false b 1 a 0 n cap ex 1)] H nx ⟨vr, H.put b (.arr true 1 N (intE (putL x a ys))), nx, false, [b]⟩ := by
  intro f z w vs hr ha R hR
  obtain ⟨v, rfl⟩ : ∃ v, vs = #[v] := by
    have := ha.1
    simp only [List.length_cons, List.length_nil, Array.length_toList] at this
    match vs, this with
    | ⟨[v]⟩, _ => exact ⟨v, rfl⟩
  have hv : RA f nx z (.one (.sl false b 1 a 0 n cap ex 1)) v := ha.2 0 _ _ rfl rfl
  obtain ⟨hb, _, hX⟩ := hv
  obtain ⟨c, rfl, c1, c2, c3, c4⟩ := hX rfl
  have hl : (H.get b).live := by rw [hH]; rfl
  obtain ⟨_, hok⟩ := hr.own b trivial hl
  have hcell : ∀ i, i < N → i < (f b).t ∧ w.cell? ⟨(f b).k, (f b).d + i, none⟩ = some (.int .i64 (x i)) := fun i hi => by
    have hat : (H.get b).at 1 i 0 = some (.f (.lit (.int .i64 (x i)))) := by rw [hH]; simp [Ob.at, hi, intE]
    obtain ⟨h1, v, h2, h3⟩ := hok.cell 1 i 0 _ hat
    obtain rfl : v = Value.int .i64 (x i) := by cases h3 with | lit _ _ => rfl
    simp only [ad, Nat.mul_one, Nat.add_zero] at h1 h2
    exact ⟨h1, h2⟩
  have hk := hok.lt
  have hx : ∀ j, j < n → (rowL x a n).toArray[j]! = x (a + j) := fun j hj => by
    rw [List.getElem!_toArray, List.getElem!_eq_getElem?_getD, rowL_get x a n j hj]; rfl
  have hrow : Holds (Value.int .i64) w (f b).k ((f b).d + a) (rowL x a n).toArray := fun j hj => by
    have hj : j < n := by simpa [rowL_length] using hj
    obtain ⟨h1, h2⟩ := hcell (a + j) (by omega)
    refine ⟨?_, ?_⟩
    · rw [Nat.add_assoc, h2, hx j hj]
    · rw [Nat.add_assoc]; exact (hok.room _ h1).2
  have hadr : (⟨(f b).k, (f b).d + a, none⟩ : Addr) = ad f b 1 a 0 := by simp [ad]
  have := hC (f b).k ((f b).d + a) c w c1 hrow hk
  rw [hadr] at this
  refine this.mono fun e w' hq => ?_
  obtain ⟨⟨v, rfl, hvr⟩, q, os, hw'⟩ := hq
  refine hR f z w' v ?_ (hvr f z rfl hb c3 c2 c4)
  have hin : ∀ q (hq : q < (ys.map fun y => Value.int .i64 y).length), w'.cell? ⟨(f b).k, (f b).d + a + q, none⟩ = some (ys.map fun y => Value.int .i64 y)[q] := fun q hq => by
    have hq' : q < ys.length := by simpa using hq
    rw [hw', cell?_grow _ _ _ (by simpa [putRow, mapBlock, Sort.ahead] using hk), putRow_ahead]
    show (putRow (Value.int .i64) w (f b).k ((f b).d + a) ys.toArray).cell? ⟨(f b).k, (f b).d + a + q, none⟩ = _
    rw [cell?_putRow _ _ _ _ _ _ hrow (by simp [rowL_length, hys]) q (by simpa using hq')]
    simp [hq']
  refine Post.row (o' := .arr true 1 N (intE (putL x a ys))) (vs := ys.map fun y => .f (.lit (.int .i64 y))) (us := ys.map fun y => Value.int .i64 y) (B := a) trivial hr hl (fun h => h) (fun q hq => ?_) (fun m' i' j' y hy => ?_) (fun l h => by cases h) ?_ (hw' ▸ fr_putRow w q (f b).k _ _ os) hin (fun p hp => ?_) (fun p => ?_) hr.noLive
  · have := (hcell (a + q) (by simp at hq; omega)).1
    exact this
  · simp only [Ob.at] at hy
    split at hy
    · rename_i hc
      obtain ⟨_, rfl, hi, hj⟩ := hc
      obtain rfl : j' = 0 := by omega
      simp only [intE, List.getElem?_cons_zero, Option.map_some, Option.some.injEq] at hy
      subst hy
      by_cases hin' : a ≤ i' ∧ i' < a + ys.length
      · refine .inl ⟨i' - a, by omega, ?_⟩
        have : i' - a < ys.length := by omega
        simp [putL, hin', this]
      · refine .inr ⟨?_, fun q hq => ?_⟩
        · rw [hH]; simp [Ob.at, hi, intE, putL, hin']
        · simp at hq; omega
    · cases hy
  · refine ⟨by simp, fun i y u h1 h2 => ?_⟩
    simp only [List.getElem?_map, Option.map_eq_some_iff] at h1 h2
    obtain ⟨y1, e1, rfl⟩ := h1
    obtain ⟨y2, e2, rfl⟩ := h2
    rw [e1] at e2
    cases e2
    exact RF.lit _ rfl
  · rw [hw', cell?_grow _ _ _ (by simpa [putRow, mapBlock, Sort.ahead] using hk), putRow_ahead]
    show (putRow (Value.int .i64) w (f b).k ((f b).d + a) ys.toArray).cell? ⟨(f b).k, p, none⟩ = _
    rw [cell?_putRow_other]
    refine .inr ?_
    simp at hp
    simp
    omega
  · rw [hw', frozen?_grow _ _ _ (by simpa [putRow, mapBlock, Sort.ahead] using hk)]
    exact frozen?_mapBlock _ _ _ _

end Go.Proofs.YtbobakclbdaepaaGreat.En
/- Tables of raw entries. -/
namespace Go.Proofs.YtbobakclbdaepaaGreat.En
open Go
set_option linter.unusedVariables false
set_option linter.unusedSimpArgs false
set_option maxRecDepth 20000
set_option maxHeartbeats 1000000
instance : Inhabited Ent := ⟨⟨0, 0, 0, 0, false⟩⟩
abbrev entE (x : Nat → Ent) : Nat → List FV := fun i => (x i).fs
def EntE (e : Nat → List FV) : Prop := ∃ x, e = entE x
def entOf (e : Nat → List FV) : Nat → Ent := fun i => match e i with | [.lit (.int _ a), .lit (.int _ b), .lit (.int _ c), .lit (.int _ d), .lit (.bool f)] => ⟨a, b, c, d, f⟩ | _ => default
theorem entOf_entE (x : Nat → Ent) : entOf (entE x) = x := rfl
theorem EntE_ok (x : Nat → Ent) : EntE (entE x) := ⟨x, rfl⟩

/-- a list that may be there -/
def LnOk (nl : Bool) (n : Nat) : Prop := (n : Int) ≤ 9223372036854775807 ∧ (nl = true → n = 0)
def EntN (n : Nat) (e : Nat → List FV) : Prop := ∀ i, i < n → e i = (entOf e i).fs
def EntL (nl : Bool) (n : Nat) (e : Nat → List FV) : Prop := EntN n e ∧ LnOk nl n
def EntS (nl : Bool) (n : Nat) (e : Nat → List FV) : Prop := EntE e ∧ LnOk nl n
theorem entN (n : Nat) (x : Nat → Ent) : EntN n (entE x) := fun _ _ => rfl

def S_tb (nl : Bool) (n : Nat) (x : Nat → Ent) (m : Nat) (i : Nat) (a : Unit) : St :=
  ⟨[(0, .v (.one (.f (.fs nl 5 n (entE x))))), (1, .v (AI m)), (5, .v (.one (.sl (Nat.beq i 0) 0 5 0 0 i i false 5))), (6, .v (AI i))], [(0, .arr (!(Nat.beq i 0)) 5 i (entE fun j => entR (x j)))], 1, false, 0, []⟩

end Go.Proofs.YtbobakclbdaepaaGreat.En
/- Contracts of the library at this program, laid by the kit's own tools, in plain words. -/
namespace Go.Proofs
open Go.Shelf
def Tryz.lays189_ren : Go.Shelf.Ren := ⟨fun | 189 => 94 | 125 => 103 | 257 => 102 | 128 => 117 | 129 => 118 | 294 => 109 | 295 => 110 | 296 => 111 | 297 => 112 | 298 => 113 | 299 => 114 | 216 => 104 | 300 => 115 | 301 => 116 | 328 => 121 | 329 => 122 | 330 => 123 | 331 => 124 | 332 => 125 | 215 => 98 | 343 => 127 | n => n, fun | 28 => 51 | 3 => 3 | 46 => 162 | 0 => 0 | 51 => 178 | 53 => 180 | 4 => 4 | 183 => 172 | 182 => 171 | 131 => 142 | 5 => 5 | 9 => 9 | 218 => 182 | 222 => 186 | 228 => 188 | 229 => 189 | n => n, fun | n => n⟩
theorem Tryz.lays189 : Go.Proofs.Lays.n189 Tryz.prog Tryz.lays189_ren := {
  mixed := by kernel_rfl
  f125 := Tryz.func103.trans (congrArg some (by kernel_rfl))
  f128 := Tryz.func117.trans (congrArg some (by kernel_rfl))
  f129 := Tryz.func118.trans (congrArg some (by kernel_rfl))
  f189 := Tryz.func94.trans (congrArg some (by kernel_rfl))
  f215 := Tryz.func98.trans (congrArg some (by kernel_rfl))
  f216 := Tryz.func104.trans (congrArg some (by kernel_rfl))
  f257 := Tryz.func102.trans (congrArg some (by kernel_rfl))
  f294 := Tryz.func109.trans (congrArg some (by kernel_rfl))
  f295 := Tryz.func110.trans (congrArg some (by kernel_rfl))
  f296 := Tryz.func111.trans (congrArg some (by kernel_rfl))
  f297 := Tryz.func112.trans (congrArg some (by kernel_rfl))
  f298 := Tryz.func113.trans (congrArg some (by kernel_rfl))
  f299 := Tryz.func114.trans (congrArg some (by kernel_rfl))
  f300 := Tryz.func115.trans (congrArg some (by kernel_rfl))
  f301 := Tryz.func116.trans (congrArg some (by kernel_rfl))
  f328 := Tryz.func121.trans (congrArg some (by kernel_rfl))
  f329 := Tryz.func122.trans (congrArg some (by kernel_rfl))
  f330 := Tryz.func123.trans (congrArg some (by kernel_rfl))
  f331 := Tryz.func124.trans (congrArg some (by kernel_rfl))
  f332 := Tryz.func125.trans (congrArg some (by kernel_rfl))
  f343 := Tryz.func127.trans (congrArg some (by kernel_rfl))
  t0 := Tryz.underlying0
  a0 := Tryz.isAgg0
  z0 := Tryz.sizeOf0
  v0 := Tryz.zeroValue0
  t3 := Tryz.underlying3
  a3 := Tryz.isAgg3
  z3 := Tryz.sizeOf3
  v3 := Tryz.zeroValue3
  t4 := Tryz.underlying4
  a4 := Tryz.isAgg4
  z4 := Tryz.sizeOf4
  v4 := Tryz.zeroValue4
  t5 := Tryz.underlying5
  a5 := Tryz.isAgg5
  z5 := Tryz.sizeOf5
  v5 := Tryz.zeroValue5
  t9 := Tryz.underlying9
  a9 := Tryz.isAgg9
  z9 := Tryz.sizeOf9
  v9 := Tryz.zeroValue9
  t28 := Tryz.underlying51
  a28 := Tryz.isAgg51
  z28 := Tryz.sizeOf51
  v28 := Tryz.zeroValue51
  t46 := Tryz.underlying162
  a46 := Tryz.isAgg162
  z46 := Tryz.sizeOf162
  v46 := Tryz.zeroValue162
  t51 := Tryz.underlying178
  a51 := Tryz.isAgg178
  z51 := Tryz.sizeOf178
  v51 := Tryz.zeroValue178
  t53 := Tryz.underlying180
  a53 := Tryz.isAgg180
  z53 := Tryz.sizeOf180
  v53 := Tryz.zeroValue180
  t131 := Tryz.underlying142
  a131 := Tryz.isAgg142
  z131 := Tryz.sizeOf142
  v131 := Tryz.zeroValue142
  t182 := Tryz.underlying171
  a182 := Tryz.isAgg171
  z182 := Tryz.sizeOf171
  v182 := Tryz.zeroValue171
  t183 := Tryz.underlying172
  a183 := Tryz.isAgg172
  z183 := Tryz.sizeOf172
  v183 := Tryz.zeroValue172
  t218 := Tryz.underlying182
  a218 := Tryz.isAgg182
  z218 := Tryz.sizeOf182
  v218 := Tryz.zeroValue182
  t222 := Tryz.underlying186
  a222 := Tryz.isAgg186
  z222 := Tryz.sizeOf186
  v222 := Tryz.zeroValue186
  t228 := Tryz.underlying188
  a228 := Tryz.isAgg188
  z228 := Tryz.sizeOf188
  v228 := Tryz.zeroValue188
  t229 := Tryz.underlying189
  a229 := Tryz.isAgg189
  z229 := Tryz.sizeOf189
  v229 := Tryz.zeroValue189 }
open Go.Sort Go.RowKit in
theorem Tryz.slices_Sort_int (blk off cap : Nat) (zs : List Int) (w : World) (hH : Holds (Value.int .i64) w blk off zs.toArray) (hblk : blk < w.heap.size) (hsz : zs.length < 4611686018427387904) :
    Calls Tryz.prog 94 #[.slice (some ⟨blk, off, none⟩) zs.length cap] w fun e w' =>
      e = .returned (.tuple #[]) ∧ ∃ n os, w' = grow (putRow (Value.int .i64) (Sort.ahead w n) blk off (zs.mergeSort fun x y => decide (x ≤ y)).toArray) os := Any.slices_Sort_int Tryz.lays189 blk off cap zs w hH hblk hsz
def Tryz.laysNm225_ren : Go.Shelf.Ren := ⟨fun | 25 => 95 | 31 => 104 | 32 => 105 | 37 => 98 | n => n, fun | 22 => 51 | 3 => 3 | 4 => 4 | 40 => 162 | 0 => 0 | n => n, fun | n => n⟩
theorem Tryz.laysNm225 : Go.Proofs.Lays2.n25 Tryz.prog Tryz.laysNm225_ren := {
  mixed := by kernel_rfl
  f25 := Tryz.func95.trans (congrArg some (by kernel_rfl))
  f31 := Tryz.func104.trans (congrArg some (by kernel_rfl))
  f32 := Tryz.func105.trans (congrArg some (by kernel_rfl))
  f37 := Tryz.func98.trans (congrArg some (by kernel_rfl))
  t0 := Tryz.underlying0
  a0 := Tryz.isAgg0
  z0 := Tryz.sizeOf0
  v0 := Tryz.zeroValue0
  t3 := Tryz.underlying3
  a3 := Tryz.isAgg3
  z3 := Tryz.sizeOf3
  v3 := Tryz.zeroValue3
  t4 := Tryz.underlying4
  a4 := Tryz.isAgg4
  z4 := Tryz.sizeOf4
  v4 := Tryz.zeroValue4
  t22 := Tryz.underlying51
  a22 := Tryz.isAgg51
  z22 := Tryz.sizeOf51
  v22 := Tryz.zeroValue51
  t40 := Tryz.underlying162
  a40 := Tryz.isAgg162
  z40 := Tryz.sizeOf162
  v40 := Tryz.zeroValue162 }
open Go.RowKit Go.Lib in
theorem Tryz.slices_BinarySearch_int (b off n c : Nat) (zs : List Int) (x : Int) (w : World) (hz : n ≤ zs.length) (hbig : n < 4611686018427387904) (hc : ∀ j, j < zs.length → w.cell? ⟨b, off + j, none⟩ = some (.int .i64 (zs.getD j 0))) (hs : (zs.take n).Pairwise (· ≤ ·)) :
    Calls Tryz.prog 95 #[.slice (some ⟨b, off, none⟩) n c, .int .i64 x] w fun e w' => e = .returned (.tuple #[.int .i64 ((zs.take n).countP (· < x) : Nat), .bool ((zs.take n).contains x)]) ∧ ∃ q, w' = w.drewN q := Any.slices_BinarySearch_int Tryz.laysNm225 b off n c zs x w hz hbig hc hs
end Go.Proofs
