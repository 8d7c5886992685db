/- Texts put together: F7, F8. -/
import Derived.Test.YtbobakclbdaepaaGreatG11
/- The engine, part 30: an own row of elements that is never written any more. -/
namespace Go.Proofs.YtbobakclbdaepaaGreat.En
open Go
set_option linter.unusedVariables false
set_option linter.unusedSimpArgs false

/-- what becomes of slices over block b -/
abbrev FrzF := Bool → Nat → Nat → Nat → Nat → Nat → T CV

def CV.frz (b : Nat) (k : FrzF) (x : CV) : T CV :=
  match x with
  | .f x => .ret (.f x)
  | .ptr c m i j => match Nat.beq c b with | true => .bad | false => .ret (.ptr c m i j)
  | .sl nil c m i j len cap ex z => match Nat.beq c b with
    | false => .ret (.sl nil c m i j len cap ex z)
    | true => k nil m i j len z
  | .mp c => match Nat.beq c b with | true => .bad | false => .ret (.mp c)
  | .fn g l => match l.any fun x => Nat.beq x.1 b with | true => .bad | false => .ret (.fn g l)

/-- block b is a row of n elements -/
def kArr (live : Bool) (sz n : Nat) (e : Nat → List FV) : FrzF := fun nil m i j len z =>
  match Nat.beq m sz && Nat.beq z sz && Nat.beq j 0 && Nat.beq i 0 with
  | true => .need (Nat.ble len n && (live || Nat.beq len 0)) (.ret (.f (.fs nil sz len e)))
  | false => .bad

/-- block b is cells in a row -/
def kCells (l : List FV) : FrzF := fun nil m i j len z =>
  match Nat.beq m 0 && Nat.beq j 0 && Nat.beq i 0 && Nat.ble (len * z) l.length with
  | true => .ret (.f (.fs nil z len (selL (chunks z len l))))
  | false => .bad

def mapT {α β : Type} (k : α → T β) : List α → T (List β)
  | [] => .ret []
  | x :: r => (k x).bind fun y => (mapT k r).bind fun l => .ret (y :: l)

def AV.frz (b : Nat) (k : FrzF) : AV → T AV
  | .one x => (x.frz b k).bind fun y => .ret (.one y)
  | .agg l => (mapT (CV.frz b k) l).bind fun l => .ret (.agg l)

def SV.frz (b : Nat) (k : FrzF) : SV → T SV
  | .v x => (x.frz b k).bind fun y => .ret (.v y)
  | .tup l => (mapT (AV.frz b k) l).bind fun l => .ret (.tup l)
  | .top => .ret .top

def Ob.frz (b : Nat) (k : FrzF) : Ob → T Ob
  | .cells l => (mapT (CV.frz b k) l).bind fun l => .ret (.cells l)
  | o => .ret o

def frzH (b : Nat) (k : FrzF) : Heap → T Heap
  | [] => .ret []
  | (c, o) :: r => match Nat.beq c b with
    | true => (frzH b k r).bind fun r => .ret ((c, .dead) :: r)
    | false => (o.frz b k).bind fun o => (frzH b k r).bind fun r => .ret ((c, o) :: r)

def frzSl (b : Nat) (k : FrzF) : Slots → T Slots
  | [] => .ret []
  | (c, v) :: r => (v.frz b k).bind fun v => (frzSl b k r).bind fun r => .ret ((c, v) :: r)

/-- blocks that are pointed at -/
def CV.ptrs : CV → List Nat
  | .ptr b _ _ _ => [b]
  | .fn _ l => l.map (·.1)
  | _ => []
def Ob.ptrs : Ob → List Nat
  | .cells l => l.flatMap CV.ptrs
  | _ => []
def SV.ptrs : SV → List Nat
  | .v a => a.cells.flatMap CV.ptrs
  | .tup l => l.flatMap fun a => a.cells.flatMap CV.ptrs
  | .top => []

def frzSt (b : Nat) (s : St) : T St :=
  match s.H.get b with
  | .arr live sz n e => (frzSl b (kArr live sz n e) s.sl).bind fun sl => (frzH b (kArr live sz n e) s.H).bind fun H => .ret { s with sl := sl, H := H }
  | .cells l => match fvs? l, s.H.any (fun e => e.2.ptrs.any (Nat.beq b)) || s.sl.any (fun x => x.2.ptrs.any (Nat.beq b)) with
    | some fs, false => (frzSl b (kCells fs) s.sl).bind fun sl => (frzH b (kCells fs) s.H).bind fun H => .ret { s with sl := sl, H := H }
    | _, _ => .ret s
  | _ => .ret s

section
variable {f : Fn} {nx : Nat} {z : Z} {w : World} {H : Heap} {b : Nat} {k : FrzF}

/-- what is never written now -/
noncomputable def zFrz (f : Fn) (z : Z) (w : World) (H : Heap) (b : Nat) : Z := fun c p => @ite _ ((H.get b).live ∧ c = (f b).k ∧ (f b).d ≤ p ∧ p < (f b).d + (f b).t) (Classical.propDecidable _) (w.cell? ⟨c, p, none⟩) (z c p)

theorem zFrz_in {c p : Nat} (h : (H.get b).live ∧ c = (f b).k ∧ (f b).d ≤ p ∧ p < (f b).d + (f b).t) : zFrz f z w H b c p = w.cell? ⟨c, p, none⟩ := by
  unfold zFrz; rw [if_pos h]

theorem zFrz_out {c p : Nat} (h : ¬ ((H.get b).live ∧ c = (f b).k)) : zFrz f z w H b c p = z c p := by
  unfold zFrz; rw [if_neg fun hh => h ⟨hh.1, hh.2.1⟩]

theorem zFrz_some {c p : Nat} {v : Value} (h : zFrz f z w H b c p = some v) : ((H.get b).live ∧ c = (f b).k ∧ w.cell? ⟨c, p, none⟩ = some v) ∨ z c p = some v := by
  unfold zFrz at h
  split at h
  · rename_i hh; exact .inl ⟨hh.1, hh.2.1, h⟩
  · exact .inr h

theorem zFrz_le (hr : Rel All f nx z w H) : z.le (zFrz f z w H b) := by
  intro c o v hv
  by_cases h : (H.get b).live ∧ c = (f b).k
  · obtain ⟨h1, rfl⟩ := h
    have := (hr.own b trivial h1).2.own o
    rw [this] at hv; cases hv
  · rw [zFrz_out h]; exact hv

/-- slices over block b may be told so -/
def KOk (f : Fn) (nx : Nat) (z : Z) (w : World) (H : Heap) (b : Nat) (k : FrzF) : Prop :=
  ∀ nil m i j len cap ex zz v y, RC f nx z (.sl nil b m i j len cap ex zz) v → (k nil m i j len zz).res = some y → RC f nx (zFrz f z w H b) y v ∧ y.refs = []

/-- a slice whose cells are at the block's begin -/
theorem fs_of (hr : Rel All f nx z w H) {nil : Bool} {m i j len cap zz : Nat} {ex : Bool} {v : Value} {e : Nat → List FV} (h0 : i * m + j = 0) (hx : RC f nx z (.sl nil b m i j len cap ex zz) v) (hl : (H.get b).live ∨ len = 0)
    (he : (H.get b).live → ∀ t q x, t < len → q < zz → (e t)[q]? = some x → ∃ m' i' j', i' * m' + j' = t * zz + q ∧ (H.get b).at m' i' j' = some (.f x)) : RF (zFrz f z w H b) (.fs nil zz len e) v := by
  have hle : z.le (zFrz f z w H b) := zFrz_le hr
  obtain ⟨_, hx1, hx2⟩ := hx
  cases nil with
  | true =>
    obtain ⟨rfl, _, rfl⟩ := hx1 rfl
    exact RF.fsn _ _
  | false =>
    obtain ⟨cap', rfl, q1, q2, q3, q4⟩ := hx2 rfl
    rcases Nat.eq_zero_or_pos len with rfl | hpos
    · exact RF.fs0 _ _ _ _
    · have hl : (H.get b).live := hl.resolve_right (by omega)
      obtain ⟨_, hok⟩ := hr.own b trivial hl
      have room : ∀ t q, t < len → q < zz → t * zz + q < (f b).t := fun t q ht hq => by
        have : (t + 1) * zz ≤ cap' * zz := Nat.mul_le_mul_right _ (by omega)
        rw [Nat.add_mul] at this
        omega
      have key : ∀ t q, t < len → q < zz → ∃ u, w.cell? ⟨(f b).k, (f b).d + (t * zz + q), none⟩ = some u ∧ u.oneCell' = true ∧ ∀ x, (e t)[q]? = some x → RF z x u := fun t q ht hq => by
        obtain ⟨u, hu, h1⟩ := (hok.room _ (room t q ht hq)).1
        refine ⟨u, hu, h1, fun x hx => ?_⟩
        obtain ⟨m', i', j', e1, e2⟩ := he hl t q x ht hq hx
        obtain ⟨_, u', hu', hc⟩ := hok.cell m' i' j' (.f x) e2
        simp only [ad, e1] at hu'
        rw [hu] at hu'
        simp only [Option.some.injEq] at hu'
        subst hu'
        exact hc
      have had : ad f b m i j = ⟨(f b).k, (f b).d, none⟩ := by simp [ad, h0]
      rw [had]
      refine RF.fss zz len e (f b).k (f b).d cap' (fun t q => (w.cell? ⟨(f b).k, (f b).d + (t * zz + q), none⟩).getD undef) q1 (fun t q ht hq => ?_) (fun t q x ht hq hx => ?_) (fun t q ht hq => ?_)
      · obtain ⟨u, hu, _, _⟩ := key t q ht hq
        have h6 := room t q ht hq
        rw [zFrz_in ⟨hl, rfl, by omega, by omega⟩, hu]
        rfl
      · obtain ⟨u, hu, _, h3⟩ := key t q ht hq
        simp only [hu, Option.getD_some]
        exact (h3 x hx).mono hle
      · obtain ⟨u, hu, h1, _⟩ := key t q ht hq
        simp only [hu, Option.getD_some]
        exact h1

theorem kArr_ok {live : Bool} {sz n : Nat} {e : Nat → List FV} (hr : Rel All f nx z w H) (hb : H.get b = .arr live sz n e) : KOk f nx z w H b (kArr live sz n e) := by
  intro nil m i j len cap ex zz v y hx h
  unfold kArr at h
  split at h
  · rename_i hc
    simp only [Bool.and_eq_true] at hc
    obtain ⟨⟨⟨h1, h2⟩, h3⟩, h4⟩ := hc
    have h1 := nbeq h1
    have h2 := nbeq h2
    have h3 := nbeq h3
    have h4 := nbeq h4
    obtain ⟨hn, hret⟩ := T.need_some h
    have := T.ret_some hret
    subst this
    rw [Bool.and_eq_true, Bool.or_eq_true] at hn
    obtain ⟨n1, n2⟩ := hn
    have n1 := nble n1
    subst h3 h4
    rw [← h2]
    refine ⟨fs_of hr (by simp) hx ?_ fun hl t q x ht hq hx => ?_, rfl⟩
    · rcases n2 with n2 | n2
      · exact .inl (by rw [hb]; exact n2)
      · exact .inr (nbeq n2)
    · rw [hb] at hl
      refine ⟨sz, t, q, by rw [h2], ?_⟩
      rw [hb]
      simp only [Ob.at]
      rw [if_pos ⟨hl, trivial, by omega, by omega⟩, hx]
      rfl
  · exact (T.bad_some h).elim

theorem kCells_ok {l : List CV} {fs : List FV} (hr : Rel All f nx z w H) (hb : H.get b = .cells l) (hf : fvs? l = some fs) : KOk f nx z w H b (kCells fs) := by
  intro nil m i j len cap ex zz v y hx h
  unfold kCells at h
  split at h
  · rename_i hc
    simp only [Bool.and_eq_true] at hc
    obtain ⟨⟨⟨h1, h2⟩, h3⟩, h4⟩ := hc
    have h1 := nbeq h1
    have h2 := nbeq h2
    have h3 := nbeq h3
    have h4 := nble h4
    have := T.ret_some h
    subst this
    subst h1 h2 h3
    have hfv := fvs?_eq _ _ hf
    refine ⟨fs_of hr (by simp) hx (.inl (by rw [hb]; trivial)) fun hl t q x ht hq hx => ?_, rfl⟩
    rw [selL_chunks len fs t ht] at hx
    simp only [chop, List.getElem?_take] at hx
    rw [if_pos hq, List.getElem?_drop] at hx
    refine ⟨0, 0, t * zz + q, by simp, ?_⟩
    rw [hb]
    simp only [Ob.at]
    rw [if_pos ⟨trivial, trivial⟩, hfv, List.getElem?_map, hx]
    rfl
  · exact (T.bad_some h).elim

theorem CV.frz_ok (hr : Rel All f nx z w H) (hk : KOk f nx z w H b k) {x y : CV} {v : Value} (hx : RC f nx z x v) (h : (x.frz b k).res = some y) : RC f nx (zFrz f z w H b) y v ∧ ∀ c ∈ y.refs, c ∈ x.refs ∧ c ≠ b := by
  have hle : z.le (zFrz f z w H b) := zFrz_le hr
  have mono := RC.mono (f := f) (f' := f) (fun _ _ => rfl) (Nat.le_refl nx) hle hx
  unfold CV.frz at h
  split at h
  · have := T.ret_some h; subst this; exact ⟨mono, fun c hc => by simp [CV.refs] at hc⟩
  · split at h
    · exact (T.bad_some h).elim
    · rename_i hne
      have := T.ret_some h; subst this
      refine ⟨mono, fun c hc => ⟨hc, ?_⟩⟩
      simp only [CV.refs, List.mem_singleton] at hc
      subst hc
      rintro rfl
      simp at hne
  · rename_i nil c m i j len cap ex zz
    split at h
    · rename_i hne
      have := T.ret_some h; subst this
      refine ⟨mono, fun d hd => ⟨hd, ?_⟩⟩
      simp only [CV.refs, List.mem_singleton] at hd
      subst hd
      rintro rfl
      simp at hne
    · rename_i heq
      have := nbeq heq
      subst this
      obtain ⟨h1, h2⟩ := hk _ _ _ _ _ _ _ _ _ _ hx h
      exact ⟨h1, fun c hc => by rw [h2] at hc; cases hc⟩
  · split at h
    · exact (T.bad_some h).elim
    · rename_i hne
      have := T.ret_some h; subst this
      refine ⟨mono, fun c hc => ⟨hc, ?_⟩⟩
      simp only [CV.refs, List.mem_singleton] at hc
      subst hc
      rintro rfl
      simp at hne
  · split at h
    · exact (T.bad_some h).elim
    · rename_i g l hne
      have := T.ret_some h; subst this
      refine ⟨mono, fun c hc => ⟨hc, ?_⟩⟩
      simp only [CV.refs, List.mem_map] at hc
      obtain ⟨y, hy, rfl⟩ := hc
      rintro rfl
      simp only [List.any_eq_false] at hne
      exact hne y hy (Nat.beq_refl _)

theorem mapT_some {α β : Type} {k : α → T β} : ∀ (l : List α) (r : List β), (mapT k l).res = some r → l.length = r.length ∧ ∀ (i : Nat) x y, l[i]? = some x → r[i]? = some y → (k x).res = some y
  | [], r, h => by
    have := T.ret_some h
    subst this
    exact ⟨rfl, fun i x y hx => by simp at hx⟩
  | x :: l, r, h => by
    obtain ⟨y, h1, h2⟩ := T.bind_some h
    obtain ⟨q, h3, h4⟩ := T.bind_some h2
    have := T.ret_some h4
    subst this
    obtain ⟨i1, i2⟩ := mapT_some l q h3
    refine ⟨by simp [i1], fun i u v hu hv => ?_⟩
    cases i with
    | zero => simp only [List.getElem?_cons_zero, Option.some.injEq] at hu hv; subst hu hv; exact h1
    | succ i => exact i2 i u v (by simpa using hu) (by simpa using hv)

theorem RL.frz (hr : Rel All f nx z w H) (hk : KOk f nx z w H b k) {l r : List CV} {vs : List Value} (hl : RL f nx z l vs) (h : (mapT (CV.frz b k) l).res = some r) : RL f nx (zFrz f z w H b) r vs := by
  obtain ⟨h1, h2⟩ := mapT_some l r h
  refine ⟨by rw [← h1, hl.1], fun i y v hy hv => ?_⟩
  have hlt : i < l.length := by rw [h1]; exact (List.getElem?_eq_some_iff.1 hy).1
  exact (CV.frz_ok hr hk (hl.2 i _ v (List.getElem?_eq_getElem hlt) hv) (h2 i _ y (List.getElem?_eq_getElem hlt) hy)).1

theorem RA.frz (hr : Rel All f nx z w H) (hk : KOk f nx z w H b k) {x y : AV} {v : Value} (hx : RA f nx z x v) (h : (x.frz b k).res = some y) : RA f nx (zFrz f z w H b) y v := by
  cases x with
  | one x =>
    obtain ⟨q, h1, h2⟩ := T.bind_some h
    have := T.ret_some h2
    subst this
    exact (CV.frz_ok hr hk hx h1).1
  | agg l =>
    obtain ⟨q, h1, h2⟩ := T.bind_some h
    have := T.ret_some h2
    subst this
    obtain ⟨cs, rfl, hl⟩ := hx
    exact ⟨cs, rfl, hl.frz hr hk h1⟩

theorem RS.frz (hr : Rel All f nx z w H) (hk : KOk f nx z w H b k) {x y : SV} {v : Value} (hx : RS f nx z x v) (h : (x.frz b k).res = some y) : RS f nx (zFrz f z w H b) y v := by
  cases x with
  | v x =>
    obtain ⟨q, h1, h2⟩ := T.bind_some h
    have := T.ret_some h2
    subst this
    exact RA.frz hr hk hx h1
  | tup l =>
    obtain ⟨q, h1, h2⟩ := T.bind_some h
    have := T.ret_some h2
    subst this
    obtain ⟨vs, rfl, hl⟩ := hx
    obtain ⟨k1, k2⟩ := mapT_some l q h1
    refine ⟨vs, rfl, by rw [← k1, hl.1], fun i y v hy hv => ?_⟩
    have hlt : i < l.length := by rw [k1]; exact (List.getElem?_eq_some_iff.1 hy).1
    exact RA.frz hr hk (hl.2 i _ v (List.getElem?_eq_getElem hlt) hv) (k2 i _ y (List.getElem?_eq_getElem hlt) hy)
  | top =>
    have := T.ret_some h
    subst this
    trivial

theorem frzSl_some : ∀ (s r : Slots), (frzSl b k s).res = some r → ∀ t, (s.get t = .top ∧ r.get t = .top) ∨ ((s.get t).frz b k).res = some (r.get t)
  | [], r, h, t => by
    have := T.ret_some h
    subst this
    exact .inl ⟨rfl, rfl⟩
  | (d, v) :: s, r, h, t => by
    obtain ⟨v', h1, h2⟩ := T.bind_some h
    obtain ⟨r', h3, h4⟩ := T.bind_some h2
    have := T.ret_some h4
    subst this
    rw [Slots.get_cons, Slots.get_cons]
    by_cases ek : d = t
    · rw [if_pos ek, if_pos ek]; exact .inr h1
    · rw [if_neg ek, if_neg ek]; exact frzSl_some s r' h3 t

theorem frzH_some : ∀ (H R : Heap), (frzH b k H).res = some R → ∀ c, (c = b ∧ R.get c = .dead) ∨ (c ≠ b ∧ H.get c = .dead ∧ R.get c = .dead) ∨ (c ≠ b ∧ ((H.get c).frz b k).res = some (R.get c))
  | [], R, h, c => by
    have := T.ret_some h
    subst this
    by_cases ec : c = b
    · exact .inl ⟨ec, rfl⟩
    · exact .inr (.inl ⟨ec, rfl, rfl⟩)
  | (d, o) :: H, R, h, c => by
    simp only [frzH] at h
    split at h
    · rename_i hk
      have hk := nbeq hk
      obtain ⟨R', h1, h2⟩ := T.bind_some h
      have := T.ret_some h2
      subst this
      rw [Heap.get_cons, Heap.get_cons]
      by_cases ek : d = c
      · rw [if_pos ek, if_pos ek]; exact .inl ⟨by rw [← ek, hk], rfl⟩
      · rw [if_neg ek, if_neg ek]; exact frzH_some H R' h1 c
    · rename_i hk
      have hk : d ≠ b := fun e => by subst e; simp at hk
      obtain ⟨o', h1, h2⟩ := T.bind_some h
      obtain ⟨R', h3, h4⟩ := T.bind_some h2
      have := T.ret_some h4
      subst this
      rw [Heap.get_cons, Heap.get_cons]
      by_cases ek : d = c
      · rw [if_pos ek, if_pos ek]; exact .inr (.inr ⟨by rw [← ek]; exact hk, h1⟩)
      · rw [if_neg ek, if_neg ek]; exact frzH_some H R' h3 c

theorem Ob.frz_live {o o' : Ob} (h : (o.frz b k).res = some o') : (o'.live ↔ o.live) ∧ (∀ es, o' = .map es → o = .map es) := by
  cases o with
  | cells l =>
    obtain ⟨q, h1, h2⟩ := T.bind_some h
    have := T.ret_some h2
    subst this
    exact ⟨Iff.rfl, fun es h => by cases h⟩
  | arr => have := T.ret_some h; subst this; exact ⟨Iff.rfl, fun es h => h⟩
  | map => have := T.ret_some h; subst this; exact ⟨Iff.rfl, fun es h => h⟩
  | dead => have := T.ret_some h; subst this; exact ⟨Iff.rfl, fun es h => h⟩

theorem BOk.frz (hr : Rel All f nx z w H) (hk : KOk f nx z w H b k) {c : Nat} {o o' : Ob} (hc : BOk f nx z w c o) (hne : (H.get b).live → (f c).k ≠ (f b).k) (h : (o.frz b k).res = some o') : BOk f nx (zFrz f z w H b) w c o' := by
  have hle : z.le (zFrz f z w H b) := zFrz_le hr
  refine ⟨hc.lt, fun p => ?_, hc.room, fun m i j x hx => ?_, fun es he => hc.map es ((Ob.frz_live h).2 es he)⟩
  · rw [zFrz_out fun hh => hne hh.1 hh.2]
    exact hc.own p
  · cases o with
    | cells l =>
      obtain ⟨q, h1, h2⟩ := T.bind_some h
      have := T.ret_some h2
      subst this
      simp only [Ob.at] at hx
      split at hx
      · rename_i hz
        obtain ⟨k1, k2⟩ := mapT_some l q h1
        have hlt : j < l.length := by rw [k1]; exact (List.getElem?_eq_some_iff.1 hx).1
        obtain ⟨h3, v, h4, h5⟩ := hc.cell m i j l[j] (by simp only [Ob.at]; rw [if_pos hz, List.getElem?_eq_getElem hlt])
        exact ⟨h3, v, h4, (CV.frz_ok hr hk h5 (k2 j _ x (List.getElem?_eq_getElem hlt) hx)).1⟩
      · cases hx
    | arr =>
      have := T.ret_some h
      subst this
      obtain ⟨h3, v, h4, h5⟩ := hc.cell m i j x hx
      exact ⟨h3, v, h4, h5.mono (fun _ _ => rfl) (Nat.le_refl _) hle⟩
    | map => have := T.ret_some h; subst this; cases hx
    | dead => have := T.ret_some h; subst this; cases hx
end

theorem frzAt_ok {m b : Nat} {k : FrzF} {s : St} {sl : Slots} {H : Heap} (hm : m ≤ s.nx) (hK : ∀ f z w, Rel All f s.nx z w s.H → KOk f s.nx z w s.H b k) (h1 : (frzSl b k s.sl).res = some sl) (h3 : (frzH b k s.H).res = some H) : StLe m s { s with sl := sl, H := H } := by
  refine ⟨id, fun f z w a ht hr => ?_⟩
  have hk := hK f z w hr
  have hle : z.le (zFrz f z w s.H b) := zFrz_le hr
  have hR := frzH_some s.H H h3
  -- a block behind it
  have hold : ∀ c, (H.get c).live → c ≠ b ∧ (s.H.get c).live ∧ ((s.H.get c).frz b k).res = some (H.get c) := fun c hl => by
    rcases hR c with ⟨_, h5⟩ | ⟨_, _, h5⟩ | ⟨h5, h6⟩
    · rw [h5] at hl; exact hl.elim
    · rw [h5] at hl; exact hl.elim
    · exact ⟨h5, (Ob.frz_live h6).1.1 hl, h6⟩
  have hown : ∀ c, (H.get c).live → c < s.nx ∧ BOk f s.nx (zFrz f z w s.H b) w c (H.get c) := fun c hl => by
    obtain ⟨h5, h6, h7⟩ := hold c hl
    obtain ⟨h8, h9⟩ := hr.own c trivial h6
    exact ⟨h8, h9.frz hr hk (fun hlv => hr.inj c b trivial trivial h6 hlv h5) h7⟩
  refine ⟨f, zFrz f z w s.H b, fun t => ?_, hm, fun _ _ => rfl, hle, fun c o v hv => ?_, fun _ _ hs => absurd trivial hs, fun c _ hl => (hold c hl).2.1,
    ⟨fun c _ hl => hown c hl, fun c d _ _ hl hl' => hr.inj c d trivial trivial (hold c hl).2.1 (hold d hl').2.1, fun c o v hv => ?_⟩, fun c _ hl => .inr ⟨c, trivial, (hold c hl).2.1, rfl⟩, Fr.refl _ _, fun _ m' hm' hN c l hc hg x hx => ?_⟩
  · rcases frzSl_some s.sl sl h1 t with ⟨_, h5⟩ | h5
    · simp only [h5]; trivial
    · exact RS.frz hr hk (ht t) h5
  · rcases zFrz_some hv with ⟨h5, rfl, _⟩ | h5
    · exact .inr (.inr ⟨b, trivial, h5, rfl⟩)
    · exact .inl h5
  · rcases zFrz_some hv with ⟨_, _, h5⟩ | h5
    · exact h5
    · exact hr.zok c o v h5
  · simp only at hg
    have hl : (H.get c).live := by rw [hg]; trivial
    obtain ⟨h5, h6, h7⟩ := hold c hl
    rw [hg] at h7
    cases ho : s.H.get c with
    | cells l0 =>
      rw [ho] at h7
      obtain ⟨q, h8, h9⟩ := T.bind_some h7
      have := T.ret_some h9
      simp only [Ob.cells.injEq] at this
      subst this
      obtain ⟨k1, k2⟩ := mapT_some l0 q h8
      obtain ⟨i, hi⟩ := List.mem_iff_getElem?.1 hx
      have hlt : i < l0.length := by rw [k1]; exact (List.getElem?_eq_some_iff.1 hi).1
      have hy := beyond_refs.1 (hN c l0 hc ho l0[i] (List.getElem_mem hlt))
      rw [beyond_refs]
      obtain ⟨_, v, _, hv⟩ := (hr.own c trivial h6).2.cell 0 0 i l0[i] (by rw [ho]; simp [Ob.at])
      exact fun d hd => hy d ((CV.frz_ok hr hk hv (k2 i _ x (List.getElem?_eq_getElem hlt) hi)).2 d hd).1
    | arr => rw [ho] at h7; have := T.ret_some h7; cases this
    | map => rw [ho] at h7; have := T.ret_some h7; cases this
    | dead => rw [ho] at h7; have := T.ret_some h7; cases this

theorem frzSt_ok {m b : Nat} {s s' : St} (hm : m ≤ s.nx) (h : (frzSt b s).res = some s') : StLe m s s' := by
  unfold frzSt at h
  split at h
  · rename_i live sz n e hb
    obtain ⟨sl, h1, h2⟩ := T.bind_some h
    obtain ⟨H, h3, h4⟩ := T.bind_some h2
    have := T.ret_some h4
    subst this
    exact frzAt_ok hm (fun f z w hr => kArr_ok hr hb) h1 h3
  · rename_i l hb
    split at h
    · rename_i fs hf _
      obtain ⟨sl, h1, h2⟩ := T.bind_some h
      obtain ⟨H, h3, h4⟩ := T.bind_some h2
      have := T.ret_some h4
      subst this
      exact frzAt_ok hm (fun f z w hr => kCells_ok hr hb hf) h1 h3
    · have := T.ret_some h
      subst this
      exact StLe.refl hm
  · have := T.ret_some h
    subst this
    exact StLe.refl hm

/-- all new rows -/
def frzFrom : Nat → Nat → St → T St
  | 0, _, s => .ret s
  | k + 1, b, s => (frzSt b s).bind fun s => frzFrom k (b + 1) s

theorem frzSt_nx {b : Nat} {s s' : St} (h : (frzSt b s).res = some s') : s'.nx = s.nx := by
  unfold frzSt at h
  split at h
  · obtain ⟨sl, h1, h2⟩ := T.bind_some h
    obtain ⟨H, h3, h4⟩ := T.bind_some h2
    have := T.ret_some h4
    subst this
    rfl
  · split at h
    · obtain ⟨sl, h1, h2⟩ := T.bind_some h
      obtain ⟨H, h3, h4⟩ := T.bind_some h2
      have := T.ret_some h4
      subst this
      rfl
    · have := T.ret_some h
      subst this
      rfl
  · have := T.ret_some h
    subst this
    rfl

theorem frzFrom_ok {m : Nat} : ∀ (k b : Nat) (s s' : St), m ≤ s.nx → (frzFrom k b s).res = some s' → StLe m s s'
  | 0, b, s, s', hm, h => by
    have := T.ret_some h
    subst this
    exact StLe.refl hm
  | k + 1, b, s, s', hm, h => by
    obtain ⟨s1, h1, h2⟩ := T.bind_some h
    have e := frzSt_nx h1
    exact (frzSt_ok hm h1).trans (frzFrom_ok k (b + 1) s1 s' (by omega) h2)

theorem canonSt_nx {m : Nat} {live : List Nat} {s s' : St} (h : canonSt m live s = some s') : m ≤ s'.nx := by
  unfold canonSt at h
  obtain ⟨sl, h1, _⟩ := pruneK_eq (β := Option St) s.sl live
  rw [h1] at h
  dsimp only at h
  split at h
  · simp only [Option.some.injEq] at h
    subst h
    exact Nat.le_add_right _ _
  · cases h

/-- named anew; new rows are never written any more; named anew -/
def canonFz (m : Nat) (live : List Nat) (s : St) : T St :=
  match canonSt m live s with
  | none => .bad
  | some s1 => (frzFrom (s1.nx - m) m s1).bind fun s2 => match canonSt m live s2 with
    | none => .bad
    | some s3 => .ret s3

theorem canonFz_ok {m : Nat} {live : List Nat} {s s' : St} (h : (canonFz m live s).res = some s') : StLe m s s' ∧ m ≤ s'.nx := by
  unfold canonFz at h
  split at h
  · exact (T.bad_some h).elim
  · rename_i s1 h1
    obtain ⟨s2, h2, h3⟩ := T.bind_some h
    split at h3
    · exact (T.bad_some h3).elim
    · rename_i s3 h4
      have := T.ret_some h3
      subst this
      exact ⟨(canonSt_ok h1).trans ((frzFrom_ok _ _ _ _ (canonSt_nx h1) h2).trans (canonSt_ok h4)), canonSt_nx h4⟩

/-- a round, with rows that are never written any more -/
def evRoundZ (G : Ctx) (K F N : Nat) (c : Code) (m : Nat) (live after : List Nat) (st : St) : T (Ex × St) :=
  (ev G noLive K F N c st).bind fun x => (canonFz m (match x.1 with | .normal => live | _ => after) x.2).bind fun s => .ret (x.1, s)

theorem evRoundZ_some {G : Ctx} {K F N : Nat} {c : Code} {m : Nat} {live after : List Nat} {st : St} {e : Ex} {s : St} (h : (evRoundZ G K F N c m live after st).res = some (e, s)) :
    ∃ st1, (ev G noLive K F N c st).res = some (e, st1) ∧ StLe m st1 s := by
  unfold evRoundZ at h
  obtain ⟨⟨e1, st1⟩, h1, h2⟩ := T.bind_some h
  obtain ⟨s2, h3, h4⟩ := T.bind_some h2
  have := T.ret_some h4
  simp only [Prod.mk.injEq] at this
  obtain ⟨rfl, rfl⟩ := this
  exact ⟨st1, h1, (canonFz_ok h3).1⟩

/-- a call's run, its new rows never written any more -/
def evCallZ (wr : List Nat) (G : Ctx) (n g : Nat) (args : List AV) (H : Heap) (nx : Nat) : T CallOut :=
  (evCall G noLive n g args H nx).bind fun o => (canonFz nx [0] o.st).bind fun s => .ret ⟨s.sl.get 0, s.H, s.nx, s.esc, wr⟩

theorem evCallZ_ok {P : Program} {G : Ctx} (hG : CtxOk P G) (hK : KnownOk P G) {wr : List Nat} {n g : Nat} {args : List AV} {H : Heap} {nx : Nat} {r : CallOut} (h : (evCallZ wr G n g args H nx).res = some r) : CallTo P g args H nx r := by
  obtain ⟨o, h1, h2⟩ := T.bind_some h
  obtain ⟨s, h3, h4⟩ := T.bind_some h2
  have := T.ret_some h4
  subst this
  obtain ⟨hle, hnx⟩ := canonFz_ok h3
  refine (evCall_ok hG hK n g args H nx o h1).le (hle.trans ?_)
  have := StLe.slots (s := s) hnx (sl := [(0, s.sl.get 0)]) fun t => by
    rw [Slots.get_cons]
    by_cases e : 0 = t
    · subst e; exact .inr (if_pos rfl)
    · rw [if_neg e]; exact .inl rfl
  exact ⟨this.esc, fun f z w a ht hr => this.to f z w a ht hr⟩

end Go.Proofs.YtbobakclbdaepaaGreat.En
/- The engine, part 31: less is said of a cell; loops by rounds with frozen rows. -/
namespace Go.Proofs.YtbobakclbdaepaaGreat.En
open Go
set_option linter.unusedVariables false
set_option linter.unusedSimpArgs false

/-- a loop that is known by its rounds, rows frozen after each -/
theorem loop_toZ {P : Program} {G : Ctx} (hG : CtxOk P G) (hK : KnownOk P G) {K F N : Nat} {c : Code} {m : Nat} {live after : List Nat} {α : Type} (S : α → St) (μ : α → Nat) (Inv : α → Prop) (e : Ex) (s : St)
    (h : ∀ p, Inv p → ∃ e' s', (evRoundZ G K F N c m live after (S p)).res = some (e', s') ∧ ((e' = .normal ∧ ∃ p', StLe m s' (S p') ∧ Inv p' ∧ μ p' < μ p) ∨ (e' ≠ .normal ∧ ∃ s'', StLe m s' s'' ∧ e' = e ∧ s'' = s)))
    (hm : ∀ p, m ≤ (S p).nx) {p : α} (hI : Inv p) {st0 : St} (h0 : StLe m st0 (S p)) (hnx : st0.nx = m) : CodeOk P N (.loop c) st0 e s := by
  have key : ∀ k p, μ p ≤ k → Inv p → Chain S μ m (ev G noLive K F N c) p e s := by
    intro k
    induction k with
    | zero =>
      intro p hk hI
      obtain ⟨e', s', h1, h2⟩ := h p hI
      obtain ⟨st1, h3, h4⟩ := evRoundZ_some h1
      rcases h2 with ⟨rfl, p', h5, h6, h7⟩ | ⟨hne, s', h5, rfl, rfl⟩
      · omega
      · exact .stop h3 hne (h4.trans h5)
    | succ k ih =>
      intro p hk hI
      obtain ⟨e', s', h1, h2⟩ := h p hI
      obtain ⟨st1, h3, h4⟩ := evRoundZ_some h1
      rcases h2 with ⟨rfl, p', h5, h6, h7⟩ | ⟨hne, s', h5, rfl, rfl⟩
      · exact .step h3 (h4.trans h5) h7 (ih p' (by omega) h6)
      · exact .stop h3 hne (h4.trans h5)
  exact (key (μ p) p (Nat.le_refl _) hI).ok (fun st e st' hr => ev_ok hG hK K F N c st e st' hr) hm h0 hnx

/-- b says less than a -/
def FV.le (a b : FV) : Prop := ∀ z v, RF z a v → RF z b v
theorem FV.le.refl (a : FV) : a.le a := fun _ _ h => h

theorem FV.le_fs {nil : Bool} {sz n : Nat} {e e' : Nat → List FV} (h : ∀ i, i < n → e i = e' i) : FV.le (.fs nil sz n e) (.fs nil sz n e') := by
  intro z v hv
  cases hv with
  | fsn => exact .fsn _ _
  | fs0 => exact .fs0 _ _ _ _
  | fss _ _ _ k o cap g hc h1 h2 h3 => exact .fss sz n e' k o cap g hc h1 (fun i j x hi hj hx => h2 i j x hi hj (by rw [h i hi]; exact hx)) h3

theorem FV.le_nil {sz : Nat} {e : Nat → List FV} : FV.le (.lit (.slice none 0 0)) (.fs true sz 0 e) := by
  intro z v hv
  cases hv
  exact .fsn _ _

theorem FV.le_z0 {sz : Nat} {e : Nat → List FV} : FV.le (.z0 true) (.fs true sz 0 e) := by
  intro z v hv
  cases hv
  exact .fsn _ _

def CV.le (x y : CV) : Prop := x = y ∨ ∃ a b, x = .f a ∧ y = .f b ∧ a.le b
theorem CV.le.refl (x : CV) : x.le x := .inl rfl
theorem CV.le.f {a b : FV} (h : a.le b) : CV.le (.f a) (.f b) := .inr ⟨a, b, rfl, rfl, h⟩

theorem CV.le.rc {x y : CV} (h : x.le y) {f : Fn} {nx : Nat} {z : Z} {v : Value} (hx : RC f nx z x v) : RC f nx z y v := by
  rcases h with rfl | ⟨a, b, rfl, rfl, h⟩
  · exact hx
  · exact h z v hx

theorem CV.le.beyond {x y : CV} (h : x.le y) (m : Nat) : y.beyond m = x.beyond m := by
  rcases h with rfl | ⟨a, b, rfl, rfl, h⟩ <;> rfl

def leL : List CV → List CV → Prop
  | [], [] => True
  | x :: r, y :: q => x.le y ∧ leL r q
  | _, _ => False

theorem leL.refl : ∀ l : List CV, leL l l
  | [] => trivial
  | x :: r => ⟨.inl rfl, leL.refl r⟩

theorem leL.get : ∀ {l q : List CV}, leL l q → ∀ {i : Nat} {y : CV}, q[i]? = some y → ∃ x, l[i]? = some x ∧ x.le y
  | [], [], _, i, y, hy => by simp at hy
  | x :: r, y' :: q, h, 0, y, hy => by
    simp only [List.getElem?_cons_zero, Option.some.injEq] at hy
    subst hy
    exact ⟨x, rfl, h.1⟩
  | x :: r, y' :: q, h, i + 1, y, hy => by
    simp only [List.getElem?_cons_succ] at hy
    exact leL.get h.2 hy
  | [], _ :: _, h, _, _, _ => h.elim
  | _ :: _, [], h, _, _, _ => h.elim

theorem leL.len : ∀ {l q : List CV}, leL l q → q.length = l.length
  | [], [], _ => rfl
  | x :: r, y :: q, h => by simp only [List.length_cons, leL.len h.2]
  | [], _ :: _, h => h.elim
  | _ :: _, [], h => h.elim

theorem leL.rl {f : Fn} {nx : Nat} {z : Z} {l q : List CV} {vs : List Value} (hl : leL l q) (h : RL f nx z l vs) : RL f nx z q vs :=
  ⟨hl.len.trans h.1, fun i y v hy hv => by
    obtain ⟨x, h1, h2⟩ := hl.get hy
    exact h2.rc (h.2 i x v h1 hv)⟩

def AV.le : AV → AV → Prop
  | .one x, .one y => x.le y
  | .agg l, .agg q => leL l q
  | _, _ => False

theorem AV.le.refl : ∀ a : AV, a.le a
  | .one x => .inl rfl
  | .agg l => leL.refl l

theorem AV.le.ra {a b : AV} (h : a.le b) {f : Fn} {nx : Nat} {z : Z} {v : Value} (ha : RA f nx z a v) : RA f nx z b v := by
  cases a <;> cases b
  · exact h.rc ha
  · exact h.elim
  · exact h.elim
  · obtain ⟨cs, rfl, h1⟩ := ha
    exact ⟨cs, rfl, leL.rl h h1⟩

def SV.le (a b : SV) : Prop := b = .top ∨ a = b ∨ ∃ x y, a = .v x ∧ b = .v y ∧ x.le y

theorem SV.le.rs {a b : SV} (h : a.le b) {f : Fn} {nx : Nat} {z : Z} {v : Value} (ha : RS f nx z a v) : RS f nx z b v := by
  rcases h with rfl | rfl | ⟨x, y, rfl, rfl, h⟩
  · trivial
  · exact ha
  · exact h.ra ha

def Ob.le (o q : Ob) : Prop := o = q ∨ (∃ l r, o = .cells l ∧ q = .cells r ∧ leL l r) ∨ ∃ live sz n e e', o = .arr live sz n e ∧ q = .arr live sz n e' ∧ ∀ i, i < n → e i = e' i

theorem Ob.le.refl (o : Ob) : o.le o := .inl rfl
theorem Ob.le.cells {l r : List CV} (h : leL l r) : Ob.le (.cells l) (.cells r) := .inr (.inl ⟨l, r, rfl, rfl, h⟩)
theorem Ob.le.arr {live : Bool} {sz n : Nat} {e e' : Nat → List FV} (h : ∀ i, i < n → e i = e' i) : Ob.le (.arr live sz n e) (.arr live sz n e') := .inr (.inr ⟨live, sz, n, e, e', rfl, rfl, h⟩)

theorem Ob.le.live {o q : Ob} (h : o.le q) : q.live ↔ o.live := by
  rcases h with rfl | ⟨l, r, rfl, rfl, h⟩ | ⟨live, sz, n, e, e', rfl, rfl, h⟩
  · exact Iff.rfl
  · exact Iff.rfl
  · exact Iff.rfl

theorem Ob.le.ok {o q : Ob} (h : o.le q) {f : Fn} {nx : Nat} {z : Z} {w : World} {b : Nat} (hb : BOk f nx z w b o) : BOk f nx z w b q := by
  rcases h with rfl | ⟨l, r, rfl, rfl, h⟩ | ⟨live, sz, n, e, e', rfl, rfl, h⟩
  · exact hb
  rotate_left
  · refine ⟨hb.lt, hb.own, hb.room, fun m i j x hx => ?_, fun es he => by cases he⟩
    simp only [Ob.at] at hx
    split at hx
    · rename_i hz
      rw [← h i hz.2.2.1] at hx
      exact hb.cell m i j x (by simp only [Ob.at]; rw [if_pos hz]; exact hx)
    · cases hx
  · refine ⟨hb.lt, hb.own, hb.room, fun m i j x hx => ?_, fun es he => by cases he⟩
    simp only [Ob.at] at hx
    split at hx
    · rename_i hz
      obtain ⟨x', h1, h2⟩ := h.get hx
      obtain ⟨h3, v, h4, h5⟩ := hb.cell m i j x' (by simp only [Ob.at]; rw [if_pos hz, h1])
      exact ⟨h3, v, h4, h2.rc h5⟩
    · cases hx

/-- less is said, cell by cell -/
theorem StLe.less {m : Nat} {s : St} {sl : Slots} {H : Heap} (hm : m ≤ s.nx) (ht : ∀ t, (s.sl.get t).le (sl.get t)) (hH : ∀ b, (s.H.get b).le (H.get b)) {base : Nat} {wr : List Nat} : StLe m s ⟨sl, H, s.nx, s.esc, base, wr⟩ :=
  ⟨id, fun f z w a htr hr => ⟨f, z, fun t => (ht t).rs (htr t), hm, fun b hb => rfl, fun _ _ _ h => h, fun _ _ _ h => .inl h, fun _ _ hs => absurd trivial hs, fun b _ hl => (hH b).live.1 hl,
    ⟨fun b _ hl => ⟨(hr.own b trivial ((hH b).live.1 hl)).1, (hH b).ok (hr.own b trivial ((hH b).live.1 hl)).2⟩, fun b c _ _ hl hl' => hr.inj b c trivial trivial ((hH b).live.1 hl) ((hH c).live.1 hl'), hr.zok⟩,
    fun b hb hl => .inr ⟨b, trivial, (hH b).live.1 hl, rfl⟩, Fr.refl _ _, fun _ m' hm' hN b l hb hg x hx => by
      rcases hH b with e | ⟨l0, r, e1, e2, h⟩ | ⟨_, _, _, _, _, e1, e2, h⟩
      rotate_right
      · simp only at hg
        rw [e2] at hg
        cases hg
      · exact hN b l hb (by rw [e]; exact hg) x hx
      · simp only at hg
        rw [e2] at hg
        cases hg
        obtain ⟨i, hi⟩ := List.mem_iff_getElem?.1 hx
        obtain ⟨x', h1, h2⟩ := h.get hi
        rw [h2.beyond]
        exact hN b l0 hb e1 x' (List.mem_of_getElem? h1)⟩⟩

/-- a call of whose answer less is said -/
theorem CallTo.less {P : Program} {g : Nat} {args : List AV} {H : Heap} {nx : Nat} {r r' : CallOut} (h : CallTo P g args H nx r) (hn : nx ≤ r.nx) (h1 : r.v.le r'.v) (h2 : ∀ b, (r.H.get b).le (r'.H.get b)) (h3 : r'.nx = r.nx) (h4 : r'.esc = r.esc) : CallTo P g args H nx r' := by
  obtain ⟨v, H1, nx1, esc, wr⟩ := r
  obtain ⟨v', H1', nx1', esc', wr'⟩ := r'
  simp only at h3 h4 h1 h2 hn
  subst h3 h4
  refine h.le ?_
  exact StLe.less (m := nx) (s := CallOut.st ⟨v, H1, nx1', esc', wr⟩) (sl := [(0, v')]) (H := H1') hn (fun t => by
    simp only [CallOut.st]
    rw [Slots.get_cons, Slots.get_cons]
    split
    · exact h1
    · exact .inr (.inl rfl)) h2

/-- no cell of what is left reaches a block: nothing has got out -/
theorem CallTo.noesc {P : Program} {g : Nat} {args : List AV} {H : Heap} {nx : Nat} {v : SV} {H' : Heap} {nx' : Nat} {esc : Bool} {wr : List Nat} (h : CallTo P g args H nx ⟨v, H', nx', esc, wr⟩) (hn : ∀ b l, H'.get b = .cells l → ∀ x ∈ l, x.refs = []) {wr' : List Nat} : CallTo P g args H nx ⟨v, H', nx', false, wr'⟩ := by
  intro f z w vs hr ha R hR
  refine h f z w vs hr ha R fun f1 z1 w1 v1 hp hv => hR f1 z1 w1 v1 ?_ hv
  refine ⟨hp.hnx, hp.ext, hp.zle, hp.znew, hp.same, hp.dead, hp.rel, hp.fresh, hp.fr, fun _ m hm _ b l hb hg x hx => ?_⟩
  exact beyond_refs.2 (by rw [hn b l hg x hx]; simp)

theorem T.over_ex {α A : Type} {t u : T α} {p : PT} {g : A → α} (ht : t.over p = u) (h : ∃ a, u.res = some (g a)) : ∃ a, t.res = some (g a) := by
  obtain ⟨a, h⟩ := h
  exact ⟨a, T.over_eq _ ht h⟩

theorem T.over_exP {α A : Type} {t u : T α} {p : PT} {g : A → α} {Q : A → Prop} (ht : t.over p = u) (h : ∃ a, u.res = some (g a) ∧ Q a) : ∃ a, t.res = some (g a) ∧ Q a := by
  obtain ⟨a, h, q⟩ := h
  exact ⟨a, T.over_eq _ ht h, q⟩

theorem T.over_exP2 {α A B : Type} {t u : T α} {p : PT} {g : A → B → α} {Q : A → B → Prop} (ht : t.over p = u) (h : ∃ a b, u.res = some (g a b) ∧ Q a b) : ∃ a b, t.res = some (g a b) ∧ Q a b := by
  obtain ⟨a, b, h, q⟩ := h
  exact ⟨a, b, T.over_eq _ ht h, q⟩

theorem StLe.same {m : Nat} {s s' : St} (hm : m ≤ s.nx) (h1 : s'.sl = s.sl) (h2 : s'.nx = s.nx) (h3 : s'.esc = s.esc) (h4 : ∀ b, s'.H.get b = s.H.get b) : StLe m s s' := by
  obtain ⟨sl, H, nx, esc, base, wr⟩ := s
  obtain ⟨sl', H', nx', esc', base', wr'⟩ := s'
  simp only at h1 h2 h3 h4 hm
  subst h1 h2 h3
  exact StLe.less (s := ⟨sl', H, nx', esc', base, wr⟩) hm (fun t => .inr (.inl rfl)) fun b => .inl (h4 b).symm

end Go.Proofs.YtbobakclbdaepaaGreat.En
