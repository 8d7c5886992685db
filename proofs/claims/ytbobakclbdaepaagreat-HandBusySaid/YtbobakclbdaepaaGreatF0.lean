/- The engine, part 23: blocks under other names. -/
import Derived.Test.YtbobakclbdaepaaGreatE22
namespace Go.Proofs.YtbobakclbdaepaaGreat.En
open Go
set_option linter.unusedVariables false
set_option linter.unusedSimpArgs false

def CV.ren (ρ : Nat → Nat) : CV → CV
  | .f x => .f x
  | .ptr b m i j => .ptr (ρ b) m i j
  | .sl nil b m i j len cap ex sz => .sl nil (ρ b) m i j len cap ex sz
  | .mp b => .mp (ρ b)
  | .fn g l => .fn g (l.map fun x => (ρ x.1, x.2.1, x.2.2.1, x.2.2.2))

def AV.ren (ρ : Nat → Nat) : AV → AV
  | .one x => .one (x.ren ρ)
  | .agg l => .agg (l.map (CV.ren ρ))

def SV.ren (ρ : Nat → Nat) : SV → SV
  | .v x => .v (x.ren ρ)
  | .tup l => .tup (l.map (AV.ren ρ))
  | .top => .top

def Ob.ren (ρ : Nat → Nat) : Ob → Ob
  | .cells l => .cells (l.map (CV.ren ρ))
  | .arr live sz n e => .arr live sz n e
  | .map es => .map es
  | .dead => .dead

def AV.refs (a : AV) : List Nat := a.cells.flatMap CV.refs

/-- where the names lead -/
def Led (f f' : Fn) (nx' : Nat) (ρ : Nat → Nat) (c : Nat) : Prop := f' (ρ c) = f c ∧ ρ c < nx'

theorem RC.ren {f f' : Fn} {nx nx' : Nat} {z : Z} {ρ : Nat → Nat} {x : CV} {v : Value} (h : RC f nx z x v) (hr : ∀ c ∈ x.refs, Led f f' nx' ρ c) : RC f' nx' z (x.ren ρ) v := by
  cases x with
  | f x => exact h
  | ptr b m i j =>
    obtain ⟨h1, h2⟩ := hr b (by simp [CV.refs])
    obtain ⟨_, rfl⟩ := h
    exact ⟨h2, by simp [ad, h1]⟩
  | sl nil b m i j len cap ex sz =>
    obtain ⟨h1, h2⟩ := hr b (by simp [CV.refs])
    obtain ⟨_, h3, h4⟩ := h
    refine ⟨h2, h3, fun hn => ?_⟩
    obtain ⟨c, rfl, h5⟩ := h4 hn
    exact ⟨c, by simp [ad, h1], by rw [h1]; exact h5⟩
  | mp b =>
    obtain ⟨h1, h2⟩ := hr b (by simp [CV.refs])
    obtain ⟨_, rfl⟩ := h
    exact ⟨h2, by rw [h1]⟩
  | fn g l =>
    obtain ⟨rfl, _⟩ := h
    refine ⟨?_, fun x hx => ?_⟩
    · rw [List.map_map]
      congr 2
      refine List.map_congr_left fun x hx => ?_
      obtain ⟨h1, _⟩ := hr x.1 (by simp only [CV.refs, List.mem_map]; exact ⟨x, hx, rfl⟩)
      simp [ad, h1]
    · simp only [List.mem_map] at hx
      obtain ⟨y, hy, rfl⟩ := hx
      exact (hr y.1 (by simp only [CV.refs, List.mem_map]; exact ⟨y, hy, rfl⟩)).2

theorem RL.ren {f f' : Fn} {nx nx' : Nat} {z : Z} {ρ : Nat → Nat} {l : List CV} {vs : List Value} (h : RL f nx z l vs) (hr : ∀ c ∈ l.flatMap CV.refs, Led f f' nx' ρ c) : RL f' nx' z (l.map (CV.ren ρ)) vs := by
  refine ⟨by simp [h.1], fun i x v hx hv => ?_⟩
  simp only [List.getElem?_map] at hx
  cases hq : l[i]? with
  | none => rw [hq] at hx; cases hx
  | some y =>
    rw [hq] at hx
    simp only [Option.map_some, Option.some.injEq] at hx
    subst hx
    exact (h.2 i y v hq hv).ren fun c hc => hr c (List.mem_flatMap.2 ⟨y, List.mem_of_getElem? hq, hc⟩)

theorem RA.ren {f f' : Fn} {nx nx' : Nat} {z : Z} {ρ : Nat → Nat} {x : AV} {v : Value} (h : RA f nx z x v) (hr : ∀ c ∈ x.refs, Led f f' nx' ρ c) : RA f' nx' z (x.ren ρ) v := by
  cases x with
  | one x => exact RC.ren h fun c hc => hr c (by simp [AV.refs, AV.cells, hc])
  | agg l =>
    obtain ⟨cs, rfl, h⟩ := h
    exact ⟨cs, rfl, h.ren hr⟩

theorem RAs.ren {f f' : Fn} {nx nx' : Nat} {z : Z} {ρ : Nat → Nat} {l : List AV} {vs : List Value} (h : RAs f nx z l vs) (hr : ∀ c ∈ l.flatMap AV.refs, Led f f' nx' ρ c) : RAs f' nx' z (l.map (AV.ren ρ)) vs := by
  refine ⟨by simp [h.1], fun i x v hx hv => ?_⟩
  simp only [List.getElem?_map] at hx
  cases hq : l[i]? with
  | none => rw [hq] at hx; cases hx
  | some y =>
    rw [hq] at hx
    simp only [Option.map_some, Option.some.injEq] at hx
    subst hx
    exact (h.2 i y v hq hv).ren fun c hc => hr c (List.mem_flatMap.2 ⟨y, List.mem_of_getElem? hq, hc⟩)

theorem SV.refs_v (a : AV) : (SV.v a).refs = a.refs := rfl

theorem RS.ren {f f' : Fn} {nx nx' : Nat} {z : Z} {ρ : Nat → Nat} {x : SV} {v : Value} (h : RS f nx z x v) (hr : ∀ c ∈ x.refs, Led f f' nx' ρ c) : RS f' nx' z (x.ren ρ) v := by
  cases x with
  | v x => exact RA.ren h hr
  | tup l =>
    obtain ⟨vs, rfl, h⟩ := h
    exact ⟨vs, rfl, h.ren hr⟩
  | top => trivial

theorem Ob.ren_live (ρ : Nat → Nat) (o : Ob) : (o.ren ρ).live ↔ o.live := by cases o <;> exact Iff.rfl

theorem Ob.ren_at {ρ : Nat → Nat} {o : Ob} {m i j : Nat} {x : CV} (h : (o.ren ρ).at m i j = some x) : ∃ y, o.at m i j = some y ∧ x = y.ren ρ ∧ (∀ c ∈ y.refs, c ∈ o.refs) := by
  cases o with
  | cells l =>
    simp only [Ob.ren, Ob.at] at h
    split at h
    · rename_i hz
      simp only [List.getElem?_map] at h
      cases hq : l[j]? with
      | none => rw [hq] at h; cases h
      | some y =>
        rw [hq] at h
        simp only [Option.map_some, Option.some.injEq] at h
        exact ⟨y, by simp only [Ob.at]; rw [if_pos hz, hq], h.symm, fun c hc => List.mem_flatMap.2 ⟨y, List.mem_of_getElem? hq, hc⟩⟩
    · cases h
  | arr live sz n e =>
    simp only [Ob.ren] at h
    have h' := h
    simp only [Ob.at] at h
    split at h
    · rename_i hz
      cases hq : (e i)[j]? with
      | none => rw [hq] at h; cases h
      | some y =>
        rw [hq] at h
        simp only [Option.map_some, Option.some.injEq] at h
        subst h
        exact ⟨.f y, h', rfl, fun c hc => by simp [CV.refs] at hc⟩
    · cases h
  | map es => cases h
  | dead => cases h

theorem BOk.ren {f f' : Fn} {nx nx' : Nat} {z : Z} {w : World} {b b' : Nat} {o : Ob} {ρ : Nat → Nat} (h : BOk f nx z w b o) (hb : f' b' = f b) (hr : ∀ c ∈ o.refs, Led f f' nx' ρ c) : BOk f' nx' z w b' (o.ren ρ) := by
  refine ⟨by rw [hb]; exact h.lt, by rw [hb]; exact h.own, fun p hp => by rw [hb] at hp ⊢; exact h.room p hp, fun m i j x hx => ?_, fun es he => by
    cases o <;> simp only [Ob.ren, reduceCtorEq, Ob.map.injEq] at he
    subst he
    rw [hb]; exact h.map _ rfl⟩
  obtain ⟨y, hy, rfl, hc⟩ := Ob.ren_at hx
  obtain ⟨h1, v, h2, h3⟩ := h.cell m i j y hy
  refine ⟨by rw [hb]; exact h1, v, ?_, h3.ren fun c hq => hr c (hc c hq)⟩
  simp only [ad, hb] at h2 ⊢
  exact h2

/-! new names: those below m stay; 'news' come to be m, m + 1, .. -/

/-- the place of a number -/
def place : List Nat → Nat → Nat
  | [], _ => 0
  | x :: r, c => match Nat.beq x c with | true => 0 | false => place r c + 1

def reName (m : Nat) (news : List Nat) (c : Nat) : Nat := match Nat.ble (c + 1) m with | true => c | false => m + place news c
def unName (m : Nat) (news : List Nat) (n : Nat) : Nat := match Nat.ble (n + 1) m with | true => n | false => news.getD (n - m) 0

theorem place_get : ∀ (l : List Nat) (c : Nat), c ∈ l → place l c < l.length ∧ l.getD (place l c) 0 = c
  | [], c, h => by cases h
  | x :: r, c, h => by
    simp only [place]
    split
    · rename_i e
      have := nbeq e
      subst this
      exact ⟨by simp, by simp⟩
    · rename_i e
      have hne : x ≠ c := fun h => by subst h; simp at e
      obtain ⟨h1, h2⟩ := place_get r c (by
        rcases List.mem_cons.1 h with h | h
        · exact absurd h.symm hne
        · exact h)
      exact ⟨by simp [h1], by simpa using h2⟩

theorem ble_iff (a b : Nat) : Nat.ble a b = true ↔ a ≤ b := ⟨nble, Nat.ble_eq_true_of_le⟩
theorem ble_false {a b : Nat} (h : ¬ a ≤ b) : Nat.ble a b = false := by
  cases hq : Nat.ble a b with
  | false => rfl
  | true => exact absurd (nble hq) h

theorem unName_reName {m : Nat} {news : List Nat} {c : Nat} (h : c < m ∨ c ∈ news) : unName m news (reName m news c) = c ∧ reName m news c < m + news.length := by
  by_cases hc : c < m
  · have h1 : Nat.ble (c + 1) m = true := Nat.ble_eq_true_of_le hc
    simp only [reName, h1, unName]
    exact ⟨trivial, by omega⟩
  · have h1 : Nat.ble (c + 1) m = false := ble_false (by omega)
    obtain ⟨h2, h3⟩ := place_get news c (h.resolve_left hc)
    have h4 : Nat.ble (m + place news c + 1) m = false := ble_false (by omega)
    simp only [reName, h1, unName, h4]
    exact ⟨by rw [Nat.add_sub_cancel_left]; exact h3, by omega⟩

/-- the new blocks -/
def laid (H : Heap) (ρ : Nat → Nat) : Nat → List Nat → Heap
  | _, [] => []
  | k, b :: r => (k, (H.get b).ren ρ) :: laid H ρ (k + 1) r

def renH (m : Nat) (news : List Nat) (H : Heap) : Heap :=
  ((H.filter fun e => Nat.ble (e.1 + 1) m).map fun e => (e.1, e.2.ren (reName m news))) ++ laid H (reName m news) m news

theorem get_laid (H : Heap) (ρ : Nat → Nat) : ∀ (news : List Nat) (k b : Nat), Heap.get (laid H ρ k news) b = if k ≤ b ∧ b < k + news.length then (H.get (news.getD (b - k) 0)).ren ρ else .dead
  | [], k, b => by
    simp only [laid, Heap.get, List.length_nil]
    rw [if_neg (by omega)]
  | x :: r, k, b => by
    simp only [laid]
    rw [Heap.get_cons, get_laid H ρ r (k + 1) b]
    by_cases e : k = b
    · subst e
      simp
    · rw [if_neg e]
      by_cases h : k + 1 ≤ b ∧ b < k + 1 + r.length
      · rw [if_pos h, if_pos ⟨by omega, by simp only [List.length_cons]; omega⟩]
        obtain ⟨d, rfl⟩ : ∃ d, b = k + 1 + d := ⟨b - (k + 1), by omega⟩
        rw [show k + 1 + d - (k + 1) = d by omega, show k + 1 + d - k = d + 1 by omega]
        simp
      · rw [if_neg h, if_neg (by simp only [List.length_cons]; omega)]

theorem get_map_ren (ρ : Nat → Nat) : ∀ (H : Heap) (b : Nat), Heap.get (H.map fun e => (e.1, e.2.ren ρ)) b = (H.get b).ren ρ
  | [], b => rfl
  | (k, o) :: r, b => by
    simp only [List.map_cons]
    rw [Heap.get_cons, Heap.get_cons, get_map_ren ρ r b]
    split <;> rfl

theorem get_renH {m : Nat} {news : List Nat} {H : Heap} {b : Nat} (hl : ((renH m news H).get b).live) : b < m + news.length ∧ (renH m news H).get b = (H.get (unName m news b)).ren (reName m news) := by
  have h1 : ∀ b, Heap.get ((H.filter fun e => Nat.ble (e.1 + 1) m).map fun e => (e.1, e.2.ren (reName m news))) b = if b < m then (H.get b).ren (reName m news) else .dead := fun b => by
    rw [get_map_ren, get_filter (fun b => Nat.ble (b + 1) m)]
    by_cases hb : b < m
    · rw [if_pos (Nat.ble_eq_true_of_le hb), if_pos hb]
    · rw [if_neg (by rw [ble_false (by omega)]; simp), if_neg hb]; rfl
  have h2 := get_laid H (reName m news) news m b
  unfold renH at hl ⊢
  rcases get_append ((H.filter fun e => Nat.ble (e.1 + 1) m).map fun e => (e.1, e.2.ren (reName m news))) (laid H (reName m news) m news) b with e | ⟨e1, e2⟩
  · rw [e, h1] at hl ⊢
    by_cases hb : b < m
    · rw [if_pos hb] at hl ⊢
      have : Nat.ble (b + 1) m = true := Nat.ble_eq_true_of_le hb
      exact ⟨by omega, by simp only [unName, this]⟩
    · rw [if_neg hb] at hl
      exact hl.elim
  · rw [e2, h2] at hl ⊢
    by_cases hb : m ≤ b ∧ b < m + news.length
    · rw [if_pos hb] at hl ⊢
      have : Nat.ble (b + 1) m = false := ble_false (by omega)
      exact ⟨hb.2, by simp only [unName, this]⟩
    · rw [if_neg hb] at hl
      exact hl.elim

/-- the names are in order -/
structure Names (m nx : Nat) (news : List Nat) (H : Heap) : Prop where
  hm : m ≤ nx
  ge : ∀ c ∈ news, m ≤ c ∧ c < nx
  nodup : news.Nodup
  refs : ∀ b, (b < m ∨ b ∈ news) → ∀ c ∈ (H.get b).refs, c < m ∨ c ∈ news

theorem Names.led {m nx : Nat} {news : List Nat} {H : Heap} (h : Names m nx news H) (f : Fn) {c : Nat} (hc : c < m ∨ c ∈ news) : Led f (fun b => f (unName m news b)) (m + news.length) (reName m news) c := by
  obtain ⟨h1, h2⟩ := unName_reName hc
  exact ⟨by simp only [h1], h2⟩

theorem unName_in {m : Nat} {news : List Nat} {b : Nat} (h : b < m + news.length) : (unName m news b = b ∧ b < m) ∨ (m ≤ b ∧ unName m news b ∈ news) := by
  by_cases hb : b < m
  · have : Nat.ble (b + 1) m = true := Nat.ble_eq_true_of_le hb
    exact .inl ⟨by simp only [unName, this], hb⟩
  · have : Nat.ble (b + 1) m = false := ble_false (by omega)
    refine .inr ⟨by omega, ?_⟩
    simp only [unName, this]
    have hlt : b - m < news.length := by omega
    rw [List.getD_eq_getElem?_getD, List.getElem?_eq_getElem hlt]
    exact List.getElem_mem hlt

theorem unName_inj {m nx : Nat} {news : List Nat} {H : Heap} (h : Names m nx news H) {a b : Nat} (ha : a < m + news.length) (hb : b < m + news.length) (e : unName m news a = unName m news b) : a = b := by
  rcases unName_in ha with ⟨h1, h2⟩ | ⟨h1, h2⟩ <;> rcases unName_in hb with ⟨h3, h4⟩ | ⟨h3, h4⟩
  · rw [h1, h3] at e; exact e
  · rw [h1] at e; have := (h.ge _ h4).1; omega
  · rw [h3] at e; have := (h.ge _ h2).1; omega
  · have p : Nat.ble (a + 1) m = false := ble_false (by omega)
    have q : Nat.ble (b + 1) m = false := ble_false (by omega)
    simp only [unName, p, q] at e
    have la : a - m < news.length := by omega
    have lb : b - m < news.length := by omega
    rw [List.getD_eq_getElem?_getD, List.getD_eq_getElem?_getD, List.getElem?_eq_getElem la, List.getElem?_eq_getElem lb] at e
    have := (List.getElem_inj h.nodup).1 e
    omega

theorem Rel.ren {f : Fn} {nx : Nat} {z : Z} {w : World} {H : Heap} {m : Nat} {news : List Nat} (hr : Rel All f nx z w H) (h : Names m nx news H) :
    Rel All (fun b => f (unName m news b)) (m + news.length) z w (renH m news H) := by
  refine ⟨fun b _ hl => ?_, fun b c _ _ hl hl' hne => ?_, hr.zok⟩
  · obtain ⟨h1, h2⟩ := get_renH hl
    refine ⟨h1, ?_⟩
    rw [h2] at hl ⊢
    rw [Ob.ren_live] at hl
    refine (hr.own _ trivial hl).2.ren rfl fun c hc => h.led f (h.refs _ ?_ c hc)
    rcases unName_in h1 with ⟨e, e'⟩ | ⟨_, e⟩
    · rw [e]; exact .inl e'
    · exact .inr e
  · obtain ⟨h1, h2⟩ := get_renH hl
    obtain ⟨h3, h4⟩ := get_renH hl'
    rw [h2, Ob.ren_live] at hl
    rw [h4, Ob.ren_live] at hl'
    exact hr.inj _ _ trivial trivial hl hl' fun e => hne (unName_inj h h1 h3 e)

end Go.Proofs.YtbobakclbdaepaaGreat.En
