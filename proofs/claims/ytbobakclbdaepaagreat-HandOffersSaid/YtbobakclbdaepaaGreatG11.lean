/- Texts put together: F2, F3, F4, F5, F6. -/
import Derived.Test.YtbobakclbdaepaaGreatG10
import Derived.Laws.BitsLemmas
import Derived.DataElems
import Derived.ChangeShapes
import Derived.DataReads
/- The engine, part 25: calls that are known, told of blocks 0, 1, .. alone. -/
namespace Go.Proofs.YtbobakclbdaepaaGreat.En
open Go
set_option linter.unusedVariables false
set_option linter.unusedSimpArgs false

/-- what is known of a call -/
structure SumOk (P : Program) (g : Nat) (F : List AV → Heap → Nat → T CallOut) : Prop where
  to : ∀ args H nx r, (F args H nx).res = some r → CallTo P g args H nx r
  keeps : ∀ args H nx, (F args H nx).Every fun o => nx ≤ o.nx ∧ ∀ b, b < nx → b ∉ o.wr → o.H.get b = H.get b

def nodupB : List Nat → Bool
  | [] => true
  | x :: r => !(r.any (Nat.beq x)) && nodupB r

theorem nodupB_ok : ∀ (l : List Nat), nodupB l = true → l.Nodup
  | [], _ => List.nodup_nil
  | x :: r, h => by
    simp only [nodupB, Bool.and_eq_true, Bool.not_eq_true'] at h
    refine List.nodup_cons.2 ⟨fun hx => ?_, nodupB_ok r h.2⟩
    rw [(anyBeq r x).2 hx] at h
    cases h.1

def okRef (m : Nat) (news : List Nat) (c : Nat) : Bool := Nat.ble (c + 1) m || news.any (Nat.beq c)

theorem okRef_ok {m : Nat} {news : List Nat} {c : Nat} (h : okRef m news c = true) : c < m ∨ c ∈ news := by
  simp only [okRef, Bool.or_eq_true] at h
  rcases h with h | h
  · exact .inl (nble h)
  · exact .inr ((anyBeq news c).1 h)

def okNames (m nx : Nat) (news : List Nat) (H : Heap) : Bool :=
  Nat.ble m nx && (news.all fun c => Nat.ble m c && Nat.ble (c + 1) nx) && nodupB news && ((List.range m ++ news).all fun b => (H.get b).refs.all (okRef m news))

theorem okNames_ok {m nx : Nat} {news : List Nat} {H : Heap} (h : okNames m nx news H = true) : Names m nx news H := by
  simp only [okNames, Bool.and_eq_true, List.all_eq_true] at h
  obtain ⟨⟨⟨h1, h2⟩, h3⟩, h4⟩ := h
  refine ⟨nble h1, fun c hc => ⟨nble (h2 c hc).1, nble (h2 c hc).2⟩, nodupB_ok _ h3, fun b hb c hc => okRef_ok (h4 b ?_ c hc)⟩
  rw [List.mem_append, List.mem_range]
  exact hb

/-- a state with its blocks from m on named anew, and what no one sees dropped -/
def canonSt (m : Nat) (live : List Nat) (s : St) : Option St :=
  pruneK s.sl live fun sl =>
    let news := (reach s.H 4000 ((sl.flatMap fun x => x.2.refs) ++ (List.range m).flatMap fun b => (s.H.get b).refs) []).reverse.filter (Nat.ble m)
    match okNames m s.nx news s.H && sl.all fun x => x.2.refs.all (okRef m news) with
    | true => some ⟨sl.map fun x => (x.1, x.2.ren (reName m news)), renH m news s.H, m + news.length, s.esc, s.base, s.wr⟩
    | false => none

theorem Slots.get_mem : ∀ (l : Slots) (t : Nat), l.get t = .top ∨ (t, l.get t) ∈ l
  | [], t => .inl rfl
  | (k, v) :: r, t => by
    rw [Slots.get_cons]
    by_cases e : k = t
    · subst e; simp
    · rw [if_neg e]
      rcases Slots.get_mem r t with h | h
      · exact .inl h
      · exact .inr (List.mem_cons_of_mem _ h)

theorem canonSt_ok {m : Nat} {live : List Nat} {s s' : St} (h : canonSt m live s = some s') : StLe m s s' := by
  unfold canonSt at h
  obtain ⟨sl, h1, h2⟩ := pruneK_eq (β := Option St) s.sl live
  rw [h1] at h
  dsimp only at h
  split at h
  · rename_i hok
    rw [Bool.and_eq_true] at hok
    obtain ⟨hn, hs⟩ := hok
    have hn := okNames_ok hn
    simp only [Option.some.injEq] at h
    subst h
    refine (StLe.slots hn.hm (sl := sl) fun t => ?_).trans (StLe.ren (s := { s with sl := sl }) hn fun t c hc => ?_)
    · rw [h2]
      split
      · exact .inr rfl
      · exact .inl rfl
    · simp only at hc
      rw [List.all_eq_true] at hs
      rcases Slots.get_mem sl t with e | e
      · rw [e] at hc; cases hc
      · have := hs _ e
        rw [List.all_eq_true] at this
        exact okRef_ok (this c hc)
  · cases h

/-! calls -/

def backName (ids : List Nat) (nx : Nat) (c : Nat) : Nat := match Nat.ble (c + 1) ids.length with | true => ids.getD c 0 | false => nx + (c - ids.length)

def backH (ids : List Nat) (nx : Nat) (n : Nat) (H : Heap) : Heap := (H.filter fun e => Nat.ble (e.1 + 1) n).map fun e => (backName ids nx e.1, e.2.ren (backName ids nx))

/-- do the blocks that were written lead to younger ones, and did not before? -/
def escB (ids : List Nat) (H0 : Heap) (o : CallOut) : Bool :=
  o.wr.any fun i => Nat.ble (i + 1) ids.length && (o.H.get i).refs.any fun c => !(Nat.ble (c + 1) ids.length && (Nat.ble (ids.getD c 0) (ids.getD i 0) || (H0.get i).refs.any (Nat.beq c)))

def canonSum (F : List AV → Heap → Nat → T CallOut) (args : List AV) (H : Heap) (nx : Nat) : T CallOut :=
  let ids := (reach H 4000 (args.flatMap AV.refs) []).reverse
  match okNames 0 nx ids H && (args.flatMap AV.refs).all (okRef 0 ids) with
  | false => .bad
  | true =>
    let H0 := renH 0 ids H
    (F (args.map (AV.ren (reName 0 ids))) H0 ids.length).bind fun o =>
      .ret ⟨o.v.ren (backName ids nx), backH ids nx o.nx o.H ++ (H.filter fun e => !(ids.any (Nat.beq e.1))), nx + (o.nx - ids.length), escB ids H0 o,
        (o.wr.filter fun i => Nat.ble (i + 1) ids.length).map fun i => ids.getD i 0⟩

theorem RA.refs_lt {f : Fn} {nx : Nat} {z : Z} {x : AV} {v : Value} (h : RA f nx z x v) : ∀ c ∈ x.refs, c < nx := by
  intro c hc
  obtain ⟨y, hy, hc⟩ := List.mem_flatMap.1 hc
  obtain ⟨i, hi⟩ := List.mem_iff_getElem?.1 hy
  have hl := h.cells
  have hlt : i < v.cells.toList.length := by rw [← hl.1]; exact (List.getElem?_eq_some_iff.1 hi).1
  exact (hl.2 i y _ hi (List.getElem?_eq_getElem hlt)).refs_lt c hc

theorem RS.refs_lt {f : Fn} {nx : Nat} {z : Z} {x : SV} {v : Value} (h : RS f nx z x v) : ∀ c ∈ x.refs, c < nx := by
  cases x with
  | v x => exact RA.refs_lt h
  | tup l =>
    obtain ⟨vs, rfl, h⟩ := h
    intro c hc
    obtain ⟨y, hy, hc⟩ := List.mem_flatMap.1 hc
    obtain ⟨i, hi⟩ := List.mem_iff_getElem?.1 hy
    have hlt : i < vs.toList.length := by rw [← h.1]; exact (List.getElem?_eq_some_iff.1 hi).1
    exact (h.2 i y _ hi (List.getElem?_eq_getElem hlt)).refs_lt c hc
  | top => intro c hc; cases hc

theorem BOk.refs_lt {f : Fn} {nx : Nat} {z : Z} {w : World} {b : Nat} {o : Ob} (h : BOk f nx z w b o) : ∀ c ∈ o.refs, c < nx := by
  intro c hc
  cases o with
  | cells l =>
    obtain ⟨y, hy, hc⟩ := List.mem_flatMap.1 hc
    obtain ⟨i, hi⟩ := List.mem_iff_getElem?.1 hy
    obtain ⟨_, v, _, h3⟩ := h.cell 0 0 i y (by simp [Ob.at, hi])
    exact h3.refs_lt c hc
  | arr => cases hc
  | map => cases hc
  | dead => cases hc

theorem get_backH {ids : List Nat} {nx n : Nat} : ∀ (H : Heap) (b : Nat), ((backH ids nx n H).get b).live → ∃ i, i < n ∧ backName ids nx i = b ∧ (backH ids nx n H).get b = (H.get i).ren (backName ids nx)
  | [], b, hl => hl.elim
  | (k, o) :: r, b, hl => by
    unfold backH at hl ⊢
    rw [List.filter_cons] at hl ⊢
    by_cases hk : Nat.ble (k + 1) n = true
    · simp only [hk, if_true, List.map_cons] at hl ⊢
      rw [Heap.get_cons] at hl ⊢
      by_cases e : backName ids nx k = b
      · rw [if_pos e]
        refine ⟨k, nble hk, e, ?_⟩
        rw [Heap.get_cons, if_pos rfl]
      · rw [if_neg e] at hl ⊢
        obtain ⟨i, h1, h2, h3⟩ := get_backH r b hl
        refine ⟨i, h1, h2, ?_⟩
        rw [Heap.get_cons, if_neg (fun (e' : k = i) => e (e' ▸ h2))]
        exact h3
    · simp only [hk] at hl ⊢
      obtain ⟨i, h1, h2, h3⟩ := get_backH r b hl
      refine ⟨i, h1, h2, ?_⟩
      rw [Heap.get_cons, if_neg (fun (e' : k = i) => hk (by rw [e']; exact Nat.ble_eq_true_of_le h1))]
      exact h3

/-- names back -/
structure Back (ids : List Nat) (nx : Nat) : Prop where
  lt : ∀ c ∈ ids, c < nx
  nodup : ids.Nodup

theorem Back.old {ids : List Nat} {nx : Nat} (h : Back ids nx) {i : Nat} (hi : i < ids.length) : backName ids nx i = ids[i] ∧ ids[i] < nx := by
  have : Nat.ble (i + 1) ids.length = true := Nat.ble_eq_true_of_le hi
  refine ⟨?_, h.lt _ (List.getElem_mem hi)⟩
  simp only [backName, this]
  rw [List.getD_eq_getElem?_getD, List.getElem?_eq_getElem hi]
  rfl

theorem Back.new {ids : List Nat} {nx : Nat} {i : Nat} (hi : ids.length ≤ i) : backName ids nx i = nx + (i - ids.length) := by
  have : Nat.ble (i + 1) ids.length = false := ble_false (by omega)
  simp only [backName, this]

theorem Back.inj {ids : List Nat} {nx : Nat} (h : Back ids nx) {i j : Nat} (e : backName ids nx i = backName ids nx j) : i = j := by
  rcases Nat.lt_or_ge i ids.length with hi | hi <;> rcases Nat.lt_or_ge j ids.length with hj | hj
  · rw [(h.old hi).1, (h.old hj).1] at e
    exact (List.getElem_inj h.nodup).1 e
  · have := (h.old hi).2
    rw [(h.old hi).1, Back.new hj] at e
    omega
  · have := (h.old hj).2
    rw [(h.old hj).1, Back.new hi] at e
    omega
  · rw [Back.new hi, Back.new hj] at e
    omega

theorem Back.un {ids : List Nat} {nx : Nat} (h : Back ids nx) {c : Nat} (hc : c ∈ ids) : backName ids nx (reName 0 ids c) = c := by
  have h0 : Nat.ble (c + 1) 0 = false := rfl
  obtain ⟨h1, h2⟩ := place_get ids c hc
  have : reName 0 ids c = place ids c := by simp only [reName, h0, Nat.zero_add]
  rw [this, (h.old h1).1]
  rw [List.getD_eq_getElem?_getD, List.getElem?_eq_getElem h1] at h2
  exact h2

theorem CV.ren_ren {ρ σ : Nat → Nat} {x : CV} (h : ∀ c ∈ x.refs, σ (ρ c) = c) : (x.ren ρ).ren σ = x := by
  cases x with
  | f x => rfl
  | ptr b => simp only [CV.ren, h b (by simp [CV.refs])]
  | sl nil b => simp only [CV.ren, h b (by simp [CV.refs])]
  | mp b => simp only [CV.ren, h b (by simp [CV.refs])]
  | fn g l =>
    simp only [CV.ren, CV.fn.injEq, true_and, List.map_map]
    have : ∀ x ∈ l, ((fun x : Nat × Nat × Nat × Nat => (σ x.1, x.2.1, x.2.2.1, x.2.2.2)) ∘ fun x : Nat × Nat × Nat × Nat => (ρ x.1, x.2.1, x.2.2.1, x.2.2.2)) x = id x := fun x hx => by
      simp only [Function.comp, h x.1 (List.mem_map.2 ⟨x, hx, rfl⟩), id]
    rw [List.map_congr_left this, List.map_id]

theorem Ob.ren_ren {ρ σ : Nat → Nat} {o : Ob} (h : ∀ c ∈ o.refs, σ (ρ c) = c) : (o.ren ρ).ren σ = o := by
  cases o with
  | cells l =>
    simp only [Ob.ren, Ob.cells.injEq, List.map_map]
    have : ∀ x ∈ l, (CV.ren σ ∘ CV.ren ρ) x = id x := fun x hx => by
      simp only [Function.comp, id]
      exact CV.ren_ren fun c hc => h c (List.mem_flatMap.2 ⟨x, hx, hc⟩)
    rw [List.map_congr_left this, List.map_id]
  | arr => rfl
  | map => rfl
  | dead => rfl

theorem get_backH_at {ids : List Nat} {nx n : Nat} (h : Back ids nx) : ∀ (H : Heap) (i : Nat), i < n → (backH ids nx n H).get (backName ids nx i) = (H.get i).ren (backName ids nx)
  | [], i, hi => rfl
  | (k, o) :: r, i, hi => by
    unfold backH
    rw [List.filter_cons]
    have ih := get_backH_at h r i hi
    unfold backH at ih
    by_cases hk : Nat.ble (k + 1) n = true
    · simp only [hk, if_true, List.map_cons]
      rw [Heap.get_cons, Heap.get_cons, ih]
      by_cases e : k = i
      · rw [if_pos e, if_pos (by rw [e])]
      · rw [if_neg e, if_neg (fun e' => e (h.inj e'))]
    · simp only [hk]
      rw [Heap.get_cons, if_neg (fun (e' : k = i) => hk (by rw [e']; exact Nat.ble_eq_true_of_le hi))]
      exact ih

theorem get_renH0 {ids : List Nat} {H : Heap} (b : Nat) (hb : b < ids.length) : (renH 0 ids H).get b = (H.get (ids.getD b 0)).ren (reName 0 ids) := by
  unfold renH
  have e : (H.filter fun e => Nat.ble (e.1 + 1) 0) = [] := by
    rw [List.filter_eq_nil_iff]
    intro e _
    simp [Nat.ble]
  rw [e]
  simp only [List.map_nil, List.nil_append]
  rw [get_laid, if_pos ⟨Nat.zero_le _, by omega⟩, Nat.sub_zero]

/-- behind a run on the blocks that are reached: the whole heap -/
theorem framed {H : Heap} {nx : Nat} {ids : List Nat} {o : CallOut} (hn : Names 0 nx ids H) (hk1 : ids.length ≤ o.nx) (hk2 : ∀ b, b < ids.length → b ∉ o.wr → o.H.get b = (renH 0 ids H).get b)
    {f : Fn} {z : Z} {w : World} (hrel : Rel All f nx z w H) {f0 : Fn} {z' : Z} {w' : World} (hp : Post All (fun b => f (unName 0 ids b)) ids.length z w (renH 0 ids H) f0 o.nx z' w' o.H o.esc) :
    ∃ f' : Fn, Post All f nx z w H f' (nx + (o.nx - ids.length)) z' w' (backH ids nx o.nx o.H ++ H.filter fun e => !(ids.any (Nat.beq e.1))) (escB ids (renH 0 ids H) o) ∧
      (∀ c, c < o.nx → Led f0 f' (nx + (o.nx - ids.length)) (backName ids nx) c) ∧ ∀ b, b < nx → f' b = f b := by
  have hB : Back ids nx := ⟨fun c hc => (hn.ge c hc).2, hn.nodup⟩
  have un : ∀ b, b < ids.length → unName 0 ids b = ids.getD b 0 := fun b hb => by simp [unName, Nat.ble]
  have ungetD : ∀ b (hb : b < ids.length), ids.getD b 0 = ids[b] := fun b hb => by rw [List.getD_eq_getElem?_getD, List.getElem?_eq_getElem hb]; rfl
  -- the new places
  let f' : Fn := fun c => if c < nx then f c else f0 (ids.length + (c - nx))
  have hled : ∀ c, c < o.nx → Led f0 f' (nx + (o.nx - ids.length)) (backName ids nx) c := fun c hc => by
    rcases Nat.lt_or_ge c ids.length with hi | hi
    · obtain ⟨e1, e2⟩ := hB.old hi
      refine ⟨?_, by rw [e1]; omega⟩
      simp only [f', e1, e2, if_true]
      rw [hp.ext c hi]
      simp only [un c hi, ungetD c hi]
    · have e1 := Back.new (nx := nx) hi
      refine ⟨?_, by rw [e1]; omega⟩
      simp only [f', e1]
      rw [if_neg (by omega)]
      congr 1
      omega
  have hB0 : ∀ b, b < nx → f' b = f b := fun b hb => by simp only [f', hb, if_true]
  have himg : ∀ k, img All (fun b => f (unName 0 ids b)) (renH 0 ids H) k → img All f H k := by
    rintro k ⟨b, _, hl, e⟩
    obtain ⟨h1, h2⟩ := get_renH hl
    rw [h2, Ob.ren_live] at hl
    exact ⟨_, trivial, hl, e⟩
  -- the frame
  have hfr : ∀ b, Heap.get (H.filter fun e => !(ids.any (Nat.beq e.1))) b = if b ∈ ids then .dead else H.get b := fun b => by
    rw [get_filter (fun b => !(ids.any (Nat.beq b)))]
    by_cases hb : b ∈ ids
    · rw [if_neg (by rw [(anyBeq ids b).2 hb]; simp), if_pos hb]
    · have : ids.any (Nat.beq b) = false := by
        cases hq : ids.any (Nat.beq b) with
        | false => rfl
        | true => exact absurd ((anyBeq ids b).1 hq) hb
      rw [if_pos (by rw [this]; rfl), if_neg hb]
  -- a block behind the call
  have hcase : ∀ b, (Heap.get (backH ids nx o.nx o.H ++ H.filter fun e => !(ids.any (Nat.beq e.1))) b).live →
      (∃ i, i < o.nx ∧ backName ids nx i = b ∧ (o.H.get i).live ∧ Heap.get (backH ids nx o.nx o.H ++ H.filter fun e => !(ids.any (Nat.beq e.1))) b = (o.H.get i).ren (backName ids nx)) ∨
      (b ∉ ids ∧ b < nx ∧ (H.get b).live ∧ Heap.get (backH ids nx o.nx o.H ++ H.filter fun e => !(ids.any (Nat.beq e.1))) b = H.get b) := fun b hl => by
    rcases get_append (backH ids nx o.nx o.H) (H.filter fun e => !(ids.any (Nat.beq e.1))) b with e | ⟨e1, e2⟩
    · rw [e] at hl ⊢
      obtain ⟨i, h1, h2, h3⟩ := get_backH o.H b hl
      refine .inl ⟨i, h1, h2, ?_, h3⟩
      rw [h3, Ob.ren_live] at hl
      exact hl
    · rw [e2, hfr] at hl ⊢
      by_cases hb : b ∈ ids
      · rw [if_pos hb] at hl; exact hl.elim
      · rw [if_neg hb] at hl ⊢
        exact .inr ⟨hb, (hrel.own b trivial hl).1, hl, rfl⟩
  have hnot : ∀ b, b ∉ ids → b < nx → (H.get b).live → ¬ img All (fun b => f (unName 0 ids b)) (renH 0 ids H) (f b).k := by
    rintro b hb hlt hl ⟨c, _, hcl, e⟩
    obtain ⟨h1, h2⟩ := get_renH hcl
    rw [h2, Ob.ren_live] at hcl
    rw [Nat.zero_add] at h1
    refine hrel.inj _ b trivial trivial hcl hl (fun e' => hb ?_) e
    rw [← e', un c h1, ungetD c h1]
    exact List.getElem_mem h1
  have hext : Ext nx f f' := fun b hb => hB0 b hb
  refine ⟨f', ⟨by omega, hext, hp.zle, fun k p v hv => (hp.znew k p v hv).imp id (Or.imp id (himg k)), fun b _ hs => absurd trivial hs, fun b hb hl => ?_, ⟨fun b _ hl => ?_, fun b c _ _ hl hl' hne => ?_, hp.rel.zok⟩, fun b hb hl => ?_, hp.fr.less fun x _ => himg x, fun he m' hm' hN b l hb hg x hx => ?_⟩, hled, hB0⟩
  · -- dead
    rcases hcase b hl with ⟨i, h1, h2, h3, _⟩ | ⟨_, _, h3, _⟩
    · rcases Nat.lt_or_ge i ids.length with hi | hi
      · have := hp.dead i hi h3
        rw [get_renH0 i hi, Ob.ren_live, ungetD i hi] at this
        rw [← h2, (hB.old hi).1]
        exact this
      · rw [Back.new hi] at h2; omega
    · exact h3
  · -- own
    rcases hcase b hl with ⟨i, h1, h2, h3, h4⟩ | ⟨h1, h2, h3, h4⟩
    · obtain ⟨_, hbok⟩ := hp.all.own i trivial h3
      refine ⟨by rw [← h2]; exact (hled i h1).2, ?_⟩
      rw [h4]
      exact hbok.ren (by rw [← h2]; exact (hled i h1).1) fun c hc => hled c (hbok.refs_lt c hc)
    · refine ⟨by omega, ?_⟩
      rw [h4]
      exact (hrel.own b trivial h3).2.kept h2 hp.fr (hnot b h1 h2 h3) hext (by omega) hp.zle hp.znew
  · -- apart
    have side : ∀ b c i, b ∉ ids → b < nx → (H.get b).live → i < o.nx → backName ids nx i = c → (o.H.get i).live → (f' b).k ≠ (f' c).k := by
      intro b c i h1 h2 h3 h4 h5 h6 he
      rw [hB0 b h2, ← h5, (hled i h4).1] at he
      rcases Nat.lt_or_ge i ids.length with hi | hi
      · rw [hp.ext i hi] at he
        exact hnot b h1 h2 h3 ⟨i, trivial, hp.dead i hi h6, he.symm⟩
      · rcases hp.fresh i hi h6 with h7 | h7
        · have := (hrel.own b trivial h3).2.lt
          omega
        · rw [← he] at h7
          exact hnot b h1 h2 h3 h7
    rcases hcase b hl with ⟨i, h1, h2, h3, _⟩ | ⟨h1, h2, h3, _⟩ <;> rcases hcase c hl' with ⟨j, k1, k2, k3, _⟩ | ⟨k1, k2, k3, _⟩
    · rw [← h2, ← k2, (hled i h1).1, (hled j k1).1]
      exact hp.all.inj i j trivial trivial h3 k3 fun e => hne (by rw [← h2, ← k2, e])
    · exact (side c b i k1 k2 k3 h1 h2 h3).symm
    · exact side b c j h1 h2 h3 k1 k2 k3
    · rw [hB0 b h2, hB0 c k2]
      exact hrel.inj b c trivial trivial h3 k3 hne
  · -- new
    rcases hcase b hl with ⟨i, h1, h2, h3, _⟩ | ⟨_, h2, _, _⟩
    · rcases Nat.lt_or_ge i ids.length with hi | hi
      · have := (hB.old hi).2
        rw [(hB.old hi).1] at h2
        omega
      · rw [← h2, (hled i h1).1]
        exact (hp.fresh i hi h3).imp id (himg _)
    · omega
  · -- nothing new is reached
    have hl : (Heap.get (backH ids nx o.nx o.H ++ H.filter fun e => !(ids.any (Nat.beq e.1))) b).live := by rw [hg]; trivial
    rcases hcase b hl with ⟨i, h1, h2, h3, h4⟩ | ⟨h1, h2, h3, h4⟩
    · rcases Nat.lt_or_ge i ids.length with hi | hi
      · rw [hg] at h4
        have hbi : ids.getD i 0 = b := by rw [ungetD i hi, ← (hB.old hi).1]; exact h2
        cases hoi : o.H.get i with
        | cells l0 =>
          rw [hoi] at h4
          simp only [Ob.ren, Ob.cells.injEq] at h4
          subst h4
          obtain ⟨y, hy, rfl⟩ := List.mem_map.1 hx
          have hrefs : ∀ c ∈ y.refs, c ∈ (o.H.get i).refs := fun c hc => by rw [hoi]; exact List.mem_flatMap.2 ⟨y, hy, hc⟩
          have hold : ∀ c, c ∈ ((renH 0 ids H).get i).refs → backName ids nx c < m' := fun c hc => by
            rw [get_renH0 i hi, hbi] at hc
            have hlH : (H.get b).live := by
              have := hp.dead i hi h3
              rwa [get_renH0 i hi, Ob.ren_live, hbi] at this
            cases hHb : H.get b with
            | cells l1 =>
              rw [hHb] at hc
              simp only [Ob.ren, Ob.refs] at hc
              obtain ⟨y1, hy1, hc1⟩ := List.mem_flatMap.1 hc
              obtain ⟨y0, hy0, rfl⟩ := List.mem_map.1 hy1
              have hbnd := beyond_refs.1 (hN b l1 hb hHb y0 hy0)
              have : ∃ c0 ∈ y0.refs, c = reName 0 ids c0 := by
                cases y0 with
                | f x => cases hc1
                | ptr b => simp only [CV.ren, CV.refs, List.mem_singleton] at hc1; exact ⟨b, by simp [CV.refs], hc1⟩
                | sl nil b => simp only [CV.ren, CV.refs, List.mem_singleton] at hc1; exact ⟨b, by simp [CV.refs], hc1⟩
                | mp b => simp only [CV.ren, CV.refs, List.mem_singleton] at hc1; exact ⟨b, by simp [CV.refs], hc1⟩
                | fn g l =>
                  simp only [CV.ren, CV.refs, List.map_map, List.mem_map] at hc1
                  obtain ⟨q, hq, rfl⟩ := hc1
                  exact ⟨q.1, by simp only [CV.refs, List.mem_map]; exact ⟨q, hq, rfl⟩, rfl⟩
              obtain ⟨c0, hc0, rfl⟩ := this
              have hin : c0 ∈ ids := by
                have := hn.refs b (.inr (by rw [← hbi, ungetD i hi]; exact List.getElem_mem hi)) c0 (by rw [hHb]; exact List.mem_flatMap.2 ⟨y0, hy0, hc0⟩)
                exact this.resolve_left (by omega)
              rw [hB.un hin]
              exact hbnd c0 hc0
            | arr => rw [hHb] at hc; cases hc
            | map => rw [hHb] at hc; cases hc
            | dead => rw [hHb] at hlH; exact hlH.elim
          rw [beyond_refs]
          intro c hc
          have : ∃ c0 ∈ y.refs, c = backName ids nx c0 := by
            cases y with
            | f x => cases hc
            | ptr b => simp only [CV.ren, CV.refs, List.mem_singleton] at hc; exact ⟨b, by simp [CV.refs], hc⟩
            | sl nil b => simp only [CV.ren, CV.refs, List.mem_singleton] at hc; exact ⟨b, by simp [CV.refs], hc⟩
            | mp b => simp only [CV.ren, CV.refs, List.mem_singleton] at hc; exact ⟨b, by simp [CV.refs], hc⟩
            | fn g l =>
              simp only [CV.ren, CV.refs, List.map_map, List.mem_map] at hc
              obtain ⟨q, hq, rfl⟩ := hc
              exact ⟨q.1, by simp only [CV.refs, List.mem_map]; exact ⟨q, hq, rfl⟩, rfl⟩
          obtain ⟨c0, hc0, rfl⟩ := this
          by_cases hw : i ∈ o.wr
          · simp only [escB, List.any_eq_false] at he
            have h5 := he i hw
            rw [Nat.ble_eq_true_of_le hi, Bool.true_and, Bool.not_eq_true, List.any_eq_false] at h5
            have h6 := h5 c0 (hrefs c0 hc0)
            rw [Bool.not_eq_true, Bool.not_eq_false', Bool.and_eq_true, Bool.or_eq_true] at h6
            obtain ⟨h7, h8⟩ := h6
            rcases h8 with h8 | h8
            · have h9 := nble h8
              rw [(hB.old (nble h7)).1]
              rw [ungetD c0 (nble h7), hbi] at h9
              omega
            · exact hold c0 ((anyBeq _ _).1 h8)
          · have := hk2 i hi hw
            exact hold c0 (by rw [← this]; exact hrefs c0 hc0)
        | arr => rw [hoi] at h4; cases h4
        | map => rw [hoi] at h4; cases h4
        | dead => rw [hoi] at h4; cases h4
      · rw [Back.new hi] at h2; omega
    · rw [hg] at h4
      exact hN b l hb h4.symm x hx

theorem canonSum_ok {P : Program} {g : Nat} {F : List AV → Heap → Nat → T CallOut} (h : SumOk P g F) : SumOk P g (canonSum F) := by
  refine ⟨fun args H nx r hr => ?_, fun args H nx => ?_⟩
  · unfold canonSum at hr
    dsimp only at hr
    generalize hids : (reach H 4000 (args.flatMap AV.refs) []).reverse = ids at hr
    split at hr
    · exact (T.bad_some hr).elim
    rename_i hok
    rw [Bool.and_eq_true] at hok
    have hn := okNames_ok hok.1
    have hargs : ∀ c ∈ args.flatMap AV.refs, c < 0 ∨ c ∈ ids := fun c hc => okRef_ok (List.all_eq_true.1 hok.2 c hc)
    obtain ⟨o, ho, hr⟩ := T.bind_some hr
    have := T.ret_some hr
    subst this
    have hk := (h.keeps (args.map (AV.ren (reName 0 ids))) (renH 0 ids H) ids.length).res ho
    obtain ⟨hk1, hk2⟩ := hk
    intro f z w vs hrel hra R hR
    have hrel0 := hrel.ren hn
    rw [Nat.zero_add] at hrel0
    refine h.to _ _ _ o ho (fun b => f (unName 0 ids b)) z w vs hrel0 (hra.ren fun c hc => by have := hn.led f (hargs c hc); rwa [Nat.zero_add] at this) R fun f0 z' w' v' hp hv => ?_
    obtain ⟨f', h1, h2, _⟩ := framed hn hk1 hk2 hrel hp
    exact hR f' z' w' v' h1 (hv.ren fun c hc => h2 c (hv.refs_lt c hc))
  · unfold canonSum
    dsimp only
    generalize hids : (reach H 4000 (args.flatMap AV.refs) []).reverse = ids
    split
    · trivial
    rename_i hok
    rw [Bool.and_eq_true] at hok
    have hn := okNames_ok hok.1
    have hB : Back ids nx := ⟨fun c hc => (hn.ge c hc).2, hn.nodup⟩
    refine T.Every.bind2 (fun o ho => ?_) (h.keeps _ _ _)
    refine ⟨by simp only; omega, fun b hb hw => ?_⟩
    simp only at hw ⊢
    have ungetD : ∀ b (hb : b < ids.length), ids.getD b 0 = ids[b] := fun b hb => by rw [List.getD_eq_getElem?_getD, List.getElem?_eq_getElem hb]; rfl
    have hfr : Heap.get (H.filter fun e => !(ids.any (Nat.beq e.1))) b = if b ∈ ids then .dead else H.get b := by
      rw [get_filter (fun b => !(ids.any (Nat.beq b)))]
      by_cases hb : b ∈ ids
      · rw [if_neg (by rw [(anyBeq ids b).2 hb]; simp), if_pos hb]
      · have : ids.any (Nat.beq b) = false := by
          cases hq : ids.any (Nat.beq b) with
          | false => rfl
          | true => exact absurd ((anyBeq ids b).1 hq) hb
        rw [if_pos (by rw [this]; rfl), if_neg hb]
    by_cases hin : b ∈ ids
    · obtain ⟨i, hi, rfl⟩ := List.getElem_of_mem hin
      have hiw : i ∉ o.wr := fun hq => hw (List.mem_map.2 ⟨i, List.mem_filter.2 ⟨hq, Nat.ble_eq_true_of_le hi⟩, ungetD i hi⟩)
      have e1 := ho.2 i hi hiw
      have e2 := get_backH_at hB o.H i (Nat.lt_of_lt_of_le hi ho.1)
      rw [(hB.old hi).1, e1, get_renH0 i hi, ungetD i hi, Ob.ren_ren (fun c hc => hB.un ((hn.refs _ (.inr hin) c hc).resolve_left (by omega)))] at e2
      rcases get_append (backH ids nx o.nx o.H) (H.filter fun e => !(ids.any (Nat.beq e.1))) ids[i] with e | ⟨e3, e4⟩
      · rw [e, e2]
      · rw [e4, hfr, if_pos hin, ← e2, e3]
    · have hd : ¬ ((backH ids nx o.nx o.H).get b).live := fun hl => by
        obtain ⟨i, h1, h2, _⟩ := get_backH o.H b hl
        rcases Nat.lt_or_ge i ids.length with hi | hi
        · rw [(hB.old hi).1] at h2
          exact hin (h2 ▸ List.getElem_mem hi)
        · rw [Back.new hi] at h2; omega
      rcases get_append (backH ids nx o.nx o.H) (H.filter fun e => !(ids.any (Nat.beq e.1))) b with e | ⟨e3, e4⟩
      · -- the part has no such block at all
        have none : ∀ (K : Heap), Heap.get (backH ids nx o.nx K) b = .dead := by
          intro K
          induction K with
          | nil => rfl
          | cons x K ih =>
            obtain ⟨k, q⟩ := x
            unfold backH
            rw [List.filter_cons]
            unfold backH at ih
            by_cases hk : Nat.ble (k + 1) o.nx = true
            · simp only [hk, if_true, List.map_cons]
              rw [Heap.get_cons, if_neg, ih]
              intro h2
              rcases Nat.lt_or_ge k ids.length with hi | hi
              · rw [(hB.old hi).1] at h2
                exact hin (h2 ▸ List.getElem_mem hi)
              · rw [Back.new hi] at h2; omega
            · simp only [hk]
              exact ih
        have app : ∀ (A B : Heap), Heap.get A b = .dead → (∀ e ∈ A, e.1 ≠ b) → Heap.get (A ++ B) b = B.get b := fun A B _ h => get_append_out A B b h
        rw [get_append_out _ _ b, hfr, if_neg hin]
        intro e he
        unfold backH at he
        obtain ⟨x, hx, rfl⟩ := List.mem_map.1 he
        have hx' := List.mem_filter.1 hx
        intro h2
        simp only at h2
        rcases Nat.lt_or_ge x.1 ids.length with hi | hi
        · rw [(hB.old hi).1] at h2
          exact hin (h2 ▸ List.getElem_mem hi)
        · rw [Back.new hi] at h2; omega
      · rw [e4, hfr, if_neg hin]

end Go.Proofs.YtbobakclbdaepaaGreat.En
/- The engine, part 26: parts of a tree; what is known, as lists; results that say less. -/
namespace Go.Proofs.YtbobakclbdaepaaGreat.En
open Go
set_option linter.unusedVariables false
set_option linter.unusedSimpArgs false

/-- a sentence as a truth; it is never reckoned -/
noncomputable def pb (p : Prop) : Bool := @decide p (Classical.propDecidable p)
theorem pb_of {p : Prop} (h : pb p = true) : p := @of_decide_eq_true p (Classical.propDecidable p) h
theorem pb_true {p : Prop} (h : p) : pb p = true := @decide_eq_true p (Classical.propDecidable p) h

/-- which parts of a tree are looked at -/
inductive PT where
  | leaf
  | br (p q : PT)
  | tt (p : PT)
  | ff (q : PT)
  | skip

def T.over {α : Type} : T α → PT → T α
  | t, .leaf => t
  | .br b x y, .br p q => .br b (x.over p) (y.over q)
  | .br b x _, .tt p => match b with | true => x.over p | false => .bad
  | .br b _ y, .ff q => match b with | true => .bad | false => y.over q
  | _, _ => .bad

theorem T.over_res {α : Type} {a : α} : ∀ (p : PT) (t : T α), (t.over p).res = some a → t.res = some a
  | .leaf, t, h => by
    have e : t.over .leaf = t := by cases t <;> rfl
    rw [e] at h; exact h
  | .br p q, t, h => by
    cases t with
    | br b x y =>
      cases b with
      | true => exact T.over_res p x h
      | false => exact T.over_res q y h
    | ret a => exact (T.bad_some h).elim
    | bad => exact (T.bad_some h).elim
  | .tt p, t, h => by
    cases t with
    | br b x y =>
      cases b with
      | true => exact T.over_res p x h
      | false => exact (T.bad_some h).elim
    | ret a => exact (T.bad_some h).elim
    | bad => exact (T.bad_some h).elim
  | .ff q, t, h => by
    cases t with
    | br b x y =>
      cases b with
      | true => exact (T.bad_some h).elim
      | false => exact T.over_res q y h
    | ret a => exact (T.bad_some h).elim
    | bad => exact (T.bad_some h).elim
  | .skip, t, h => by
    cases t with
    | br b x y => exact (T.bad_some h).elim
    | ret a => exact (T.bad_some h).elim
    | bad => exact (T.bad_some h).elim

/-! a call's end that says less -/

def CallOut.st (r : CallOut) : St := ⟨[(0, r.v)], r.H, r.nx, r.esc, 0, r.wr⟩

def OutLe (m : Nat) (r r' : CallOut) : Prop := StLe m r.st r'.st

theorem CallTo.le {P : Program} {g : Nat} {args : List AV} {H : Heap} {nx : Nat} {r r' : CallOut} (h : CallTo P g args H nx r) (hle : OutLe nx r r') : CallTo P g args H nx r' := by
  intro f z w vs hr ha R hR
  refine h f z w vs hr ha R fun f1 z1 w1 v1 hp hv => ?_
  obtain ⟨f2, z2, ht, hp2⟩ := hle.to f1 z1 w1 #[v1] (fun t => by
    simp only [CallOut.st]
    rw [Slots.get_cons]
    by_cases e : 0 = t
    · subst e; simpa using hv
    · rw [if_neg e]; trivial) hp.all
  have h0 := ht 0
  simp only [CallOut.st] at h0 hp2
  rw [Slots.get_cons, if_pos rfl] at h0
  refine hR f2 z2 w1 v1 ((Post.trans' hp hp2 (Nat.le_refl _)).weak fun he => ?_) (by simpa using h0)
  rw [Bool.or_eq_false_iff]
  exact ⟨hle.esc he, he⟩

theorem OutLe.refl {m : Nat} {r : CallOut} (h : m ≤ r.nx) : OutLe m r r := StLe.refl h

/-- a call's end, its blocks from m on named anew, and what no one sees dropped -/
def canonOut (m : Nat) (r : CallOut) : Option CallOut :=
  match canonSt m [0] r.st with
  | some s => some ⟨s.sl.get 0, s.H, s.nx, s.esc, s.wr⟩
  | none => none

theorem canonOut_ok {m : Nat} {r r' : CallOut} (h : canonOut m r = some r') : OutLe m r r' := by
  unfold canonOut at h
  split at h
  · rename_i s hs
    have hle := canonSt_ok hs
    simp only [Option.some.injEq] at h
    subst h
    refine hle.trans ?_
    have hm : m ≤ s.nx := by
      unfold canonSt at hs
      obtain ⟨sl, h1, _⟩ := pruneK_eq (β := Option St) r.st.sl [0]
      rw [h1] at hs
      dsimp only at hs
      split at hs
      · simp only [Option.some.injEq] at hs
        subst hs
        exact Nat.le_add_right _ _
      · cases hs
    have := StLe.slots (s := s) hm (sl := [(0, s.sl.get 0)]) fun t => by
      rw [Slots.get_cons]
      by_cases e : 0 = t
      · subst e; exact .inr (if_pos rfl)
      · rw [if_neg e]; exact .inl rfl
    exact ⟨this.esc, fun f z w a ht hr => this.to f z w a ht hr⟩
  · cases h

/-! loops -/

structure LoopOk (P : Program) (L : Nat → Code → St → T (Ex × St)) : Prop where
  to : ∀ N c st e st', (L N c st).res = some (e, st') → CodeOk P N c st e st'
  keeps : ∀ N c st, (L N c st).Every fun x => Kp st x.2

/-- what is known of a loop: out of its slots, its heap, what comes of it -/
noncomputable def mkLoop (live : List Nat) (c0 : Code) (N0 : Nat) (B : Slots → Heap → Nat → Bool → T (Ex × Slots × Heap × Nat × Bool)) (N : Nat) (c : Code) (st : St) : T (Ex × St) :=
  .need (pb (c = .loop c0 ∧ N = N0)) (pruneK st.sl live fun sl => (B sl st.H st.nx st.esc).bind fun x => match Nat.ble st.nx x.2.2.2.1 with
    | true => .ret (x.1, ⟨x.2.1, x.2.2.1.filter (fun e => Nat.ble st.nx e.1 || (st.H.map (·.1)).any (Nat.beq e.1)), x.2.2.2.1, x.2.2.2.2, st.base, st.H.map (·.1) ++ st.wr⟩)
    | false => .bad)

theorem CodeOk.wide {P : Program} {N : Nat} {c : Code} {st : St} {e : Ex} {st' : St} {b : Nat} {wr : List Nat} {b' : Nat} {wr' : List Nat} (h : CodeOk P N c ⟨st.sl, st.H, st.nx, st.esc, b, wr⟩ e ⟨st'.sl, st'.H, st'.nx, st'.esc, b', wr'⟩) : CodeOk P N c st e st' :=
  ⟨h.1, h.2⟩

theorem CodeOk.less {P : Program} {N : Nat} {c : Code} {st : St} {e : Ex} {st' st'' : St} (h : CodeOk P N c st e st') (hle : StLe st.nx st' st'') : CodeOk P N c st e st'' :=
  ⟨fun he => h.1 (hle.esc he), fun f z w a ht hr hN hd Q hQ => h.2 f z w a ht hr hN hd Q fun f1 z1 w1 a1 hp ht1 hN1 hd1 => by
    obtain ⟨f2, z2, ht2, hp2⟩ := hle.to f1 z1 w1 a1.tmps ht1 hp.all
    refine hQ f2 z2 w1 a1 ((Post.trans' hp hp2 (Nat.le_refl _)).weak fun he => ?_) ht2 hN1 hd1
    rw [Bool.or_eq_false_iff]
    exact ⟨hle.esc he, he⟩⟩

theorem StLe.sift {m : Nat} {s : St} (hm : m ≤ s.nx) (p : Nat → Bool) : StLe m s { s with H := s.H.filter fun e => p e.1 } :=
  ⟨id, fun f z w a ht hr => by
    have hg : ∀ b, (Heap.get (s.H.filter fun e => p e.1) b).live → Heap.get (s.H.filter fun e => p e.1) b = s.H.get b ∧ (s.H.get b).live := fun b hl => by
      rw [get_filter p] at hl ⊢
      split at hl
      · rename_i h; rw [if_pos h]; exact ⟨rfl, hl⟩
      · exact hl.elim
    refine ⟨f, z, ht, hm, fun b hb => rfl, fun _ _ _ h => h, fun _ _ _ h => .inl h, fun _ _ hs => absurd trivial hs, fun b _ hl => (hg b hl).2, ⟨fun b _ hl => ?_, fun b c _ _ hl hl' => hr.inj b c trivial trivial (hg b hl).2 (hg c hl').2, hr.zok⟩, fun b hb hl => .inr ⟨b, trivial, (hg b hl).2, rfl⟩, Fr.refl _ _, fun _ m' hm' hN b l hb hgl x hx => ?_⟩
    · simp only at hl ⊢
      rw [(hg b hl).1]
      exact hr.own b trivial (hg b hl).2
    · simp only at hgl
      have hl : (Heap.get (s.H.filter fun e => p e.1) b).live := by rw [hgl]; trivial
      rw [(hg b hl).1] at hgl
      exact hN b l hb hgl x hx⟩

theorem mkLoop_ok {P : Program} {live : List Nat} {c0 : Code} {N0 : Nat} {B : Slots → Heap → Nat → Bool → T (Ex × Slots × Heap × Nat × Bool)}
    (h : ∀ sl H nx esc e sl' H' nx' esc', (B sl H nx esc).res = some (e, sl', H', nx', esc') → CodeOk P N0 (.loop c0) ⟨sl, H, nx, esc, 0, []⟩ e ⟨sl', H', nx', esc', 0, []⟩) : LoopOk P (mkLoop live c0 N0 B) := by
  refine ⟨fun N c st e st' hr => ?_, fun N c st => ?_⟩
  · unfold mkLoop at hr
    obtain ⟨hp, hr2⟩ := T.need_some hr
    clear hr
    obtain ⟨rfl, rfl⟩ := pb_of hp
    obtain ⟨sl, h1, h2⟩ := pruneK_eq (β := T (Ex × St)) st.sl live
    rw [h1] at hr2
    obtain ⟨⟨e1, sl1, H1, nx1, esc1⟩, hb, hr⟩ := T.bind_some hr2
    simp only at hr
    split at hr
    · rename_i hle
      have hle := nble hle
      have := T.ret_some hr
      simp only [Prod.mk.injEq] at this
      obtain ⟨rfl, rfl⟩ := this
      have hc := h _ _ _ _ _ _ _ _ _ hb
      have hc := CodeOk.less (st'' := ⟨sl1, H1.filter fun e => (fun b => Nat.ble st.nx b || (st.H.map (·.1)).any (Nat.beq b)) e.1, nx1, esc1, 0, []⟩) hc (StLe.sift (s := ⟨sl1, H1, nx1, esc1, 0, []⟩) hle fun b => Nat.ble st.nx b || (st.H.map (·.1)).any (Nat.beq b))
      have hc := CodeOk.slots (st := { st with base := 0, wr := [] }) (s := sl) hc fun f z a ht t => by
        rw [h2]
        split
        · exact ht t
        · trivial
      exact ⟨hc.1, hc.2⟩
    · exact (T.bad_some hr).elim
  · unfold mkLoop
    refine T.Every.need ?_
    obtain ⟨sl, h1⟩ := pruneK_at (β := T (Ex × St)) st.sl live
    rw [h1]
    refine T.Every.bind (fun x => ?_) _
    split
    · rename_i hle
      have hle := nble hle
      refine ⟨rfl, hle, fun b hb hn hw => ?_⟩
      simp only [List.mem_append, not_or] at hw
      obtain ⟨w1, w2⟩ := hw
      refine ⟨w2, ?_⟩
      simp only
      have hd : ¬ (st.H.get b).live := fun hl => w1 (live_key _ _ hl)
      have key : ∀ (H : Heap), b ∉ H.map (·.1) → H.get b = .dead := by
        intro H
        induction H with
        | nil => intro _; rfl
        | cons e H ih =>
          obtain ⟨k, o⟩ := e
          intro hm
          simp only [List.map_cons, List.mem_cons, not_or] at hm
          rw [Heap.get_cons, if_neg (Ne.symm hm.1)]
          exact ih hm.2
      rw [get_filter (fun b => Nat.ble st.nx b || (st.H.map (·.1)).any (Nat.beq b)), if_neg, key _ w1]
      rw [ble_false (by omega)]
      simp only [Bool.false_or, Bool.not_eq_true]
      cases hq : (st.H.map (·.1)).any (Nat.beq b) with
      | false => rfl
      | true => exact absurd ((anyBeq _ _).1 hq) w1
    · trivial

/-! lists of what is known -/

abbrev SumF := List AV → Heap → Nat → T CallOut
abbrev LoopF := Nat → Code → St → T (Ex × St)

def sumL : List (Nat × SumF) → Nat → Option SumF
  | [], _ => none
  | (k, s) :: r, g => match Nat.beq k g with | true => some s | false => sumL r g

def lsL : List (Nat × Nat × LoopF) → Nat → Nat → Option LoopF
  | [], _, _ => none
  | (k, j, s) :: r, g, id => match Nat.beq k g && Nat.beq j id with | true => some s | false => lsL r g id

theorem sumL_ok {P : Program} : ∀ (l : List (Nat × SumF)), (∀ x ∈ l, SumOk P x.1 x.2) → ∀ g s, sumL l g = some s → SumOk P g s
  | [], _, g, s, h => by cases h
  | (k, s0) :: r, hl, g, s, h => by
    simp only [sumL] at h
    split at h
    · rename_i e
      have := nbeq e
      simp only [Option.some.injEq] at h
      subst this h
      exact hl _ (List.mem_cons_self ..)
    · exact sumL_ok r (fun x hx => hl x (List.mem_cons_of_mem _ hx)) g s h

theorem lsL_ok {P : Program} : ∀ (l : List (Nat × Nat × LoopF)), (∀ x ∈ l, LoopOk P x.2.2) → ∀ g id s, lsL l g id = some s → LoopOk P s
  | [], _, g, id, s, h => by cases h
  | (k, j, s0) :: r, hl, g, id, s, h => by
    simp only [lsL] at h
    split at h
    · simp only [Option.some.injEq] at h
      subst h
      exact hl _ (List.mem_cons_self ..)
    · exact lsL_ok r (fun x hx => hl x (List.mem_cons_of_mem _ hx)) g id s h

/-- with what is known -/
def Ctx.with (G : Ctx) (s : List (Nat × SumF)) (l : List (Nat × Nat × LoopF)) : Ctx := ⟨G.ti, G.fi, G.sym, sumL s, lsL l, fun _ _ => none⟩

theorem CtxOk.with {P : Program} {G : Ctx} (h : CtxOk P G) (s : List (Nat × SumF)) (l : List (Nat × Nat × LoopF)) : CtxOk P (G.with s l) := ⟨h.ti, h.fi, h.mixed⟩

theorem KnownOk.lists {P : Program} {G : Ctx} {s : List (Nat × SumF)} {l : List (Nat × Nat × LoopF)} (hs : ∀ x ∈ s, SumOk P x.1 x.2) (hl : ∀ x ∈ l, LoopOk P x.2.2) : KnownOk P (G.with s l) where
  sum := fun g F h => (sumL_ok s hs g F h).to
  ls := fun F id L h => (lsL_ok l hl F id L h).to
  sumK := fun g F h => (sumL_ok s hs g F h).keeps
  lsK := fun F id L h => (lsL_ok l hl F id L h).keeps
  pre := fun F id p h => by cases h
  preK := fun F id p h => by cases h

end Go.Proofs.YtbobakclbdaepaaGreat.En
/- The engine, part 27: short words; a loop's rounds. -/
namespace Go.Proofs.YtbobakclbdaepaaGreat.En
open Go
set_option linter.unusedVariables false
set_option linter.unusedSimpArgs false

abbrev noLive : Nat → Nat → Option (List Nat) := fun _ _ => none
abbrev I (n : Int) : CV := .f (.lit (.int .i64 n))
abbrev Bo (b : Bool) : CV := .f (.lit (.bool b))
abbrev Sg (s : ByteArray) : CV := .f (.lit (.string s))
abbrev Nil : CV := .f (.lit (.slice none 0 0))
abbrev Ptr (b : Nat) : CV := .ptr b 0 0 0
abbrev AI (n : Int) : AV := .one (I n)
abbrev AB (b : Bool) : AV := .one (Bo b)
abbrev AS (s : ByteArray) : AV := .one (Sg s)
abbrev AP (b : Nat) : AV := .one (Ptr b)
abbrev out0 (v : SV) : CallOut := ⟨v, [], 0, false, []⟩

theorem T.res_br {α : Type} (b : Bool) (t e : T α) : (T.br b t e).res = if b = true then t.res else e.res := by cases b <;> rfl
theorem T.res_ret {α : Type} (a : α) : (T.ret a).res = some a := rfl
theorem T.res_bad {α : Type} : (T.bad : T α).res = none := rfl
theorem T.res_need {α : Type} (b : Bool) (t : T α) : (T.need b t).res = if b = true then t.res else none := by cases b <;> rfl

theorem T.over_eq {α : Type} {t u : T α} {a : α} (p : PT) (h : t.over p = u) (hu : u.res = some a) : t.res = some a := T.over_res p t (by rw [h]; exact hu)

/-- a call's run; what is written is told otherwise -/
def evCallW (wr : List Nat) (G : Ctx) (n g : Nat) (args : List AV) (H : Heap) (nx : Nat) : T CallOut := (evCall G noLive n g args H nx).bind fun o => .ret { o with wr := wr }

theorem evCallW_ok {P : Program} {G : Ctx} (hG : CtxOk P G) (hK : KnownOk P G) {wr : List Nat} {n g : Nat} {args : List AV} {H : Heap} {nx : Nat} {r : CallOut} (h : (evCallW wr G n g args H nx).res = some r) : CallTo P g args H nx r := by
  obtain ⟨o, h1, h2⟩ := T.bind_some h
  have := T.ret_some h2
  subst this
  exact evCall_ok hG hK n g args H nx o h1

/-- a round of a loop; what it leaves is named anew, from m on -/
def evRound (G : Ctx) (K F N : Nat) (c : Code) (m : Nat) (live after : List Nat) (st : St) : T (Ex × St) :=
  (ev G noLive K F N c st).bind fun x => match canonSt m (match x.1 with | .normal => live | _ => after) x.2 with
    | some s => .ret (x.1, s)
    | none => .bad

theorem evRound_some {G : Ctx} {K F N : Nat} {c : Code} {m : Nat} {live after : List Nat} {st : St} {e : Ex} {s : St} (h : (evRound G K F N c m live after st).res = some (e, s)) :
    ∃ st1, (ev G noLive K F N c st).res = some (e, st1) ∧ StLe m st1 s := by
  unfold evRound at h
  obtain ⟨⟨e1, st1⟩, h1, h2⟩ := T.bind_some h
  simp only at h2
  split at h2
  · rename_i s1 hs
    have := T.ret_some h2
    simp only [Prod.mk.injEq] at this
    obtain ⟨rfl, rfl⟩ := this
    exact ⟨st1, h1, canonSt_ok hs⟩
  · exact (T.bad_some h2).elim

/-- round by round: an invariant, a measure -/
theorem rounds {G : Ctx} {K F N : Nat} {c : Code} {m : Nat} {live after : List Nat} {α : Type} (S : α → St) (μ : α → Nat) (Inv : α → Prop) (Fin : Ex → St → Prop)
    (h : ∀ p, Inv p → ∃ e s, (evRound G K F N c m live after (S p)).res = some (e, s) ∧ ((e = .normal ∧ ∃ p', StLe m s (S p') ∧ Inv p' ∧ μ p' < μ p) ∨ (e ≠ .normal ∧ ∃ s', StLe m s s' ∧ Fin e s'))) :
    ∀ p, Inv p → ∃ e s, Fin e s ∧ Chain S μ m (ev G noLive K F N c) p e s := by
  have key : ∀ k p, μ p ≤ k → Inv p → ∃ e s, Fin e s ∧ Chain S μ m (ev G noLive K F N c) p e s := by
    intro k
    induction k with
    | zero =>
      intro p hk hI
      obtain ⟨e, s, h1, h2⟩ := h p hI
      obtain ⟨st1, h3, h4⟩ := evRound_some h1
      rcases h2 with ⟨rfl, p', h5, h6, h7⟩ | ⟨hne, s', h5, h6⟩
      · omega
      · exact ⟨e, s', h6, .stop h3 hne (h4.trans h5)⟩
    | succ k ih =>
      intro p hk hI
      obtain ⟨e, s, h1, h2⟩ := h p hI
      obtain ⟨st1, h3, h4⟩ := evRound_some h1
      rcases h2 with ⟨rfl, p', h5, h6, h7⟩ | ⟨hne, s', h5, h6⟩
      · obtain ⟨e', s', f1, f2⟩ := ih p' (by omega) h6
        exact ⟨e', s', f1, .step h3 (h4.trans h5) h7 f2⟩
      · exact ⟨e, s', h6, .stop h3 hne (h4.trans h5)⟩
  exact fun p hI => key (μ p) p (Nat.le_refl _) hI

/-- a loop that is known by its rounds -/
theorem loop_to {P : Program} {G : Ctx} (hG : CtxOk P G) (hK : KnownOk P G) {K F N : Nat} {c : Code} {m : Nat} {live after : List Nat} {α : Type} (S : α → St) (μ : α → Nat) (Inv : α → Prop) (e : Ex) (s : St)
    (h : ∀ p, Inv p → ∃ e' s', (evRound G K F N c m live after (S p)).res = some (e', s') ∧ ((e' = .normal ∧ ∃ p', StLe m s' (S p') ∧ Inv p' ∧ μ p' < μ p) ∨ (e' ≠ .normal ∧ ∃ s'', StLe m s' s'' ∧ e' = e ∧ s'' = s)))
    (hm : ∀ p, m ≤ (S p).nx) {p : α} (hI : Inv p) {st0 : St} (h0 : StLe m st0 (S p)) (hnx : st0.nx = m) : CodeOk P N (.loop c) st0 e s := by
  obtain ⟨e1, s1, ⟨rfl, rfl⟩, hc⟩ := rounds S μ Inv (fun e' s' => e' = e ∧ s' = s) h p hI
  exact hc.ok (fun st e st' hr => ev_ok hG hK K F N c st e st' hr) hm h0 hnx

/-- the loop whose first region this is -/
def loopAt : Code → Nat → Option Code
  | .seq a b, id => match loopAt a id with | some c => some c | none => loopAt b id
  | .cond _ a b, id => match loopAt a id with | some c => some c | none => loopAt b id
  | .block _ c, id => loopAt c id
  | .scope c, id => loopAt c id
  | .loop c, id => match rid c with
    | some k => match Nat.beq k id with | true => some c | false => loopAt c id
    | none => loopAt c id
  | _, _ => none

def loopOf (f : Func) (id : Nat) : Code := match f.body with
  | some c => (loopAt c id).getD .skip
  | none => .skip

theorem wrapI {x : Int} (h : -9223372036854775808 ≤ x ∧ x ≤ 9223372036854775807) : IntKind.wrap .i64 x = x := by
  rw [IntKind.wrap_i64]; omega

end Go.Proofs.YtbobakclbdaepaaGreat.En
/- The engine, part 28: arguments as they are read; a law's end. -/
namespace Go.Proofs.YtbobakclbdaepaaGreat.En
open Go
set_option linter.unusedVariables false
set_option linter.unusedSimpArgs false

/-- a cell's shape -/
inductive Sh where
  | bool | int (k : IntKind) | str | sl (sz : Nat) (e : List Sh)

def shapes (P : Program) (rec' : Nat → Option (List Sh)) : List Field → Nat → Option (List Sh)
  | [], _ => some []
  | f :: r, off => match rec' f.type, Nat.beq f.offset off with
    | some a, true => match Nat.beq a.length (P.cellsOf f.type), shapes P rec' r (off + a.length) with
      | true, some b => some (a ++ b)
      | _, _ => none
    | _, _ => none

def shapeOf (P : Program) : Nat → Nat → Option (List Sh)
  | 0, _ => none
  | d + 1, t => match P.underlying t with
    | some .bool => some [.bool]
    | some (.int k) => some [.int k]
    | some .string => some [.str]
    | some (.slice e) => match shapeOf P d e with
      | some s => match Nat.beq s.length (P.cellsOf e) && Nat.ble 1 s.length with | true => some [.sl s.length s] | false => none
      | none => none
    | some (.struct fs) => match shapes P (shapeOf P d) fs.toList 0 with
      | some s => match Nat.beq s.length (P.cellsOf t) with | true => some s | false => none
      | none => none
    | _ => none

mutual
def RSh (w : World) : Sh → Value → Prop
  | .bool, v => ∃ b, v = .bool b
  | .int k, v => ∃ n, v = .int k n ∧ k.min ≤ n ∧ n ≤ k.max
  | .str, v => ∃ s, v = .string s ∧ s.size ≤ maxLen
  | .sl sz e, v => v = .slice none 0 0 ∨ ∃ a n cap, v = .slice (some a) n cap ∧ n ≤ cap ∧ cap ≤ maxLen ∧ (0 < n → ∃ k o, a = ⟨k, o, none⟩ ∧ ∀ i, i < n → RShs w e k (o + i * sz))
def RShs (w : World) : List Sh → Nat → Nat → Prop
  | [], _, _ => True
  | s :: r, k, o => (∃ u, w.cell? ⟨k, o, none⟩ = some u ∧ RSh w s u) ∧ RShs w r k (o + 1)
end

def RShl (w : World) : List Sh → List Value → Prop
  | [], [] => True
  | s :: r, v :: vs => RSh w s v ∧ RShl w r vs
  | _, _ => False

theorem RShl.append {w : World} : ∀ {a b : List Sh} {u v : List Value}, RShl w a u → RShl w b v → RShl w (a ++ b) (u ++ v)
  | [], b, [], v, _, h => h
  | s :: a, b, x :: u, v, h, k => ⟨h.1, RShl.append h.2 k⟩
  | [], _, _ :: _, _, h, _ => h.elim
  | _ :: _, _, [], _, h, _ => h.elim

theorem RShl.len {w : World} : ∀ {a : List Sh} {u : List Value}, RShl w a u → u.length = a.length
  | [], [], _ => rfl
  | _ :: a, _ :: u, h => by simp [RShl.len h.2]
  | [], _ :: _, h => h.elim
  | _ :: _, [], h => h.elim

theorem RShs.of {w : World} {k : Nat} : ∀ {a : List Sh} {u : List Value} {o : Nat}, RShl w a u → (∀ j v, u[j]? = some v → w.cell? ⟨k, o + j, none⟩ = some v) → RShs w a k o
  | [], [], _, _, _ => trivial
  | s :: a, x :: u, o, h, hc => ⟨⟨x, hc 0 x rfl, h.1⟩, RShs.of h.2 fun j v hj => by
      have := hc (j + 1) v (by simpa using hj)
      rw [show o + 1 + j = o + (j + 1) by omega]
      exact this⟩
  | [], _ :: _, _, h, _ => h.elim
  | _ :: _, [], _, h, _ => h.elim

section
variable {H : Type} {enc : TypeId × Value → H} {P : Program} {w : World} {base : Nat} {sp : Nat → Bool} {held : Bool}

omit enc base sp held in
theorem shapes_read {cs : List Value} {rec' : Nat → Option (List Sh)} : ∀ (fs : List Field) (off : Nat) (ss : List Sh), shapes P rec' fs off = some ss →
    (∀ f ∈ fs, ∀ ss, rec' f.type = some ss → RShl w ss ((cs.drop f.offset).take (P.cellsOf f.type))) → RShl w ss ((cs.drop off).take ss.length)
  | [], off, ss, h, _ => by
    simp only [shapes, Option.some.injEq] at h
    subst h
    simp [RShl]
  | f :: r, off, ss, h, hf => by
    simp only [shapes] at h
    split at h
    · rename_i a h1 h2
      split at h
      · rename_i b h3 h4
        simp only [Option.some.injEq] at h
        subst h
        have e1 := nbeq h2
        have e2 := nbeq h3
        have k1 := hf f (List.mem_cons_self ..) a h1
        rw [e1, ← e2] at k1
        have k2 := shapes_read r (off + a.length) b h4 fun g hg => hf g (List.mem_cons_of_mem _ hg)
        rw [List.length_append, List.take_add, List.drop_drop]
        exact k1.append k2
      · cases h
    · cases h

theorem shape_read : ∀ (d : Nat) (t : Nat) (ss : List Sh), shapeOf P d t = some ss → ∀ (fuel : Nat) (cs : List Value) (x : DataW H × List MemPlace), DataW.trod enc P w base sp held fuel t cs = some x → RShl w ss cs
  | 0, t, ss, h, _, _, _, _ => by cases h
  | d + 1, t, ss, h, fuel, cs, x, hx => by
    cases fuel with
    | zero => cases hx
    | succ fuel =>
      simp only [shapeOf] at h
      split at h
      · rename_i hu
        simp only [Option.some.injEq] at h
        subst h
        unfold DataW.trod at hx
        rw [hu] at hx
        split at hx <;> first | (rename_i heq; cases heq; done) | (cases hx; done) | skip
        exact ⟨⟨_, rfl⟩, trivial⟩
      · rename_i k hu
        simp only [Option.some.injEq] at h
        subst h
        unfold DataW.trod at hx
        rw [hu] at hx
        split at hx <;> first | (rename_i heq; cases heq; done) | (cases hx; done) | skip
        rename_i heq
        simp only [Option.some.injEq, TypeDesc.int.injEq] at heq
        subst heq
        split at hx
        · rename_i hk
          obtain ⟨rfl, hw⟩ := hk
          simp only [Lit.wf, Bool.and_eq_true, decide_eq_true_eq] at hw
          exact ⟨⟨_, rfl, hw.1, hw.2⟩, trivial⟩
        · cases hx
      · rename_i hu
        simp only [Option.some.injEq] at h
        subst h
        unfold DataW.trod at hx
        rw [hu] at hx
        split at hx <;> first | (rename_i heq; cases heq; done) | (cases hx; done) | skip
        rename_i heq
        split at hx
        · rename_i hs
          exact ⟨⟨_, rfl, hs⟩, trivial⟩
        · cases hx
      · rename_i e hu
        split at h
        · rename_i s hs
          split at h
          · rename_i hb
            rw [Bool.and_eq_true] at hb
            have hl := nbeq hb.1
            have h1 := nble hb.2
            simp only [Option.some.injEq] at h
            subst h
            unfold DataW.trod at hx
            rw [hu] at hx
            split at hx <;> first | (rename_i heq; cases heq; done) | (cases hx; done) | skip
            · exact ⟨.inl rfl, trivial⟩
            · rename_i e' a len cap heq
              simp only [Option.some.injEq, TypeDesc.slice.injEq] at heq
              subst heq
              dsimp only at hx
              split at hx
              · rename_i hc
                obtain ⟨_, c2, c3⟩ := hc
                obtain ⟨elems, he, _⟩ := Option.bind_eq_some_iff.1 hx
                refine ⟨.inr ⟨a, len, cap, rfl, c2, c3, fun hpos => ?_⟩, trivial⟩
                have at' : ∀ i, i < len → ∃ cs y, cs.length = P.cellsOf e ∧ (∀ j, j < P.cellsOf e → w.cell? ((a.add (i * P.cellsOf e)).add j) = cs[j]?) ∧ DataW.trod enc P w base sp held fuel e cs = some y := fun i hi => by
                  obtain ⟨y, hy⟩ : ∃ y, (w.cells? base (a.add (i * P.cellsOf e)) (P.cellsOf e)).bind (DataW.trod enc P w base sp held fuel e) = some y := by
                    have h1 := mapM_some_get he i i (by rw [List.getElem?_range hi])
                    have h2 := mapM_some_length he
                    rw [List.getElem?_eq_getElem (by rw [h2]; simpa using hi)] at h1
                    exact ⟨_, h1⟩
                  obtain ⟨cs, h2, h3⟩ := Option.bind_eq_some_iff.1 hy
                  obtain ⟨_, h4, h5⟩ := World.cells?_some h2
                  exact ⟨cs, y, h4, h5, h3⟩
                have hsp : a.spot = none := by
                  obtain ⟨cs, y, h4, h5, _⟩ := at' 0 hpos
                  have := h5 0 (by omega)
                  rw [List.getElem?_eq_getElem (by omega)] at this
                  have e0 : (a.add (0 * P.cellsOf e)).add 0 = a := by simp [Addr.add]
                  rw [e0] at this
                  exact World.cell?_spot this
                obtain ⟨k, o, q⟩ := a
                simp only at hsp
                subst hsp
                refine ⟨k, o, rfl, fun i hi => ?_⟩
                obtain ⟨cs, y, h4, h5, h6⟩ := at' i hi
                refine RShs.of (shape_read d e s hs fuel cs y h6) fun j v hj => ?_
                have hjlt := (List.getElem?_eq_some_iff.1 hj).1
                have := h5 j (by omega)
                rw [hj, Addr.add_add] at this
                rw [← this, show o + i * s.length + j = o + (i * P.cellsOf e + j) by rw [hl]; omega]
                generalize i * P.cellsOf e + j = q
                unfold Addr.add
                split
                · rename_i h0; subst h0; rfl
                · rfl
              · cases hx
          · cases h
        · cases h
      · rename_i fs hu
        split at h
        · rename_i s hs
          split at h
          · rename_i hb
            have hl := nbeq hb
            simp only [Option.some.injEq] at h
            subst h
            unfold DataW.trod at hx
            rw [hu] at hx
            split at hx <;> first | (rename_i heq; cases heq; done) | (cases hx; done) | (exfalso; simp_all; done) | skip
            rename_i cs1 x1 cs2 fs' heq
            simp only [Option.some.injEq, TypeDesc.struct.injEq] at heq
            subst heq
            split at hx
            · rename_i hlen
              obtain ⟨xs, hxs, _⟩ := Option.map_eq_some_iff.1 hx
              have := shapes_read (P := P) (w := w) (cs := cs1) (rec' := shapeOf P d) fs.toList 0 s hs fun f hf ss hss => by
                obtain ⟨i, hi⟩ := List.mem_iff_getElem?.1 hf
                have h1 := mapM_some_get hxs i f hi
                have h2 := mapM_some_length hxs
                have hlt := (List.getElem?_eq_some_iff.1 hi).1
                rw [List.getElem?_eq_getElem (by rw [h2]; exact hlt)] at h1
                exact shape_read d f.type ss hss fuel _ _ h1
              rw [List.drop_zero, hl, ← hlen, List.take_length] at this
              exact this
            · cases hx
          · cases h
        · cases h
      · cases h
end

end Go.Proofs.YtbobakclbdaepaaGreat.En
/- The engine, part 29: slices that came in; a law's end. -/
namespace Go.Proofs.YtbobakclbdaepaaGreat.En
open Go
set_option linter.unusedVariables false
set_option linter.unusedSimpArgs false

/-- all that there is -/
def zAll (w : World) : Z := fun k o => w.cell? ⟨k, o, none⟩

theorem slice_arg {w : World} {sz : Nat} {ss : List Sh} {α : Type} [Inhabited α] {fs : α → List FV} (hfs : ∀ a, (fs a).length = sz)
    (hx : ∀ k o, RShs w ss k o → ∃ a : α, ∀ (j : Nat) y, (fs a)[j]? = some y → ∃ u, w.cell? ⟨k, o + j, none⟩ = some u ∧ RF (zAll w) y u)
    {v : Value} (h : RSh w (.sl sz ss) v) : ∃ nl n, ∃ x : Nat → α, RF (zAll w) (.fs nl sz n fun i => fs (x i)) v ∧ (nl = true → n = 0) ∧ n ≤ maxLen ∧ (∃ a cap, v = .slice a n cap) := by
  simp only [RSh] at h
  rcases h with rfl | ⟨a, n, cap, rfl, h1, h2, h3⟩
  · exact ⟨true, 0, fun _ => default, .fsn _ _, fun _ => rfl, Nat.zero_le _, _, _, rfl⟩
  · rcases Nat.eq_zero_or_pos n with rfl | hpos
    · exact ⟨false, 0, fun _ => default, .fs0 _ _ _ _, (fun h => by cases h), Nat.zero_le _, _, _, rfl⟩
    · obtain ⟨k, o, rfl, hs⟩ := h3 hpos
      have hc : ∀ i, i < n → ∃ a : α, ∀ (j : Nat) y, (fs a)[j]? = some y → ∃ u, w.cell? ⟨k, o + i * sz + j, none⟩ = some u ∧ RF (zAll w) y u := fun i hi => hx k (o + i * sz) (hs i hi)
      refine ⟨false, n, fun i => if hi : i < n then Classical.choose (hc i hi) else default, ?_, (fun h => by cases h), by omega, _, _, rfl⟩
      have key : ∀ i j, i < n → j < sz → ∃ u, w.cell? ⟨k, o + (i * sz + j), none⟩ = some u ∧ u.oneCell' = true ∧
          ∀ y, (fs (if hi : i < n then Classical.choose (hc i hi) else default))[j]? = some y → RF (zAll w) y u := fun i j hi hj => by
        have hcs := Classical.choose_spec (hc i hi)
        rw [dif_pos hi]
        have hlt : j < (fs (Classical.choose (hc i hi))).length := by rw [hfs]; exact hj
        obtain ⟨u, h4, h5⟩ := hcs j _ (List.getElem?_eq_getElem hlt)
        refine ⟨u, by rw [← Nat.add_assoc]; exact h4, h5.one, fun y hy => ?_⟩
        rw [List.getElem?_eq_getElem hlt] at hy
        simp only [Option.some.injEq] at hy
        rw [← hy]; exact h5
      refine .fss sz n _ k o cap (fun i j => ((w.cell? ⟨k, o + (i * sz + j), none⟩).getD undef)) h1 (fun i j hi hj => ?_) (fun i j x hi hj hx' => ?_) (fun i j hi hj => ?_)
      · obtain ⟨u, h4, _, _⟩ := key i j hi hj
        simp only [zAll, h4, Option.getD_some]
      · obtain ⟨u, h4, _, h6⟩ := key i j hi hj
        simp only [h4, Option.getD_some]
        exact h6 x hx'
      · obtain ⟨u, h4, h5, _⟩ := key i j hi hj
        simp only [h4, Option.getD_some]
        exact h5

/-- a law that comes to true -/
theorem law_true {P : Program} {G : Ctx} (hG : CtxOk P G) (hK : KnownOk P G) {wr : List Nat} {n g : Nat} {args : List AV} {w : World} {vs : Array Value} (ha : RAs noFn 0 (zAll w) args vs.toList)
    (h : (evCallW wr G n g args [] 0).res = some (out0 (.v (AB true)))) :
    Calls P g vs w fun e w' => e = .returned (.bool true) ∧ Go.RowKit.Below w.heap.size w w' := by
  refine evCallW_ok hG hK h noFn (zAll w) w vs (Rel.seen ⟨fun k o v h => h⟩) ha _ fun f' z' w' v' hp hv' => ⟨?_, hp.below⟩
  rw [lit_ok hv']

end Go.Proofs.YtbobakclbdaepaaGreat.En
