/- The engine, part 25: calls that are known, told of blocks 0, 1, .. alone. -/
import Derived.Test.YtbobakclbdaepaaGreatF1
namespace Go.Proofs.YtbobakclbdaepaaGreat.En
open Go
set_option linter.unusedVariables false
set_option linter.unusedSimpArgs false

/-- what is known of a call -/
structure SumOk (P : Program) (g : Nat) (F : List AV → Heap → Nat → T CallOut) : Prop where
  to : ∀ args H nx r, (F args H nx).res = some r → CallTo P g args H nx r
  keeps : ∀ args H nx, (F args H nx).Every fun o => nx ≤ o.nx ∧ ∀ b, b < nx → b ∉ o.wr → o.H.get b = H.get b

def nodupB : List Nat → Bool
  | [] => true
  | x :: r => !(r.any (Nat.beq x)) && nodupB r

theorem nodupB_ok : ∀ (l : List Nat), nodupB l = true → l.Nodup
  | [], _ => List.nodup_nil
  | x :: r, h => by
    simp only [nodupB, Bool.and_eq_true, Bool.not_eq_true'] at h
    refine List.nodup_cons.2 ⟨fun hx => ?_, nodupB_ok r h.2⟩
    rw [(anyBeq r x).2 hx] at h
    cases h.1

def okRef (m : Nat) (news : List Nat) (c : Nat) : Bool := Nat.ble (c + 1) m || news.any (Nat.beq c)

theorem okRef_ok {m : Nat} {news : List Nat} {c : Nat} (h : okRef m news c = true) : c < m ∨ c ∈ news := by
  simp only [okRef, Bool.or_eq_true] at h
  rcases h with h | h
  · exact .inl (nble h)
  · exact .inr ((anyBeq news c).1 h)

def okNames (m nx : Nat) (news : List Nat) (H : Heap) : Bool :=
  Nat.ble m nx && (news.all fun c => Nat.ble m c && Nat.ble (c + 1) nx) && nodupB news && ((List.range m ++ news).all fun b => (H.get b).refs.all (okRef m news))

theorem okNames_ok {m nx : Nat} {news : List Nat} {H : Heap} (h : okNames m nx news H = true) : Names m nx news H := by
  simp only [okNames, Bool.and_eq_true, List.all_eq_true] at h
  obtain ⟨⟨⟨h1, h2⟩, h3⟩, h4⟩ := h
  refine ⟨nble h1, fun c hc => ⟨nble (h2 c hc).1, nble (h2 c hc).2⟩, nodupB_ok _ h3, fun b hb c hc => okRef_ok (h4 b ?_ c hc)⟩
  rw [List.mem_append, List.mem_range]
  exact hb

/-- a state with its blocks from m on named anew, and what no one sees dropped -/
def canonSt (m : Nat) (live : List Nat) (s : St) : Option St :=
  pruneK s.sl live fun sl =>
    let news := (reach s.H 4000 ((sl.flatMap fun x => x.2.refs) ++ (List.range m).flatMap fun b => (s.H.get b).refs) []).reverse.filter (Nat.ble m)
    match okNames m s.nx news s.H && sl.all fun x => x.2.refs.all (okRef m news) with
    | true => some ⟨sl.map fun x => (x.1, x.2.ren (reName m news)), renH m news s.H, m + news.length, s.esc, s.base, s.wr⟩
    | false => none

theorem Slots.get_mem : ∀ (l : Slots) (t : Nat), l.get t = .top ∨ (t, l.get t) ∈ l
  | [], t => .inl rfl
  | (k, v) :: r, t => by
    rw [Slots.get_cons]
    by_cases e : k = t
    · subst e; simp
    · rw [if_neg e]
      rcases Slots.get_mem r t with h | h
      · exact .inl h
      · exact .inr (List.mem_cons_of_mem _ h)

theorem canonSt_ok {m : Nat} {live : List Nat} {s s' : St} (h : canonSt m live s = some s') : StLe m s s' := by
  unfold canonSt at h
  obtain ⟨sl, h1, h2⟩ := pruneK_eq (β := Option St) s.sl live
  rw [h1] at h
  dsimp only at h
  split at h
  · rename_i hok
    rw [Bool.and_eq_true] at hok
    obtain ⟨hn, hs⟩ := hok
    have hn := okNames_ok hn
    simp only [Option.some.injEq] at h
    subst h
    refine (StLe.slots hn.hm (sl := sl) fun t => ?_).trans (StLe.ren (s := { s with sl := sl }) hn fun t c hc => ?_)
    · rw [h2]
      split
      · exact .inr rfl
      · exact .inl rfl
    · simp only at hc
      rw [List.all_eq_true] at hs
      rcases Slots.get_mem sl t with e | e
      · rw [e] at hc; cases hc
      · have := hs _ e
        rw [List.all_eq_true] at this
        exact okRef_ok (this c hc)
  · cases h

/-! calls -/

def backName (ids : List Nat) (nx : Nat) (c : Nat) : Nat := match Nat.ble (c + 1) ids.length with | true => ids.getD c 0 | false => nx + (c - ids.length)

def backH (ids : List Nat) (nx : Nat) (n : Nat) (H : Heap) : Heap := (H.filter fun e => Nat.ble (e.1 + 1) n).map fun e => (backName ids nx e.1, e.2.ren (backName ids nx))

/-- do the blocks that were written lead to younger ones, and did not before? -/
def escB (ids : List Nat) (H0 : Heap) (o : CallOut) : Bool :=
  o.wr.any fun i => Nat.ble (i + 1) ids.length && (o.H.get i).refs.any fun c => !(Nat.ble (c + 1) ids.length && (Nat.ble (ids.getD c 0) (ids.getD i 0) || (H0.get i).refs.any (Nat.beq c)))

def canonSum (F : List AV → Heap → Nat → T CallOut) (args : List AV) (H : Heap) (nx : Nat) : T CallOut :=
  let ids := (reach H 4000 (args.flatMap AV.refs) []).reverse
  match okNames 0 nx ids H && (args.flatMap AV.refs).all (okRef 0 ids) with
  | false => .bad
  | true =>
    let H0 := renH 0 ids H
    (F (args.map (AV.ren (reName 0 ids))) H0 ids.length).bind fun o =>
      .ret ⟨o.v.ren (backName ids nx), backH ids nx o.nx o.H ++ (H.filter fun e => !(ids.any (Nat.beq e.1))), nx + (o.nx - ids.length), escB ids H0 o,
        (o.wr.filter fun i => Nat.ble (i + 1) ids.length).map fun i => ids.getD i 0⟩

theorem RA.refs_lt {f : Fn} {nx : Nat} {z : Z} {x : AV} {v : Value} (h : RA f nx z x v) : ∀ c ∈ x.refs, c < nx := by
  intro c hc
  obtain ⟨y, hy, hc⟩ := List.mem_flatMap.1 hc
  obtain ⟨i, hi⟩ := List.mem_iff_getElem?.1 hy
  have hl := h.cells
  have hlt : i < v.cells.toList.length := by rw [← hl.1]; exact (List.getElem?_eq_some_iff.1 hi).1
  exact (hl.2 i y _ hi (List.getElem?_eq_getElem hlt)).refs_lt c hc

theorem RS.refs_lt {f : Fn} {nx : Nat} {z : Z} {x : SV} {v : Value} (h : RS f nx z x v) : ∀ c ∈ x.refs, c < nx := by
  cases x with
  | v x => exact RA.refs_lt h
  | tup l =>
    obtain ⟨vs, rfl, h⟩ := h
    intro c hc
    obtain ⟨y, hy, hc⟩ := List.mem_flatMap.1 hc
    obtain ⟨i, hi⟩ := List.mem_iff_getElem?.1 hy
    have hlt : i < vs.toList.length := by rw [← h.1]; exact (List.getElem?_eq_some_iff.1 hi).1
    exact (h.2 i y _ hi (List.getElem?_eq_getElem hlt)).refs_lt c hc
  | top => intro c hc; cases hc

theorem BOk.refs_lt {f : Fn} {nx : Nat} {z : Z} {w : World} {b : Nat} {o : Ob} (h : BOk f nx z w b o) : ∀ c ∈ o.refs, c < nx := by
  intro c hc
  cases o with
  | cells l =>
    obtain ⟨y, hy, hc⟩ := List.mem_flatMap.1 hc
    obtain ⟨i, hi⟩ := List.mem_iff_getElem?.1 hy
    obtain ⟨_, v, _, h3⟩ := h.cell 0 0 i y (by simp [Ob.at, hi])
    exact h3.refs_lt c hc
  | arr => cases hc
  | map => cases hc
  | dead => cases hc

theorem get_backH {ids : List Nat} {nx n : Nat} : ∀ (H : Heap) (b : Nat), ((backH ids nx n H).get b).live → ∃ i, i < n ∧ backName ids nx i = b ∧ (backH ids nx n H).get b = (H.get i).ren (backName ids nx)
  | [], b, hl => hl.elim
  | (k, o) :: r, b, hl => by
    unfold backH at hl ⊢
    rw [List.filter_cons] at hl ⊢
    by_cases hk : Nat.ble (k + 1) n = true
    · simp only [hk, if_true, List.map_cons] at hl ⊢
      rw [Heap.get_cons] at hl ⊢
      by_cases e : backName ids nx k = b
      · rw [if_pos e]
        refine ⟨k, nble hk, e, ?_⟩
        rw [Heap.get_cons, if_pos rfl]
      · rw [if_neg e] at hl ⊢
        obtain ⟨i, h1, h2, h3⟩ := get_backH r b hl
        refine ⟨i, h1, h2, ?_⟩
        rw [Heap.get_cons, if_neg (fun (e' : k = i) => e (e' ▸ h2))]
        exact h3
    · simp only [hk] at hl ⊢
      obtain ⟨i, h1, h2, h3⟩ := get_backH r b hl
      refine ⟨i, h1, h2, ?_⟩
      rw [Heap.get_cons, if_neg (fun (e' : k = i) => hk (by rw [e']; exact Nat.ble_eq_true_of_le h1))]
      exact h3

/-- names back -/
structure Back (ids : List Nat) (nx : Nat) : Prop where
  lt : ∀ c ∈ ids, c < nx
  nodup : ids.Nodup

theorem Back.old {ids : List Nat} {nx : Nat} (h : Back ids nx) {i : Nat} (hi : i < ids.length) : backName ids nx i = ids[i] ∧ ids[i] < nx := by
  have : Nat.ble (i + 1) ids.length = true := Nat.ble_eq_true_of_le hi
  refine ⟨?_, h.lt _ (List.getElem_mem hi)⟩
  simp only [backName, this]
  rw [List.getD_eq_getElem?_getD, List.getElem?_eq_getElem hi]
  rfl

theorem Back.new {ids : List Nat} {nx : Nat} {i : Nat} (hi : ids.length ≤ i) : backName ids nx i = nx + (i - ids.length) := by
  have : Nat.ble (i + 1) ids.length = false := ble_false (by omega)
  simp only [backName, this]

theorem Back.inj {ids : List Nat} {nx : Nat} (h : Back ids nx) {i j : Nat} (e : backName ids nx i = backName ids nx j) : i = j := by
  rcases Nat.lt_or_ge i ids.length with hi | hi <;> rcases Nat.lt_or_ge j ids.length with hj | hj
  · rw [(h.old hi).1, (h.old hj).1] at e
    exact (List.getElem_inj h.nodup).1 e
  · have := (h.old hi).2
    rw [(h.old hi).1, Back.new hj] at e
    omega
  · have := (h.old hj).2
    rw [(h.old hj).1, Back.new hi] at e
    omega
  · rw [Back.new hi, Back.new hj] at e
    omega

theorem Back.un {ids : List Nat} {nx : Nat} (h : Back ids nx) {c : Nat} (hc : c ∈ ids) : backName ids nx (reName 0 ids c) = c := by
  have h0 : Nat.ble (c + 1) 0 = false := rfl
  obtain ⟨h1, h2⟩ := place_get ids c hc
  have : reName 0 ids c = place ids c := by simp only [reName, h0, Nat.zero_add]
  rw [this, (h.old h1).1]
  rw [List.getD_eq_getElem?_getD, List.getElem?_eq_getElem h1] at h2
  exact h2

theorem CV.ren_ren {ρ σ : Nat → Nat} {x : CV} (h : ∀ c ∈ x.refs, σ (ρ c) = c) : (x.ren ρ).ren σ = x := by
  cases x with
  | f x => rfl
  | ptr b => simp only [CV.ren, h b (by simp [CV.refs])]
  | sl nil b => simp only [CV.ren, h b (by simp [CV.refs])]
  | mp b => simp only [CV.ren, h b (by simp [CV.refs])]
  | fn g l =>
    simp only [CV.ren, CV.fn.injEq, true_and, List.map_map]
    have : ∀ x ∈ l, ((fun x : Nat × Nat × Nat × Nat => (σ x.1, x.2.1, x.2.2.1, x.2.2.2)) ∘ fun x : Nat × Nat × Nat × Nat => (ρ x.1, x.2.1, x.2.2.1, x.2.2.2)) x = id x := fun x hx => by
      simp only [Function.comp, h x.1 (List.mem_map.2 ⟨x, hx, rfl⟩), id]
    rw [List.map_congr_left this, List.map_id]

theorem Ob.ren_ren {ρ σ : Nat → Nat} {o : Ob} (h : ∀ c ∈ o.refs, σ (ρ c) = c) : (o.ren ρ).ren σ = o := by
  cases o with
  | cells l =>
    simp only [Ob.ren, Ob.cells.injEq, List.map_map]
    have : ∀ x ∈ l, (CV.ren σ ∘ CV.ren ρ) x = id x := fun x hx => by
      simp only [Function.comp, id]
      exact CV.ren_ren fun c hc => h c (List.mem_flatMap.2 ⟨x, hx, hc⟩)
    rw [List.map_congr_left this, List.map_id]
  | arr => rfl
  | map => rfl
  | dead => rfl

theorem get_backH_at {ids : List Nat} {nx n : Nat} (h : Back ids nx) : ∀ (H : Heap) (i : Nat), i < n → (backH ids nx n H).get (backName ids nx i) = (H.get i).ren (backName ids nx)
  | [], i, hi => rfl
  | (k, o) :: r, i, hi => by
    unfold backH
    rw [List.filter_cons]
    have ih := get_backH_at h r i hi
    unfold backH at ih
    by_cases hk : Nat.ble (k + 1) n = true
    · simp only [hk, if_true, List.map_cons]
      rw [Heap.get_cons, Heap.get_cons, ih]
      by_cases e : k = i
      · rw [if_pos e, if_pos (by rw [e])]
      · rw [if_neg e, if_neg (fun e' => e (h.inj e'))]
    · simp only [hk]
      rw [Heap.get_cons, if_neg (fun (e' : k = i) => hk (by rw [e']; exact Nat.ble_eq_true_of_le hi))]
      exact ih

theorem get_renH0 {ids : List Nat} {H : Heap} (b : Nat) (hb : b < ids.length) : (renH 0 ids H).get b = (H.get (ids.getD b 0)).ren (reName 0 ids) := by
  unfold renH
  have e : (H.filter fun e => Nat.ble (e.1 + 1) 0) = [] := by
    rw [List.filter_eq_nil_iff]
    intro e _
    simp [Nat.ble]
  rw [e]
  simp only [List.map_nil, List.nil_append]
  rw [get_laid, if_pos ⟨Nat.zero_le _, by omega⟩, Nat.sub_zero]

/-- behind a run on the blocks that are reached: the whole heap -/
theorem framed {H : Heap} {nx : Nat} {ids : List Nat} {o : CallOut} (hn : Names 0 nx ids H) (hk1 : ids.length ≤ o.nx) (hk2 : ∀ b, b < ids.length → b ∉ o.wr → o.H.get b = (renH 0 ids H).get b)
    {f : Fn} {z : Z} {w : World} (hrel : Rel All f nx z w H) {f0 : Fn} {z' : Z} {w' : World} (hp : Post All (fun b => f (unName 0 ids b)) ids.length z w (renH 0 ids H) f0 o.nx z' w' o.H o.esc) :
    ∃ f' : Fn, Post All f nx z w H f' (nx + (o.nx - ids.length)) z' w' (backH ids nx o.nx o.H ++ H.filter fun e => !(ids.any (Nat.beq e.1))) (escB ids (renH 0 ids H) o) ∧
      (∀ c, c < o.nx → Led f0 f' (nx + (o.nx - ids.length)) (backName ids nx) c) ∧ ∀ b, b < nx → f' b = f b := by
  have hB : Back ids nx := ⟨fun c hc => (hn.ge c hc).2, hn.nodup⟩
  have un : ∀ b, b < ids.length → unName 0 ids b = ids.getD b 0 := fun b hb => by simp [unName, Nat.ble]
  have ungetD : ∀ b (hb : b < ids.length), ids.getD b 0 = ids[b] := fun b hb => by rw [List.getD_eq_getElem?_getD, List.getElem?_eq_getElem hb]; rfl
  -- the new places
  let f' : Fn := fun c => if c < nx then f c else f0 (ids.length + (c - nx))
  have hled : ∀ c, c < o.nx → Led f0 f' (nx + (o.nx - ids.length)) (backName ids nx) c := fun c hc => by
    rcases Nat.lt_or_ge c ids.length with hi | hi
    · obtain ⟨e1, e2⟩ := hB.old hi
      refine ⟨?_, by rw [e1]; omega⟩
      simp only [f', e1, e2, if_true]
      rw [hp.ext c hi]
      simp only [un c hi, ungetD c hi]
    · have e1 := Back.new (nx := nx) hi
      refine ⟨?_, by rw [e1]; omega⟩
      simp only [f', e1]
      rw [if_neg (by omega)]
      congr 1
      omega
  have hB0 : ∀ b, b < nx → f' b = f b := fun b hb => by simp only [f', hb, if_true]
  have himg : ∀ k, img All (fun b => f (unName 0 ids b)) (renH 0 ids H) k → img All f H k := by
    rintro k ⟨b, _, hl, e⟩
    obtain ⟨h1, h2⟩ := get_renH hl
    rw [h2, Ob.ren_live] at hl
    exact ⟨_, trivial, hl, e⟩
  -- the frame
  have hfr : ∀ b, Heap.get (H.filter fun e => !(ids.any (Nat.beq e.1))) b = if b ∈ ids then .dead else H.get b := fun b => by
    rw [get_filter (fun b => !(ids.any (Nat.beq b)))]
    by_cases hb : b ∈ ids
    · rw [if_neg (by rw [(anyBeq ids b).2 hb]; simp), if_pos hb]
    · have : ids.any (Nat.beq b) = false := by
        cases hq : ids.any (Nat.beq b) with
        | false => rfl
        | true => exact absurd ((anyBeq ids b).1 hq) hb
      rw [if_pos (by rw [this]; rfl), if_neg hb]
  -- a block behind the call
  have hcase : ∀ b, (Heap.get (backH ids nx o.nx o.H ++ H.filter fun e => !(ids.any (Nat.beq e.1))) b).live →
      (∃ i, i < o.nx ∧ backName ids nx i = b ∧ (o.H.get i).live ∧ Heap.get (backH ids nx o.nx o.H ++ H.filter fun e => !(ids.any (Nat.beq e.1))) b = (o.H.get i).ren (backName ids nx)) ∨
      (b ∉ ids ∧ b < nx ∧ (H.get b).live ∧ Heap.get (backH ids nx o.nx o.H ++ H.filter fun e => !(ids.any (Nat.beq e.1))) b = H.get b) := fun b hl => by
    rcases get_append (backH ids nx o.nx o.H) (H.filter fun e => !(ids.any (Nat.beq e.1))) b with e | ⟨e1, e2⟩
    · rw [e] at hl ⊢
      obtain ⟨i, h1, h2, h3⟩ := get_backH o.H b hl
      refine .inl ⟨i, h1, h2, ?_, h3⟩
      rw [h3, Ob.ren_live] at hl
      exact hl
    · rw [e2, hfr] at hl ⊢
      by_cases hb : b ∈ ids
      · rw [if_pos hb] at hl; exact hl.elim
      · rw [if_neg hb] at hl ⊢
        exact .inr ⟨hb, (hrel.own b trivial hl).1, hl, rfl⟩
  have hnot : ∀ b, b ∉ ids → b < nx → (H.get b).live → ¬ img All (fun b => f (unName 0 ids b)) (renH 0 ids H) (f b).k := by
    rintro b hb hlt hl ⟨c, _, hcl, e⟩
    obtain ⟨h1, h2⟩ := get_renH hcl
    rw [h2, Ob.ren_live] at hcl
    rw [Nat.zero_add] at h1
    refine hrel.inj _ b trivial trivial hcl hl (fun e' => hb ?_) e
    rw [← e', un c h1, ungetD c h1]
    exact List.getElem_mem h1
  have hext : Ext nx f f' := fun b hb => hB0 b hb
  refine ⟨f', ⟨by omega, hext, hp.zle, fun k p v hv => (hp.znew k p v hv).imp id (Or.imp id (himg k)), fun b _ hs => absurd trivial hs, fun b hb hl => ?_, ⟨fun b _ hl => ?_, fun b c _ _ hl hl' hne => ?_, hp.rel.zok⟩, fun b hb hl => ?_, hp.fr.less fun x _ => himg x, fun he m' hm' hN b l hb hg x hx => ?_⟩, hled, hB0⟩
  · -- dead
    rcases hcase b hl with ⟨i, h1, h2, h3, _⟩ | ⟨_, _, h3, _⟩
    · rcases Nat.lt_or_ge i ids.length with hi | hi
      · have := hp.dead i hi h3
        rw [get_renH0 i hi, Ob.ren_live, ungetD i hi] at this
        rw [← h2, (hB.old hi).1]
        exact this
      · rw [Back.new hi] at h2; omega
    · exact h3
  · -- own
    rcases hcase b hl with ⟨i, h1, h2, h3, h4⟩ | ⟨h1, h2, h3, h4⟩
    · obtain ⟨_, hbok⟩ := hp.all.own i trivial h3
      refine ⟨by rw [← h2]; exact (hled i h1).2, ?_⟩
      rw [h4]
      exact hbok.ren (by rw [← h2]; exact (hled i h1).1) fun c hc => hled c (hbok.refs_lt c hc)
    · refine ⟨by omega, ?_⟩
      rw [h4]
      exact (hrel.own b trivial h3).2.kept h2 hp.fr (hnot b h1 h2 h3) hext (by omega) hp.zle hp.znew
  · -- apart
    have side : ∀ b c i, b ∉ ids → b < nx → (H.get b).live → i < o.nx → backName ids nx i = c → (o.H.get i).live → (f' b).k ≠ (f' c).k := by
      intro b c i h1 h2 h3 h4 h5 h6 he
      rw [hB0 b h2, ← h5, (hled i h4).1] at he
      rcases Nat.lt_or_ge i ids.length with hi | hi
      · rw [hp.ext i hi] at he
        exact hnot b h1 h2 h3 ⟨i, trivial, hp.dead i hi h6, he.symm⟩
      · rcases hp.fresh i hi h6 with h7 | h7
        · have := (hrel.own b trivial h3).2.lt
          omega
        · rw [← he] at h7
          exact hnot b h1 h2 h3 h7
    rcases hcase b hl with ⟨i, h1, h2, h3, _⟩ | ⟨h1, h2, h3, _⟩ <;> rcases hcase c hl' with ⟨j, k1, k2, k3, _⟩ | ⟨k1, k2, k3, _⟩
    · rw [← h2, ← k2, (hled i h1).1, (hled j k1).1]
      exact hp.all.inj i j trivial trivial h3 k3 fun e => hne (by rw [← h2, ← k2, e])
    · exact (side c b i k1 k2 k3 h1 h2 h3).symm
    · exact side b c j h1 h2 h3 k1 k2 k3
    · rw [hB0 b h2, hB0 c k2]
      exact hrel.inj b c trivial trivial h3 k3 hne
  · -- new
    rcases hcase b hl with ⟨i, h1, h2, h3, _⟩ | ⟨_, h2, _, _⟩
    · rcases Nat.lt_or_ge i ids.length with hi | hi
      · have := (hB.old hi).2
        rw [(hB.old hi).1] at h2
        omega
      · rw [← h2, (hled i h1).1]
        exact (hp.fresh i hi h3).imp id (himg _)
    · omega
  · -- nothing new is reached
    have hl : (Heap.get (backH ids nx o.nx o.H ++ H.filter fun e => !(ids.any (Nat.beq e.1))) b).live := by rw [hg]; trivial
    rcases hcase b hl with ⟨i, h1, h2, h3, h4⟩ | ⟨h1, h2, h3, h4⟩
    · rcases Nat.lt_or_ge i ids.length with hi | hi
      · rw [hg] at h4
        have hbi : ids.getD i 0 = b := by rw [ungetD i hi, ← (hB.old hi).1]; exact h2
        cases hoi : o.H.get i with
        | cells l0 =>
          rw [hoi] at h4
          simp only [Ob.ren, Ob.cells.injEq] at h4
          subst h4
          obtain ⟨y, hy, rfl⟩ := List.mem_map.1 hx
          have hrefs : ∀ c ∈ y.refs, c ∈ (o.H.get i).refs := fun c hc => by rw [hoi]; exact List.mem_flatMap.2 ⟨y, hy, hc⟩
          have hold : ∀ c, c ∈ ((renH 0 ids H).get i).refs → backName ids nx c < m' := fun c hc => by
            rw [get_renH0 i hi, hbi] at hc
            have hlH : (H.get b).live := by
              have := hp.dead i hi h3
              rwa [get_renH0 i hi, Ob.ren_live, hbi] at this
            cases hHb : H.get b with
            | cells l1 =>
              rw [hHb] at hc
              simp only [Ob.ren, Ob.refs] at hc
              obtain ⟨y1, hy1, hc1⟩ := List.mem_flatMap.1 hc
              obtain ⟨y0, hy0, rfl⟩ := List.mem_map.1 hy1
              have hbnd := beyond_refs.1 (hN b l1 hb hHb y0 hy0)
              have : ∃ c0 ∈ y0.refs, c = reName 0 ids c0 := by
                cases y0 with
                | f x => cases hc1
                | ptr b => simp only [CV.ren, CV.refs, List.mem_singleton] at hc1; exact ⟨b, by simp [CV.refs], hc1⟩
                | sl nil b => simp only [CV.ren, CV.refs, List.mem_singleton] at hc1; exact ⟨b, by simp [CV.refs], hc1⟩
                | mp b => simp only [CV.ren, CV.refs, List.mem_singleton] at hc1; exact ⟨b, by simp [CV.refs], hc1⟩
                | fn g l =>
                  simp only [CV.ren, CV.refs, List.map_map, List.mem_map] at hc1
                  obtain ⟨q, hq, rfl⟩ := hc1
                  exact ⟨q.1, by simp only [CV.refs, List.mem_map]; exact ⟨q, hq, rfl⟩, rfl⟩
              obtain ⟨c0, hc0, rfl⟩ := this
              have hin : c0 ∈ ids := by
                have := hn.refs b (.inr (by rw [← hbi, ungetD i hi]; exact List.getElem_mem hi)) c0 (by rw [hHb]; exact List.mem_flatMap.2 ⟨y0, hy0, hc0⟩)
                exact this.resolve_left (by omega)
              rw [hB.un hin]
              exact hbnd c0 hc0
            | arr => rw [hHb] at hc; cases hc
            | map => rw [hHb] at hc; cases hc
            | dead => rw [hHb] at hlH; exact hlH.elim
          rw [beyond_refs]
          intro c hc
          have : ∃ c0 ∈ y.refs, c = backName ids nx c0 := by
            cases y with
            | f x => cases hc
            | ptr b => simp only [CV.ren, CV.refs, List.mem_singleton] at hc; exact ⟨b, by simp [CV.refs], hc⟩
            | sl nil b => simp only [CV.ren, CV.refs, List.mem_singleton] at hc; exact ⟨b, by simp [CV.refs], hc⟩
            | mp b => simp only [CV.ren, CV.refs, List.mem_singleton] at hc; exact ⟨b, by simp [CV.refs], hc⟩
            | fn g l =>
              simp only [CV.ren, CV.refs, List.map_map, List.mem_map] at hc
              obtain ⟨q, hq, rfl⟩ := hc
              exact ⟨q.1, by simp only [CV.refs, List.mem_map]; exact ⟨q, hq, rfl⟩, rfl⟩
          obtain ⟨c0, hc0, rfl⟩ := this
          by_cases hw : i ∈ o.wr
          · simp only [escB, List.any_eq_false] at he
            have h5 := he i hw
            rw [Nat.ble_eq_true_of_le hi, Bool.true_and, Bool.not_eq_true, List.any_eq_false] at h5
            have h6 := h5 c0 (hrefs c0 hc0)
            rw [Bool.not_eq_true, Bool.not_eq_false', Bool.and_eq_true, Bool.or_eq_true] at h6
            obtain ⟨h7, h8⟩ := h6
            rcases h8 with h8 | h8
            · have h9 := nble h8
              rw [(hB.old (nble h7)).1]
              rw [ungetD c0 (nble h7), hbi] at h9
              omega
            · exact hold c0 ((anyBeq _ _).1 h8)
          · have := hk2 i hi hw
            exact hold c0 (by rw [← this]; exact hrefs c0 hc0)
        | arr => rw [hoi] at h4; cases h4
        | map => rw [hoi] at h4; cases h4
        | dead => rw [hoi] at h4; cases h4
      · rw [Back.new hi] at h2; omega
    · rw [hg] at h4
      exact hN b l hb h4.symm x hx

theorem canonSum_ok {P : Program} {g : Nat} {F : List AV → Heap → Nat → T CallOut} (h : SumOk P g F) : SumOk P g (canonSum F) := by
  refine ⟨fun args H nx r hr => ?_, fun args H nx => ?_⟩
  · unfold canonSum at hr
    dsimp only at hr
    generalize hids : (reach H 4000 (args.flatMap AV.refs) []).reverse = ids at hr
    split at hr
    · exact (T.bad_some hr).elim
    rename_i hok
    rw [Bool.and_eq_true] at hok
    have hn := okNames_ok hok.1
    have hargs : ∀ c ∈ args.flatMap AV.refs, c < 0 ∨ c ∈ ids := fun c hc => okRef_ok (List.all_eq_true.1 hok.2 c hc)
    obtain ⟨o, ho, hr⟩ := T.bind_some hr
    have := T.ret_some hr
    subst this
    have hk := (h.keeps (args.map (AV.ren (reName 0 ids))) (renH 0 ids H) ids.length).res ho
    obtain ⟨hk1, hk2⟩ := hk
    intro f z w vs hrel hra R hR
    have hrel0 := hrel.ren hn
    rw [Nat.zero_add] at hrel0
    refine h.to _ _ _ o ho (fun b => f (unName 0 ids b)) z w vs hrel0 (hra.ren fun c hc => by have := hn.led f (hargs c hc); rwa [Nat.zero_add] at this) R fun f0 z' w' v' hp hv => ?_
    obtain ⟨f', h1, h2, _⟩ := framed hn hk1 hk2 hrel hp
    exact hR f' z' w' v' h1 (hv.ren fun c hc => h2 c (hv.refs_lt c hc))
  · unfold canonSum
    dsimp only
    generalize hids : (reach H 4000 (args.flatMap AV.refs) []).reverse = ids
    split
    · trivial
    rename_i hok
    rw [Bool.and_eq_true] at hok
    have hn := okNames_ok hok.1
    have hB : Back ids nx := ⟨fun c hc => (hn.ge c hc).2, hn.nodup⟩
    refine T.Every.bind2 (fun o ho => ?_) (h.keeps _ _ _)
    refine ⟨by simp only; omega, fun b hb hw => ?_⟩
    simp only at hw ⊢
    have ungetD : ∀ b (hb : b < ids.length), ids.getD b 0 = ids[b] := fun b hb => by rw [List.getD_eq_getElem?_getD, List.getElem?_eq_getElem hb]; rfl
    have hfr : Heap.get (H.filter fun e => !(ids.any (Nat.beq e.1))) b = if b ∈ ids then .dead else H.get b := by
      rw [get_filter (fun b => !(ids.any (Nat.beq b)))]
      by_cases hb : b ∈ ids
      · rw [if_neg (by rw [(anyBeq ids b).2 hb]; simp), if_pos hb]
      · have : ids.any (Nat.beq b) = false := by
          cases hq : ids.any (Nat.beq b) with
          | false => rfl
          | true => exact absurd ((anyBeq ids b).1 hq) hb
        rw [if_pos (by rw [this]; rfl), if_neg hb]
    by_cases hin : b ∈ ids
    · obtain ⟨i, hi, rfl⟩ := List.getElem_of_mem hin
      have hiw : i ∉ o.wr := fun hq => hw (List.mem_map.2 ⟨i, List.mem_filter.2 ⟨hq, Nat.ble_eq_true_of_le hi⟩, ungetD i hi⟩)
      have e1 := ho.2 i hi hiw
      have e2 := get_backH_at hB o.H i (Nat.lt_of_lt_of_le hi ho.1)
      rw [(hB.old hi).1, e1, get_renH0 i hi, ungetD i hi, Ob.ren_ren (fun c hc => hB.un ((hn.refs _ (.inr hin) c hc).resolve_left (by omega)))] at e2
      rcases get_append (backH ids nx o.nx o.H) (H.filter fun e => !(ids.any (Nat.beq e.1))) ids[i] with e | ⟨e3, e4⟩
      · rw [e, e2]
      · rw [e4, hfr, if_pos hin, ← e2, e3]
    · have hd : ¬ ((backH ids nx o.nx o.H).get b).live := fun hl => by
        obtain ⟨i, h1, h2, _⟩ := get_backH o.H b hl
        rcases Nat.lt_or_ge i ids.length with hi | hi
        · rw [(hB.old hi).1] at h2
          exact hin (h2 ▸ List.getElem_mem hi)
        · rw [Back.new hi] at h2; omega
      rcases get_append (backH ids nx o.nx o.H) (H.filter fun e => !(ids.any (Nat.beq e.1))) b with e | ⟨e3, e4⟩
      · -- the part has no such block at all
        have none : ∀ (K : Heap), Heap.get (backH ids nx o.nx K) b = .dead := by
          intro K
          induction K with
          | nil => rfl
          | cons x K ih =>
            obtain ⟨k, q⟩ := x
            unfold backH
            rw [List.filter_cons]
            unfold backH at ih
            by_cases hk : Nat.ble (k + 1) o.nx = true
            · simp only [hk, if_true, List.map_cons]
              rw [Heap.get_cons, if_neg, ih]
              intro h2
              rcases Nat.lt_or_ge k ids.length with hi | hi
              · rw [(hB.old hi).1] at h2
                exact hin (h2 ▸ List.getElem_mem hi)
              · rw [Back.new hi] at h2; omega
            · simp only [hk]
              exact ih
        have app : ∀ (A B : Heap), Heap.get A b = .dead → (∀ e ∈ A, e.1 ≠ b) → Heap.get (A ++ B) b = B.get b := fun A B _ h => get_append_out A B b h
        rw [get_append_out _ _ b, hfr, if_neg hin]
        intro e he
        unfold backH at he
        obtain ⟨x, hx, rfl⟩ := List.mem_map.1 he
        have hx' := List.mem_filter.1 hx
        intro h2
        simp only at h2
        rcases Nat.lt_or_ge x.1 ids.length with hi | hi
        · rw [(hB.old hi).1] at h2
          exact hin (h2 ▸ List.getElem_mem hi)
        · rw [Back.new hi] at h2; omega
      · rw [e4, hfr, if_neg hin]

end Go.Proofs.YtbobakclbdaepaaGreat.En
