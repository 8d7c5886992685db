/- The engine, part 34: loops that are known, told of the blocks alone that their slots reach. -/
import Derived.Test.YtbobakclbdaepaaGreatF10
namespace Go.Proofs.YtbobakclbdaepaaGreat.En
open Go
set_option linter.unusedVariables false
set_option linter.unusedSimpArgs false

theorem get_renS (ρ : Nat → Nat) : ∀ (l : Slots) (t : Nat), Slots.get (l.map fun x => (x.1, x.2.ren ρ)) t = (l.get t).ren ρ
  | [], t => rfl
  | (k, v) :: r, t => by
    rw [List.map_cons, Slots.get_cons, Slots.get_cons]
    split
    · rfl
    · exact get_renS ρ r t

def slRefs (sl : Slots) : List Nat := sl.flatMap fun x => x.2.refs

theorem slRefs_get {sl : Slots} {t c : Nat} (h : c ∈ (sl.get t).refs) : c ∈ slRefs sl := by
  rcases Slots.get_mem sl t with e | e
  · rw [e] at h; cases h
  · exact List.mem_flatMap.2 ⟨_, e, h⟩

/-- what is known of a loop: of its slots, and of what they reach, renamed -/
noncomputable def mkCodeF (live : List Nat) (c0 : Code) (N0 : Nat) (B : Slots → Heap → Nat → T (Ex × Slots × Heap × Nat × Bool)) (N : Nat) (c : Code) (st : St) : T (Ex × St) :=
  .need (pb (c = c0 ∧ N = N0)) (pruneK st.sl live fun sl =>
    let ids := (reach st.H 4000 (slRefs sl) []).reverse
    match okNames 0 st.nx ids st.H && (slRefs sl).all (okRef 0 ids) with
    | false => .bad
    | true => (B (sl.map fun x => (x.1, x.2.ren (reName 0 ids))) (renH 0 ids st.H) ids.length).bind fun x => match Nat.ble ids.length x.2.2.2.1 with
      | true => .ret (x.1, ⟨x.2.1.map fun y => (y.1, y.2.ren (backName ids st.nx)), backH ids st.nx x.2.2.2.1 x.2.2.1 ++ st.H.filter fun e => !(ids.any (Nat.beq e.1)), st.nx + (x.2.2.2.1 - ids.length),
          st.esc || escB ids (renH 0 ids st.H) ⟨.top, x.2.2.1, x.2.2.2.1, x.2.2.2.2, List.range ids.length⟩, st.base, ids ++ st.wr⟩)
      | false => .bad)

theorem mkCodeF_ok {P : Program} {live : List Nat} {c0 : Code} {N0 : Nat} {B : Slots → Heap → Nat → T (Ex × Slots × Heap × Nat × Bool)}
    (h : ∀ sl H nx e sl' H' nx' esc', (B sl H nx).res = some (e, sl', H', nx', esc') → CodeOk P N0 c0 ⟨sl, H, nx, false, 0, []⟩ e ⟨sl', H', nx', esc', 0, []⟩) : LoopOk P (mkCodeF live c0 N0 B) := by
  refine ⟨fun N c st e st' hr => ?_, fun N c st => ?_⟩
  · unfold mkCodeF at hr
    obtain ⟨hp, hr2⟩ := T.need_some hr
    clear hr
    obtain ⟨rfl, rfl⟩ := pb_of hp
    obtain ⟨sl, h1, h2⟩ := pruneK_eq (β := T (Ex × St)) st.sl live
    rw [h1] at hr2
    dsimp only at hr2
    generalize hids : (reach st.H 4000 (slRefs sl) []).reverse = ids at hr2
    split at hr2
    · exact (T.bad_some hr2).elim
    rename_i hok
    rw [Bool.and_eq_true] at hok
    have hn := okNames_ok hok.1
    have hargs : ∀ c ∈ slRefs sl, c < 0 ∨ c ∈ ids := fun c hc => okRef_ok (List.all_eq_true.1 hok.2 c hc)
    obtain ⟨⟨e1, sl1, H1, nx1, esc1⟩, hb, hr⟩ := T.bind_some hr2
    simp only at hr
    split at hr
    · rename_i hle
      have hle := nble hle
      have := T.ret_some hr
      simp only [Prod.mk.injEq] at this
      obtain ⟨rfl, rfl⟩ := this
      have hc := h _ _ _ _ _ _ _ _ hb
      refine ⟨fun he => by simp only [Bool.or_eq_false_iff] at he; exact he.1, fun f z w a ht hrel hN hd Q hQ => ?_⟩
      have hrel0 := hrel.ren hn
      rw [Nat.zero_add] at hrel0
      have hts : TR f st.nx z sl a.tmps := fun t => by
        rw [h2]
        split
        · exact ht t
        · trivial
      refine hc.2 (fun b => f (unName 0 ids b)) z w a (fun t => ?_) hrel0 hN hd Q fun f0 z' w' a' hp ht' hN' hd' => ?_
      · rw [get_renS]
        exact (hts t).ren fun c hcr => by have := hn.led f (hargs c (slRefs_get hcr)); rwa [Nat.zero_add] at this
      · obtain ⟨f', k1, k2, _⟩ := framed (o := ⟨.top, H1, nx1, esc1, List.range ids.length⟩) hn hle (fun b hb hw => absurd (List.mem_range.2 hb) hw) hrel hp
        refine hQ f' z' w' a' (k1.weak fun he => ?_) (fun t => ?_) hN' hd'
        · simp only [Bool.or_eq_false_iff] at he
          exact he.2
        · simp only
          rw [get_renS]
          exact (ht' t).ren fun c hcr => k2 c ((ht' t).refs_lt c hcr)
    · exact (T.bad_some hr).elim
  · unfold mkCodeF
    refine T.Every.need ?_
    obtain ⟨sl, h1⟩ := pruneK_at (β := T (Ex × St)) st.sl live
    rw [h1]
    dsimp only
    generalize hids : (reach st.H 4000 (slRefs sl) []).reverse = ids
    split
    · trivial
    · rename_i hok
      rw [Bool.and_eq_true] at hok
      have hn := okNames_ok hok.1
      have hB : Back ids st.nx := ⟨fun c hc => (hn.ge c hc).2, hn.nodup⟩
      refine T.Every.bind (fun x => ?_) _
      split
      · rename_i hle
        have hle := nble hle
        refine ⟨rfl, Nat.le_add_right _ _, fun b hb hn' hw => ?_⟩
        simp only [List.mem_append, not_or] at hw
        obtain ⟨w1, w2⟩ := hw
        refine ⟨w2, ?_⟩
        simp only
        rw [get_append_out, get_filter (fun b => !(ids.any (Nat.beq b))), if_pos]
        · cases hq : ids.any (Nat.beq b) with
          | false => rfl
          | true => exact absurd ((anyBeq ids b).1 hq) w1
        · intro e he
          unfold backH at he
          obtain ⟨y, hy, rfl⟩ := List.mem_map.1 he
          intro h2
          simp only at h2
          rcases Nat.lt_or_ge y.1 ids.length with hi | hi
          · rw [(hB.old hi).1] at h2
            exact w1 (h2 ▸ List.getElem_mem hi)
          · rw [Back.new hi] at h2
            omega
      · trivial

/-- what is known of a loop -/
noncomputable def mkLoopF (live : List Nat) (c0 : Code) (N0 : Nat) (B : Slots → Heap → Nat → T (Ex × Slots × Heap × Nat × Bool)) : Nat → Code → St → T (Ex × St) := mkCodeF live (.loop c0) N0 B
theorem mkLoopF_ok {P : Program} {live : List Nat} {c0 : Code} {N0 : Nat} {B : Slots → Heap → Nat → T (Ex × Slots × Heap × Nat × Bool)}
    (h : ∀ sl H nx e sl' H' nx' esc', (B sl H nx).res = some (e, sl', H', nx', esc') → CodeOk P N0 (.loop c0) ⟨sl, H, nx, false, 0, []⟩ e ⟨sl', H', nx', esc', 0, []⟩) : LoopOk P (mkLoopF live c0 N0 B) := mkCodeF_ok h

/-- a code's run from a state of which less is said -/
theorem CodeOk.from {P : Program} {N : Nat} {c : Code} {st st1 : St} {e : Ex} {st2 : St} (h : CodeOk P N c st1 e st2) (hle : StLe st.nx st st1) : CodeOk P N c st e st2 := by
  refine ⟨fun he => hle.esc (h.1 he), fun f z w a ht hr hN hd Q hQ => ?_⟩
  obtain ⟨f1, z1, ht1, hp1⟩ := hle.to f z w a.tmps ht hr
  refine h.2 f1 z1 w a ht1 hp1.all hN hd Q fun f' z' w' a' hp ht' hN' hd' => hQ f' z' w' a' ((Post.trans' hp1 hp hp1.hnx).weak fun he => ?_) ht' hN' hd'
  rw [Bool.or_eq_false_iff]
  exact ⟨h.1 he, he⟩

def SV.tops : SV → List Nat
  | .v a => a.tops
  | _ => []

/-- a pointer into one of these blocks is no longer told -/
def SV.noPtr (bs : List Nat) : SV → SV
  | .v (.one (.ptr c m i j)) => match bs.any (Nat.beq c) with | true => .top | false => .v (.one (.ptr c m i j))
  | x => x
theorem SV.noPtr_le (bs : List Nat) (s : SV) : s.le (s.noPtr bs) := by
  unfold SV.noPtr
  split
  · split
    · exact .inl rfl
    · exact .inr (.inl rfl)
  · exact .inr (.inl rfl)
def Slots.noPtr (bs : List Nat) : Slots → Slots
  | [] => []
  | (k, v) :: r => (k, v.noPtr bs) :: Slots.noPtr bs r
theorem Slots.noPtr_get (bs : List Nat) (t : Nat) : ∀ sl : Slots, (Slots.noPtr bs sl).get t = (sl.get t).noPtr bs
  | [] => rfl
  | (k, v) :: r => by
    simp only [Slots.noPtr, Slots.get]
    cases Nat.beq k t
    · exact Slots.noPtr_get bs t r
    · rfl

/-- slices in these slots are never written any more -/
def frzAt (slots : List Nat) (st : St) : T St :=
  (frzL (slots.flatMap fun t => (st.sl.get t).tops) ⟨Slots.noPtr (slots.flatMap fun t => (st.sl.get t).tops) st.sl, st.H, st.nx, st.esc, st.base, st.wr⟩).bind fun s =>
    .ret { s with H := s.H.filter (fun e => (st.H.map (·.1)).any (Nat.beq e.1)), nx := st.nx, base := st.base, wr := st.H.map (·.1) ++ st.wr }

def preL : List (Nat × Nat × List Nat) → Nat → Nat → Option (St → T St)
  | [], _, _ => none
  | (k, j, l) :: r, g, id => match Nat.beq k g && Nat.beq j id with | true => some (frzAt l) | false => preL r g id

theorem preL_some : ∀ (l : List (Nat × Nat × List Nat)) (g id : Nat) (p : St → T St), preL l g id = some p → ∃ s, p = frzAt s
  | [], g, id, p, h => by cases h
  | (k, j, x) :: r, g, id, p, h => by
    simp only [preL] at h
    split at h
    · exact ⟨x, (Option.some.inj h).symm⟩
    · exact preL_some r g id p h

/-- with what is known, and slices that are never written any more from a region on -/
def Ctx.withP (G : Ctx) (s : List (Nat × SumF)) (l : List (Nat × Nat × LoopF)) (p : List (Nat × Nat × List Nat)) : Ctx := ⟨G.ti, G.fi, G.sym, sumL s, lsL l, preL p⟩

theorem CtxOk.withP {P : Program} {G : Ctx} (h : CtxOk P G) (s : List (Nat × SumF)) (l : List (Nat × Nat × LoopF)) (p : List (Nat × Nat × List Nat)) : CtxOk P (G.withP s l p) := ⟨h.ti, h.fi, h.mixed⟩

theorem KnownOk.listsP {P : Program} {G : Ctx} {s : List (Nat × SumF)} {l : List (Nat × Nat × LoopF)} {p : List (Nat × Nat × List Nat)} (hs : ∀ x ∈ s, SumOk P x.1 x.2) (hl : ∀ x ∈ l, LoopOk P x.2.2) : KnownOk P (G.withP s l p) where
  sum := fun g F h => (sumL_ok s hs g F h).to
  ls := fun F id L h => (lsL_ok l hl F id L h).to
  sumK := fun g F h => (sumL_ok s hs g F h).keeps
  lsK := fun F id L h => (lsL_ok l hl F id L h).keeps
  pre := fun F id q h st st1 hr N c e st2 hc => by
    obtain ⟨sl, rfl⟩ := preL_some p F id q h
    obtain ⟨s, h1, h2⟩ := T.bind_some hr
    have := T.ret_some h2
    subst this
    obtain ⟨hle, hnx, hesc⟩ := frzL_ok (m := st.nx) (sl.flatMap fun t => (st.sl.get t).tops) ⟨Slots.noPtr (sl.flatMap fun t => (st.sl.get t).tops) st.sl, st.H, st.nx, st.esc, st.base, st.wr⟩ s (Nat.le_refl st.nx) h1
    simp only at hnx
    refine hc.from ((StLe.less (m := st.nx) (s := st) (base := st.base) (wr := st.wr) (Nat.le_refl _) (fun t => (Slots.noPtr_get (sl.flatMap fun t => (st.sl.get t).tops) t st.sl) ▸ SV.noPtr_le _ _) (fun b => .inl rfl)).trans (hle.trans ?_))
    have := StLe.sift (m := st.nx) (s := s) (by omega) fun b => (st.H.map (·.1)).any (Nat.beq b)
    refine ⟨this.esc, fun f z w a ht hr => ?_⟩
    have := this.to f z w a ht hr
    simpa only [hnx] using this
  preK := fun F id q h st => by
    obtain ⟨sl, rfl⟩ := preL_some p F id q h
    unfold frzAt
    refine T.Every.bind (fun s => ?_) _
    show Kp st _
    refine ⟨rfl, Nat.le_refl _, fun b hb hn hw => ?_⟩
    simp only [List.mem_append, not_or] at hw
    refine ⟨hw.2, ?_⟩
    simp only
    rw [get_filter (fun b => (st.H.map (·.1)).any (Nat.beq b)), if_neg, get_none _ _ hw.1]
    intro h
    exact hw.1 ((anyBeq _ _).1 h)

end Go.Proofs.YtbobakclbdaepaaGreat.En
