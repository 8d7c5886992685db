/- The engine, part 37: 'for k, v := range m', whatever the order. -/
import Derived.Test.YtbobakclbdaepaaGreatF12
import Derived.Maps.RangeRun
namespace Go.Proofs.YtbobakclbdaepaaGreat.En
open Go
open Go.ChangeMaps (setBlock)
set_option linter.unusedVariables false
set_option linter.unusedSimpArgs false

/-- an iterator, as a word -/
abbrev itV (r : Nat) : SV := .v (.one (.f (.lit (.pointer (some ⟨r, 0, none⟩)))))

theorem lt_of_some {α : Type} {a : Array α} {i : Nat} {x : α} (h : a[i]? = some x) : i < a.size := (Array.getElem?_eq_some_iff.1 h).1

/-- an iterator's block, its map's: nobody else has them -/
structure It (f : Fn) (H : Heap) (w : World) (k r : Nat) (arr : Array MapEntry) (clock since : Nat) (seen : Array Nat) (c0 : Nat) : Prop where
  it : w.heap[r]? = some (.mapIter (some k) since seen c0)
  mp : w.heap[k]? = some (.map arr clock)
  born : BornOk arr since
  sc : since ≤ c0
  sk : since ≤ clock
  free : ∀ b, (H.get b).live → (f b).k ≠ r ∧ (f b).k ≠ k

theorem It.post {f f' : Fn} {nx nx' : Nat} {z z' : Z} {w w' : World} {H H' : Heap} {e : Bool} {k r : Nat} {arr : Array MapEntry} {clock since c0 : Nat} {seen : Array Nat}
    (h : It f H w k r arr clock since seen c0) (hp : Post All f nx z w H f' nx' z' w' H' e) : It f' H' w' k r arr clock since seen c0 := by
  have hr := lt_of_some h.it
  have hk := lt_of_some h.mp
  have nr : ¬ img All f H r := fun ⟨b, _, hl, e⟩ => (h.free b hl).1 e
  have nk : ¬ img All f H k := fun ⟨b, _, hl, e⟩ => (h.free b hl).2 e
  refine ⟨(hp.fr.block r hr nr).trans h.it, (hp.fr.block k hk nk).trans h.mp, h.born, h.sc, h.sk, fun b hl => ?_⟩
  rcases Nat.lt_or_ge b nx with hb | hb
  · rw [hp.ext b hb]; exact h.free b (hp.dead b hb hl)
  · rcases hp.fresh b hb hl with h1 | h1
    · exact ⟨by omega, by omega⟩
    · exact ⟨fun e => nr (e ▸ h1), fun e => nk (e ▸ h1)⟩

/-- a block that nobody has is another one -/
theorem Rel.other {S : Nat → Prop} {f : Fn} {nx : Nat} {z : Z} {w w' : World} {H : Heap} {r : Nat} (h : Rel S f nx z w H) (hs : w'.heap.size = w.heap.size) (hb : ∀ k, k ≠ r → w'.heap[k]? = w.heap[k]?)
    (hf : ∀ b, S b → (H.get b).live → (f b).k ≠ r) (hz : ∀ o v, z r o ≠ some v) : Rel S f nx z w' H := by
  have hc : ∀ k p, k ≠ r → w'.cell? ⟨k, p, none⟩ = w.cell? ⟨k, p, none⟩ := fun k p hk => World.cell?_of_block (w := w) (hb k hk)
  have hfz : ∀ k p, k ≠ r → w'.frozen? ⟨k, p, none⟩ = w.frozen? ⟨k, p, none⟩ := fun k p hk => World.frozen?_of_block (w := w) (hb k hk)
  refine ⟨fun b hS hl => ⟨(h.own b hS hl).1, ?_⟩, h.inj, fun k o v hv => ?_⟩
  · have hk := hf b hS hl
    obtain ⟨_, ok⟩ := h.own b hS hl
    refine ⟨by rw [hs]; exact ok.lt, ok.own, fun p hp => by rw [hc _ _ hk, hfz _ _ hk]; exact ok.room p hp, fun m i j x hx => ?_, fun es he => by rw [hb _ hk]; exact ok.map es he⟩
    obtain ⟨h1, v, h2, h3⟩ := ok.cell m i j x hx
    exact ⟨h1, v, by simp only [ad]; rw [hc _ _ hk]; exact h2, h3⟩
  · have hk : k ≠ r := fun e => hz o v (e ▸ hv)
    rw [hc _ _ hk]; exact h.zok k o v hv

theorem Post.other {f f' : Fn} {nx nx' : Nat} {z z' : Z} {w w' w'' : World} {H H' : Heap} {e : Bool} {r : Nat} (h : Post All f nx z w H f' nx' z' w' H' e) (hr : w.heap.size ≤ r) (hs : w''.heap.size = w'.heap.size)
    (ho : w''.os = w'.os) (ht : w''.tape = w'.tape) (hu : w''.output = w'.output) (hb : ∀ k, k ≠ r → w''.heap[k]? = w'.heap[k]?) (hf : ∀ b, (H'.get b).live → (f' b).k ≠ r) (hz : ∀ o v, z' r o ≠ some v) :
    Post All f nx z w H f' nx' z' w'' H' e :=
  ⟨h.hnx, h.ext, h.zle, h.znew, h.same, h.dead, h.rel.other hs hb (fun b _ hl => hf b hl) hz, h.fresh,
    ⟨by rw [hs]; exact h.fr.size, ho.trans h.fr.os, ht.trans h.fr.tape, hu.trans h.fr.output, fun k hk hn => (hb k (by omega)).trans (h.fr.block k hk hn)⟩, h.noesc⟩

/-- a new block that nobody has -/
theorem Post.alloc0 {f : Fn} {nx : Nat} {z : Z} {w : World} {H : Heap} (hr : Rel All f nx z w H) (o : Obj) : Post All f nx z w H f nx z (w.alloc o) H false := by
  have hfr : Fr (fun _ => False) w (w.alloc o) := ⟨by simp, rfl, rfl, rfl, fun k hk _ => heap_alloc_old w o hk⟩
  refine ⟨Nat.le_refl _, fun _ _ => rfl, fun _ _ _ h => h, fun _ _ _ h => .inl h, fun b _ hs => absurd trivial hs, fun _ _ h => h, ⟨fun b _ hl => ?_, fun b c _ _ => hr.inj b c trivial trivial, fun k o' v hv => ?_⟩, fun b hb hl => absurd hl (hr.noLive b hb),
    ⟨hfr.size, rfl, rfl, rfl, fun k hk _ => hfr.block k hk id⟩, fun _ _ _ h => h⟩
  · obtain ⟨h1, h2⟩ := hr.own b trivial hl
    exact ⟨h1, h2.kept h1 hfr id (fun _ _ => rfl) (Nat.le_refl _) (fun _ _ _ h => h) (fun _ _ _ h => .inl h)⟩
  · have h1 := hr.zok k o' v hv
    rw [World.cell?_alloc_lt _ _ _ (block_lt_of_cell h1)]
    exact h1

theorem cell_mapIter {w : World} {r : Nat} {m : Option Nat} {s c : Nat} {seen : Array Nat} (h : w.heap[r]? = some (.mapIter m s seen c)) (o : Nat) : w.cell? ⟨r, o, none⟩ = none := by
  simp [World.cell?, h]

theorem TR.skip {f : Fn} {nx : Nat} {z : Z} {s : Slots} {a : Array Value} (h : TR f nx z s a) {d : Nat} (hd : s.get d = .top) (v : Value) : TR f nx z s (a.setIfInBounds d v) := by
  intro t
  by_cases e : d = t
  · subst e; rw [hd]; trivial
  · have := h t
    simpa [Array.getElem?_setIfInBounds, e] using this

/-- the rest of a round, behind the step and the entry -/
def evRest (G : Ctx) (K F N : Nat) (all l : List Oper) (rest : Code) (kb : Nat) (st : St) : T (Ex × St) :=
  (evOps G (evKnown G (ev G noLive K)) N all l st).bind fun st => (ev G noLive K F N rest st).bind fun x => match x.1 with
    | .exit k => match Nat.beq k kb with | true => .ret (.normal, x.2) | false => .ret (.exit k, x.2)
    | e => .ret (e, x.2)

/-- it, its blocks named anew, from m on -/
def evRR (G : Ctx) (K F N : Nat) (all l : List Oper) (rest : Code) (kb m : Nat) (live : List Nat) (st : St) : T (Ex × St) :=
  (evRest G K F N all l rest kb st).bind fun x => match canonSt m live x.2 with
    | some s => .ret (x.1, s)
    | none => .bad

section
variable {P : Program} {G : Ctx} (hG : CtxOk P G) (hK : KnownOk P G)
include hG hK

theorem evRest_ok {K F N : Nat} {o4 : Oper} {ops2 : Array Oper} {l : List Oper} {rest : Code} {kb : Nat} {st s : St} {e : Ex} (hops : ops2.toList = o4 :: l) (h : (evRest G K F N ops2.toList l rest kb st).res = some (e, s)) :
    (s.esc = false → st.esc = false) ∧ ∀ (f : Fn) (z : Z) (w : World) (a : Act), TR f st.nx z st.sl a.tmps → Rel All f st.nx z w st.H → a.tmps.size = N → a.defers = [] → ∀ (Q : Exit → Act → World → Prop),
      (∀ f' z' w' a', Post All f st.nx z w st.H f' s.nx z' w' s.H s.esc → TR f' s.nx z' s.sl a'.tmps → a'.tmps.size = N → a'.defers = [] → Q (exitOf e) a' w') →
      wpOps P ops2 (Exit.then (rest.wp P (Exit.inBlock kb Q)) (Exit.inBlock kb Q)) (List.range' 1 l.length) a w := by
  unfold evRest at h
  obtain ⟨st1, h1, h⟩ := T.bind_some h
  obtain ⟨⟨e1, st2⟩, h2, h⟩ := T.bind_some h
  have hC : CallOk P (evKnown G (ev G noLive K)) := evKnown_ok hG hK.sum (ev_ok hG hK K)
  have hl : ∀ i, l[i]? = ops2.toList[1 + i]? := fun i => by
    rw [hops, Nat.add_comm 1 i, List.getElem?_cons_succ]
  have hrest := ev_ok hG hK K F N rest st1 e1 st2 h2
  have hs : s = st2 ∧ ∀ Q : Exit → Act → World → Prop, ∀ a w, Q (exitOf e) a w → Exit.inBlock kb Q (exitOf e1) a w := by
    cases e1 with
    | normal =>
      have := T.ret_some h
      simp only [Prod.mk.injEq] at this
      obtain ⟨rfl, rfl⟩ := this
      exact ⟨rfl, fun Q a w h => h⟩
    | ret =>
      have := T.ret_some h
      simp only [Prod.mk.injEq] at this
      obtain ⟨rfl, rfl⟩ := this
      exact ⟨rfl, fun Q a w h => h⟩
    | exit k =>
      simp only at h
      split at h
      · rename_i hk
        have hk := nbeq hk
        have := T.ret_some h
        simp only [Prod.mk.injEq] at this
        obtain ⟨rfl, rfl⟩ := this
        exact ⟨rfl, fun Q a w h => by simp only [exitOf, Exit.inBlock, hk, if_true]; exact h⟩
      · rename_i hk
        have hk : k ≠ kb := fun e => by rw [e, Nat.beq_refl] at hk; cases hk
        have := T.ret_some h
        simp only [Prod.mk.injEq] at this
        obtain ⟨rfl, rfl⟩ := this
        exact ⟨rfl, fun Q a w h => by simp only [exitOf, Exit.inBlock, hk, if_false]; exact h⟩
  obtain ⟨rfl, hq⟩ := hs
  refine ⟨fun he => (evOps_seq (Q := fun _ _ _ => True) hG hC l 1 st st1 hl h1).1 (hrest.1 he), fun f z w a ht hr hN hd Q hQ => ?_⟩
  obtain ⟨_, i2⟩ := evOps_seq (Q := Exit.then (rest.wp P (Exit.inBlock kb Q)) (Exit.inBlock kb Q)) hG hC l 1 st st1 hl h1
  refine i2 f z w a ht hr hN fun f1 z1 w1 a1 hp ht1 hN1 hd1 => ?_
  show rest.wp P (Exit.inBlock kb Q) a1 w1
  refine hrest.2 f1 z1 w1 a1 ht1 hp.all hN1 (hd1.trans hd) _ fun f2 z2 w2 a2 hp2 ht2 hN2 hd2 => hq Q a2 w2 (hQ f2 z2 w2 a2 ((Post.trans hp hp2).weak fun he => ?_) ht2 hN2 hd2)
  rw [Bool.or_eq_false_iff]
  exact ⟨hrest.1 he, he⟩

omit hG hK in
theorem evRR_some {K F N : Nat} {all l : List Oper} {rest : Code} {kb m : Nat} {live : List Nat} {st s : St} {e : Ex} (h : (evRR G K F N all l rest kb m live st).res = some (e, s)) :
    ∃ st1, (evRest G K F N all l rest kb st).res = some (e, st1) ∧ StLe m st1 s := by
  unfold evRR at h
  obtain ⟨⟨e1, st1⟩, h1, h2⟩ := T.bind_some h
  simp only at h2
  split at h2
  · rename_i s1 hs
    have := T.ret_some h2
    simp only [Prod.mk.injEq] at this
    obtain ⟨rfl, rfl⟩ := this
    exact ⟨st1, h1, canonSt_ok hs⟩
  · exact (T.bad_some h2).elim

end

def kvE (e : MapEntry) : Value × Value := (e.key, e.val)
def leftL (arr : Array MapEntry) (seen : Array Nat) : List MapEntry := arr.toList.filter fun e => !seen.contains e.born

theorem left_push {arr : Array MapEntry} {since : Nat} {seen : Array Nat} (h : BornOk arr since) {e : MapEntry} (he : e ∈ leftL arr seen) : ∃ l1 l2, leftL arr seen = l1 ++ e :: l2 ∧ leftL arr (seen.push e.born) = l1 ++ l2 := by
  obtain ⟨l1, l2, hl⟩ := List.append_of_mem he
  refine ⟨l1, l2, hl, ?_⟩
  have hn : (leftL arr seen).Pairwise fun x y => x.born ≠ y.born := by
    have := h.2
    rw [List.Nodup, List.pairwise_map] at this
    exact this.filter _
  have e1 : leftL arr (seen.push e.born) = (leftL arr seen).filter fun x => !(x.born == e.born) := by
    unfold leftL
    rw [List.filter_filter]
    refine List.filter_congr fun x _ => ?_
    rw [Bool.eq_iff_iff]
    simp only [Bool.not_eq_true', Bool.and_eq_true, Array.contains_push, Bool.or_eq_false_iff]
    constructor
    · rintro h; exact ⟨by simpa using h.2, by simpa using h.1⟩
    · rintro h; exact ⟨by simpa using h.2, by simpa using h.1⟩
  rw [e1, hl]
  rw [hl] at hn
  obtain ⟨_, h2, h3⟩ := List.pairwise_append.1 hn
  obtain ⟨h4, _⟩ := List.pairwise_cons.1 h2
  rw [List.filter_append, List.filter_cons]
  rw [if_neg (by simp), List.filter_eq_self.2, List.filter_eq_self.2]
  · intro x hx
    simpa using (h4 x hx).symm
  · intro x hx
    simpa using h3 x hx e (List.mem_cons_self ..)

end Go.Proofs.YtbobakclbdaepaaGreat.En
