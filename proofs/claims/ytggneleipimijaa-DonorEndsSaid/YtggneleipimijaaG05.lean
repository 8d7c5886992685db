/- Texts put together: E12, E13, E14, E15, E16, E17, E18. -/
import Derived.Test.YtggneleipimijaaG04
/- The engine, part 12: calls; every operation; a region in the text's order. -/
namespace Go.Proofs.Ytggneleipimijaa.En
open Go
set_option linter.unusedVariables false
set_option linter.unusedSimpArgs false

/-- what one call comes to -/
def CallTo (P : Program) (g : Nat) (args : List AV) (H : Heap) (nx : Nat) (r : CallOut) : Prop :=
  ∀ (f : Fn) (z : Z) (w : World) (vs : Array Value), Rel All f nx z w H → RAs f nx z args vs.toList →
    ∀ (R : Ending → World → Prop), (∀ f' z' w' v', Post All f nx z w H f' r.nx z' w' r.H r.esc → RS f' r.nx z' r.v v' → R (.returned v') w') → Calls P g vs w R

def CallOk (P : Program) (call : CallF) : Prop := ∀ (g : Nat) (args : List AV) (H : Heap) (nx : Nat) (r : CallOut), (call g args H nx).res = some r → CallTo P g args H nx r

theorem Post.ofAll {S : Nat → Prop} {f f' : Fn} {nx nx' : Nat} {z z' : Z} {w w' : World} {H H' : Heap} {esc : Bool} (h : Post All f nx z w H f' nx' z' w' H' esc) (hS : ∀ b, (H.get b).live → S b) : Post S f nx z w H f' nx' z' w' H' esc := by
  have himg : ∀ k, img All f H k → img S f H k := fun k ⟨b, _, hl, e⟩ => ⟨b, hS b hl, hl, e⟩
  exact ⟨h.hnx, h.ext, h.zle, fun k o v hv => (h.znew k o v hv).imp id (Or.imp id (himg k)), fun b hb hs => .inr fun hl => hs (hS b (h.dead b hb hl)), h.dead,
    ⟨fun b _ => h.rel.own b (.inl trivial), fun b c _ _ => h.rel.inj b c (.inl trivial) (.inl trivial), h.rel.zok⟩, fun b hb hl => (h.fresh b hb hl).imp id (himg _), h.fr.less fun x _ => himg x, h.noesc⟩

theorem live_key : ∀ (H : Heap) (b : Nat), (H.get b).live → b ∈ H.map (·.1)
  | [], b, h => h.elim
  | (k, o) :: r, b, h => by
    rw [Heap.get_cons] at h
    by_cases e : k = b
    · subst e; simp
    · rw [if_neg e] at h
      simp [live_key r b h]

theorem anyBeq (ids : List Nat) (b : Nat) : (ids.any (Nat.beq b)) = true ↔ b ∈ ids := by
  simp only [List.any_eq_true]
  constructor
  · rintro ⟨x, hx, h⟩
    rw [nbeq h]; exact hx
  · intro h; exact ⟨b, h, Nat.beq_refl b⟩

theorem get_filter (p : Nat → Bool) : ∀ (H : Heap) (b : Nat), Heap.get (H.filter fun e => p e.1) b = if p b then H.get b else .dead
  | [], b => by simp [Heap.get]
  | (k, o) :: r, b => by
    rw [List.filter_cons]
    by_cases hp : p k = true
    · rw [if_pos hp, Heap.get_cons, Heap.get_cons, get_filter p r b]
      by_cases e : k = b
      · subst e; simp [hp]
      · simp [e]
    · rw [if_neg hp, Heap.get_cons, get_filter p r b]
      by_cases e : k = b
      · subst e; simp [hp]
      · simp [e]

theorem get_append : ∀ (A B : Heap) (b : Nat), Heap.get (A ++ B) b = A.get b ∨ (A.get b = .dead ∧ Heap.get (A ++ B) b = B.get b)
  | [], B, b => .inr ⟨rfl, rfl⟩
  | (k, o) :: A, B, b => by
    simp only [List.cons_append]
    rw [Heap.get_cons, Heap.get_cons]
    by_cases e : k = b
    · simp [e]
    · simp only [e, if_false]
      exact get_append A B b

/-- a step on a part of a heap, told of the whole one -/
theorem Post.part {f f' : Fn} {nx nx' : Nat} {z z' : Z} {w w' : World} {H A : Heap} {esc : Bool} (ids : List Nat) (hno : ∀ b, nx ≤ b → ¬ (H.get b).live)
    (h : Post All f nx z w (H.filter fun e => ids.any (Nat.beq e.1)) f' nx' z' w' A esc) :
    Post (Sx ids (ids ++ (List.range (nx' - nx)).map (nx + ·))) f nx z w H f' nx' z' w' (A ++ H.filter fun e => !(ids.any (Nat.beq e.1))) esc := by
  have hin : ∀ b, Heap.get (H.filter fun e => ids.any (Nat.beq e.1)) b = if b ∈ ids then H.get b else .dead := fun b => by
    rw [get_filter (fun b => ids.any (Nat.beq b))]
    by_cases hb : b ∈ ids
    · rw [if_pos ((anyBeq ids b).2 hb), if_pos hb]
    · rw [if_neg (fun e => hb ((anyBeq ids b).1 e)), if_neg hb]
  have hout : ∀ b, Heap.get (H.filter fun e => !(ids.any (Nat.beq e.1))) b = if b ∈ ids then .dead else H.get b := fun b => by
    rw [get_filter (fun b => !(ids.any (Nat.beq b)))]
    by_cases hb : b ∈ ids
    · rw [if_neg (by rw [(anyBeq ids b).2 hb]; simp), if_pos hb]
    · have : ids.any (Nat.beq b) = false := by
        cases hq : ids.any (Nat.beq b) with
        | false => rfl
        | true => exact absurd ((anyBeq ids b).1 hq) hb
      rw [if_pos (by rw [this]; rfl), if_neg hb]
  generalize hI : (H.filter fun e => ids.any (Nat.beq e.1)) = I at *
  generalize hO : (H.filter fun e => !(ids.any (Nat.beq e.1))) = O at *
  have hS : ∀ b, Sx ids (ids ++ (List.range (nx' - nx)).map (nx + ·)) b ↔ (b ∈ ids ∨ (nx ≤ b ∧ b < nx')) := fun b => by
    simp only [Sx, List.mem_append, List.mem_map, List.mem_range]
    constructor
    · rintro (h | h | ⟨a, ha, rfl⟩)
      · exact .inl h
      · exact .inl h
      · exact .inr ⟨by omega, by omega⟩
    · rintro (h | ⟨h1, h2⟩)
      · exact .inl h
      · exact .inr (.inr ⟨b - nx, by omega, by omega⟩)
  have inlive : ∀ b, (Heap.get I b).live → b ∈ ids ∧ Heap.get I b = H.get b := fun b hl => by
    rw [hin] at hl ⊢
    by_cases hb : b ∈ ids
    · rw [if_pos hb]; exact ⟨hb, rfl⟩
    · rw [if_neg hb] at hl; exact hl.elim
  have himg : ∀ k, img All f I k → img (Sx ids (ids ++ (List.range (nx' - nx)).map (nx + ·))) f H k := fun k ⟨b, _, hl, e⟩ => by
    obtain ⟨h1, h2⟩ := inlive b hl
    exact ⟨b, (hS b).2 (.inl h1), by rw [← h2]; exact hl, e⟩
  -- in the part
  have mIn : ∀ b, (b ∈ ids ∨ nx ≤ b) → (Heap.get (A ++ O) b).live → Heap.get (A ++ O) b = A.get b := fun b hb hl => by
    rcases get_append A O b with e | ⟨e1, e2⟩
    · exact e
    · exfalso
      rw [e2, hout] at hl
      by_cases hb' : b ∈ ids
      · rw [if_pos hb'] at hl; exact hl
      · rw [if_neg hb'] at hl; exact hno b (hb.resolve_left hb') hl
  -- out of it
  have mOut : ∀ b, b < nx → b ∉ ids → Heap.get (A ++ O) b = H.get b ∨ ¬ (Heap.get (A ++ O) b).live := fun b hb hn => by
    rcases get_append A O b with e | ⟨e1, e2⟩
    · right
      rw [e]
      intro hl
      exact hn (inlive b (h.dead b hb hl)).1
    · left; rw [e2, hout, if_neg hn]
  refine ⟨h.hnx, h.ext, h.zle, fun k o v hv => (h.znew k o v hv).imp id (Or.imp id (himg k)), fun b hb hs => mOut b hb fun e => hs ((hS b).2 (.inl e)), fun b hb hl => ?_, ⟨fun b hb hl => ?_, fun b c hb hc hl hl' hne => ?_, h.rel.zok⟩, fun b hb hl => ?_, h.fr.less fun x _ => himg x, fun he m hm hN b l hb hg => ?_⟩
  · by_cases hi : b ∈ ids
    · rw [mIn b (.inl hi) hl] at hl
      have := h.dead b hb hl
      obtain ⟨_, h2⟩ := inlive b this
      rw [← h2]; exact this
    · rcases mOut b hb hi with e | e
      · rw [← e]; exact hl
      · exact absurd hl e
  · have hb' : b ∈ ids ∨ nx ≤ b := by
      rcases hb with hb | hb
      · rcases (hS b).1 hb with h | h
        · exact .inl h
        · exact .inr h.1
      · exact .inr hb
    have e := mIn b hb' hl
    rw [e] at hl ⊢
    exact h.rel.own b (.inl trivial) hl
  · have side : ∀ b, (Sx ids (ids ++ (List.range (nx' - nx)).map (nx + ·)) b ∨ nx ≤ b) → b ∈ ids ∨ nx ≤ b := fun b hb => by
      rcases hb with hb | hb
      · rcases (hS b).1 hb with h | h
        · exact .inl h
        · exact .inr h.1
      · exact .inr hb
    have e1 := mIn b (side b hb) hl
    have e2 := mIn c (side c hc) hl'
    rw [e1] at hl
    rw [e2] at hl'
    exact h.rel.inj b c (.inl trivial) (.inl trivial) hl hl' hne
  · have e := mIn b (.inr hb) hl
    rw [e] at hl
    exact (h.fresh b hb hl).imp id (himg _)
  · have hl : (Heap.get (A ++ O) b).live := by rw [hg]; trivial
    by_cases hi : b ∈ ids
    · rw [mIn b (.inl hi) hl] at hg
      refine h.noesc he m hm (fun c lc hc hgc => ?_) b l hb hg
      have hlc : (Heap.get I c).live := by rw [hgc]; trivial
      obtain ⟨_, e⟩ := inlive c hlc
      rw [e] at hgc
      exact hN c lc hc hgc
    · rcases mOut b (by omega) hi with e | e
      · rw [e] at hg; exact hN b l hb hg
      · exact absurd hl e

/-- what is dead already may go -/
theorem Post.sift {S : Nat → Prop} {f f' : Fn} {nx nx' : Nat} {z z' : Z} {w w' : World} {H A A' : Heap} {esc : Bool} (h : Post S f nx z w H f' nx' z' w' A esc) (e : ∀ b, A'.get b = A.get b ∨ ¬ (A'.get b).live) : Post S f nx z w H f' nx' z' w' A' esc := by
  have hl : ∀ b, (A'.get b).live → A'.get b = A.get b := fun b hb => (e b).resolve_right (fun h => h hb)
  refine ⟨h.hnx, h.ext, h.zle, h.znew, fun b hb hs => ?_, fun b hb hv => h.dead b hb (by rw [← hl b hv]; exact hv), ⟨fun b hb hv => ?_, fun b c hb hc hv hv' => h.rel.inj b c hb hc (by rw [← hl b hv]; exact hv) (by rw [← hl c hv']; exact hv'), h.rel.zok⟩,
    fun b hb hv => h.fresh b hb (by rw [← hl b hv]; exact hv), h.fr, fun he m hm hN b l hb hg => h.noesc he m hm hN b l hb (by rw [← hl b (by rw [hg]; trivial)]; exact hg)⟩
  · rcases e b with h1 | h1
    · rw [h1]; exact h.same b hb hs
    · exact .inr h1
  · have := hl b hv
    rw [this] at hv ⊢
    exact h.rel.own b hb hv

section ops
variable {P : Program} {G : Ctx} (hG : CtxOk P G) {call : CallF} (hC : CallOk P call) {draw : Bool} {st : St} {o : Oper} {u : Out}

theorem avs?_ok {f : Fn} {z : Z} {a : Act} (ht : TR f st.nx z st.sl a.tmps) : ∀ (l : List Operand) (r : List AV), avs? (l.map st.val) = some r → RAs f st.nx z r (l.map a.eval)
  | [], r, h => by
    simp only [List.map_nil, avs?, Option.some.injEq] at h
    subst h
    exact RAs.nil
  | y :: l, r, h => by
    simp only [List.map_cons] at h
    unfold avs? at h
    split at h
    · cases ‹_ :: _ = []›
    · rename_i x r' heq
      simp only [List.cons.injEq] at heq
      obtain ⟨h1, rfl⟩ := heq
      split at h
      · rename_i q hq
        simp only [Option.some.injEq] at h
        subst h
        have hv := val_ok ht y
        rw [h1] at hv
        exact RAs.cons hv (avs?_ok ht l q hq)
      · cases h
    · cases h

theorem RAs.append {f : Fn} {nx : Nat} {z : Z} {a b : List AV} {u v : List Value} (h : RAs f nx z a u) (k : RAs f nx z b v) : RAs f nx z (a ++ b) (u ++ v) := by
  refine ⟨by simp [h.1, k.1], fun i x y hx hy => ?_⟩
  rcases Nat.lt_or_ge i a.length with hi | hi
  · rw [List.getElem?_append_left hi] at hx
    rw [List.getElem?_append_left (by rw [← h.1]; exact hi)] at hy
    exact h.2 i x y hx hy
  · rw [List.getElem?_append_right hi] at hx
    rw [List.getElem?_append_right (by rw [← h.1]; exact hi), ← h.1] at hy
    exact k.2 _ x y hx hy

include hG hC

theorem op_call {c : Call} (ho : o.op = .call c) {fo : Operand} (hc : c.callee = .value fo) {g : Nat} {cap : List (Nat × Nat × Nat × Nat)} (hf : st.val fo = .v (.one (.fn g cap))) {args : List AV} (ha : avs? (c.args.toList.map st.val) = some args)
    {fn : Func} (hg : G.fi g = some fn) (h : (evCallOp call draw st g (args ++ cap.map fun x => .one (.ptr x.1 x.2.1 x.2.2.1 x.2.2.2))).res = some u) : OpOk P o st u := by
  intro f z w a ht hr hno K Q hk
  obtain ⟨hfn, hbody, hname⟩ := hG.fi g fn hg
  have hv := val_ok ht fo
  rw [hf] at hv
  obtain ⟨hv, hcap⟩ := hv
  have hargs := avs?_ok ht c.args.toList args ha
  have hall : RAs f st.nx z (args ++ cap.map fun x => .one (.ptr x.1 x.2.1 x.2.2.1 x.2.2.2)) (c.args.map a.eval ++ (cap.map fun x => Value.pointer (some (ad f x.1 x.2.1 x.2.2.1 x.2.2.2))).toArray).toList := by
    rw [Array.toList_append, Array.toList_map]
    refine RAs.append hargs ⟨by simp, fun i x v hx hv => ?_⟩
    simp only [List.getElem?_map] at hx hv
    cases hq : cap[i]? with
    | none => rw [hq] at hx; cases hx
    | some q =>
      rw [hq] at hx hv
      simp only [Option.map_some, Option.some.injEq] at hx hv
      subst hx hv
      exact ⟨hcap q (List.mem_of_getElem? hq), rfl⟩
  have hrun : (execOp a.eval o).run P w = .ok (.enter g (c.args.map a.eval ++ (cap.map fun x => Value.pointer (some (ad f x.1 x.2.1 x.2.2.1 x.2.2.2))).toArray)) w := by
    have hbn : fn.body.isNone = false := by cases hb : fn.body with
      | none => rw [hb] at hbody; cases hbody
      | some _ => rfl
    simp only [execOp, ho, resolve, hc, hv, Deferred.ofValue, Sem.run_bind, Sem.run_pure, Result.andThen_ok, invoke, callFunc, run_program, hfn, hname, hbn, Bool.false_eq_true, if_false]
    simp
  unfold Oper.wp
  rw [hrun, Oper.upon_enter]
  cases draw with
  | false =>
    obtain ⟨r, hr', h⟩ := T.bind_some h
    have h := T.ret_some h
    subst h
    have hS : ∀ b, (st.H.get b).live → Sx (st.H.map (·.1)) (r.wr ++ (List.range (r.nx - st.nx)).map (st.nx + ·)) b := fun b hl => .inl (live_key _ _ hl)
    have hrA : Rel All f st.nx z w st.H := ⟨fun b _ hl => hr.own b (hS b hl) hl, fun b c _ _ hl hl' => hr.inj b c (hS b hl) (hS c hl') hl hl', hr.zok⟩
    refine hC g _ st.H st.nx r hr' f z w _ hrA hall _ fun f' z' w' v' hp hv' => ?_
    refine hk f' z' w' v' (Post.ofAll ?_ hS) hv'
    simpa using hp
  | true =>
    obtain ⟨r, hr', h⟩ := T.bind_some h
    have h := T.ret_some h
    subst h
    simp only at hr hk
    generalize hids : List.filter _ (reach st.H 4000 _ []) = ids at hr' hr hk
    have hin : ∀ b, Heap.get (st.H.filter fun e => ids.any (Nat.beq e.1)) b = if b ∈ ids then st.H.get b else .dead := fun b => by
      rw [get_filter (fun b => ids.any (Nat.beq b))]
      by_cases hb : b ∈ ids
      · rw [if_pos ((anyBeq ids b).2 hb), if_pos hb]
      · rw [if_neg (fun e => hb ((anyBeq ids b).1 e)), if_neg hb]
    have hS : ∀ b, (Heap.get (st.H.filter fun e => ids.any (Nat.beq e.1)) b).live → Sx ids ((ids.filter fun b => r.wr.any (Nat.beq b)) ++ (List.range (r.nx - st.nx)).map (st.nx + ·)) b ∧ Heap.get (st.H.filter fun e => ids.any (Nat.beq e.1)) b = st.H.get b := fun b hl => by
      rw [hin] at hl ⊢
      by_cases hb : b ∈ ids
      · rw [if_pos hb]; exact ⟨.inl hb, rfl⟩
      · rw [if_neg hb] at hl; exact hl.elim
    have hrA : Rel All f st.nx z w (st.H.filter fun e => ids.any (Nat.beq e.1)) := by
      refine ⟨fun b _ hl => ?_, fun b c _ _ hl hl' => ?_, hr.zok⟩
      · obtain ⟨h1, h2⟩ := hS b hl
        rw [h2] at hl ⊢
        exact hr.own b h1 hl
      · obtain ⟨h1, h2⟩ := hS b hl
        obtain ⟨h3, h4⟩ := hS c hl'
        rw [h2] at hl
        rw [h4] at hl'
        exact hr.inj b c h1 h3 hl hl'
    refine hC g _ _ st.nx r hr' f z w _ hrA hall _ fun f' z' w' v' hp hv' => ?_
    refine hk f' z' w' v' ?_ hv'
    have := Post.part ids hno (Post.sift (A' := r.H.filter fun e => (ids ++ (List.range (r.nx - st.nx)).map (st.nx + ·)).any (Nat.beq e.1)) hp fun b => by
      rw [get_filter (fun b => (ids ++ (List.range (r.nx - st.nx)).map (st.nx + ·)).any (Nat.beq b))]
      split
      · exact .inl rfl
      · exact .inr fun h => h)
    have hset : Sx ids (ids ++ (List.range (r.nx - st.nx)).map (st.nx + ·)) = Sx ids ((ids.filter fun b => r.wr.any (Nat.beq b)) ++ (List.range (r.nx - st.nx)).map (st.nx + ·)) := by
      funext b
      apply propext
      simp only [Sx, List.mem_append, List.mem_filter]
      constructor
      · rintro (h | h | h)
        · exact .inl h
        · exact .inl h
        · exact .inr (.inr h)
      · rintro (h | h | h)
        · exact .inl h
        · exact .inl h.1
        · exact .inr (.inr h)
    rw [hset] at this
    simpa using this

theorem evOp_ok (h : (evOp G call draw st o).res = some u) : OpOk P o st u := by
  unfold evOp at h
  split at h
  · rename_i x ho; exact op_move (.inl ho) h
  · rename_i x ho; exact op_move (.inr ho) h
  · rename_i c x y ho; exact op_pick ho h
  · rename_i t ho
    split at h
    · rename_i i hi; exact op_alloc hG ho hi h
    · exact (T.bad_some h).elim
  · rename_i t x ho
    split at h
    · rename_i v hv; exact op_box ho hv h
    · exact (T.bad_some h).elim
  · rename_i t parts ho
    split at h
    · rename_i i ps hi hp
      split at h
      · rename_i fs hk
        split at h
        · rename_i l hf; exact op_build_struct hG ho hi hp hk hf h
        · exact (T.bad_some h).elim
      · rename_i n e hk
        split at h
        · rename_i ei he
          split at h
          · rename_i l hf; exact op_build_array hG ho hi hp hk he hf h
          · exact (T.bad_some h).elim
        · exact (T.bad_some h).elim
      · exact (T.bad_some h).elim
    · exact (T.bad_some h).elim
  · rename_i t n parts ho
    split at h
    · rename_i sz by' z e ag eq ps hi hp
      split at h
      · rename_i ei he
        split at h
        · rename_i l hn hf; exact op_buildSlice hG ho hi hp rfl he hn hf h
        · exact (T.bad_some h).elim
      · exact (T.bad_some h).elim
    · exact (T.bad_some h).elim
  · rename_i t x ho
    split at h
    · rename_i i b m a j hi hv; exact op_load hG ho hi hv h
    · rename_i i l hi hv
      dsimp only at h
      split at h
      · rename_i v hlen hc; exact op_loadF hG ho hi hv hlen hc h
      · exact (T.bad_some h).elim
    · exact (T.bad_some h).elim
  · rename_i t x y ho
    split at h
    · rename_i i b m a j v hi hx hy
      split at h
      · rename_i hs; exact op_store hG ho hi hx hy hs h
      · exact (T.bad_some h).elim
    · exact (T.bad_some h).elim
  · rename_i x ho
    split at h
    · rename_i b m a j hv; exact op_nilCheck ho hv h
    · rename_i l hv; exact op_nilCheck ho hv h
    · rename_i g c hv; exact op_nilCheck ho hv h
    · exact (T.bad_some h).elim
  · rename_i op t x y t' ho
    split at h
    · rename_i a b hp hq; exact op_binOp hG ho hp hq h
    · exact (T.bad_some h).elim
  · rename_i op t x ho
    split at h
    · rename_i a hp; exact op_unOp ho hp h
    · exact (T.bad_some h).elim
  · rename_i a b x ho
    split at h
    · rename_i v hp; exact op_convert hG ho hp h
    · exact (T.bad_some h).elim
  · rename_i fn first captured ho
    split at h
    · rename_i g l hf hl; exact op_makeFunc ho rfl hf hl h
    · exact (T.bad_some h).elim
  · rename_i t l c ho
    split at h
    · rename_i sz by' z e ag eq l' c' hi hl hc
      split at h
      · rename_i ei he; exact op_makeSlice hG ho hi rfl hl hc he h
      · exact (T.bad_some h).elim
    · exact (T.bad_some h).elim
  · rename_i t r ho
    split at h
    · rename_i sz by' z kt et ag eq hi; exact op_makeMap hG ho hi rfl (.inl rfl) h
    · rename_i sz by' z kt et ag eq x hi
      split at h
      · rename_i kd n hx; exact op_makeMap hG ho hi rfl (.inr ⟨x, kd, n, rfl, hx⟩) h
      · exact (T.bad_some h).elim
    · exact (T.bad_some h).elim
  · rename_i t x y ok ho
    split at h
    · rename_i m k hx hy; exact op_lookup hG ho hx hy h
    · exact (T.bad_some h).elim
  · rename_i t x y v ho
    split at h
    · rename_i m k q hx hy hv; exact op_mapUpdate hG (.inl ho) hx hy hv h
    · exact (T.bad_some h).elim
  · rename_i t x y v ho
    split at h
    · rename_i m k q hx hy hv; exact op_mapUpdate hG (.inr ho) hx hy hv h
    · exact (T.bad_some h).elim
  · rename_i t x lo hi mx ho
    split at h
    · rename_i v hx; exact op_slice hG ho hx h
    · exact (T.bad_some h).elim
  · rename_i t x fld ho
    split at h
    · rename_i sz by' z fs ag eq v hi hv
      split at h
      · rename_i off size ty agg hf; exact op_fieldAddr hG ho hi rfl hv hf h
      · exact (T.bad_some h).elim
    · exact (T.bad_some h).elim
  · rename_i t x fld ho
    split at h
    · rename_i l hv
      split at h
      · rename_i v hf; exact op_field hG ho hv hf h
      · exact (T.bad_some h).elim
    · exact (T.bad_some h).elim
  · rename_i t x i ho
    split at h
    · rename_i v kd n hx hy; exact op_indexAddr hG ho hx hy h
    · exact (T.bad_some h).elim
  · rename_i t x i ho
    split at h
    · rename_i v kd n hx hy; exact op_index hG ho hx hy h
    · exact (T.bad_some h).elim
  · rename_i x i ho
    split at h
    · rename_i l hx
      split at h
      · rename_i v hv; exact op_extract ho hx hv h
      · exact (T.bad_some h).elim
    · exact (T.bad_some h).elim
  · rename_i c ho
    split at h
    · rename_i b hc
      unfold evBuiltin at h
      split at h
      · rename_i t0 t1 s x hts hargs; exact op_append hG ho hc hts hargs h
      · rename_i t0 r0 d x hts hargs; exact op_copy hG ho hc hts hargs h
      · rename_i t0 r0 d hts hargs; exact op_clear hG ho hc hts hargs h
      · rename_i t0 r0 b hts hargs; exact op_lenM hG ho hc hts hargs h
      · rename_i t0 r0 x hts hargs; exact op_len hG ho hc hts hargs h
      · rename_i t0 r0 x hts hargs; exact op_cap hG ho hc hts hargs h
      · exact op_max (mx := true) ho hc h
      · exact op_max (mx := false) ho hc h
      · exact (T.bad_some h).elim
    · rename_i fo hc
      split at h
      · rename_i g cap args hf ha
        split at h
        · rename_i fn hg; exact op_call hG hC ho hc hf ha hg h
        · exact (T.bad_some h).elim
      · exact (T.bad_some h).elim
    · exact (T.bad_some h).elim
  · exact (T.bad_some h).elim

end ops
end Go.Proofs.Ytggneleipimijaa.En
/- The engine, part 13: operations in a row; what a function hands back. -/
namespace Go.Proofs.Ytggneleipimijaa.En
open Go
set_option linter.unusedVariables false
set_option linter.unusedSimpArgs false

theorem forceV_eq {β : Type} (sym : Bool) (v : SV) (k : SV → β) : forceV sym v k = k v := by
  unfold forceV
  split <;> rfl

theorem Post.weak {S : Nat → Prop} {f f' : Fn} {nx nx' : Nat} {z z' : Z} {w w' : World} {H H' : Heap} {e e' : Bool} (h : Post S f nx z w H f' nx' z' w' H' e) (he : e' = false → e = false) : Post S f nx z w H f' nx' z' w' H' e' :=
  ⟨h.hnx, h.ext, h.zle, h.znew, h.same, h.dead, h.rel, h.fresh, h.fr, fun h' => h.noesc (he h')⟩

theorem TR.slot {f : Fn} {nx : Nat} {z : Z} {s : Slots} {a : Array Value} (h : TR f nx z s a) {t : Nat} {v : Value} (hs : s.get t = .v (.one (.f (.lit v)))) (hv : v ≠ undef) : a[t]? = some v := by
  have h1 := h t
  rw [hs] at h1
  have h1 := lit_ok h1
  cases hq : a[t]? with
  | none => simp [hq] at h1; exact absurd h1.symm hv
  | some q => simp [hq] at h1; rw [h1]

theorem put_TR {f : Fn} {nx : Nat} {z : Z} {sl : Slots} {a : Act} {N : Nat} {d : Option Nat} {x : SV} {v : Value} {st : St} (hst : st.sl = sl) (ht : TR f nx z sl a.tmps) (hN : a.tmps.size = N) (hd : (match d with | some d => Nat.ble (d + 1) N | none => true) = true) (hx : RS f nx z x v) :
    TR f nx z (st.put d x).sl (a.put d v).tmps ∧ (a.put d v).tmps.size = N ∧ (a.put d v).defers = a.defers := by
  cases d with
  | none => exact ⟨by simpa [St.put, Act.put, hst] using ht, hN, rfl⟩
  | some d =>
    have hd := nble hd
    refine ⟨?_, by simpa [Act.put] using hN, rfl⟩
    simp only [St.put, Act.put, hst]
    exact ht.put (by omega) hx

theorem put_H (st : St) (d : Option Nat) (v : SV) : (st.put d v).H = st.H ∧ (st.put d v).nx = st.nx ∧ (st.put d v).esc = st.esc := by
  cases d <;> exact ⟨rfl, rfl, rfl⟩

theorem Post.reflA {f : Fn} {nx : Nat} {z : Z} {w : World} {H : Heap} {esc : Bool} (hr : Rel All f nx z w H) : Post All f nx z w H f nx z w H esc := Post.refl hr hr.noLive

section ops
variable {P : Program} {G : Ctx} (hG : CtxOk P G) {call : CallF} (hC : CallOk P call)
include hG hC

theorem evOps_seq {N : Nat} {ops : Array Oper} {Q : Exit → Act → World → Prop} : ∀ (l : List Oper) (k : Nat) (st : St) (st' : St), (∀ i, l[i]? = ops.toList[k + i]?) → (evOps G call N ops.toList l st).res = some st' →
    (st'.esc = false → st.esc = false) ∧ ∀ (f : Fn) (z : Z) (w : World) (a : Act), TR f st.nx z st.sl a.tmps → Rel All f st.nx z w st.H → a.tmps.size = N →
      (∀ f' z' w' a', Post All f st.nx z w st.H f' st'.nx z' w' st'.H st'.esc → TR f' st'.nx z' st'.sl a'.tmps → a'.tmps.size = N → a'.defers = a.defers → Q .normal a' w') → wpOps P ops Q (List.range' k l.length) a w
  | [], k, st, st', hl, h => by
    have h := T.ret_some h
    subst h
    refine ⟨id, fun f z w a ht hr hN hQ => ?_⟩
    simp only [List.length_nil, List.range'_zero, wpOps]
    exact hQ f z w a (Post.reflA hr) ht hN rfl
  | o :: l, k, st, st', hl, h => by
    have ho : ops[k]? = some o := by
      have := hl 0
      simp only [List.getElem?_cons_zero, Nat.add_zero] at this
      simpa using this.symm
    have hl' : ∀ i, l[i]? = ops.toList[k + 1 + i]? := fun i => by
      have := hl (i + 1)
      rw [List.getElem?_cons_succ] at this
      rw [this]
      congr 1
      omega
    -- an operation is run
    have doit : ∀ (st1 : St), st1.H = st.H → st1.nx = st.nx → st1.esc = st.esc → (match o.dst with | some d => Nat.ble (d + 1) N | none => true) = true →
        ((evOp G call false st1 o).bind fun u => forceV G.sym u.v fun v => evOps G call N ops.toList l ((st1.up u).put o.dst v)).res = some st' →
        (st'.esc = false → st.esc = false) ∧ ∀ (f : Fn) (z : Z) (w : World) (a : Act), TR f st.nx z st1.sl a.tmps → Rel All f st.nx z w st.H → a.tmps.size = N →
          (∀ f' z' w' a', Post All f st.nx z w st.H f' st'.nx z' w' st'.H st'.esc → TR f' st'.nx z' st'.sl a'.tmps → a'.tmps.size = N → a'.defers = a.defers → Q .normal a' w') → o.wp P a w (wpOps P ops Q (List.range' (k + 1) l.length)) Q := by
      intro st1 e1 e2 e3 hd h
      obtain ⟨u, hu, h⟩ := T.bind_some h
      rw [forceV_eq] at h
      obtain ⟨p1, p2, p3⟩ := put_H (st1.up u) o.dst u.v
      obtain ⟨i1, i2⟩ := evOps_seq l (k + 1) _ st' hl' h
      rw [p3] at i1
      have i1 : st'.esc = false → (st1.esc || u.esc) = false := i1
      refine ⟨fun he => ?_, fun f z w a ht hr hN hQ => ?_⟩
      · have := i1 he
        rw [e3] at this
        simp only [Bool.or_eq_false_iff] at this
        exact this.1
      · have hop := evOp_ok hG hC hu
        rw [← e2] at ht hr
        rw [← e1] at hr
        refine hop f z w a ht (hr.less fun b _ => trivial) hr.noLive _ Q fun f' z' w' v' hp hv => ?_
        have hp := Post.lift hr hp
        obtain ⟨q1, q2, q3⟩ := put_TR (st := (st1.up u)) rfl (ht.mono hp.ext hp.hnx hp.zle) hN hd hv
        refine i2 f' z' w' (a.put o.dst v') (by rw [p2]; exact q1) (by rw [p1, p2]; exact hp.all) q2 fun f'' z'' w'' a'' hp2 ht2 hN2 hd2 => ?_
        rw [p1, p2] at hp2
        rw [← e1, ← e2] at hQ
        refine hQ f'' z'' w'' a'' ((Post.trans hp hp2).weak fun he => ?_) ht2 hN2 (hd2.trans q3)
        have := i1 he
        simp only [Bool.or_eq_false_iff] at this ⊢
        exact ⟨this.2, he⟩
    simp only [evOps] at h
    split at h
    · exact (T.bad_some h).elim
    rename_i hd
    have hd' : (match o.dst with | some d => Nat.ble (d + 1) N | none => true) = true := hd
    split at h
    · rename_i hgd
      obtain ⟨a1, a2⟩ := doit st rfl rfl rfl hd' h
      refine ⟨a1, fun f z w a ht hr hN hQ => ?_⟩
      simp only [List.length_cons, List.range'_succ, wpOps, ho]
      rw [if_pos (by simp [Region.wanted, hgd])]
      exact .inl (a2 f z w a ht hr hN hQ)
    · rename_i j want hgd
      split at h
      · exact (T.bad_some h).elim
      rename_i t hj
      have hj' : (ops[j]?).bind (·.dst) = some t := by simpa using hj
      -- it isn't carried out
      have skip : ∀ (st1 : St), st1.H = st.H → st1.nx = st.nx → st1.esc = st.esc → (evOps G call N ops.toList l (st1.put o.dst (.tup []))).res = some st' →
          (∀ (f : Fn) (z : Z) (w : World) (a : Act), TR f st.nx z st.sl a.tmps → TR f st1.nx z st1.sl a.tmps ∧ Region.wanted o (yielded ops a.tmps) = false) →
          (st'.esc = false → st.esc = false) ∧ ∀ (f : Fn) (z : Z) (w : World) (a : Act), TR f st.nx z st.sl a.tmps → Rel All f st.nx z w st.H → a.tmps.size = N →
            (∀ f' z' w' a', Post All f st.nx z w st.H f' st'.nx z' w' st'.H st'.esc → TR f' st'.nx z' st'.sl a'.tmps → a'.tmps.size = N → a'.defers = a.defers → Q .normal a' w') → wpOps P ops Q (List.range' k (o :: l).length) a w := by
        intro st1 e1 e2 e3 h hw
        obtain ⟨p1, p2, p3⟩ := put_H st1 o.dst (.tup [])
        obtain ⟨i1, i2⟩ := evOps_seq l (k + 1) _ st' hl' h
        rw [p3, e3] at i1
        refine ⟨i1, fun f z w a ht hr hN hQ => ?_⟩
        obtain ⟨ht2, hwant⟩ := hw f z w a ht
        simp only [List.length_cons, List.range'_succ, wpOps, ho]
        rw [if_neg (by rw [hwant]; simp)]
        obtain ⟨q1, q2, q3⟩ := put_TR (x := .tup []) (v := undef) (st := st1) rfl ht2 hN hd' ⟨#[], rfl, RAs.nil⟩
        refine i2 f z w _ (by rw [p2]; exact q1) (by rw [p1, p2, e1, e2]; exact hr) q2 fun f'' z'' w'' a'' hp2 ht3 hN2 hd2 => ?_
        rw [p1, p2, e1, e2] at hp2
        exact hQ f'' z'' w'' a'' hp2 ht3 hN2 (hd2.trans q3)
      split at h
      · rename_i hnone
        refine skip st rfl rfl rfl h fun f z w a ht => ⟨ht, ?_⟩
        have h1 := ht t
        cases hs : st.sl.get t with
        | v x => rw [hs] at hnone; cases hnone
        | top => rw [hs] at hnone; cases hnone
        | tup l' =>
          cases l' with
          | cons x l' => rw [hs] at hnone; cases hnone
          | nil =>
            rw [hs] at h1
            obtain ⟨vs, h1, _⟩ := h1
            have : yielded ops a.tmps j = none := by
              simp only [yielded, hj', Option.bind_some]
              cases hq : a.tmps[t]? with
              | none => rfl
              | some v =>
                rw [Array.getD_eq_getD_getElem?, hq] at h1
                simp only [Option.getD_some] at h1
                rw [h1]
            simp only [Region.wanted, hgd, this]
            rfl
      obtain ⟨c, hc, h⟩ := split_some h
      obtain ⟨s1, s2, s3⟩ := setB_H st (.tmp t) c
      have hwant : ∀ (f : Fn) (z : Z) (w : World) (a : Act), TR f st.nx z st.sl a.tmps → Region.wanted o (yielded ops a.tmps) = (c == want) := by
        intro f z w a ht
        have hs := ht.slot (t := t) (v := .bool c) hc (by intro h; cases h)
        have : yielded ops a.tmps j = some c := by simp [yielded, hj', hs]
        simp only [Region.wanted, hgd, this]
        cases c <;> cases want <;> rfl
      split at h
      · rename_i hcw
        have hcw' : (c == want) = true := by revert hcw; cases c <;> cases want <;> simp
        obtain ⟨a1, a2⟩ := doit (st.setB (.tmp t) c) s1 s2 s3 hd' h
        refine ⟨a1, fun f z w a ht hr hN hQ => ?_⟩
        simp only [List.length_cons, List.range'_succ, wpOps, ho]
        rw [if_pos (by rw [hwant f z w a ht, hcw'])]
        have ht2 := setB_TR ht hc
        rw [s2] at ht2
        exact .inl (a2 f z w a ht2 hr hN hQ)
      · rename_i hcw
        have hcw' : (c == want) = false := by revert hcw; cases c <;> cases want <;> simp
        refine skip (st.setB (.tmp t) c) s1 s2 s3 h fun f z w a ht => ⟨?_, by rw [hwant f z w a ht, hcw']⟩
        exact setB_TR ht hc

end ops

/-- what stands in an own block leads to no block that isn't there yet -/
theorem RC.inside {f : Fn} {nx : Nat} {z : Z} {x : CV} {v : Value} (h : RC f nx z x v) : x.beyond nx = false := by
  have key : ∀ b, b < nx → Nat.ble nx b = false := fun b hb => by
    cases hq : Nat.ble nx b with
    | false => rfl
    | true => have := nble hq; omega
  cases x with
  | f x => rfl
  | ptr b m i j => exact key _ h.1
  | sl nil b m i j len cap ex sz => exact key _ h.1
  | mp b => exact key _ h.1
  | fn g l =>
    simp only [CV.beyond, List.any_eq_false, Bool.not_eq_true]
    exact fun x hx => key _ (h.2 x hx)

theorem Rel.noNew {f : Fn} {nx : Nat} {z : Z} {w : World} {H : Heap} (hr : Rel All f nx z w H) : NoNew nx H := by
  intro b l hb hg x hx
  have hl : (H.get b).live := by rw [hg]; trivial
  obtain ⟨_, hok⟩ := hr.own b trivial hl
  obtain ⟨i, hi⟩ := List.mem_iff_getElem?.1 hx
  obtain ⟨_, v, _, hc⟩ := hok.cell 0 0 i x (by rw [hg]; simp [Ob.at, hi])
  exact hc.inside

theorem popK_go {β : Type} (n0 : Nat) (u : CallOut) : ∀ (H : Heap) (k : CallOut → β), popK.go n0 u H k = k ⟨u.v, H.filter (fun e => !(Nat.ble n0 e.1)), n0, false, u.wr⟩
  | [], k => rfl
  | (b, o) :: r, k => by
    simp only [popK.go]
    split
    · rename_i hb
      rw [popK_go n0 u r k, List.filter_cons, if_neg (by simp [hb])]
    · rename_i hb
      rw [popK_go n0 u r _, List.filter_cons, if_pos (by simp [hb])]

theorem RA.below {f : Fn} {nx n0 : Nat} {z : Z} {x : AV} {v : Value} (h : RA f nx z x v) (hb : x.cells.any (CV.beyond n0) = false) : RA f n0 z x v := by
  rw [List.any_eq_false] at hb
  cases x with
  | one x => exact RC.below h (by simpa using hb x (by simp [AV.cells]))
  | agg l =>
    obtain ⟨cs, rfl, h1, h2⟩ := h
    exact ⟨cs, rfl, h1, fun i y w hy hw => RC.below (h2 i y w hy hw) (by simpa using hb y (List.mem_of_getElem? hy))⟩

theorem RS.below {f : Fn} {nx n0 : Nat} {z : Z} {x : SV} {v : Value} (h : RS f nx z x v) (hb : ownRefs n0 x = false) : RS f n0 z x v := by
  cases x with
  | v x => exact RA.below h hb
  | tup l =>
    obtain ⟨vs, rfl, h1, h2⟩ := h
    simp only [ownRefs, List.any_eq_false] at hb
    refine ⟨vs, rfl, h1, fun i y w hy hw => RA.below (h2 i y w hy hw) ?_⟩
    have := hb y (List.mem_of_getElem? hy)
    simpa using this
  | top => trivial

theorem pop_ok {f f' : Fn} {nx : Nat} {z z' : Z} {w w' : World} {H : Heap} {u r : CallOut} {v : Value} (hr : Rel All f nx z w H) (h : Post All f nx z w H f' u.nx z' w' u.H u.esc) (hv : RS f' u.nx z' u.v v) (hp : (popK nx u T.ret).res = some r) :
    Post All f nx z w H f' r.nx z' w' r.H r.esc ∧ RS f' r.nx z' r.v v := by
  unfold popK at hp
  split at hp
  · have hp := T.ret_some hp
    subst hp
    exact ⟨h, hv⟩
  · rename_i hc
    rw [Bool.or_eq_false_iff] at hc
    rw [popK_go] at hp
    have hp := T.ret_some hp
    subst hp
    have hg : ∀ b, Heap.get (u.H.filter fun e => !(Nat.ble nx e.1)) b = if b < nx then u.H.get b else .dead := fun b => by
      rw [get_filter (fun b => !(Nat.ble nx b))]
      by_cases hb : b < nx
      · have : Nat.ble nx b = false := by
          cases hq : Nat.ble nx b with
          | false => rfl
          | true => have := nble hq; omega
        rw [if_pos (by rw [this]; rfl), if_pos hb]
      · rw [if_neg (by rw [Nat.ble_eq_true_of_le (by omega)]; simp), if_neg hb]
    have hlv : ∀ b, (Heap.get (u.H.filter fun e => !(Nat.ble nx e.1)) b).live → b < nx ∧ (u.H.get b).live := fun b hl => by
      rw [hg] at hl
      by_cases hb : b < nx
      · rw [if_pos hb] at hl; exact ⟨hb, hl⟩
      · rw [if_neg hb] at hl; exact hl.elim
    have hnn := h.noesc hc.1 nx (Nat.le_refl _) hr.noNew
    refine ⟨⟨Nat.le_refl _, h.ext, h.zle, h.znew, fun b _ hs => absurd trivial hs, fun b hb hl => h.dead b hb (hlv b hl).2, ⟨fun b _ hl => ?_, fun b c _ _ hl hl' => h.rel.inj b c (.inl trivial) (.inl trivial) (hlv b hl).2 (hlv c hl').2, h.rel.zok⟩,
      fun b hb hl => by have := (hlv b hl).1; omega, h.fr, fun _ m hm hN b l hb hgl => ?_⟩, hv.below hc.2⟩
    · obtain ⟨hb, hl0⟩ := hlv b hl
      refine ⟨hb, ?_⟩
      rw [hg, if_pos hb]
      obtain ⟨_, hok⟩ := h.rel.own b (.inl trivial) hl0
      refine ⟨hok.lt, hok.own, hok.room, fun m i j x hx => ?_, hok.map⟩
      obtain ⟨h1, q, h2, h3⟩ := hok.cell m i j x hx
      refine ⟨h1, q, h2, RC.below h3 ?_⟩
      cases hob : u.H.get b with
      | cells l =>
        rw [hob] at hx
        simp only [Ob.at] at hx
        split at hx
        · exact hnn b l hb hob x (List.mem_of_getElem? hx)
        · cases hx
      | arr live sz n e =>
        rw [hob] at hx
        simp only [Ob.at] at hx
        split at hx
        · cases hq : (e i)[j]? with
          | none => rw [hq] at hx; cases hx
          | some y => rw [hq] at hx; simp only [Option.map_some, Option.some.injEq] at hx; subst hx; rfl
        · cases hx
      | map es => rw [hob] at hx; cases hx
      | dead => rw [hob] at hx; cases hx
    · rw [hg, if_pos (by omega)] at hgl
      exact h.noesc hc.1 m hm hN b l hb hgl

theorem argSlots_get : ∀ (l : List AV) (n t : Nat), (argSlots n l).get t = match (if n ≤ t then l[t - n]? else none) with | some x => .v x | none => .top
  | [], n, t => by simp [argSlots, Slots.get]
  | a :: r, n, t => by
    simp only [argSlots]
    rw [Slots.get_cons, argSlots_get r (n + 1) t]
    by_cases e : n = t
    · subst e; simp
    · by_cases h : n ≤ t
      · have h2 : n + 1 ≤ t := by omega
        simp only [e, h, h2, if_true, if_false]
        rw [show t - n = (t - (n + 1)) + 1 by omega, List.getElem?_cons_succ]
      · have h2 : ¬ n + 1 ≤ t := by omega
        simp [e, h, h2]

theorem argSlots_TR {f : Fn} {nx : Nat} {z : Z} {args : List AV} {vs : Array Value} (h : RAs f nx z args vs.toList) (k : Nat) : TR f nx z (argSlots 0 args) (vs ++ Array.replicate k undef) := by
  intro t
  rw [argSlots_get]
  simp only [Nat.zero_le, if_true, Nat.sub_zero]
  cases hx : args[t]? with
  | none => trivial
  | some x =>
    have hlt : t < vs.toList.length := by rw [← h.1]; exact (List.getElem?_eq_some_iff.1 hx).1
    have hlt' : t < vs.size := by simpa using hlt
    have := h.2 t x vs[t] hx (by simp [hlt'])
    have e : (vs ++ Array.replicate k undef).getD t undef = vs[t] := by
      rw [Array.getD_eq_getD_getElem?, Array.getElem?_append_left hlt']
      simp [hlt']
    rw [e]
    exact this

theorem resultsOf_ok {P : Program} {G : Ctx} (hG : CtxOk P G) {f : Fn} {z : Z} {w : World} {st : St} {a : Array Value} (ht : TR f st.nx z st.sl a) (hr : Rel All f st.nx z w st.H) : ∀ (l : List ResultVar) (r : List AV), (resultsOf G st l).res = some r →
    ∃ vs : List Value, (l.mapM fun | .tmp t => pure (a.getD t undef) | .cell x t => do loadVar t (← asAddr (a.getD x undef)) : Sem (List Value)).run P w = .ok vs w ∧ RAs f st.nx z r vs
  | [], r, h => by
    have h := T.ret_some h
    subst h
    exact ⟨[], rfl, RAs.nil⟩
  | .tmp t :: l, r, h => by
    simp only [resultsOf] at h
    split at h
    · rename_i x hx
      obtain ⟨q, hq, h⟩ := T.bind_some h
      have h := T.ret_some h
      subst h
      obtain ⟨vs, h1, h2⟩ := resultsOf_ok hG ht hr l q hq
      have hv := ht t
      rw [hx] at hv
      refine ⟨a.getD t undef :: vs, ?_, RAs.cons hv h2⟩
      simp only [List.mapM_cons, Sem.run_bind, Sem.run_pure, Result.andThen_ok, h1]
    · exact (T.bad_some h).elim
  | .cell x t :: l, r, h => by
    simp only [resultsOf] at h
    split at h
    · rename_i i b m c j hi hx
      obtain ⟨cl, hcl, h⟩ := T.bind_some h
      split at h
      · rename_i v hv
        obtain ⟨q, hq, h⟩ := T.bind_some h
        have h := T.ret_some h
        subst h
        obtain ⟨vs, h1, h2⟩ := resultsOf_ok hG ht hr l q hq
        have hp := ht x
        rw [hx] at hp
        obtain ⟨hb, hp⟩ := hp
        have hlive := (Ob.rd_ok hcl).2.1
        obtain ⟨_, hok⟩ := hr.own b trivial hlive
        obtain ⟨us, r1, r2, r3⟩ := hok.read hcl
        obtain ⟨y, y1, y2⟩ := run_loadVar' (hG.ti t i hi) r1 r2 hv w (ad f b m c j) r3
        refine ⟨y :: vs, ?_, RAs.cons y2 h2⟩
        rw [List.mapM_cons, Sem.run_bind]
        show Result.andThen ((do loadVar t (← asAddr (a.getD x undef))).run P w) _ = _
        rw [hp]
        have e0 : (do loadVar t (← asAddr (Value.pointer (some (ad f b m c j)))) : Sem Value) = loadVar t (ad f b m c j) := rfl
        rw [e0, y1, Result.andThen_ok, Sem.run_bind]
        erw [h1]
        rfl
      · exact (T.bad_some h).elim
    · exact (T.bad_some h).elim

end Go.Proofs.Ytggneleipimijaa.En
/- The engine, part 14: what an operation writes is all that it changes. -/
namespace Go.Proofs.Ytggneleipimijaa.En
open Go
set_option linter.unusedVariables false
set_option linter.unusedSimpArgs false

def T.Every {α : Type} (p : α → Prop) : T α → Prop
  | .ret a => p a
  | .br _ t e => t.Every p ∧ e.Every p
  | .bad => True

theorem T.Every.res {α : Type} {p : α → Prop} : ∀ {t : T α} {a : α}, t.Every p → t.res = some a → p a
  | .ret b, a, h, e => by
    simp only [T.res, Option.some.injEq] at e
    subst e
    exact h
  | .br b t e, a, h, he => by
    cases b with
    | true => exact T.Every.res (t := t) h.1 he
    | false => exact T.Every.res (t := e) h.2 he
  | .bad, a, h, e => by cases e

theorem T.Every.bind {α β : Type} {p : β → Prop} {k : α → T β} (h : ∀ a, (k a).Every p) : ∀ (t : T α), (t.bind k).Every p
  | .ret a => h a
  | .br b t e => ⟨T.Every.bind h t, T.Every.bind h e⟩
  | .bad => trivial

theorem T.Every.need {α : Type} {p : α → Prop} {b : Bool} {t : T α} (h : t.Every p) : (T.need b t).Every p := ⟨h, trivial⟩

theorem T.Every.bind2 {α β : Type} {q : α → Prop} {p : β → Prop} {k : α → T β} (h : ∀ a, q a → (k a).Every p) : ∀ {t : T α}, t.Every q → (t.bind k).Every p
  | .ret a, ha => h a ha
  | .br b t e, ⟨h1, h2⟩ => ⟨T.Every.bind2 h h1, T.Every.bind2 h h2⟩
  | .bad, _ => trivial

/-- what isn't written is as it was; 'd': also where nothing was -/
def Keeps (d : Bool) (st : St) (u : Out) : Prop := st.nx ≤ u.nx ∧ ∀ b, (d = true ∨ b < st.nx) → b ∉ u.wr → u.H.get b = st.H.get b

def CallKeeps (call : CallF) : Prop := ∀ g args H nx, (call g args H nx).Every fun o => nx ≤ o.nx ∧ ∀ b, b < nx → b ∉ o.wr → o.H.get b = H.get b

theorem keeps_same {d : Bool} {st : St} {v : SV} {e : Bool} {fp wr : List Nat} : (T.ret ⟨v, st.H, st.nx, e, fp, wr⟩ : T Out).Every (Keeps d st) := ⟨Nat.le_refl _, fun _ _ _ => rfl⟩

theorem keeps_pure {d : Bool} {st : St} {v : SV} : (pure1 st v).Every (Keeps d st) := keeps_same

theorem keeps_cons {d : Bool} {st : St} {v : SV} {o : Ob} {e : Bool} {fp : List Nat} : (T.ret ⟨v, (st.nx, o) :: st.H, st.nx + 1, e, fp, [st.nx]⟩ : T Out).Every (Keeps d st) := ⟨Nat.le_succ _, fun b _ hb => by
  simp only [List.mem_singleton] at hb
  simp only
  rw [Heap.get_cons, if_neg (fun e => hb e.symm)]⟩

theorem keeps_new {d : Bool} {st : St} {l : List CV} {v : Nat → SV} : (newBlock st l v).Every (Keeps d st) := keeps_cons

theorem keeps_put {d : Bool} {st : St} {v : SV} {b : Nat} {o : Ob} {e : Bool} {fp : List Nat} : (T.ret ⟨v, st.H.put b o, st.nx, e, fp, [b]⟩ : T Out).Every (Keeps d st) := ⟨Nat.le_refl _, fun c _ hc => by
  simp only [List.mem_singleton] at hc
  simp only
  rw [Heap.get_put, if_neg (fun e => hc e.symm)]⟩

theorem get_kill : ∀ (l : List Nat) (H : Heap) (b : Nat), b ∉ l → (l.foldl (fun H b => H.put b .dead) H).get b = H.get b
  | [], _, _, _ => rfl
  | c :: l, H, b, h => by
    simp only [List.mem_cons, not_or] at h
    rw [List.foldl_cons, get_kill l _ b h.2, Heap.get_put, if_neg (fun e => h.1 e.symm)]

theorem keeps_grown {d : Bool} {st : St} {kill : List Nat} {sz : Nat} {s : Src} {fp : List Nat} : (grown st kill sz s fp).Every (Keeps d st) := by
  unfold grown
  cases s with
  | flat n l =>
    refine ⟨Nat.le_succ _, fun b _ hb => ?_⟩
    simp only [List.mem_cons, not_or] at hb
    simp only
    rw [Heap.get_cons, if_neg (fun e => hb.1 e.symm), get_kill _ _ _ hb.2]
  | fn n e =>
    refine ⟨Nat.le_succ _, fun b _ hb => ?_⟩
    simp only [List.mem_cons, not_or] at hb
    simp only
    rw [Heap.get_cons, if_neg (fun e => hb.1 e.symm), get_kill _ _ _ hb.2]

theorem get_append_out : ∀ (A B : Heap) (b : Nat), (∀ e ∈ A, e.1 ≠ b) → Heap.get (A ++ B) b = B.get b
  | [], _, _, _ => rfl
  | (k, o) :: A, B, b, h => by
    rw [List.cons_append, Heap.get_cons, if_neg (h (k, o) (by simp)), get_append_out A B b fun e he => h e (by simp [he])]

theorem keeps_call {d : Bool} {call : CallF} (hC : CallKeeps call) {st : St} {g : Nat} {args : List AV} : (evCallOp call d st g args).Every (Keeps d st) := by
  unfold evCallOp
  cases d with
  | false =>
    refine T.Every.bind2 (p := Keeps false st) (fun o ho => ?_) (hC _ _ _ _)
    refine ⟨ho.1, fun b hb hw => ?_⟩
    simp only [List.mem_append, not_or] at hw
    exact ho.2 b (hb.resolve_left (by simp)) hw.1
  | true =>
    simp only
    generalize hids : List.filter _ (reach st.H 4000 _ []) = ids
    have hlt : ∀ b ∈ ids, b < st.nx := fun b hb => by
      rw [← hids, List.mem_filter] at hb
      exact nble hb.2
    refine T.Every.bind2 (p := Keeps true st) (fun o ho => ?_) (hC _ _ _ _)
    refine ⟨ho.1, fun b _ hb => ?_⟩
    simp only [List.mem_append, List.mem_filter, not_or, not_and, Bool.not_eq_true] at hb
    have hin : Heap.get (st.H.filter fun e => ids.any (Nat.beq e.1)) b = if ids.any (Nat.beq b) = true then st.H.get b else .dead := get_filter (fun b => ids.any (Nat.beq b)) _ _
    have hout : Heap.get (st.H.filter fun e => !(ids.any (Nat.beq e.1))) b = if (!(ids.any (Nat.beq b))) = true then st.H.get b else .dead := get_filter (fun b => !(ids.any (Nat.beq b))) _ _
    have hnew : Heap.get (o.H.filter fun e => (ids ++ (List.range (o.nx - st.nx)).map (st.nx + ·)).any (Nat.beq e.1)) b = if (ids ++ (List.range (o.nx - st.nx)).map (st.nx + ·)).any (Nat.beq b) = true then o.H.get b else .dead :=
      get_filter (fun b => (ids ++ (List.range (o.nx - st.nx)).map (st.nx + ·)).any (Nat.beq b)) _ _
    by_cases hi : b ∈ ids
    · have hnw : b ∉ o.wr := fun h => by
        have := hb.1 hi
        rw [(anyBeq _ _).2 h] at this
        cases this
      have e1 := ho.2 b (hlt b hi) hnw
      rw [hin, if_pos ((anyBeq _ _).2 hi)] at e1
      rw [if_pos ((anyBeq _ _).2 (List.mem_append.2 (.inl hi)))] at hnew
      rw [if_neg (by rw [(anyBeq _ _).2 hi]; simp)] at hout
      rcases get_append (o.H.filter fun e => (ids ++ (List.range (o.nx - st.nx)).map (st.nx + ·)).any (Nat.beq e.1)) (st.H.filter fun e => !(ids.any (Nat.beq e.1))) b with h | ⟨h1, h2⟩
      · rw [h, hnew, e1]
      · rw [h2, hout, ← e1, ← hnew, h1]
    · rw [get_append_out, hout, if_pos]
      · cases hq : ids.any (Nat.beq b) with
        | false => rfl
        | true => exact absurd ((anyBeq _ _).1 hq) hi
      · intro e he heq
        rw [List.mem_filter] at he
        have := (anyBeq _ _).1 he.2
        rw [heq] at this
        rcases List.mem_append.1 this with h | h
        · exact hi h
        · exact hb.2 h

theorem keeps_pick {d : Bool} {st : St} {x : Operand} {k : Bool → St → SV} : (split st x fun b s => pure1 s (k b s)).Every (Keeps d st) := by
  unfold split
  split
  · refine ⟨⟨?_, fun b _ _ => ?_⟩, ⟨?_, fun b _ _ => ?_⟩⟩ <;> simp only
    · rw [(setB_H st x true).2.1]; exact Nat.le_refl _
    · rw [(setB_H st x true).1]
    · rw [(setB_H st x false).2.1]; exact Nat.le_refl _
    · rw [(setB_H st x false).1]
  · trivial

theorem evOp_keeps {d : Bool} {G : Ctx} {call : CallF} (hC : CallKeeps call) {st : St} {o : Oper} : (evOp G call d st o).Every (Keeps d st) := by
  unfold evOp
  split <;> repeat' (first
    | exact keeps_pick | exact keeps_pure | exact keeps_new | exact keeps_same | exact keeps_cons | exact keeps_call hC | exact keeps_grown | exact keeps_put | trivial
    | refine T.Every.need ?_
    | (refine T.Every.bind (fun _ => ?_) _)
    | (unfold evBuiltin) | (unfold evLenM) | (unfold evAppend) | (unfold evCopy) | (unfold evClear) | (unfold evConvert) | (unfold evLookup) | (unfold evMapUpdate) | (unfold lookS)
    | (rw [Heap.putK_eq])
    | split | refine ⟨?_, ?_⟩ | dsimp only)

/-! the same of code -/

def Kp (st st' : St) : Prop := st'.base = st.base ∧ st.nx ≤ st'.nx ∧ ∀ b, b < st.base → b < st.nx → b ∉ st'.wr → b ∉ st.wr ∧ st'.H.get b = st.H.get b

theorem Kp.refl (st : St) : Kp st st := ⟨rfl, Nat.le_refl _, fun _ _ _ h => ⟨h, rfl⟩⟩

theorem Kp.trans {a b c : St} (h : Kp a b) (k : Kp b c) : Kp a c :=
  ⟨k.1.trans h.1, Nat.le_trans h.2.1 k.2.1, fun x h1 h2 h3 => by
    obtain ⟨k1, k2⟩ := k.2.2 x (by rw [h.1]; exact h1) (Nat.lt_of_lt_of_le h2 h.2.1) h3
    obtain ⟨h4, h5⟩ := h.2.2 x h1 h2 k1
    exact ⟨h4, k2.trans h5⟩⟩

theorem Kp.of {a b : St} (h1 : b.base = a.base) (h2 : b.nx = a.nx) (h3 : b.wr = a.wr) (h4 : b.H = a.H) : Kp a b :=
  ⟨h1, by rw [h2]; exact Nat.le_refl _, fun x _ _ h => ⟨by rw [← h3]; exact h, by rw [h4]⟩⟩

theorem Kp.put (st : St) (d : Option Nat) (v : SV) : Kp st (st.put d v) := by cases d <;> exact Kp.of rfl rfl rfl rfl
theorem Kp.setB (st : St) (x : Operand) (b : Bool) : Kp st (st.setB x b) := by cases x <;> exact Kp.of rfl rfl rfl rfl

theorem addWr_mem {base b : Nat} (hb : b < base) : ∀ (l acc : List Nat), (b ∈ l ∨ b ∈ acc) → b ∈ addWr base l acc
  | [], acc, h => h.resolve_left (by simp)
  | c :: l, acc, h => by
    simp only [addWr]
    split
    · rename_i hc
      refine addWr_mem hb l acc ?_
      rcases h with h | h
      · rcases List.mem_cons.1 h with rfl | h
        · rw [Bool.or_eq_true] at hc
          rcases hc with hc | hc
          · have := nble hc; omega
          · exact .inr ((anyBeq _ _).1 hc)
        · exact .inl h
      · exact .inr h
    · refine addWr_mem hb l (c :: acc) ?_
      rcases h with h | h
      · rcases List.mem_cons.1 h with rfl | h
        · exact .inr (by simp)
        · exact .inl h
      · exact .inr (by simp [h])

theorem Kp.up {d : Bool} {st : St} {u : Out} (h : Keeps d st u) : Kp st (st.up u) :=
  ⟨rfl, h.1, fun b h1 h2 h3 => ⟨fun h4 => h3 (addWr_mem h1 _ _ (.inr h4)), h.2 b (.inr h2) fun h4 => h3 (addWr_mem h1 _ _ (.inl h4))⟩⟩

theorem T.Every.mono {α : Type} {p q : α → Prop} (h : ∀ a, p a → q a) : ∀ {t : T α}, t.Every p → t.Every q
  | .ret a, ha => h a ha
  | .br b t e, ⟨h1, h2⟩ => ⟨T.Every.mono h h1, T.Every.mono h h2⟩
  | .bad, _ => trivial

theorem evOps_keeps {G : Ctx} {call : CallF} (hC : CallKeeps call) {N : Nat} {all : List Oper} : ∀ (l : List Oper) (st : St), (evOps G call N all l st).Every (Kp st)
  | [], st => Kp.refl st
  | o :: l, st => by
    have run : ∀ st1, Kp st st1 → ((evOp G call false st1 o).bind fun u => forceV G.sym u.v fun v => evOps G call N all l ((st1.up u).put o.dst v)).Every (Kp st) := fun st1 h1 =>
      T.Every.bind2 (fun u hu => by
        rw [forceV_eq]
        exact (evOps_keeps hC l _).mono fun st' h => h1.trans ((Kp.up hu).trans ((Kp.put _ _ _).trans h))) (evOp_keeps hC)
    have skip : ∀ st1, Kp st st1 → (evOps G call N all l (st1.put o.dst (.tup []))).Every (Kp st) := fun st1 h1 => (evOps_keeps hC l _).mono fun st' h => h1.trans ((Kp.put _ _ _).trans h)
    simp only [evOps]
    split
    · trivial
    · split
      · exact run st (Kp.refl st)
      · split
        · trivial
        · split
          · exact skip st (Kp.refl st)
          · unfold split
            split
            · refine ⟨?_, ?_⟩ <;> dsimp only
              · split
                · exact run _ (Kp.setB _ _ _)
                · exact skip _ (Kp.setB _ _ _)
              · split
                · exact run _ (Kp.setB _ _ _)
                · exact skip _ (Kp.setB _ _ _)
            · trivial

theorem pruneK_at {β : Type} (s : Slots) : ∀ (l : List Nat), ∃ s' : Slots, (∀ k : Slots → β, pruneK s l k = k s')
  | [] => ⟨[], fun _ => rfl⟩
  | t :: l => by
    obtain ⟨s', h1⟩ := pruneK_at s l
    cases hx : s.get t with
    | top => exact ⟨s', fun k => by simp only [pruneK, hx]; exact h1 k⟩
    | v x => exact ⟨(t, .v x) :: s', fun k => by simp only [pruneK, hx]; exact h1 _⟩
    | tup x => exact ⟨(t, .tup x) :: s', fun k => by simp only [pruneK, hx]; exact h1 _⟩

theorem evDraw_keeps {G : Ctx} {call : CallF} (hC : CallKeeps call) {N : Nat} {ops : Array Oper} : ∀ (l : List Oper) (st : St) (es : List Eff), (evDraw G call N ops l st es).Every fun x => Kp st x.1
  | [], st, es => Kp.refl st
  | o :: l, st, es => by
    have skip : ∀ es', (evDraw G call N ops l (st.put o.dst (.tup [])) es').Every fun x => Kp st x.1 := fun es' => (evDraw_keeps hC l _ _).mono fun x h => (Kp.put _ _ _).trans h
    have run : (pruneK st.sl (o.looksAt ops) fun s => (evOp G call true ⟨s, st.H, st.nx, false, st.base, []⟩ o).bind fun u => match okOut st.nx u with
      | true => forceV G.sym u.v fun v => evDraw G call N ops l ((st.up u).put o.dst v) (effOf st.nx u :: es)
      | false => .bad).Every fun x => Kp st x.1 := by
      obtain ⟨s', h1⟩ := pruneK_at (β := T (St × List Eff)) st.sl (o.looksAt ops)
      rw [h1]
      refine T.Every.bind2 (fun u hu => ?_) (evOp_keeps hC)
      split
      · rw [forceV_eq]
        exact (evDraw_keeps hC l _ _).mono fun x h => (Kp.up (d := true) (st := st) (u := u) hu).trans ((Kp.put _ _ _).trans h)
      · trivial
    simp only [evDraw]
    split
    · trivial
    · split
      · exact run
      · split
        · trivial
        · split
          · split
            · exact ⟨run, skip _⟩
            · exact ⟨skip _, run⟩
          · exact skip _
          · trivial

def RunKeeps (run : Nat → Nat → Code → St → T (Ex × St)) : Prop := ∀ F N c st, (run F N c st).Every fun x => Kp st x.2

theorem popK_keeps {n0 : Nat} {u : CallOut} {H : Heap} (h1 : n0 ≤ u.nx) (h2 : ∀ b, b < n0 → b ∉ u.wr → u.H.get b = H.get b) : (popK n0 u T.ret).Every fun o => n0 ≤ o.nx ∧ ∀ b, b < n0 → b ∉ o.wr → o.H.get b = H.get b := by
  unfold popK
  split
  · exact ⟨h1, h2⟩
  · rw [popK_go]
    refine ⟨Nat.le_refl _, fun b hb hw => ?_⟩
    simp only at hw ⊢
    rw [get_filter (fun b => !(Nat.ble n0 b)), if_pos]
    · exact h2 b hb hw
    · cases hq : Nat.ble n0 b with
      | false => rfl
      | true => have := nble hq; omega

theorem evFn_keeps {G : Ctx} {run : Nat → Nat → Code → St → T (Ex × St)} (h : RunKeeps run) : CallKeeps (evFn G run) := by
  intro g args H nx
  unfold evFn
  split
  · trivial
  · split
    · refine T.Every.bind2 (fun x hx => ?_) (h _ _ _ _)
      obtain ⟨e, st⟩ := x
      obtain ⟨h1, h2, h3⟩ := hx
      have key : ((resultsOf G st ‹Func›.results.toList).bind fun l => popK nx ⟨outV l, st.H, st.nx, st.esc, st.wr⟩ .ret).Every fun o => nx ≤ o.nx ∧ ∀ b, b < nx → b ∉ o.wr → o.H.get b = H.get b :=
        T.Every.bind (fun l => popK_keeps h2 fun b hb hw => (h3 b hb hb hw).2) _
      cases e with
      | exit id => trivial
      | normal => exact key
      | ret => exact key
    · trivial

def SumsKeep (G : Ctx) : Prop := ∀ g s, G.sum g = some s → ∀ args H nx, (s args H nx).Every fun o => nx ≤ o.nx ∧ ∀ b, b < nx → b ∉ o.wr → o.H.get b = H.get b
def LoopsKeep (G : Ctx) : Prop := ∀ F id L, G.ls F id = some L → ∀ N c st, (L N c st).Every fun x => Kp st x.2

theorem evKnown_keeps {G : Ctx} (hs : SumsKeep G) {run : Nat → Nat → Code → St → T (Ex × St)} (h : RunKeeps run) : CallKeeps (evKnown G run) := by
  intro g args H nx
  unfold evKnown
  split
  · rename_i s hsum
    exact hs g s hsum args H nx
  · exact evFn_keeps h g args H nx

def PresKeep (G : Ctx) : Prop := ∀ F id p, G.pre F id = some p → ∀ st, (p st).Every fun s => Kp st s

theorem hook_keeps {G : Ctx} (hp : PresKeep G) (F id : Nat) (st : St) : (hook G F id st).Every fun s => Kp st s := by
  unfold hook
  split
  · rename_i p h; exact hp F id p h st
  · exact Kp.refl st

theorem ev_keeps {G : Ctx} (hs : SumsKeep G) (hl : LoopsKeep G) (hp : PresKeep G) {live : Nat → Nat → Option (List Nat)} : ∀ n, RunKeeps (ev G live n)
  | 0 => fun _ _ _ _ => trivial
  | n + 1 => by
    have ih := ev_keeps (G := G) hs hl hp (live := live) n
    intro F N c st
    cases c with
    | skip => exact Kp.refl st
    | label l => exact Kp.refl st
    | exit id => exact Kp.refl st
    | ret => exact Kp.refl st
    | seq a b =>
      simp only [ev]
      split
      · rename_i L hL
        obtain ⟨id, h1, h2⟩ := Option.bind_eq_some_iff.1 hL
        exact hl F id L h2 N (.seq a b) st
      refine T.Every.bind2 (fun x hx => ?_) (ih F N a st)
      obtain ⟨e, st1⟩ := x
      cases e with
      | normal => exact (ih F N b st1).mono fun y hy => hx.trans hy
      | exit id => exact hx
      | ret => exact hx
    | cond c a b =>
      simp only [ev]
      unfold split
      split
      · exact ⟨(ih F N a _).mono fun y hy => (Kp.setB _ _ _).trans hy, (ih F N b _).mono fun y hy => (Kp.setB _ _ _).trans hy⟩
      · trivial
    | block id c =>
      simp only [ev]
      refine T.Every.bind2 (fun x hx => ?_) (ih F N c st)
      obtain ⟨e, st1⟩ := x
      cases e with
      | normal => exact hx
      | ret => exact hx
      | exit k =>
        simp only
        split
        · exact hx
        · exact hx
    | loop c =>
      have go : ∀ s : Slots, ((ev G live n F N c { st with sl := s }).bind fun x => match x.fst with | .normal => ev G live n F N (.loop c) x.snd | e => .ret (e, x.snd)).Every fun x => Kp st x.2 := fun s => by
        refine T.Every.bind2 (fun x hx => ?_) (ih F N c { st with sl := s })
        obtain ⟨e, st1⟩ := x
        have h1 : Kp st st1 := (Kp.of (a := st) (b := { st with sl := s }) rfl rfl rfl rfl).trans hx
        cases e with
        | normal => exact (ih F N (.loop c) st1).mono fun y hy => h1.trans hy
        | exit id => exact h1
        | ret => exact h1
      simp only [ev]
      split
      · rename_i L hL
        obtain ⟨id, h1, h2⟩ := Option.bind_eq_some_iff.1 hL
        exact hl F id L h2 N (.loop c) st
      split
      · rename_i l hl
        obtain ⟨s', h1⟩ := pruneK_at (β := T (Ex × St)) st.sl l
        rw [h1]
        exact go s'
      · exact go st.sl
    | region id ops draw =>
      cases draw with
      | false =>
        simp only [ev]
        exact T.Every.bind2 (fun st0 h0 => T.Every.bind2 (fun st1 h1 => h0.trans h1) (evOps_keeps (evKnown_keeps hs ih) _ st0)) (hook_keeps hp F id st)
      | true =>
        simp only [ev]
        refine T.Every.bind2 (fun st0 h0 => T.Every.bind2 (fun x hx => ?_) (evDraw_keeps (evKnown_keeps hs ih) _ st0 _)) (hook_keeps hp F id st)
        split
        · exact h0.trans hx
        · trivial
    | rangeFunc => trivial
    | scope => trivial
    | goto => trivial
    | refuse => trivial

theorem evCall_keeps {G : Ctx} (hs : SumsKeep G) (hl : LoopsKeep G) (hp : PresKeep G) {live : Nat → Nat → Option (List Nat)} (n : Nat) : CallKeeps (evCall G live n) := evFn_keeps (ev_keeps hs hl hp n)

end Go.Proofs.Ytggneleipimijaa.En
/- The engine, part 15: a region that draws, run in the text's order with what each operation looks at. -/
namespace Go.Proofs.Ytggneleipimijaa.En
open Go
set_option linter.unusedVariables false
set_option linter.unusedSimpArgs false

structure Stp where
  s : St
  u : Out

def effS (x : Stp) : Eff := effOf x.s.nx x.u

def nextS (o : Oper) (x : Stp) : St := (x.s.up x.u).put o.dst x.u.v

structure StepOk (P : Program) (ops : Array Oper) (N : Nat) (k : Nat) (o : Oper) (x : Stp) : Prop where
  sem : ∀ (f : Fn) (z : Z) (w : World) (a : Act), (∀ t ∈ o.looksAt ops, RS f x.s.nx z (x.s.sl.get t) (a.tmps.getD t undef)) → Rel (Sx x.u.fp x.u.wr) f x.s.nx z w x.s.H → (∀ b, x.s.nx ≤ b → ¬ (x.s.H.get b).live) →
    ∀ (K : Act → World → Prop) (Q : Exit → Act → World → Prop), (∀ f' z' w' v', Post (Sx x.u.fp x.u.wr) f x.s.nx z w x.s.H f' x.u.nx z' w' x.u.H x.u.esc → RS f' x.u.nx z' x.u.v v' → K (a.put o.dst v') w') → wpOp P ops Q k K a w
  keep : ∀ b, b ∉ x.u.wr → x.u.H.get b = x.s.H.get b
  nx : x.s.nx ≤ x.u.nx
  lt : ∀ b ∈ x.u.wr, b < x.u.nx
  new : ∀ b, x.s.nx ≤ b → b < x.u.nx → b ∈ x.u.wr
  dst : ∀ d, o.dst = some d → d < N

def Run (ok : Nat → Oper → Stp → Prop) : Nat → List Oper → List Stp → St → St → Prop
  | _, [], [], st, st' => st = st'
  | k, o :: l, x :: r, st, st' => x.s = st ∧ ok k o x ∧ Run ok (k + 1) l r (nextS o x) st'
  | _, _, _, _, _ => False

theorem pruneK_eq {β : Type} (s : Slots) : ∀ (l : List Nat), ∃ s' : Slots, (∀ k : Slots → β, pruneK s l k = k s') ∧ ∀ t, s'.get t = if t ∈ l then s.get t else .top
  | [] => ⟨[], fun _ => rfl, fun t => by simp [Slots.get]⟩
  | t :: l => by
    obtain ⟨s', h1, h2⟩ := pruneK_eq s l
    have key : ∀ x, s.get t = x → ∀ u, Slots.get ((t, x) :: s') u = if u ∈ t :: l then s.get u else .top := fun x hx u => by
      rw [Slots.get_cons, h2]
      by_cases e : t = u
      · subst e; simp [hx]
      · have : ¬ u = t := fun h => e h.symm
        simp [e, this]
    cases hx : s.get t with
    | top =>
      refine ⟨s', fun k => by simp only [pruneK, hx]; exact h1 k, fun u => ?_⟩
      rw [h2]
      by_cases e : u = t
      · subst e; simp [hx]
      · simp [e]
    | v x => exact ⟨(t, .v x) :: s', fun k => by simp only [pruneK, hx]; exact h1 _, key _ hx⟩
    | tup x => exact ⟨(t, .tup x) :: s', fun k => by simp only [pruneK, hx]; exact h1 _, key _ hx⟩

theorem okOut_ok {n : Nat} {u : Out} (h : okOut n u = true) : n ≤ u.nx ∧ (∀ b ∈ u.wr, b < u.nx) ∧ ∀ b, n ≤ b → b < u.nx → b ∈ u.wr := by
  simp only [okOut, Bool.and_eq_true, List.all_eq_true, List.mem_range] at h
  obtain ⟨⟨h1, h2⟩, h3⟩ := h
  refine ⟨nble h1, fun b hb => nble (h2 b hb), fun b hb hb' => ?_⟩
  have := h3 (b - n) (by omega)
  rw [show n + (b - n) = b by omega] at this
  exact (anyBeq _ _).1 this

section ops
variable {P : Program} {G : Ctx} (hG : CtxOk P G) {call : CallF} (hC : CallOk P call) (hCK : CallKeeps call)
include hG hC hCK

theorem evDraw_run {N : Nat} {ops : Array Oper} : ∀ (l : List Oper) (k : Nat) (st : St) (es : List Eff) (st' : St) (es' : List Eff), (∀ i, l[i]? = ops.toList[k + i]?) → (evDraw G call N ops l st es).res = some (st', es') →
    ∃ r : List Stp, es' = (r.map effS).reverse ++ es ∧ Run (StepOk P ops N) k l r st st'
  | [], k, st, es, st', es', hl, h => by
    have h := T.ret_some h
    simp only [Prod.mk.injEq] at h
    exact ⟨[], by simp [h.2], h.1⟩
  | o :: l, k, st, es, st', es', hl, h => by
    have ho : ops[k]? = some o := by
      have := hl 0
      simp only [List.getElem?_cons_zero, Nat.add_zero] at this
      simpa using this.symm
    have hl' : ∀ i, l[i]? = ops.toList[k + 1 + i]? := fun i => by
      have := hl (i + 1)
      rw [List.getElem?_cons_succ] at this
      rw [this]
      congr 1
      omega
    simp only [evDraw] at h
    split at h
    · exact (T.bad_some h).elim
    rename_i hd
    have hd' : ∀ d, o.dst = some d → d < N := fun d e => by
      rw [e] at hd
      exact nble (a := d + 1) (b := N) hd
    obtain ⟨s, hs1, hs2⟩ := pruneK_eq (β := T (St × List Eff)) st.sl (o.looksAt ops)
    rw [hs1] at h
    have htr : ∀ {f : Fn} {z : Z} {a : Act}, (∀ t ∈ o.looksAt ops, RS f st.nx z (st.sl.get t) (a.tmps.getD t undef)) → TR f st.nx z s a.tmps := fun {f z a} ht t => by
      rw [hs2]
      split
      · rename_i hm; exact ht t hm
      · trivial
    -- it is run
    have doit : (∀ {f : Fn} {z : Z} {a : Act}, (∀ t ∈ o.looksAt ops, RS f st.nx z (st.sl.get t) (a.tmps.getD t undef)) → Region.wanted o (yielded ops a.tmps) = true) →
        ((evOp G call true ⟨s, st.H, st.nx, false, st.base, []⟩ o).bind fun u => match okOut st.nx u with
          | true => forceV G.sym u.v fun v => evDraw G call N ops l ((st.up u).put o.dst v) (effOf st.nx u :: es)
          | false => .bad).res = some (st', es') →
        ∃ r : List Stp, es' = (r.map effS).reverse ++ es ∧ Run (StepOk P ops N) k (o :: l) r st st' := by
      intro hw h
      obtain ⟨u, hu, h⟩ := T.bind_some h
      split at h
      · rename_i hok
        rw [forceV_eq] at h
        obtain ⟨r, hr1, hr2⟩ := evDraw_run l (k + 1) _ _ st' es' hl' h
        obtain ⟨o1, o2, o3⟩ := okOut_ok hok
        refine ⟨⟨st, u⟩ :: r, by rw [hr1]; simp [effS], rfl, ⟨?_, fun b hb => ((evOp_keeps hCK).res hu).2 b (.inl rfl) hb, o1, o2, o3, hd'⟩, hr2⟩
        intro f z w a ht hr hno K Q hk
        unfold wpOp
        simp only [ho, hw ht, if_true]
        exact .inl (evOp_ok hG hC hu f z w a (htr ht) hr hno K Q hk)
      · exact (T.bad_some h).elim
    split at h
    · rename_i hgd
      exact doit (fun _ => by simp [Region.wanted, hgd]) h
    · rename_i j want hgd
      split at h
      · exact (T.bad_some h).elim
      rename_i t hj
      have hj' : (ops[j]?).bind (·.dst) = some t := by simpa using hj
      have hmem : t ∈ o.looksAt ops := by simp [Oper.looksAt, hgd, hj']
      -- it isn't carried out
      have skip : (evDraw G call N ops l (st.put o.dst (.tup [])) (⟨[], [], st.nx, st.nx, []⟩ :: es)).res = some (st', es') →
          (∀ {f : Fn} {z : Z} {a : Act}, (∀ t ∈ o.looksAt ops, RS f st.nx z (st.sl.get t) (a.tmps.getD t undef)) → Region.wanted o (yielded ops a.tmps) = false) →
          ∃ r : List Stp, es' = (r.map effS).reverse ++ es ∧ Run (StepOk P ops N) k (o :: l) r st st' := by
        intro h hw
        obtain ⟨r, hr1, hr2⟩ := evDraw_run l (k + 1) _ _ st' es' hl' h
        have hup : nextS o ⟨st, ⟨.tup [], st.H, st.nx, false, [], []⟩⟩ = st.put o.dst (.tup []) := by
          simp only [nextS, St.up, Bool.or_false, addWr]
        refine ⟨⟨st, ⟨.tup [], st.H, st.nx, false, [], []⟩⟩ :: r, by rw [hr1]; simp [effS, effOf, SV.refs], rfl, ⟨?_, fun _ _ => rfl, Nat.le_refl _, fun b hb => by simp at hb, fun b h1 h2 => by simp only at h1 h2; omega, hd'⟩, by rw [hup]; exact hr2⟩
        intro f z w a ht hr hno K Q hk
        unfold wpOp
        simp only [ho, hw ht, Bool.false_eq_true, if_false]
        exact hk f z w undef (Post.refl hr hno) ⟨#[], rfl, RAs.nil⟩
      split at h
      · rename_i c hc
        have hwant : ∀ {f : Fn} {z : Z} {a : Act}, (∀ t ∈ o.looksAt ops, RS f st.nx z (st.sl.get t) (a.tmps.getD t undef)) → Region.wanted o (yielded ops a.tmps) = (c == want) := by
          intro f z a ht
          have hs := (htr ht).slot (t := t) (v := .bool c) (by rw [hs2, if_pos hmem]; exact hc) (by intro h; cases h)
          have : yielded ops a.tmps j = some c := by simp [yielded, hj', hs]
          simp only [Region.wanted, hgd, this]
          cases c <;> cases want <;> rfl
        split at h
        · rcases T.br_some h with ⟨rfl, h⟩ | ⟨rfl, h⟩
          · exact doit (fun ht => by rw [hwant ht]; rfl) h
          · exact skip h fun ht => by rw [hwant ht]; rfl
        · rcases T.br_some h with ⟨rfl, h⟩ | ⟨rfl, h⟩
          · exact skip h fun ht => by rw [hwant ht]; rfl
          · exact doit (fun ht => by rw [hwant ht]; rfl) h
      · rename_i hc
        refine skip h fun {f z a} ht => ?_
        have h1 := ht t hmem
        rw [hc] at h1
        obtain ⟨vs, h1, h2⟩ := h1
        have hvs : vs = #[] := by
          have := h2.1
          simp at this
          exact Array.eq_empty_of_size_eq_zero this.symm
        have : yielded ops a.tmps j = none := by
          simp only [yielded, hj', Option.bind_some]
          cases hq : a.tmps[t]? with
          | none => rfl
          | some v =>
            rw [Array.getD_eq_getD_getElem?, hq] at h1
            simp only [Option.getD_some] at h1
            rw [h1]
        simp only [Region.wanted, hgd, this]
        rfl
      · exact (T.bad_some h).elim

end ops

def sAt (r : List Stp) (st' : St) (i : Nat) : St := match r[i]? with | some x => x.s | none => st'

theorem Run.facts {ok : Nat → Oper → Stp → Prop} : ∀ {l : List Oper} {r : List Stp} {k : Nat} {st st' : St}, Run ok k l r st st' →
    r.length = l.length ∧ sAt r st' 0 = st ∧ ∀ i o x, l[i]? = some o → r[i]? = some x → ok (k + i) o x ∧ sAt r st' (i + 1) = nextS o x
  | [], [], k, st, st', h => ⟨rfl, h.symm, fun i o x h => by simp at h⟩
  | o :: l, x :: r, k, st, st', h => by
    obtain ⟨h1, h2, h3⟩ := h
    obtain ⟨i1, i2, i3⟩ := Run.facts h3
    refine ⟨by simp [i1], h1, fun i o' x' ho hx => ?_⟩
    cases i with
    | zero =>
      simp only [List.getElem?_cons_zero, Option.some.injEq] at ho hx
      subst ho hx
      exact ⟨h2, i2⟩
    | succ i =>
      rw [List.getElem?_cons_succ] at ho hx
      have := i3 i o' x' ho hx
      rw [show k + 1 + i = k + (i + 1) by omega] at this
      exact this
  | [], _ :: _, _, _, _, h => h.elim
  | _ :: _, [], _, _, _, h => h.elim

end Go.Proofs.Ytggneleipimijaa.En
/- The engine, part 16: whatever order is drawn, the text's order stands for it. -/
namespace Go.Proofs.Ytggneleipimijaa.En
open Go
set_option linter.unusedVariables false
set_option linter.unusedSimpArgs false

/-! what a value stands for hangs on the blocks that it names alone -/

theorem RC.agree {f f' : Fn} {nx : Nat} {z z' : Z} (hz : z.le z') {x : CV} {v : Value} (e : ∀ b ∈ x.refs, f' b = f b) (h : RC f nx z x v) : RC f' nx z' x v := by
  cases x with
  | f x => exact RF.mono hz h
  | ptr b m i j =>
    obtain ⟨h1, rfl⟩ := h
    exact ⟨h1, by simp [ad, e b (by simp [CV.refs])]⟩
  | sl nil b m i j len cap ex sz =>
    obtain ⟨h0, h1, h2⟩ := h
    have e := e b (by simp [CV.refs])
    refine ⟨h0, h1, fun hn => ?_⟩
    obtain ⟨c, rfl, h3⟩ := h2 hn
    exact ⟨c, by simp [ad, e], by rw [e]; exact h3⟩
  | mp b => obtain ⟨h1, rfl⟩ := h; exact ⟨h1, by rw [e b (by simp [CV.refs])]⟩
  | fn g l =>
    obtain ⟨rfl, h⟩ := h
    refine ⟨?_, h⟩
    congr 2
    exact List.map_congr_left fun x hx => by simp [ad, e x.1 (by simp only [CV.refs, List.mem_map]; exact ⟨x, hx, rfl⟩)]

theorem RA.agree {f f' : Fn} {nx : Nat} {z z' : Z} (hz : z.le z') {x : AV} {v : Value} (e : ∀ b ∈ x.cells.flatMap CV.refs, f' b = f b) (h : RA f nx z x v) : RA f' nx z' x v := by
  cases x with
  | one x => exact RC.agree hz (fun b hb => e b (by simpa [AV.cells] using hb)) h
  | agg l =>
    obtain ⟨cs, rfl, h1, h2⟩ := h
    exact ⟨cs, rfl, h1, fun i y u hy hu => RC.agree hz (fun b hb => e b (List.mem_flatMap.2 ⟨y, List.mem_of_getElem? hy, hb⟩)) (h2 i y u hy hu)⟩

theorem RS.agree {f f' : Fn} {nx : Nat} {z z' : Z} (hz : z.le z') {x : SV} {v : Value} (e : ∀ b ∈ x.refs, f' b = f b) (h : RS f nx z x v) : RS f' nx z' x v := by
  cases x with
  | v x => exact RA.agree hz e h
  | tup l =>
    obtain ⟨vs, rfl, h1, h2⟩ := h
    exact ⟨vs, rfl, h1, fun i y u hy hu => RA.agree hz (fun b hb => e b (List.mem_flatMap.2 ⟨y, List.mem_of_getElem? hy, hb⟩)) (h2 i y u hy hu)⟩
  | top => trivial

theorem Ob.at_refs {o : Ob} {m i j : Nat} {x : CV} (h : o.at m i j = some x) : ∀ c ∈ x.refs, c ∈ o.refs := by
  intro c hc
  cases o with
  | cells l =>
    simp only [Ob.at] at h
    split at h
    · exact List.mem_flatMap.2 ⟨x, List.mem_of_getElem? h, hc⟩
    · cases h
  | arr live sz n e =>
    simp only [Ob.at] at h
    split at h
    · cases hq : (e i)[j]? with
      | none => rw [hq] at h; cases h
      | some y => rw [hq] at h; simp only [Option.map_some, Option.some.injEq] at h; subst h; simp [CV.refs] at hc
    · cases h
  | map es => cases h
  | dead => cases h

theorem RC.refs_lt {f : Fn} {nx : Nat} {z : Z} {x : CV} {v : Value} (h : RC f nx z x v) : ∀ b ∈ x.refs, b < nx := by
  intro b hb
  cases x with
  | f x => simp [CV.refs] at hb
  | ptr b' m i j => simp [CV.refs] at hb; subst hb; exact h.1
  | sl nil b' m i j len cap ex sz => simp [CV.refs] at hb; subst hb; exact h.1
  | mp b' => simp [CV.refs] at hb; subst hb; exact h.1
  | fn g l =>
    simp only [CV.refs, List.mem_map] at hb
    obtain ⟨x, hx, rfl⟩ := hb
    exact h.2 x hx

theorem BOk.ext {f f' : Fn} {nx : Nat} {z : Z} {w : World} {b : Nat} {o : Ob} (h : BOk f nx z w b o) (hb : b < nx) (he : Ext nx f f') : BOk f' nx z w b o := by
  have e := he b hb
  refine ⟨by rw [e]; exact h.lt, fun p => by rw [e]; exact h.own p, fun p hp => ?_, fun m i j x hx => ?_, fun es he => by rw [e]; exact h.map es he⟩
  · rw [e] at hp ⊢; exact h.room p hp
  · obtain ⟨h1, v, h2, h3⟩ := h.cell m i j x hx
    exact ⟨by rw [e]; exact h1, v, by simp only [ad, e]; exact h2, RC.mono he (Nat.le_refl _) (fun _ _ _ h => h) h3⟩

theorem BOk.agree {f f' : Fn} {nx : Nat} {z : Z} {w : World} {b : Nat} {o : Ob} (h : BOk f nx z w b o) (e : f' b = f b) (hr : ∀ m i j x, o.at m i j = some x → ∀ c ∈ x.refs, f' c = f c) : BOk f' nx z w b o := by
  refine ⟨by rw [e]; exact h.lt, fun p => by rw [e]; exact h.own p, fun p hp => ?_, fun m i j x hx => ?_, fun es he => by rw [e]; exact h.map es he⟩
  · rw [e] at hp ⊢; exact h.room p hp
  · obtain ⟨h1, v, h2, h3⟩ := h.cell m i j x hx
    exact ⟨by rw [e]; exact h1, v, by simp only [ad, e]; exact h2, RC.agree (fun _ _ _ h => h) (hr m i j x hx) h3⟩

theorem BOk.up {f : Fn} {nx nx' : Nat} {z : Z} {w : World} {b : Nat} {o : Ob} (h : BOk f nx z w b o) (hn : nx ≤ nx') : BOk f nx' z w b o :=
  ⟨h.lt, h.own, h.room, fun m i j x hx => let ⟨h1, v, h2, h3⟩ := h.cell m i j x hx; ⟨h1, v, h2, RC.mono (fun _ _ => rfl) hn (fun _ _ _ h => h) h3⟩, h.map⟩

theorem BOk.re {f f' : Fn} {nx nx' : Nat} {z z' : Z} {w w' : World} {b : Nat} {o : Ob} (h : BOk f' nx' z' w' b o) (k : BOk f nx z w b o) : BOk f' nx z' w' b o :=
  ⟨h.lt, h.own, h.room, fun m i j x hx =>
    let ⟨h1, v, h2, h3⟩ := h.cell m i j x hx
    let ⟨_, _, _, h4⟩ := k.cell m i j x hx
    ⟨h1, v, h2, RC.below h3 h4.inside⟩, h.map⟩

/-! what comes before an operation, whatever order is drawn -/

theorem closure_fold (g : Nat → Nat) (i : Nat) : ∀ (L : List Nat) (s : Nat), (L.foldl (fun s e => s ||| (1 <<< e) ||| g e) s).testBit i = true → s.testBit i = true ∨ ∃ e ∈ L, i = e ∨ (g e).testBit i = true
  | [], s, h => .inl h
  | e :: L, s, h => by
    rw [List.foldl_cons] at h
    rcases closure_fold g i L _ h with h1 | ⟨e', h1, h2⟩
    · rw [Nat.testBit_or, Nat.testBit_or, Nat.one_shiftLeft, Nat.testBit_two_pow] at h1
      simp only [Bool.or_eq_true, decide_eq_true_eq] at h1
      rcases h1 with (h1 | h1) | h1
      · exact .inl h1
      · exact .inr ⟨e, by simp, .inl h1.symm⟩
      · exact .inr ⟨e, by simp, .inr h1⟩
    · exact .inr ⟨e', by simp [h1], h2⟩

theorem closure_keeps : ∀ (l : List Oper) (acc : List Nat) (e : Nat), e < acc.length → (closure l acc).getD e 0 = acc.getD e 0
  | [], _, _, _ => rfl
  | o :: l, acc, e, h => by
    rw [closure, closure_keeps l _ e (by simp; omega)]
    simp only [List.getD_eq_getElem?_getD]
    rw [List.getElem?_append_left h]

theorem closure_spec : ∀ (l : List Oper) (acc : List Nat) (i : Nat) (o : Oper) (b : Nat), l[i]? = some o → ((closure l acc).getD (acc.length + i) 0).testBit b = true → (∀ e ∈ edges o, e < acc.length + i) →
    ∃ e ∈ edges o, b = e ∨ ((closure l acc).getD e 0).testBit b = true
  | [], _, _, _, _, h, _, _ => by simp at h
  | o :: l, acc, 0, o', b, h, hb, he => by
    simp only [List.getElem?_cons_zero, Option.some.injEq] at h
    subst h
    have e1 : (closure (o :: l) acc).getD (acc.length + 0) 0 = (edges o).foldl (fun s e => s ||| (1 <<< e) ||| acc.getD e 0) 0 := by
      rw [closure, closure_keeps l _ _ (by simp)]
      simp
    rw [e1] at hb
    rcases closure_fold (fun e => acc.getD e 0) b (edges o) 0 hb with h1 | ⟨e, h1, h2⟩
    · simp at h1
    · refine ⟨e, h1, h2.imp id fun h3 => ?_⟩
      rw [closure_keeps (o :: l) acc e (by have := he e h1; omega)]
      exact h3
  | o :: l, acc, i + 1, o', b, h, hb, he => by
    rw [List.getElem?_cons_succ] at h
    rw [closure] at hb ⊢
    have hl : (acc ++ [(edges o).foldl (fun s e => s ||| (1 <<< e) ||| acc.getD e 0) 0]).length = acc.length + 1 := by simp
    refine closure_spec l _ i o' b h ?_ ?_
    · rw [hl, show acc.length + 1 + i = acc.length + (i + 1) by omega]; exact hb
    · rw [hl]; intro e h1; have := he e h1; omega

theorem meets_false {a b : List Nat} (h : meets a b = false) : ∀ x ∈ a, x ∉ b := by
  intro x hx hb
  simp only [meets, List.any_eq_false, Bool.not_eq_true] at h
  have := h x hx x hb
  rw [Nat.beq_refl] at this
  cases this

theorem clash_false {a b : Eff} (h : clash a b = false) : (∀ x ∈ a.wr, x ∉ b.fp) ∧ (∀ x ∈ a.wr, x ∉ b.wr) ∧ ∀ x ∈ a.fp, x ∉ b.wr := by
  simp only [clash, Bool.or_eq_false_iff] at h
  exact ⟨meets_false h.1.1, meets_false h.1.2, meets_false h.2⟩

def Pre (ops : Array Oper) (i j : Nat) : Prop := ((closure ops.toList []).getD j 0).testBit i = true

structure Plan (P : Program) (ops : Array Oper) (N : Nat) (r : List Stp) (st st' : St) : Prop where
  len : r.length = ops.size
  s0 : sAt r st' 0 = st
  ok : ∀ i o x, ops[i]? = some o → r[i]? = some x → StepOk P ops N i o x ∧ sAt r st' (i + 1) = nextS o x
  pairs : ∀ i j oi oj xi xj, i < j → ops[i]? = some oi → ops[j]? = some oj → r[i]? = some xi → r[j]? = some xj → Pre ops i j ∨ (oi.apart ops oj = true ∧ clash (effS xi) (effS xj) = false)
  back : ∀ j o, ops[j]? = some o → ∀ e ∈ o.after, Region.binds .any e = true → e.on < j
  clos : ∀ j o i, ops[j]? = some o → Pre ops i j → ∃ e ∈ o.after, Region.binds .any e = true ∧ (i = e.on ∨ Pre ops i e.on)
  refs : ∀ k x, r[k]? = some x → ∀ b ∈ (effS x).rf, b < st.nx ∨ ∃ i xi, (i = k ∨ Pre ops i k) ∧ r[i]? = some xi ∧ xi.s.nx ≤ b ∧ b < xi.u.nx

theorem edges_mem {o : Oper} {e : Nat} : e ∈ edges o ↔ ∃ d ∈ o.after, Region.binds .any d = true ∧ d.on = e := by
  simp [edges, and_assoc]

theorem plan_ok {P : Program} {ops : Array Oper} {N : Nat} {r : List Stp} {st st' : St} (hr : Run (StepOk P ops N) 0 ops.toList r st st') (h : okDraw st.nx ops (r.map effS) = true) : Plan P ops N r st st' := by
  obtain ⟨f1, f2, f3⟩ := hr.facts
  simp only [okDraw, Bool.and_eq_true] at h
  obtain ⟨⟨⟨⟨_, _⟩, h3⟩, h4⟩, h5⟩ := h
  have hback : ∀ j o, ops[j]? = some o → ∀ e ∈ o.after, Region.binds .any e = true → e.on < j := by
    intro j o ho e he hb
    rw [List.all_eq_true] at h3
    have := h3 (o, j) (by
      rw [List.mem_iff_getElem?]
      exact ⟨j, by rw [List.getElem?_zipIdx]; simp [ho]⟩)
    simp only [List.all_eq_true] at this
    exact nble (this e.on (edges_mem.2 ⟨e, he, hb, rfl⟩))
  have hlen : r.length = ops.size := by simpa using f1
  refine ⟨hlen, f2, fun i o x ho hx => ?_, fun i j oi oj xi xj hij hoi hoj hxi hxj => ?_, hback, fun j o i ho hp => ?_, fun k x hx b hb => ?_⟩
  · have := f3 i o x (by simpa using ho) hx
    rw [Nat.zero_add] at this
    exact this
  · have hj : j < ops.size := (Array.getElem?_eq_some_iff.1 hoj).1
    simp only [okPairs, List.all_eq_true, List.mem_range] at h4
    have := h4 j (by simpa using hj) i hij
    rw [Bool.or_eq_true] at this
    refine this.imp id fun this => ?_
    simp only [Array.getElem?_toList, hoi, hoj, List.getElem?_map, hxi, hxj, Option.map_some, Bool.and_eq_true, Bool.not_eq_true'] at this
    exact this
  · have := closure_spec ops.toList [] j o i (by simpa using ho) (by simpa [Pre] using hp) (fun e he => by
      obtain ⟨d, h1, h2, rfl⟩ := edges_mem.1 he
      simpa using hback j o ho d h1 h2)
    obtain ⟨e, he, h⟩ := this
    obtain ⟨d, h1, h2, rfl⟩ := edges_mem.1 he
    exact ⟨d, h1, h2, h⟩
  · simp only [okRefs, List.all_eq_true, List.mem_range] at h5
    have hk : k < ops.toList.length := by rw [← f1]; exact (List.getElem?_eq_some_iff.1 hx).1
    have := h5 k hk
    simp only [List.getElem?_map, hx, Option.map_some] at this
    rw [List.all_eq_true] at this
    have := this b hb
    rw [Bool.or_eq_true] at this
    refine this.imp nble fun this => ?_
    simp only [List.any_eq_true, List.mem_range, Bool.and_eq_true, Bool.or_eq_true] at this
    obtain ⟨i, _, h6, h7⟩ := this
    split at h7
    · rename_i e' he
      cases hxi : r[i]? with
      | none => rw [hxi] at he; cases he
      | some xi =>
        rw [hxi] at he
        simp only [Option.map_some, Option.some.injEq] at he
        subst he
        simp only [Bool.and_eq_true] at h7
        exact ⟨i, xi, h6.imp (fun h => nbeq h) id, hxi, nble h7.1, nble h7.2⟩
    · cases h7

end Go.Proofs.Ytggneleipimijaa.En
/- The engine, part 17: a region that draws: the invariant of its orders. -/
namespace Go.Proofs.Ytggneleipimijaa.En
open Go
set_option linter.unusedVariables false
set_option linter.unusedSimpArgs false

def Last (Wr E : Nat → Prop) (p : Nat) : Prop := (∀ i, i + 1 = p → E i ∧ Wr i) ∧ ∀ k, E k → p ≤ k → ¬ Wr k

theorem Last.uniq {Wr E : Nat → Prop} {p q : Nat} (h : Last Wr E p) (k : Last Wr E q) : p = q := by
  have key : ∀ p q, Last Wr E p → Last Wr E q → ¬ p < q := fun p q h k hlt => by
    obtain ⟨h1, h2⟩ := k.1 (q - 1) (by omega)
    exact h.2 (q - 1) h1 (by omega) h2
  have := key p q h k
  have := key q p k h
  omega

theorem static_last (Wr : Nat → Prop) : ∀ j : Nat, ∃ p, p ≤ j ∧ (∀ i, i + 1 = p → Wr i) ∧ ∀ k, p ≤ k → k < j → ¬ Wr k
  | 0 => ⟨0, Nat.le_refl _, fun i h => by omega, fun k _ h => by omega⟩
  | j + 1 => by
    by_cases h : Wr j
    · exact ⟨j + 1, Nat.le_refl _, fun i hi => by rw [show i = j by omega]; exact h, fun k h1 h2 => by omega⟩
    · obtain ⟨p, h1, h2, h3⟩ := static_last Wr j
      refine ⟨p, by omega, h2, fun k hk hk' => ?_⟩
      rcases Nat.lt_or_ge k j with h4 | h4
      · exact h3 k hk h4
      · rw [show k = j by omega]; exact h

def WrB (r : List Stp) (b : Nat) (i : Nat) : Prop := ∃ x, r[i]? = some x ∧ b ∈ x.u.wr
def WrT (ops : Array Oper) (t : Nat) (i : Nat) : Prop := ∃ o, ops[i]? = some o ∧ o.dst = some t

section
variable {P : Program} {ops : Array Oper} {N : Nat} {r : List Stp} {st st' : St} (hP : Plan P ops N r st st')
include hP

theorem Plan.get {i : Nat} (hi : i < ops.size) : ∃ o x, ops[i]? = some o ∧ r[i]? = some x ∧ x.s = sAt r st' i ∧ StepOk P ops N i o x ∧ sAt r st' (i + 1) = nextS o x := by
  have h1 : i < r.length := by rw [hP.len]; exact hi
  refine ⟨ops[i], r[i], by simp [hi], by simp [h1], ?_, hP.ok i _ _ (by simp [hi]) (by simp [h1])⟩
  simp [sAt, h1]

theorem Plan.after {i : Nat} (hi : i < ops.size) {o : Oper} {x : Stp} (ho : ops[i]? = some o) (hx : r[i]? = some x) :
    x.s = sAt r st' i ∧ (sAt r st' (i + 1)).H = x.u.H ∧ (sAt r st' (i + 1)).nx = x.u.nx ∧ (sAt r st' (i + 1)).esc = (x.s.esc || x.u.esc) ∧
      (∀ t, (sAt r st' (i + 1)).sl.get t = if o.dst = some t then x.u.v else x.s.sl.get t) := by
  obtain ⟨_, h2⟩ := hP.ok i o x ho hx
  refine ⟨by simp [sAt, hx], ?_⟩
  rw [h2]
  unfold nextS
  cases hd : o.dst with
  | none => exact ⟨rfl, rfl, rfl, fun t => by simp [St.put, St.up]⟩
  | some d =>
    refine ⟨rfl, rfl, rfl, fun t => ?_⟩
    simp only [St.put]
    rw [Slots.get_cons]
    simp [St.up]

theorem Plan.nx_le : ∀ {i j : Nat}, i ≤ j → j ≤ ops.size → (sAt r st' i).nx ≤ (sAt r st' j).nx
  | i, 0, h, _ => by rw [show i = 0 by omega]; exact Nat.le_refl _
  | i, j + 1, h, hj => by
    rcases Nat.lt_or_ge j i with h1 | h1
    · rw [show i = j + 1 by omega]; exact Nat.le_refl _
    · obtain ⟨o, x, ho, hx, hs, hok, _⟩ := hP.get (i := j) (by omega)
      have := Plan.nx_le (i := i) (j := j) h1 (by omega)
      have h2 := hok.nx
      rw [(hP.after (by omega) ho hx).2.2.1]
      rw [hs] at h2
      omega

theorem Plan.chainH {b : Nat} {p : Nat} : ∀ {j : Nat}, p ≤ j → j ≤ ops.size → (∀ k, p ≤ k → k < j → ¬ WrB r b k) → (sAt r st' j).H.get b = (sAt r st' p).H.get b
  | 0, h, _, _ => by rw [show p = 0 by omega]
  | j + 1, h, hj, hn => by
    rcases Nat.lt_or_ge j p with h1 | h1
    · rw [show p = j + 1 by omega]
    · obtain ⟨o, x, ho, hx, hs, hok, _⟩ := hP.get (i := j) (by omega)
      rw [(hP.after (by omega) ho hx).2.1, hok.keep b fun hb => hn j h1 (by omega) ⟨x, hx, hb⟩, hs]
      exact Plan.chainH (j := j) h1 (by omega) fun k h2 h3 => hn k h2 (by omega)

theorem Plan.chainS {t : Nat} {p : Nat} : ∀ {j : Nat}, p ≤ j → j ≤ ops.size → (∀ k, p ≤ k → k < j → ¬ WrT ops t k) → (sAt r st' j).sl.get t = (sAt r st' p).sl.get t
  | 0, h, _, _ => by rw [show p = 0 by omega]
  | j + 1, h, hj, hn => by
    rcases Nat.lt_or_ge j p with h1 | h1
    · rw [show p = j + 1 by omega]
    · obtain ⟨o, x, ho, hx, hs, hok, _⟩ := hP.get (i := j) (by omega)
      rw [(hP.after (by omega) ho hx).2.2.2.2 t, if_neg fun hd => hn j h1 (by omega) ⟨o, ho, hd⟩, hs]
      exact Plan.chainS (j := j) h1 (by omega) fun k h2 h3 => hn k h2 (by omega)

theorem Plan.noLive (h0 : ∀ b, st.nx ≤ b → ¬ (st.H.get b).live) : ∀ {j : Nat}, j ≤ ops.size → ∀ b, (sAt r st' j).nx ≤ b → ¬ ((sAt r st' j).H.get b).live
  | 0, _, b, hb => by rw [hP.s0] at hb ⊢; exact h0 b hb
  | j + 1, hj, b, hb => by
    obtain ⟨o, x, ho, hx, hs, hok, _⟩ := hP.get (i := j) (by omega)
    obtain ⟨_, a1, a2, _⟩ := hP.after (by omega) ho hx
    rw [a1]
    rw [a2] at hb
    have hnw : b ∉ x.u.wr := fun h => by have := hok.lt b h; omega
    rw [hok.keep b hnw, hs]
    refine Plan.noLive h0 (j := j) (by omega) b ?_
    have := hok.nx
    rw [hs] at this
    omega

/-- what is written once more is written in the text's order -/
theorem Plan.wrH {i j : Nat} {b : Nat} {xj : Stp} (hij : i < j) (hj : j < ops.size) (hi : WrB r b i) (hxj : r[j]? = some xj) (hb : b ∈ xj.u.fp ∨ b ∈ xj.u.wr) : Pre ops i j := by
  obtain ⟨xi, hxi, hbi⟩ := hi
  obtain ⟨oi, _, hoi, _⟩ := hP.get (i := i) (by omega)
  obtain ⟨oj, _, hoj, _⟩ := hP.get (i := j) hj
  rcases hP.pairs i j oi oj xi xj hij hoi hoj hxi hxj with h | ⟨_, h⟩
  · exact h
  · obtain ⟨c1, c2, _⟩ := clash_false h
    rcases hb with hb | hb
    · exact absurd hb (c1 b hbi)
    · exact absurd hb (c2 b hbi)

theorem Plan.wrH' {i j : Nat} {b : Nat} {xi : Stp} (hij : i < j) (hj : j < ops.size) (hxi : r[i]? = some xi) (hb : b ∈ xi.u.fp ∨ b ∈ xi.u.wr) (h : WrB r b j) : Pre ops i j := by
  obtain ⟨xj, hxj, hbj⟩ := h
  obtain ⟨oi, _, hoi, _⟩ := hP.get (i := i) (by omega)
  obtain ⟨oj, _, hoj, _⟩ := hP.get (i := j) hj
  rcases hP.pairs i j oi oj xi xj hij hoi hoj hxi hxj with h | ⟨_, h⟩
  · exact h
  · obtain ⟨_, c2, c3⟩ := clash_false h
    rcases hb with hb | hb
    · exact absurd hbj (c3 b hb)
    · exact absurd hbj (c2 b hb)

theorem Plan.wrT {i j : Nat} {t : Nat} {oj : Oper} (hij : i < j) (hoj : ops[j]? = some oj) (hi : WrT ops t i) (hb : t ∈ oj.looksAt ops ∨ oj.dst = some t) : Pre ops i j := by
  obtain ⟨oi, hoi, hd⟩ := hi
  have hj : j < ops.size := (Array.getElem?_eq_some_iff.1 hoj).1
  obtain ⟨_, xi, _, hxi, _⟩ := hP.get (i := i) (by omega)
  obtain ⟨_, xj, _, hxj, _⟩ := hP.get (i := j) hj
  rcases hP.pairs i j oi oj xi xj hij hoi hoj hxi hxj with h | ⟨h, _⟩
  · exact h
  · obtain ⟨c1, c2, _⟩ := Oper.apart_spec h
    rcases hb with hb | hb
    · exact absurd hb (c1 t hd)
    · exact absurd hb (c2 t hd)

theorem Plan.wrT' {i j : Nat} {t : Nat} {oi : Oper} (hij : i < j) (hoi : ops[i]? = some oi) (hj : WrT ops t j) (hb : t ∈ oi.looksAt ops ∨ oi.dst = some t) : Pre ops i j := by
  obtain ⟨oj, hoj, hd⟩ := hj
  have hj : j < ops.size := (Array.getElem?_eq_some_iff.1 hoj).1
  obtain ⟨_, xi, _, hxi, _⟩ := hP.get (i := i) (by omega)
  obtain ⟨_, xj, _, hxj, _⟩ := hP.get (i := j) hj
  rcases hP.pairs i j oi oj xi xj hij hoi hoj hxi hxj with h | ⟨h, _⟩
  · exact h
  · obtain ⟨_, c2, c3⟩ := Oper.apart_spec h
    rcases hb with hb | hb
    · exact absurd hb (c3 t hd)
    · exact absurd hd (c2 t hb)

/-- where a block that an operation looks at was written last -/
theorem Plan.atH {E : Nat → Prop} (hEn : ∀ k, E k → k < ops.size) (hdown : ∀ i k, E k → Pre ops i k → E i) {j : Nat} (hj : j < ops.size) (hnj : ¬ E j) (hready : ∀ i, Pre ops i j → E i) {x : Stp} (hx : r[j]? = some x)
    {b : Nat} (hb : b ∈ x.u.fp ∨ b ∈ x.u.wr) : ∃ p, p ≤ j ∧ Last (WrB r b) E p ∧ (sAt r st' j).H.get b = (sAt r st' p).H.get b := by
  obtain ⟨p, h1, h2, h3⟩ := static_last (WrB r b) j
  refine ⟨p, h1, ⟨fun i hi => ⟨hready i (hP.wrH (by omega) hj (h2 i hi) hx hb), h2 i hi⟩, fun k hk hpk hw => ?_⟩, hP.chainH h1 (by omega) h3⟩
  rcases Nat.lt_trichotomy k j with h | h | h
  · exact h3 k hpk h hw
  · exact hnj (h ▸ hk)
  · exact hnj (hdown j k hk (hP.wrH' h (hEn k hk) hx hb hw))

theorem Plan.atS {E : Nat → Prop} (hEn : ∀ k, E k → k < ops.size) (hdown : ∀ i k, E k → Pre ops i k → E i) {j : Nat} (hj : j < ops.size) (hnj : ¬ E j) (hready : ∀ i, Pre ops i j → E i) {o : Oper} (ho : ops[j]? = some o)
    {t : Nat} (hb : t ∈ o.looksAt ops) : ∃ p, p ≤ j ∧ Last (WrT ops t) E p ∧ (sAt r st' j).sl.get t = (sAt r st' p).sl.get t := by
  obtain ⟨p, h1, h2, h3⟩ := static_last (WrT ops t) j
  refine ⟨p, h1, ⟨fun i hi => ⟨hready i (hP.wrT (by omega) ho (h2 i hi) (.inl hb)), h2 i hi⟩, fun k hk hpk hw => ?_⟩, hP.chainS h1 (by omega) h3⟩
  rcases Nat.lt_trichotomy k j with h | h | h
  · exact h3 k hpk h hw
  · exact hnj (h ▸ hk)
  · exact hnj (hdown j k hk (hP.wrT' h ho hw (.inl hb)))

end

/-- what holds when the operations E have been carried out, in whatever order -/
structure Inv (N : Nat) (ops : Array Oper) (r : List Stp) (st st' : St) (f0 : Fn) (z0 : Z) (w0 : World) (ds : List Deferred) (E : Nat → Prop) (f : Fn) (z : Z) (w : World) (a : Act) : Prop where
  size : a.tmps.size = N
  defs : a.defers = ds
  ext : Ext st.nx f0 f
  zle : z0.le z
  znew : ∀ k o v, z k o = some v → z0 k o = some v ∨ w0.heap.size ≤ k ∨ img All f0 st.H k
  zok : ∀ k o v, z k o = some v → w.cell? ⟨k, o, none⟩ = some v
  fr : Fr (img All f0 st.H) w0 w
  sl : ∀ t p, p ≤ ops.size → Last (WrT ops t) E p → RS f (sAt r st' p).nx z ((sAt r st' p).sl.get t) (a.tmps.getD t undef)
  hp : ∀ b p, p ≤ ops.size → Last (WrB r b) E p → ((sAt r st' p).H.get b).live → b < (sAt r st' p).nx ∧ BOk f (sAt r st' p).nx z w b ((sAt r st' p).H.get b) ∧
    (b < st.nx → (st.H.get b).live) ∧ (st.nx ≤ b → w0.heap.size ≤ (f b).k ∨ img All f0 st.H (f b).k)
  inj : ∀ b c p q, p ≤ ops.size → q ≤ ops.size → Last (WrB r b) E p → Last (WrB r c) E q → ((sAt r st' p).H.get b).live → ((sAt r st' q).H.get c).live → b ≠ c → (f b).k ≠ (f c).k
  noesc : ∀ k x, E k → r[k]? = some x → x.u.esc = false → ∀ m, m ≤ x.s.nx → NoNew m x.s.H → NoNew m x.u.H

end Go.Proofs.Ytggneleipimijaa.En
/- The engine, part 18: a region that draws: one operation more. -/
namespace Go.Proofs.Ytggneleipimijaa.En
open Go
set_option linter.unusedVariables false
set_option linter.unusedSimpArgs false

section
variable {P : Program} {ops : Array Oper} {N : Nat} {r : List Stp} {st st' : St} (hP : Plan P ops N r st st') {f0 : Fn} {z0 : Z} {w0 : World} {ds : List Deferred}
include hP

/-- what is executed names blocks that are made -/
theorem Plan.named {E : Nat → Prop} (hEn : ∀ k, E k → k < ops.size) (hdown : ∀ i k, E k → Pre ops i k → E i) {j : Nat} (hj : j < ops.size) (hnj : ¬ E j) {x : Stp} (hx : r[j]? = some x) {k : Nat} (hk : E k) {y : Stp} (hy : r[k]? = some y)
    {b : Nat} (hb : b ∈ (effS y).rf) : ¬ (x.s.nx ≤ b ∧ b < x.u.nx) := by
  rintro ⟨h1, h2⟩
  have hxs : x.s = sAt r st' j := by simp [sAt, hx]
  rcases hP.refs k y hy b hb with h | ⟨i, xi, hi, hxi, h3, h4⟩
  · have := hP.nx_le (i := 0) (j := j) (by omega) (by omega)
    rw [hP.s0, ← hxs] at this
    omega
  · have hEi : E i := by
      rcases hi with rfl | hi
      · exact hk
      · exact hdown i k hk hi
    have hin := hEn i hEi
    obtain ⟨oi, xi', hoi, hxi', hsi, hoki, _⟩ := hP.get (i := i) hin
    rw [hxi] at hxi'
    simp only [Option.some.injEq] at hxi'
    subst hxi'
    obtain ⟨oj, xj', hoj, hxj', hsj, hokj, _⟩ := hP.get (i := j) hj
    rw [hx] at hxj'
    simp only [Option.some.injEq] at hxj'
    subst hxj'
    rcases Nat.lt_trichotomy i j with h | h | h
    · have := hP.nx_le (i := i + 1) (j := j) (by omega) (by omega)
      rw [(hP.after hin hoi hxi).2.2.1, ← hxs] at this
      omega
    · exact hnj (h ▸ hEi)
    · have := hP.nx_le (i := j + 1) (j := i) (by omega) (by omega)
      rw [(hP.after hj hoj hx).2.2.1, ← hsi] at this
      omega

theorem Inv.step (h0 : ∀ b, st.nx ≤ b → ¬ (st.H.get b).live) {E : Nat → Prop} (hEn : ∀ k, E k → k < ops.size) (hdown : ∀ i k, E k → Pre ops i k → E i) {j : Nat} (hj : j < ops.size) (hnj : ¬ E j) (hready : ∀ i, Pre ops i j → E i)
    {f : Fn} {z : Z} {w : World} {a : Act} (hI : Inv N ops r st st' f0 z0 w0 ds E f z w a) (K : Act → World → Prop) (Q : Exit → Act → World → Prop)
    (hK : ∀ f' z' w' a', Inv N ops r st st' f0 z0 w0 ds (fun k => E k ∨ k = j) f' z' w' a' → K a' w') : wpOp P ops Q j K a w := by
  obtain ⟨o, x, ho, hx, hs, hok, _⟩ := hP.get hj
  obtain ⟨_, aH, anx, aesc, asl⟩ := hP.after hj ho hx
  have hn0 : st.nx ≤ x.s.nx := by
    have := hP.nx_le (i := 0) (j := j) (by omega) (by omega)
    rwa [hP.s0, ← hs] at this
  have atH := fun {b : Nat} (hb : b ∈ x.u.fp ∨ b ∈ x.u.wr) => hP.atH hEn hdown hj hnj hready hx hb
  -- what it looks at is as in the text's order
  have hpos : ∀ {b : Nat}, (b ∈ x.u.fp ∨ b ∈ x.u.wr) → (x.s.H.get b).live → ∃ p, p ≤ j ∧ Last (WrB r b) E p ∧ x.s.H.get b = (sAt r st' p).H.get b ∧ ((sAt r st' p).H.get b).live := fun hb hl => by
    obtain ⟨p, h1, h2, h3⟩ := atH hb
    rw [← hs] at h3
    exact ⟨p, h1, h2, h3, by rw [← h3]; exact hl⟩
  have hrel : Rel (Sx x.u.fp x.u.wr) f x.s.nx z w x.s.H := by
    refine ⟨fun b hb hl => ?_, fun b c hb hc hl hl' hne => ?_, hI.zok⟩
    · obtain ⟨p, h1, h2, h3, h4⟩ := hpos hb hl
      obtain ⟨h5, h6, _⟩ := hI.hp b p (by omega) h2 h4
      have hle := hP.nx_le (i := p) (j := j) h1 (by omega)
      rw [← hs] at hle
      rw [h3]
      exact ⟨by omega, h6.up hle⟩
    · obtain ⟨p, h1, h2, _, h4⟩ := hpos hb hl
      obtain ⟨q, k1, k2, _, k4⟩ := hpos hc hl'
      exact hI.inj b c p q (by omega) (by omega) h2 k2 h4 k4 hne
  refine hok.sem f z w a (fun t ht => ?_) hrel (fun b hb => ?_) K Q fun f' z' w' v' hp hv => ?_
  · obtain ⟨p, h1, h2, h3⟩ := hP.atS hEn hdown hj hnj hready ho ht
    have hle := hP.nx_le (i := p) (j := j) h1 (by omega)
    rw [hs, h3]
    exact RS.mono (fun _ _ => rfl) hle (fun _ _ _ h => h) (hI.sl t p (by omega) h2)
  · rw [hs] at hb ⊢
    exact hP.noLive h0 (by omega) b hb
  -- behind it
  let g : Fn := fun b => if x.s.nx ≤ b ∧ b < x.u.nx then f' b else f b
  have e1 : Ext x.u.nx f' g := fun b hb => by
    show (if x.s.nx ≤ b ∧ b < x.u.nx then f' b else f b) = f' b
    by_cases h : x.s.nx ≤ b
    · rw [if_pos ⟨h, hb⟩]
    · rw [if_neg (fun e => h e.1)]
      exact (hp.ext b (by omega)).symm
  have e2 : ∀ b, b ∉ x.u.wr → g b = f b := fun b hb => by
    show (if x.s.nx ≤ b ∧ b < x.u.nx then f' b else f b) = f b
    rw [if_neg (fun e => hb (hok.new b e.1 e.2))]
  have e3 : ∀ b, ¬ (x.s.nx ≤ b ∧ b < x.u.nx) → g b = f b := fun b hb => by
    show (if x.s.nx ≤ b ∧ b < x.u.nx then f' b else f b) = f b
    rw [if_neg hb]
  have e4 : Ext st.nx f g := fun b hb => e3 b (by omega)
  -- the blocks that it was told of
  have hY : ∀ d, (d ∈ x.u.fp ∨ d ∈ x.u.wr) → (x.s.H.get d).live → w0.heap.size ≤ (f d).k ∨ img All f0 st.H (f d).k := fun d hd hl => by
    obtain ⟨p, h1, h2, _, h4⟩ := hpos hd hl
    obtain ⟨_, _, h6, h7⟩ := hI.hp d p (by omega) h2 h4
    rcases Nat.lt_or_ge d st.nx with h | h
    · exact .inr ⟨d, trivial, h6 h, by rw [hI.ext d h]⟩
    · exact h7 h
  have himg : ∀ k, img (Sx x.u.fp x.u.wr) f x.s.H k → w0.heap.size ≤ k ∨ img All f0 st.H k := by
    rintro k ⟨d, hd, hl, rfl⟩
    exact hY d hd hl
  have hZ : ∀ b, (b ∈ x.u.fp ∨ b ∈ x.u.wr) → (x.u.H.get b).live → w.heap.size ≤ (f' b).k ∨ ∃ d, (d ∈ x.u.fp ∨ d ∈ x.u.wr) ∧ (x.s.H.get d).live ∧ (f d).k = (f' b).k := fun b hb hl => by
    rcases Nat.lt_or_ge b x.s.nx with h | h
    · exact .inr ⟨b, hb, hp.dead b h hl, by rw [hp.ext b h]⟩
    · exact (hp.fresh b h hl).imp id fun ⟨d, h1, h2, h3⟩ => ⟨d, h1, h2, h3⟩
  have hlastT : ∀ t p, Last (WrT ops t) (fun k => E k ∨ k = j) p → o.dst ≠ some t → Last (WrT ops t) E p := fun t p hL hd =>
    ⟨fun i hi => by
      obtain ⟨h1, h2⟩ := hL.1 i hi
      refine ⟨h1.resolve_right fun e => ?_, h2⟩
      obtain ⟨oi, h3, h4⟩ := h2
      rw [e, ho] at h3
      simp only [Option.some.injEq] at h3
      exact hd (h3 ▸ h4), fun k hk => hL.2 k (.inl hk)⟩
  have hlastB : ∀ b p, Last (WrB r b) (fun k => E k ∨ k = j) p → b ∉ x.u.wr → Last (WrB r b) E p := fun b p hL hd =>
    ⟨fun i hi => by
      obtain ⟨h1, h2⟩ := hL.1 i hi
      refine ⟨h1.resolve_right fun e => ?_, h2⟩
      obtain ⟨xi, h3, h4⟩ := h2
      rw [e, hx] at h3
      simp only [Option.some.injEq] at h3
      exact hd (h3 ▸ h4), fun k hk => hL.2 k (.inl hk)⟩
  have hatT : ∀ t p, Last (WrT ops t) (fun k => E k ∨ k = j) p → o.dst = some t → p = j + 1 := fun t p hL hd => by
    have h1 : ¬ p ≤ j := fun h => hL.2 j (.inr rfl) h ⟨o, ho, hd⟩
    rcases Nat.lt_or_ge (j + 1) p with h | h
    · obtain ⟨h2, h3⟩ := hL.1 (p - 1) (by omega)
      have h2 := h2.resolve_right (by omega)
      exact absurd (hdown j (p - 1) h2 (hP.wrT' (by omega) ho h3 (.inr hd))) hnj
    · omega
  have hatB : ∀ b p, Last (WrB r b) (fun k => E k ∨ k = j) p → b ∈ x.u.wr → p = j + 1 := fun b p hL hd => by
    have h1 : ¬ p ≤ j := fun h => hL.2 j (.inr rfl) h ⟨x, hx, hd⟩
    rcases Nat.lt_or_ge (j + 1) p with h | h
    · obtain ⟨h2, h3⟩ := hL.1 (p - 1) (by omega)
      have h2 := h2.resolve_right (by omega)
      exact absurd (hdown j (p - 1) h2 (hP.wrH' (by omega) (hEn _ h2) hx (.inr hd) h3)) hnj
    · omega
  -- a block that it doesn't write, but looks at
  have hread : ∀ b p, Last (WrB r b) E p → b ∈ x.u.fp → b ∉ x.u.wr → p ≤ j ∧ x.u.H.get b = (sAt r st' p).H.get b := fun b p hL hb hn => by
    obtain ⟨q, h1, h2, h3⟩ := atH (.inl hb)
    have := hL.uniq h2
    subst this
    refine ⟨h1, ?_⟩
    rw [hok.keep b hn, hs, h3]
  refine hK g z' w' _ ⟨?_, ?_, ?_, ?_, ?_, hp.rel.zok, ?_, ?_, ?_, ?_, ?_⟩
  · cases hd : o.dst with
    | none => exact hI.size
    | some d => simp [Act.put]; exact hI.size
  · cases hd : o.dst with
    | none => exact hI.defs
    | some d => exact hI.defs
  · exact fun b hb => (e4 b hb).trans (hI.ext b hb)
  · exact fun k p v h => hp.zle _ _ _ (hI.zle _ _ _ h)
  · intro k p v h
    rcases hp.znew k p v h with h1 | h1 | h1
    · exact hI.znew k p v h1
    · exact .inr (.inl (Nat.le_trans hI.fr.size h1))
    · exact .inr (himg k h1)
  · refine hI.fr.trans hp.fr fun k hk hi => ?_
    rcases himg k hi with h1 | h1
    · omega
    · exact h1
  -- slots
  · intro t p hpn hL
    by_cases hd : o.dst = some t
    · have := hatT t p hL hd
      subst this
      have hlt : t < a.tmps.size := by rw [hI.size]; exact hok.dst t hd
      rw [anx, asl t, if_pos hd]
      have : (a.put o.dst v').tmps.getD t undef = v' := by
        rw [hd]
        simp only [Act.put]
        rw [Array.getD_eq_getD_getElem?, Array.getElem?_setIfInBounds_self_of_lt hlt]
        rfl
      rw [this]
      exact RS.mono e1 (Nat.le_refl _) (fun _ _ _ h => h) hv
    · have hL' := hlastT t p hL hd
      have : (a.put o.dst v').tmps.getD t undef = a.tmps.getD t undef := by
        cases hd' : o.dst with
        | none => rfl
        | some d =>
          simp only [Act.put]
          rw [Array.getD_eq_getD_getElem?, Array.getD_eq_getD_getElem?, Array.getElem?_setIfInBounds_ne (fun e => hd (by rw [hd', e]))]
      rw [this]
      have hold := hI.sl t p hpn hL'
      cases p with
      | zero =>
        rw [hP.s0] at hold ⊢
        exact RS.mono e4 (Nat.le_refl _) hp.zle hold
      | succ i =>
        obtain ⟨hEi, oi, hoi, hdi⟩ := hL'.1 i rfl
        obtain ⟨_, xi, _, hxi, _⟩ := hP.get (hEn i hEi)
        have hsl := (hP.after (hEn i hEi) hoi hxi).2.2.2.2 t
        rw [if_pos hdi] at hsl
        refine RS.agree hp.zle (fun b hb => e3 b (hP.named hEn hdown hj hnj hx hEi hxi ?_)) hold
        rw [hsl] at hb
        exact List.mem_append.2 (.inl hb)
  -- blocks
  · intro b p hpn hL hl
    by_cases hd : b ∈ x.u.wr
    · have := hatB b p hL hd
      subst this
      rw [aH] at hl
      rw [aH, anx]
      obtain ⟨h1, h2⟩ := hp.rel.own b (.inl (.inr hd)) hl
      refine ⟨h1, h2.ext h1 e1, fun hb => ?_, fun hb => ?_⟩
      · have hl' := hp.dead b (by omega) hl
        obtain ⟨q, k1, k2, _, k4⟩ := hpos (.inr hd) hl'
        exact (hI.hp b q (by omega) k2 k4).2.2.1 hb
      · rw [e1 b h1]
        rcases hZ b (.inr hd) hl with h3 | ⟨d, h3, h4, h5⟩
        · exact .inl (Nat.le_trans hI.fr.size h3)
        · rw [← h5]; exact hY d h3 h4
    · have hL' := hlastB b p hL hd
      obtain ⟨h1, h2, h3, h4⟩ := hI.hp b p hpn hL' hl
      have eb := e2 b hd
      refine ⟨h1, ?_, h3, fun hb => by rw [eb]; exact h4 hb⟩
      by_cases hf : b ∈ x.u.fp
      · obtain ⟨hpj, hg⟩ := hread b p hL' hf hd
        have hl2 : (x.u.H.get b).live := by rw [hg]; exact hl
        obtain ⟨k1, k2⟩ := hp.rel.own b (.inl (.inl hf)) hl2
        rw [hg] at k2
        exact (k2.ext k1 e1).re h2
      · have hni : ¬ img (Sx x.u.fp x.u.wr) f x.s.H (f b).k := by
          rintro ⟨d, hd', hdl, he⟩
          obtain ⟨q, q1, q2, _, q4⟩ := hpos hd' hdl
          refine hI.inj d b q p (by omega) hpn q2 hL' q4 hl (fun e => ?_) he
          subst e
          exact hd'.elim hf hd
        have hk : BOk f (sAt r st' p).nx z' w' b ((sAt r st' p).H.get b) := h2.kept h1 hp.fr hni (fun _ _ => rfl) (Nat.le_refl _) hp.zle hp.znew
        refine hk.agree eb fun m i k y hy c hc => ?_
        cases p with
        | zero =>
          obtain ⟨_, u, _, hu⟩ := hk.cell m i k y hy
          have := RC.refs_lt hu c hc
          rw [hP.s0] at this
          exact e4 c this
        | succ i' =>
          obtain ⟨hEi, xi, hxi, hbi⟩ := hL'.1 i' rfl
          obtain ⟨oi, _, hoi, _⟩ := hP.get (hEn i' hEi)
          refine e3 c (hP.named hEn hdown hj hnj hx hEi hxi ?_)
          rw [(hP.after (hEn i' hEi) hoi hxi).2.1] at hy
          exact List.mem_append.2 (.inr (List.mem_flatMap.2 ⟨b, hbi, Ob.at_refs hy c hc⟩))
  -- no two of them are one
  · -- what is told of behind it
    have hin : ∀ b p, Last (WrB r b) (fun k => E k ∨ k = j) p → p ≤ ops.size → ((sAt r st' p).H.get b).live → (b ∈ x.u.fp ∨ b ∈ x.u.wr) → (x.u.H.get b).live ∧ g b = f' b := fun b p hL hpn hl hb => by
      by_cases hd : b ∈ x.u.wr
      · have := hatB b p hL hd
        subst this
        rw [aH] at hl
        exact ⟨hl, e1 b (hok.lt b hd)⟩
      · have hf := hb.resolve_right hd
        have hL' := hlastB b p hL hd
        obtain ⟨hpj, hg⟩ := hread b p hL' hf hd
        have hlt := (hI.hp b p hpn hL' hl).1
        have hle := hP.nx_le (i := p) (j := j) hpj (by omega)
        rw [← hs] at hle
        have := hok.nx
        exact ⟨by rw [hg]; exact hl, e1 b (by omega)⟩
    have side : ∀ b c p q, Last (WrB r b) (fun k => E k ∨ k = j) p → Last (WrB r c) (fun k => E k ∨ k = j) q → p ≤ ops.size → q ≤ ops.size → ((sAt r st' p).H.get b).live → ((sAt r st' q).H.get c).live →
        (b ∈ x.u.fp ∨ b ∈ x.u.wr) → ¬ (c ∈ x.u.fp ∨ c ∈ x.u.wr) → (g b).k ≠ (g c).k := by
      intro b c p q hp1 hq1 hpn hqn hl hl' hb hc
      simp only [not_or] at hc
      obtain ⟨hb1, hb2⟩ := hin b p hp1 hpn hl hb
      have hL' := hlastB c q hq1 hc.2
      rw [hb2, e2 c hc.2]
      rcases hZ b hb hb1 with h3 | ⟨d, h3, h4, h5⟩
      · have := (hI.hp c q hqn hL' hl').2.1.lt
        omega
      · obtain ⟨p', k1, k2, _, k4⟩ := hpos h3 h4
        rw [← h5]
        refine hI.inj d c p' q (by omega) hqn k2 hL' k4 hl' fun e => ?_
        subst e
        exact h3.elim hc.1 hc.2
    intro b c p q hpn hqn hp1 hq1 hl hl' hne
    by_cases hb : b ∈ x.u.fp ∨ b ∈ x.u.wr
    · by_cases hc : c ∈ x.u.fp ∨ c ∈ x.u.wr
      · obtain ⟨hb1, hb2⟩ := hin b p hp1 hpn hl hb
        obtain ⟨hc1, hc2⟩ := hin c q hq1 hqn hl' hc
        rw [hb2, hc2]
        exact hp.rel.inj b c (.inl hb) (.inl hc) hb1 hc1 hne
      · exact side b c p q hp1 hq1 hpn hqn hl hl' hb hc
    · by_cases hc : c ∈ x.u.fp ∨ c ∈ x.u.wr
      · exact (side c b q p hq1 hp1 hqn hpn hl' hl hc hb).symm
      · simp only [not_or] at hb hc
        rw [e2 b hb.2, e2 c hc.2]
        exact hI.inj b c p q hpn hqn (hlastB b p hp1 hb.2) (hlastB c q hq1 hc.2) hl hl' hne
  · intro k y hk hy he
    rcases hk with hk | rfl
    · exact hI.noesc k y hk hy he
    · rw [hx] at hy
      simp only [Option.some.injEq] at hy
      subst hy
      exact hp.noesc he

end

end Go.Proofs.Ytggneleipimijaa.En
