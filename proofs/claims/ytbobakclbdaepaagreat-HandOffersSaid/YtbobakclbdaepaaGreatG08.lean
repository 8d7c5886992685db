/- Texts put together: E12, E13, E14. -/
import Derived.Test.YtbobakclbdaepaaGreatG07
/- The engine, part 12: calls; every operation; a region in the text's order. -/
namespace Go.Proofs.YtbobakclbdaepaaGreat.En
open Go
set_option linter.unusedVariables false
set_option linter.unusedSimpArgs false

/-- what one call comes to -/
def CallTo (P : Program) (g : Nat) (args : List AV) (H : Heap) (nx : Nat) (r : CallOut) : Prop :=
  ∀ (f : Fn) (z : Z) (w : World) (vs : Array Value), Rel All f nx z w H → RAs f nx z args vs.toList →
    ∀ (R : Ending → World → Prop), (∀ f' z' w' v', Post All f nx z w H f' r.nx z' w' r.H r.esc → RS f' r.nx z' r.v v' → R (.returned v') w') → Calls P g vs w R

def CallOk (P : Program) (call : CallF) : Prop := ∀ (g : Nat) (args : List AV) (H : Heap) (nx : Nat) (r : CallOut), (call g args H nx).res = some r → CallTo P g args H nx r

theorem Post.ofAll {S : Nat → Prop} {f f' : Fn} {nx nx' : Nat} {z z' : Z} {w w' : World} {H H' : Heap} {esc : Bool} (h : Post All f nx z w H f' nx' z' w' H' esc) (hS : ∀ b, (H.get b).live → S b) : Post S f nx z w H f' nx' z' w' H' esc := by
  have himg : ∀ k, img All f H k → img S f H k := fun k ⟨b, _, hl, e⟩ => ⟨b, hS b hl, hl, e⟩
  exact ⟨h.hnx, h.ext, h.zle, fun k o v hv => (h.znew k o v hv).imp id (Or.imp id (himg k)), fun b hb hs => .inr fun hl => hs (hS b (h.dead b hb hl)), h.dead,
    ⟨fun b _ => h.rel.own b (.inl trivial), fun b c _ _ => h.rel.inj b c (.inl trivial) (.inl trivial), h.rel.zok⟩, fun b hb hl => (h.fresh b hb hl).imp id (himg _), h.fr.less fun x _ => himg x, h.noesc⟩

theorem live_key : ∀ (H : Heap) (b : Nat), (H.get b).live → b ∈ H.map (·.1)
  | [], b, h => h.elim
  | (k, o) :: r, b, h => by
    rw [Heap.get_cons] at h
    by_cases e : k = b
    · subst e; simp
    · rw [if_neg e] at h
      simp [live_key r b h]

theorem anyBeq (ids : List Nat) (b : Nat) : (ids.any (Nat.beq b)) = true ↔ b ∈ ids := by
  simp only [List.any_eq_true]
  constructor
  · rintro ⟨x, hx, h⟩
    rw [nbeq h]; exact hx
  · intro h; exact ⟨b, h, Nat.beq_refl b⟩

theorem get_filter (p : Nat → Bool) : ∀ (H : Heap) (b : Nat), Heap.get (H.filter fun e => p e.1) b = if p b then H.get b else .dead
  | [], b => by simp [Heap.get]
  | (k, o) :: r, b => by
    rw [List.filter_cons]
    by_cases hp : p k = true
    · rw [if_pos hp, Heap.get_cons, Heap.get_cons, get_filter p r b]
      by_cases e : k = b
      · subst e; simp [hp]
      · simp [e]
    · rw [if_neg hp, Heap.get_cons, get_filter p r b]
      by_cases e : k = b
      · subst e; simp [hp]
      · simp [e]

theorem get_append : ∀ (A B : Heap) (b : Nat), Heap.get (A ++ B) b = A.get b ∨ (A.get b = .dead ∧ Heap.get (A ++ B) b = B.get b)
  | [], B, b => .inr ⟨rfl, rfl⟩
  | (k, o) :: A, B, b => by
    simp only [List.cons_append]
    rw [Heap.get_cons, Heap.get_cons]
    by_cases e : k = b
    · simp [e]
    · simp only [e, if_false]
      exact get_append A B b

/-- a step on a part of a heap, told of the whole one -/
theorem Post.part {f f' : Fn} {nx nx' : Nat} {z z' : Z} {w w' : World} {H A : Heap} {esc : Bool} (ids : List Nat) (hno : ∀ b, nx ≤ b → ¬ (H.get b).live)
    (h : Post All f nx z w (H.filter fun e => ids.any (Nat.beq e.1)) f' nx' z' w' A esc) :
    Post (Sx ids (ids ++ (List.range (nx' - nx)).map (nx + ·))) f nx z w H f' nx' z' w' (A ++ H.filter fun e => !(ids.any (Nat.beq e.1))) esc := by
  have hin : ∀ b, Heap.get (H.filter fun e => ids.any (Nat.beq e.1)) b = if b ∈ ids then H.get b else .dead := fun b => by
    rw [get_filter (fun b => ids.any (Nat.beq b))]
    by_cases hb : b ∈ ids
    · rw [if_pos ((anyBeq ids b).2 hb), if_pos hb]
    · rw [if_neg (fun e => hb ((anyBeq ids b).1 e)), if_neg hb]
  have hout : ∀ b, Heap.get (H.filter fun e => !(ids.any (Nat.beq e.1))) b = if b ∈ ids then .dead else H.get b := fun b => by
    rw [get_filter (fun b => !(ids.any (Nat.beq b)))]
    by_cases hb : b ∈ ids
    · rw [if_neg (by rw [(anyBeq ids b).2 hb]; simp), if_pos hb]
    · have : ids.any (Nat.beq b) = false := by
        cases hq : ids.any (Nat.beq b) with
        | false => rfl
        | true => exact absurd ((anyBeq ids b).1 hq) hb
      rw [if_pos (by rw [this]; rfl), if_neg hb]
  generalize hI : (H.filter fun e => ids.any (Nat.beq e.1)) = I at *
  generalize hO : (H.filter fun e => !(ids.any (Nat.beq e.1))) = O at *
  have hS : ∀ b, Sx ids (ids ++ (List.range (nx' - nx)).map (nx + ·)) b ↔ (b ∈ ids ∨ (nx ≤ b ∧ b < nx')) := fun b => by
    simp only [Sx, List.mem_append, List.mem_map, List.mem_range]
    constructor
    · rintro (h | h | ⟨a, ha, rfl⟩)
      · exact .inl h
      · exact .inl h
      · exact .inr ⟨by omega, by omega⟩
    · rintro (h | ⟨h1, h2⟩)
      · exact .inl h
      · exact .inr (.inr ⟨b - nx, by omega, by omega⟩)
  have inlive : ∀ b, (Heap.get I b).live → b ∈ ids ∧ Heap.get I b = H.get b := fun b hl => by
    rw [hin] at hl ⊢
    by_cases hb : b ∈ ids
    · rw [if_pos hb]; exact ⟨hb, rfl⟩
    · rw [if_neg hb] at hl; exact hl.elim
  have himg : ∀ k, img All f I k → img (Sx ids (ids ++ (List.range (nx' - nx)).map (nx + ·))) f H k := fun k ⟨b, _, hl, e⟩ => by
    obtain ⟨h1, h2⟩ := inlive b hl
    exact ⟨b, (hS b).2 (.inl h1), by rw [← h2]; exact hl, e⟩
  -- in the part
  have mIn : ∀ b, (b ∈ ids ∨ nx ≤ b) → (Heap.get (A ++ O) b).live → Heap.get (A ++ O) b = A.get b := fun b hb hl => by
    rcases get_append A O b with e | ⟨e1, e2⟩
    · exact e
    · exfalso
      rw [e2, hout] at hl
      by_cases hb' : b ∈ ids
      · rw [if_pos hb'] at hl; exact hl
      · rw [if_neg hb'] at hl; exact hno b (hb.resolve_left hb') hl
  -- out of it
  have mOut : ∀ b, b < nx → b ∉ ids → Heap.get (A ++ O) b = H.get b ∨ ¬ (Heap.get (A ++ O) b).live := fun b hb hn => by
    rcases get_append A O b with e | ⟨e1, e2⟩
    · right
      rw [e]
      intro hl
      exact hn (inlive b (h.dead b hb hl)).1
    · left; rw [e2, hout, if_neg hn]
  refine ⟨h.hnx, h.ext, h.zle, fun k o v hv => (h.znew k o v hv).imp id (Or.imp id (himg k)), fun b hb hs => mOut b hb fun e => hs ((hS b).2 (.inl e)), fun b hb hl => ?_, ⟨fun b hb hl => ?_, fun b c hb hc hl hl' hne => ?_, h.rel.zok⟩, fun b hb hl => ?_, h.fr.less fun x _ => himg x, fun he m hm hN b l hb hg => ?_⟩
  · by_cases hi : b ∈ ids
    · rw [mIn b (.inl hi) hl] at hl
      have := h.dead b hb hl
      obtain ⟨_, h2⟩ := inlive b this
      rw [← h2]; exact this
    · rcases mOut b hb hi with e | e
      · rw [← e]; exact hl
      · exact absurd hl e
  · have hb' : b ∈ ids ∨ nx ≤ b := by
      rcases hb with hb | hb
      · rcases (hS b).1 hb with h | h
        · exact .inl h
        · exact .inr h.1
      · exact .inr hb
    have e := mIn b hb' hl
    rw [e] at hl ⊢
    exact h.rel.own b (.inl trivial) hl
  · have side : ∀ b, (Sx ids (ids ++ (List.range (nx' - nx)).map (nx + ·)) b ∨ nx ≤ b) → b ∈ ids ∨ nx ≤ b := fun b hb => by
      rcases hb with hb | hb
      · rcases (hS b).1 hb with h | h
        · exact .inl h
        · exact .inr h.1
      · exact .inr hb
    have e1 := mIn b (side b hb) hl
    have e2 := mIn c (side c hc) hl'
    rw [e1] at hl
    rw [e2] at hl'
    exact h.rel.inj b c (.inl trivial) (.inl trivial) hl hl' hne
  · have e := mIn b (.inr hb) hl
    rw [e] at hl
    exact (h.fresh b hb hl).imp id (himg _)
  · have hl : (Heap.get (A ++ O) b).live := by rw [hg]; trivial
    by_cases hi : b ∈ ids
    · rw [mIn b (.inl hi) hl] at hg
      refine h.noesc he m hm (fun c lc hc hgc => ?_) b l hb hg
      have hlc : (Heap.get I c).live := by rw [hgc]; trivial
      obtain ⟨_, e⟩ := inlive c hlc
      rw [e] at hgc
      exact hN c lc hc hgc
    · rcases mOut b (by omega) hi with e | e
      · rw [e] at hg; exact hN b l hb hg
      · exact absurd hl e

/-- what is dead already may go -/
theorem Post.sift {S : Nat → Prop} {f f' : Fn} {nx nx' : Nat} {z z' : Z} {w w' : World} {H A A' : Heap} {esc : Bool} (h : Post S f nx z w H f' nx' z' w' A esc) (e : ∀ b, A'.get b = A.get b ∨ ¬ (A'.get b).live) : Post S f nx z w H f' nx' z' w' A' esc := by
  have hl : ∀ b, (A'.get b).live → A'.get b = A.get b := fun b hb => (e b).resolve_right (fun h => h hb)
  refine ⟨h.hnx, h.ext, h.zle, h.znew, fun b hb hs => ?_, fun b hb hv => h.dead b hb (by rw [← hl b hv]; exact hv), ⟨fun b hb hv => ?_, fun b c hb hc hv hv' => h.rel.inj b c hb hc (by rw [← hl b hv]; exact hv) (by rw [← hl c hv']; exact hv'), h.rel.zok⟩,
    fun b hb hv => h.fresh b hb (by rw [← hl b hv]; exact hv), h.fr, fun he m hm hN b l hb hg => h.noesc he m hm hN b l hb (by rw [← hl b (by rw [hg]; trivial)]; exact hg)⟩
  · rcases e b with h1 | h1
    · rw [h1]; exact h.same b hb hs
    · exact .inr h1
  · have := hl b hv
    rw [this] at hv ⊢
    exact h.rel.own b hb hv

section ops
variable {P : Program} {G : Ctx} (hG : CtxOk P G) {call : CallF} (hC : CallOk P call) {draw : Bool} {st : St} {o : Oper} {u : Out}

theorem avs?_ok {f : Fn} {z : Z} {a : Act} (ht : TR f st.nx z st.sl a.tmps) : ∀ (l : List Operand) (r : List AV), avs? (l.map st.val) = some r → RAs f st.nx z r (l.map a.eval)
  | [], r, h => by
    simp only [List.map_nil, avs?, Option.some.injEq] at h
    subst h
    exact RAs.nil
  | y :: l, r, h => by
    simp only [List.map_cons] at h
    unfold avs? at h
    split at h
    · cases ‹_ :: _ = []›
    · rename_i x r' heq
      simp only [List.cons.injEq] at heq
      obtain ⟨h1, rfl⟩ := heq
      split at h
      · rename_i q hq
        simp only [Option.some.injEq] at h
        subst h
        have hv := val_ok ht y
        rw [h1] at hv
        exact RAs.cons hv (avs?_ok ht l q hq)
      · cases h
    · cases h

theorem RAs.append {f : Fn} {nx : Nat} {z : Z} {a b : List AV} {u v : List Value} (h : RAs f nx z a u) (k : RAs f nx z b v) : RAs f nx z (a ++ b) (u ++ v) := by
  refine ⟨by simp [h.1, k.1], fun i x y hx hy => ?_⟩
  rcases Nat.lt_or_ge i a.length with hi | hi
  · rw [List.getElem?_append_left hi] at hx
    rw [List.getElem?_append_left (by rw [← h.1]; exact hi)] at hy
    exact h.2 i x y hx hy
  · rw [List.getElem?_append_right hi] at hx
    rw [List.getElem?_append_right (by rw [← h.1]; exact hi), ← h.1] at hy
    exact k.2 _ x y hx hy

include hG hC

theorem op_call {c : Call} (ho : o.op = .call c) {fo : Operand} (hc : c.callee = .value fo) {g : Nat} {cap : List (Nat × Nat × Nat × Nat)} (hf : st.val fo = .v (.one (.fn g cap))) {args : List AV} (ha : avs? (c.args.toList.map st.val) = some args)
    {fn : Func} (hg : G.fi g = some fn) (h : (evCallOp call draw st g (args ++ cap.map fun x => .one (.ptr x.1 x.2.1 x.2.2.1 x.2.2.2))).res = some u) : OpOk P o st u := by
  intro f z w a ht hr hno K Q hk
  obtain ⟨hfn, hbody, hname⟩ := hG.fi g fn hg
  have hv := val_ok ht fo
  rw [hf] at hv
  obtain ⟨hv, hcap⟩ := hv
  have hargs := avs?_ok ht c.args.toList args ha
  have hall : RAs f st.nx z (args ++ cap.map fun x => .one (.ptr x.1 x.2.1 x.2.2.1 x.2.2.2)) (c.args.map a.eval ++ (cap.map fun x => Value.pointer (some (ad f x.1 x.2.1 x.2.2.1 x.2.2.2))).toArray).toList := by
    rw [Array.toList_append, Array.toList_map]
    refine RAs.append hargs ⟨by simp, fun i x v hx hv => ?_⟩
    simp only [List.getElem?_map] at hx hv
    cases hq : cap[i]? with
    | none => rw [hq] at hx; cases hx
    | some q =>
      rw [hq] at hx hv
      simp only [Option.map_some, Option.some.injEq] at hx hv
      subst hx hv
      exact ⟨hcap q (List.mem_of_getElem? hq), rfl⟩
  have hrun : (execOp a.eval o).run P w = .ok (.enter g (c.args.map a.eval ++ (cap.map fun x => Value.pointer (some (ad f x.1 x.2.1 x.2.2.1 x.2.2.2))).toArray)) w := by
    have hbn : fn.body.isNone = false := by cases hb : fn.body with
      | none => rw [hb] at hbody; cases hbody
      | some _ => rfl
    simp only [execOp, ho, resolve, hc, hv, Deferred.ofValue, Sem.run_bind, Sem.run_pure, Result.andThen_ok, invoke, callFunc, run_program, hfn, hname, hbn, Bool.false_eq_true, if_false]
    simp
  unfold Oper.wp
  rw [hrun, Oper.upon_enter]
  cases draw with
  | false =>
    obtain ⟨r, hr', h⟩ := T.bind_some h
    have h := T.ret_some h
    subst h
    have hS : ∀ b, (st.H.get b).live → Sx (st.H.map (·.1)) (r.wr ++ (List.range (r.nx - st.nx)).map (st.nx + ·)) b := fun b hl => .inl (live_key _ _ hl)
    have hrA : Rel All f st.nx z w st.H := ⟨fun b _ hl => hr.own b (hS b hl) hl, fun b c _ _ hl hl' => hr.inj b c (hS b hl) (hS c hl') hl hl', hr.zok⟩
    refine hC g _ st.H st.nx r hr' f z w _ hrA hall _ fun f' z' w' v' hp hv' => ?_
    refine hk f' z' w' v' (Post.ofAll ?_ hS) hv'
    simpa using hp
  | true =>
    obtain ⟨r, hr', h⟩ := T.bind_some h
    have h := T.ret_some h
    subst h
    simp only at hr hk
    generalize hids : List.filter _ (reach st.H 4000 _ []) = ids at hr' hr hk
    have hin : ∀ b, Heap.get (st.H.filter fun e => ids.any (Nat.beq e.1)) b = if b ∈ ids then st.H.get b else .dead := fun b => by
      rw [get_filter (fun b => ids.any (Nat.beq b))]
      by_cases hb : b ∈ ids
      · rw [if_pos ((anyBeq ids b).2 hb), if_pos hb]
      · rw [if_neg (fun e => hb ((anyBeq ids b).1 e)), if_neg hb]
    have hS : ∀ b, (Heap.get (st.H.filter fun e => ids.any (Nat.beq e.1)) b).live → Sx ids ((ids.filter fun b => r.wr.any (Nat.beq b)) ++ (List.range (r.nx - st.nx)).map (st.nx + ·)) b ∧ Heap.get (st.H.filter fun e => ids.any (Nat.beq e.1)) b = st.H.get b := fun b hl => by
      rw [hin] at hl ⊢
      by_cases hb : b ∈ ids
      · rw [if_pos hb]; exact ⟨.inl hb, rfl⟩
      · rw [if_neg hb] at hl; exact hl.elim
    have hrA : Rel All f st.nx z w (st.H.filter fun e => ids.any (Nat.beq e.1)) := by
      refine ⟨fun b _ hl => ?_, fun b c _ _ hl hl' => ?_, hr.zok⟩
      · obtain ⟨h1, h2⟩ := hS b hl
        rw [h2] at hl ⊢
        exact hr.own b h1 hl
      · obtain ⟨h1, h2⟩ := hS b hl
        obtain ⟨h3, h4⟩ := hS c hl'
        rw [h2] at hl
        rw [h4] at hl'
        exact hr.inj b c h1 h3 hl hl'
    refine hC g _ _ st.nx r hr' f z w _ hrA hall _ fun f' z' w' v' hp hv' => ?_
    refine hk f' z' w' v' ?_ hv'
    have := Post.part ids hno (Post.sift (A' := r.H.filter fun e => (ids ++ (List.range (r.nx - st.nx)).map (st.nx + ·)).any (Nat.beq e.1)) hp fun b => by
      rw [get_filter (fun b => (ids ++ (List.range (r.nx - st.nx)).map (st.nx + ·)).any (Nat.beq b))]
      split
      · exact .inl rfl
      · exact .inr fun h => h)
    have hset : Sx ids (ids ++ (List.range (r.nx - st.nx)).map (st.nx + ·)) = Sx ids ((ids.filter fun b => r.wr.any (Nat.beq b)) ++ (List.range (r.nx - st.nx)).map (st.nx + ·)) := by
      funext b
      apply propext
      simp only [Sx, List.mem_append, List.mem_filter]
      constructor
      · rintro (h | h | h)
        · exact .inl h
        · exact .inl h
        · exact .inr (.inr h)
      · rintro (h | h | h)
        · exact .inl h
        · exact .inl h.1
        · exact .inr (.inr h)
    rw [hset] at this
    simpa using this

theorem evOp_ok (h : (evOp G call draw st o).res = some u) : OpOk P o st u := by
  unfold evOp at h
  split at h
  · rename_i x ho; exact op_move (.inl ho) h
  · rename_i x ho; exact op_move (.inr ho) h
  · rename_i c x y ho; exact op_pick ho h
  · rename_i t ho
    split at h
    · rename_i i hi; exact op_alloc hG ho hi h
    · exact (T.bad_some h).elim
  · rename_i t x ho
    split at h
    · rename_i v hv; exact op_box ho hv h
    · exact (T.bad_some h).elim
  · rename_i t parts ho
    split at h
    · rename_i i ps hi hp
      split at h
      · rename_i fs hk
        split at h
        · rename_i l hf; exact op_build_struct hG ho hi hp hk hf h
        · exact (T.bad_some h).elim
      · rename_i n e hk
        split at h
        · rename_i ei he
          split at h
          · rename_i l hf; exact op_build_array hG ho hi hp hk he hf h
          · exact (T.bad_some h).elim
        · exact (T.bad_some h).elim
      · exact (T.bad_some h).elim
    · exact (T.bad_some h).elim
  · rename_i t n parts ho
    split at h
    · rename_i sz by' z e ag eq ps hi hp
      split at h
      · rename_i ei he
        split at h
        · rename_i l hn hf; exact op_buildSlice hG ho hi hp rfl he hn hf h
        · exact (T.bad_some h).elim
      · exact (T.bad_some h).elim
    · exact (T.bad_some h).elim
  · rename_i t x ho
    split at h
    · rename_i i b m a j hi hv; exact op_load hG ho hi hv h
    · rename_i i l hi hv
      dsimp only at h
      split at h
      · rename_i v hlen hc; exact op_loadF hG ho hi hv hlen hc h
      · exact (T.bad_some h).elim
    · exact (T.bad_some h).elim
  · rename_i t x y ho
    split at h
    · rename_i i b m a j v hi hx hy
      split at h
      · rename_i hs; exact op_store hG ho hi hx hy hs h
      · exact (T.bad_some h).elim
    · exact (T.bad_some h).elim
  · rename_i x ho
    split at h
    · rename_i b m a j hv; exact op_nilCheck ho hv h
    · rename_i l hv; exact op_nilCheck ho hv h
    · rename_i g c hv; exact op_nilCheck ho hv h
    · exact (T.bad_some h).elim
  · rename_i op t x y t' ho
    split at h
    · rename_i a b hp hq; exact op_binOp hG ho hp hq h
    · exact (T.bad_some h).elim
  · rename_i op t x ho
    split at h
    · rename_i a hp; exact op_unOp ho hp h
    · exact (T.bad_some h).elim
  · rename_i a b x ho
    split at h
    · rename_i v hp; exact op_convert hG ho hp h
    · exact (T.bad_some h).elim
  · rename_i fn first captured ho
    split at h
    · rename_i g l hf hl; exact op_makeFunc ho rfl hf hl h
    · exact (T.bad_some h).elim
  · rename_i t l c ho
    split at h
    · rename_i sz by' z e ag eq l' c' hi hl hc
      split at h
      · rename_i ei he; exact op_makeSlice hG ho hi rfl hl hc he h
      · exact (T.bad_some h).elim
    · exact (T.bad_some h).elim
  · rename_i t r ho
    split at h
    · rename_i sz by' z kt et ag eq hi; exact op_makeMap hG ho hi rfl (.inl rfl) h
    · rename_i sz by' z kt et ag eq x hi
      split at h
      · rename_i kd n hx; exact op_makeMap hG ho hi rfl (.inr ⟨x, kd, n, rfl, hx⟩) h
      · exact (T.bad_some h).elim
    · exact (T.bad_some h).elim
  · rename_i t x y ok ho
    split at h
    · rename_i m k hx hy; exact op_lookup hG ho hx hy h
    · exact (T.bad_some h).elim
  · rename_i t x y v ho
    split at h
    · rename_i m k q hx hy hv; exact op_mapUpdate hG (.inl ho) hx hy hv h
    · exact (T.bad_some h).elim
  · rename_i t x y v ho
    split at h
    · rename_i m k q hx hy hv; exact op_mapUpdate hG (.inr ho) hx hy hv h
    · exact (T.bad_some h).elim
  · rename_i t x lo hi mx ho
    split at h
    · rename_i v hx; exact op_slice hG ho hx h
    · exact (T.bad_some h).elim
  · rename_i t x fld ho
    split at h
    · rename_i sz by' z fs ag eq v hi hv
      split at h
      · rename_i off size ty agg hf; exact op_fieldAddr hG ho hi rfl hv hf h
      · exact (T.bad_some h).elim
    · exact (T.bad_some h).elim
  · rename_i t x fld ho
    split at h
    · rename_i l hv
      split at h
      · rename_i v hf; exact op_field hG ho hv hf h
      · exact (T.bad_some h).elim
    · exact (T.bad_some h).elim
  · rename_i t x i ho
    split at h
    · rename_i v kd n hx hy; exact op_indexAddr hG ho hx hy h
    · exact (T.bad_some h).elim
  · rename_i t x i ho
    split at h
    · rename_i v kd n hx hy; exact op_index hG ho hx hy h
    · exact (T.bad_some h).elim
  · rename_i x i ho
    split at h
    · rename_i l hx
      split at h
      · rename_i v hv; exact op_extract ho hx hv h
      · exact (T.bad_some h).elim
    · exact (T.bad_some h).elim
  · rename_i c ho
    split at h
    · rename_i b hc
      unfold evBuiltin at h
      split at h
      · rename_i t0 t1 s x hts hargs; exact op_append hG ho hc hts hargs h
      · rename_i t0 r0 d x hts hargs; exact op_copy hG ho hc hts hargs h
      · rename_i t0 r0 d hts hargs; exact op_clear hG ho hc hts hargs h
      · rename_i t0 r0 b hts hargs; exact op_lenM hG ho hc hts hargs h
      · rename_i t0 r0 x hts hargs; exact op_len hG ho hc hts hargs h
      · rename_i t0 r0 x hts hargs; exact op_cap hG ho hc hts hargs h
      · exact op_max (mx := true) ho hc h
      · exact op_max (mx := false) ho hc h
      · exact (T.bad_some h).elim
    · rename_i fo hc
      split at h
      · rename_i g cap args hf ha
        split at h
        · rename_i fn hg; exact op_call hG hC ho hc hf ha hg h
        · exact (T.bad_some h).elim
      · exact (T.bad_some h).elim
    · exact (T.bad_some h).elim
  · exact (T.bad_some h).elim

end ops
end Go.Proofs.YtbobakclbdaepaaGreat.En
/- The engine, part 13: operations in a row; what a function hands back. -/
namespace Go.Proofs.YtbobakclbdaepaaGreat.En
open Go
set_option linter.unusedVariables false
set_option linter.unusedSimpArgs false

theorem forceV_eq {β : Type} (sym : Bool) (v : SV) (k : SV → β) : forceV sym v k = k v := by
  unfold forceV
  split <;> rfl

theorem Post.weak {S : Nat → Prop} {f f' : Fn} {nx nx' : Nat} {z z' : Z} {w w' : World} {H H' : Heap} {e e' : Bool} (h : Post S f nx z w H f' nx' z' w' H' e) (he : e' = false → e = false) : Post S f nx z w H f' nx' z' w' H' e' :=
  ⟨h.hnx, h.ext, h.zle, h.znew, h.same, h.dead, h.rel, h.fresh, h.fr, fun h' => h.noesc (he h')⟩

theorem TR.slot {f : Fn} {nx : Nat} {z : Z} {s : Slots} {a : Array Value} (h : TR f nx z s a) {t : Nat} {v : Value} (hs : s.get t = .v (.one (.f (.lit v)))) (hv : v ≠ undef) : a[t]? = some v := by
  have h1 := h t
  rw [hs] at h1
  have h1 := lit_ok h1
  cases hq : a[t]? with
  | none => simp [hq] at h1; exact absurd h1.symm hv
  | some q => simp [hq] at h1; rw [h1]

theorem put_TR {f : Fn} {nx : Nat} {z : Z} {sl : Slots} {a : Act} {N : Nat} {d : Option Nat} {x : SV} {v : Value} {st : St} (hst : st.sl = sl) (ht : TR f nx z sl a.tmps) (hN : a.tmps.size = N) (hd : (match d with | some d => Nat.ble (d + 1) N | none => true) = true) (hx : RS f nx z x v) :
    TR f nx z (st.put d x).sl (a.put d v).tmps ∧ (a.put d v).tmps.size = N ∧ (a.put d v).defers = a.defers := by
  cases d with
  | none => exact ⟨by simpa [St.put, Act.put, hst] using ht, hN, rfl⟩
  | some d =>
    have hd := nble hd
    refine ⟨?_, by simpa [Act.put] using hN, rfl⟩
    simp only [St.put, Act.put, hst]
    exact ht.put (by omega) hx

theorem put_H (st : St) (d : Option Nat) (v : SV) : (st.put d v).H = st.H ∧ (st.put d v).nx = st.nx ∧ (st.put d v).esc = st.esc := by
  cases d <;> exact ⟨rfl, rfl, rfl⟩

theorem Post.reflA {f : Fn} {nx : Nat} {z : Z} {w : World} {H : Heap} {esc : Bool} (hr : Rel All f nx z w H) : Post All f nx z w H f nx z w H esc := Post.refl hr hr.noLive

section ops
variable {P : Program} {G : Ctx} (hG : CtxOk P G) {call : CallF} (hC : CallOk P call)
include hG hC

theorem evOps_seq {N : Nat} {ops : Array Oper} {Q : Exit → Act → World → Prop} : ∀ (l : List Oper) (k : Nat) (st : St) (st' : St), (∀ i, l[i]? = ops.toList[k + i]?) → (evOps G call N ops.toList l st).res = some st' →
    (st'.esc = false → st.esc = false) ∧ ∀ (f : Fn) (z : Z) (w : World) (a : Act), TR f st.nx z st.sl a.tmps → Rel All f st.nx z w st.H → a.tmps.size = N →
      (∀ f' z' w' a', Post All f st.nx z w st.H f' st'.nx z' w' st'.H st'.esc → TR f' st'.nx z' st'.sl a'.tmps → a'.tmps.size = N → a'.defers = a.defers → Q .normal a' w') → wpOps P ops Q (List.range' k l.length) a w
  | [], k, st, st', hl, h => by
    have h := T.ret_some h
    subst h
    refine ⟨id, fun f z w a ht hr hN hQ => ?_⟩
    simp only [List.length_nil, List.range'_zero, wpOps]
    exact hQ f z w a (Post.reflA hr) ht hN rfl
  | o :: l, k, st, st', hl, h => by
    have ho : ops[k]? = some o := by
      have := hl 0
      simp only [List.getElem?_cons_zero, Nat.add_zero] at this
      simpa using this.symm
    have hl' : ∀ i, l[i]? = ops.toList[k + 1 + i]? := fun i => by
      have := hl (i + 1)
      rw [List.getElem?_cons_succ] at this
      rw [this]
      congr 1
      omega
    -- an operation is run
    have doit : ∀ (st1 : St), st1.H = st.H → st1.nx = st.nx → st1.esc = st.esc → (match o.dst with | some d => Nat.ble (d + 1) N | none => true) = true →
        ((evOp G call false st1 o).bind fun u => forceV G.sym u.v fun v => evOps G call N ops.toList l ((st1.up u).put o.dst v)).res = some st' →
        (st'.esc = false → st.esc = false) ∧ ∀ (f : Fn) (z : Z) (w : World) (a : Act), TR f st.nx z st1.sl a.tmps → Rel All f st.nx z w st.H → a.tmps.size = N →
          (∀ f' z' w' a', Post All f st.nx z w st.H f' st'.nx z' w' st'.H st'.esc → TR f' st'.nx z' st'.sl a'.tmps → a'.tmps.size = N → a'.defers = a.defers → Q .normal a' w') → o.wp P a w (wpOps P ops Q (List.range' (k + 1) l.length)) Q := by
      intro st1 e1 e2 e3 hd h
      obtain ⟨u, hu, h⟩ := T.bind_some h
      rw [forceV_eq] at h
      obtain ⟨p1, p2, p3⟩ := put_H (st1.up u) o.dst u.v
      obtain ⟨i1, i2⟩ := evOps_seq l (k + 1) _ st' hl' h
      rw [p3] at i1
      have i1 : st'.esc = false → (st1.esc || u.esc) = false := i1
      refine ⟨fun he => ?_, fun f z w a ht hr hN hQ => ?_⟩
      · have := i1 he
        rw [e3] at this
        simp only [Bool.or_eq_false_iff] at this
        exact this.1
      · have hop := evOp_ok hG hC hu
        rw [← e2] at ht hr
        rw [← e1] at hr
        refine hop f z w a ht (hr.less fun b _ => trivial) hr.noLive _ Q fun f' z' w' v' hp hv => ?_
        have hp := Post.lift hr hp
        obtain ⟨q1, q2, q3⟩ := put_TR (st := (st1.up u)) rfl (ht.mono hp.ext hp.hnx hp.zle) hN hd hv
        refine i2 f' z' w' (a.put o.dst v') (by rw [p2]; exact q1) (by rw [p1, p2]; exact hp.all) q2 fun f'' z'' w'' a'' hp2 ht2 hN2 hd2 => ?_
        rw [p1, p2] at hp2
        rw [← e1, ← e2] at hQ
        refine hQ f'' z'' w'' a'' ((Post.trans hp hp2).weak fun he => ?_) ht2 hN2 (hd2.trans q3)
        have := i1 he
        simp only [Bool.or_eq_false_iff] at this ⊢
        exact ⟨this.2, he⟩
    simp only [evOps] at h
    split at h
    · exact (T.bad_some h).elim
    rename_i hd
    have hd' : (match o.dst with | some d => Nat.ble (d + 1) N | none => true) = true := hd
    split at h
    · rename_i hgd
      obtain ⟨a1, a2⟩ := doit st rfl rfl rfl hd' h
      refine ⟨a1, fun f z w a ht hr hN hQ => ?_⟩
      simp only [List.length_cons, List.range'_succ, wpOps, ho]
      rw [if_pos (by simp [Region.wanted, hgd])]
      exact .inl (a2 f z w a ht hr hN hQ)
    · rename_i j want hgd
      split at h
      · exact (T.bad_some h).elim
      rename_i t hj
      have hj' : (ops[j]?).bind (·.dst) = some t := by simpa using hj
      -- it isn't carried out
      have skip : ∀ (st1 : St), st1.H = st.H → st1.nx = st.nx → st1.esc = st.esc → (evOps G call N ops.toList l (st1.put o.dst (.tup []))).res = some st' →
          (∀ (f : Fn) (z : Z) (w : World) (a : Act), TR f st.nx z st.sl a.tmps → TR f st1.nx z st1.sl a.tmps ∧ Region.wanted o (yielded ops a.tmps) = false) →
          (st'.esc = false → st.esc = false) ∧ ∀ (f : Fn) (z : Z) (w : World) (a : Act), TR f st.nx z st.sl a.tmps → Rel All f st.nx z w st.H → a.tmps.size = N →
            (∀ f' z' w' a', Post All f st.nx z w st.H f' st'.nx z' w' st'.H st'.esc → TR f' st'.nx z' st'.sl a'.tmps → a'.tmps.size = N → a'.defers = a.defers → Q .normal a' w') → wpOps P ops Q (List.range' k (o :: l).length) a w := by
        intro st1 e1 e2 e3 h hw
        obtain ⟨p1, p2, p3⟩ := put_H st1 o.dst (.tup [])
        obtain ⟨i1, i2⟩ := evOps_seq l (k + 1) _ st' hl' h
        rw [p3, e3] at i1
        refine ⟨i1, fun f z w a ht hr hN hQ => ?_⟩
        obtain ⟨ht2, hwant⟩ := hw f z w a ht
        simp only [List.length_cons, List.range'_succ, wpOps, ho]
        rw [if_neg (by rw [hwant]; simp)]
        obtain ⟨q1, q2, q3⟩ := put_TR (x := .tup []) (v := undef) (st := st1) rfl ht2 hN hd' ⟨#[], rfl, RAs.nil⟩
        refine i2 f z w _ (by rw [p2]; exact q1) (by rw [p1, p2, e1, e2]; exact hr) q2 fun f'' z'' w'' a'' hp2 ht3 hN2 hd2 => ?_
        rw [p1, p2, e1, e2] at hp2
        exact hQ f'' z'' w'' a'' hp2 ht3 hN2 (hd2.trans q3)
      split at h
      · rename_i hnone
        refine skip st rfl rfl rfl h fun f z w a ht => ⟨ht, ?_⟩
        have h1 := ht t
        cases hs : st.sl.get t with
        | v x => rw [hs] at hnone; cases hnone
        | top => rw [hs] at hnone; cases hnone
        | tup l' =>
          cases l' with
          | cons x l' => rw [hs] at hnone; cases hnone
          | nil =>
            rw [hs] at h1
            obtain ⟨vs, h1, _⟩ := h1
            have : yielded ops a.tmps j = none := by
              simp only [yielded, hj', Option.bind_some]
              cases hq : a.tmps[t]? with
              | none => rfl
              | some v =>
                rw [Array.getD_eq_getD_getElem?, hq] at h1
                simp only [Option.getD_some] at h1
                rw [h1]
            simp only [Region.wanted, hgd, this]
            rfl
      obtain ⟨c, hc, h⟩ := split_some h
      obtain ⟨s1, s2, s3⟩ := setB_H st (.tmp t) c
      have hwant : ∀ (f : Fn) (z : Z) (w : World) (a : Act), TR f st.nx z st.sl a.tmps → Region.wanted o (yielded ops a.tmps) = (c == want) := by
        intro f z w a ht
        have hs := ht.slot (t := t) (v := .bool c) hc (by intro h; cases h)
        have : yielded ops a.tmps j = some c := by simp [yielded, hj', hs]
        simp only [Region.wanted, hgd, this]
        cases c <;> cases want <;> rfl
      split at h
      · rename_i hcw
        have hcw' : (c == want) = true := by revert hcw; cases c <;> cases want <;> simp
        obtain ⟨a1, a2⟩ := doit (st.setB (.tmp t) c) s1 s2 s3 hd' h
        refine ⟨a1, fun f z w a ht hr hN hQ => ?_⟩
        simp only [List.length_cons, List.range'_succ, wpOps, ho]
        rw [if_pos (by rw [hwant f z w a ht, hcw'])]
        have ht2 := setB_TR ht hc
        rw [s2] at ht2
        exact .inl (a2 f z w a ht2 hr hN hQ)
      · rename_i hcw
        have hcw' : (c == want) = false := by revert hcw; cases c <;> cases want <;> simp
        refine skip (st.setB (.tmp t) c) s1 s2 s3 h fun f z w a ht => ⟨?_, by rw [hwant f z w a ht, hcw']⟩
        exact setB_TR ht hc

end ops

/-- what stands in an own block leads to no block that isn't there yet -/
theorem RC.inside {f : Fn} {nx : Nat} {z : Z} {x : CV} {v : Value} (h : RC f nx z x v) : x.beyond nx = false := by
  have key : ∀ b, b < nx → Nat.ble nx b = false := fun b hb => by
    cases hq : Nat.ble nx b with
    | false => rfl
    | true => have := nble hq; omega
  cases x with
  | f x => rfl
  | ptr b m i j => exact key _ h.1
  | sl nil b m i j len cap ex sz => exact key _ h.1
  | mp b => exact key _ h.1
  | fn g l =>
    simp only [CV.beyond, List.any_eq_false, Bool.not_eq_true]
    exact fun x hx => key _ (h.2 x hx)

theorem Rel.noNew {f : Fn} {nx : Nat} {z : Z} {w : World} {H : Heap} (hr : Rel All f nx z w H) : NoNew nx H := by
  intro b l hb hg x hx
  have hl : (H.get b).live := by rw [hg]; trivial
  obtain ⟨_, hok⟩ := hr.own b trivial hl
  obtain ⟨i, hi⟩ := List.mem_iff_getElem?.1 hx
  obtain ⟨_, v, _, hc⟩ := hok.cell 0 0 i x (by rw [hg]; simp [Ob.at, hi])
  exact hc.inside

theorem popK_go {β : Type} (n0 : Nat) (u : CallOut) : ∀ (H : Heap) (k : CallOut → β), popK.go n0 u H k = k ⟨u.v, H.filter (fun e => !(Nat.ble n0 e.1)), n0, false, u.wr⟩
  | [], k => rfl
  | (b, o) :: r, k => by
    simp only [popK.go]
    split
    · rename_i hb
      rw [popK_go n0 u r k, List.filter_cons, if_neg (by simp [hb])]
    · rename_i hb
      rw [popK_go n0 u r _, List.filter_cons, if_pos (by simp [hb])]

theorem RA.below {f : Fn} {nx n0 : Nat} {z : Z} {x : AV} {v : Value} (h : RA f nx z x v) (hb : x.cells.any (CV.beyond n0) = false) : RA f n0 z x v := by
  rw [List.any_eq_false] at hb
  cases x with
  | one x => exact RC.below h (by simpa using hb x (by simp [AV.cells]))
  | agg l =>
    obtain ⟨cs, rfl, h1, h2⟩ := h
    exact ⟨cs, rfl, h1, fun i y w hy hw => RC.below (h2 i y w hy hw) (by simpa using hb y (List.mem_of_getElem? hy))⟩

theorem RS.below {f : Fn} {nx n0 : Nat} {z : Z} {x : SV} {v : Value} (h : RS f nx z x v) (hb : ownRefs n0 x = false) : RS f n0 z x v := by
  cases x with
  | v x => exact RA.below h hb
  | tup l =>
    obtain ⟨vs, rfl, h1, h2⟩ := h
    simp only [ownRefs, List.any_eq_false] at hb
    refine ⟨vs, rfl, h1, fun i y w hy hw => RA.below (h2 i y w hy hw) ?_⟩
    have := hb y (List.mem_of_getElem? hy)
    simpa using this
  | top => trivial

theorem pop_ok {f f' : Fn} {nx : Nat} {z z' : Z} {w w' : World} {H : Heap} {u r : CallOut} {v : Value} (hr : Rel All f nx z w H) (h : Post All f nx z w H f' u.nx z' w' u.H u.esc) (hv : RS f' u.nx z' u.v v) (hp : (popK nx u T.ret).res = some r) :
    Post All f nx z w H f' r.nx z' w' r.H r.esc ∧ RS f' r.nx z' r.v v := by
  unfold popK at hp
  split at hp
  · have hp := T.ret_some hp
    subst hp
    exact ⟨h, hv⟩
  · rename_i hc
    rw [Bool.or_eq_false_iff] at hc
    rw [popK_go] at hp
    have hp := T.ret_some hp
    subst hp
    have hg : ∀ b, Heap.get (u.H.filter fun e => !(Nat.ble nx e.1)) b = if b < nx then u.H.get b else .dead := fun b => by
      rw [get_filter (fun b => !(Nat.ble nx b))]
      by_cases hb : b < nx
      · have : Nat.ble nx b = false := by
          cases hq : Nat.ble nx b with
          | false => rfl
          | true => have := nble hq; omega
        rw [if_pos (by rw [this]; rfl), if_pos hb]
      · rw [if_neg (by rw [Nat.ble_eq_true_of_le (by omega)]; simp), if_neg hb]
    have hlv : ∀ b, (Heap.get (u.H.filter fun e => !(Nat.ble nx e.1)) b).live → b < nx ∧ (u.H.get b).live := fun b hl => by
      rw [hg] at hl
      by_cases hb : b < nx
      · rw [if_pos hb] at hl; exact ⟨hb, hl⟩
      · rw [if_neg hb] at hl; exact hl.elim
    have hnn := h.noesc hc.1 nx (Nat.le_refl _) hr.noNew
    refine ⟨⟨Nat.le_refl _, h.ext, h.zle, h.znew, fun b _ hs => absurd trivial hs, fun b hb hl => h.dead b hb (hlv b hl).2, ⟨fun b _ hl => ?_, fun b c _ _ hl hl' => h.rel.inj b c (.inl trivial) (.inl trivial) (hlv b hl).2 (hlv c hl').2, h.rel.zok⟩,
      fun b hb hl => by have := (hlv b hl).1; omega, h.fr, fun _ m hm hN b l hb hgl => ?_⟩, hv.below hc.2⟩
    · obtain ⟨hb, hl0⟩ := hlv b hl
      refine ⟨hb, ?_⟩
      rw [hg, if_pos hb]
      obtain ⟨_, hok⟩ := h.rel.own b (.inl trivial) hl0
      refine ⟨hok.lt, hok.own, hok.room, fun m i j x hx => ?_, hok.map⟩
      obtain ⟨h1, q, h2, h3⟩ := hok.cell m i j x hx
      refine ⟨h1, q, h2, RC.below h3 ?_⟩
      cases hob : u.H.get b with
      | cells l =>
        rw [hob] at hx
        simp only [Ob.at] at hx
        split at hx
        · exact hnn b l hb hob x (List.mem_of_getElem? hx)
        · cases hx
      | arr live sz n e =>
        rw [hob] at hx
        simp only [Ob.at] at hx
        split at hx
        · cases hq : (e i)[j]? with
          | none => rw [hq] at hx; cases hx
          | some y => rw [hq] at hx; simp only [Option.map_some, Option.some.injEq] at hx; subst hx; rfl
        · cases hx
      | map es => rw [hob] at hx; cases hx
      | dead => rw [hob] at hx; cases hx
    · rw [hg, if_pos (by omega)] at hgl
      exact h.noesc hc.1 m hm hN b l hb hgl

theorem argSlots_get : ∀ (l : List AV) (n t : Nat), (argSlots n l).get t = match (if n ≤ t then l[t - n]? else none) with | some x => .v x | none => .top
  | [], n, t => by simp [argSlots, Slots.get]
  | a :: r, n, t => by
    simp only [argSlots]
    rw [Slots.get_cons, argSlots_get r (n + 1) t]
    by_cases e : n = t
    · subst e; simp
    · by_cases h : n ≤ t
      · have h2 : n + 1 ≤ t := by omega
        simp only [e, h, h2, if_true, if_false]
        rw [show t - n = (t - (n + 1)) + 1 by omega, List.getElem?_cons_succ]
      · have h2 : ¬ n + 1 ≤ t := by omega
        simp [e, h, h2]

theorem argSlots_TR {f : Fn} {nx : Nat} {z : Z} {args : List AV} {vs : Array Value} (h : RAs f nx z args vs.toList) (k : Nat) : TR f nx z (argSlots 0 args) (vs ++ Array.replicate k undef) := by
  intro t
  rw [argSlots_get]
  simp only [Nat.zero_le, if_true, Nat.sub_zero]
  cases hx : args[t]? with
  | none => trivial
  | some x =>
    have hlt : t < vs.toList.length := by rw [← h.1]; exact (List.getElem?_eq_some_iff.1 hx).1
    have hlt' : t < vs.size := by simpa using hlt
    have := h.2 t x vs[t] hx (by simp [hlt'])
    have e : (vs ++ Array.replicate k undef).getD t undef = vs[t] := by
      rw [Array.getD_eq_getD_getElem?, Array.getElem?_append_left hlt']
      simp [hlt']
    rw [e]
    exact this

theorem resultsOf_ok {P : Program} {G : Ctx} (hG : CtxOk P G) {f : Fn} {z : Z} {w : World} {st : St} {a : Array Value} (ht : TR f st.nx z st.sl a) (hr : Rel All f st.nx z w st.H) : ∀ (l : List ResultVar) (r : List AV), (resultsOf G st l).res = some r →
    ∃ vs : List Value, (l.mapM fun | .tmp t => pure (a.getD t undef) | .cell x t => do loadVar t (← asAddr (a.getD x undef)) : Sem (List Value)).run P w = .ok vs w ∧ RAs f st.nx z r vs
  | [], r, h => by
    have h := T.ret_some h
    subst h
    exact ⟨[], rfl, RAs.nil⟩
  | .tmp t :: l, r, h => by
    simp only [resultsOf] at h
    split at h
    · rename_i x hx
      obtain ⟨q, hq, h⟩ := T.bind_some h
      have h := T.ret_some h
      subst h
      obtain ⟨vs, h1, h2⟩ := resultsOf_ok hG ht hr l q hq
      have hv := ht t
      rw [hx] at hv
      refine ⟨a.getD t undef :: vs, ?_, RAs.cons hv h2⟩
      simp only [List.mapM_cons, Sem.run_bind, Sem.run_pure, Result.andThen_ok, h1]
    · exact (T.bad_some h).elim
  | .cell x t :: l, r, h => by
    simp only [resultsOf] at h
    split at h
    · rename_i i b m c j hi hx
      obtain ⟨cl, hcl, h⟩ := T.bind_some h
      split at h
      · rename_i v hv
        obtain ⟨q, hq, h⟩ := T.bind_some h
        have h := T.ret_some h
        subst h
        obtain ⟨vs, h1, h2⟩ := resultsOf_ok hG ht hr l q hq
        have hp := ht x
        rw [hx] at hp
        obtain ⟨hb, hp⟩ := hp
        have hlive := (Ob.rd_ok hcl).2.1
        obtain ⟨_, hok⟩ := hr.own b trivial hlive
        obtain ⟨us, r1, r2, r3⟩ := hok.read hcl
        obtain ⟨y, y1, y2⟩ := run_loadVar' (hG.ti t i hi) r1 r2 hv w (ad f b m c j) r3
        refine ⟨y :: vs, ?_, RAs.cons y2 h2⟩
        rw [List.mapM_cons, Sem.run_bind]
        show Result.andThen ((do loadVar t (← asAddr (a.getD x undef))).run P w) _ = _
        rw [hp]
        have e0 : (do loadVar t (← asAddr (Value.pointer (some (ad f b m c j)))) : Sem Value) = loadVar t (ad f b m c j) := rfl
        rw [e0, y1, Result.andThen_ok, Sem.run_bind]
        erw [h1]
        rfl
      · exact (T.bad_some h).elim
    · exact (T.bad_some h).elim

end Go.Proofs.YtbobakclbdaepaaGreat.En
/- The engine, part 14: what an operation writes is all that it changes. -/
namespace Go.Proofs.YtbobakclbdaepaaGreat.En
open Go
set_option linter.unusedVariables false
set_option linter.unusedSimpArgs false

def T.Every {α : Type} (p : α → Prop) : T α → Prop
  | .ret a => p a
  | .br _ t e => t.Every p ∧ e.Every p
  | .bad => True

theorem T.Every.res {α : Type} {p : α → Prop} : ∀ {t : T α} {a : α}, t.Every p → t.res = some a → p a
  | .ret b, a, h, e => by
    simp only [T.res, Option.some.injEq] at e
    subst e
    exact h
  | .br b t e, a, h, he => by
    cases b with
    | true => exact T.Every.res (t := t) h.1 he
    | false => exact T.Every.res (t := e) h.2 he
  | .bad, a, h, e => by cases e

theorem T.Every.bind {α β : Type} {p : β → Prop} {k : α → T β} (h : ∀ a, (k a).Every p) : ∀ (t : T α), (t.bind k).Every p
  | .ret a => h a
  | .br b t e => ⟨T.Every.bind h t, T.Every.bind h e⟩
  | .bad => trivial

theorem T.Every.need {α : Type} {p : α → Prop} {b : Bool} {t : T α} (h : t.Every p) : (T.need b t).Every p := ⟨h, trivial⟩

theorem T.Every.bind2 {α β : Type} {q : α → Prop} {p : β → Prop} {k : α → T β} (h : ∀ a, q a → (k a).Every p) : ∀ {t : T α}, t.Every q → (t.bind k).Every p
  | .ret a, ha => h a ha
  | .br b t e, ⟨h1, h2⟩ => ⟨T.Every.bind2 h h1, T.Every.bind2 h h2⟩
  | .bad, _ => trivial

/-- what isn't written is as it was; 'd': also where nothing was -/
def Keeps (d : Bool) (st : St) (u : Out) : Prop := st.nx ≤ u.nx ∧ ∀ b, (d = true ∨ b < st.nx) → b ∉ u.wr → u.H.get b = st.H.get b

def CallKeeps (call : CallF) : Prop := ∀ g args H nx, (call g args H nx).Every fun o => nx ≤ o.nx ∧ ∀ b, b < nx → b ∉ o.wr → o.H.get b = H.get b

theorem keeps_same {d : Bool} {st : St} {v : SV} {e : Bool} {fp wr : List Nat} : (T.ret ⟨v, st.H, st.nx, e, fp, wr⟩ : T Out).Every (Keeps d st) := ⟨Nat.le_refl _, fun _ _ _ => rfl⟩

theorem keeps_pure {d : Bool} {st : St} {v : SV} : (pure1 st v).Every (Keeps d st) := keeps_same

theorem keeps_cons {d : Bool} {st : St} {v : SV} {o : Ob} {e : Bool} {fp : List Nat} : (T.ret ⟨v, (st.nx, o) :: st.H, st.nx + 1, e, fp, [st.nx]⟩ : T Out).Every (Keeps d st) := ⟨Nat.le_succ _, fun b _ hb => by
  simp only [List.mem_singleton] at hb
  simp only
  rw [Heap.get_cons, if_neg (fun e => hb e.symm)]⟩

theorem keeps_new {d : Bool} {st : St} {l : List CV} {v : Nat → SV} : (newBlock st l v).Every (Keeps d st) := keeps_cons

theorem keeps_put {d : Bool} {st : St} {v : SV} {b : Nat} {o : Ob} {e : Bool} {fp : List Nat} : (T.ret ⟨v, st.H.put b o, st.nx, e, fp, [b]⟩ : T Out).Every (Keeps d st) := ⟨Nat.le_refl _, fun c _ hc => by
  simp only [List.mem_singleton] at hc
  simp only
  rw [Heap.get_put, if_neg (fun e => hc e.symm)]⟩

theorem get_kill : ∀ (l : List Nat) (H : Heap) (b : Nat), b ∉ l → (l.foldl (fun H b => H.put b .dead) H).get b = H.get b
  | [], _, _, _ => rfl
  | c :: l, H, b, h => by
    simp only [List.mem_cons, not_or] at h
    rw [List.foldl_cons, get_kill l _ b h.2, Heap.get_put, if_neg (fun e => h.1 e.symm)]

theorem keeps_grown {d : Bool} {st : St} {kill : List Nat} {sz : Nat} {s : Src} {fp : List Nat} : (grown st kill sz s fp).Every (Keeps d st) := by
  unfold grown
  cases s with
  | flat n l =>
    refine ⟨Nat.le_succ _, fun b _ hb => ?_⟩
    simp only [List.mem_cons, not_or] at hb
    simp only
    rw [Heap.get_cons, if_neg (fun e => hb.1 e.symm), get_kill _ _ _ hb.2]
  | fn n e =>
    refine ⟨Nat.le_succ _, fun b _ hb => ?_⟩
    simp only [List.mem_cons, not_or] at hb
    simp only
    rw [Heap.get_cons, if_neg (fun e => hb.1 e.symm), get_kill _ _ _ hb.2]

theorem get_append_out : ∀ (A B : Heap) (b : Nat), (∀ e ∈ A, e.1 ≠ b) → Heap.get (A ++ B) b = B.get b
  | [], _, _, _ => rfl
  | (k, o) :: A, B, b, h => by
    rw [List.cons_append, Heap.get_cons, if_neg (h (k, o) (by simp)), get_append_out A B b fun e he => h e (by simp [he])]

theorem keeps_call {d : Bool} {call : CallF} (hC : CallKeeps call) {st : St} {g : Nat} {args : List AV} : (evCallOp call d st g args).Every (Keeps d st) := by
  unfold evCallOp
  cases d with
  | false =>
    refine T.Every.bind2 (p := Keeps false st) (fun o ho => ?_) (hC _ _ _ _)
    refine ⟨ho.1, fun b hb hw => ?_⟩
    simp only [List.mem_append, not_or] at hw
    exact ho.2 b (hb.resolve_left (by simp)) hw.1
  | true =>
    simp only
    generalize hids : List.filter _ (reach st.H 4000 _ []) = ids
    have hlt : ∀ b ∈ ids, b < st.nx := fun b hb => by
      rw [← hids, List.mem_filter] at hb
      exact nble hb.2
    refine T.Every.bind2 (p := Keeps true st) (fun o ho => ?_) (hC _ _ _ _)
    refine ⟨ho.1, fun b _ hb => ?_⟩
    simp only [List.mem_append, List.mem_filter, not_or, not_and, Bool.not_eq_true] at hb
    have hin : Heap.get (st.H.filter fun e => ids.any (Nat.beq e.1)) b = if ids.any (Nat.beq b) = true then st.H.get b else .dead := get_filter (fun b => ids.any (Nat.beq b)) _ _
    have hout : Heap.get (st.H.filter fun e => !(ids.any (Nat.beq e.1))) b = if (!(ids.any (Nat.beq b))) = true then st.H.get b else .dead := get_filter (fun b => !(ids.any (Nat.beq b))) _ _
    have hnew : Heap.get (o.H.filter fun e => (ids ++ (List.range (o.nx - st.nx)).map (st.nx + ·)).any (Nat.beq e.1)) b = if (ids ++ (List.range (o.nx - st.nx)).map (st.nx + ·)).any (Nat.beq b) = true then o.H.get b else .dead :=
      get_filter (fun b => (ids ++ (List.range (o.nx - st.nx)).map (st.nx + ·)).any (Nat.beq b)) _ _
    by_cases hi : b ∈ ids
    · have hnw : b ∉ o.wr := fun h => by
        have := hb.1 hi
        rw [(anyBeq _ _).2 h] at this
        cases this
      have e1 := ho.2 b (hlt b hi) hnw
      rw [hin, if_pos ((anyBeq _ _).2 hi)] at e1
      rw [if_pos ((anyBeq _ _).2 (List.mem_append.2 (.inl hi)))] at hnew
      rw [if_neg (by rw [(anyBeq _ _).2 hi]; simp)] at hout
      rcases get_append (o.H.filter fun e => (ids ++ (List.range (o.nx - st.nx)).map (st.nx + ·)).any (Nat.beq e.1)) (st.H.filter fun e => !(ids.any (Nat.beq e.1))) b with h | ⟨h1, h2⟩
      · rw [h, hnew, e1]
      · rw [h2, hout, ← e1, ← hnew, h1]
    · rw [get_append_out, hout, if_pos]
      · cases hq : ids.any (Nat.beq b) with
        | false => rfl
        | true => exact absurd ((anyBeq _ _).1 hq) hi
      · intro e he heq
        rw [List.mem_filter] at he
        have := (anyBeq _ _).1 he.2
        rw [heq] at this
        rcases List.mem_append.1 this with h | h
        · exact hi h
        · exact hb.2 h

theorem keeps_pick {d : Bool} {st : St} {x : Operand} {k : Bool → St → SV} : (split st x fun b s => pure1 s (k b s)).Every (Keeps d st) := by
  unfold split
  split
  · refine ⟨⟨?_, fun b _ _ => ?_⟩, ⟨?_, fun b _ _ => ?_⟩⟩ <;> simp only
    · rw [(setB_H st x true).2.1]; exact Nat.le_refl _
    · rw [(setB_H st x true).1]
    · rw [(setB_H st x false).2.1]; exact Nat.le_refl _
    · rw [(setB_H st x false).1]
  · trivial

theorem evOp_keeps {d : Bool} {G : Ctx} {call : CallF} (hC : CallKeeps call) {st : St} {o : Oper} : (evOp G call d st o).Every (Keeps d st) := by
  unfold evOp
  split <;> repeat' (first
    | exact keeps_pick | exact keeps_pure | exact keeps_new | exact keeps_same | exact keeps_cons | exact keeps_call hC | exact keeps_grown | exact keeps_put | trivial
    | refine T.Every.need ?_
    | (refine T.Every.bind (fun _ => ?_) _)
    | (unfold evBuiltin) | (unfold evLenM) | (unfold evAppend) | (unfold evCopy) | (unfold evClear) | (unfold evConvert) | (unfold evLookup) | (unfold evMapUpdate) | (unfold lookS)
    | (rw [Heap.putK_eq])
    | split | refine ⟨?_, ?_⟩ | dsimp only)

/-! the same of code -/

def Kp (st st' : St) : Prop := st'.base = st.base ∧ st.nx ≤ st'.nx ∧ ∀ b, b < st.base → b < st.nx → b ∉ st'.wr → b ∉ st.wr ∧ st'.H.get b = st.H.get b

theorem Kp.refl (st : St) : Kp st st := ⟨rfl, Nat.le_refl _, fun _ _ _ h => ⟨h, rfl⟩⟩

theorem Kp.trans {a b c : St} (h : Kp a b) (k : Kp b c) : Kp a c :=
  ⟨k.1.trans h.1, Nat.le_trans h.2.1 k.2.1, fun x h1 h2 h3 => by
    obtain ⟨k1, k2⟩ := k.2.2 x (by rw [h.1]; exact h1) (Nat.lt_of_lt_of_le h2 h.2.1) h3
    obtain ⟨h4, h5⟩ := h.2.2 x h1 h2 k1
    exact ⟨h4, k2.trans h5⟩⟩

theorem Kp.of {a b : St} (h1 : b.base = a.base) (h2 : b.nx = a.nx) (h3 : b.wr = a.wr) (h4 : b.H = a.H) : Kp a b :=
  ⟨h1, by rw [h2]; exact Nat.le_refl _, fun x _ _ h => ⟨by rw [← h3]; exact h, by rw [h4]⟩⟩

theorem Kp.put (st : St) (d : Option Nat) (v : SV) : Kp st (st.put d v) := by cases d <;> exact Kp.of rfl rfl rfl rfl
theorem Kp.setB (st : St) (x : Operand) (b : Bool) : Kp st (st.setB x b) := by cases x <;> exact Kp.of rfl rfl rfl rfl

theorem addWr_mem {base b : Nat} (hb : b < base) : ∀ (l acc : List Nat), (b ∈ l ∨ b ∈ acc) → b ∈ addWr base l acc
  | [], acc, h => h.resolve_left (by simp)
  | c :: l, acc, h => by
    simp only [addWr]
    split
    · rename_i hc
      refine addWr_mem hb l acc ?_
      rcases h with h | h
      · rcases List.mem_cons.1 h with rfl | h
        · rw [Bool.or_eq_true] at hc
          rcases hc with hc | hc
          · have := nble hc; omega
          · exact .inr ((anyBeq _ _).1 hc)
        · exact .inl h
      · exact .inr h
    · refine addWr_mem hb l (c :: acc) ?_
      rcases h with h | h
      · rcases List.mem_cons.1 h with rfl | h
        · exact .inr (by simp)
        · exact .inl h
      · exact .inr (by simp [h])

theorem Kp.up {d : Bool} {st : St} {u : Out} (h : Keeps d st u) : Kp st (st.up u) :=
  ⟨rfl, h.1, fun b h1 h2 h3 => ⟨fun h4 => h3 (addWr_mem h1 _ _ (.inr h4)), h.2 b (.inr h2) fun h4 => h3 (addWr_mem h1 _ _ (.inl h4))⟩⟩

theorem T.Every.mono {α : Type} {p q : α → Prop} (h : ∀ a, p a → q a) : ∀ {t : T α}, t.Every p → t.Every q
  | .ret a, ha => h a ha
  | .br b t e, ⟨h1, h2⟩ => ⟨T.Every.mono h h1, T.Every.mono h h2⟩
  | .bad, _ => trivial

theorem evOps_keeps {G : Ctx} {call : CallF} (hC : CallKeeps call) {N : Nat} {all : List Oper} : ∀ (l : List Oper) (st : St), (evOps G call N all l st).Every (Kp st)
  | [], st => Kp.refl st
  | o :: l, st => by
    have run : ∀ st1, Kp st st1 → ((evOp G call false st1 o).bind fun u => forceV G.sym u.v fun v => evOps G call N all l ((st1.up u).put o.dst v)).Every (Kp st) := fun st1 h1 =>
      T.Every.bind2 (fun u hu => by
        rw [forceV_eq]
        exact (evOps_keeps hC l _).mono fun st' h => h1.trans ((Kp.up hu).trans ((Kp.put _ _ _).trans h))) (evOp_keeps hC)
    have skip : ∀ st1, Kp st st1 → (evOps G call N all l (st1.put o.dst (.tup []))).Every (Kp st) := fun st1 h1 => (evOps_keeps hC l _).mono fun st' h => h1.trans ((Kp.put _ _ _).trans h)
    simp only [evOps]
    split
    · trivial
    · split
      · exact run st (Kp.refl st)
      · split
        · trivial
        · split
          · exact skip st (Kp.refl st)
          · unfold split
            split
            · refine ⟨?_, ?_⟩ <;> dsimp only
              · split
                · exact run _ (Kp.setB _ _ _)
                · exact skip _ (Kp.setB _ _ _)
              · split
                · exact run _ (Kp.setB _ _ _)
                · exact skip _ (Kp.setB _ _ _)
            · trivial

theorem pruneK_at {β : Type} (s : Slots) : ∀ (l : List Nat), ∃ s' : Slots, (∀ k : Slots → β, pruneK s l k = k s')
  | [] => ⟨[], fun _ => rfl⟩
  | t :: l => by
    obtain ⟨s', h1⟩ := pruneK_at s l
    cases hx : s.get t with
    | top => exact ⟨s', fun k => by simp only [pruneK, hx]; exact h1 k⟩
    | v x => exact ⟨(t, .v x) :: s', fun k => by simp only [pruneK, hx]; exact h1 _⟩
    | tup x => exact ⟨(t, .tup x) :: s', fun k => by simp only [pruneK, hx]; exact h1 _⟩

theorem evDraw_keeps {G : Ctx} {call : CallF} (hC : CallKeeps call) {N : Nat} {ops : Array Oper} : ∀ (l : List Oper) (st : St) (es : List Eff), (evDraw G call N ops l st es).Every fun x => Kp st x.1
  | [], st, es => Kp.refl st
  | o :: l, st, es => by
    have skip : ∀ es', (evDraw G call N ops l (st.put o.dst (.tup [])) es').Every fun x => Kp st x.1 := fun es' => (evDraw_keeps hC l _ _).mono fun x h => (Kp.put _ _ _).trans h
    have run : (pruneK st.sl (o.looksAt ops) fun s => (evOp G call true ⟨s, st.H, st.nx, false, st.base, []⟩ o).bind fun u => match okOut st.nx u with
      | true => forceV G.sym u.v fun v => evDraw G call N ops l ((st.up u).put o.dst v) (effOf st.nx u :: es)
      | false => .bad).Every fun x => Kp st x.1 := by
      obtain ⟨s', h1⟩ := pruneK_at (β := T (St × List Eff)) st.sl (o.looksAt ops)
      rw [h1]
      refine T.Every.bind2 (fun u hu => ?_) (evOp_keeps hC)
      split
      · rw [forceV_eq]
        exact (evDraw_keeps hC l _ _).mono fun x h => (Kp.up (d := true) (st := st) (u := u) hu).trans ((Kp.put _ _ _).trans h)
      · trivial
    simp only [evDraw]
    split
    · trivial
    · split
      · exact run
      · split
        · trivial
        · split
          · split
            · exact ⟨run, skip _⟩
            · exact ⟨skip _, run⟩
          · exact skip _
          · trivial

def RunKeeps (run : Nat → Nat → Code → St → T (Ex × St)) : Prop := ∀ F N c st, (run F N c st).Every fun x => Kp st x.2

theorem popK_keeps {n0 : Nat} {u : CallOut} {H : Heap} (h1 : n0 ≤ u.nx) (h2 : ∀ b, b < n0 → b ∉ u.wr → u.H.get b = H.get b) : (popK n0 u T.ret).Every fun o => n0 ≤ o.nx ∧ ∀ b, b < n0 → b ∉ o.wr → o.H.get b = H.get b := by
  unfold popK
  split
  · exact ⟨h1, h2⟩
  · rw [popK_go]
    refine ⟨Nat.le_refl _, fun b hb hw => ?_⟩
    simp only at hw ⊢
    rw [get_filter (fun b => !(Nat.ble n0 b)), if_pos]
    · exact h2 b hb hw
    · cases hq : Nat.ble n0 b with
      | false => rfl
      | true => have := nble hq; omega

theorem evFn_keeps {G : Ctx} {run : Nat → Nat → Code → St → T (Ex × St)} (h : RunKeeps run) : CallKeeps (evFn G run) := by
  intro g args H nx
  unfold evFn
  split
  · trivial
  · split
    · refine T.Every.bind2 (fun x hx => ?_) (h _ _ _ _)
      obtain ⟨e, st⟩ := x
      obtain ⟨h1, h2, h3⟩ := hx
      have key : ((resultsOf G st ‹Func›.results.toList).bind fun l => popK nx ⟨outV l, st.H, st.nx, st.esc, st.wr⟩ .ret).Every fun o => nx ≤ o.nx ∧ ∀ b, b < nx → b ∉ o.wr → o.H.get b = H.get b :=
        T.Every.bind (fun l => popK_keeps h2 fun b hb hw => (h3 b hb hb hw).2) _
      cases e with
      | exit id => trivial
      | normal => exact key
      | ret => exact key
    · trivial

def SumsKeep (G : Ctx) : Prop := ∀ g s, G.sum g = some s → ∀ args H nx, (s args H nx).Every fun o => nx ≤ o.nx ∧ ∀ b, b < nx → b ∉ o.wr → o.H.get b = H.get b
def LoopsKeep (G : Ctx) : Prop := ∀ F id L, G.ls F id = some L → ∀ N c st, (L N c st).Every fun x => Kp st x.2

theorem evKnown_keeps {G : Ctx} (hs : SumsKeep G) {run : Nat → Nat → Code → St → T (Ex × St)} (h : RunKeeps run) : CallKeeps (evKnown G run) := by
  intro g args H nx
  unfold evKnown
  split
  · rename_i s hsum
    exact hs g s hsum args H nx
  · exact evFn_keeps h g args H nx

def PresKeep (G : Ctx) : Prop := ∀ F id p, G.pre F id = some p → ∀ st, (p st).Every fun s => Kp st s

theorem hook_keeps {G : Ctx} (hp : PresKeep G) (F id : Nat) (st : St) : (hook G F id st).Every fun s => Kp st s := by
  unfold hook
  split
  · rename_i p h; exact hp F id p h st
  · exact Kp.refl st

theorem ev_keeps {G : Ctx} (hs : SumsKeep G) (hl : LoopsKeep G) (hp : PresKeep G) {live : Nat → Nat → Option (List Nat)} : ∀ n, RunKeeps (ev G live n)
  | 0 => fun _ _ _ _ => trivial
  | n + 1 => by
    have ih := ev_keeps (G := G) hs hl hp (live := live) n
    intro F N c st
    cases c with
    | skip => exact Kp.refl st
    | label l => exact Kp.refl st
    | exit id => exact Kp.refl st
    | ret => exact Kp.refl st
    | seq a b =>
      simp only [ev]
      split
      · rename_i L hL
        obtain ⟨id, h1, h2⟩ := Option.bind_eq_some_iff.1 hL
        exact hl F id L h2 N (.seq a b) st
      refine T.Every.bind2 (fun x hx => ?_) (ih F N a st)
      obtain ⟨e, st1⟩ := x
      cases e with
      | normal => exact (ih F N b st1).mono fun y hy => hx.trans hy
      | exit id => exact hx
      | ret => exact hx
    | cond c a b =>
      simp only [ev]
      unfold split
      split
      · exact ⟨(ih F N a _).mono fun y hy => (Kp.setB _ _ _).trans hy, (ih F N b _).mono fun y hy => (Kp.setB _ _ _).trans hy⟩
      · trivial
    | block id c =>
      simp only [ev]
      refine T.Every.bind2 (fun x hx => ?_) (ih F N c st)
      obtain ⟨e, st1⟩ := x
      cases e with
      | normal => exact hx
      | ret => exact hx
      | exit k =>
        simp only
        split
        · exact hx
        · exact hx
    | loop c =>
      have go : ∀ s : Slots, ((ev G live n F N c { st with sl := s }).bind fun x => match x.fst with | .normal => ev G live n F N (.loop c) x.snd | e => .ret (e, x.snd)).Every fun x => Kp st x.2 := fun s => by
        refine T.Every.bind2 (fun x hx => ?_) (ih F N c { st with sl := s })
        obtain ⟨e, st1⟩ := x
        have h1 : Kp st st1 := (Kp.of (a := st) (b := { st with sl := s }) rfl rfl rfl rfl).trans hx
        cases e with
        | normal => exact (ih F N (.loop c) st1).mono fun y hy => h1.trans hy
        | exit id => exact h1
        | ret => exact h1
      simp only [ev]
      split
      · rename_i L hL
        obtain ⟨id, h1, h2⟩ := Option.bind_eq_some_iff.1 hL
        exact hl F id L h2 N (.loop c) st
      split
      · rename_i l hl
        obtain ⟨s', h1⟩ := pruneK_at (β := T (Ex × St)) st.sl l
        rw [h1]
        exact go s'
      · exact go st.sl
    | region id ops draw =>
      cases draw with
      | false =>
        simp only [ev]
        exact T.Every.bind2 (fun st0 h0 => T.Every.bind2 (fun st1 h1 => h0.trans h1) (evOps_keeps (evKnown_keeps hs ih) _ st0)) (hook_keeps hp F id st)
      | true =>
        simp only [ev]
        refine T.Every.bind2 (fun st0 h0 => T.Every.bind2 (fun x hx => ?_) (evDraw_keeps (evKnown_keeps hs ih) _ st0 _)) (hook_keeps hp F id st)
        split
        · exact h0.trans hx
        · trivial
    | rangeFunc => trivial
    | scope => trivial
    | goto => trivial
    | refuse => trivial

theorem evCall_keeps {G : Ctx} (hs : SumsKeep G) (hl : LoopsKeep G) (hp : PresKeep G) {live : Nat → Nat → Option (List Nat)} (n : Nat) : CallKeeps (evCall G live n) := evFn_keeps (ev_keeps hs hl hp n)

end Go.Proofs.YtbobakclbdaepaaGreat.En
