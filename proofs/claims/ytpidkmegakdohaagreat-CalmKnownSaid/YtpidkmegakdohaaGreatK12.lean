/- The engine, part 12: calls; every operation; a region in the text's order. -/
import Derived.Test.YtpidkmegakdohaaGreatKM
namespace Go.Proofs.YtpidkmegakdohaaGreat.Kn
open Go
set_option linter.unusedVariables false
set_option linter.unusedSimpArgs false

/-- what one call comes to -/
def CallTo (P : Program) (g : Nat) (args : List AV) (H : Heap) (nx : Nat) (r : CallOut) : Prop :=
  ∀ (f : Fn) (z : Z) (w : World) (vs : Array Value), Rel All f nx z w H → RAs f nx z args vs.toList →
    ∀ (R : Ending → World → Prop), (∀ f' z' w' v', Post All f nx z w H f' r.nx z' w' r.H r.esc → RS f' r.nx z' r.v v' → R (.returned v') w') → Calls P g vs w R

def CallOk (P : Program) (call : CallF) : Prop := ∀ (g : Nat) (args : List AV) (H : Heap) (nx : Nat) (r : CallOut), (call g args H nx).res = some r → CallTo P g args H nx r

theorem Post.ofAll {S : Nat → Prop} {f f' : Fn} {nx nx' : Nat} {z z' : Z} {w w' : World} {H H' : Heap} {esc : Bool} (h : Post All f nx z w H f' nx' z' w' H' esc) (hS : ∀ b, (H.get b).live → S b) : Post S f nx z w H f' nx' z' w' H' esc := by
  have himg : ∀ k, img All f H k → img S f H k := fun k ⟨b, _, hl, e⟩ => ⟨b, hS b hl, hl, e⟩
  exact ⟨h.hnx, h.ext, h.zle, fun k o v hv => (h.znew k o v hv).imp id (Or.imp id (himg k)), fun b hb hs => .inr fun hl => hs (hS b (h.dead b hb hl)), h.dead,
    ⟨fun b _ => h.rel.own b (.inl trivial), fun b c _ _ => h.rel.inj b c (.inl trivial) (.inl trivial), h.rel.zok⟩, fun b hb hl => (h.fresh b hb hl).imp id (himg _), h.fr.less fun x _ => himg x, h.noesc⟩

theorem anyBeq (ids : List Nat) (b : Nat) : (ids.any (Nat.beq b)) = true ↔ b ∈ ids := by
  simp only [List.any_eq_true]
  constructor
  · rintro ⟨x, hx, h⟩
    rw [nbeq h]; exact hx
  · intro h; exact ⟨b, h, Nat.beq_refl b⟩

theorem get_lay (A : Heap) : ∀ (l : List Nat) (B : Heap) (b : Nat), (lay A l B).get b = if b ∈ l then A.get b else B.get b
  | [], B, b => by simp [lay]
  | c :: l, B, b => by
    rw [lay, get_lay A l, Heap.get_put]
    by_cases h : b ∈ l
    · simp [h]
    · by_cases e : c = b
      · subst e; simp [h]
      · have : ¬ b = c := fun h => e h.symm
        simp [h, e, this]

/-- a step on a part of a heap, told of the whole one -/
theorem Post.part {f f' : Fn} {nx nx' : Nat} {z z' : Z} {w w' : World} {H A : Heap} {esc : Bool} (ids : List Nat) (hno : ∀ b, nx ≤ b → ¬ (H.get b).live)
    (h : Post All f nx z w (lay H ids Heap.none) f' nx' z' w' A esc) :
    Post (Sx ids (ids ++ (List.range (nx' - nx)).map (nx + ·))) f nx z w H f' nx' z' w' (lay A (ids ++ (List.range (nx' - nx)).map (nx + ·)) H) esc := by
  have hin : ∀ b, Heap.get (lay H ids Heap.none) b = if b ∈ ids then H.get b else .dead := fun b => by rw [get_lay, Heap.get_none]
  generalize hI : lay H ids Heap.none = I at *
  have hnew : ∀ b, b ∈ (List.range (nx' - nx)).map (nx + ·) ↔ (nx ≤ b ∧ b < nx') := fun b => by
    simp only [List.mem_map, List.mem_range]
    constructor
    · rintro ⟨a, ha, rfl⟩; exact ⟨by omega, by omega⟩
    · rintro ⟨h1, h2⟩; exact ⟨b - nx, by omega, by omega⟩
  have hR : ∀ b, Heap.get (lay A (ids ++ (List.range (nx' - nx)).map (nx + ·)) H) b = if (b ∈ ids ∨ (nx ≤ b ∧ b < nx')) then A.get b else H.get b := fun b => by
    rw [get_lay]
    simp only [List.mem_append, hnew]
  have hS : ∀ b, Sx ids (ids ++ (List.range (nx' - nx)).map (nx + ·)) b ↔ (b ∈ ids ∨ (nx ≤ b ∧ b < nx')) := fun b => by
    simp only [Sx, List.mem_append, List.mem_map, List.mem_range]
    constructor
    · rintro (h | h | ⟨a, ha, rfl⟩)
      · exact .inl h
      · exact .inl h
      · exact .inr ⟨by omega, by omega⟩
    · rintro (h | ⟨h1, h2⟩)
      · exact .inl h
      · exact .inr (.inr ⟨b - nx, by omega, by omega⟩)
  have inlive : ∀ b, (Heap.get I b).live → b ∈ ids ∧ Heap.get I b = H.get b := fun b hl => by
    rw [hin] at hl ⊢
    by_cases hb : b ∈ ids
    · rw [if_pos hb]; exact ⟨hb, rfl⟩
    · rw [if_neg hb] at hl; exact hl.elim
  have himg : ∀ k, img All f I k → img (Sx ids (ids ++ (List.range (nx' - nx)).map (nx + ·))) f H k := fun k ⟨b, _, hl, e⟩ => by
    obtain ⟨h1, h2⟩ := inlive b hl
    exact ⟨b, (hS b).2 (.inl h1), by rw [← h2]; exact hl, e⟩
  generalize hRR : lay A (ids ++ (List.range (nx' - nx)).map (nx + ·)) H = R at *
  -- in the part
  have mIn : ∀ b, (b ∈ ids ∨ nx ≤ b) → (R.get b).live → R.get b = A.get b := fun b hb hl => by
    rw [hR] at hl ⊢
    by_cases hc : b ∈ ids ∨ (nx ≤ b ∧ b < nx')
    · rw [if_pos hc]
    · rw [if_neg hc] at hl
      exact absurd hl (hno b (hb.resolve_left fun h => hc (.inl h)))
  -- out of it
  have mOut : ∀ b, b < nx → b ∉ ids → R.get b = H.get b ∨ ¬ (R.get b).live := fun b hb hn => by
    left
    rw [hR, if_neg]
    rintro (h | h)
    · exact hn h
    · omega
  refine ⟨h.hnx, h.ext, h.zle, fun k o v hv => (h.znew k o v hv).imp id (Or.imp id (himg k)), fun b hb hs => mOut b hb fun e => hs ((hS b).2 (.inl e)), fun b hb hl => ?_, ⟨fun b hb hl => ?_, fun b c hb hc hl hl' hne => ?_, h.rel.zok⟩, fun b hb hl => ?_, h.fr.less fun x _ => himg x, fun he m hm hN b l hb hg => ?_⟩
  · by_cases hi : b ∈ ids
    · rw [mIn b (.inl hi) hl] at hl
      have := h.dead b hb hl
      obtain ⟨_, h2⟩ := inlive b this
      rw [← h2]; exact this
    · rcases mOut b hb hi with e | e
      · rw [← e]; exact hl
      · exact absurd hl e
  · have hb' : b ∈ ids ∨ nx ≤ b := by
      rcases hb with hb | hb
      · rcases (hS b).1 hb with h | h
        · exact .inl h
        · exact .inr h.1
      · exact .inr hb
    have e := mIn b hb' hl
    rw [e] at hl ⊢
    exact h.rel.own b (.inl trivial) hl
  · have side : ∀ b, (Sx ids (ids ++ (List.range (nx' - nx)).map (nx + ·)) b ∨ nx ≤ b) → b ∈ ids ∨ nx ≤ b := fun b hb => by
      rcases hb with hb | hb
      · rcases (hS b).1 hb with h | h
        · exact .inl h
        · exact .inr h.1
      · exact .inr hb
    have e1 := mIn b (side b hb) hl
    have e2 := mIn c (side c hc) hl'
    rw [e1] at hl
    rw [e2] at hl'
    exact h.rel.inj b c (.inl trivial) (.inl trivial) hl hl' hne
  · have e := mIn b (.inr hb) hl
    rw [e] at hl
    exact (h.fresh b hb hl).imp id (himg _)
  · have hl : (R.get b).live := by rw [hg]; trivial
    by_cases hi : b ∈ ids
    · rw [mIn b (.inl hi) hl] at hg
      refine h.noesc he m hm (fun c lc hc hgc => ?_) b l hb hg
      have hlc : (Heap.get I c).live := by rw [hgc]; trivial
      obtain ⟨_, e⟩ := inlive c hlc
      rw [e] at hgc
      exact hN c lc hc hgc
    · rcases mOut b (by omega) hi with e | e
      · rw [e] at hg; exact hN b l hb hg
      · exact absurd hl e

/-- what is dead already may go -/
theorem Post.sift {S : Nat → Prop} {f f' : Fn} {nx nx' : Nat} {z z' : Z} {w w' : World} {H A A' : Heap} {esc : Bool} (h : Post S f nx z w H f' nx' z' w' A esc) (e : ∀ b, A'.get b = A.get b ∨ ¬ (A'.get b).live) : Post S f nx z w H f' nx' z' w' A' esc := by
  have hl : ∀ b, (A'.get b).live → A'.get b = A.get b := fun b hb => (e b).resolve_right (fun h => h hb)
  refine ⟨h.hnx, h.ext, h.zle, h.znew, fun b hb hs => ?_, fun b hb hv => h.dead b hb (by rw [← hl b hv]; exact hv), ⟨fun b hb hv => ?_, fun b c hb hc hv hv' => h.rel.inj b c hb hc (by rw [← hl b hv]; exact hv) (by rw [← hl c hv']; exact hv'), h.rel.zok⟩,
    fun b hb hv => h.fresh b hb (by rw [← hl b hv]; exact hv), h.fr, fun he m hm hN b l hb hg => h.noesc he m hm hN b l hb (by rw [← hl b (by rw [hg]; trivial)]; exact hg)⟩
  · rcases e b with h1 | h1
    · rw [h1]; exact h.same b hb hs
    · exact .inr h1
  · have := hl b hv
    rw [this] at hv ⊢
    exact h.rel.own b hb hv

section ops
variable {P : Program} {G : Ctx} (hG : CtxOk P G) {call : CallF} (hC : CallOk P call) {draw : Bool} {st : St} {o : Oper} {u : Out}

theorem avs?_ok {f : Fn} {z : Z} {a : Act} (ht : TR f st.nx z st.sl a.tmps) : ∀ (l : List Operand) (r : List AV), avs? (l.map st.val) = some r → RAs f st.nx z r (l.map a.eval)
  | [], r, h => by
    simp only [List.map_nil, avs?, Option.some.injEq] at h
    subst h
    exact RAs.nil
  | y :: l, r, h => by
    simp only [List.map_cons] at h
    unfold avs? at h
    split at h
    · cases ‹_ :: _ = []›
    · rename_i x r' heq
      simp only [List.cons.injEq] at heq
      obtain ⟨h1, rfl⟩ := heq
      split at h
      · rename_i q hq
        simp only [Option.some.injEq] at h
        subst h
        have hv := val_ok ht y
        rw [h1] at hv
        exact RAs.cons hv (avs?_ok ht l q hq)
      · cases h
    · cases h

theorem RAs.append {f : Fn} {nx : Nat} {z : Z} {a b : List AV} {u v : List Value} (h : RAs f nx z a u) (k : RAs f nx z b v) : RAs f nx z (a ++ b) (u ++ v) := by
  refine ⟨by simp [h.1, k.1], fun i x y hx hy => ?_⟩
  rcases Nat.lt_or_ge i a.length with hi | hi
  · rw [List.getElem?_append_left hi] at hx
    rw [List.getElem?_append_left (by rw [← h.1]; exact hi)] at hy
    exact h.2 i x y hx hy
  · rw [List.getElem?_append_right hi] at hx
    rw [List.getElem?_append_right (by rw [← h.1]; exact hi), ← h.1] at hy
    exact k.2 _ x y hx hy

include hG hC

theorem op_call {c : Call} (ho : o.op = .call c) {fo : Operand} (hc : c.callee = .value fo) {g : Nat} {cap : List (Nat × Nat × Nat × Nat)} (hf : st.val fo = .v (.one (.fn g cap))) {args : List AV} (ha : avs? (c.args.toList.map st.val) = some args)
    {fn : Func} (hg : G.fi g = some fn) (h : (evCallOp call draw st g (args ++ cap.map fun x => .one (.ptr x.1 x.2.1 x.2.2.1 x.2.2.2))).res = some u) : OpOk P o st u := by
  intro f z w a ht hr hno K Q hk
  obtain ⟨hfn, hbody, hname⟩ := hG.fi g fn hg
  have hv := val_ok ht fo
  rw [hf] at hv
  obtain ⟨hv, hcap⟩ := hv
  have hargs := avs?_ok ht c.args.toList args ha
  have hall : RAs f st.nx z (args ++ cap.map fun x => .one (.ptr x.1 x.2.1 x.2.2.1 x.2.2.2)) (c.args.map a.eval ++ (cap.map fun x => Value.pointer (some (ad f x.1 x.2.1 x.2.2.1 x.2.2.2))).toArray).toList := by
    rw [Array.toList_append, Array.toList_map]
    refine RAs.append hargs ⟨by simp, fun i x v hx hv => ?_⟩
    simp only [List.getElem?_map] at hx hv
    cases hq : cap[i]? with
    | none => rw [hq] at hx; cases hx
    | some q =>
      rw [hq] at hx hv
      simp only [Option.map_some, Option.some.injEq] at hx hv
      subst hx hv
      exact ⟨hcap q (List.mem_of_getElem? hq), rfl⟩
  have hrun : (execOp a.eval o).run P w = .ok (.enter g (c.args.map a.eval ++ (cap.map fun x => Value.pointer (some (ad f x.1 x.2.1 x.2.2.1 x.2.2.2))).toArray)) w := by
    have hbn : fn.body.isNone = false := by cases hb : fn.body with
      | none => rw [hb] at hbody; cases hbody
      | some _ => rfl
    simp only [execOp, ho, resolve, hc, hv, Deferred.ofValue, Sem.run_bind, Sem.run_pure, Result.andThen_ok, invoke, callFunc, run_program, hfn, hname, hbn, Bool.false_eq_true, if_false]
    simp
  unfold Oper.wp
  rw [hrun, Oper.upon_enter]
  cases draw with
  | false =>
    obtain ⟨r, hr', h⟩ := T.bind_some h
    have h := T.ret_some h
    subst h
    have hS : ∀ b, (st.H.get b).live → Sx (List.range st.nx) (r.wr ++ (List.range (r.nx - st.nx)).map (st.nx + ·)) b := fun b hl => .inl (by
      rw [List.mem_range]
      rcases Nat.lt_or_ge b st.nx with h | h
      · exact h
      · exact absurd hl (hno b h))
    have hrA : Rel All f st.nx z w st.H := ⟨fun b _ hl => hr.own b (hS b hl) hl, fun b c _ _ hl hl' => hr.inj b c (hS b hl) (hS c hl') hl hl', hr.zok⟩
    refine hC g _ st.H st.nx r hr' f z w _ hrA hall _ fun f' z' w' v' hp hv' => ?_
    refine hk f' z' w' v' (Post.ofAll ?_ hS) hv'
    simpa using hp
  | true =>
    obtain ⟨r, hr', h⟩ := T.bind_some h
    have h := T.ret_some h
    subst h
    simp only at hr hk
    generalize hids : List.filter _ (reach st.H 4000 _ []) = ids at hr' hr hk
    have hin : ∀ b, Heap.get (lay st.H ids Heap.none) b = if b ∈ ids then st.H.get b else .dead := fun b => by rw [get_lay, Heap.get_none]
    have hS : ∀ b, (Heap.get (lay st.H ids Heap.none) b).live → Sx ids ((ids.filter fun b => r.wr.any (Nat.beq b)) ++ (List.range (r.nx - st.nx)).map (st.nx + ·)) b ∧ Heap.get (lay st.H ids Heap.none) b = st.H.get b := fun b hl => by
      rw [hin] at hl ⊢
      by_cases hb : b ∈ ids
      · rw [if_pos hb]; exact ⟨.inl hb, rfl⟩
      · rw [if_neg hb] at hl; exact hl.elim
    have hrA : Rel All f st.nx z w (lay st.H ids Heap.none) := by
      refine ⟨fun b _ hl => ?_, fun b c _ _ hl hl' => ?_, hr.zok⟩
      · obtain ⟨h1, h2⟩ := hS b hl
        rw [h2] at hl ⊢
        exact hr.own b h1 hl
      · obtain ⟨h1, h2⟩ := hS b hl
        obtain ⟨h3, h4⟩ := hS c hl'
        rw [h2] at hl
        rw [h4] at hl'
        exact hr.inj b c h1 h3 hl hl'
    refine hC g _ _ st.nx r hr' f z w _ hrA hall _ fun f' z' w' v' hp hv' => ?_
    refine hk f' z' w' v' ?_ hv'
    have := Post.part ids hno hp
    have hset : Sx ids (ids ++ (List.range (r.nx - st.nx)).map (st.nx + ·)) = Sx ids ((ids.filter fun b => r.wr.any (Nat.beq b)) ++ (List.range (r.nx - st.nx)).map (st.nx + ·)) := by
      funext b
      apply propext
      simp only [Sx, List.mem_append, List.mem_filter]
      constructor
      · rintro (h | h | h)
        · exact .inl h
        · exact .inl h
        · exact .inr (.inr h)
      · rintro (h | h | h)
        · exact .inl h
        · exact .inl h.1
        · exact .inr (.inr h)
    rw [hset] at this
    simpa using this

theorem evOp_ok (h : (evOp G call draw st o).res = some u) : OpOk P o st u := by
  unfold evOp at h
  split at h
  · rename_i x ho; exact op_move (.inl ho) h
  · rename_i x ho; exact op_move (.inr ho) h
  · rename_i c x y ho; exact op_pick ho h
  · rename_i t ho
    split at h
    · rename_i i hi; exact op_alloc hG ho hi h
    · exact (T.bad_some h).elim
  · rename_i t x ho
    split at h
    · rename_i v hv; exact op_box ho hv h
    · exact (T.bad_some h).elim
  · rename_i t parts ho
    split at h
    · rename_i i ps hi hp
      split at h
      · rename_i fs hk
        split at h
        · rename_i l hf; exact op_build_struct hG ho hi hp hk hf h
        · exact (T.bad_some h).elim
      · rename_i n e hk
        split at h
        · rename_i ei he
          split at h
          · rename_i l hf; exact op_build_array hG ho hi hp hk he hf h
          · exact (T.bad_some h).elim
        · exact (T.bad_some h).elim
      · exact (T.bad_some h).elim
    · exact (T.bad_some h).elim
  · rename_i t n parts ho
    split at h
    · rename_i sz by' z e ag eq ps hi hp
      split at h
      · rename_i ei he
        split at h
        · rename_i l hn hf; exact op_buildSlice hG ho hi hp rfl he hn hf h
        · exact (T.bad_some h).elim
      · exact (T.bad_some h).elim
    · exact (T.bad_some h).elim
  · rename_i t x ho
    split at h
    · rename_i i b m a j hi hv; exact op_load hG ho hi hv h
    · rename_i i l hi hv
      dsimp only at h
      split at h
      · rename_i v hlen hc; exact op_loadF hG ho hi hv hlen hc h
      · exact (T.bad_some h).elim
    · exact (T.bad_some h).elim
  · rename_i t x y ho
    split at h
    · rename_i i b m a j v hi hx hy
      split at h
      · rename_i hs; exact op_store hG ho hi hx hy hs h
      · exact (T.bad_some h).elim
    · exact (T.bad_some h).elim
  · rename_i x ho
    split at h
    · rename_i b m a j hv; exact op_nilCheck ho hv h
    · rename_i l hv; exact op_nilCheck ho hv h
    · rename_i g c hv; exact op_nilCheck ho hv h
    · exact (T.bad_some h).elim
  · rename_i op t x y t' ho
    split at h
    · rename_i a b hp hq; exact op_binOp hG ho hp hq h
    · exact (T.bad_some h).elim
  · rename_i op t x ho
    split at h
    · rename_i a hp; exact op_unOp ho hp h
    · exact (T.bad_some h).elim
  · rename_i a b x ho
    split at h
    · rename_i v hp; exact op_convert hG ho hp h
    · exact (T.bad_some h).elim
  · rename_i fn first captured ho
    split at h
    · rename_i g l hf hl; exact op_makeFunc ho rfl hf hl h
    · exact (T.bad_some h).elim
  · rename_i t l c ho
    split at h
    · rename_i sz by' z e ag eq l' c' hi hl hc
      split at h
      · rename_i ei he; exact op_makeSlice hG ho hi rfl hl hc he h
      · exact (T.bad_some h).elim
    · exact (T.bad_some h).elim
  · rename_i t r ho
    split at h
    · rename_i sz by' z kt et ag eq hi; exact op_makeMap hG ho hi rfl (.inl rfl) h
    · rename_i sz by' z kt et ag eq x hi
      split at h
      · rename_i kd n hx; exact op_makeMap hG ho hi rfl (.inr ⟨x, kd, n, rfl, hx⟩) h
      · exact (T.bad_some h).elim
    · exact (T.bad_some h).elim
  · rename_i t x y ok ho
    split at h
    · rename_i m k hx hy; exact op_lookup hG ho hx hy h
    · exact (T.bad_some h).elim
  · rename_i t x y v ho
    split at h
    · rename_i m k q hx hy hv; exact op_mapUpdate hG (.inl ho) hx hy hv h
    · exact (T.bad_some h).elim
  · rename_i t x y v ho
    split at h
    · rename_i m k q hx hy hv; exact op_mapUpdate hG (.inr ho) hx hy hv h
    · exact (T.bad_some h).elim
  · rename_i t x lo hi mx ho
    split at h
    · rename_i v hx; exact op_slice hG ho hx h
    · exact (T.bad_some h).elim
  · rename_i t x fld ho
    split at h
    · rename_i sz by' z fs ag eq v hi hv
      split at h
      · rename_i off size ty agg hf; exact op_fieldAddr hG ho hi rfl hv hf h
      · exact (T.bad_some h).elim
    · exact (T.bad_some h).elim
  · rename_i t x fld ho
    split at h
    · rename_i l hv
      split at h
      · rename_i v hf; exact op_field hG ho hv hf h
      · exact (T.bad_some h).elim
    · exact (T.bad_some h).elim
  · rename_i t x i ho
    split at h
    · rename_i v kd n hx hy; exact op_indexAddr hG ho hx hy h
    · exact (T.bad_some h).elim
  · rename_i t x i ho
    split at h
    · rename_i v kd n hx hy; exact op_index hG ho hx hy h
    · exact (T.bad_some h).elim
  · rename_i x i ho
    split at h
    · rename_i l hx
      split at h
      · rename_i v hv; exact op_extract ho hx hv h
      · exact (T.bad_some h).elim
    · exact (T.bad_some h).elim
  · rename_i c ho
    split at h
    · rename_i b hc
      unfold evBuiltin at h
      split at h
      · rename_i t0 t1 s x hts hargs; exact op_append hG ho hc hts hargs h
      · rename_i t0 r0 d x hts hargs; exact op_copy hG ho hc hts hargs h
      · rename_i t0 r0 d hts hargs; exact op_clear hG ho hc hts hargs h
      · rename_i t0 r0 x hts hargs; exact op_len hG ho hc hts hargs h
      · rename_i t0 r0 x hts hargs; exact op_cap hG ho hc hts hargs h
      · exact op_max (mx := true) ho hc h
      · exact op_max (mx := false) ho hc h
      · exact (T.bad_some h).elim
    · rename_i fo hc
      split at h
      · rename_i g cap args hf ha
        split at h
        · rename_i fn hg; exact op_call hG hC ho hc hf ha hg h
        · exact (T.bad_some h).elim
      · exact (T.bad_some h).elim
    · exact (T.bad_some h).elim
  · exact (T.bad_some h).elim

end ops
end Go.Proofs.YtpidkmegakdohaaGreat.Kn
