/- The closed engine: a long run in pieces. What is not wanted any more is forgotten between two of them. -/
import Derived.Test.YtpidkmegakdohaaGreatKJ
namespace Go.Proofs.YtpidkmegakdohaaGreat.Kn
open Go
set_option linter.unusedVariables false

/-- the first k statements, and the rest -/
def cutC : Nat → Code → Code
  | 0, _ => .skip
  | k + 1, .seq a b => .seq a (cutC k b)
  | _ + 1, _ => .refuse ""
def restC : Nat → Code → Code
  | 0, c => c
  | k + 1, .seq _ b => restC k b
  | _ + 1, c => c

/-- these slots and these blocks alone -/
noncomputable def mkS (N : Nat) : List (Nat × SV) → Slots
  | [] => Slots.none N
  | (t, v) :: r => (mkS N r).put t v
noncomputable def mkH : List (Nat × Ob) → Heap
  | [] => Heap.none
  | (b, o) :: r => (mkH r).put b o
noncomputable def keepOnly (N : Nat) (ts bs : List Nat) (t : T (Ex × St)) : T (Ex × St) := match t with
  | .ret (e, st) => .ret (e, ⟨mkS N (ts.map fun t => (t, Slots.get st.sl t)), mkH (bs.map fun b => (b, Heap.get st.H b)), st.nx, true, 0, []⟩)
  | .bad => .bad

structure Less (a b : St) : Prop where
  nx : b.nx = a.nx
  sl : ∀ t, Slots.get b.sl t = Slots.get a.sl t ∨ Slots.get b.sl t = .top
  H : ∀ x, Heap.get b.H x = Heap.get a.H x ∨ Heap.get b.H x = .dead

theorem mkS_get (N : Nat) (s : Slots) (t : Nat) : ∀ (ts : List Nat), Slots.get (mkS N (ts.map fun t => (t, Slots.get s t))) t = Slots.get s t ∨ Slots.get (mkS N (ts.map fun t => (t, Slots.get s t))) t = .top
  | [] => .inr (Tr.get_forks _ _ _)
  | u :: r => by
    simp only [List.map_cons, mkS]
    rw [Slots.get_cons]
    by_cases e : u = t
    · subst e; simp
    · rw [if_neg e]; exact mkS_get N s t r

theorem mkH_get (H : Heap) (b : Nat) : ∀ (bs : List Nat), Heap.get (mkH (bs.map fun b => (b, Heap.get H b))) b = Heap.get H b ∨ Heap.get (mkH (bs.map fun b => (b, Heap.get H b))) b = .dead
  | [] => .inr (Heap.get_none b)
  | c :: r => by
    simp only [List.map_cons, mkH]
    rw [Heap.get_put]
    by_cases e : c = b
    · subst e; simp
    · rw [if_neg e]; exact mkH_get H b r

theorem keepOnly_ok {N : Nat} {ts bs : List Nat} {t : T (Ex × St)} {e : Ex} {st' : St} (h : keepOnly N ts bs t = .ret (e, st')) : ∃ st, t.res = some (e, st) ∧ Less st st' := by
  unfold keepOnly at h
  split at h
  · rename_i e' st
    injection h with h
    injection h with h1 h2
    subst h1 h2
    exact ⟨st, rfl, rfl, fun t => mkS_get N st.sl t ts, fun b => mkH_get st.H b bs⟩
  · cases h

section
variable {P : Program} {G : Ctx} (hG : CtxOk P G) (hK : KnownOk P G)

/-- from here on it comes to true, and leaves what was there at the begin -/
def Goes (P : Program) (fn : Func) (c : Code) (st : St) : Prop := ∀ (w0 : World) (f : Fn) (z : Z) (w : World) (a : Act), TR f st.nx z st.sl a.tmps → Rel All f st.nx z w st.H → a.tmps.size = fn.ntmps → a.defers = [] → Fr (fun _ => False) w0 w → (∀ b, (st.H.get b).live → w0.heap.size ≤ (f b).k) →
  ∀ (Q : Exit → Act → World → Prop), (∀ e a' w', (e = .normal ∨ e = .ret) → a'.defers = [] → (results fn a'.tmps).run P w' = .ok (.bool true) w' → Fr (fun _ => False) w0 w' → Q e a' w') → c.wp P Q a w

theorem Fr.on {S : Nat → Prop} {f f' : Fn} {nx nx' : Nat} {z z' : Z} {w0 w w' : World} {H H' : Heap} {e : Bool} (h : Fr (fun _ => False) w0 w) (hn : ∀ b, (H.get b).live → w0.heap.size ≤ (f b).k) (hp : Post S f nx z w H f' nx' z' w' H' e) : Fr (fun _ => False) w0 w' :=
  h.trans hp.fr fun x hx ⟨b, _, hl, hb⟩ => by have := hn b hl; omega

theorem Post.new {f f' : Fn} {nx nx' : Nat} {z z' : Z} {w0 w w' : World} {H H' : Heap} {e : Bool} (h : Fr (fun _ => False) w0 w) (hn : ∀ b, (H.get b).live → w0.heap.size ≤ (f b).k) (hp : Post All f nx z w H f' nx' z' w' H' e) : ∀ b, (H'.get b).live → w0.heap.size ≤ (f' b).k := fun b hl => by
  rcases Nat.lt_or_ge b nx with h1 | h1
  · rw [hp.ext b h1]
    exact hn b (hp.dead b h1 hl)
  · rcases hp.fresh b h1 hl with h2 | ⟨c, _, hc, h3⟩
    · exact Nat.le_trans h.size h2
    · rw [← h3]; exact hn c hc

include hG hK

theorem cut_ok {fn : Func} {F : Nat} : ∀ (k n : Nat) (c : Code) (st0 st : St), DrOk G F c → (ev G n F fn.ntmps (cutC k c) st0).res = some (.normal, st) → Goes P fn (restC k c) st → Goes P fn c st0
  | 0, n, c, st0, st, hdr, h, hgo => by
    cases n with
    | zero => exact (T.bad_some h).elim
    | succ n =>
      have := T.ret_some h
      simp only [Prod.mk.injEq, true_and] at this
      subst this
      exact hgo
  | k + 1, n, .seq x y, st0, st, hdr, h, hgo => by
    cases n with
    | zero => exact (T.bad_some h).elim
    | succ n =>
      simp only [cutC, ev] at h
      obtain ⟨⟨e1, st1⟩, h1, h2⟩ := T.bind_some h
      cases e1 with
      | exit id => have := T.ret_some h2; simp at this
      | ret => have := T.ret_some h2; simp at this
      | normal =>
        have hx := ev_ok hG hK n F fn.ntmps x st0 .normal st1 hdr.1 h1
        have hy := cut_ok (fn := fn) (F := F) k n y st1 st hdr.2 h2 hgo
        intro w0 f z w a ht hr hN hd hf hn Q hQ
        refine wp_seq (hx.2 f z w a ht hr hN hd _ fun f' z' w' a' hp ht' hN' hd' => ?_)
        exact hy w0 f' z' w' a' ht' hp.all hN' hd' (Fr.on hf hn hp) (Post.new hf hn hp) Q hQ
  | k + 1, n, .skip, st0, st, hdr, h, hgo => by cases n <;> exact (T.bad_some h).elim
  | k + 1, n, .region .., st0, st, hdr, h, hgo => by cases n <;> exact (T.bad_some h).elim
  | k + 1, n, .cond .., st0, st, hdr, h, hgo => by cases n <;> exact (T.bad_some h).elim
  | k + 1, n, .block .., st0, st, hdr, h, hgo => by cases n <;> exact (T.bad_some h).elim
  | k + 1, n, .loop .., st0, st, hdr, h, hgo => by cases n <;> exact (T.bad_some h).elim
  | k + 1, n, .rangeFunc .., st0, st, hdr, h, hgo => by cases n <;> exact (T.bad_some h).elim
  | k + 1, n, .exit .., st0, st, hdr, h, hgo => by cases n <;> exact (T.bad_some h).elim
  | k + 1, n, .scope .., st0, st, hdr, h, hgo => by cases n <;> exact (T.bad_some h).elim
  | k + 1, n, .label .., st0, st, hdr, h, hgo => by cases n <;> exact (T.bad_some h).elim
  | k + 1, n, .goto .., st0, st, hdr, h, hgo => by cases n <;> exact (T.bad_some h).elim
  | k + 1, n, .ret, st0, st, hdr, h, hgo => by cases n <;> exact (T.bad_some h).elim
  | k + 1, n, .refuse .., st0, st, hdr, h, hgo => by cases n <;> exact (T.bad_some h).elim

omit hG hK in
theorem Goes.less {fn : Func} {c : Code} {st st' : St} (hl : Less st st') (h : Goes P fn c st') : Goes P fn c st := by
  intro w0 f z w a ht hr hN hd hf hn Q hQ
  have hget : ∀ b, (st'.H.get b).live → Heap.get st'.H b = Heap.get st.H b := fun b hb => (hl.H b).resolve_right fun e => by rw [e] at hb; exact hb
  refine h w0 f z w a (fun t => ?_) ⟨fun b hs hb => ?_, fun b c hb hc hbl hcl hne => ?_, hr.zok⟩ hN hd hf (fun b hb => ?_) Q hQ
  · rw [hl.nx]
    rcases hl.sl t with e | e
    · rw [e]; exact ht t
    · rw [e]; trivial
  · have e := hget b hb
    rw [hl.nx, e]
    exact hr.own b hs (by rw [← e]; exact hb)
  · exact hr.inj b c hb hc (by rw [← hget b hbl]; exact hbl) (by rw [← hget c hcl]; exact hcl) hne
  · exact hn b (by rw [← hget b hb]; exact hb)

/-- the last piece -/
theorem last_ok {fn : Func} {F n : Nat} {c : Code} {st0 : St} (hdr : DrOk G F c)
    (h : ((ev G n F fn.ntmps c st0).bind fun (e, st) => match e with | .exit _ => .bad | _ => (resultsOf G st fn.results.toList).bind fun l => match l with | [.one (.f (.lit (.bool b)))] => .ret b | _ => .bad).res = some true) : Goes P fn c st0 := by
  obtain ⟨⟨e, st⟩, h1, h2⟩ := T.bind_some h
  have hx := ev_ok hG hK n F fn.ntmps c st0 e st hdr h1
  have h3 : (e = .normal ∨ e = .ret) ∧ (resultsOf G st fn.results.toList).res = some [.one (.f (.lit (.bool true)))] := by
    have key : ((resultsOf G st fn.results.toList).bind fun l => match l with | [.one (.f (.lit (.bool b)))] => T.ret b | _ => .bad).res = some true → (resultsOf G st fn.results.toList).res = some [.one (.f (.lit (.bool true)))] := fun h => by
      obtain ⟨l, h4, h5⟩ := T.bind_some h
      split at h5
      · have := T.ret_some h5
        subst this
        exact h4
      · exact (T.bad_some h5).elim
    cases e with
    | exit id => exact (T.bad_some h2).elim
    | normal => exact ⟨.inl rfl, key h2⟩
    | ret => exact ⟨.inr rfl, key h2⟩
  obtain ⟨he, hl⟩ := h3
  intro w0 f z w a ht hr hN hd hf hn Q hQ
  refine hx.2 f z w a ht hr hN hd Q fun f' z' w' a' hp ht' hN' hd' => ?_
  obtain ⟨v, hv1, hv2⟩ := results_ok hG ht' hp.all hl
  have hv : v = .bool true := lit_ok hv2
  subst hv
  refine hQ _ a' w' ?_ hd' hv1 (Fr.on hf hn hp)
  rcases he with rfl | rfl
  · exact .inl rfl
  · exact .inr rfl

omit hK in
/-- all of it -/
theorem pieces_ok {g : Nat} {fn : Func} {c : Code} (hg : G.fi g = some fn) (hb : fn.body = some c) (h : Goes P fn c ⟨Slots.none fn.ntmps, Heap.none, 0, false, 0, []⟩) (w : World) : Calls P g #[] w fun e w' => e = .returned (.bool true) ∧ Go.RowKit.Below w.heap.size w w' := by
  obtain ⟨hf1, _, _⟩ := hG.fi g fn hg
  refine calls_of_wp hf1 hb ?_
  have ht := argSlots_TR (f := noFn) (nx := 0) (z := noZ) (args := []) (vs := #[]) RAs.nil (fn.ntmps) fn.ntmps
  refine h w noFn noZ w _ (by simpa [argSlots] using ht) (Rel.seen ⟨fun k o v h => by cases h⟩) (by simp) rfl (Fr.refl _ _) (fun b hl => by rw [Heap.get_none] at hl; exact hl.elim) _ fun e a' w' he hd hv hf => ?_
  have hbel : Go.RowKit.Below w.heap.size w w' := hf.below
  rcases he with rfl | rfl
  · exact ⟨hd, .bool true, hv, rfl, hbel⟩
  · exact ⟨hd, .bool true, hv, rfl, hbel⟩

omit hG hK in
theorem restC_dr {F : Nat} : ∀ (k : Nat) {c : Code}, DrOk G F c → DrOk G F (restC k c)
  | 0, _, h => h
  | k + 1, .seq _ b, h => restC_dr k (c := b) h.2
  | _ + 1, .skip, h => h
  | _ + 1, .region .., h => h
  | _ + 1, .cond .., h => h
  | _ + 1, .block .., h => h
  | _ + 1, .loop .., h => h
  | _ + 1, .rangeFunc .., h => h
  | _ + 1, .exit .., h => h
  | _ + 1, .scope .., h => h
  | _ + 1, .label .., h => h
  | _ + 1, .goto .., h => h
  | _ + 1, .ret, h => h
  | _ + 1, .refuse .., h => h

/-- one piece -/
theorem piece (hsym : G.sym = false) {fn : Func} {F k n : Nat} {c : Code} {ts bs : List Nat} {st0 st1 : St} (hdr : DrOk G F c)
    (h : keepOnly fn.ntmps ts bs (fev G n F (kc G F fn.ntmps (cutC k c)) st0) = .ret (.normal, st1)) (hgo : Goes P fn (restC k c) st1) : Goes P fn c st0 := by
  rw [fev_eq hsym] at h
  obtain ⟨st, h1, h2⟩ := keepOnly_ok h
  exact cut_ok hG hK k n c st0 st hdr h1 (hgo.less h2)

/-- the last one -/
theorem lastPiece (hsym : G.sym = false) {fn : Func} {F n : Nat} {c : Code} {st0 : St} (hdr : DrOk G F c)
    (h : ((fev G n F (kc G F fn.ntmps c) st0).bind fun (e, st) => match e with | .exit _ => .bad | _ => (resultsOf G st fn.results.toList).bind fun l => match l with | [.one (.f (.lit (.bool b)))] => .ret b | _ => .bad).res = some true) : Goes P fn c st0 := by
  rw [fev_eq hsym] at h
  exact last_ok hG hK hdr h

end

/-! short words for what is printed -/
def b8 (n : Nat) : CV := .f (.lit (.int .u8 (.ofNat n)))
def iz (n : Nat) : CV := .f (.lit (.int .i64 (.ofNat n)))
def bo (b : Bool) : CV := .f (.lit (.bool b))
def tx (l : List UInt8) : CV := .f (.lit (.string ⟨⟨l⟩⟩))
def ns : CV := .f (.lit (.slice none 0 0))
def np : CV := .f (.lit (.pointer none))

end Go.Proofs.YtpidkmegakdohaaGreat.Kn
