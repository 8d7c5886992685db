/- The engine, part 33: own slices that are lent: the callee reads them alone. -/
import Derived.Test.YtbobakclbdaepaaGreatF9
namespace Go.Proofs.YtbobakclbdaepaaGreat.En
open Go
set_option linter.unusedVariables false
set_option linter.unusedSimpArgs false

def FV.isLit : FV → Bool
  | .lit _ => true
  | .z0 _ => true
  | _ => false
def CV.noZ : CV → Bool
  | .f x => x.isLit
  | _ => true
def SV.noZ : SV → Bool
  | .v a => a.cells.all CV.noZ
  | .tup l => l.all fun a => a.cells.all CV.noZ
  | .top => true
/-- a row of plain values -/
def ArrLit (n : Nat) (e : Nat → List FV) : Prop := ∀ i, i < n → ∀ x ∈ e i, x.isLit = true
noncomputable def Ob.noZ : Ob → Bool
  | .cells l => l.all CV.noZ
  | .arr _ _ n e => pb (ArrLit n e)
  | _ => true

theorem FV.isLit_ok {x : FV} (h : x.isLit = true) {z z' : Z} {v : Value} (hx : RF z x v) : RF z' x v := by
  cases hx with
  | lit v h1 => exact .lit v h1
  | z0n => exact .z0n
  | z0s a => exact .z0s a
  | _ => cases h

theorem CV.noZ_ok {x : CV} (h : x.noZ = true) {f : Fn} {nx : Nat} {z z' : Z} {v : Value} (hx : RC f nx z x v) : RC f nx z' x v := by
  cases x with
  | f x => exact FV.isLit_ok h hx
  | _ => exact hx

theorem RL.noZ {l : List CV} (h : l.all CV.noZ = true) {f : Fn} {nx : Nat} {z z' : Z} {vs : List Value} (hx : RL f nx z l vs) : RL f nx z' l vs :=
  ⟨hx.1, fun i x v h1 h2 => CV.noZ_ok (List.all_eq_true.1 h x (List.mem_of_getElem? h1)) (hx.2 i x v h1 h2)⟩

theorem AV.noZ_ok {a : AV} (h : a.cells.all CV.noZ = true) {f : Fn} {nx : Nat} {z z' : Z} {v : Value} (hx : RA f nx z a v) : RA f nx z' a v := by
  cases a with
  | one x => exact CV.noZ_ok (by simpa [AV.cells] using h) hx
  | agg l =>
    obtain ⟨cs, rfl, hl⟩ := hx
    exact ⟨cs, rfl, hl.noZ h⟩

theorem SV.noZ_ok {s : SV} (h : s.noZ = true) {f : Fn} {nx : Nat} {z z' : Z} {v : Value} (hx : RS f nx z s v) : RS f nx z' s v := by
  cases s with
  | v a => exact AV.noZ_ok h hx
  | tup l =>
    obtain ⟨vs, rfl, hl⟩ := hx
    exact ⟨vs, rfl, hl.1, fun i x v h1 h2 => AV.noZ_ok (List.all_eq_true.1 h x (List.mem_of_getElem? h1)) (hl.2 i x v h1 h2)⟩
  | top => trivial

theorem Ob.noZ_ok {o : Ob} (h : o.noZ = true) {f : Fn} {nx : Nat} {z z' : Z} {w : World} {b : Nat} (hz : ∀ p, z (f b).k p = none → z' (f b).k p = none) (hb : BOk f nx z w b o) : BOk f nx z' w b o := by
  refine ⟨hb.lt, fun p => hz p (hb.own p), hb.room, fun m i j x hx => ?_, hb.map⟩
  obtain ⟨h1, v, h2, h3⟩ := hb.cell m i j x hx
  refine ⟨h1, v, h2, CV.noZ_ok ?_ h3⟩
  cases o with
  | cells l =>
    simp only [Ob.at] at hx
    split at hx
    · exact List.all_eq_true.1 h x (List.mem_of_getElem? hx)
    · cases hx
  | arr live sz n e =>
    simp only [Ob.at] at hx
    split at hx
    · rename_i hc
      obtain ⟨y, hy, rfl⟩ := Option.map_eq_some_iff.1 hx
      exact pb_of h i hc.2.2.1 y (List.mem_of_getElem? hy)
    · cases hx
  | map es => cases hx
  | dead => cases hx

/-- frozen: what stands for what -/
theorem frzSt_to {b : Nat} {s s' : St} (h : (frzSt b s).res = some s') {f : Fn} {z : Z} {w : World} {a : Array Value} (ht : TR f s.nx z s.sl a) (hr : Rel All f s.nx z w s.H) (hdead : s'.H.get b = .dead) :
    TR f s.nx (zFrz f z w s.H b) s'.sl a ∧ Rel All f s.nx (zFrz f z w s.H b) w s'.H ∧ s'.nx = s.nx ∧ (∀ c, (s'.H.get c).live → c ≠ b ∧ (s.H.get c).live) := by
  have key : ∀ (k : FrzF) (sl : Slots) (H : Heap), KOk f s.nx z w s.H b k → (frzSl b k s.sl).res = some sl → (frzH b k s.H).res = some H →
      TR f s.nx (zFrz f z w s.H b) sl a ∧ Rel All f s.nx (zFrz f z w s.H b) w H ∧ (∀ c, (H.get c).live → c ≠ b ∧ (s.H.get c).live) := by
    intro k sl H hk h1 h3
    have hR := frzH_some s.H H h3
    have hold : ∀ c, (H.get c).live → c ≠ b ∧ (s.H.get c).live ∧ ((s.H.get c).frz b k).res = some (H.get c) := fun c hl => by
      rcases hR c with ⟨_, h5⟩ | ⟨_, _, h5⟩ | ⟨h5, h6⟩
      · rw [h5] at hl; exact hl.elim
      · rw [h5] at hl; exact hl.elim
      · exact ⟨h5, (Ob.frz_live h6).1.1 hl, h6⟩
    refine ⟨fun t => ?_, ⟨fun c _ hl => ?_, fun c d _ _ hl hl' => hr.inj c d trivial trivial (hold c hl).2.1 (hold d hl').2.1, fun c o v hv => ?_⟩, fun c hl => ⟨(hold c hl).1, (hold c hl).2.1⟩⟩
    · rcases frzSl_some s.sl sl h1 t with ⟨_, h5⟩ | h5
      · simp only [h5]; trivial
      · exact RS.frz hr hk (ht t) h5
    · obtain ⟨h5, h6, h7⟩ := hold c hl
      obtain ⟨h8, h9⟩ := hr.own c trivial h6
      exact ⟨h8, h9.frz hr hk (fun hlv => hr.inj c b trivial trivial h6 hlv h5) h7⟩
    · rcases zFrz_some hv with ⟨_, _, h5⟩ | h5
      · exact h5
      · exact hr.zok c o v h5
  have keep : s' = s → TR f s.nx (zFrz f z w s.H b) s'.sl a ∧ Rel All f s.nx (zFrz f z w s.H b) w s'.H ∧ s'.nx = s.nx ∧ (∀ c, (s'.H.get c).live → c ≠ b ∧ (s.H.get c).live) := by
    rintro rfl
    have hz : zFrz f z w s'.H b = z := by
      funext k p
      exact zFrz_out fun h => by rw [hdead] at h; exact h.1
    rw [hz]
    exact ⟨ht, hr, rfl, fun c hl => ⟨fun e => by rw [e, hdead] at hl; exact hl, hl⟩⟩
  unfold frzSt at h
  split at h
  · rename_i live sz n e hb
    obtain ⟨sl, h1, h2⟩ := T.bind_some h
    obtain ⟨H, h3, h4⟩ := T.bind_some h2
    have := T.ret_some h4
    subst this
    obtain ⟨k1, k2, k3⟩ := key _ sl H (kArr_ok hr hb) h1 h3
    exact ⟨k1, k2, rfl, k3⟩
  · rename_i l hb
    split at h
    · rename_i fs hf _
      obtain ⟨sl, h1, h2⟩ := T.bind_some h
      obtain ⟨H, h3, h4⟩ := T.bind_some h2
      have := T.ret_some h4
      subst this
      obtain ⟨k1, k2, k3⟩ := key _ sl H (kCells_ok hr hb hf) h1 h3
      exact ⟨k1, k2, rfl, k3⟩
    · exact keep (T.ret_some h).symm
  · exact keep (T.ret_some h).symm

/-- block b is lent: the callee sees plain memory, which it leaves as it is -/
noncomputable def lend (F : SumF) (b : Nat) : SumF := fun args H nx =>
  match H.all (fun e => !(e.2.refs.any (Nat.beq b))) && Nat.ble (b + 1) nx with
  | false => .bad
  | true => (frzSt b ⟨argSlots 0 args, H, nx, false, 0, []⟩).bind fun s => match s.H.get b, argsBack s.sl args.length 0 with
    | .dead, some args' => (F args' s.H nx).bind fun o =>
      .need (o.v.noZ && o.H.all fun e => e.2.noZ)
        (.ret { o with H := (b, H.get b) :: ((o.H.filter fun e => (Nat.ble nx e.1 || o.wr.any (Nat.beq e.1)) && !(Nat.beq e.1 b)) ++ (H.filter fun e => !(Nat.ble nx e.1 || o.wr.any (Nat.beq e.1)))) })
    | _, _ => .bad

theorem get_noZ : ∀ (H : Heap), H.all (fun e => e.2.noZ) = true → ∀ c, (H.get c).noZ = true
  | [], _, c => rfl
  | (k, o) :: r, h, c => by
    simp only [List.all_cons, Bool.and_eq_true] at h
    rw [Heap.get_cons]
    split
    · exact h.1
    · exact get_noZ r h.2 c

theorem get_noref {b : Nat} : ∀ (H : Heap), H.all (fun e => !(e.2.refs.any (Nat.beq b))) = true → ∀ c, b ∉ (H.get c).refs
  | [], _, c => by intro h; cases h
  | (k, o) :: r, h, c => by
    simp only [List.all_cons, Bool.and_eq_true, Bool.not_eq_true'] at h
    rw [Heap.get_cons]
    split
    · exact any_neg h.1
    · exact get_noref r h.2 c

theorem lend_ok {P : Program} {g : Nat} {F : SumF} (hF : SumOk P g F) (b : Nat) : SumOk P g (lend F b) := by
  have hget : ∀ (H : Heap) (nx : Nat) (o : CallOut) (c : Nat), Heap.get ((b, H.get b) :: ((o.H.filter fun e => (Nat.ble nx e.1 || o.wr.any (Nat.beq e.1)) && !(Nat.beq e.1 b)) ++ (H.filter fun e => !(Nat.ble nx e.1 || o.wr.any (Nat.beq e.1))))) c =
      if c = b then H.get b else if nx ≤ c ∨ c ∈ o.wr then o.H.get c else H.get c := by
    intro H nx o c
    rw [Heap.get_cons]
    by_cases hcb : c = b
    · rw [if_pos hcb.symm, if_pos hcb]
    · rw [if_neg (Ne.symm hcb), if_neg hcb]
      have hbeq : Nat.beq c b = false := by
        cases e : Nat.beq c b with
        | false => rfl
        | true => exact absurd (Nat.eq_of_beq_eq_true e) hcb
      by_cases hc : nx ≤ c ∨ c ∈ o.wr
      · rw [if_pos hc]
        have ht : (Nat.ble nx c || o.wr.any (Nat.beq c)) = true := by
          rw [Bool.or_eq_true]
          exact hc.imp Nat.ble_eq_true_of_le (anyBeq _ _).2
        rcases get_append (o.H.filter fun e => (Nat.ble nx e.1 || o.wr.any (Nat.beq e.1)) && !(Nat.beq e.1 b)) (H.filter fun e => !(Nat.ble nx e.1 || o.wr.any (Nat.beq e.1))) c with e | ⟨e, e'⟩
        · rw [e, get_filter (fun c => (Nat.ble nx c || o.wr.any (Nat.beq c)) && !(Nat.beq c b)), if_pos (by rw [ht, hbeq]; rfl)]
        · rw [get_filter (fun c => (Nat.ble nx c || o.wr.any (Nat.beq c)) && !(Nat.beq c b)), if_pos (by rw [ht, hbeq]; rfl)] at e
          rw [e', get_filter (fun c => !(Nat.ble nx c || o.wr.any (Nat.beq c))), if_neg (by rw [ht]; simp), e]
      · rw [if_neg hc]
        have ht : (Nat.ble nx c || o.wr.any (Nat.beq c)) = false := by
          rw [Bool.or_eq_false_iff]
          simp only [not_or] at hc
          refine ⟨ble_false hc.1, ?_⟩
          cases h : o.wr.any (Nat.beq c) with
          | false => rfl
          | true => exact absurd ((anyBeq _ _).1 h) hc.2
        rw [get_append_out _ _ _ fun e he hb => by
          rw [List.mem_filter] at he
          rw [hb, ht] at he
          cases he.2]
        rw [get_filter (fun c => !(Nat.ble nx c || o.wr.any (Nat.beq c))), if_pos (by rw [ht]; rfl)]
  refine ⟨fun args H nx r hr => ?_, fun args H nx => ?_⟩
  · unfold lend at hr
    split at hr
    · exact (T.bad_some hr).elim
    rename_i hck
    rw [Bool.and_eq_true] at hck
    obtain ⟨hnr, hbn⟩ := hck
    have hnoref := get_noref H hnr
    have hbn := nble hbn
    obtain ⟨s, h1, hr⟩ := T.bind_some hr
    split at hr
    · rename_i args' hdead hargs'
      obtain ⟨o, h2, hr⟩ := T.bind_some hr
      obtain ⟨hz, hr⟩ := T.need_some hr
      have := T.ret_some hr
      subst this
      rw [Bool.and_eq_true] at hz
      have hkeep := (hF.keeps args' s.H nx).res h2
      intro f z w vs hrel hra R hR
      obtain ⟨ht1, hr1, hnx, hlive⟩ := frzSt_to h1 (argSlots_TR hra 0) hrel hdead
      simp only at ht1 hr1 hnx hlive
      have hlen : vs.toList.length = args.length := hra.1.symm
      have hra1 := argsBack_ok ht1 args.length 0 args' vs.toList hargs' hlen fun j hj => by simp
      have hsame : ∀ c, c ≠ b → s.H.get c = H.get c := fun c hc => frzSt_get h1 hc (hnoref c)
      refine hF.to args' s.H nx o h2 f _ w vs hr1 hra1 R fun f2 z2 w2 v2 hp hv => ?_
      -- memory that is not lent
      let z3 : Z := fun k p => @ite _ ((H.get b).live ∧ k = (f b).k) (Classical.propDecidable _) none (z2 k p)
      have z3_in : ∀ k p, ((H.get b).live ∧ k = (f b).k) → z3 k p = none := fun k p h => by simp only [z3]; rw [if_pos h]
      have z3_out : ∀ k p, ¬ ((H.get b).live ∧ k = (f b).k) → z3 k p = z2 k p := fun k p h => by simp only [z3]; rw [if_neg h]
      have z3_some : ∀ k p v, z3 k p = some v → z2 k p = some v ∧ ¬ ((H.get b).live ∧ k = (f b).k) := fun k p v h => by
        by_cases hc : (H.get b).live ∧ k = (f b).k
        · rw [z3_in k p hc] at h; cases h
        · rw [z3_out k p hc] at h; exact ⟨h, hc⟩
      have z3_none : ∀ k p, z2 k p = none → z3 k p = none := fun k p h => by
        by_cases hc : (H.get b).live ∧ k = (f b).k
        · exact z3_in k p hc
        · rw [z3_out k p hc]; exact h
      have hown : ∀ p, (H.get b).live → z (f b).k p = none := fun p hl => (hrel.own b trivial hl).2.own p
      have zle3 : z.le z3 := fun k p v hv => by
        have hne : ¬ ((H.get b).live ∧ k = (f b).k) := by
          rintro ⟨hl, rfl⟩
          rw [hown p hl] at hv; cases hv
        rw [z3_out k p hne]
        exact hp.zle _ _ _ (zFrz_le hrel _ _ _ hv)
      have himg : ∀ k, img All f s.H k → img All f H k := by
        rintro k ⟨c, _, hl, rfl⟩
        exact ⟨c, trivial, (hlive c hl).2, rfl⟩
      have hnimg : (H.get b).live → ¬ img All f s.H (f b).k := by
        rintro hl ⟨c, _, hlc, e⟩
        obtain ⟨h5, h6⟩ := hlive c hlc
        exact hrel.inj c b trivial trivial h6 hl h5 e
      have znew3 : ∀ k p v, z3 k p = some v → z k p = some v ∨ w.heap.size ≤ k ∨ img All f s.H k := fun k p v hv => by
        obtain ⟨h5, h6⟩ := z3_some k p v hv
        rcases hp.znew k p v h5 with h7 | h7
        · rcases zFrz_some h7 with ⟨h8, h9, _⟩ | h8
          · exact absurd ⟨h8, h9⟩ h6
          · exact .inl h8
        · exact .inr h7
      have hcase : ∀ c, c ≠ b → (if nx ≤ c ∨ c ∈ o.wr then o.H.get c else H.get c) = o.H.get c := fun c hc => by
        split
        · rfl
        · rename_i hn
          simp only [not_or] at hn
          rw [hkeep.2 c (by omega) hn.2, hsame c hc]
      have hHo : ∀ c, Heap.get ((b, H.get b) :: ((o.H.filter fun e => (Nat.ble nx e.1 || o.wr.any (Nat.beq e.1)) && !(Nat.beq e.1 b)) ++ (H.filter fun e => !(Nat.ble nx e.1 || o.wr.any (Nat.beq e.1))))) c = if c = b then H.get b else o.H.get c := fun c => by
        rw [hget]
        split
        · rfl
        · rename_i hc; exact hcase c hc
      have hfb : f2 b = f b := hp.ext b hbn
      refine hR f2 z3 w2 v2 ⟨hp.hnx, hp.ext, zle3, fun k p v hv => (znew3 k p v hv).imp id (Or.imp id (himg k)), fun _ _ hs => absurd trivial hs, fun c hc hl => ?_, ⟨fun c _ hl => ?_, fun c d _ _ hl hl' hcd => ?_, fun k p v hv => hp.rel.zok k p v (z3_some k p v hv).1⟩, fun c hc hl => ?_, hp.fr.less fun x _ => himg x, fun he m hm hN c l hc hg x hx => ?_⟩ (SV.noZ_ok hz.1 hv)
      · simp only [hHo] at hl
        split at hl
        · rename_i e; rw [e]; exact hl
        · exact (hlive c (hp.dead c hc hl)).2
      · simp only [hHo] at hl ⊢
        split at hl
        · rename_i e
          subst e
          rw [if_pos rfl]
          obtain ⟨h5, h6⟩ := hrel.own c trivial hl
          exact ⟨Nat.lt_of_lt_of_le h5 hp.hnx, h6.kept h5 hp.fr (hnimg hl) hp.ext hp.hnx zle3 znew3⟩
        · rename_i e
          rw [if_neg e]
          obtain ⟨h5, h6⟩ := hp.all.own c trivial hl
          exact ⟨h5, Ob.noZ_ok (get_noZ o.H hz.2 c) (fun p => z3_none _ p) h6⟩
      · simp only [hHo] at hl hl'
        have side : ∀ c, c ≠ b → (o.H.get c).live → (H.get b).live → (f2 c).k ≠ (f b).k := fun c hc hlc hlb e => by
          rcases Nat.lt_or_ge c nx with h | h
          · rw [hp.ext c h] at e
            exact hrel.inj c b trivial trivial (hlive c (hp.dead c h hlc)).2 hlb hc e
          · rcases hp.fresh c h hlc with h5 | h5
            · have := (hrel.own b trivial hlb).2.lt
              omega
            · rw [e] at h5
              exact hnimg hlb h5
        by_cases e1 : c = b <;> by_cases e2 : d = b
        · exact absurd (e1.trans e2.symm) hcd
        · subst e1
          rw [if_pos rfl] at hl
          rw [if_neg e2] at hl'
          rw [hfb]
          exact (side d e2 hl' hl).symm
        · subst e2
          rw [if_pos rfl] at hl'
          rw [if_neg e1] at hl
          rw [hfb]
          exact side c e1 hl hl'
        · rw [if_neg e1] at hl
          rw [if_neg e2] at hl'
          exact hp.all.inj c d trivial trivial hl hl' hcd
      · simp only [hHo] at hl
        have hc : nx ≤ c := hc
        rw [if_neg (by omega)] at hl
        exact (hp.fresh c hc hl).imp id (himg _)
      · simp only [hHo] at hg
        split at hg
        · rename_i e
          subst e
          exact hN c l hc hg x hx
        · rename_i e
          refine hp.noesc he m hm (fun c' l' hc' hg' x' hx' => ?_) c l hc hg x hx
          by_cases e' : c' = b
          · rw [e', hdead] at hg'; cases hg'
          · rw [hsame c' e'] at hg'
            exact hN c' l' hc' hg' x' hx'
    · exact (T.bad_some hr).elim
  · unfold lend
    split
    · trivial
    · refine T.Every.bind (fun s => ?_) _
      split
      · rename_i args' _ _
        refine T.Every.bind2 (q := fun o => nx ≤ o.nx ∧ ∀ b, b < nx → b ∉ o.wr → o.H.get b = s.H.get b) (fun o ho => ?_) (hF.keeps args' s.H nx)
        refine T.Every.need ⟨ho.1, fun c hc hw => ?_⟩
        simp only [hget]
        by_cases e : c = b
        · rw [if_pos e, e]
        · rw [if_neg e, if_neg (by simp only [not_or]; exact ⟨by omega, hw⟩)]
      · trivial

/-- own slices among the arguments are lent -/
noncomputable def lendN : Nat → SumF → SumF
  | 0, F => F
  | k + 1, F => fun args H nx => match args.flatMap AV.tops with
    | [] => F args H nx
    | b :: _ => lend (lendN k F) b args H nx

theorem lendN_ok {P : Program} {g : Nat} {F : SumF} (hF : SumOk P g F) : ∀ k, SumOk P g (lendN k F)
  | 0 => hF
  | k + 1 => by
    refine ⟨fun args H nx r hr => ?_, fun args H nx => ?_⟩
    · simp only [lendN] at hr
      split at hr
      · exact hF.to args H nx r hr
      · exact (lend_ok (lendN_ok hF k) _).to args H nx r hr
    · simp only [lendN]
      split
      · exact hF.keeps args H nx
      · exact (lend_ok (lendN_ok hF k) _).keeps args H nx

noncomputable def lendSum (F : SumF) : SumF := canonSum (lendN 3 (canonSum F))
theorem lendSum_ok {P : Program} {g : Nat} {F : SumF} (hF : SumOk P g F) : SumOk P g (lendSum F) := canonSum_ok (lendN_ok (canonSum_ok hF) 3)

end Go.Proofs.YtbobakclbdaepaaGreat.En
