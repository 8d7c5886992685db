/- The closed engine, made quick: code; a closed run by it. -/
import Derived.Test.YtpidkmegakdohaaGreatKH
namespace Go.Proofs.YtpidkmegakdohaaGreat.Kn
open Go
set_option linter.unusedVariables false
set_option linter.unusedSimpArgs false

section
variable {G : Ctx} (hsym : G.sym = false) {call : CallF} {N : Nat}
include hsym

theorem koRun_eq {d : Bool} {st : St} {o : Oper} : koRun (kop G N o) G call d st.sl st.H st.nx st o = evOp G call d st o := by
  have other : koRun .other G call d st.sl st.H st.nx st o = evOp G call d st o := slow_eq G call d st.sl st.H st.nx st o
  cases ho : o.op with
  | move x => simp only [kop, ho]; exact aMv_eq (.inl ho)
  | assign x => simp only [kop, ho]; exact aMv_eq (.inr ho)
  | pick c a b => simp only [kop, ho]; exact aPick_eq ho
  | alloc t =>
    simp only [kop, ho]
    cases hi : G.ti t with
    | none => exact other
    | some i => exact aNew_eq ho hi
  | load t x =>
    simp only [kop, ho]
    cases hi : G.ti t with
    | none => exact other
    | some i => exact aLoad_eq ho hi
  | store t x y =>
    simp only [kop, ho]
    cases hi : G.ti t with
    | none => exact other
    | some i => exact aStore_eq ho hi
  | binOp op t x y t' =>
    cases op with
    | shl => simp only [kop, ho]; exact other
    | shr => simp only [kop, ho]; exact other
    | _ => simp only [kop, ho]; exact aBin_eq ho (by intro h; cases h) (by intro h; cases h)
  | unOp op t x =>
    cases op with
    | not => simp only [kop, ho]; exact aNot_eq ho
    | _ => simp only [kop, ho]; exact other
  | convert a b x =>
    simp only [kop, ho]
    split
    · rename_i s1 b1 z1 k1 g1 q1 s2 b2 z2 k2 g2 q2 ha hb
      exact aConv_eq ho ha hb rfl rfl
    · exact other
  | fieldAddr t x fld =>
    simp only [kop, ho]
    split
    · rename_i fs a1 a2 hi
      split
      · rename_i off size ty ag hf
        split
        · rename_i hz; exact aFaddr_eq ho hi rfl hf hz
        · exact other
      · exact other
    · exact other
  | field t x fld =>
    simp only [kop, ho]
    split
    · rename_i fs a1 a2 hi
      split
      · rename_i off size ty ag hf
        exact aField_eq ho hi rfl hf
      · exact other
    · exact other
  | indexAddr t x i =>
    simp only [kop, ho]
    split
    · rename_i e a1 a2 hi _
      split
      · rename_i ei he; exact aIaddr_eq ho hi rfl he hsym
      · exact other
    · rename_i n e a1 a2 hi _
      split
      · rename_i ei he; exact aAaddr_eq ho hi rfl he hsym
      · exact other
    · exact other
  | extract x i => simp only [kop, ho]; exact aExtr_eq ho
  | call c =>
    simp only [kop, ho]
    split
    · rename_i g hc
      split
      · rename_i fn hg; exact aCall_eq ho hc hg
      · exact other
    · rename_i hc
      split
      · rename_i t ts x ht hx
        split
        · rename_i hi; exact aLen_str_eq ho hc ht hx hi rfl
        · rename_i hi; exact aLen_slice_eq ho hc ht hx hi rfl
        · exact other
      · exact other
    · exact other
  | _ => simp only [kop, ho]; exact other

omit hsym in
theorem guardF_eq {β : Type} (x : SV) (want : Bool) (run skip no : β) : guardF x want run skip no = match x with
    | .v (.one (.f (.lit (.bool b)))) => (match want with | true => (match b with | true => run | false => skip) | false => (match b with | true => skip | false => run))
    | .tup [] => skip
    | _ => no := by
  have h := sc_spec x
  unfold guardF
  cases hs : sc x with
  | bool b =>
    rw [hs] at h
    simp only at h
    subst h
    cases b <;> cases want <;> rfl
  | tup l =>
    rw [hs] at h
    simp only at h
    subst h
    cases l <;> rfl
  | int k n => rw [hs] at h; simp only at h; subst h; rfl
  | str s => rw [hs] at h; simp only at h; subst h; rfl
  | ptr b m i j => rw [hs] at h; simp only at h; subst h; rfl
  | sl nil b m i j len cap ex sz => rw [hs] at h; simp only at h; subst h; rfl
  | agg l => rw [hs] at h; simp only at h; subst h; rfl
  | no =>
    show no = _
    split
    · rename_i b; exact absurd hs (by intro h; cases h)
    · exact absurd hs (by intro h; cases h)
    · rfl

/-! a region -/
omit hsym in
theorem trec_eq {α β : Type} (t : T α) (k : α → T β) : T.rec (motive := fun _ => T β) k .bad t = t.bind k := by cases t <;> rfl

omit hsym in
theorem nthF_some {α β : Type} (l : List α) (i : Nat) (k : α → β) (no : β) : nthF l i k no = match l[i]? with | some v => k v | none => no := nthF_eq l i k no

omit hsym in
theorem allK_eq {α : Type} (f : α → Bool) : ∀ (l : List α), allK f l = l.all f
  | [] => rfl
  | x :: l => by
    show Bool.rec (motive := fun _ => Bool) false (allK f l) (f x) = _
    rw [allK_eq f l, List.all_cons]
    cases f x <;> rfl

omit hsym in
theorem okF_eq (r : RI) (es : List Eff) : okF r es = r.ok es := by
  obtain ⟨fl, cl, al⟩ := r
  show Bool.rec (motive := fun _ => Bool) false (allK (pairK es fun a b => b.rf.all fun x => !(Nat.ble a.n0 x && Nat.ble (x + 1) a.n1)) al) (allK (pairK es fun a b => !(clash a b)) cl) = _
  rw [allK_eq, allK_eq]
  have hp : ∀ f, pairK es f = fun p : Nat × Nat => match es[p.1]?, es[p.2]? with | some a, some b => f a b | _, _ => false := fun f => by
    funext p
    obtain ⟨i, j⟩ := p
    show nthF es i (fun a => nthF es j (fun b => f a b) false) false = _
    rw [nthF_eq]
    cases es[i]? with
    | none => rfl
    | some a => dsimp only; rw [nthF_eq]; cases es[j]? <;> rfl
  rw [hp, hp]
  simp only [RI.ok]
  generalize List.all cl _ = q
  cases q <;> rfl

def dchk (N : Nat) (d : Option Nat) : Bool := match d with | some d => Nat.ble (d + 1) N | none => true

omit hsym in
theorem kgd_eq (all : List Oper) (o : Oper) : kgd N all o = match dchk N o.dst with
    | false => .bad
    | true => match o.guard with
      | none => .yes
      | some (j, want) => match (all[j]?).bind (·.dst) with
        | none => .bad
        | some t => .on (kxT N t) want := by
  unfold kgd
  cases o.dst with
  | none => rfl
  | some d => simp only [dchk]; generalize Nat.ble (d + 1) N = q; cases q <;> rfl

omit hsym in
theorem evOps_cons (all : List Oper) (o : Oper) (l : List Oper) (st : St) : evOps G call N all (o :: l) st = match dchk N o.dst with
    | false => .bad
    | true => match o.guard with
      | none => (evOp G call false st o).bind fun u => forceV G.sym u.v fun v => (st.up u).putK o.dst v (evOps G call N all l)
      | some (j, want) => match (all[j]?).bind (·.dst) with
        | none => .bad
        | some t => match isNone (Slots.get st.sl t) with
          | true => st.putK o.dst (.tup []) (evOps G call N all l)
          | false => split st (.tmp t) fun c => match (match c, want with | true, true => true | false, false => true | _, _ => false) with
            | true => (evOp G call false st o).bind fun u => forceV G.sym u.v fun v => (st.up u).putK o.dst v (evOps G call N all l)
            | false => st.putK o.dst (.tup []) (evOps G call N all l) := by
  simp only [evOps]
  cases o.dst with
  | none => rfl
  | some d => simp only [dchk]; generalize Nat.ble (d + 1) N = q; cases q <;> rfl

omit hsym in
theorem evDraw_cons (ops : Array Oper) (o : Oper) (l : List Oper) (fl : List Bool) (st : St) (es : List Eff) : evDraw G call N ops (o :: l) fl st es = match dchk N o.dst with
    | false => .bad
    | true => match o.guard with
      | none => (evOp G call (fl.headD false) ⟨st.sl, st.H, st.nx, false, st.base, []⟩ o).bind fun u => forceV G.sym u.v fun v => (st.up u).putK o.dst v fun st' => evDraw G call N ops l fl.tail st' (effOf st.nx u :: es)
      | some (j, want) => match (ops.toList[j]?).bind (·.dst) with
        | none => .bad
        | some t => match Slots.get st.sl t with
          | .v (.one (.f (.lit (.bool c)))) => match want with
            | true => .br c ((evOp G call (fl.headD false) ⟨st.sl, st.H, st.nx, false, st.base, []⟩ o).bind fun u => forceV G.sym u.v fun v => (st.up u).putK o.dst v fun st' => evDraw G call N ops l fl.tail st' (effOf st.nx u :: es)) (st.putK o.dst (.tup []) fun st' => evDraw G call N ops l fl.tail st' (⟨[], [], st.nx, st.nx, []⟩ :: es))
            | false => .br c (st.putK o.dst (.tup []) fun st' => evDraw G call N ops l fl.tail st' (⟨[], [], st.nx, st.nx, []⟩ :: es)) ((evOp G call (fl.headD false) ⟨st.sl, st.H, st.nx, false, st.base, []⟩ o).bind fun u => forceV G.sym u.v fun v => (st.up u).putK o.dst v fun st' => evDraw G call N ops l fl.tail st' (effOf st.nx u :: es))
          | .tup [] => st.putK o.dst (.tup []) fun st' => evDraw G call N ops l fl.tail st' (⟨[], [], st.nx, st.nx, []⟩ :: es)
          | _ => .bad := by
  simp only [evDraw]
  cases o.dst with
  | none => rfl
  | some d => simp only [dchk]; generalize Nat.ble (d + 1) N = q; cases q <;> rfl

theorem opsRun_eq {o : Oper} {ih : St → T St} {st : St} : opsRun G call (kop G N o) (kd N o.dst) o ih st = (evOp G call false st o).bind fun u => forceV G.sym u.v fun v => (st.up u).putK o.dst v ih := by
  obtain ⟨sl, H, nx, esc, base, wr⟩ := st
  show T.rec (motive := fun _ => T St) (opsOut (kd N o.dst) ih sl esc base wr) .bad (koRun (kop G N o) G call false sl H nx ⟨sl, H, nx, esc, base, wr⟩ o) = _
  rw [trec_eq, koRun_eq (st := ⟨sl, H, nx, esc, base, wr⟩) hsym]
  congr 1
  funext u
  obtain ⟨v, H', nx', e, fp, w⟩ := u
  rw [forceV_eq]
  show forceF v (fun v => putF (kd N o.dst) sl v fun sl => ih ⟨sl, H', nx', esc || e, base, addWr base w wr⟩) = _
  rw [forceF_eq, putF_eq]
  rfl

omit hsym in
theorem opsSkip_eq {dst : Option Nat} {ih : St → T St} {st : St} : opsSkip (kd N dst) ih st = st.putK dst (.tup []) ih := by
  obtain ⟨sl, H, nx, esc, base, wr⟩ := st
  exact putF_eq N dst sl (.tup []) H nx esc base wr ih

theorem opsRaw_eq {o : Oper} {ih : St → T St} {st : St} : opsRaw G call (kop G N o) (kd N o.dst) o ih st = (evOp G call false st o).bind fun u => forceV G.sym u.v fun v => (st.up u).putK o.dst v ih := by
  obtain ⟨sl, H, nx, esc, base, wr⟩ := st
  show T.rec (motive := fun _ => T St) (opsOutN (kd N o.dst) ih sl esc base wr) .bad (koRun (kop G N o) G call false sl H nx ⟨sl, H, nx, esc, base, wr⟩ o) = _
  rw [trec_eq, koRun_eq (st := ⟨sl, H, nx, esc, base, wr⟩) hsym]
  congr 1
  funext u
  obtain ⟨v, H', nx', e, fp, w⟩ := u
  rw [forceV_eq]
  show putF (kd N o.dst) sl v (fun sl => ih ⟨sl, H', nx', esc || e, base, addWr base w wr⟩) = _
  rw [putF_eq]
  rfl

theorem opsMv_eq {o : Oper} {x : KX} (hx : kop G N o = .mv x) {ih : St → T St} {st : St} : opsMv x (kd N o.dst) ih st = (evOp G call false st o).bind fun u => forceV G.sym u.v fun v => (st.up u).putK o.dst v ih := by
  rw [← opsRun_eq hsym, hx]
  obtain ⟨sl, H, nx, esc, base, wr⟩ := st
  show putF (kd N o.dst) sl (kxV x sl) (fun sl => ih ⟨sl, H, nx, esc, base, wr⟩) = forceF (kxV x sl) (fun v => putF (kd N o.dst) sl v fun sl => ih ⟨sl, H, nx, esc || false, base, wr⟩)
  rw [forceF_eq, Bool.or_false]

theorem opsF_eq {all : List Oper} : ∀ (l : List Oper), opsF G call (kfos G N all l) = evOps G call N all l
  | [] => by funext st; rfl
  | o :: l => by
    funext st
    show opsStep G call (kfo G N all o) (opsF G call (kfos G N all l)) st = _
    rw [opsF_eq l]
    have hrun := opsRun_eq (call := call) (N := N) (o := o) (ih := evOps G call N all l) (st := st) hsym
    have hskip := opsSkip_eq (N := N) (dst := o.dst) (ih := evOps G call N all l) (st := st)
    have hmv := fun x hx => opsMv_eq (call := call) (N := N) (o := o) (x := x) (ih := evOps G call N all l) (st := st) hsym hx
    have hstep : opsStep G call (kfo G N all o) (evOps G call N all l) st = match kgd N all o with
        | .yes => (evOp G call false st o).bind fun u => forceV G.sym u.v fun v => (st.up u).putK o.dst v (evOps G call N all l)
        | .on t want => guardF (kxV t st.sl) want ((evOp G call false st o).bind fun u => forceV G.sym u.v fun v => (st.up u).putK o.dst v (evOps G call N all l)) (st.putK o.dst (.tup []) (evOps G call N all l)) .bad
        | .bad => .bad := by
      unfold kfo
      split
      · rename_i x hx hg
        rw [hg]
        exact hmv x hx
      · rename_i a1 a2 a3 hx hg
        rw [hg, ← hx]
        exact opsRaw_eq hsym
      · rename_i a1 a2 a3 a4 hx hg
        rw [hg, ← hx]
        exact opsRaw_eq hsym
      · rename_i a1 a2 hx hg
        rw [hg, ← hx]
        exact opsRaw_eq hsym
      · rename_i p g hno1 hno2 hno3 hno4
        show KG.rec (motive := fun _ => T St) (opsRun G call (kop G N o) (kd N o.dst) o (evOps G call N all l) st) (fun t want => guardF (kxV t st.sl) want (opsRun G call (kop G N o) (kd N o.dst) o (evOps G call N all l) st) (opsSkip (kd N o.dst) (evOps G call N all l) st) .bad) .bad (kgd N all o) = _
        rw [hrun, hskip]
        cases kgd N all o <;> rfl
    rw [hstep, kgd_eq, evOps_cons]
    cases hd : dchk N o.dst with
    | false => rfl
    | true =>
      dsimp only
      cases hgd : o.guard with
      | none => rfl
      | some jw =>
        obtain ⟨j, want⟩ := jw
        dsimp only
        cases hj : (all[j]?).bind (·.dst) with
        | none => rfl
        | some t =>
          dsimp only
          rw [kxT_eq, guardF_eq]
          unfold split
          simp only [St.val]
          generalize Slots.get st.sl t = x
          rcases x with a | l | _
          · rcases a with c | l
            · rcases c with f | _ | _ | _ | _
              · rcases f with v | _ | _ | _
                · cases v with
                  | bool b => cases b <;> cases want <;> rfl
                  | _ => rfl
                · rfl
                · rfl
                · rfl
              · rfl
              · rfl
              · rfl
              · rfl
            · rfl
          · cases l <;> rfl
          · rfl

/-! a region that draws -/
omit hsym in
theorem hdF_eq (l : List Bool) : hdF l = l.headD false := by cases l <;> rfl
omit hsym in
theorem tlF_eq (l : List Bool) : tlF l = l.tail := by cases l <;> rfl

theorem drwRun_eq {o : Oper} {ih : DR} {fl : List Bool} {st : St} {es : List Eff} : drwRun G call (kop G N o) (kd N o.dst) o ih fl st es =
    (evOp G call (fl.headD false) ⟨st.sl, st.H, st.nx, false, st.base, []⟩ o).bind fun u => forceV G.sym u.v fun v => (st.up u).putK o.dst v fun st' => ih fl.tail st' (effOf st.nx u :: es) := by
  obtain ⟨sl, H, nx, esc, base, wr⟩ := st
  show T.rec (motive := fun _ => T (St × List Eff)) (drwOut (kd N o.dst) ih fl es sl nx esc base wr) .bad (koRun (kop G N o) G call (hdF fl) sl H nx ⟨sl, H, nx, false, base, []⟩ o) = _
  rw [trec_eq, koRun_eq (st := ⟨sl, H, nx, false, base, []⟩) hsym, hdF_eq]
  congr 1
  funext u
  obtain ⟨v, H', nx', e, fp, w⟩ := u
  rw [forceV_eq]
  show forceF v (fun v' => putF (kd N o.dst) sl v' fun sl => ih (tlF fl) ⟨sl, H', nx', esc || e, base, addWr base w wr⟩ (effOf nx ⟨v, H', nx', e, fp, w⟩ :: es)) = _
  rw [forceF_eq, tlF_eq, putF_eq N o.dst sl v H' nx' (esc || e) base (addWr base w wr) (fun st' => ih fl.tail st' (effOf nx ⟨v, H', nx', e, fp, w⟩ :: es))]
  rfl

omit hsym in
theorem drwSkip_eq {dst : Option Nat} {ih : DR} {fl : List Bool} {st : St} {es : List Eff} : drwSkip (kd N dst) ih fl st es = st.putK dst (.tup []) fun st' => ih fl.tail st' (⟨[], [], st.nx, st.nx, []⟩ :: es) := by
  obtain ⟨sl, H, nx, esc, base, wr⟩ := st
  show putF (kd N dst) sl (.tup []) (fun sl => ih (tlF fl) ⟨sl, H, nx, esc, base, wr⟩ (⟨[], [], nx, nx, []⟩ :: es)) = _
  rw [tlF_eq, putF_eq N dst sl (.tup []) H nx esc base wr (fun st' => ih fl.tail st' (⟨[], [], nx, nx, []⟩ :: es))]

theorem drwMv_eq {o : Oper} {x : KX} (hx : kop G N o = .mv x) {ih : DR} {fl : List Bool} {st : St} {es : List Eff} : drwMv x (kd N o.dst) ih fl st es =
    (evOp G call (fl.headD false) ⟨st.sl, st.H, st.nx, false, st.base, []⟩ o).bind fun u => forceV G.sym u.v fun v => (st.up u).putK o.dst v fun st' => ih fl.tail st' (effOf st.nx u :: es) := by
  rw [← drwRun_eq hsym, hx]
  obtain ⟨sl, H, nx, esc, base, wr⟩ := st
  show putF (kd N o.dst) sl (kxV x sl) (fun sl' => ih (tlF fl) ⟨sl', H, nx, esc, base, wr⟩ (effOf nx ⟨kxV x sl, H, nx, false, [], []⟩ :: es)) =
    forceF (kxV x sl) (fun v' => putF (kd N o.dst) sl v' fun sl' => ih (tlF fl) ⟨sl', H, nx, esc || false, base, wr⟩ (effOf nx ⟨kxV x sl, H, nx, false, [], []⟩ :: es))
  rw [forceF_eq, Bool.or_false]

theorem drwF_eq {ops : Array Oper} : ∀ (l : List Oper), drwF G call (kfos G N ops.toList l) = evDraw G call N ops l
  | [] => by funext fl st es; rfl
  | o :: l => by
    funext fl st es
    show drwStep G call (kfo G N ops.toList o) (drwF G call (kfos G N ops.toList l)) fl st es = _
    rw [drwF_eq l]
    have hrun := drwRun_eq (call := call) (N := N) (o := o) (ih := evDraw G call N ops l) (fl := fl) (st := st) (es := es) hsym
    have hskip := drwSkip_eq (N := N) (dst := o.dst) (ih := evDraw G call N ops l) (fl := fl) (st := st) (es := es)
    have hmv := fun x hx => drwMv_eq (call := call) (N := N) (o := o) (x := x) (ih := evDraw G call N ops l) (fl := fl) (st := st) (es := es) hsym hx
    have hstep : drwStep G call (kfo G N ops.toList o) (evDraw G call N ops l) fl st es = match kgd N ops.toList o with
        | .yes => (evOp G call (fl.headD false) ⟨st.sl, st.H, st.nx, false, st.base, []⟩ o).bind fun u => forceV G.sym u.v fun v => (st.up u).putK o.dst v fun st' => evDraw G call N ops l fl.tail st' (effOf st.nx u :: es)
        | .on t want => guardF (kxV t st.sl) want ((evOp G call (fl.headD false) ⟨st.sl, st.H, st.nx, false, st.base, []⟩ o).bind fun u => forceV G.sym u.v fun v => (st.up u).putK o.dst v fun st' => evDraw G call N ops l fl.tail st' (effOf st.nx u :: es))
            (st.putK o.dst (.tup []) fun st' => evDraw G call N ops l fl.tail st' (⟨[], [], st.nx, st.nx, []⟩ :: es)) .bad
        | .bad => .bad := by
      unfold kfo
      split
      · rename_i x hx hg
        rw [hg]
        exact hmv x hx
      · rename_i a1 a2 a3 hx hg
        rw [hg, ← hx]
        exact hrun
      · rename_i a1 a2 a3 a4 hx hg
        rw [hg, ← hx]
        exact hrun
      · rename_i a1 a2 hx hg
        rw [hg, ← hx]
        exact hrun
      · rename_i p g hno1 hno2 hno3 hno4
        show KG.rec (motive := fun _ => T (St × List Eff)) (drwRun G call (kop G N o) (kd N o.dst) o (evDraw G call N ops l) fl st es) (fun t want => guardF (kxV t st.sl) want (drwRun G call (kop G N o) (kd N o.dst) o (evDraw G call N ops l) fl st es) (drwSkip (kd N o.dst) (evDraw G call N ops l) fl st es) .bad) .bad (kgd N ops.toList o) = _
        rw [hrun, hskip]
        cases kgd N ops.toList o <;> rfl
    rw [hstep, kgd_eq, evDraw_cons]
    cases hd : dchk N o.dst with
    | false => rfl
    | true =>
      dsimp only
      cases hgd : o.guard with
      | none => rfl
      | some jw =>
        obtain ⟨j, want⟩ := jw
        dsimp only
        cases hj : (ops.toList[j]?).bind (·.dst) with
        | none => rfl
        | some t =>
          dsimp only
          rw [kxT_eq, guardF_eq]
          generalize Slots.get st.sl t = x
          rcases x with a | l | _
          · rcases a with c | l
            · rcases c with f | _ | _ | _ | _
              · rcases f with v | _ | _ | _
                · cases v with
                  | bool b => cases b <;> cases want <;> rfl
                  | _ => rfl
                · rfl
                · rfl
                · rfl
              · rfl
              · rfl
              · rfl
              · rfl
            · rfl
          · cases l <;> rfl
          · rfl

/-! code -/
omit hsym in
theorem fev_bad (n F : Nat) (st : St) : fev G n F .bad st = .bad := by cases n <;> rfl

omit hsym in
theorem fnRun_eq {n : Nat} (h : ∀ F N c st, fev G n F (kc G F N c) st = ev G n F N c st) : fnRun G (fev G n) = evFn G (ev G n) := by
  funext g args H nx
  unfold fnRun evFn
  cases hg : G.fi g with
  | none => rfl
  | some fn =>
    show bk (Nat.ble args.length fn.ntmps) _ (T.bad : T CallOut) = _
    rw [bk_eq]
    dsimp only
    cases hle : Nat.ble args.length fn.ntmps with
    | false => cases fn.body <;> rfl
    | true =>
      dsimp only
      cases hb : fn.body with
      | none =>
        rw [argSlotsK_eq]
        have : fcode G g fn = .bad := by unfold fcode; rw [hb]; rfl
        rw [this, fev_bad]
        rfl
      | some c =>
        have hc : fcode G g fn = kc G g fn.ntmps c := by unfold fcode; rw [hb]; rfl
        dsimp only
        rw [argSlotsK_eq, argSlotsK_eq, hc, h, tk_eq]
        congr 1
        funext p
        obtain ⟨e, st⟩ := p
        have key : (tk (resF G st fn.results.toList) fun l => stOut st l) = (resultsOf G st fn.results.toList).bind fun l => .ret ⟨outV l, st.H, st.nx, st.esc, st.wr⟩ := by
          rw [tk_eq]; rfl
        cases e with
        | exit id => rfl
        | normal => exact key
        | ret => exact key

theorem fev_eq : ∀ (n F N : Nat) (c : Code) (st : St), fev G n F (kc G F N c) st = ev G n F N c st
  | 0, F, N, c, st => rfl
  | n + 1, F, N, c, st => by
    have ih := fun F N c st => fev_eq n F N c st
    have hcall : knRun G (fev G n) = evKnown G (ev G n) := by
      funext g args H nx
      unfold knRun evKnown
      cases G.sum g with
      | some s => rfl
      | none =>
        show fnRun G (fev G n) g args H nx = _
        rw [fnRun_eq ih]
    show kcStep (kc G F N c) G (knRun G (fev G n)) (fev G n F) st = _
    rw [hcall]
    cases c with
    | skip => rfl
    | label l => rfl
    | exit id => rfl
    | ret => rfl
    | seq a b =>
      show cSeq (kc G F N a) (kc G F N b) (fev G n F) st = _
      unfold cSeq
      simp only [trec_eq, ih, ev]
      congr 1
      funext p
      obtain ⟨e, st1⟩ := p
      cases e with
      | normal => exact ih F N b st1
      | exit id => rfl
      | ret => rfl
    | cond x a b =>
      show cCond (kx N x) (kc G F N a) (kc G F N b) (fev G n F) st = _
      unfold cCond
      simp only [kxV_eq, ih, ev, split]
      generalize st.val x = v
      rcases v with a | l | _
      · rcases a with c | l
        · rcases c with f | _ | _ | _ | _
          · rcases f with v | _ | _ | _
            · cases v with
              | bool b => cases b <;> rfl
              | _ => rfl
            · rfl
            · rfl
            · rfl
          · rfl
          · rfl
          · rfl
          · rfl
        · rfl
      · rfl
      · rfl
    | block id c =>
      show cBlock id (kc G F N c) (fev G n F) st = _
      unfold cBlock
      simp only [tk_eq, ih, ev]
      congr 1
      funext p
      obtain ⟨e, st1⟩ := p
      cases e with
      | normal => rfl
      | exit k => show bk (Nat.beq k id) _ _ = _; rw [bk_eq]; rfl
      | ret => rfl
    | loop c =>
      show cLoop (kc G F N c) (fev G n F) st = _
      unfold cLoop
      simp only [tk_eq, ih, ev]
      congr 1
      funext p
      obtain ⟨e, st1⟩ := p
      cases e with
      | normal => exact ih F N (.loop c) st1
      | exit id => rfl
      | ret => rfl
    | region id ops draw =>
      cases draw with
      | false =>
        show cRegion G (evKnown G (ev G n)) (kfos G N ops.toList ops.toList) st = _
        unfold cRegion
        rw [trec_eq, opsF_eq hsym]
        rfl
      | true =>
        simp only [kc, ev]
        cases G.dr F id with
        | none => rfl
        | some r =>
          show cDraw G (evKnown G (ev G n)) (kfos G N ops.toList ops.toList) r st = _
          unfold cDraw
          rw [tk_eq, drwF_eq hsym]
          dsimp only
          congr 1
          funext p
          obtain ⟨st1, es⟩ := p
          show bk (okF r es.reverse) _ _ = _
          rw [bk_eq, okF_eq]
          rfl
    | rangeFunc => rfl
    | scope => rfl
    | goto => rfl
    | refuse => rfl

theorem fevCall_eq (n : Nat) : fevCall G n = evCall G n := fnRun_eq fun F N c st => fev_eq hsym n F N c st

/-- A closed run that comes to true. -/
theorem calls_quick {P : Program} (hG : CtxOk P G) (hK : KnownOk P G) {n g : Nat} {args : List AV} {z : Z} {w : World} {vs : Array Value} (hz : Seen z w) (ha : RAs noFn 0 z args vs.toList)
    (h : ((fevCall G n g args Heap.none 0).bind fun o => match o.v with | .v (.one (.f (.lit (.bool b)))) => .ret b | _ => .bad).res = some true) :
    Calls P g vs w fun e w' => e = .returned (.bool true) ∧ Go.RowKit.Below w.heap.size w w' := by
  rw [fevCall_eq hsym] at h
  exact calls_true hG hK hz ha h

end
end Go.Proofs.YtpidkmegakdohaaGreat.Kn
