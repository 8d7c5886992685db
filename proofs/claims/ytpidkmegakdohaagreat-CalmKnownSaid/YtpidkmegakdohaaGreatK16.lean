/- The engine, part 16: whatever order is drawn, the text's order stands for it. -/
import Derived.Test.YtpidkmegakdohaaGreatK15
namespace Go.Proofs.YtpidkmegakdohaaGreat.Kn
open Go
set_option linter.unusedVariables false
set_option linter.unusedSimpArgs false

/-! what a value stands for hangs on the blocks that it names alone -/

theorem RC.agree {f f' : Fn} {nx : Nat} {z z' : Z} (hz : z.le z') {x : CV} {v : Value} (e : ∀ b ∈ x.refs, f' b = f b) (h : RC f nx z x v) : RC f' nx z' x v := by
  cases x with
  | f x => exact RF.mono hz h
  | ptr b m i j =>
    obtain ⟨h1, rfl⟩ := h
    exact ⟨h1, by simp [ad, e b (by simp [CV.refs])]⟩
  | sl nil b m i j len cap ex sz =>
    obtain ⟨h0, h1, h2⟩ := h
    have e := e b (by simp [CV.refs])
    refine ⟨h0, h1, fun hn => ?_⟩
    obtain ⟨c, rfl, h3⟩ := h2 hn
    exact ⟨c, by simp [ad, e], by rw [e]; exact h3⟩
  | mp b => obtain ⟨h1, rfl⟩ := h; exact ⟨h1, by rw [e b (by simp [CV.refs])]⟩
  | fn g l =>
    obtain ⟨rfl, h⟩ := h
    refine ⟨?_, h⟩
    congr 2
    exact List.map_congr_left fun x hx => by simp [ad, e x.1 (by simp only [CV.refs, List.mem_map]; exact ⟨x, hx, rfl⟩)]

theorem RA.agree {f f' : Fn} {nx : Nat} {z z' : Z} (hz : z.le z') {x : AV} {v : Value} (e : ∀ b ∈ x.cells.flatMap CV.refs, f' b = f b) (h : RA f nx z x v) : RA f' nx z' x v := by
  cases x with
  | one x => exact RC.agree hz (fun b hb => e b (by simpa [AV.cells] using hb)) h
  | agg l =>
    obtain ⟨cs, rfl, h1, h2⟩ := h
    exact ⟨cs, rfl, h1, fun i y u hy hu => RC.agree hz (fun b hb => e b (List.mem_flatMap.2 ⟨y, List.mem_of_getElem? hy, hb⟩)) (h2 i y u hy hu)⟩

theorem RS.agree {f f' : Fn} {nx : Nat} {z z' : Z} (hz : z.le z') {x : SV} {v : Value} (e : ∀ b ∈ x.refs, f' b = f b) (h : RS f nx z x v) : RS f' nx z' x v := by
  cases x with
  | v x => exact RA.agree hz e h
  | tup l =>
    obtain ⟨vs, rfl, h1, h2⟩ := h
    exact ⟨vs, rfl, h1, fun i y u hy hu => RA.agree hz (fun b hb => e b (List.mem_flatMap.2 ⟨y, List.mem_of_getElem? hy, hb⟩)) (h2 i y u hy hu)⟩
  | top => trivial

theorem Ob.at_refs {o : Ob} {m i j : Nat} {x : CV} (h : o.at m i j = some x) : ∀ c ∈ x.refs, c ∈ o.refs := by
  intro c hc
  cases o with
  | cells l =>
    simp only [Ob.at] at h
    split at h
    · exact List.mem_flatMap.2 ⟨x, List.mem_of_getElem? h, hc⟩
    · cases h
  | arr live sz n e =>
    simp only [Ob.at] at h
    split at h
    · cases hq : (e i)[j]? with
      | none => rw [hq] at h; cases h
      | some y => rw [hq] at h; simp only [Option.map_some, Option.some.injEq] at h; subst h; simp [CV.refs] at hc
    · cases h
  | map es => cases h
  | dead => cases h

theorem RC.refs_lt {f : Fn} {nx : Nat} {z : Z} {x : CV} {v : Value} (h : RC f nx z x v) : ∀ b ∈ x.refs, b < nx := by
  intro b hb
  cases x with
  | f x => simp [CV.refs] at hb
  | ptr b' m i j => simp [CV.refs] at hb; subst hb; exact h.1
  | sl nil b' m i j len cap ex sz => simp [CV.refs] at hb; subst hb; exact h.1
  | mp b' => simp [CV.refs] at hb; subst hb; exact h.1
  | fn g l =>
    simp only [CV.refs, List.mem_map] at hb
    obtain ⟨x, hx, rfl⟩ := hb
    exact h.2 x hx

theorem BOk.ext {f f' : Fn} {nx : Nat} {z : Z} {w : World} {b : Nat} {o : Ob} (h : BOk f nx z w b o) (hb : b < nx) (he : Ext nx f f') : BOk f' nx z w b o := by
  have e := he b hb
  refine ⟨by rw [e]; exact h.lt, fun p => by rw [e]; exact h.own p, fun p hp => ?_, fun m i j x hx => ?_, fun es he => by rw [e]; exact h.map es he, fun lo hi hq => by rw [e] at hq ⊢; exact h.cold lo hi hq⟩
  · rw [e] at hp ⊢; exact h.room p hp
  · obtain ⟨h1, v, h2, h3⟩ := h.cell m i j x hx
    exact ⟨by rw [e]; exact h1, v, by simp only [ad, e]; exact h2, RC.mono he (Nat.le_refl _) (fun _ _ _ h => h) h3⟩

theorem BOk.agree {f f' : Fn} {nx : Nat} {z : Z} {w : World} {b : Nat} {o : Ob} (h : BOk f nx z w b o) (e : f' b = f b) (hr : ∀ m i j x, o.at m i j = some x → ∀ c ∈ x.refs, f' c = f c) : BOk f' nx z w b o := by
  refine ⟨by rw [e]; exact h.lt, fun p => by rw [e]; exact h.own p, fun p hp => ?_, fun m i j x hx => ?_, fun es he => by rw [e]; exact h.map es he, fun lo hi hq => by rw [e] at hq ⊢; exact h.cold lo hi hq⟩
  · rw [e] at hp ⊢; exact h.room p hp
  · obtain ⟨h1, v, h2, h3⟩ := h.cell m i j x hx
    exact ⟨by rw [e]; exact h1, v, by simp only [ad, e]; exact h2, RC.agree (fun _ _ _ h => h) (hr m i j x hx) h3⟩

theorem BOk.up {f : Fn} {nx nx' : Nat} {z : Z} {w : World} {b : Nat} {o : Ob} (h : BOk f nx z w b o) (hn : nx ≤ nx') : BOk f nx' z w b o :=
  ⟨h.lt, h.own, h.room, fun m i j x hx => let ⟨h1, v, h2, h3⟩ := h.cell m i j x hx; ⟨h1, v, h2, RC.mono (fun _ _ => rfl) hn (fun _ _ _ h => h) h3⟩, h.map, h.cold⟩

theorem BOk.re {f f' : Fn} {nx nx' : Nat} {z z' : Z} {w w' : World} {b : Nat} {o : Ob} (h : BOk f' nx' z' w' b o) (k : BOk f nx z w b o) : BOk f' nx z' w' b o :=
  ⟨h.lt, h.own, h.room, fun m i j x hx =>
    let ⟨h1, v, h2, h3⟩ := h.cell m i j x hx
    let ⟨_, _, _, h4⟩ := k.cell m i j x hx
    ⟨h1, v, h2, RC.below h3 h4.inside⟩, h.map, h.cold⟩

/-! what comes before an operation, whatever order is drawn -/

theorem closure_fold (g : Nat → Nat) (i : Nat) : ∀ (L : List Nat) (s : Nat), (L.foldl (fun s e => s ||| (1 <<< e) ||| g e) s).testBit i = true → s.testBit i = true ∨ ∃ e ∈ L, i = e ∨ (g e).testBit i = true
  | [], s, h => .inl h
  | e :: L, s, h => by
    rw [List.foldl_cons] at h
    rcases closure_fold g i L _ h with h1 | ⟨e', h1, h2⟩
    · rw [Nat.testBit_or, Nat.testBit_or, Nat.one_shiftLeft, Nat.testBit_two_pow] at h1
      simp only [Bool.or_eq_true, decide_eq_true_eq] at h1
      rcases h1 with (h1 | h1) | h1
      · exact .inl h1
      · exact .inr ⟨e, by simp, .inl h1.symm⟩
      · exact .inr ⟨e, by simp, .inr h1⟩
    · exact .inr ⟨e', by simp [h1], h2⟩

theorem closure_keeps : ∀ (l : List Oper) (acc : List Nat) (e : Nat), e < acc.length → (closure l acc).getD e 0 = acc.getD e 0
  | [], _, _, _ => rfl
  | o :: l, acc, e, h => by
    rw [closure, closure_keeps l _ e (by simp; omega)]
    simp only [List.getD_eq_getElem?_getD]
    rw [List.getElem?_append_left h]

theorem closure_spec : ∀ (l : List Oper) (acc : List Nat) (i : Nat) (o : Oper) (b : Nat), l[i]? = some o → ((closure l acc).getD (acc.length + i) 0).testBit b = true → (∀ e ∈ edges o, e < acc.length + i) →
    ∃ e ∈ edges o, b = e ∨ ((closure l acc).getD e 0).testBit b = true
  | [], _, _, _, _, h, _, _ => by simp at h
  | o :: l, acc, 0, o', b, h, hb, he => by
    simp only [List.getElem?_cons_zero, Option.some.injEq] at h
    subst h
    have e1 : (closure (o :: l) acc).getD (acc.length + 0) 0 = (edges o).foldl (fun s e => s ||| (1 <<< e) ||| acc.getD e 0) 0 := by
      rw [closure, closure_keeps l _ _ (by simp)]
      simp
    rw [e1] at hb
    rcases closure_fold (fun e => acc.getD e 0) b (edges o) 0 hb with h1 | ⟨e, h1, h2⟩
    · simp at h1
    · refine ⟨e, h1, h2.imp id fun h3 => ?_⟩
      rw [closure_keeps (o :: l) acc e (by have := he e h1; omega)]
      exact h3
  | o :: l, acc, i + 1, o', b, h, hb, he => by
    rw [List.getElem?_cons_succ] at h
    rw [closure] at hb ⊢
    have hl : (acc ++ [(edges o).foldl (fun s e => s ||| (1 <<< e) ||| acc.getD e 0) 0]).length = acc.length + 1 := by simp
    refine closure_spec l _ i o' b h ?_ ?_
    · rw [hl, show acc.length + 1 + i = acc.length + (i + 1) by omega]; exact hb
    · rw [hl]; intro e h1; have := he e h1; omega

theorem meets_false {a b : List Nat} (h : meets a b = false) : ∀ x ∈ a, x ∉ b := by
  intro x hx hb
  simp only [meets, List.any_eq_false, Bool.not_eq_true] at h
  have := h x hx x hb
  rw [Nat.beq_refl] at this
  cases this

theorem clash_false {a b : Eff} (h : clash a b = false) : (∀ x ∈ a.wr, x ∉ b.fp) ∧ (∀ x ∈ a.wr, x ∉ b.wr) ∧ ∀ x ∈ a.fp, x ∉ b.wr := by
  simp only [clash, Bool.or_eq_false_iff] at h
  exact ⟨meets_false h.1.1, meets_false h.1.2, meets_false h.2⟩

def Pre (ops : Array Oper) (i j : Nat) : Prop := ((closure ops.toList []).getD j 0).testBit i = true

/-! what an operation's kind tells of its effects -/
theorem Every.pure {st : St} {v : SV} : (pure1 st v).Every (fun u => u.fp = [] ∧ u.wr = [] ∧ u.nx = st.nx) := ⟨rfl, rfl, rfl⟩

theorem still_ev {d : Bool} {G : Ctx} {call : CallF} {st : St} {o : Oper} (h : stillOp o = true) : (evOp G call d st o).Every (fun u => u.fp = [] ∧ u.wr = [] ∧ u.nx = st.nx) := by
  unfold evOp
  split <;> (try (simp only [stillOp, *] at h; cases h; done)) <;> repeat' (first
    | exact Every.pure | trivial
    | (simp only [stillOp, *] at h; cases h; done)
    | refine T.Every.needR (fun _ => ?_) | refine T.Every.brR (fun _ => ?_) (fun _ => ?_)
    | refine T.Every.bindR (fun _ _ => ?_)
    | (unfold evBuiltin) | (unfold split)
    | split | dsimp only)

theorem reads_ev {d : Bool} {G : Ctx} {call : CallF} {st : St} {o : Oper} (h : readsOp o = true) : (evOp G call d st o).Every (fun u => u.wr = [] ∧ u.nx = st.nx) := by
  cases hs : stillOp o with
  | true => exact (still_ev hs).mono fun u h => h.2
  | false =>
    unfold evOp
    split <;> (try (simp only [readsOp, *] at h; cases h; done)) <;> repeat' (first
      | exact ⟨rfl, rfl⟩ | trivial
      | (simp only [readsOp, *] at h; cases h; done)
      | refine T.Every.needR (fun _ => ?_) | refine T.Every.brR (fun _ => ?_) (fun _ => ?_)
      | refine T.Every.bindR (fun _ _ => ?_)
      | (unfold evLookup) | (unfold lookS)
      | split | dsimp only)

theorem makes_ev {d : Bool} {G : Ctx} {call : CallF} {st : St} {o : Oper} (h : makesOp o = false) : (evOp G call d st o).Every (fun u => u.nx = st.nx) := by
  cases hs : stillOp o with
  | true => exact (still_ev hs).mono fun u h => h.2.2
  | false =>
    unfold evOp
    split <;> (try (simp only [makesOp, *] at h; cases h; done)) <;> repeat' (first
      | exact rfl | trivial
      | (simp only [makesOp, *] at h; cases h; done)
      | refine T.Every.needR (fun _ => ?_) | refine T.Every.brR (fun _ => ?_) (fun _ => ?_)
      | refine T.Every.bindR (fun _ _ => ?_)
      | (unfold evLookup) | (unfold lookS) | (unfold evMapUpdate)
      | (rw [Heap.putK_eq])
      | split | dsimp only)

theorem evMax_go_lit (mx : Bool) (k : IntKind) : ∀ (l : List SV) (a : Int), (evMax.go mx k a l).Every (fun c => c.refs = [])
  | [], a => rfl
  | .v (.one (.f (.lit (.int _ b)))) :: r, a => by simp only [evMax.go]; exact evMax_go_lit mx k r _
  | .top :: r, a => trivial
  | .tup _ :: r, a => trivial
  | .v (.agg _) :: r, a => trivial
  | .v (.one (.ptr _ _ _ _)) :: r, a => trivial
  | .v (.one (.sl _ _ _ _ _ _ _ _ _)) :: r, a => trivial
  | .v (.one (.mp _)) :: r, a => trivial
  | .v (.one (.fn _ _)) :: r, a => trivial
  | .v (.one (.f (.z0 _))) :: r, a => trivial
  | .v (.one (.f (.fs _ _ _ _))) :: r, a => trivial
  | .v (.one (.f (.fp _))) :: r, a => trivial
  | .v (.one (.f (.lit v))) :: r, a => by
    cases v <;> first | trivial | (simp only [evMax.go]; exact evMax_go_lit mx k r _)

theorem evBin_lit {G : Ctx} {op : BinOp} {t : Nat} {a b : AV} : (evBin G op t a b).Every (fun v => v.cells.flatMap CV.refs = []) := by
  unfold evBin
  repeat' (first
    | trivial
    | (show List.flatMap CV.refs (AV.cells _) = []; simp [AV.cells, CV.refs, CV.bool]; done)
    | refine T.Every.bindR (fun _ _ => ?_)
    | split)

theorem names_ev {d : Bool} {G : Ctx} {call : CallF} {st : St} {o : Oper} (h : namesOp o = false) : (evOp G call d st o).Every (fun u => u.v.refs = []) := by
  have one : ∀ {c : CV}, c.refs = [] → (pure1 st (.one c)).Every (fun u => u.v.refs = []) := fun {c} h => by
    show (SV.one c).refs = []
    simp [SV.one, SV.refs, AV.cells, h]
  unfold evOp
  split <;> (try (simp only [namesOp, *] at h; cases h; done))
  · split
    · exact T.Every.bindR fun v hv => evBin_lit.res hv
    · trivial
  · split
    · rename_i a hv
      refine T.Every.bindR fun c hc => one ?_
      unfold evUn at hc
      split at hc
      · have := T.ret_some hc; subst this; rfl
      · have := T.ret_some hc; subst this; rfl
      · exact (T.bad_some hc).elim
    · trivial
  · rename_i c ho
    split
    · rename_i b hc
      unfold evBuiltin
      split <;> (try (simp only [namesOp, *] at h; cases h; done))
      · refine T.Every.bindR fun c hc => one ?_
        unfold evLen at hc
        split at hc
        · exact (T.bad_some hc).elim
        · split at hc <;> first | exact (T.bad_some hc).elim | (have := T.ret_some hc; subst this; rfl)
      · refine T.Every.bindR fun c hc => one ?_
        unfold evCap at hc
        split at hc
        · exact (T.bad_some hc).elim
        · split at hc <;> first | exact (T.bad_some hc).elim | (have := T.ret_some hc; subst this; rfl)
      · refine T.Every.bindR fun c hc => one ?_
        unfold evMax at hc
        split at hc
        · exact (evMax_go_lit _ _ _ _).res hc
        · exact (T.bad_some hc).elim
      · refine T.Every.bindR fun c hc => one ?_
        unfold evMax at hc
        split at hc
        · exact (evMax_go_lit _ _ _ _).res hc
        · exact (T.bad_some hc).elim
      · trivial
    · rename_i f hc
      simp only [namesOp, *] at h
      cases h
    · trivial

theorem names_reads {o : Oper} (h : namesOp o = false) : readsOp o = true := by
  have : stillOp o = true := by
    unfold namesOp at h
    unfold stillOp
    split at h
    · rename_i ho; simp [ho]
    · rename_i ho; simp [ho]
    · rename_i c ho
      simp only [ho]
      split at h
      · rename_i hc; simp [hc]
      · rename_i hc; simp [hc]
      · rename_i hc; simp [hc]
      · rename_i hc; simp [hc]
      · cases h
    · cases h
  unfold readsOp
  split
  · rfl
  · rfl
  · rfl
  · exact this

structure Plan (P : Program) (G : Ctx) (ops : Array Oper) (N : Nat) (r : List Stp) (st st' : St) : Prop where
  len : r.length = ops.size
  s0 : sAt r st' 0 = st
  ok : ∀ i o x, ops[i]? = some o → r[i]? = some x → StepOk P G ops N i o x ∧ sAt r st' (i + 1) = nextS o x
  pairs : ∀ i j oi oj xi xj, i < j → ops[i]? = some oi → ops[j]? = some oj → r[i]? = some xi → r[j]? = some xj → Pre ops i j ∨ (oi.apart ops oj = true ∧ clash (effS xi) (effS xj) = false)
  back : ∀ j o, ops[j]? = some o → ∀ e ∈ o.after, Region.binds .any e = true → e.on < j
  clos : ∀ j o i, ops[j]? = some o → Pre ops i j → ∃ e ∈ o.after, Region.binds .any e = true ∧ (i = e.on ∨ Pre ops i e.on)
  refs : ∀ k x, r[k]? = some x → ∀ b ∈ (effS x).rf, ∀ i xi, i < k → r[i]? = some xi → xi.s.nx ≤ b → b < xi.u.nx → Pre ops i k

theorem edges_mem {o : Oper} {e : Nat} : e ∈ edges o ↔ ∃ d ∈ o.after, Region.binds .any d = true ∧ d.on = e := by
  simp [edges, and_assoc]

theorem StepOk.still {P : Program} {G : Ctx} {ops : Array Oper} {N k : Nat} {o : Oper} {x : Stp} (h : StepOk P G ops N k o x) (hs : stillOp o = true) : x.u.fp = [] ∧ x.u.wr = [] := by
  rcases h.came with ⟨d, call, st, h1, h2⟩ | ⟨_, h1, h2, _⟩
  · have := (still_ev hs).res h1
    exact ⟨this.1, this.2.1⟩
  · exact ⟨h1, h2⟩

theorem StepOk.reads {P : Program} {G : Ctx} {ops : Array Oper} {N k : Nat} {o : Oper} {x : Stp} (h : StepOk P G ops N k o x) (hs : readsOp o = true) : x.u.wr = [] := by
  rcases h.came with ⟨d, call, st, h1, h2⟩ | ⟨_, _, h2, _⟩
  · exact ((reads_ev hs).res h1).1
  · exact h2

theorem StepOk.makes {P : Program} {G : Ctx} {ops : Array Oper} {N k : Nat} {o : Oper} {x : Stp} (h : StepOk P G ops N k o x) (hs : makesOp o = false) : x.u.nx = x.s.nx := by
  rcases h.came with ⟨d, call, st, h1, h2⟩ | ⟨_, _, _, h2⟩
  · exact ((makes_ev hs).res h1).trans h2
  · exact h2

theorem StepOk.names {P : Program} {G : Ctx} {ops : Array Oper} {N k : Nat} {o : Oper} {x : Stp} (h : StepOk P G ops N k o x) (hs : namesOp o = false) : (effS x).rf = [] := by
  have hw := h.reads (names_reads hs)
  have hv : x.u.v.refs = [] := by
    rcases h.came with ⟨d, call, st, h1, h2⟩ | ⟨h1, _⟩
    · exact (names_ev hs).res h1
    · rw [h1]; rfl
  simp [effS, effOf, hv, hw]

theorem hasPair_mem {l : List (Nat × Nat)} {i j : Nat} (h : hasPair l i j = true) : (i, j) ∈ l := by
  simp only [hasPair, List.any_eq_true, Bool.and_eq_true] at h
  obtain ⟨⟨a, b⟩, hm, h1, h2⟩ := h
  have h1 : a = i := nbeq h1
  have h2 : b = j := nbeq h2
  subst h1 h2
  exact hm

theorem plan_ok {P : Program} {G : Ctx} {ops : Array Oper} {N : Nat} {r : List Stp} {st st' : St} (hr : Run (StepOk P G ops N) 0 ops.toList r st st') {ri : RI} (hri : ri.right ops = true) (h : ri.ok (r.map effS) = true) : Plan P G ops N r st st' := by
  obtain ⟨f1, f2, f3⟩ := hr.facts
  have hzip : ∀ {i : Nat} {o : Oper}, ops[i]? = some o → (o, i) ∈ ops.toList.zipIdx := fun {i o} ho => by
    rw [List.mem_iff_getElem?]
    exact ⟨i, by rw [List.getElem?_zipIdx]; simp [ho]⟩
  simp only [RI.right, Bool.and_eq_true] at hri
  obtain ⟨⟨_, h3⟩, h4⟩ := hri
  simp only [RI.ok, Bool.and_eq_true] at h
  obtain ⟨h5, h6⟩ := h
  have hback : ∀ j o, ops[j]? = some o → ∀ e ∈ o.after, Region.binds .any e = true → e.on < j := by
    intro j o ho e he hb
    rw [List.all_eq_true] at h3
    have := h3 (o, j) (hzip ho)
    simp only [List.all_eq_true] at this
    exact nble (this e.on (edges_mem.2 ⟨e, he, hb, rfl⟩))
  have hlen : r.length = ops.size := by simpa using f1
  have hok : ∀ i o x, ops[i]? = some o → r[i]? = some x → StepOk P G ops N i o x := fun i o x ho hx => by
    have := (f3 i o x (by simpa using ho) hx).1
    rw [Nat.zero_add] at this
    exact this
  -- what the table says of two operations
  have hpair : ∀ i j oi oj, i < j → ops[i]? = some oi → ops[j]? = some oj → Pre ops i j ∨
      (oi.apart ops oj = true ∧ (stillOp oi = true ∨ stillOp oj = true ∨ (readsOp oi = true ∧ readsOp oj = true) ∨ hasPair ri.cl i j = true) ∧ (makesOp oi = false ∨ namesOp oj = false ∨ hasPair ri.al i j = true)) := by
    intro i j oi oj hij hoi hoj
    rw [List.all_eq_true] at h4
    have := h4 (oj, j) (hzip hoj)
    rw [List.all_eq_true] at this
    have := this (oi, i) (hzip hoi)
    simp only [Bool.or_eq_true, Bool.and_eq_true, Bool.not_eq_true'] at this
    rcases this with (h | h) | ⟨⟨h1, h2⟩, h3⟩
    · rw [Nat.ble_eq_true_of_le (by omega)] at h; cases h
    · exact .inl h
    · refine .inr ⟨h1, ?_, ?_⟩
      · rcases h2 with ((h | h) | h) | h
        · exact .inl h
        · exact .inr (.inl h)
        · exact .inr (.inr (.inl h))
        · exact .inr (.inr (.inr h))
      · rcases h3 with (h | h) | h
        · exact .inl h
        · exact .inr (.inl h)
        · exact .inr (.inr h)
  refine ⟨hlen, f2, fun i o x ho hx => ⟨hok i o x ho hx, (f3 i o x (by simpa using ho) hx).2⟩, fun i j oi oj xi xj hij hoi hoj hxi hxj => ?_, hback, fun j o i ho hp => ?_, fun k x hx b hb i xi hik hxi hlo hhi => ?_⟩
  · refine (hpair i j oi oj hij hoi hoj).imp id fun ⟨h1, h2, _⟩ => ⟨h1, ?_⟩
    have nomeet : ∀ l : List Nat, meets l [] = false := fun l => by simp [meets]
    have nomeet' : ∀ l : List Nat, meets [] l = false := fun l => by simp [meets]
    rcases h2 with h2 | h2 | ⟨h2, h3⟩ | h2
    · obtain ⟨e1, e2⟩ := (hok i oi xi hoi hxi).still h2
      simp [clash, effS, effOf, e1, e2, nomeet']
    · obtain ⟨e1, e2⟩ := (hok j oj xj hoj hxj).still h2
      simp [clash, effS, effOf, e1, e2, nomeet]
    · have e1 := (hok i oi xi hoi hxi).reads h2
      have e2 := (hok j oj xj hoj hxj).reads h3
      simp [clash, effS, effOf, e1, e2, nomeet, nomeet']
    · rw [List.all_eq_true] at h5
      have := h5 (i, j) (hasPair_mem h2)
      simp only [List.getElem?_map, hxi, hxj, Option.map_some] at this
      simpa using this
  · have := closure_spec ops.toList [] j o i (by simpa using ho) (by simpa [Pre] using hp) (fun e he => by
      obtain ⟨d, h1, h2, rfl⟩ := edges_mem.1 he
      simpa using hback j o ho d h1 h2)
    obtain ⟨e, he, h⟩ := this
    obtain ⟨d, h1, h2, rfl⟩ := edges_mem.1 he
    exact ⟨d, h1, h2, h⟩
  · have hk : k < ops.size := by rw [← hlen]; exact (List.getElem?_eq_some_iff.1 hx).1
    have hi : i < ops.size := by omega
    have hok' : ops[k]? = some ops[k] := by simp [hk]
    have hoi' : ops[i]? = some ops[i] := by simp [hi]
    rcases hpair i k ops[i] ops[k] hik hoi' hok' with h | ⟨_, _, h⟩
    · exact h
    · exfalso
      rcases h with h | h | h
      · have := (hok i _ xi hoi' hxi).makes h
        omega
      · rw [(hok k _ x hok' hx).names h] at hb
        cases hb
      · rw [List.all_eq_true] at h6
        have := h6 (i, k) (hasPair_mem h)
        simp only [List.getElem?_map, hxi, hx, Option.map_some, List.all_eq_true] at this
        have := this b hb
        simp only [Bool.not_eq_true', Bool.and_eq_false_iff, effS, effOf] at this
        rcases this with h1 | h1
        · rw [Nat.ble_eq_true_of_le hlo] at h1; cases h1
        · rw [Nat.ble_eq_true_of_le (by omega)] at h1; cases h1

end Go.Proofs.YtpidkmegakdohaaGreat.Kn
