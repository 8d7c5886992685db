/- The engine, part 5: operations one by one (but slice expressions, the builtins, calls). -/
import Derived.Test.YtpidkmegakdohaaGreatK4
namespace Go.Proofs.YtpidkmegakdohaaGreat.Kn
open Go
set_option linter.unusedVariables false
set_option linter.unusedSimpArgs false

def Sx (fp wr : List Nat) : Nat → Prop := fun b => b ∈ fp ∨ b ∈ wr

/-- an operation comes to 'u' -/
def OpOk (P : Program) (o : Oper) (st : St) (u : Out) : Prop :=
  ∀ (f : Fn) (z : Z) (w : World) (a : Act), TR f st.nx z st.sl a.tmps → Rel (Sx u.fp u.wr) f st.nx z w st.H → (∀ b, st.nx ≤ b → ¬ (st.H.get b).live) →
    ∀ (K : Act → World → Prop) (Q : Exit → Act → World → Prop),
      (∀ f' z' w' v', Post (Sx u.fp u.wr) f st.nx z w st.H f' u.nx z' w' u.H u.esc → RS f' u.nx z' u.v v' → K (a.put o.dst v') w') → o.wp P a w K Q

theorem wp_value {P : Program} {o : Oper} {a : Act} {w w' : World} {K : Act → World → Prop} {Q : Exit → Act → World → Prop} {v : Value}
    (h : (execOp a.eval o).run P w = .ok (.value v) w') (hk : K (a.put o.dst v) w') : o.wp P a w K Q := by
  unfold Oper.wp; rw [h]; exact hk

theorem wp_skip' {P : Program} {o : Oper} {a : Act} {w w' : World} {K : Act → World → Prop} {Q : Exit → Act → World → Prop}
    (h : (execOp a.eval o).run P w = .ok .skip w') (hk : K (a.put o.dst undef) w') : o.wp P a w K Q := by
  unfold Oper.wp; rw [h]; exact hk

theorem run_v {P : Program} {w w' : World} {S : Sem Value} {v : Value} (h : S.run P w = .ok v w') : (do let x ← S; pure (Next.value x) : Sem Next).run P w = .ok (.value v) w' := by
  rw [Sem.run_bind, h]; rfl

theorem run_u {P : Program} {w w' : World} {S : Sem Unit} (h : S.run P w = .ok () w') : (do S; pure Next.skip : Sem Next).run P w = .ok .skip w' := by
  rw [Sem.run_bind, h]; rfl

/-- what makes a value of values -/
theorem OpOk.pure {P : Program} {o : Oper} {st : St} {sv : SV} (h : ∀ (f : Fn) (z : Z) (w : World) (a : Act), TR f st.nx z st.sl a.tmps → ∃ v, (execOp a.eval o).run P w = .ok (.value v) w ∧ RS f st.nx z sv v) :
    OpOk P o st ⟨sv, st.H, st.nx, false, [], []⟩ := by
  intro f z w a ht hr hno K Q hk
  obtain ⟨v, h1, h2⟩ := h f z w a ht
  exact wp_value h1 (hk f z w v (Post.refl hr hno) h2)

theorem one_cells {x : CV} : (AV.one x).cells = [x] := rfl

theorem run_loadVar' {P : Program} {f : Fn} {nx : Nat} {z : Z} {t : Nat} {i : TI} (hT : TIOk P t i) {l : List CV} {vs : List Value} (hl : RL f nx z l vs) (hn : vs.length = i.size) {x : AV} (hx : ofCells i.agg l = some x)
    (w : World) (ad : Addr) (hc : ∀ (k : Nat) v, vs[k]? = some v → w.cell? (ad.add k) = some v) : ∃ v, (loadVar t ad).run P w = .ok v w ∧ RA f nx z x v := by
  have h1 := hT.run_isAgg w
  have h2 := hT.run_sizeOf w
  cases ha : i.agg with
  | true =>
    rw [ha] at h1 hx
    simp only [ofCells, Option.some.injEq] at hx
    subst hx
    have h3 := run_loadCells_list (P := P) w ad vs hc
    rw [hn] at h3
    exact ⟨.agg vs.toArray, by simp [loadVar, Sem.run_bind, Result.andThen, h1, h2, h3], _, rfl, by simpa using hl⟩
  | false =>
    rw [ha] at h1 hx
    simp only [ofCells] at hx
    split at hx
    · rename_i y
      simp only [Option.some.injEq] at hx
      subst hx
      have hlen := hl.1
      match vs, hlen with
      | [v], _ =>
        have h3 := hc 0 v rfl
        rw [show ad.add 0 = ad by unfold Addr.add; simp] at h3
        exact ⟨v, by simp [loadVar, Sem.run_bind, Result.andThen, h1, h3], hl.2 0 y v rfl rfl⟩
    · cases hx

theorem RL.lits {f : Fn} {nx : Nat} {z : Z} {l : List Value} (h : l.all Value.oneCell' = true) : RL f nx z (l.map fun v => .f (.lit v)) l := by
  refine ⟨by simp, fun i x v hx hv => ?_⟩
  simp only [List.getElem?_map, hv, Option.map_some, Option.some.injEq] at hx
  subst hx
  rw [List.all_eq_true] at h
  exact RF.lit v (h v (List.mem_of_getElem? hv))

theorem RL.nil {f : Fn} {nx : Nat} {z : Z} : RL f nx z [] [] := ⟨rfl, fun i x v h => by simp at h⟩

theorem RL.append {f : Fn} {nx : Nat} {z : Z} {a b : List CV} {u v : List Value} (h : RL f nx z a u) (k : RL f nx z b v) : RL f nx z (a ++ b) (u ++ v) := by
  refine ⟨by simp [h.1, k.1], fun i x y hx hy => ?_⟩
  rcases Nat.lt_or_ge i a.length with hi | hi
  · rw [List.getElem?_append_left hi] at hx
    rw [List.getElem?_append_left (by rw [← h.1]; exact hi)] at hy
    exact h.2 i x y hx hy
  · rw [List.getElem?_append_right hi] at hx
    rw [List.getElem?_append_right (by rw [← h.1]; exact hi), ← h.1] at hy
    exact k.2 _ x y hx hy

theorem RL.repl {f : Fn} {nx : Nat} {z : Z} {a : List CV} {u : List Value} (h : RL f nx z a u) : ∀ n, RL f nx z (List.replicate n a).flatten (List.replicate n u).flatten
  | 0 => by simpa using RL.nil
  | n + 1 => by simp only [List.replicate_succ, List.flatten_cons]; exact h.append (RL.repl h n)

theorem setRange_RL {f : Fn} {nx : Nat} {z : Z} : ∀ (l : List CV) (vs : List Value) (j : Nat) (a : List CV) (b : List Value), RL f nx z l vs → RL f nx z a b → RL f nx z (setRange l j a) (setRange vs j b) := by
  intro l vs j a b h k
  refine ⟨by rw [setRange_length, setRange_length, h.1], fun i x v hx hv => ?_⟩
  rcases setRange_get l j a i x hx with ⟨q, hq, hq1⟩ | ⟨hq1, hq2⟩ <;> rcases setRange_get vs j b i v hv with ⟨p, hp, hp1⟩ | ⟨hp1, hp2⟩
  · have : p = q := by omega
    subst this
    exact k.2 _ x v hq1 hp1
  · exact absurd hq (hp2 q (by rw [← k.1]; exact (List.getElem?_eq_some_iff.1 hq1).1))
  · exact absurd hp (hq2 p (by rw [k.1]; exact (List.getElem?_eq_some_iff.1 hp1).1))
  · exact h.2 i x v hq1 hp1

theorem foldl_set (off : Nat) : ∀ (vs : List Value) (k : Nat) (c : Array Value), ((vs.zipIdx k).foldl (fun (cs : Array Value) (p : Value × Nat) => cs.setIfInBounds (off + p.2) p.1) c).toList = setRange c.toList (off + k) vs
  | [], k, c => by
    simp only [List.zipIdx_nil, List.foldl_nil]
    have : ∀ (l : List Value) (j : Nat), setRange l j [] = l := by
      intro l
      induction l with
      | nil => intro j; simp [setRange]
      | cons x r ih => intro j; cases j <;> simp [setRange, ih]
    rw [this]
  | v :: vs, k, c => by
    simp only [List.zipIdx_cons, List.foldl_cons]
    rw [foldl_set off vs (k + 1), Array.toList_setIfInBounds]
    have : ∀ (l : List Value) (j : Nat), setRange (l.set j v) (j + 1) vs = setRange l j (v :: vs) := by
      intro l
      induction l with
      | nil => intro j; simp [setRange]
      | cons x r ih =>
        intro j
        cases j with
        | zero => simp [setRange]
        | succ j => simp [setRange, ih]
    rw [← this]
    rfl

def PartsOk (f : Fn) (nx : Nat) (z : Z) (ps : List (Nat × List CV)) (qs : List (Nat × Value)) : Prop :=
  ps.length = qs.length ∧ ∀ (i : Nat) p q, ps[i]? = some p → qs[i]? = some q → p.1 = q.1 ∧ RL f nx z p.2 q.2.cells.toList

theorem fill_ok {f : Fn} {nx : Nat} {z : Z} {place : Nat → Option (Nat × Nat)} : ∀ (ps : List (Nat × List CV)) (qs : List (Nat × Value)) (l l' : List CV) (cs : Array Value), fill place l ps = some l' → PartsOk f nx z ps qs → RL f nx z l cs.toList →
    ∃ cs', Instr.fill place cs qs = some cs' ∧ RL f nx z l' cs'.toList
  | [], [], l, l', cs, h, hp, hl => by
    simp only [fill, Option.some.injEq] at h
    subst h
    exact ⟨cs, rfl, hl⟩
  | [], _ :: _, _, _, _, _, hp, _ => by have := hp.1; simp at this
  | _ :: _, [], _, _, _, _, hp, _ => by have := hp.1; simp at this
  | (i, v) :: ps, (k, u) :: qs, l, l', cs, h, hp, hl => by
    obtain ⟨h1, h2⟩ := hp.2 0 _ _ rfl rfl
    simp only at h1 h2
    subst h1
    simp only [fill] at h
    split at h
    · cases h
    · rename_i off size hpl
      split at h
      · rename_i hc
        rw [Bool.and_eq_true] at hc
        have c1 := nbeq hc.1
        have c2 := nble hc.2
        have hlen : u.cells.size = v.length := by rw [h2.1]; rfl
        have hcs : cs.size = l.length := by rw [hl.1]; rfl
        obtain ⟨cs', e1, e2⟩ := fill_ok ps qs (setRange l off v) l' (u.cells.zipIdx.foldl (fun cs (c, j) => cs.setIfInBounds (off + j) c) cs) h ⟨by have := hp.1; simpa using this, fun i p q hi hq => hp.2 (i + 1) p q (by simpa using hi) (by simpa using hq)⟩ (by
          have := foldl_set off u.cells.toList 0 cs
          rw [← Array.foldl_toList, Array.toList_zipIdx]
          rw [this]
          exact setRange_RL _ _ _ _ _ hl h2)
        refine ⟨cs', ?_, e2⟩
        simp only [Instr.fill, hpl]
        rw [if_neg]
        · exact e1
        · simp only [Bool.or_eq_true, decide_eq_true_eq, not_or, ne_eq, bne_iff_ne, Decidable.not_not]
          omega
      · cases h

theorem partsOf_ok {f : Fn} {z : Z} {st : St} {a : Act} (h : TR f st.nx z st.sl a.tmps) : ∀ (l : List (Nat × Operand)) (ps : List (Nat × List CV)), partsOf st l = some ps → PartsOk f st.nx z ps (l.map fun x => (x.1, a.eval x.2))
  | [], ps, hp => by
    simp only [partsOf, Option.some.injEq] at hp
    subst hp
    exact ⟨rfl, fun i p q hi => by simp at hi⟩
  | (i, x) :: r, ps, hp => by
    simp only [partsOf] at hp
    split at hp
    · rename_i v q hv hq
      simp only [Option.some.injEq] at hp
      subst hp
      have ih := partsOf_ok h r q hq
      have hx := val_ok h x
      rw [hv] at hx
      refine ⟨by simp [ih.1], fun k p u hp hu => ?_⟩
      cases k with
      | zero =>
        simp only [List.getElem?_cons_zero, Option.some.injEq, List.map_cons] at hp hu
        subst hp
        subst hu
        exact ⟨rfl, hx.cells⟩
      | succ k => exact ih.2 k p u (by simpa using hp) (by simpa using hu)
    · cases hp

/-- a new block of cells -/
theorem OpOk.block {P : Program} {o : Oper} {st : St} {l : List CV} {v : Nat → SV} {u : Out} (hu : (newBlock st l v).res = some u)
    (h : ∀ (f : Fn) (z : Z) (w : World) (a : Act), TR f st.nx z st.sl a.tmps → ∃ (cs : Array Value) (e : TypeId) (val : Value), (execOp a.eval o).run P w = .ok (.value val) (w.alloc (.cells cs e)) ∧ RL f st.nx z l cs.toList ∧
      RS (upd f st.nx ⟨w.heap.size, 0, cs.size⟩) (st.nx + 1) z (v st.nx) val) : OpOk P o st u := by
  unfold newBlock at hu
  rw [Heap.putK_eq] at hu
  have := T.ret_some hu
  subst this
  intro f z w a ht hr hno K Q hk
  obtain ⟨cs, e, val, h1, h2, h3⟩ := h f z w a ht
  refine wp_value h1 (hk _ z _ val (Post.alloc hr hno (.cells l) cs e id h2.all ?_) h3)
  intro m i j x hx
  simp only [Ob.at] at hx
  split at hx
  · rename_i hz
    obtain ⟨rfl, rfl⟩ := hz
    have hlt : j < cs.toList.length := by rw [← h2.1]; exact (List.getElem?_eq_some_iff.1 hx).1
    refine ⟨cs.toList[j], by simp, h2.2 j x _ hx (List.getElem?_eq_getElem hlt)⟩
  · cases hx

theorem run_newVar {P : Program} (w : World) (t : TypeId) (v : Value) : (newVar t v).run P w = .ok ⟨w.heap.size, 0, none⟩ (w.alloc (.cells v.cells t)) := rfl
theorem run_newRow {P : Program} (w : World) (t : TypeId) (c : Array Value) : (newRow t c).run P w = .ok ⟨w.heap.size, 0, none⟩ (w.alloc (.cells c t)) := rfl

theorem ptr_new {f : Fn} {nx k t : Nat} {z : Z} : RS (upd f nx ⟨k, 0, t⟩) (nx + 1) z (.one (.ptr nx 0 0 0)) (.pointer (some ⟨k, 0, none⟩)) :=
  ⟨Nat.lt_succ_self _, by simp [ad, upd_same]⟩

section ops
variable {P : Program} {G : Ctx} (hG : CtxOk P G) {call : CallF} {draw : Bool} {st : St} {o : Oper} {u : Out}

theorem op_move {x : Operand} (ho : o.op = .move x ∨ o.op = .assign x) (h : (pure1 st (st.val x)).res = some u) : OpOk P o st u := by
  have := T.ret_some h
  subst this
  refine OpOk.pure fun f z w a ht => ⟨a.eval x, ?_, val_ok ht x⟩
  rcases ho with ho | ho <;> simp [execOp, ho]

theorem op_pick {c x y : Operand} (ho : o.op = .pick c x y) (h : (split st c fun t => pure1 st (st.val (match t with | true => x | false => y))).res = some u) : OpOk P o st u := by
  obtain ⟨b, hb, h⟩ := split_some h
  have := T.ret_some h
  subst this
  refine OpOk.pure fun f z w a ht => ?_
  have hc := val_ok ht c
  rw [hb] at hc
  have hc := lit_ok hc
  cases b with
  | true =>
    refine ⟨_, ?_, val_ok (a := a) ht x⟩
    simp only [execOp, ho, hc, asBool]
    simp [Sem.run_bind, Result.andThen]
  | false =>
    refine ⟨_, ?_, val_ok (a := a) ht y⟩
    simp only [execOp, ho, hc, asBool]
    simp [Sem.run_bind, Result.andThen]

include hG

theorem op_alloc {t : Nat} (ho : o.op = .alloc t) {i : TI} (hi : G.ti t = some i) (h : (newBlock st (zeros i) fun b => .one (.ptr b 0 0 0)).res = some u) : OpOk P o st u := by
  have hT := hG.ti t i hi
  refine OpOk.block h fun f z w a ht => ?_
  obtain ⟨zv, h1, h2⟩ := hT.run_zero w
  refine ⟨zv.cells, t, _, ?_, by rw [h2]; exact RL.lits hT.one, ptr_new⟩
  simp only [execOp, ho]
  refine run_v ?_
  simp only [Instr.alloc, Sem.run_bind, h1, Result.andThen_ok, run_newVar]
  rfl

omit hG in
theorem op_box {t : Nat} {x : Operand} (ho : o.op = .box t x) {v : AV} (hv : st.val x = .v v) (h : (newBlock st v.cells fun b => .one (.ptr b 0 0 0)).res = some u) : OpOk P o st u := by
  refine OpOk.block h fun f z w a ht => ?_
  have hx := val_ok ht x
  rw [hv] at hx
  refine ⟨(a.eval x).cells, t, _, ?_, hx.cells, ptr_new⟩
  simp only [execOp, ho]
  refine run_v ?_
  simp only [Instr.box, Sem.run_bind, run_newVar, Result.andThen_ok]
  rfl

theorem op_load {t : Nat} {x : Operand} (ho : o.op = .load t x) {i : TI} (hi : G.ti t = some i) {b m c j : Nat} (hv : st.val x = .v (.one (.ptr b m c j)))
    (h : (((st.H.get b).rd m c j i.size).bind fun l => match ofCells i.agg l with | some v => .ret ⟨.v v, st.H, st.nx, false, [b], []⟩ | none => .bad).res = some u) : OpOk P o st u := by
  have hT := hG.ti t i hi
  obtain ⟨l, hl, h⟩ := T.bind_some h
  split at h
  · rename_i v hv'
    have := T.ret_some h
    subst this
    intro f z w a ht hr hno K Q hk
    have hx := val_ok ht x
    rw [hv] at hx
    obtain ⟨hb, hx⟩ := hx
    have hlive := (Ob.rd_ok hl).2.1
    obtain ⟨_, hok⟩ := hr.own b (.inl (by simp)) hlive
    obtain ⟨vs, h1, h2, h3⟩ := hok.read hl
    obtain ⟨q, h4, h5⟩ := run_loadVar' hT h1 h2 hv' w (ad f b m c j) h3
    refine wp_value (v := q) (w' := w) ?_ (hk f z w q (Post.refl hr hno) h5)
    simp only [execOp, ho, hx]
    refine run_v ?_
    simp only [Instr.loadAt, Instr.sureAddr, Sem.run_bind, Sem.run_pure, Result.andThen_ok, h4]
  · exact (T.bad_some h).elim

theorem op_loadF {t : Nat} {x : Operand} (ho : o.op = .load t x) {i : TI} (hi : G.ti t = some i) {l : List FV} (hv : st.val x = .v (.one (.f (.fp l)))) {v : AV}
    (hlen : Nat.beq (l.take i.size).length i.size = true) (hc : ofCells i.agg ((l.take i.size).map .f) = some v) (h : (pure1 st (.v v)).res = some u) : OpOk P o st u := by
  have hT := hG.ti t i hi
  have := T.ret_some h
  subst this
  intro f z w a ht hr hno K Q hk
  have hx := val_ok ht x
  rw [hv] at hx
  have hlen := nbeq hlen
  generalize hax : a.eval x = ax at hx
  cases hx with
  | fp _ k off g h1 h2 =>
    obtain ⟨vs, e1, e2⟩ := RL.exist (f := f) (nx := st.nx) (z := z) ((l.take i.size).map .f) (fun q v => w.cell? ((⟨k, off, none⟩ : Addr).add q) = some v) (fun q y hy => by
      simp only [List.getElem?_map] at hy
      cases hq : (l.take i.size)[q]? with
      | none => rw [hq] at hy; cases hy
      | some y' =>
        rw [hq] at hy
        simp only [Option.map_some, Option.some.injEq] at hy
        subst hy
        rw [List.getElem?_take] at hq
        split at hq
        · have hlt := (List.getElem?_eq_some_iff.1 hq).1
          refine ⟨g q, ?_, h2 q y' hq⟩
          have := hr.zok _ _ _ (h1 q hlt)
          rw [show (⟨k, off, none⟩ : Addr).add q = ⟨k, off + q, none⟩ by unfold Addr.add; split <;> simp_all]
          exact this
        · cases hq)
    obtain ⟨q, h4, h5⟩ := run_loadVar' hT e1 (by rw [← e1.1]; simpa using hlen) hc w ⟨k, off, none⟩ e2
    refine wp_value (v := q) (w' := w) ?_ (hk f z w q (Post.refl hr hno) h5)
    simp only [execOp, ho, hax]
    refine run_v ?_
    simp only [Instr.loadAt, Instr.sureAddr, Sem.run_bind, Sem.run_pure, Result.andThen_ok, h4]

theorem op_store {t : Nat} {x y : Operand} (ho : o.op = .store t x y) {i : TI} (hi : G.ti t = some i) {b m c j : Nat} (hx : st.val x = .v (.one (.ptr b m c j))) {v : AV} (hy : st.val y = .v v) (hs : Nat.beq v.cells.length i.size = true)
    (h : (((st.H.get b).wr m c j v.cells).bind fun ob => st.H.putK b ob fun H => .ret ⟨.top, H, st.nx, false || v.cells.any (CV.beyond (b + 1)), [b], [b]⟩).res = some u) : OpOk P o st u := by
  have hT := hG.ti t i hi
  obtain ⟨ob, hw, h⟩ := T.bind_some h
  rw [Heap.putK_eq] at h
  have := T.ret_some h
  subst this
  intro f z w a ht hr hno K Q hk
  have hX := val_ok ht x
  have hY := val_ok ht y
  rw [hx] at hX
  rw [hy] at hY
  obtain ⟨hb, hX⟩ := hX
  have hl : (st.H.get b).live := (Ob.wr_ok hw).1
  have hcells := hY.cells
  have hS : Sx [b] [b] b := .inl (by simp)
  obtain ⟨_, hok⟩ := hr.own b hS hl
  obtain ⟨_, _, _, hex, _⟩ := Ob.wr_ok hw
  have hroom : ∀ q, q < (a.eval y).cells.toList.length → c * m + j + q < (f b).t := fun q hq => by
    obtain ⟨e, he⟩ := hex q (by rw [hcells.1]; exact hq)
    have := (hok.cell _ _ _ _ he).1
    omega
  refine wp_skip' (w' := w.setCells (f b).k ((f b).d + (c * m + j)) (a.eval y).cells.toList) ?_ (hk f z _ undef (Post.write hS hr hw hcells hno fun he => ?_) trivial)
  · simp only [execOp, ho, hX]
    refine run_u ?_
    have hz : (a.eval y).cells.size = i.size := by
      have := nbeq hs
      rw [← this, hcells.1]; rfl
    have h1 := hT.run_sizeOf w
    have h2 := run_storeCells_cells (P := P) (f b).k ((f b).d + (c * m + j)) (a.eval y).cells.toList 0 w (fun q hq => by
        have := hok.hasCell (hroom q hq)
        rwa [← Nat.add_assoc] at this) (fun q hq => by
        have := (hok.room _ (hroom q hq)).2
        rwa [← Nat.add_assoc] at this) (fun e he => by
        obtain ⟨q, hq⟩ := List.mem_iff_getElem?.1 he
        have hlt : q < v.cells.length := by rw [hcells.1]; exact (List.getElem?_eq_some_iff.1 hq).1
        exact (hcells.2 q _ e (List.getElem?_eq_getElem hlt) hq).one)
    simp only [Nat.add_zero] at h2
    simp only [Instr.storeAt, Instr.sureAddr, storeVar, Sem.run_bind, Sem.run_pure, Result.andThen_ok, h1]
    rw [if_neg (by simpa using hz)]
    exact h2
  · simp only [Bool.or_eq_false_iff] at he
    exact he.2

end ops

end Go.Proofs.YtpidkmegakdohaaGreat.Kn
