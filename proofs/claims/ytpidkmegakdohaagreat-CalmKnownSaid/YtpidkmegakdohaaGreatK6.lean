/- The engine, part 6: more operations. -/
import Derived.Test.YtpidkmegakdohaaGreatK5
namespace Go.Proofs.YtpidkmegakdohaaGreat.Kn
open Go
set_option linter.unusedVariables false
set_option linter.unusedSimpArgs false

section ops
variable {P : Program} {G : Ctx} (hG : CtxOk P G) {call : CallF} {draw : Bool} {st : St} {o : Oper} {u : Out}

theorem ofCells_sub {f : Fn} {nx : Nat} {z : Z} {agg : Bool} {l : List CV} {x : AV} (h : ofCells agg l = some x) : x.cells = l := by
  unfold ofCells at h
  split at h
  · simp only [Option.some.injEq] at h; subst h; rfl
  · split at h
    · simp only [Option.some.injEq] at h; subst h; rfl
    · cases h

include hG

theorem op_build_struct {t : Nat} {parts : Array (Nat × Operand)} (ho : o.op = .build t parts) {i : TI} (hi : G.ti t = some i) {ps : List (Nat × List CV)} (hp : partsOf st parts.toList = some ps)
    {fs : List (Nat × Nat × Nat × Bool)} (hk : i.kind = .struct fs) {l : List CV} (hf : fill (fun k => (fs[k]?).map fun f => (f.1, f.2.1)) (zeros i) ps = some l) (h : (pure1 st (.v (.agg l))).res = some u) : OpOk P o st u := by
  have hT := hG.ti t i hi
  have := T.ret_some h
  subst this
  refine OpOk.pure fun f z w a ht => ?_
  obtain ⟨d, h1, h2, _, h0⟩ := hT.run_und w
  obtain ⟨flds, rfl, h3⟩ := kindOf_struct (h2.trans hk)
  obtain ⟨zv, h4, h5⟩ := hT.run_zero w
  have hpl : (flds.mapM fun f => (do let s ← sizeOf f.type; pure (f.offset, s) : Sem (Nat × Nat))).run P w = .ok (fs.map fun f => (f.1, f.2.1)).toArray w := by
    have key : ∀ (fl : List Field) (l : List (Nat × Nat × Nat × Bool)), fieldRows P fl = some l → (fl.mapM fun f => (do let s ← sizeOf f.type; pure (f.offset, s) : Sem (Nat × Nat))).run P w = .ok (l.map fun f => (f.1, f.2.1)) w := by
      intro fl
      induction fl with
      | nil => intro l h; simp [fieldRows] at h; subst h; rfl
      | cons g fl ih =>
        intro l h
        simp only [fieldRows] at h
        split at h
        · rename_i y q e1 e2
          simp only [Option.some.injEq] at h
          subst h
          obtain ⟨inf, dd, i1, i2, i3⟩ := fieldRow_info e1
          have hs : (sizeOf g.type).run P w = .ok inf.size w := by simp [sizeOf, typeInfo, Sem.run_bind, Result.andThen, i1]
          simp only [List.mapM_cons, Sem.run_bind, hs, Result.andThen_ok, Sem.run_pure, ih q e2, List.map_cons]
          rw [i3]
        · cases h
    rw [Array.mapM_eq_mapM_toList]
    have e : ∀ (m : Sem (List (Nat × Nat))), (List.toArray <$> m).run P w = (m.run P w).andThen fun a w => .ok a.toArray w := fun m => by
      show (m >>= (Pure.pure ∘ List.toArray)).run P w = _
      rw [Sem.run_bind]
      rfl
    rw [e, key flds.toList fs h3]
    rfl
  obtain ⟨cs', e1, e2⟩ := fill_ok (z := z) ps _ (zeros i) l zv.cells hf (partsOf_ok ht parts.toList ps hp) (by rw [h5]; exact RL.lits hT.one)
  refine ⟨.agg cs', ?_, cs', rfl, e2⟩
  simp only [execOp, ho]
  refine run_v ?_
  simp only [Instr.build, Sem.run_bind, h4, Result.andThen_ok, h1, hpl]
  have : (fun x : Nat => (fs.map fun f => (f.1, f.2.1)).toArray[x]?) = fun k => (fs[k]?).map fun f => (f.1, f.2.1) := by
    funext k; simp
  rw [this]
  have hpt : (parts.map fun x => (x.1, a.eval x.2)).toList = parts.toList.map fun x => (x.1, a.eval x.2) := by simp
  rw [show (Array.map (fun (i, x) => (i, a.eval x)) parts) = parts.map fun x => (x.1, a.eval x.2) from rfl, hpt, e1]
  rfl

theorem op_build_array {t : Nat} {parts : Array (Nat × Operand)} (ho : o.op = .build t parts) {i : TI} (hi : G.ti t = some i) {ps : List (Nat × List CV)} (hp : partsOf st parts.toList = some ps)
    {n e : Nat} (hk : i.kind = .array n e) {ei : TI} (he : G.ti e = some ei) {l : List CV} (hf : fill (fun k => some (k * ei.size, ei.size)) (zeros i) ps = some l) (h : (pure1 st (.v (.agg l))).res = some u) : OpOk P o st u := by
  have hT := hG.ti t i hi
  have hE := hG.ti e ei he
  have := T.ret_some h
  subst this
  refine OpOk.pure fun f z w a ht => ?_
  obtain ⟨d, h1, h2, _, h0⟩ := hT.run_und w
  have := kindOf_array (h2.trans hk)
  subst this
  obtain ⟨zv, h4, h5⟩ := hT.run_zero w
  obtain ⟨cs', e1, e2⟩ := fill_ok (z := z) ps _ (zeros i) l zv.cells hf (partsOf_ok ht parts.toList ps hp) (by rw [h5]; exact RL.lits hT.one)
  refine ⟨.agg cs', ?_, cs', rfl, e2⟩
  simp only [execOp, ho]
  refine run_v ?_
  simp only [Instr.build, Sem.run_bind, h4, Result.andThen_ok, h1, hE.run_sizeOf w]
  have hpt : (parts.map fun x => (x.1, a.eval x.2)).toList = parts.toList.map fun x => (x.1, a.eval x.2) := by simp
  rw [show (Array.map (fun (i, x) => (i, a.eval x)) parts) = parts.map fun x => (x.1, a.eval x.2) from rfl, hpt, e1]
  rfl

omit hG in
theorem repl_zero (zero : Array Value) (n : Nat) (hz : zero.size ≠ 0) : ((Array.range (n * zero.size)).map (zero[· % zero.size]!)).toList = (List.replicate n zero.toList).flatten := by
  simp only [Array.toList_map, Array.toList_range]
  induction n with
  | zero => simp
  | succ n ih =>
    rw [List.replicate_succ', List.flatten_append, ← ih, Nat.add_mul, Nat.one_mul, List.range_add, List.map_append]
    congr 1
    simp only [List.flatten_cons, List.flatten_nil, List.append_nil, List.map_map]
    apply List.ext_getElem?
    intro k
    simp only [List.getElem?_map]
    by_cases hk : k < zero.size
    · rw [List.getElem?_range hk]
      simp only [Option.map_some, Function.comp]
      rw [Nat.mul_comm n, Nat.mul_add_mod, Nat.mod_eq_of_lt hk]
      simp [hk]
    · rw [List.getElem?_eq_none (by simp; omega), List.getElem?_eq_none (by simp; omega)]
      rfl

theorem op_buildSlice {t n : Nat} {parts : Array (Nat × Operand)} (ho : o.op = .buildSlice t n parts) {i : TI} (hi : G.ti t = some i) {ps : List (Nat × List CV)} (hp : partsOf st parts.toList = some ps)
    {e : Nat} (hk : i.kind = .slice e) {ei : TI} (he : G.ti e = some ei) (hn : Nat.ble (n * ei.size) (2 ^ 24) = true) {l : List CV} (hf : fill (fun k => some (k * ei.size, ei.size)) (List.replicate n (zeros ei)).flatten ps = some l)
    (h : (newBlock st l fun b => .one (.sl false b 0 0 0 n n true ei.size)).res = some u) : OpOk P o st u := by
  have hT := hG.ti t i hi
  have hE := hG.ti e ei he
  refine OpOk.block h fun f z w a ht => ?_
  obtain ⟨d, h1, h2, _, h0⟩ := hT.run_und w
  have := kindOf_slice (h2.trans hk)
  subst this
  obtain ⟨zv, h4, h5⟩ := hE.run_zero w
  have hzl : zv.cells.size = ei.size := by rw [← hE.len, ← h5]; rfl
  have hzero : RL f st.nx z (List.replicate n (zeros ei)).flatten (List.replicate n zv.cells.toList).flatten := by
    rw [h5]
    exact (RL.lits hE.one).repl n
  -- the zero cells as the model makes them
  obtain ⟨zc, hz1, hz2⟩ : ∃ zc : Array Value, ((n * ei.size = 0 ∧ zc = #[]) ∨ (n * ei.size ≠ 0 ∧ zc = zv.cells)) ∧ ((Array.range (n * ei.size)).map (zc[· % zc.size]!)).toList = (List.replicate n zv.cells.toList).flatten := by
    by_cases h0 : n * ei.size = 0
    · refine ⟨#[], .inl ⟨h0, rfl⟩, ?_⟩
      rw [h0]
      rcases Nat.mul_eq_zero.1 h0 with rfl | h0
      · simp
      · have : zv.cells.toList = [] := by rw [← List.length_eq_zero_iff]; simpa using hzl.trans h0
        simp [this]
    · refine ⟨zv.cells, .inr ⟨h0, rfl⟩, ?_⟩
      rw [← hzl]
      exact repl_zero zv.cells n (by rw [hzl]; intro h; simp [h] at h0)
  obtain ⟨cs', e1, e2⟩ := fill_ok (z := z) ps _ _ l ((Array.range (n * ei.size)).map (zc[· % zc.size]!)) hf (partsOf_ok ht parts.toList ps hp) (by rw [hz2]; exact hzero)
  refine ⟨cs', e, .slice (some ⟨w.heap.size, 0, none⟩) n n, ?_, e2, ?_⟩
  · simp only [execOp, ho]
    refine run_v ?_
    have hle : ¬ n * ei.size > 2 ^ 24 := by have := nble hn; omega
    have hpt : (parts.map fun x => (x.1, a.eval x.2)).toList = parts.toList.map fun x => (x.1, a.eval x.2) := by simp
    simp only [Instr.buildSlice, Sem.run_bind, Result.andThen_ok, h1, hE.run_sizeOf w]
    rw [if_neg hle]
    rw [show (Array.map (fun (i, x) => (i, a.eval x)) parts) = parts.map fun x => (x.1, a.eval x.2) from rfl]
    rcases hz1 with ⟨h0, rfl⟩ | ⟨h0, rfl⟩
    · rw [if_pos h0]
      simp only [Sem.run_bind, Sem.run_pure, Result.andThen_ok]
      rw [hpt, e1]
      simp only [Sem.run_bind, run_newRow, Result.andThen_ok, Sem.run_pure]
    · rw [if_neg h0]
      simp only [Sem.run_bind, h4, Sem.run_pure, Result.andThen_ok]
      rw [hpt, e1]
      simp only [Sem.run_bind, run_newRow, Result.andThen_ok, Sem.run_pure]
  · refine ⟨Nat.lt_succ_self _, (fun h => by cases h), fun _ => ⟨n, by simp [ad, upd_same], Nat.le_refl _, Nat.le_refl _, fun _ => rfl, ?_⟩⟩
    rw [upd_same]
    have hlen : cs'.size = n * ei.size := by
      have h1 := e2.1
      have : ∀ (place : Nat → Option (Nat × Nat)) (ps : List (Nat × List CV)) (l l' : List CV), fill place l ps = some l' → l'.length = l.length := by
        intro place ps
        induction ps with
        | nil => intro l l' h; simp only [fill, Option.some.injEq] at h; rw [h]
        | cons p ps ih =>
          intro l l' h
          obtain ⟨k, v⟩ := p
          simp only [fill] at h
          split at h
          · cases h
          · split at h
            · rw [ih _ _ h, setRange_length]
            · cases h
      rw [this _ _ _ _ hf] at h1
      have h2 := hzero.1
      rw [h2] at h1
      have h3 : (List.replicate n zv.cells.toList).flatten.length = n * ei.size := by simp [hzl]
      rw [h3] at h1
      simpa using h1.symm
    simp [hlen]

theorem op_field {t k : Nat} {x : Operand} (ho : o.op = .field t x k) {l : List CV} (hv : st.val x = .v (.agg l)) {v : AV} (hf : evField G t l k = some v) (h : (pure1 st (.v v)).res = some u) : OpOk P o st u := by
  have := T.ret_some h
  subst this
  refine OpOk.pure fun f z w a ht => ?_
  have hx := val_ok ht x
  rw [hv] at hx
  obtain ⟨cs, hx, hl⟩ := hx
  unfold evField at hf
  split at hf
  · rename_i tsz tby tze fs tag teq hti
    have hT := hG.ti t _ hti
    obtain ⟨d, h1, h2, _, h0⟩ := hT.run_und w
    obtain ⟨flds, rfl, h3⟩ := kindOf_struct h2
    split at hf
    · rename_i off size ty agg hk
      dsimp only at hf
      split at hf
      · rename_i hlen
        obtain ⟨g, hg, hfr⟩ := fieldRows_get flds.toList fs h3 k _ hk
        obtain ⟨inf, dd, i1, i2, i3⟩ := fieldRow_info hfr
        simp only [Prod.mk.injEq] at i3
        obtain ⟨rfl, rfl, rfl, rfl⟩ := i3
        have hs : (sizeOf g.type).run P w = .ok inf.size w := by simp [sizeOf, typeInfo, Sem.run_bind, Result.andThen, i1]
        have hagg : (isAgg g.type).run P w = .ok (isAggD dd) w := by cases dd <;> simp [isAgg, underlying, Sem.run_bind, Result.andThen, i2, isAggD]
        obtain ⟨q, e1, e2⟩ := part_ok hl w hs hagg (nbeq hlen) hf
        refine ⟨q, ?_, e2⟩
        simp only [execOp, ho, hx]
        refine run_v ?_
        have hg' : flds[k]? = some g := by simpa using hg
        simp only [Instr.field, Sem.run_bind, h1, Result.andThen_ok, hg', asAgg, Sem.run_pure, e1]
      · cases hf
    · cases hf
  · cases hf

omit hG in
theorem fieldPlace_ok {g : Field} {inf : TypeInfo} (hi : P.info? g.type = some inf) (hs : inf.size ≠ 0) (ad : Addr) (w : World) : (fieldPlace ad g).run P w = .ok (ad.add g.offset) w := by
  simp [fieldPlace, sizeOf, typeInfo, Sem.run_bind, Result.andThen, hi, hs]

theorem op_fieldAddr {t k : Nat} {x : Operand} (ho : o.op = .fieldAddr t x k) {i : TI} (hi : G.ti t = some i) {fs : List (Nat × Nat × Nat × Bool)} (hk : i.kind = .struct fs) {v : CV} (hv : st.val x = .v (.one v))
    {off size ty : Nat} {agg : Bool} (hf : fs[k]? = some (off, size, ty, agg))
    (h : (match Nat.beq size 0, v with | false, .ptr b m a j => pure1 st (.one (.ptr b m a (j + off))) | false, .f (.fp l) => pure1 st (.one (.f (.fp (l.drop off)))) | _, _ => .bad).res = some u) : OpOk P o st u := by
  have hT := hG.ti t i hi
  have common : ∀ (w : World), ∃ (flds : Array Field) (g : Field) (inf : TypeInfo), (underlying t).run P w = .ok (.struct flds) w ∧ flds[k]? = some g ∧ P.info? g.type = some inf ∧ off = g.offset ∧ size = inf.size := by
    intro w
    obtain ⟨d, h1, h2, _, h0⟩ := hT.run_und w
    obtain ⟨flds, rfl, h3⟩ := kindOf_struct (h2.trans hk)
    obtain ⟨g, hg, hfr⟩ := fieldRows_get flds.toList fs h3 k _ hf
    obtain ⟨inf, dd, i1, i2, i3⟩ := fieldRow_info hfr
    simp only [Prod.mk.injEq] at i3
    exact ⟨flds, g, inf, h1, by simpa using hg, i1, i3.1, i3.2.1⟩
  split at h
  · rename_i b m c j hz
    have := T.ret_some h
    subst this
    refine OpOk.pure fun f z w a ht => ?_
    have hx := val_ok ht x
    rw [hv] at hx
    obtain ⟨hb, hx⟩ := hx
    obtain ⟨flds, g, inf, h1, h2, h3, rfl, rfl⟩ := common w
    have hs : inf.size ≠ 0 := fun h => by rw [h] at hz; cases hz
    refine ⟨.pointer (some (ad f b m c (j + g.offset))), ?_, hb, rfl⟩
    simp only [execOp, ho, hx]
    refine run_v ?_
    simp only [Instr.fieldAt, Instr.sureAddr, Sem.run_bind, h1, Result.andThen_ok, h2, Sem.run_pure, fieldPlace_ok h3 hs, ad_add]
  · rename_i l hz
    have := T.ret_some h
    subst this
    refine OpOk.pure fun f z w a ht => ?_
    have hx := val_ok ht x
    rw [hv] at hx
    obtain ⟨flds, g, inf, h1, h2, h3, rfl, rfl⟩ := common w
    have hs : inf.size ≠ 0 := fun h => by rw [h] at hz; cases hz
    generalize hax : a.eval x = ax at hx
    cases hx with
    | fp _ kk o' gg e1 e2 =>
      refine ⟨.pointer (some ⟨kk, o' + g.offset, none⟩), ?_, RF.fp _ kk (o' + g.offset) (fun q => gg (g.offset + q)) (fun q hq => ?_) (fun q y hy => ?_)⟩
      · simp only [execOp, ho, hax]
        refine run_v ?_
        simp only [Instr.fieldAt, Instr.sureAddr, Sem.run_bind, h1, Result.andThen_ok, h2, Sem.run_pure, fieldPlace_ok h3 hs]
        have : (⟨kk, o', none⟩ : Addr).add g.offset = ⟨kk, o' + g.offset, none⟩ := by unfold Addr.add; split <;> simp_all
        rw [this]
      · simp only [List.length_drop] at hq
        have := e1 (g.offset + q) (by omega)
        rwa [← Nat.add_assoc] at this
      · rw [List.getElem?_drop] at hy
        exact e2 _ y hy
  · exact (T.bad_some h).elim

omit hG in
theorem op_nilCheck {x : Operand} (ho : o.op = .nilCheck x) {v : CV} (hv : st.val x = .v (.one v))
    (h : (match v with | .ptr b m a j => pure1 st (.one (.ptr b m a j)) | .f (.fp l) => pure1 st (.one (.f (.fp l))) | .fn g c => pure1 st (.one (.fn g c)) | _ => .bad).res = some u) : OpOk P o st u := by
  split at h
  · have := T.ret_some h
    subst this
    refine OpOk.pure fun f z w a ht => ?_
    have hx := val_ok ht x
    rw [hv] at hx
    refine ⟨a.eval x, ?_, hx⟩
    obtain ⟨hb, hx⟩ := hx
    simp [execOp, ho, hx]
  · have := T.ret_some h
    subst this
    refine OpOk.pure fun f z w a ht => ?_
    have hx := val_ok ht x
    rw [hv] at hx
    refine ⟨a.eval x, ?_, hx⟩
    generalize hax : a.eval x = ax at hx
    cases hx
    simp [execOp, ho, hax]
  · have := T.ret_some h
    subst this
    refine OpOk.pure fun f z w a ht => ?_
    have hx := val_ok ht x
    rw [hv] at hx
    refine ⟨a.eval x, ?_, hx⟩
    obtain ⟨hx, hb⟩ := hx
    simp [execOp, ho, hx]
  · exact (T.bad_some h).elim

theorem op_binOp {op : BinOp} {t t' : Nat} {x y : Operand} (ho : o.op = .binOp op t x y t') {p q : AV} (hp : st.val x = .v p) (hq : st.val y = .v q) (h : ((evBin G op t p q).bind fun v => pure1 st (.v v)).res = some u) : OpOk P o st u := by
  obtain ⟨r, hr, h⟩ := T.bind_some h
  have := T.ret_some h
  subst this
  refine OpOk.pure fun f z w a ht => ?_
  have hX := val_ok ht x
  have hY := val_ok ht y
  rw [hp] at hX
  rw [hq] at hY
  obtain ⟨v, e1, e2⟩ := evBin_ok hG hr hX hY x y w
  refine ⟨v, ?_, e2⟩
  simp only [execOp, ho]
  exact run_v e1

omit hG in
theorem op_unOp {op : UnOp} {t : Nat} {x : Operand} (ho : o.op = .unOp op t x) {p : CV} (hp : st.val x = .v (.one p)) (h : ((evUn op p).bind fun v => pure1 st (.one v)).res = some u) : OpOk P o st u := by
  obtain ⟨r, hr, h⟩ := T.bind_some h
  have := T.ret_some h
  subst this
  refine OpOk.pure fun f z w a ht => ?_
  have hX := val_ok ht x
  rw [hp] at hX
  obtain ⟨v, e1, e2⟩ := evUn_ok (P := P) hr hX w
  refine ⟨v, ?_, e2⟩
  simp only [execOp, ho]
  exact run_v e1

end ops
end Go.Proofs.YtpidkmegakdohaaGreat.Kn
