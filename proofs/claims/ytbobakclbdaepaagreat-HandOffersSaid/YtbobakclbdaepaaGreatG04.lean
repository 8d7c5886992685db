/- Texts put together: E6, E7. -/
import Derived.Test.YtbobakclbdaepaaGreatG03
import Derived.IntWalk
/- The engine, part 6: more operations. -/
namespace Go.Proofs.YtbobakclbdaepaaGreat.En
open Go
set_option linter.unusedVariables false
set_option linter.unusedSimpArgs false

section ops
variable {P : Program} {G : Ctx} (hG : CtxOk P G) {call : CallF} {draw : Bool} {st : St} {o : Oper} {u : Out}

theorem ofCells_sub {f : Fn} {nx : Nat} {z : Z} {agg : Bool} {l : List CV} {x : AV} (h : ofCells agg l = some x) : x.cells = l := by
  unfold ofCells at h
  split at h
  · simp only [Option.some.injEq] at h; subst h; rfl
  · split at h
    · simp only [Option.some.injEq] at h; subst h; rfl
    · cases h

include hG

theorem op_build_struct {t : Nat} {parts : Array (Nat × Operand)} (ho : o.op = .build t parts) {i : TI} (hi : G.ti t = some i) {ps : List (Nat × List CV)} (hp : partsOf st parts.toList = some ps)
    {fs : List (Nat × Nat × Nat × Bool)} (hk : i.kind = .struct fs) {l : List CV} (hf : fill (fun k => (fs[k]?).map fun f => (f.1, f.2.1)) (zeros i) ps = some l) (h : (pure1 st (.v (.agg l))).res = some u) : OpOk P o st u := by
  have hT := hG.ti t i hi
  have := T.ret_some h
  subst this
  refine OpOk.pure fun f z w a ht => ?_
  obtain ⟨d, h1, h2, _, h0⟩ := hT.run_und w
  obtain ⟨flds, rfl, h3⟩ := kindOf_struct (h2.trans hk)
  obtain ⟨zv, h4, h5⟩ := hT.run_zero w
  have hpl : (flds.mapM fun f => (do let s ← sizeOf f.type; pure (f.offset, s) : Sem (Nat × Nat))).run P w = .ok (fs.map fun f => (f.1, f.2.1)).toArray w := by
    have key : ∀ (fl : List Field) (l : List (Nat × Nat × Nat × Bool)), fieldRows P fl = some l → (fl.mapM fun f => (do let s ← sizeOf f.type; pure (f.offset, s) : Sem (Nat × Nat))).run P w = .ok (l.map fun f => (f.1, f.2.1)) w := by
      intro fl
      induction fl with
      | nil => intro l h; simp [fieldRows] at h; subst h; rfl
      | cons g fl ih =>
        intro l h
        simp only [fieldRows] at h
        split at h
        · rename_i y q e1 e2
          simp only [Option.some.injEq] at h
          subst h
          obtain ⟨inf, dd, i1, i2, i3⟩ := fieldRow_info e1
          have hs : (sizeOf g.type).run P w = .ok inf.size w := by simp [sizeOf, typeInfo, Sem.run_bind, Result.andThen, i1]
          simp only [List.mapM_cons, Sem.run_bind, hs, Result.andThen_ok, Sem.run_pure, ih q e2, List.map_cons]
          rw [i3]
        · cases h
    rw [Array.mapM_eq_mapM_toList]
    have e : ∀ (m : Sem (List (Nat × Nat))), (List.toArray <$> m).run P w = (m.run P w).andThen fun a w => .ok a.toArray w := fun m => by
      show (m >>= (Pure.pure ∘ List.toArray)).run P w = _
      rw [Sem.run_bind]
      rfl
    rw [e, key flds.toList fs h3]
    rfl
  obtain ⟨cs', e1, e2⟩ := fill_ok (z := z) ps _ (zeros i) l zv.cells hf (partsOf_ok ht parts.toList ps hp) (by rw [h5]; exact RL.lits hT.one)
  refine ⟨.agg cs', ?_, cs', rfl, e2⟩
  simp only [execOp, ho]
  refine run_v ?_
  simp only [Instr.build, Sem.run_bind, h4, Result.andThen_ok, h1, hpl]
  have : (fun x : Nat => (fs.map fun f => (f.1, f.2.1)).toArray[x]?) = fun k => (fs[k]?).map fun f => (f.1, f.2.1) := by
    funext k; simp
  rw [this]
  have hpt : (parts.map fun x => (x.1, a.eval x.2)).toList = parts.toList.map fun x => (x.1, a.eval x.2) := by simp
  rw [show (Array.map (fun (i, x) => (i, a.eval x)) parts) = parts.map fun x => (x.1, a.eval x.2) from rfl, hpt, e1]
  rfl

theorem op_build_array {t : Nat} {parts : Array (Nat × Operand)} (ho : o.op = .build t parts) {i : TI} (hi : G.ti t = some i) {ps : List (Nat × List CV)} (hp : partsOf st parts.toList = some ps)
    {n e : Nat} (hk : i.kind = .array n e) {ei : TI} (he : G.ti e = some ei) {l : List CV} (hf : fill (fun k => some (k * ei.size, ei.size)) (zeros i) ps = some l) (h : (pure1 st (.v (.agg l))).res = some u) : OpOk P o st u := by
  have hT := hG.ti t i hi
  have hE := hG.ti e ei he
  have := T.ret_some h
  subst this
  refine OpOk.pure fun f z w a ht => ?_
  obtain ⟨d, h1, h2, _, h0⟩ := hT.run_und w
  have := kindOf_array (h2.trans hk)
  subst this
  obtain ⟨zv, h4, h5⟩ := hT.run_zero w
  obtain ⟨cs', e1, e2⟩ := fill_ok (z := z) ps _ (zeros i) l zv.cells hf (partsOf_ok ht parts.toList ps hp) (by rw [h5]; exact RL.lits hT.one)
  refine ⟨.agg cs', ?_, cs', rfl, e2⟩
  simp only [execOp, ho]
  refine run_v ?_
  simp only [Instr.build, Sem.run_bind, h4, Result.andThen_ok, h1, hE.run_sizeOf w]
  have hpt : (parts.map fun x => (x.1, a.eval x.2)).toList = parts.toList.map fun x => (x.1, a.eval x.2) := by simp
  rw [show (Array.map (fun (i, x) => (i, a.eval x)) parts) = parts.map fun x => (x.1, a.eval x.2) from rfl, hpt, e1]
  rfl

omit hG in
theorem repl_zero (zero : Array Value) (n : Nat) (hz : zero.size ≠ 0) : ((Array.range (n * zero.size)).map (zero[· % zero.size]!)).toList = (List.replicate n zero.toList).flatten := by
  simp only [Array.toList_map, Array.toList_range]
  induction n with
  | zero => simp
  | succ n ih =>
    rw [List.replicate_succ', List.flatten_append, ← ih, Nat.add_mul, Nat.one_mul, List.range_add, List.map_append]
    congr 1
    simp only [List.flatten_cons, List.flatten_nil, List.append_nil, List.map_map]
    apply List.ext_getElem?
    intro k
    simp only [List.getElem?_map]
    by_cases hk : k < zero.size
    · rw [List.getElem?_range hk]
      simp only [Option.map_some, Function.comp]
      rw [Nat.mul_comm n, Nat.mul_add_mod, Nat.mod_eq_of_lt hk]
      simp [hk]
    · rw [List.getElem?_eq_none (by simp; omega), List.getElem?_eq_none (by simp; omega)]
      rfl

theorem op_buildSlice {t n : Nat} {parts : Array (Nat × Operand)} (ho : o.op = .buildSlice t n parts) {i : TI} (hi : G.ti t = some i) {ps : List (Nat × List CV)} (hp : partsOf st parts.toList = some ps)
    {e : Nat} (hk : i.kind = .slice e) {ei : TI} (he : G.ti e = some ei) (hn : Nat.ble (n * ei.size) (2 ^ 24) = true) {l : List CV} (hf : fill (fun k => some (k * ei.size, ei.size)) (List.replicate n (zeros ei)).flatten ps = some l)
    (h : (newBlock st l fun b => .one (.sl false b 0 0 0 n n true ei.size)).res = some u) : OpOk P o st u := by
  have hT := hG.ti t i hi
  have hE := hG.ti e ei he
  refine OpOk.block h fun f z w a ht => ?_
  obtain ⟨d, h1, h2, _, h0⟩ := hT.run_und w
  have := kindOf_slice (h2.trans hk)
  subst this
  obtain ⟨zv, h4, h5⟩ := hE.run_zero w
  have hzl : zv.cells.size = ei.size := by rw [← hE.len, ← h5]; rfl
  have hzero : RL f st.nx z (List.replicate n (zeros ei)).flatten (List.replicate n zv.cells.toList).flatten := by
    rw [h5]
    exact (RL.lits hE.one).repl n
  -- the zero cells as the model makes them
  obtain ⟨zc, hz1, hz2⟩ : ∃ zc : Array Value, ((n * ei.size = 0 ∧ zc = #[]) ∨ (n * ei.size ≠ 0 ∧ zc = zv.cells)) ∧ ((Array.range (n * ei.size)).map (zc[· % zc.size]!)).toList = (List.replicate n zv.cells.toList).flatten := by
    by_cases h0 : n * ei.size = 0
    · refine ⟨#[], .inl ⟨h0, rfl⟩, ?_⟩
      rw [h0]
      rcases Nat.mul_eq_zero.1 h0 with rfl | h0
      · simp
      · have : zv.cells.toList = [] := by rw [← List.length_eq_zero_iff]; simpa using hzl.trans h0
        simp [this]
    · refine ⟨zv.cells, .inr ⟨h0, rfl⟩, ?_⟩
      rw [← hzl]
      exact repl_zero zv.cells n (by rw [hzl]; intro h; simp [h] at h0)
  obtain ⟨cs', e1, e2⟩ := fill_ok (z := z) ps _ _ l ((Array.range (n * ei.size)).map (zc[· % zc.size]!)) hf (partsOf_ok ht parts.toList ps hp) (by rw [hz2]; exact hzero)
  refine ⟨cs', e, .slice (some ⟨w.heap.size, 0, none⟩) n n, ?_, e2, ?_⟩
  · simp only [execOp, ho]
    refine run_v ?_
    have hle : ¬ n * ei.size > 2 ^ 24 := by have := nble hn; omega
    have hpt : (parts.map fun x => (x.1, a.eval x.2)).toList = parts.toList.map fun x => (x.1, a.eval x.2) := by simp
    simp only [Instr.buildSlice, Sem.run_bind, Result.andThen_ok, h1, hE.run_sizeOf w]
    rw [if_neg hle]
    rw [show (Array.map (fun (i, x) => (i, a.eval x)) parts) = parts.map fun x => (x.1, a.eval x.2) from rfl]
    rcases hz1 with ⟨h0, rfl⟩ | ⟨h0, rfl⟩
    · rw [if_pos h0]
      simp only [Sem.run_bind, Sem.run_pure, Result.andThen_ok]
      rw [hpt, e1]
      simp only [Sem.run_bind, run_newRow, Result.andThen_ok, Sem.run_pure]
    · rw [if_neg h0]
      simp only [Sem.run_bind, h4, Sem.run_pure, Result.andThen_ok]
      rw [hpt, e1]
      simp only [Sem.run_bind, run_newRow, Result.andThen_ok, Sem.run_pure]
  · refine ⟨Nat.lt_succ_self _, (fun h => by cases h), fun _ => ⟨n, by simp [ad, upd_same], Nat.le_refl _, Nat.le_refl _, fun _ => rfl, ?_⟩⟩
    rw [upd_same]
    have hlen : cs'.size = n * ei.size := by
      have h1 := e2.1
      have : ∀ (place : Nat → Option (Nat × Nat)) (ps : List (Nat × List CV)) (l l' : List CV), fill place l ps = some l' → l'.length = l.length := by
        intro place ps
        induction ps with
        | nil => intro l l' h; simp only [fill, Option.some.injEq] at h; rw [h]
        | cons p ps ih =>
          intro l l' h
          obtain ⟨k, v⟩ := p
          simp only [fill] at h
          split at h
          · cases h
          · split at h
            · rw [ih _ _ h, setRange_length]
            · cases h
      rw [this _ _ _ _ hf] at h1
      have h2 := hzero.1
      rw [h2] at h1
      have h3 : (List.replicate n zv.cells.toList).flatten.length = n * ei.size := by simp [hzl]
      rw [h3] at h1
      simpa using h1.symm
    simp [hlen]

theorem op_field {t k : Nat} {x : Operand} (ho : o.op = .field t x k) {l : List CV} (hv : st.val x = .v (.agg l)) {v : AV} (hf : evField G t l k = some v) (h : (pure1 st (.v v)).res = some u) : OpOk P o st u := by
  have := T.ret_some h
  subst this
  refine OpOk.pure fun f z w a ht => ?_
  have hx := val_ok ht x
  rw [hv] at hx
  obtain ⟨cs, hx, hl⟩ := hx
  unfold evField at hf
  split at hf
  · rename_i tsz tby tze fs tag teq hti
    have hT := hG.ti t _ hti
    obtain ⟨d, h1, h2, _, h0⟩ := hT.run_und w
    obtain ⟨flds, rfl, h3⟩ := kindOf_struct h2
    split at hf
    · rename_i off size ty agg hk
      dsimp only at hf
      split at hf
      · rename_i hlen
        obtain ⟨g, hg, hfr⟩ := fieldRows_get flds.toList fs h3 k _ hk
        obtain ⟨inf, dd, i1, i2, i3⟩ := fieldRow_info hfr
        simp only [Prod.mk.injEq] at i3
        obtain ⟨rfl, rfl, rfl, rfl⟩ := i3
        have hs : (sizeOf g.type).run P w = .ok inf.size w := by simp [sizeOf, typeInfo, Sem.run_bind, Result.andThen, i1]
        have hagg : (isAgg g.type).run P w = .ok (isAggD dd) w := by cases dd <;> simp [isAgg, underlying, Sem.run_bind, Result.andThen, i2, isAggD]
        obtain ⟨q, e1, e2⟩ := part_ok hl w hs hagg (nbeq hlen) hf
        refine ⟨q, ?_, e2⟩
        simp only [execOp, ho, hx]
        refine run_v ?_
        have hg' : flds[k]? = some g := by simpa using hg
        simp only [Instr.field, Sem.run_bind, h1, Result.andThen_ok, hg', asAgg, Sem.run_pure, e1]
      · cases hf
    · cases hf
  · cases hf

omit hG in
theorem fieldPlace_ok {g : Field} {inf : TypeInfo} (hi : P.info? g.type = some inf) (hs : inf.size ≠ 0) (ad : Addr) (w : World) : (fieldPlace ad g).run P w = .ok (ad.add g.offset) w := by
  simp [fieldPlace, sizeOf, typeInfo, Sem.run_bind, Result.andThen, hi, hs]

theorem op_fieldAddr {t k : Nat} {x : Operand} (ho : o.op = .fieldAddr t x k) {i : TI} (hi : G.ti t = some i) {fs : List (Nat × Nat × Nat × Bool)} (hk : i.kind = .struct fs) {v : CV} (hv : st.val x = .v (.one v))
    {off size ty : Nat} {agg : Bool} (hf : fs[k]? = some (off, size, ty, agg))
    (h : (match Nat.beq size 0, v with | false, .ptr b m a j => pure1 st (.one (.ptr b m a (j + off))) | false, .f (.fp l) => pure1 st (.one (.f (.fp (l.drop off)))) | _, _ => .bad).res = some u) : OpOk P o st u := by
  have hT := hG.ti t i hi
  have common : ∀ (w : World), ∃ (flds : Array Field) (g : Field) (inf : TypeInfo), (underlying t).run P w = .ok (.struct flds) w ∧ flds[k]? = some g ∧ P.info? g.type = some inf ∧ off = g.offset ∧ size = inf.size := by
    intro w
    obtain ⟨d, h1, h2, _, h0⟩ := hT.run_und w
    obtain ⟨flds, rfl, h3⟩ := kindOf_struct (h2.trans hk)
    obtain ⟨g, hg, hfr⟩ := fieldRows_get flds.toList fs h3 k _ hf
    obtain ⟨inf, dd, i1, i2, i3⟩ := fieldRow_info hfr
    simp only [Prod.mk.injEq] at i3
    exact ⟨flds, g, inf, h1, by simpa using hg, i1, i3.1, i3.2.1⟩
  split at h
  · rename_i b m c j hz
    have := T.ret_some h
    subst this
    refine OpOk.pure fun f z w a ht => ?_
    have hx := val_ok ht x
    rw [hv] at hx
    obtain ⟨hb, hx⟩ := hx
    obtain ⟨flds, g, inf, h1, h2, h3, rfl, rfl⟩ := common w
    have hs : inf.size ≠ 0 := fun h => by rw [h] at hz; cases hz
    refine ⟨.pointer (some (ad f b m c (j + g.offset))), ?_, hb, rfl⟩
    simp only [execOp, ho, hx]
    refine run_v ?_
    simp only [Instr.fieldAt, Instr.sureAddr, Sem.run_bind, h1, Result.andThen_ok, h2, Sem.run_pure, fieldPlace_ok h3 hs, ad_add]
  · rename_i l hz
    have := T.ret_some h
    subst this
    refine OpOk.pure fun f z w a ht => ?_
    have hx := val_ok ht x
    rw [hv] at hx
    obtain ⟨flds, g, inf, h1, h2, h3, rfl, rfl⟩ := common w
    have hs : inf.size ≠ 0 := fun h => by rw [h] at hz; cases hz
    generalize hax : a.eval x = ax at hx
    cases hx with
    | fp _ kk o' gg e1 e2 =>
      refine ⟨.pointer (some ⟨kk, o' + g.offset, none⟩), ?_, RF.fp _ kk (o' + g.offset) (fun q => gg (g.offset + q)) (fun q hq => ?_) (fun q y hy => ?_)⟩
      · simp only [execOp, ho, hax]
        refine run_v ?_
        simp only [Instr.fieldAt, Instr.sureAddr, Sem.run_bind, h1, Result.andThen_ok, h2, Sem.run_pure, fieldPlace_ok h3 hs]
        have : (⟨kk, o', none⟩ : Addr).add g.offset = ⟨kk, o' + g.offset, none⟩ := by unfold Addr.add; split <;> simp_all
        rw [this]
      · simp only [List.length_drop] at hq
        have := e1 (g.offset + q) (by omega)
        rwa [← Nat.add_assoc] at this
      · rw [List.getElem?_drop] at hy
        exact e2 _ y hy
  · exact (T.bad_some h).elim

omit hG in
theorem op_nilCheck {x : Operand} (ho : o.op = .nilCheck x) {v : CV} (hv : st.val x = .v (.one v))
    (h : (match v with | .ptr b m a j => pure1 st (.one (.ptr b m a j)) | .f (.fp l) => pure1 st (.one (.f (.fp l))) | .fn g c => pure1 st (.one (.fn g c)) | _ => .bad).res = some u) : OpOk P o st u := by
  split at h
  · have := T.ret_some h
    subst this
    refine OpOk.pure fun f z w a ht => ?_
    have hx := val_ok ht x
    rw [hv] at hx
    refine ⟨a.eval x, ?_, hx⟩
    obtain ⟨hb, hx⟩ := hx
    simp [execOp, ho, hx]
  · have := T.ret_some h
    subst this
    refine OpOk.pure fun f z w a ht => ?_
    have hx := val_ok ht x
    rw [hv] at hx
    refine ⟨a.eval x, ?_, hx⟩
    generalize hax : a.eval x = ax at hx
    cases hx
    simp [execOp, ho, hax]
  · have := T.ret_some h
    subst this
    refine OpOk.pure fun f z w a ht => ?_
    have hx := val_ok ht x
    rw [hv] at hx
    refine ⟨a.eval x, ?_, hx⟩
    obtain ⟨hx, hb⟩ := hx
    simp [execOp, ho, hx]
  · exact (T.bad_some h).elim

theorem op_binOp {op : BinOp} {t t' : Nat} {x y : Operand} (ho : o.op = .binOp op t x y t') {p q : AV} (hp : st.val x = .v p) (hq : st.val y = .v q) (h : ((evBin G op t p q).bind fun v => pure1 st (.v v)).res = some u) : OpOk P o st u := by
  obtain ⟨r, hr, h⟩ := T.bind_some h
  have := T.ret_some h
  subst this
  refine OpOk.pure fun f z w a ht => ?_
  have hX := val_ok ht x
  have hY := val_ok ht y
  rw [hp] at hX
  rw [hq] at hY
  obtain ⟨v, e1, e2⟩ := evBin_ok hG hr hX hY x y w
  refine ⟨v, ?_, e2⟩
  simp only [execOp, ho]
  exact run_v e1

omit hG in
theorem op_unOp {op : UnOp} {t : Nat} {x : Operand} (ho : o.op = .unOp op t x) {p : CV} (hp : st.val x = .v (.one p)) (h : ((evUn op p).bind fun v => pure1 st (.one v)).res = some u) : OpOk P o st u := by
  obtain ⟨r, hr, h⟩ := T.bind_some h
  have := T.ret_some h
  subst this
  refine OpOk.pure fun f z w a ht => ?_
  have hX := val_ok ht x
  rw [hp] at hX
  obtain ⟨v, e1, e2⟩ := evUn_ok (P := P) hr hX w
  refine ⟨v, ?_, e2⟩
  simp only [execOp, ho]
  exact run_v e1

end ops
end Go.Proofs.YtbobakclbdaepaaGreat.En
/- The engine, part 7: indexes, slice expressions, len, max, make, closures. -/
namespace Go.Proofs.YtbobakclbdaepaaGreat.En
open Go
set_option linter.unusedVariables false
set_option linter.unusedSimpArgs false

theorem bnd_some {α : Type} {x : Option SV} {d y : Nat} {k : Nat → T α} {r : α} (h : (bnd x d y k).res = some r) :
    ∃ n, (k n).res = some r ∧ ((x = none ∧ n = d) ∨ (∃ kd i, x = some (.v (.one (.f (.lit (.int kd i))))) ∧ 0 ≤ i ∧ i ≤ (y : Int) ∧ n = i.toNat ∧ n ≤ y)) := by
  unfold bnd at h
  split at h
  · exact ⟨d, h, .inl ⟨rfl, rfl⟩⟩
  · rename_i kd i
    obtain ⟨h1, h2⟩ := T.need_some h
    simp only [decide_eq_true_eq] at h1
    exact ⟨i.toNat, h2, .inr ⟨kd, i, rfl, h1.1, h1.2, rfl, by omega⟩⟩
  · exact (T.bad_some h).elim

theorem run_sliceBound {P : Program} (kd : IntKind) (i : Int) (y : Nat) (c : BoundsCode) (w : World) (h0 : 0 ≤ i) (h1 : i ≤ (y : Int)) : (Instr.sliceBound (.int kd i) y c).run P w = .ok i.toNat w := by
  simp only [Instr.sliceBound, asIntOf, Sem.run_bind, Sem.run_pure, Result.andThen_ok]
  rw [if_pos ⟨h0, h1⟩]
  rfl

/-- the three bounds, where none was given but the low and the high one -/
theorem run_bounds2 {P : Program} {f : Fn} {z : Z} {st : St} {a : Act} (ht : TR f st.nx z st.sl a.tmps) {lo hi : Option Operand} {dh ycap cap l h : Nat} (hc : ycap ≤ cap)
    (hh : ((hi.map st.val = none ∧ h = dh) ∨ (∃ kd i, hi.map st.val = some (.v (.one (.f (.lit (.int kd i))))) ∧ 0 ≤ i ∧ i ≤ (ycap : Int) ∧ h = i.toNat ∧ h ≤ ycap)))
    (hl : ((lo.map st.val = none ∧ l = 0) ∨ (∃ kd i, lo.map st.val = some (.v (.one (.f (.lit (.int kd i))))) ∧ 0 ≤ i ∧ i ≤ (h : Int) ∧ l = i.toNat ∧ l ≤ h))) (b : Bool) (w : World) :
    (Instr.sliceBounds b dh cap (lo.map a.eval) (hi.map a.eval) none).run P w = .ok (l, h, cap) w := by
  have lit : ∀ (x : Operand) kd i, st.val x = .v (.one (.f (.lit (.int kd i)))) → a.eval x = .int kd i := fun x kd i e => by
    have := val_ok ht x
    rw [e] at this
    exact lit_ok this
  cases hi with
  | none =>
    have e : h = dh := by
      rcases hh with ⟨_, e⟩ | ⟨kd, i, e, _⟩
      · exact e
      · cases e
    subst e
    cases lo with
    | none =>
      have e : l = 0 := by
        rcases hl with ⟨_, e⟩ | ⟨kd, i, e, _⟩
        · exact e
        · cases e
      subst e
      simp [Instr.sliceBounds, Sem.run_bind]
    | some x =>
      rcases hl with ⟨e, _⟩ | ⟨kd, i, e, h0, h1, h2, _⟩
      · cases e
      · have := lit x kd i (by simpa using e)
        simp [Instr.sliceBounds, Sem.run_bind, this, run_sliceBound kd i h _ w h0 h1, h2]
  | some y =>
    rcases hh with ⟨e, _⟩ | ⟨kd, i, e, h0, h1, h2, _⟩
    · cases e
    · have ey := lit y kd i (by simpa using e)
      have hb := fun c => run_sliceBound (P := P) kd i cap c w h0 (by omega)
      cases lo with
      | none =>
        have e : l = 0 := by
          rcases hl with ⟨_, e⟩ | ⟨kd, i, e, _⟩
          · exact e
          · cases e
        subst e
        cases b <;> simp [Instr.sliceBounds, Sem.run_bind, ey, hb, h2]
      | some x =>
        rcases hl with ⟨e, _⟩ | ⟨kd', i', e, h0', h1', h2', _⟩
        · cases e
        · have ex := lit x kd' i' (by simpa using e)
          have hb' := fun c => run_sliceBound (P := P) kd' i' h c w h0' h1'
          rw [h2] at hb'
          cases b <;> simp [Instr.sliceBounds, Sem.run_bind, ey, hb, ex, hb', h2, h2']

/-- with a greatest one -/
theorem run_bounds3 {P : Program} {f : Fn} {z : Z} {st : St} {a : Act} (ht : TR f st.nx z st.sl a.tmps) {lo : Option Operand} {hi mx : Operand} {dl ycap cap l h m : Nat} (hc : ycap ≤ cap)
    (hm : (∃ kd i, some (st.val mx) = some (.v (.one (.f (.lit (.int kd i))))) ∧ 0 ≤ i ∧ i ≤ (ycap : Int) ∧ m = i.toNat ∧ m ≤ ycap))
    (hh : (∃ kd i, some (st.val hi) = some (.v (.one (.f (.lit (.int kd i))))) ∧ 0 ≤ i ∧ i ≤ (m : Int) ∧ h = i.toNat ∧ h ≤ m))
    (hl : ((lo.map st.val = none ∧ l = 0) ∨ (∃ kd i, lo.map st.val = some (.v (.one (.f (.lit (.int kd i))))) ∧ 0 ≤ i ∧ i ≤ (h : Int) ∧ l = i.toNat ∧ l ≤ h))) (w : World) :
    (Instr.sliceBounds true dl cap (lo.map a.eval) (some (a.eval hi)) (some (a.eval mx))).run P w = .ok (l, h, m) w := by
  have lit : ∀ (x : Operand) kd i, st.val x = .v (.one (.f (.lit (.int kd i)))) → a.eval x = .int kd i := fun x kd i e => by
    have := val_ok ht x
    rw [e] at this
    exact lit_ok this
  obtain ⟨km, im, em, m0, m1, m2, _⟩ := hm
  obtain ⟨kh, ih, eh, h0, h1, h2, _⟩ := hh
  have e1 := lit mx km im (by simpa using em)
  have e2 := lit hi kh ih (by simpa using eh)
  have b1 := fun c => run_sliceBound (P := P) km im cap c w m0 (by omega)
  have b2 := fun c => run_sliceBound (P := P) kh ih m c w h0 h1
  rw [m2] at b2
  cases lo with
  | none =>
    have e : l = 0 := by
      rcases hl with ⟨_, e⟩ | ⟨kd, i, e, _⟩
      · exact e
      · cases e
    subst e
    simp [Instr.sliceBounds, Sem.run_bind, e1, e2, b1, b2, h2, m2]
  | some x =>
    rcases hl with ⟨e, _⟩ | ⟨kd', i', e, h0', h1', h2', _⟩
    · cases e
    · have ex := lit x kd' i' (by simpa using e)
      have hb' := fun c => run_sliceBound (P := P) kd' i' h c w h0' h1'
      rw [h2] at hb'
      simp [Instr.sliceBounds, Sem.run_bind, e1, e2, b1, b2, ex, hb', h2, h2', m2]

theorem RF.cut {z : Z} {sz n l h cap' : Nat} {g : Nat → List FV} {a : Addr} {cap : Nat} (hv : RF z (.fs false sz n g) (.slice (some a) n cap)) (hlh : l ≤ h) (hh : h ≤ n) (hc : h ≤ cap') (hcc : cap' ≤ cap) :
    RF z (.fs false sz (h - l) fun i => g (l + i)) (.slice (some (if cap' = l then a else a.add (l * sz))) (h - l) (cap' - l)) := by
  by_cases e : h - l = 0
  · rw [e]; exact .fs0 _ _ _ _
  · have hne : cap' ≠ l := by omega
    rw [if_neg hne]
    cases hv with
    | fs0 => omega
    | fss _ _ _ k o _ gg hc1 h1 h2 h3 =>
      have : (⟨k, o, none⟩ : Addr).add (l * sz) = ⟨k, o + l * sz, none⟩ := by
        unfold Addr.add
        by_cases hz : l * sz = 0
        · simp [hz]
        · simp [hz]
      rw [this]
      refine .fss sz (h - l) _ k (o + l * sz) (cap' - l) (fun i j => gg (l + i) j) (by omega) (fun i j hi hj => ?_) (fun i j x hi hj hx => h2 (l + i) j x (by omega) hj hx) (fun i j hi hj => h3 (l + i) j (by omega) hj)
      have := h1 (l + i) j (by omega) hj
      rw [Nat.add_mul] at this
      rw [show o + l * sz + (i * sz + j) = o + (l * sz + i * sz + j) by omega]
      exact this

theorem elems_get {agg : Bool} {sz : Nat} : ∀ (n : Nat) (l : List CV) (r : List AV), elems agg sz n l = some r → r.length = n ∧ ∀ (c : Nat) v, r[c]? = some v → ((l.drop (c * sz)).take sz).length = sz ∧ ofCells agg ((l.drop (c * sz)).take sz) = some v
  | 0, l, r, h => by
    simp only [elems, Option.some.injEq] at h
    subst h
    exact ⟨rfl, fun c v h => by simp at h⟩
  | n + 1, l, r, h => by
    simp only [elems] at h
    split at h
    · rename_i v q h1 h2 h3
      simp only [Option.some.injEq] at h
      subst h
      obtain ⟨i1, i2⟩ := elems_get n _ q h3
      refine ⟨by simp [i1], fun c u hu => ?_⟩
      cases c with
      | zero =>
        simp only [List.getElem?_cons_zero, Option.some.injEq] at hu
        subst hu
        simp only [Nat.zero_mul, List.drop_zero]
        exact ⟨nbeq h1, h2⟩
      | succ c =>
        have := i2 c u (by simpa using hu)
        rw [List.drop_drop] at this
        rw [show (c + 1) * sz = sz + c * sz by rw [Nat.add_mul]; omega]
        exact this
    · cases h

theorem selV_get (i : Int) : ∀ (r : List AV) (c : Nat) (x : AV), (c : Int) ≤ i → i < (c : Int) + (r.length + 1 : Nat) → ∃ k, i = ((c + k : Nat) : Int) ∧ (x :: r)[k]? = some (selV i c x r)
  | [], c, x, h0, h1 => ⟨0, by simp at h1 ⊢; omega, rfl⟩
  | y :: r, c, x, h0, h1 => by
    simp only [selV, AV.ite_eq]
    by_cases e : i = (c : Int)
    · refine ⟨0, by simp [e], ?_⟩
      simp [e]
    · obtain ⟨k, hk1, hk2⟩ := selV_get i r (c + 1) y (by omega) (by simp only [List.length_cons] at h1; omega)
      refine ⟨k + 1, by omega, ?_⟩
      simp only [e, decide_false, List.getElem?_cons_succ]
      exact hk2

section ops
variable {P : Program} {G : Ctx} (hG : CtxOk P G) {call : CallF} {draw : Bool} {st : St} {o : Oper} {u : Out}
include hG

theorem op_indexAddr {t : Nat} {x y : Operand} (ho : o.op = .indexAddr t x y) {v : CV} {kd : IntKind} {n : Int} (hx : st.val x = .v (.one v)) (hy : st.val y = .v (.one (.f (.lit (.int kd n)))))
    (h : ((evIndexAddr G t v n).bind fun v => pure1 st (.one v)).res = some u) : OpOk P o st u := by
  obtain ⟨r, hr, h⟩ := T.bind_some h
  have := T.ret_some h
  subst this
  refine OpOk.pure fun f z w a ht => ?_
  have hX := val_ok ht x
  have hY := val_ok ht y
  rw [hx] at hX
  rw [hy] at hY
  have hY := lit_ok hY
  have go : ∀ q, (Instr.indexAt t (a.eval x) (.int kd n)).run P w = .ok q w → (execOp a.eval o).run P w = .ok (.value q) w := fun q hq => by
    simp only [execOp, ho, hY]
    exact run_v hq
  unfold evIndexAddr at hr
  split at hr
  · exact (T.bad_some hr).elim
  rename_i ti hti
  have hT := hG.ti t ti hti
  obtain ⟨d, h1, h2, _, h0⟩ := hT.run_und w
  split at hr
  · rename_i len e b m c j hk
    split at hr
    · rename_i ei he
      obtain ⟨i0, i1, hr⟩ := inRange_some hr
      have hr := atIndex_some hr
      have hr := T.ret_some hr
      subst hr
      have hE := hG.ti e ei he
      have := kindOf_array (h2.trans hk)
      subst this
      obtain ⟨hb, hX⟩ := hX
      refine ⟨.pointer (some (ad f b m c (j + n.toNat * ei.size))), go _ ?_, hb, rfl⟩
      rw [hX]
      simp only [Instr.indexAt, asIntOf, Instr.sureAddr, Sem.run_bind, Sem.run_pure, Result.andThen_ok, h1, hE.run_sizeOf w]
      rw [if_pos ⟨i0, i1⟩]
      simp only [Sem.run_bind, hE.run_sizeOf w, Result.andThen_ok, Sem.run_pure, ad_add]
    · exact (T.bad_some hr).elim
  · rename_i len e l hk
    split at hr
    · rename_i ei he
      obtain ⟨i0, i1, hr⟩ := inRange_some hr
      have hr := atIndex_some hr
      have hr := T.ret_some hr
      subst hr
      have hE := hG.ti e ei he
      have := kindOf_array (h2.trans hk)
      subst this
      generalize hax : a.eval x = ax at hX go
      cases hX with
      | fp _ kk o' gg e1 e2 =>
        refine ⟨.pointer (some ⟨kk, o' + n.toNat * ei.size, none⟩), go _ ?_, RF.fp _ kk (o' + n.toNat * ei.size) (fun q => gg (n.toNat * ei.size + q)) (fun q hq => ?_) (fun q y hy => ?_)⟩
        · simp only [Instr.indexAt, asIntOf, Instr.sureAddr, Sem.run_bind, Sem.run_pure, Result.andThen_ok, h1, hE.run_sizeOf w]
          rw [if_pos ⟨i0, i1⟩]
          have : (⟨kk, o', none⟩ : Addr).add (n.toNat * ei.size) = ⟨kk, o' + n.toNat * ei.size, none⟩ := by unfold Addr.add; split <;> simp_all
          simp only [Sem.run_bind, hE.run_sizeOf w, Result.andThen_ok, Sem.run_pure, this]
        · simp only [List.length_drop] at hq
          have := e1 (n.toNat * ei.size + q) (by omega)
          rwa [← Nat.add_assoc] at this
        · rw [List.getElem?_drop] at hy
          exact e2 _ y hy
    · exact (T.bad_some hr).elim
  · rename_i e nil b m c j len cap ex sz hk
    split at hr
    · rename_i ei he
      have hE := hG.ti e ei he
      split at hr
      · rename_i hsz
        have hsz := nbeq hsz
        obtain ⟨hnil, hr⟩ := T.need_some hr
        have hnil : nil = false := by simpa using hnil
        subst hnil
        obtain ⟨i0, i1, hr⟩ := inRange_some hr
        have := kindOf_slice (h2.trans hk)
        subst this
        obtain ⟨hb, _, hX⟩ := hX
        obtain ⟨cap', hX, _⟩ := hX rfl
        have run : (Instr.indexAt t (a.eval x) (.int kd n)).run P w = .ok (.pointer (some ((ad f b m c j).add (n.toNat * sz)))) w := by
          rw [hX]
          simp only [Instr.indexAt, asIntOf, Sem.run_bind, Sem.run_pure, Result.andThen_ok, h1]
          rw [if_pos ⟨i0, i1⟩]
          simp only [Sem.run_bind, hE.run_sizeOf w, Result.andThen_ok, Sem.run_pure, hsz]
        split at hr
        · have hr := atIndex_some hr
          have hr := T.ret_some hr
          subst hr
          exact ⟨_, go _ run, hb, by rw [ad_add]⟩
        · rename_i m'
          split at hr
          · rename_i hm
            have hm := nbeq hm
            have hr := T.ret_some hr
            subst hr
            subst hm
            refine ⟨_, go _ run, hb, ?_⟩
            rw [ad_add]
            simp only [ad, Nat.add_mul, Nat.succ_eq_add_one]
            congr 3
            omega
          · exact (T.bad_some hr).elim
      · exact (T.bad_some hr).elim
    · exact (T.bad_some hr).elim
  · rename_i e nil sz N g hk
    split at hr
    · rename_i ei he
      have hE := hG.ti e ei he
      split at hr
      · rename_i hsz
        have hsz := nbeq hsz
        obtain ⟨hnil, hr⟩ := T.need_some hr
        have hnil : nil = false := by simpa using hnil
        subst hnil
        obtain ⟨i0, i1, hr⟩ := inRange_some hr
        have hr := T.ret_some hr
        subst hr
        have := kindOf_slice (h2.trans hk)
        subst this
        generalize hax : a.eval x = ax at hX
        cases hX with
        | fs0 => omega
        | fss _ _ _ k off cap gg hc e1 e2 e3 =>
          have hlt : n.toNat < N := by omega
          have hadd : (⟨k, off, none⟩ : Addr).add (n.toNat * sz) = ⟨k, off + n.toNat * sz, none⟩ := by
            unfold Addr.add
            split <;> simp_all
          refine ⟨.pointer (some ⟨k, off + n.toNat * sz, none⟩), go _ ?_, ?_⟩
          · rw [hax]
            simp only [Instr.indexAt, asIntOf, Sem.run_bind, Sem.run_pure, Result.andThen_ok, h1]
            rw [if_pos ⟨i0, i1⟩]
            simp only [Sem.run_bind, hE.run_sizeOf w, Result.andThen_ok, Sem.run_pure, hsz, hadd]
          · refine RF.fp _ k (off + n.toNat * sz) (fun j => gg n.toNat j) (fun j hj => ?_) (fun j y hy => ?_)
            · rw [List.length_take] at hj
              have := e1 n.toNat j hlt (by omega)
              rwa [← Nat.add_assoc] at this
            · rw [List.getElem?_take] at hy
              split at hy
              · exact e2 n.toNat j y hlt (by omega) hy
              · cases hy
      · exact (T.bad_some hr).elim
    · exact (T.bad_some hr).elim
  · exact (T.bad_some hr).elim

theorem op_index {t : Nat} {x y : Operand} (ho : o.op = .index t x y) {v : AV} {kd : IntKind} {n : Int} (hx : st.val x = .v v) (hy : st.val y = .v (.one (.f (.lit (.int kd n)))))
    (h : ((evIndex G t v n).bind fun v => pure1 st (.v v)).res = some u) : OpOk P o st u := by
  obtain ⟨r, hr, h⟩ := T.bind_some h
  have := T.ret_some h
  subst this
  refine OpOk.pure fun f z w a ht => ?_
  have hX := val_ok ht x
  have hY := val_ok ht y
  rw [hx] at hX
  rw [hy] at hY
  have hY := lit_ok hY
  have go : ∀ q, (Instr.index t (a.eval x) (.int kd n)).run P w = .ok q w → (execOp a.eval o).run P w = .ok (.value q) w := fun q hq => by
    simp only [execOp, ho, hY]
    exact run_v hq
  unfold evIndex at hr
  split at hr
  · exact (T.bad_some hr).elim
  rename_i ti hti
  have hT := hG.ti t ti hti
  obtain ⟨d, h1, h2, _, h0⟩ := hT.run_und w
  split at hr
  · rename_i len e l hk
    split at hr
    · rename_i ei he
      have hE := hG.ti e ei he
      have := kindOf_array (h2.trans hk)
      subst this
      obtain ⟨cs, hX, hl⟩ := hX
      have fin : ∀ v, 0 ≤ n → n < (len : Int) → Nat.beq ((l.drop (n.toNat * ei.size)).take ei.size).length ei.size = true → ofCells ei.agg ((l.drop (n.toNat * ei.size)).take ei.size) = some v →
          ∃ q, (execOp a.eval o).run P w = .ok (.value q) w ∧ RS f st.nx z (.v v) q := by
        intro v i0 i1 hb hc
        obtain ⟨q, e1, e2⟩ := part_ok hl w (hE.run_sizeOf w) (hE.run_isAgg w) (nbeq hb) hc
        refine ⟨q, go _ ?_, e2⟩
        rw [hX]
        simp only [Instr.index, asIntOf, Sem.run_bind, Sem.run_pure, Result.andThen_ok, h1]
        rw [if_pos ⟨i0, i1⟩]
        simp only [Sem.run_bind, hE.run_sizeOf w, Result.andThen_ok, e1]
      split at hr
      · obtain ⟨i0, i1, hr⟩ := inRange_some hr
        dsimp only at hr
        split at hr
        · rename_i v hb hc
          have hr := T.ret_some hr
          subst hr
          exact fin _ i0 i1 hb hc
        · exact (T.bad_some hr).elim
      · split at hr
        · rename_i x r' hel
          obtain ⟨i0, i1, hr⟩ := inRange_some hr
          have hr := T.ret_some hr
          subst hr
          obtain ⟨g1, g2⟩ := elems_get _ _ _ hel
          simp only [List.length_cons] at g1
          obtain ⟨k, k1, k2⟩ := selV_get n r' 0 x (by simpa using i0) (by rw [g1]; simpa using i1)
          have hk : k = n.toNat := by omega
          subst hk
          obtain ⟨q1, q2⟩ := g2 _ _ k2
          exact fin _ i0 i1 (by rw [q1]; exact Nat.beq_refl _) q2
        · exact (T.bad_some hr).elim
    · exact (T.bad_some hr).elim
  · rename_i s hk
    obtain ⟨i0, i1, hr⟩ := inRange_some hr
    have hr := T.ret_some hr
    subst hr
    have := kindOf_str (h2.trans hk)
    subst this
    have hX := lit_ok hX
    refine ⟨_, go _ ?_, RF.lit _ rfl⟩
    rw [hX]
    have hlt : n.toNat < s.size := by omega
    simp only [Instr.index, asIntOf, Sem.run_bind, Sem.run_pure, Result.andThen_ok, h1]
    rw [if_pos i0]
    have : s[n.toNat]? = some (s.data.toList.getD n.toNat 0) := by
      rw [getElem?_pos s n.toNat hlt]
      congr 1
      have hlt' : n.toNat < s.data.toList.length := by simpa using hlt
      rw [List.getD_eq_getElem?_getD, List.getElem?_eq_getElem hlt']
      rfl
    rw [this]
    rfl
  · exact (T.bad_some hr).elim

theorem op_slice {t : Nat} {x : Operand} {lo hi mx : Option Operand} (ho : o.op = .slice t x lo hi mx) {v : CV} (hx : st.val x = .v (.one v))
    (h : ((evSlice G st.H t v (lo.map st.val) (hi.map st.val) (mx.map st.val)).bind fun (v, fp) => .ret ⟨.one v, st.H, st.nx, false, fp, []⟩).res = some u) : OpOk P o st u := by
  obtain ⟨⟨r, fp⟩, hr, h⟩ := T.bind_some h
  have := T.ret_some h
  subst this
  intro f z w a ht hrel hno K Q hk
  have hX := val_ok ht x
  rw [hx] at hX
  have fin : (∃ q, (Instr.sliceAt t (a.eval x) (lo.map a.eval) (hi.map a.eval) (mx.map a.eval)).run P w = .ok q w ∧ RC f st.nx z r q) → o.wp P a w K Q := by
    rintro ⟨q, hq, hc⟩
    refine wp_value (v := q) (w' := w) ?_ (hk f z w q (Post.refl hrel hno) hc)
    simp only [execOp, ho]
    exact run_v hq
  apply fin
  clear fin hk h
  unfold evSlice at hr
  split at hr
  · exact (T.bad_some hr).elim
  rename_i ti hti
  have hT := hG.ti t ti hti
  obtain ⟨d, h1, h2, _, h0⟩ := hT.run_und w
  split at hr
  · exact (T.bad_some hr).elim
  rename_i hmh
  split at hr
  · -- a string
    rename_i s hk
    have := kindOf_str (h2.trans hk)
    subst this
    have hX := lit_ok hX
    split at hr
    · rename_i hm
      have hm : mx = none := by cases mx <;> simp_all
      subst hm
      obtain ⟨h', hr, bh⟩ := bnd_some hr
      obtain ⟨l', hr, bl⟩ := bnd_some hr
      have hr := T.ret_some hr
      simp only [Prod.mk.injEq] at hr
      obtain ⟨rfl, _⟩ := hr
      refine ⟨.string (s.extract l' h'), ?_, RF.lit _ rfl⟩
      rw [hX]
      have hb := run_bounds2 (P := P) ht (Nat.le_refl s.size) bh bl false w
      simp only [Option.map_none, Instr.sliceAt, Instr.slice, Sem.run_bind, h1, Result.andThen_ok, Option.isSome_none, Bool.false_eq_true, if_false, Sem.run_pure, hb]
    · exact (T.bad_some hr).elim
  · -- an array behind a pointer
    rename_i n e b c j hk
    have := kindOf_array (h2.trans hk)
    subst this
    split at hr
    · rename_i ei he hm
      have hm : mx = none := by cases mx <;> simp_all
      subst hm
      have hE := hG.ti e ei he
      split at hr
      · exact (T.bad_some hr).elim
      rename_i hsz
      have hsz : ei.size ≠ 0 := fun e => by rw [e] at hsz; cases hsz
      obtain ⟨cl, hrd, hr⟩ := T.bind_some hr
      obtain ⟨h', hr, bh⟩ := bnd_some hr
      obtain ⟨l', hr, bl⟩ := bnd_some hr
      obtain ⟨hb, hX⟩ := hX
      have hbd := run_bounds2 (P := P) ht (Nat.le_refl n) bh bl false w
      have hle : l' ≤ h' ∧ h' ≤ n := by
        rcases bh with ⟨_, rfl⟩ | ⟨_, _, _, _, _, _, hh⟩ <;> rcases bl with ⟨_, rfl⟩ | ⟨_, _, _, _, _, _, hl⟩ <;> omega
      have run : (Instr.sliceAt t (a.eval x) (lo.map a.eval) (hi.map a.eval) none).run P w = .ok (.slice (some (if n = l' then ad f b 0 c j else (ad f b 0 c j).add (l' * ei.size))) (h' - l') (n - l')) w := by
        rw [hX]
        simp only [Instr.sliceAt, Instr.sureAddr, Sem.run_bind, h1, Result.andThen_ok, Sem.run_pure, hbd, hE.run_sizeOf w]
      rcases T.br_some hr with ⟨hn, hr⟩ | ⟨hn, hr⟩
      · have hr := T.ret_some hr
        simp only [Prod.mk.injEq] at hr
        obtain ⟨rfl, rfl⟩ := hr
        have hn := nbeq hn
        refine ⟨_, run, ?_⟩
        rw [show h' - l' = 0 by omega, show n - l' = 0 by omega]
        exact RF.z0s _
      · have hr := T.ret_some hr
        simp only [Prod.mk.injEq] at hr
        obtain ⟨rfl, rfl⟩ := hr
        have hn : n ≠ l' := fun e => by rw [e, Nat.beq_refl] at hn; cases hn
        refine ⟨_, run, hb, (fun h => by cases h), fun _ => ⟨n - l', ?_, by omega, Nat.le_refl _, fun _ => rfl, ?_⟩⟩
        · rw [if_neg hn, ad_add]
        · -- the block has all of the array's cells
          have hlive := (Ob.rd_ok hrd).2.1
          obtain ⟨_, hok⟩ := hrel.own b (.inl (by simp)) hlive
          obtain ⟨q1, _, _, q2⟩ := Ob.rd_ok hrd
          have hlast : n * ei.size - 1 < cl.length := by
            rw [q1]
            have : 0 < n * ei.size := Nat.mul_pos (by omega) (Nat.pos_of_ne_zero hsz)
            omega
          have := (hok.cell _ _ _ _ (q2 _ _ (List.getElem?_eq_getElem hlast))).1
          rw [Nat.sub_mul]
          have h3 : l' * ei.size ≤ n * ei.size := Nat.mul_le_mul_right _ (by omega)
          have : 0 < n * ei.size := Nat.mul_pos (by omega) (Nat.pos_of_ne_zero hsz)
          omega
    · exact (T.bad_some hr).elim
  · -- a nil slice
    rename_i e hk
    have := kindOf_slice (h2.trans hk)
    subst this
    have hX := lit_ok hX
    split at hr
    · rename_i ei he
      have hE := hG.ti e ei he
      have key : ∃ q, (Instr.sliceAt t (a.eval x) (lo.map a.eval) (hi.map a.eval) (mx.map a.eval)).run P w = .ok q w ∧ q = .slice none 0 0 ∧ r = .f (.lit (.slice none 0 0)) := by
        obtain ⟨m', hr, bm⟩ := bnd_some hr
        obtain ⟨h', hr, bh⟩ := bnd_some hr
        obtain ⟨l', hr, bl⟩ := bnd_some hr
        have hr := T.ret_some hr
        simp only [Prod.mk.injEq] at hr
        obtain ⟨rfl, _⟩ := hr
        have m0 : m' = 0 := by rcases bm with ⟨_, rfl⟩ | ⟨_, _, _, _, _, _, hm⟩ <;> omega
        subst m0
        have h00 : h' = 0 := by rcases bh with ⟨_, rfl⟩ | ⟨_, _, _, _, _, _, hm⟩ <;> omega
        subst h00
        have l0 : l' = 0 := by rcases bl with ⟨_, rfl⟩ | ⟨_, _, _, _, _, _, hm⟩ <;> omega
        subst l0
        refine ⟨_, ?_, rfl, rfl⟩
        rw [hX]
        cases mx with
        | none =>
          have hb := run_bounds2 (P := P) ht (Nat.le_refl 0) bh bl true w
          simp [Instr.sliceAt, Instr.slice, Sem.run_bind, h1, Result.andThen_ok, hb, hE.run_sizeOf w]
        | some mo =>
          cases hi with
          | none => exact absurd rfl (hmh _ rfl)
          | some ho' =>
            have hb := run_bounds3 (P := P) (dl := 0) ht (Nat.le_refl 0) (bm.resolve_left (by simp)) (bh.resolve_left (by simp)) bl w
            simp [Instr.sliceAt, Instr.slice, Sem.run_bind, h1, Result.andThen_ok, hb, hE.run_sizeOf w]
      obtain ⟨q, e1, rfl, rfl⟩ := key
      exact ⟨_, e1, RF.lit _ rfl⟩
    · exact (T.bad_some hr).elim
  · -- one without room
    rename_i e nil hk
    have := kindOf_slice (h2.trans hk)
    subst this
    split at hr
    · rename_i ei he
      have hE := hG.ti e ei he
      obtain ⟨m', hr, bm⟩ := bnd_some hr
      obtain ⟨h', hr, bh⟩ := bnd_some hr
      obtain ⟨l', hr, bl⟩ := bnd_some hr
      have hr := T.ret_some hr
      simp only [Prod.mk.injEq] at hr
      obtain ⟨rfl, _⟩ := hr
      have m0 : m' = 0 := by rcases bm with ⟨_, rfl⟩ | ⟨_, _, _, _, _, _, hm⟩ <;> omega
      subst m0
      have h00 : h' = 0 := by rcases bh with ⟨_, rfl⟩ | ⟨_, _, _, _, _, _, hm⟩ <;> omega
      subst h00
      have l0 : l' = 0 := by rcases bl with ⟨_, rfl⟩ | ⟨_, _, _, _, _, _, hm⟩ <;> omega
      subst l0
      have run : ∀ ad, a.eval x = .slice ad 0 0 → (Instr.sliceAt t (a.eval x) (lo.map a.eval) (hi.map a.eval) (mx.map a.eval)).run P w = .ok (.slice ad 0 0) w := by
        intro ad hX
        rw [hX]
        cases mx with
        | none =>
          have hb := run_bounds2 (P := P) ht (Nat.le_refl 0) bh bl true w
          simp [Instr.sliceAt, Instr.slice, Sem.run_bind, h1, Result.andThen_ok, hb, hE.run_sizeOf w]
        | some mo =>
          cases hi with
          | none => exact absurd rfl (hmh _ rfl)
          | some ho' =>
            have hb := run_bounds3 (P := P) (dl := 0) ht (Nat.le_refl 0) (bm.resolve_left (by simp)) (bh.resolve_left (by simp)) bl w
            simp [Instr.sliceAt, Instr.slice, Sem.run_bind, h1, Result.andThen_ok, hb, hE.run_sizeOf w]
      generalize hax : a.eval x = ax at hX run
      cases hX with
      | z0n => exact ⟨_, run none rfl, RF.z0n⟩
      | z0s ad => exact ⟨_, run (some ad) rfl, RF.z0s ad⟩
    · exact (T.bad_some hr).elim
  · -- one of frozen cells
    rename_i e nil sz n g hk
    have := kindOf_slice (h2.trans hk)
    subst this
    split at hr
    · rename_i ei he
      have hE := hG.ti e ei he
      split at hr
      · rename_i hsz
        have hsz := nbeq hsz
        split at hr
        · rename_i mv hm
          cases mx with
          | none => cases hm
          | some mo =>
          cases hi with
          | none => exact absurd rfl (hmh _ rfl)
          | some ho' =>
          obtain ⟨m', hr, bm⟩ := bnd_some hr
          obtain ⟨h', hr, bh⟩ := bnd_some hr
          obtain ⟨l', hr, bl⟩ := bnd_some hr
          have bm := bm.resolve_left (by simp)
          have bh := bh.resolve_left (by simp)
          have hm1 : m' ≤ n := by obtain ⟨_, _, _, _, _, _, hm⟩ := bm; exact hm
          have hh1 : h' ≤ m' := by obtain ⟨_, _, _, _, _, _, hm⟩ := bh; exact hm
          have hl1 : l' ≤ h' := by rcases bl with ⟨_, rfl⟩ | ⟨_, _, _, _, _, _, hl⟩ <;> omega
          have run : ∀ ad cap, n ≤ cap → a.eval x = .slice ad n cap → (Instr.sliceAt t (a.eval x) (lo.map a.eval) ((some ho').map a.eval) ((some mo).map a.eval)).run P w = .ok (.slice (if m' = l' then ad else ad.map (·.add (l' * sz))) (h' - l') (m' - l')) w := by
            intro ad cap hcap hX
            rw [hX]
            have hb := run_bounds3 (P := P) (dl := n) ht hcap bm bh bl w
            simp only [Option.map_some, Instr.sliceAt, Instr.slice, Sem.run_bind, h1, Result.andThen_ok, hb, hE.run_sizeOf w, Sem.run_pure, hsz]
          rcases T.br_some hr with ⟨hn, hr⟩ | ⟨hn, hr⟩
          · have hr := T.ret_some hr
            simp only [Prod.mk.injEq] at hr
            obtain ⟨rfl, rfl⟩ := hr
            have hn := nbeq hn
            have e1 : h' - l' = 0 := by omega
            have e2 : m' - l' = 0 := by omega
            generalize hax : a.eval x = ax at hX run
            cases hX with
            | fsn => exact ⟨_, run none 0 (Nat.le_refl _) rfl, by rw [if_pos hn, e1, e2]; exact RF.z0n⟩
            | fs0 _ _ ad cap => exact ⟨_, run _ cap (by omega) rfl, by rw [if_pos hn, e1, e2]; exact RF.z0s _⟩
            | fss _ _ _ k o cap gg hc _ _ _ => exact ⟨_, run _ cap hc rfl, by rw [if_pos hn, e1, e2]; exact RF.z0s _⟩
          · obtain ⟨hnil, hr⟩ := T.need_some hr
            have hnil : nil = false := by simpa using hnil
            subst hnil
            have hr := T.ret_some hr
            simp only [Prod.mk.injEq] at hr
            obtain ⟨rfl, rfl⟩ := hr
            generalize hax : a.eval x = ax at hX run
            have hX' := hX
            cases hX with
            | fs0 _ _ ad cap => exact ⟨_, run _ cap (by omega) rfl, by
                have := RF.cut hX' hl1 (by omega) hh1 (by omega)
                rw [apply_ite some] at this
                exact this⟩
            | fss _ _ _ k o cap gg hc _ _ _ => exact ⟨_, run _ cap hc rfl, by
                have := RF.cut hX' hl1 (by omega) hh1 (by omega)
                rw [apply_ite some] at this
                exact this⟩
        · rename_i hm
          have hm : mx = none := by cases mx <;> simp_all
          subst hm
          obtain ⟨h', hr, bh⟩ := bnd_some hr
          obtain ⟨l', hr, bl⟩ := bnd_some hr
          have hle : l' ≤ h' ∧ h' ≤ n := by
            rcases bh with ⟨_, rfl⟩ | ⟨_, _, _, _, _, _, hh⟩ <;> rcases bl with ⟨_, rfl⟩ | ⟨_, _, _, _, _, _, hl⟩ <;> omega
          have run : ∀ ad cap, n ≤ cap → a.eval x = .slice ad n cap → (Instr.sliceAt t (a.eval x) (lo.map a.eval) (hi.map a.eval) none).run P w = .ok (.slice (if cap = l' then ad else ad.map (·.add (l' * sz))) (h' - l') (cap - l')) w := by
            intro ad cap hcap hX
            rw [hX]
            have hb := run_bounds2 (P := P) ht hcap bh bl true w
            simp only [Instr.sliceAt, Instr.slice, Sem.run_bind, h1, Result.andThen_ok, hb, hE.run_sizeOf w, Sem.run_pure, hsz]
          rcases T.br_some hr with ⟨hn, hr⟩ | ⟨hn, hr⟩
          · have hr := T.ret_some hr
            simp only [Prod.mk.injEq] at hr
            obtain ⟨rfl, rfl⟩ := hr
            subst hn
            generalize hax : a.eval x = ax at hX run
            cases hX with
            | fsn =>
              refine ⟨_, run none 0 (Nat.le_refl _) rfl, ?_⟩
              rw [show h' - l' = 0 by omega, show 0 - l' = 0 by omega]
              simp only [Option.map_none, ite_self]
              exact RF.z0n
          · subst hn
            have hr := T.ret_some hr
            simp only [Prod.mk.injEq] at hr
            obtain ⟨rfl, rfl⟩ := hr
            generalize hax : a.eval x = ax at hX run
            have hX' := hX
            cases hX with
            | fs0 _ _ ad cap => exact ⟨_, run _ cap (by omega) rfl, by
                have := RF.cut hX' hle.1 hle.2 (cap' := cap) (by omega) (Nat.le_refl _)
                rw [apply_ite some] at this
                exact this⟩
            | fss _ _ _ k o cap gg hc _ _ _ => exact ⟨_, run _ cap hc rfl, by
                have := RF.cut hX' hle.1 hle.2 (cap' := cap) (by omega) (Nat.le_refl _)
                rw [apply_ite some] at this
                exact this⟩
      · exact (T.bad_some hr).elim
    · exact (T.bad_some hr).elim
  · -- one of an own block
    rename_i e nil b m c j len cap ex sz hk
    have := kindOf_slice (h2.trans hk)
    subst this
    split at hr
    · rename_i ei he
      have hE := hG.ti e ei he
      split at hr
      · rename_i hsz
        have hsz := nbeq hsz
        dsimp only at hr
        -- what is made where there is something left
        have mk : ∀ (l' h' c' cap0 : Nat) (ex' : Bool) (q : CV × List Nat), (match m with
              | 0 => T.ret (CV.sl false b 0 c (j + l' * sz) (h' - l') (c' - l') ex' sz, ([] : List Nat))
              | m + 1 => match Nat.beq (m + 1) sz with | true => .ret (.sl false b (m + 1) (c + l') j (h' - l') (c' - l') ex' sz, []) | false => .bad).res = some q →
            b < st.nx → l' ≤ h' → h' ≤ cap0 → c' ≤ cap0 → (ex' = true → cap0 = c') → l' ≤ c' → (c * m + j) + cap0 * sz ≤ (f b).t →
            RC f st.nx z q.1 (.slice (some ((ad f b m c j).add (l' * sz))) (h' - l') (cap0 - l')) := by
          intro l' h' c' cap0 ex' q hq hb a1 a2 a3 a4 a5 a7
          have hroom : l' * sz + (cap0 - l') * sz = cap0 * sz := by rw [← Nat.add_mul]; congr 1; omega
          split at hq
          · have hq := T.ret_some hq
            subst hq
            refine ⟨hb, (fun h => by cases h), fun _ => ⟨cap0 - l', by rw [ad_add], by omega, by omega, fun h => by rw [a4 h], by omega⟩⟩
          · rename_i m'
            split at hq
            · rename_i hm
              have hm := nbeq hm
              subst hm
              have hq := T.ret_some hq
              subst hq
              refine ⟨hb, (fun h => by cases h), fun _ => ⟨cap0 - l', ?_, by omega, by omega, fun h => by rw [a4 h], ?_⟩⟩
              · rw [ad_add]
                simp only [ad, Nat.add_mul, Nat.succ_eq_add_one]
                congr 3
                omega
              · rw [Nat.add_mul]
                rw [Nat.succ_eq_add_one] at a7
                omega
            · exact (T.bad_some hq).elim
        obtain ⟨hb, hX0, hX1⟩ := hX
        split at hr
        · rename_i mv hm
          cases mx with
          | none => cases hm
          | some mo =>
          cases hi with
          | none => exact absurd rfl (hmh _ rfl)
          | some ho' =>
          obtain ⟨m', hr, bm⟩ := bnd_some hr
          obtain ⟨h', hr, bh⟩ := bnd_some hr
          obtain ⟨l', hr, bl⟩ := bnd_some hr
          have bm := bm.resolve_left (by simp)
          have bh := bh.resolve_left (by simp)
          have hm1 : m' ≤ cap := by obtain ⟨_, _, _, _, _, _, hm⟩ := bm; exact hm
          have hh1 : h' ≤ m' := by obtain ⟨_, _, _, _, _, _, hm⟩ := bh; exact hm
          have hl1 : l' ≤ h' := by rcases bl with ⟨_, rfl⟩ | ⟨_, _, _, _, _, _, hl⟩ <;> omega
          have run : ∀ ad cap', cap ≤ cap' → a.eval x = .slice ad len cap' → (Instr.sliceAt t (a.eval x) (lo.map a.eval) ((some ho').map a.eval) ((some mo).map a.eval)).run P w = .ok (.slice (if m' = l' then ad else ad.map (·.add (l' * sz))) (h' - l') (m' - l')) w := by
            intro ad cap' hcap hX
            rw [hX]
            have hb := run_bounds3 (P := P) (dl := len) ht hcap bm bh bl w
            simp only [Option.map_some, Instr.sliceAt, Instr.slice, Sem.run_bind, h1, Result.andThen_ok, hb, hE.run_sizeOf w, Sem.run_pure, hsz]
          rcases T.br_some hr with ⟨hn, hr⟩ | ⟨hn, hr⟩
          · have hr := T.ret_some hr
            simp only [Prod.mk.injEq] at hr
            obtain ⟨rfl, rfl⟩ := hr
            have hn := nbeq hn
            have e1 : h' - l' = 0 := by omega
            have e2 : m' - l' = 0 := by omega
            cases nil with
            | true =>
              obtain ⟨rfl, rfl, hX⟩ := hX0 rfl
              exact ⟨_, run none 0 (Nat.le_refl _) hX, by rw [if_pos hn, e1, e2]; exact RF.z0n⟩
            | false =>
              obtain ⟨cap', hX, c1, c2, c3, c4⟩ := hX1 rfl
              exact ⟨_, run _ cap' c2 hX, by rw [if_pos hn, e1, e2]; exact RF.z0s _⟩
          · obtain ⟨hnil, hr⟩ := T.need_some hr
            have hnil : nil = false := by simpa using hnil
            subst hnil
            obtain ⟨cap', hX, c1, c2, c3, c4⟩ := hX1 rfl
            have hne : m' ≠ l' := fun e => by rw [e, Nat.beq_refl] at hn; cases hn
            refine ⟨_, run _ cap' c2 hX, ?_⟩
            rw [if_neg hne]
            refine mk l' h' m' m' true _ hr hb hl1 hh1 (Nat.le_refl _) (fun _ => rfl) (by omega) ?_
            have : m' * sz ≤ cap' * sz := Nat.mul_le_mul_right _ (by omega)
            omega
        · rename_i hm
          have hm : mx = none := by cases mx <;> simp_all
          subst hm
          obtain ⟨h', hr, bh⟩ := bnd_some hr
          obtain ⟨l', hr, bl⟩ := bnd_some hr
          have run : ∀ ad cap', cap ≤ cap' → a.eval x = .slice ad len cap' → (Instr.sliceAt t (a.eval x) (lo.map a.eval) (hi.map a.eval) none).run P w = .ok (.slice (if cap' = l' then ad else ad.map (·.add (l' * sz))) (h' - l') (cap' - l')) w := by
            intro ad cap' hcap hX
            rw [hX]
            have hb := run_bounds2 (P := P) ht hcap bh bl true w
            simp only [Instr.sliceAt, Instr.slice, Sem.run_bind, h1, Result.andThen_ok, hb, hE.run_sizeOf w, Sem.run_pure, hsz]
          rcases T.br_some hr with ⟨hn, hr⟩ | ⟨hn, hr⟩
          · subst hn
            have hr := T.ret_some hr
            simp only [Prod.mk.injEq] at hr
            obtain ⟨rfl, rfl⟩ := hr
            obtain ⟨rfl, rfl, hX⟩ := hX0 rfl
            have hle : l' ≤ h' ∧ h' ≤ 0 := by
              rcases bh with ⟨_, rfl⟩ | ⟨_, _, _, _, _, _, hh⟩ <;> rcases bl with ⟨_, rfl⟩ | ⟨_, _, _, _, _, _, hl⟩ <;> omega
            refine ⟨_, run none 0 (Nat.le_refl _) hX, ?_⟩
            rw [show h' - l' = 0 by omega, show 0 - l' = 0 by omega]
            simp only [Option.map_none, ite_self]
            exact RF.z0n
          · subst hn
            obtain ⟨cap', hX, c1, c2, c3, c4⟩ := hX1 rfl
            obtain ⟨hlc, hr⟩ := T.need_some hr
            have hlc := nble hlc
            have hle : l' ≤ h' ∧ h' ≤ cap := by
              rcases bh with ⟨_, rfl⟩ | ⟨_, _, _, _, _, _, hh⟩ <;> rcases bl with ⟨_, rfl⟩ | ⟨_, _, _, _, _, _, hl⟩ <;> omega
            rcases T.br_some hr with ⟨hn, hr⟩ | ⟨hn, hr⟩
            · have hn := nbeq hn
              have hr := T.ret_some hr
              simp only [Prod.mk.injEq] at hr
              obtain ⟨rfl, rfl⟩ := hr
              refine ⟨_, run _ cap' c2 hX, ?_⟩
              rw [show h' - l' = 0 by omega]
              cases ex with
              | true =>
                have := c3 rfl
                subst this
                rw [show cap' - l' = 0 by omega, if_pos hn]
                exact RF.z0s _
              | false =>
                by_cases hq : cap' = l'
                · rw [if_pos hq]; exact RF.fs0 _ _ _ _
                · rw [if_neg hq]; exact RF.fs0 _ _ _ _
            · have hne : cap ≠ l' := fun e => by rw [e, Nat.beq_refl] at hn; cases hn
              have hne' : cap' ≠ l' := by omega
              refine ⟨_, run _ cap' c2 hX, ?_⟩
              rw [if_neg hne']
              refine mk l' h' cap cap' ex _ hr hb hle.1 (by omega) c2 (fun h => c3 h) (by omega) c4
      · exact (T.bad_some hr).elim
    · exact (T.bad_some hr).elim
  · exact (T.bad_some hr).elim

end ops
end Go.Proofs.YtbobakclbdaepaaGreat.En
