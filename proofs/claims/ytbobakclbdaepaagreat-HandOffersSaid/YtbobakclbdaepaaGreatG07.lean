/- Texts put together: E11, EM. -/
import Derived.Test.YtbobakclbdaepaaGreatG06
import Derived.MapFrom
/- The engine, part 11: the last operations; all of them. -/
namespace Go.Proofs.YtbobakclbdaepaaGreat.En
open Go
set_option linter.unusedVariables false
set_option linter.unusedSimpArgs false

section ops
variable {P : Program} {G : Ctx} (hG : CtxOk P G) {call : CallF} {draw : Bool} {st : St} {o : Oper} {u : Out}

theorem maxGo_ok {mx : Bool} {f : Fn} {nx : Nat} {z : Z} {k : IntKind} {w : World} : ∀ (l : List SV) (vs : List Value) (a : Int) (r : CV), (evMax.go mx k a l).res = some r → l.length = vs.length → (∀ (i : Nat) x v, l[i]? = some x → vs[i]? = some v → RS f nx z x v) →
    ∃ q, (vs.foldlM (match mx with | true => Builtin.max2 | false => Builtin.min2) (.int k a)).run P w = .ok q w ∧ RC f nx z r q
  | [], [], a, r, h, _, _ => by
    have h := T.ret_some h
    subst h
    exact ⟨_, rfl, RF.lit _ rfl⟩
  | [], _ :: _, _, _, _, h, _ => by simp at h
  | _ :: _, [], _, _, _, h, _ => by simp at h
  | x :: l, v :: vs, a, r, h, hl, hv => by
    unfold evMax.go at h
    split at h
    · cases ‹_ :: _ = []›
    · rename_i k' b r' heq
      simp only [List.cons.injEq] at heq
      obtain ⟨rfl, rfl⟩ := heq
      have := lit_ok (hv 0 _ v rfl rfl)
      subst this
      obtain ⟨q, h1, h2⟩ := maxGo_ok l vs _ r h (by simpa using hl) (fun i x v hx hv' => hv (i + 1) x v (by simpa using hx) (by simpa using hv'))
      refine ⟨q, ?_, h2⟩
      rw [List.foldlM_cons, Sem.run_bind]
      cases mx with
      | true => simp only [Builtin.max2, Sem.run_pure, Result.andThen_ok]; exact h1
      | false => simp only [Builtin.min2, Sem.run_pure, Result.andThen_ok]; exact h1
    · exact (T.bad_some h).elim

theorem op_max {c : Call} (ho : o.op = .call c) {mx : Bool} (hc : c.callee = .builtin (match mx with | true => .max | false => .min))
    (h : ((evMax mx (c.args.toList.map st.val)).bind fun v => pure1 st (.one v)).res = some u) : OpOk P o st u := by
  obtain ⟨r, hr, h⟩ := T.bind_some h
  have := T.ret_some h
  subst this
  refine OpOk.pure fun f z w a ht => ?_
  unfold evMax at hr
  split at hr
  · rename_i k n l hl
    obtain ⟨x, xs, hx⟩ : ∃ x xs, c.args.toList = x :: xs := by
      cases hq : c.args.toList with
      | nil => rw [hq] at hl; cases hl
      | cons x xs => exact ⟨x, xs, rfl⟩
    rw [hx] at hl
    simp only [List.map_cons, List.cons.injEq] at hl
    have h0 := val_ok ht x
    rw [hl.1] at h0
    have h0 := lit_ok h0
    have hrel : ∀ (i : Nat) y v, (xs.map st.val)[i]? = some y → (xs.map a.eval)[i]? = some v → RS f st.nx z y v := by
      intro i y v hy hv
      simp only [List.getElem?_map] at hy hv
      cases hq : xs[i]? with
      | none => rw [hq] at hy; cases hy
      | some q =>
        rw [hq] at hy hv
        simp only [Option.map_some, Option.some.injEq] at hy hv
        subst hy hv
        exact val_ok ht q
    rw [← hl.2] at hr
    obtain ⟨q, h1, h2⟩ := maxGo_ok (P := P) (w := w) _ (xs.map a.eval) n r hr (by simp) hrel
    refine ⟨q, ?_, h2⟩
    have hargs : (c.args.map a.eval).toList = .int k n :: xs.map a.eval := by
      simp [hx, h0]
    cases mx with
    | true =>
      obtain ⟨kk, hrun⟩ := run_builtin (P := P) (a := a) (w := w) ho hc
      rw [hrun]
      refine run_v ?_
      simp only [Builtin.max_, hargs]
      exact h1
    | false =>
      obtain ⟨kk, hrun⟩ := run_builtin (P := P) (a := a) (w := w) ho hc
      rw [hrun]
      refine run_v ?_
      simp only [Builtin.min_, hargs]
      exact h1
  · exact (T.bad_some hr).elim

theorem addrs?_ok {f : Fn} {z : Z} {st : St} {a : Act} (ht : TR f st.nx z st.sl a.tmps) : ∀ (l : List Operand) (r : List (Nat × Nat × Nat × Nat)), addrs? (l.map st.val) = some r →
    l.map a.eval = r.map (fun x => Value.pointer (some (ad f x.1 x.2.1 x.2.2.1 x.2.2.2))) ∧ ∀ x ∈ r, x.1 < st.nx
  | [], r, h => by
    simp only [List.map_nil, addrs?, Option.some.injEq] at h
    subst h
    exact ⟨rfl, fun x hx => by cases hx⟩
  | y :: l, r, h => by
    simp only [List.map_cons] at h
    unfold addrs? at h
    split at h
    · cases ‹_ :: _ = []›
    · rename_i b m i j r' heq
      simp only [List.cons.injEq] at heq
      obtain ⟨h1, rfl⟩ := heq
      split at h
      · rename_i q hq
        simp only [Option.some.injEq] at h
        subst h
        obtain ⟨h2, h3⟩ := addrs?_ok ht l q hq
        have hv := val_ok ht y
        rw [h1] at hv
        obtain ⟨hb, hv⟩ := hv
        refine ⟨by simp only [List.map_cons, hv, h2], fun x hx => ?_⟩
        rcases List.mem_cons.1 hx with rfl | hx
        · exact hb
        · exact h3 x hx
      · cases h
    · cases h

theorem op_makeFunc {fn : Go.Fn} {first captured : Array Operand} (ho : o.op = .makeFunc fn first captured) {g : Nat} (hfn : fn = .func g) (hf : first.toList = []) {l : List (Nat × Nat × Nat × Nat)} (hl : addrs? (captured.toList.map st.val) = some l)
    (h : (pure1 st (.one (.fn g l))).res = some u) : OpOk P o st u := by
  have := T.ret_some h
  subst this
  refine OpOk.pure fun f z w a ht => ?_
  obtain ⟨h1, h2⟩ := addrs?_ok ht captured.toList l hl
  refine ⟨.func fn (first.map a.eval) (captured.map a.eval), ?_, ?_, h2⟩
  · simp only [execOp, ho]
    exact run_v rfl
  · have e1 : first.map a.eval = #[] := by apply Array.ext'; simp [hf]
    have e2 : captured.map a.eval = (l.map fun x => Value.pointer (some (ad f x.1 x.2.1 x.2.2.1 x.2.2.2))).toArray := by apply Array.ext'; simp [h1]
    rw [e1, e2, hfn]

theorem op_extract {x : Operand} {i : Nat} (ho : o.op = .extract x i) {l : List AV} (hx : st.val x = .tup l) {v : AV} (hv : l[i]? = some v) (h : (pure1 st (.v v)).res = some u) : OpOk P o st u := by
  have := T.ret_some h
  subst this
  refine OpOk.pure fun f z w a ht => ?_
  have h1 := val_ok ht x
  rw [hx] at h1
  obtain ⟨vs, h1, h2, h3⟩ := h1
  have hlt : i < vs.toList.length := by rw [← h2]; exact (List.getElem?_eq_some_iff.1 hv).1
  have hlt' : i < vs.size := by simpa using hlt
  refine ⟨vs[i], ?_, h3 i v _ hv (by simp [hlt'])⟩
  simp only [execOp, ho, h1]
  refine run_v ?_
  simp [Instr.extract, hlt']

include hG

theorem op_makeSlice {t : Nat} {lo co : Operand} (ho : o.op = .makeSlice t lo co) {ti : TI} (hi : G.ti t = some ti) {e : Nat} (hk : ti.kind = .slice e) {l c : Int} (hl : st.val lo = .v (.one (.f (.lit (.int .i64 l))))) (hc : st.val co = .v (.one (.f (.lit (.int .i64 c)))))
    {ei : TI} (he : G.ti e = some ei)
    (h : (T.need (decide (0 ≤ l ∧ l ≤ c ∧ c * ei.bytes ≤ 281474976710656 ∧ c ≤ 9223372036854775807)) (match Nat.beq ei.size 0, G.sym with
        | true, _ => .bad
        | false, false => newBlock st (List.replicate c.toNat (zeros ei)).flatten fun b => .one (.sl false b 0 0 0 l.toNat c.toNat true ei.size)
        | false, true => .ret ⟨.one (.sl false st.nx ei.size 0 0 l.toNat c.toNat true ei.size), (st.nx, .arr true ei.size c.toNat fun _ => ei.zero.map .lit) :: st.H, st.nx + 1, false, [], [st.nx]⟩)).res = some u) : OpOk P o st u := by
  have hT := hG.ti t ti hi
  have hE := hG.ti e ei he
  obtain ⟨hn, h⟩ := T.need_some h
  simp only [decide_eq_true_eq] at hn
  obtain ⟨l0, lc, cb, c63⟩ := hn
  have hwl : IntKind.i64.wrap l = l := IntWalk.i64_in l ⟨by omega, by omega⟩
  have hwc : IntKind.i64.wrap c = c := IntWalk.i64_in c ⟨by omega, c63⟩
  -- the run
  have run : ∀ (f : Fn) (z : Z) (w : World) (a : Act), TR f st.nx z st.sl a.tmps → ∃ cs : Array Value, cs.toList = (List.replicate c.toNat ei.zero).flatten ∧
      (execOp a.eval o).run P w = .ok (.value (.slice (some ⟨w.heap.size, 0, none⟩) l.toNat c.toNat)) (w.alloc (.cells cs e)) := by
    intro f z w a ht
    have hL := val_ok ht lo
    have hC := val_ok ht co
    rw [hl] at hL
    rw [hc] at hC
    have hL := lit_ok hL
    have hC := lit_ok hC
    obtain ⟨d, h1, h2, _, h0⟩ := hT.run_und w
    have := kindOf_slice (h2.trans hk)
    subst this
    obtain ⟨x, hx1, hx2, hx3⟩ := hE.run_typeInfo w
    obtain ⟨zv, hz1, hz2⟩ := hE.run_zero w
    have hzz : zv.cells = ei.zero.toArray := by rw [← hz2]
    have hzl : ei.zero.toArray.size = ei.size := by simpa using hE.len
    have hbn : ¬ ((x.bytes : Int) * c > 2 ^ 48) := by
      rw [hx3, Int.mul_comm]
      omega
    have hbl : (x.bytes : Int) * l ≤ (x.bytes : Int) * c := Int.mul_le_mul_of_nonneg_left lc (by omega)
    have fin : ∀ q, (Instr.makeSlice t (.int .i64 l) (.int .i64 c)).run P w = q → (execOp a.eval o).run P w = (q.andThen fun v w' => .ok (.value v) w') := by
      intro q hq
      simp only [execOp, ho, hL, hC, Sem.run_bind, hq]
      rfl
    have tooL : (decide (c < 0) || decide ((x.bytes : Int) * c > 2 ^ 48)) = false := by simp; omega
    by_cases h0 : c.toNat * ei.size = 0
    · refine ⟨#[], ?_, ?_⟩
      · have h9 : (List.replicate c.toNat ei.zero).flatten.length = c.toNat * ei.size := by simp [hE.len]
        rw [h0] at h9
        rw [List.length_eq_zero_iff.1 h9]
      · rw [fin _ rfl]
        simp only [Instr.makeSlice, Sem.run_bind, h1, Result.andThen_ok, asInt, asIntOf, Sem.run_pure, hx1, hwl, hwc]
        rw [if_neg (by simp only [Bool.or_eq_true, decide_eq_true_eq, not_or]; omega)]
        simp only [Sem.run_bind, run_askRoom, Result.andThen_ok, hE.run_sizeOf w]
        rw [if_pos h0]
        have hr0 : (Array.range 0 : Array Nat) = #[] := Array.ext' (by simp)
        simp only [Sem.run_bind, Sem.run_pure, Result.andThen_ok, h0, hr0, Array.map_empty, run_newRow]
    · refine ⟨(Array.range (c.toNat * ei.size)).map (ei.zero.toArray[· % ei.zero.toArray.size]!), ?_, ?_⟩
      · have := repl_zero ei.zero.toArray c.toNat (by rw [hzl]; intro h; simp [h] at h0)
        rw [hzl] at this ⊢
        exact this
      · rw [fin _ rfl]
        simp only [Instr.makeSlice, Sem.run_bind, h1, Result.andThen_ok, asInt, asIntOf, Sem.run_pure, hx1, hwl, hwc]
        rw [if_neg (by simp only [Bool.or_eq_true, decide_eq_true_eq, not_or]; omega)]
        simp only [Sem.run_bind, run_askRoom, Result.andThen_ok, hE.run_sizeOf w]
        rw [if_neg h0]
        simp only [Sem.run_bind, hz1, Sem.run_pure, Result.andThen_ok, run_newRow, hzz]
  have hlen : ∀ cs : Array Value, cs.toList = (List.replicate c.toNat ei.zero).flatten → cs.size = c.toNat * ei.size := by
    intro cs hcs
    have : cs.toList.length = c.toNat * ei.size := by rw [hcs]; simp [hE.len]
    simpa using this
  have hval : ∀ (f : Fn) (z : Z) (w : World) (m : Nat) (cs : Array Value), cs.toList = (List.replicate c.toNat ei.zero).flatten →
      RS (upd f st.nx ⟨w.heap.size, 0, cs.size⟩) (st.nx + 1) z (.one (.sl false st.nx m 0 0 l.toNat c.toNat true ei.size)) (.slice (some ⟨w.heap.size, 0, none⟩) l.toNat c.toNat) := fun f z w m cs hcs =>
    ⟨Nat.lt_succ_self _, (fun h => by cases h), fun _ => ⟨c.toNat, by simp [ad, upd_same], by omega, Nat.le_refl _, fun _ => rfl, by rw [upd_same, hlen cs hcs]; simp⟩⟩
  split at h
  · exact (T.bad_some h).elim
  · refine OpOk.block h fun f z w a ht => ?_
    obtain ⟨cs, hcs, hrun⟩ := run f z w a ht
    exact ⟨cs, e, _, hrun, by rw [hcs]; exact (RL.lits hE.one).repl _, hval f z w 0 cs hcs⟩
  · have h := T.ret_some h
    subst h
    intro f z w a ht hr hno K Q hk
    obtain ⟨cs, hcs, hrun⟩ := run f z w a ht
    have hone : ∀ v ∈ cs.toList, v.oneCell' = true := by
      rw [hcs]
      intro v hv
      rw [List.mem_flatten] at hv
      obtain ⟨q, hq, hv⟩ := hv
      rw [List.mem_replicate] at hq
      rw [hq.2] at hv
      have := hE.one
      rw [List.all_eq_true] at this
      exact this v hv
    refine wp_value hrun (hk _ z _ _ (Post.alloc hr hno _ cs e id hone fun m i j x hx => ?_) (hval f z w ei.size cs hcs))
    simp only [Ob.at] at hx
    split at hx
    · rename_i hz
      obtain ⟨_, rfl, hi', hj⟩ := hz
      simp only [List.getElem?_map] at hx
      cases hq : ei.zero[j]? with
      | none => rw [hq] at hx; cases hx
      | some q =>
        rw [hq] at hx
        simp only [Option.map_some, Option.some.injEq] at hx
        subst hx
        refine ⟨q, ?_, RF.lit q ?_⟩
        · have : cs.toList[i * ei.size + j]? = some q := by
            rw [hcs]
            have hlen : ei.size = ei.zero.length := hE.len.symm
            have key : ∀ (n i : Nat), i < n → (List.replicate n ei.zero).flatten[i * ei.zero.length + j]? = some q := by
              intro n
              induction n with
              | zero => intro i hi; omega
              | succ n ih =>
                intro i hi
                rw [List.replicate_succ, List.flatten_cons]
                cases i with
                | zero => rw [Nat.zero_mul, Nat.zero_add, List.getElem?_append_left (List.getElem?_eq_some_iff.1 hq).1]; exact hq
                | succ i =>
                  rw [Nat.add_mul, Nat.one_mul, List.getElem?_append_right (by omega)]
                  rw [show i * ei.zero.length + ei.zero.length + j - ei.zero.length = i * ei.zero.length + j by omega]
                  exact ih i (by omega)
            rw [hlen]
            exact key _ i hi'
          simpa using this
        · have := hE.one
          rw [List.all_eq_true] at this
          exact this q (List.mem_of_getElem? hq)
    · cases hx

end ops
end Go.Proofs.YtbobakclbdaepaaGreat.En
/- The engine, part 11b: maps of literals. -/
namespace Go.Proofs.YtbobakclbdaepaaGreat.En
open Go
set_option linter.unusedVariables false
set_option linter.unusedSimpArgs false

theorem keyKind_ok {P : Program} {d : TypeDesc} {tk : TK} {k : Value} (hd : kindOf P d = tk) (h : keyKind tk k = true) : MapKept.IsKey d k := by
  unfold keyKind at h
  split at h
  · have := kindOf_int hd
    subst this
    simpa [MapKept.IsKey] using h
  · have := kindOf_str hd
    subst this
    trivial
  · have := kindOf_bool hd
    subst this
    trivial
  · cases h

theorem bytes_toList_beq (a b : ByteArray) : (a.toList == b.toList) = (a == b) := by
  rw [Bool.eq_iff_iff, MapKept.bytes_beq, beq_iff_eq]
  constructor
  · intro h
    obtain ⟨⟨x⟩⟩ := a
    obtain ⟨⟨y⟩⟩ := b
    rw [ByteArray.toList_eq, ByteArray.toList_eq] at h
    simp at h
    rw [h]
  · intro h; rw [h]

theorem findM_ok {d : TypeDesc} {k : Value} (hk : MapKept.IsKey d k) : ∀ (l : List MapEntry) (i : Nat) (r : Option (Nat × Value)), (findM k (l.map fun e => (e.key, e.val)) i).res = some r → Instr.findNow d k l i = some r ∧
    (∀ j v, r = some (j, v) → i ≤ j ∧ ∃ e, l[j - i]? = some e ∧ e.key = k ∧ e.val = v)
  | [], i, r, h => by
    have := T.ret_some h
    subst this
    exact ⟨rfl, fun j v h => by cases h⟩
  | e :: l, i, r, h => by
    have step : ∀ (b : Bool), (T.br b (.ret (some (i, e.val))) (findM k (l.map fun e => (e.key, e.val)) (i + 1))).res = some r → Instr.sameNow d k e.key = some b → (b = true → e.key = k) →
        Instr.findNow d k (e :: l) i = some r ∧ (∀ j v, r = some (j, v) → i ≤ j ∧ ∃ e', (e :: l)[j - i]? = some e' ∧ e'.key = k ∧ e'.val = v) := by
      intro b h hs hkey
      cases b with
      | true =>
        have := T.ret_some h
        subst this
        refine ⟨by simp only [Instr.findNow, hs], fun j v h => ?_⟩
        simp only [Option.some.injEq, Prod.mk.injEq] at h
        obtain ⟨rfl, rfl⟩ := h
        exact ⟨Nat.le_refl _, e, by simp, hkey rfl, rfl⟩
      | false =>
        obtain ⟨h1, h2⟩ := findM_ok hk l (i + 1) r h
        refine ⟨by simp only [Instr.findNow, hs]; exact h1, fun j v h => ?_⟩
        obtain ⟨h3, e', h4, h5⟩ := h2 j v h
        refine ⟨by omega, e', ?_, h5⟩
        rw [show j - i = (j - (i + 1)) + 1 by omega, List.getElem?_cons_succ]
        exact h4
    simp only [List.map_cons, findM] at h
    split at h
    · rename_i ka a kb b hkb
      obtain ⟨h1, h2⟩ := T.need_some h
      clear h
      have h1 := of_decide_eq_true h1
      subst h1
      cases d <;> simp only [MapKept.IsKey] at hk
      refine step _ h2 ?_ fun hb => ?_
      · simp only [Instr.sameNow, hkb, if_true]
      · rw [hkb, eq_of_beq hb]
    · rename_i a b hkb
      cases d <;> simp only [MapKept.IsKey] at hk
      refine step _ h ?_ fun hb => ?_
      · simp only [Instr.sameNow, hkb, bytes_toList_beq]
      · rw [bytes_toList_beq, MapKept.bytes_beq] at hb
        rw [hkb, hb]
    · rename_i a b hkb
      cases d <;> simp only [MapKept.IsKey] at hk
      refine step _ h ?_ fun hb => ?_
      · simp only [Instr.sameNow, hkb]
      · rw [hkb, eq_of_beq hb]
    · exact (T.bad_some h).elim

theorem keyStep {d : TypeDesc} {k : Value} (hk : MapKept.IsKey d k) {e : Value} (h : keyOk k e = true) : Instr.sameNow d k e = some (keyEq k e) ∧ (keyEq k e = true → e = k) := by
  unfold keyOk at h
  split at h
  · rename_i ka a kb b
    have h := of_decide_eq_true h
    subst h
    cases d <;> simp only [MapKept.IsKey] at hk
    refine ⟨by simp only [Instr.sameNow, keyEq, if_true], fun hb => ?_⟩
    simp only [keyEq] at hb
    rw [eq_of_beq hb]
  · rename_i a b
    cases d <;> simp only [MapKept.IsKey] at hk
    refine ⟨by simp only [Instr.sameNow, keyEq, bytes_toList_beq], fun hb => ?_⟩
    simp only [keyEq] at hb
    rw [bytes_toList_beq, MapKept.bytes_beq] at hb
    rw [hb]
  · rename_i a b
    cases d <;> simp only [MapKept.IsKey] at hk
    refine ⟨by simp only [Instr.sameNow, keyEq], fun hb => ?_⟩
    simp only [keyEq] at hb
    rw [eq_of_beq hb]
  · cases h

theorem findS_ok {d : TypeDesc} {k : Value} (hk : MapKept.IsKey d k) : ∀ (l : List MapEntry) (i : Nat), keysOk k (l.map fun e => (e.key, e.val)) = true → ∃ r, Instr.findNow d k l i = some r ∧
    hasM k (l.map fun e => (e.key, e.val)) = r.isSome ∧ valM k (l.map fun e => (e.key, e.val)) = r.map (·.2) ∧
    (∀ q, r = none → setM k q (l.map fun e => (e.key, e.val)) = (l.map fun e => (e.key, e.val)) ++ [(k, q)]) ∧
    (∀ j v, r = some (j, v) → i ≤ j ∧ (∃ e, l[j - i]? = some e ∧ e.key = k ∧ e.val = v) ∧ ∀ q, setM k q (l.map fun e => (e.key, e.val)) = (l.map fun e => (e.key, e.val)).set (j - i) (k, q))
  | [], i, _ => ⟨none, rfl, rfl, rfl, fun q _ => rfl, fun j v h => by cases h⟩
  | e :: l, i, h => by
    simp only [keysOk, List.map_cons, List.all_cons, Bool.and_eq_true] at h
    obtain ⟨hs, hkey⟩ := keyStep hk h.1
    cases hb : keyEq k e.key with
    | true =>
      rw [hb] at hs
      refine ⟨some (i, e.val), by simp only [Instr.findNow, hs], by simp only [hasM, List.map_cons, List.any_cons, hb, Bool.true_or, Option.isSome_some], by simp only [valM, List.map_cons, hb, Option.map_some], fun q h => (by cases h), fun j v h => ?_⟩
      simp only [Option.some.injEq, Prod.mk.injEq] at h
      obtain ⟨rfl, rfl⟩ := h
      refine ⟨Nat.le_refl _, ⟨e, by simp, hkey hb, rfl⟩, fun q => ?_⟩
      simp only [setM, List.map_cons, hb, Nat.sub_self, List.set_cons_zero]
    | false =>
      rw [hb] at hs
      obtain ⟨r, h1, h2, h3, h4, h5⟩ := findS_ok hk l (i + 1) h.2
      refine ⟨r, by simp only [Instr.findNow, hs]; exact h1, by simpa only [hasM, List.map_cons, List.any_cons, hb, Bool.false_or] using h2, by simpa only [valM, List.map_cons, hb] using h3, fun q hr => ?_, fun j v hr => ?_⟩
      · simp only [setM, List.map_cons, hb, h4 q hr, List.cons_append]
      · obtain ⟨k1, ⟨e', k2, k3⟩, k4⟩ := h5 j v hr
        have ej : j - i = (j - (i + 1)) + 1 := by omega
        refine ⟨by omega, ⟨e', by rw [ej, List.getElem?_cons_succ]; exact k2, k3⟩, fun q => ?_⟩
        simp only [setM, List.map_cons, hb, k4 q, ej, List.set_cons_succ]

theorem set_toList {α : Type} (l : List α) (i : Nat) (x : α) : (l.toArray.setIfInBounds i x).toList = l.set i x := by simp

theorem modify_map (arr : Array MapEntry) (i : Nat) (k v : Value) : ((arr.modify i fun e => { e with key := k, val := v }).toList.map fun e => (e.key, e.val)) = (arr.toList.map fun e => (e.key, e.val)).set i (k, v) := by
  apply List.ext_getElem?
  intro j
  simp only [List.getElem?_map, Array.getElem?_toList, Array.getElem?_modify, List.getElem?_set, List.length_map, Array.length_toList]
  by_cases hij : i = j
  · subst hij
    by_cases hi : i < arr.size
    · simp [hi]
    · simp [hi]
  · simp [hij]

/-- an own map's entries are others -/
theorem Post.mapSet {f : Fn} {nx : Nat} {z : Z} {w : World} {H : Heap} {S : Nat → Prop} {b : Nat} {es es' : List (Value × Value)} {arr' : Array MapEntry} {clock' : Nat} (hS : S b) (hr : Rel S f nx z w H) (hg0 : H.get b = .map es)
    (hno : ∀ b, nx ≤ b → ¬ (H.get b).live) (he : (arr'.toList.map fun e => (e.key, e.val)) = es') (hbo : BornOk arr' clock') {esc : Bool} :
    Post S f nx z w H f nx z { w with heap := w.heap.setIfInBounds (f b).k (.map arr' clock') } (H.put b (.map es')) esc := by
  have hl : (H.get b).live := by rw [hg0]; trivial
  obtain ⟨hb, hok⟩ := hr.own b hS hl
  have ht : (f b).t = 0 := (hok.map es hg0).1
  have hblk : ∀ k, k ≠ (f b).k → ({ w with heap := w.heap.setIfInBounds (f b).k (.map arr' clock') } : World).heap[k]? = w.heap[k]? := fun k hk => by simp [Ne.symm hk]
  have hother : ∀ k p, k ≠ (f b).k → ({ w with heap := w.heap.setIfInBounds (f b).k (.map arr' clock') } : World).cell? ⟨k, p, none⟩ = w.cell? ⟨k, p, none⟩ := fun k p hk => World.cell?_of_block (w := w) (hblk k hk)
  have hfro : ∀ k p, k ≠ (f b).k → ({ w with heap := w.heap.setIfInBounds (f b).k (.map arr' clock') } : World).frozen? ⟨k, p, none⟩ = w.frozen? ⟨k, p, none⟩ := fun k p hk => World.frozen?_of_block (w := w) (hblk k hk)
  have hget : ∀ c, (H.put b (.map es')).get c = if b = c then .map es' else H.get c := Heap.get_put H b _
  have hlive : ∀ c, ((H.put b (.map es')).get c).live → (H.get c).live := fun c hc => by
    rw [hget] at hc
    by_cases e : b = c
    · subst e; exact hl
    · simpa [e] using hc
  refine ⟨Nat.le_refl _, fun _ _ => rfl, fun _ _ _ h => h, fun _ _ _ h => .inl h, fun c _ hc => ?_, fun c _ hc => hlive c hc, ⟨fun c hc hcl => ?_, fun c d hc hd hcl hdl hne => ?_, fun k p v hv => ?_⟩, fun c hc hcl => ?_, ?_, fun _ mm hm hN c l hc hg x hx => ?_⟩
  · left; rw [hget]; rw [if_neg (fun (e : b = c) => hc (e ▸ hS))]
  · have hc' : S c := hc.resolve_right fun e => hno c e (hlive c hcl)
    refine ⟨(hr.own c hc' (hlive c hcl)).1, ?_⟩
    by_cases e : b = c
    · subst e
      rw [hget, if_pos rfl]
      refine ⟨by simpa using hok.lt, hok.own, fun p hp => by omega, fun m' i' j' x hx => by simp [Ob.at] at hx, fun es0 he0 => ⟨ht, arr', clock', ?_, ?_, hbo⟩⟩
      · have := hok.lt
        simp [this]
      · cases he0; exact he
    · rw [hget, if_neg e]
      have hcl0 := hlive c hcl
      have hk : (f c).k ≠ (f b).k := hr.inj c b hc' hS hcl0 hl (Ne.symm e)
      obtain ⟨_, hc0⟩ := hr.own c hc' hcl0
      refine ⟨by simpa using hc0.lt, hc0.own, fun p hp => ?_, fun m' i' j' x hx => ?_, fun es he => by rw [hblk _ hk]; exact hc0.map es he⟩
      · rw [hfro _ _ hk, hother _ _ hk]; exact hc0.room p hp
      · obtain ⟨h1, v, h2, h3⟩ := hc0.cell m' i' j' x hx
        exact ⟨h1, v, by simp only [ad]; rw [hother _ _ hk]; exact h2, h3⟩
  · have hc' : S c := hc.resolve_right fun e => hno c e (hlive c hcl)
    have hd' : S d := hd.resolve_right fun e => hno d e (hlive d hdl)
    exact hr.inj c d hc' hd' (hlive c hcl) (hlive d hdl) hne
  · have hv' := hr.zok k p v hv
    have hk : k ≠ (f b).k := fun e => by rw [e, hok.own] at hv; cases hv
    rw [hother _ _ hk]; exact hv'
  · exact absurd (hlive c hcl) (hno c hc)
  · exact ⟨by simp, rfl, rfl, rfl, fun k _ hk => hblk k fun e => hk ⟨b, hS, hl, e.symm⟩⟩
  · rw [hget] at hg
    by_cases e : b = c
    · subst e
      rw [if_pos rfl] at hg
      cases hg
    · rw [if_neg e] at hg
      exact hN c l hc hg x hx

/-- a new map -/
theorem Post.mapNew {f : Fn} {nx : Nat} {z : Z} {w : World} {H : Heap} {S : Nat → Prop} (hr : Rel S f nx z w H) (hno : ∀ b, nx ≤ b → ¬ (H.get b).live) {esc : Bool} :
    Post S f nx z w H (upd f nx ⟨w.heap.size, 0, 0⟩) (nx + 1) z (w.alloc (.map #[] 0)) ((nx, .map []) :: H) esc := by
  have hfr : Fr (img S f H) w (w.alloc (.map #[] 0)) := ⟨by simp, rfl, rfl, rfl, fun k hk _ => heap_alloc_old w _ k hk⟩
  have hfr0 : Fr (fun _ => False) w (w.alloc (.map #[] 0)) := ⟨by simp, rfl, rfl, rfl, fun k hk _ => heap_alloc_old w _ k hk⟩
  have hg : ∀ b, Heap.get ((nx, .map []) :: H) b = if nx = b then .map [] else H.get b := Heap.get_cons nx _ H
  have hold : ∀ b, (S b ∨ nx ≤ b) → (Heap.get ((nx, .map []) :: H) b).live → b = nx ∨ (b < nx ∧ S b ∧ (H.get b).live) := by
    intro b hb hl
    by_cases e : nx = b
    · exact .inl e.symm
    · rw [hg, if_neg e] at hl
      have : ¬ nx ≤ b := fun h => hno b h hl
      exact .inr ⟨by omega, hb.resolve_right this, hl⟩
  have hz0 : ∀ p, z w.heap.size p = none := fun p => by
    cases hv : z w.heap.size p with
    | none => rfl
    | some v => have := block_lt_of_cell (hr.zok _ _ _ hv); simp at this
  refine ⟨by omega, upd_ext _ _ _, fun _ _ _ h => h, fun _ _ _ h => .inl h, fun b hb _ => .inl (by rw [hg, if_neg (by omega)]), fun b hb hl => by rwa [hg, if_neg (by omega)] at hl, ⟨fun b hb hl => ?_, fun b c hb hc hl hl' hne => ?_, fun k p v hv => ?_⟩, fun b hb hl => ?_, hfr, fun _ m hm hN c l hc hgc x hx => ?_⟩
  · rcases hold b hb hl with rfl | ⟨hlt, hs, hl0⟩
    · rw [hg, if_pos rfl]
      refine ⟨by omega, ⟨by simp [upd_same], fun p => by rw [upd_same]; exact hz0 p, fun p hp => ?_, fun m i j x hx => by simp [Ob.at] at hx, fun es he => ⟨by simp [upd_same], #[], 0, ?_, ?_, BornOk.nil⟩⟩⟩
      · simp [upd_same] at hp
      · rw [upd_same]; exact (MapKept.heap_alloc w _).1
      · cases he; rfl
    · rw [hg, if_neg (by omega)]
      exact ⟨by omega, (hr.own b hs hl0).2.kept hlt hfr0 id (upd_ext _ _ _) (by omega) (fun _ _ _ h => h) (fun _ _ _ h => .inl h)⟩
  · rcases hold b hb hl with rfl | ⟨hlt, hs, hl0⟩
    · rcases hold c hc hl' with rfl | ⟨hlt', hs', hl0'⟩
      · exact absurd rfl hne
      · rw [upd_same, upd_ext _ _ _ _ hlt']
        have := (hr.own c hs' hl0').2.lt
        simp only
        omega
    · rcases hold c hc hl' with rfl | ⟨hlt', hs', hl0'⟩
      · rw [upd_same, upd_ext _ _ _ _ hlt]
        have := (hr.own b hs hl0).2.lt
        simp only
        omega
      · rw [upd_ext _ _ _ _ hlt, upd_ext _ _ _ _ hlt']
        exact hr.inj b c hs hs' hl0 hl0' hne
  · have h1 := hr.zok k p v hv
    rw [World.cell?_alloc_lt _ _ _ (block_lt_of_cell h1)]
    exact h1
  · rcases hold b (.inr hb) hl with rfl | ⟨hlt, _⟩
    · left; rw [upd_same]; exact Nat.le_refl _
    · omega
  · rw [hg, if_neg (by omega)] at hgc
    exact hN c l hc hgc x hx

def lkSV (ok : Bool) (v : Value) (b : Bool) : SV := match ok with | true => .tup [.one (.f (.lit v)), .one (.f (.lit (.bool b)))] | false => .v (.one (.f (.lit v)))

section ops
variable {P : Program} {G : Ctx} (hG : CtxOk P G) {call : CallF} {draw : Bool} {st : St} {o : Oper} {u : Out}
include hG

theorem op_makeMap {t : Nat} {r : Option Operand} (ho : o.op = .makeMap t r) {i : TI} (hi : G.ti t = some i) {kt et : Nat} (hk : i.kind = .map kt et) (hr : r = none ∨ ∃ x kd n, r = some x ∧ st.val x = .v (.one (.f (.lit (.int kd n)))))
    (h : (T.ret ⟨.one (.mp st.nx), (st.nx, .map []) :: st.H, st.nx + 1, false, [], [st.nx]⟩ : T Out).res = some u) : OpOk P o st u := by
  have hT := hG.ti t i hi
  have := T.ret_some h
  subst this
  intro f z w a ht hrel hno K Q hK
  obtain ⟨d, h1, h2, _, h0⟩ := hT.run_und w
  have := kindOf_map (h2.trans hk)
  subst this
  refine wp_value (v := .map (some w.heap.size)) (w' := w.alloc (.map #[] 0)) ?_ (hK _ z _ _ (Post.mapNew hrel hno) ⟨Nat.lt_succ_self _, by simp [upd_same]⟩)
  simp only [execOp, ho]
  refine run_v ?_
  rcases hr with rfl | ⟨x, kd, n, rfl, hx⟩
  · rfl
  · have hX := val_ok ht x
    rw [hx] at hX
    have hX := lit_ok hX
    simp only [Option.map_some, hX]
    simp [Instr.makeMap, h1, asInt, asIntOf, Sem.run_bind, Result.andThen]

theorem op_lenM {c : Call} (ho : o.op = .call c) (hc : c.callee = .builtin .len) {t0 : Nat} {r0 : List Nat} (hts : c.argTypes.toList = t0 :: r0) {b : Nat} (hargs : c.args.toList.map st.val = [.v (.one (.mp b))])
    (h : (evLenM G st t0 b).res = some u) : OpOk P o st u := by
  unfold evLenM at h
  split at h
  · rename_i ti hti
    split at h
    · rename_i kt et es hk hb
      have := T.ret_some h
      subst this
      intro f z w a ht hrel hno K Q hK
      obtain ⟨xv, hav, hxv⟩ := one_arg ht hargs
      obtain ⟨hb1, hX⟩ := hxv
      subst hX
      have hat : c.argTypes[0]? = some t0 := by
        have : c.argTypes.toList[0]? = some t0 := by rw [hts]; rfl
        simpa using this
      obtain ⟨d, h1, h2, _, h0⟩ := (hG.ti t0 ti hti).run_und w
      have := kindOf_map (h2.trans hk)
      subst this
      have hl : (st.H.get b).live := by rw [hb]; trivial
      obtain ⟨_, hok⟩ := hrel.own b (.inl (by simp)) hl
      obtain ⟨_, arr, clock, hw, he, hbo⟩ := hok.map es hb
      obtain ⟨kk, hrun⟩ := run_builtin (P := P) (a := a) (w := w) ho hc
      rw [hav] at hrun
      have hlen : arr.size = es.length := by rw [← he]; simp
      refine wp_value (v := .int .i64 es.length) (w' := w) ?_ (hK f z w _ (Post.refl hrel hno) (RF.lit _ rfl))
      rw [hrun]
      refine run_v ?_
      simp only [Builtin.len_, hat, List.getElem?_toArray, List.getElem?_cons_zero, Sem.run_bind, h1, Result.andThen_ok, MapKept.run_getObj_map hw, hlen]
      rfl
    · exact (T.bad_some h).elim
  · exact (T.bad_some h).elim

theorem op_lookup {t : Nat} {x y : Operand} {ok : Bool} (ho : o.op = .lookup t x y ok) {m : CV} {k : Value} (hx : st.val x = .v (.one m)) (hy : st.val y = .v (.one (.f (.lit k)))) (h : (evLookup G st t m k ok).res = some u) : OpOk P o st u := by
  unfold evLookup at h
  split at h
  · rename_i sz by' z0 kt et ag eq hi
    split at h
    · rename_i ki ei hki hei
      split at h
      · rename_i zv hkk hzero
        have hT := hG.ti t _ hi
        have hK := hG.ti kt ki hki
        have hE := hG.ti et ei hei
        obtain ⟨dk, hdk, hdk', _⟩ := hK.und
        have hkey := keyKind_ok hdk' hkk
        -- the value of what is not there
        have zero : ei.agg = false → ∀ w, (zeroValue et).run P w = .ok zv w ∧ zv.oneCell' = true := fun ha w => by
          obtain ⟨inf, q, e1, e2, e3, e4, e5, e6⟩ := hE.info'
          have hone : zv.oneCell' = true := by have := hE.one; rw [hzero] at this; simpa using this
          rw [hzero] at e5
          rw [ha] at e6
          have hq : q = zv := by cases q <;> first | (cases e6; done) | simpa [Value.cells] using e5
          refine ⟨?_, hone⟩
          simp [zeroValue, typeInfo, Sem.run_bind, Result.andThen, e1, e4, hq]
        have und : ∀ w, (underlying t).run P w = .ok (.map kt et) w := fun w => by
          obtain ⟨d, h1, h2, _, h0⟩ := hT.run_und w
          have := kindOf_map (h2.trans rfl)
          subst this
          exact h1
        -- what is told
        have tell : ∀ (r : Option (Nat × Value)) (fp : List Nat), (match r with
            | some (_, v) => T.need (oneCell v) (T.ret ⟨lkSV ok v true, st.H, st.nx, false, fp, []⟩ : T Out)
            | none => T.need (!ei.agg) (T.ret ⟨lkSV ok zv false, st.H, st.nx, false, fp, []⟩ : T Out)).res = some u →
            ∃ sv, u = ⟨sv, st.H, st.nx, false, fp, []⟩ ∧ ∀ (w : World) (kt' : TypeId) (f : Fn) (z : Z), ∃ v, (do
              let (v, ok') ← match r with
                | some (_, v) => pure (v, true)
                | none => pure (← zeroValue et, false)
              pure (if ok then .tuple #[v, .bool ok'] else v) : Sem Value).run P w = .ok v w ∧ RS f st.nx z sv v := by
          intro r fp h
          have two : ∀ (f : Fn) (z : Z) (v : Value) (b : Bool), v.oneCell' = true → RS f st.nx z (lkSV ok v b) (if ok then .tuple #[v, .bool b] else v) := fun f z v b hv => by
            cases ok with
            | true => exact ⟨_, rfl, RAs.cons (.lit _ hv) (RAs.cons (.lit _ rfl) RAs.nil)⟩
            | false => exact .lit _ hv
          cases r with
          | some p =>
            obtain ⟨h1, h2⟩ := T.need_some h
            exact ⟨_, (T.ret_some h2).symm, fun w _ f z => ⟨_, rfl, two f z p.2 true h1⟩⟩
          | none =>
            obtain ⟨h1, h2⟩ := T.need_some h
            refine ⟨_, (T.ret_some h2).symm, fun w _ f z => ?_⟩
            obtain ⟨z1, z2⟩ := zero (by simpa using h1) w
            exact ⟨if ok then .tuple #[zv, .bool false] else zv, by simp only [Sem.run_bind, z1, Result.andThen_ok]; rfl, two f z zv false z2⟩
        dsimp only at h
        cases m with
        | mp b =>
          simp only at h
          cases hb : st.H.get b with
          | map es =>
            rw [hb] at h
            simp only at h
            cases hsym : G.sym
            rotate_left
            · rw [hsym] at h
              dsimp only at h
              -- what is told of a map as a whole
              obtain ⟨v0, b0, hu, hin⟩ : ∃ v0 b0, u = ⟨lkSV ok v0 b0, st.H, st.nx, false, [b], []⟩ ∧ (keysOk k es = true ∧ b0 = hasM k es ∧ (∀ v, valM k es = some v → v0 = v ∧ v.oneCell' = true) ∧ (valM k es = none → v0 = zv ∧ ei.agg = false)) := by
                have noagg : ∀ (x : TK), ei.kind = x → (x = .bool ∨ ∃ kd, x = .int kd) → ei.agg = false := by
                  intro x hx hq
                  obtain ⟨d, e1, e2, e3⟩ := hE.und
                  rw [← e3]
                  have e4 := e2.trans hx
                  rcases hq with rfl | ⟨kd, rfl⟩
                  · have := kindOf_bool e4; subst this; rfl
                  · have := kindOf_int e4; subst this; rfl
                unfold lookS at h
                split at h
                · rename_i kd kd' n hkd
                  split at h
                  · rename_i hq
                    simp only [Bool.and_eq_true, decide_eq_true_eq, beq_iff_eq] at hq
                    obtain ⟨rfl, rfl⟩ := hq
                    obtain ⟨h1, h2⟩ := T.need_some h
                    simp only [Bool.and_eq_true] at h1
                    have hval : ∀ v, valM k es = some v → ∃ n, v = .int kd' n := by
                      intro v hv
                      have : ∀ (l : List (Value × Value)), intsOk kd' l = true → valM k l = some v → ∃ n, v = .int kd' n := by
                        intro l
                        induction l with
                        | nil => intro _ h; cases h
                        | cons e l ih =>
                          intro h1 h2
                          simp only [intsOk, List.all_cons, Bool.and_eq_true] at h1
                          simp only [valM] at h2
                          split at h2
                          · cases h2
                            have h1 := h1.1
                            split at h1
                            · rename_i kd2 m hm
                              have := of_decide_eq_true h1
                              subst this
                              exact ⟨m, hm⟩
                            · cases h1
                          · exact ih h1.2 h2
                      exact this es h1.2 hv
                    refine ⟨_, _, (T.ret_some h2).symm, h1.1, rfl, fun v hv => ?_, fun hv => ⟨by simp only [intM, hv], noagg _ hkd (.inr ⟨_, rfl⟩)⟩⟩
                    obtain ⟨n, rfl⟩ := hval v hv
                    exact ⟨by simp only [intM, hv], rfl⟩
                  · exact (T.bad_some h).elim
                · rename_i hkd
                  obtain ⟨h1, h2⟩ := T.need_some h
                  simp only [Bool.and_eq_true] at h1
                  have hval : ∀ v, valM k es = some v → ∃ n, v = .bool n := by
                    intro v hv
                    have : ∀ (l : List (Value × Value)), trusOk l = true → valM k l = some v → ∃ n, v = .bool n := by
                      intro l
                      induction l with
                      | nil => intro _ h; cases h
                      | cons e l ih =>
                        intro h1 h2
                        simp only [trusOk, List.all_cons, Bool.and_eq_true] at h1
                        simp only [valM] at h2
                        split at h2
                        · cases h2
                          have h1 := h1.1
                          split at h1
                          · rename_i m hm
                            exact ⟨m, hm⟩
                          · cases h1
                        · exact ih h1.2 h2
                    exact this es h1.2 hv
                  refine ⟨_, _, (T.ret_some h2).symm, h1.1, rfl, fun v hv => ?_, fun hv => ⟨by simp only [truM, hv], noagg _ hkd (.inl rfl)⟩⟩
                  obtain ⟨n, rfl⟩ := hval v hv
                  exact ⟨by simp only [truM, hv], rfl⟩
                · exact (T.bad_some h).elim
              subst hu
              obtain ⟨hq, rfl, hs1, hs2⟩ := hin
              intro f z w a ht hrel hno K Q hK
              have hX := val_ok ht x
              have hY := val_ok ht y
              rw [hx] at hX
              rw [hy] at hY
              have hY := lit_ok hY
              obtain ⟨hb1, hX⟩ := hX
              have hl : (st.H.get b).live := by rw [hb]; trivial
              obtain ⟨_, hok⟩ := hrel.own b (.inl (by simp)) hl
              obtain ⟨_, arr, clock, hw, he, hbo⟩ := hok.map es hb
              rw [← he] at hq
              obtain ⟨r, hf, hh, hv, _, _⟩ := findS_ok hkey arr.toList 0 hq
              rw [he] at hh hv
              have two : ∀ (v : Value) (b : Bool), v.oneCell' = true → RS f st.nx z (lkSV ok v b) (if ok then .tuple #[v, .bool b] else v) := fun v b hv => by
                cases ok with
                | true => exact ⟨_, rfl, RAs.cons (.lit _ hv) (RAs.cons (.lit _ rfl) RAs.nil)⟩
                | false => exact .lit _ hv
              cases r with
              | none =>
                obtain ⟨rfl, ha⟩ := hs2 hv
                obtain ⟨z1, z2⟩ := zero ha w
                refine wp_value (v := if ok then .tuple #[v0, .bool false] else v0) (w' := w) ?_ (hK f z w _ (Post.refl hrel hno) (by rw [hh]; exact two v0 false z2))
                simp only [execOp, ho, hX, hY]
                refine run_v ?_
                simp only [Instr.lookup, Sem.run_bind, und w, Result.andThen_ok, MapKept.run_getObj_map hw, Sem.run_pure, MapKept.run_checkKey hdk hkey, MapKept.run_findKey hdk hf, z1]
              | some p =>
                obtain ⟨rfl, hone⟩ := hs1 p.2 hv
                refine wp_value (v := if ok then .tuple #[p.2, .bool true] else p.2) (w' := w) ?_ (hK f z w _ (Post.refl hrel hno) (by rw [hh]; exact two p.2 true hone))
                simp only [execOp, ho, hX, hY]
                refine run_v ?_
                simp only [Instr.lookup, Sem.run_bind, und w, Result.andThen_ok, MapKept.run_getObj_map hw, Sem.run_pure, MapKept.run_checkKey hdk hkey, MapKept.run_findKey hdk hf]
            rw [hsym] at h
            dsimp only at h
            obtain ⟨r, hr, h⟩ := T.bind_some h
            obtain ⟨sv, rfl, hv⟩ := tell r [b] h
            intro f z w a ht hrel hno K Q hK
            have hX := val_ok ht x
            have hY := val_ok ht y
            rw [hx] at hX
            rw [hy] at hY
            have hY := lit_ok hY
            obtain ⟨hb1, hX⟩ := hX
            have hl : (st.H.get b).live := by rw [hb]; trivial
            obtain ⟨_, hok⟩ := hrel.own b (.inl (by simp)) hl
            obtain ⟨_, arr, clock, hw, he, hbo⟩ := hok.map es hb
            rw [← he] at hr
            obtain ⟨hf, _⟩ := findM_ok hkey arr.toList 0 r hr
            obtain ⟨v, hv1, hv2⟩ := hv w kt f z
            refine wp_value (v := v) (w' := w) ?_ (hK f z w v (Post.refl hrel hno) hv2)
            simp only [execOp, ho, hX, hY]
            refine run_v ?_
            simp only [Instr.lookup, Sem.run_bind, und w, Result.andThen_ok, MapKept.run_getObj_map hw, Sem.run_pure, MapKept.run_checkKey hdk hkey, MapKept.run_findKey hdk hf]
            cases r with
            | none => simpa only [Sem.run_bind] using hv1
            | some p => simpa only [Sem.run_bind] using hv1
          | cells l => rw [hb] at h; exact (T.bad_some h).elim
          | arr live sz n e => rw [hb] at h; exact (T.bad_some h).elim
          | dead => rw [hb] at h; exact (T.bad_some h).elim
        | f xv =>
          split at h
          · rename_i heq; cases heq
          · rename_i heq
            cases heq
            obtain ⟨sv, rfl, hv⟩ := tell none [] h
            intro f z w a ht hrel hno K Q hK
            have hX := val_ok ht x
            have hY := val_ok ht y
            rw [hx] at hX
            rw [hy] at hY
            have hY := lit_ok hY
            have hX := lit_ok hX
            obtain ⟨v, hv1, hv2⟩ := hv w kt f z
            refine wp_value (v := v) (w' := w) ?_ (hK f z w v (Post.refl hrel hno) hv2)
            simp only [execOp, ho, hX, hY]
            refine run_v ?_
            simp only [Instr.lookup, Sem.run_bind, und w, Result.andThen_ok, Sem.run_pure, MapKept.run_checkKey hdk hkey]
            rw [MapKept.run_findKey (a := none) hdk rfl]
            simpa only [Sem.run_bind, Result.andThen_ok] using hv1
          · exact (T.bad_some h).elim
        | ptr => exact (T.bad_some h).elim
        | sl => exact (T.bad_some h).elim
        | fn => exact (T.bad_some h).elim
      · exact (T.bad_some h).elim
    · exact (T.bad_some h).elim
  · exact (T.bad_some h).elim

theorem op_mapUpdate {t : Nat} {x y v : Operand} (ho : o.op = .mapUpdate t x y v ∨ o.op = .insert t x y v) {m : CV} {k q : Value} (hx : st.val x = .v (.one m)) (hy : st.val y = .v (.one (.f (.lit k)))) (hv : st.val v = .v (.one (.f (.lit q))))
    (h : (evMapUpdate G st t m k q).res = some u) : OpOk P o st u := by
  unfold evMapUpdate at h
  split at h
  · rename_i sz by' z0 kt et ag eq hi
    split at h
    · rename_i ki hki
      split at h
      · rename_i b hkk
        split at h
        · rename_i es hb
          have hT := hG.ti t _ hi
          have hK := hG.ti kt ki hki
          obtain ⟨dk, hdk, hdk', _⟩ := hK.und
          have hkey := keyKind_ok hdk' hkk
          have ex : ∀ a : Act, execOp a.eval o = (do Instr.mapUpdate t (a.eval x) (a.eval y) (a.eval v); pure Next.skip : Sem Next) := fun a => by
            rcases ho with ho | ho <;> simp only [execOp, ho] <;> rfl
          cases hsym : G.sym
          rotate_left
          · rw [hsym] at h
            dsimp only at h
            obtain ⟨hq, h⟩ := T.need_some h
            rw [Heap.putK_eq] at h
            have := T.ret_some h
            subst this
            intro f z w a ht hrel hno K Q hK
            obtain ⟨d, h1, h2, _, h0⟩ := hT.run_und w
            have := kindOf_map (h2.trans rfl)
            subst this
            have hX := val_ok ht x
            have hY := val_ok ht y
            have hV := val_ok ht v
            rw [hx] at hX
            rw [hy] at hY
            rw [hv] at hV
            have hY := lit_ok hY
            have hV := lit_ok hV
            obtain ⟨hb1, hX⟩ := hX
            have hl : (st.H.get b).live := by rw [hb]; trivial
            have hS : Sx [b] [b] b := .inl (by simp)
            obtain ⟨_, hok⟩ := hrel.own b hS hl
            obtain ⟨_, arr, clock, hw, he, hbo⟩ := hok.map es hb
            rw [← he] at hq
            obtain ⟨r, hf, _, _, hf1, hf2⟩ := findS_ok hkey arr.toList 0 hq
            cases r with
            | none =>
              refine wp_skip' (w' := { w with heap := w.heap.setIfInBounds (f b).k (.map (arr.push { key := k, val := q, born := clock }) (clock + 1)) }) ?_ (hK f z _ undef (Post.mapSet hS hrel hb hno ?_ (hbo.push _ _)) trivial)
              · rw [ex, hX, hY, hV]
                refine run_u ?_
                simp only [Instr.mapUpdate, Sem.run_bind, h1, Result.andThen_ok, MapKept.run_getObj_map hw, MapKept.run_checkKey hdk hkey, MapKept.run_findKey hdk hf]
                exact MapKept.run_setObj_map _ hw
              · rw [← he, hf1 q rfl]
                simp
            | some p =>
              obtain ⟨i, pv⟩ := p
              obtain ⟨_, ⟨e, he1, he2, _⟩, he3⟩ := hf2 i pv rfl
              rw [Nat.sub_zero] at he1
              have he1 : arr[i]? = some e := by simpa using he1
              refine wp_skip' (w' := { w with heap := w.heap.setIfInBounds (f b).k (.map (arr.modify i fun e => { e with key := k, val := q }) clock) }) ?_ (hK f z _ undef (Post.mapSet hS hrel hb hno ?_ (hbo.modify _ _ _)) trivial)
              · rw [ex, hX, hY, hV]
                refine run_u ?_
                simp only [Instr.mapUpdate, Sem.run_bind, h1, Result.andThen_ok, MapKept.run_getObj_map hw, MapKept.run_checkKey hdk hkey, MapKept.run_findKey hdk hf, he1, Option.map_some, Option.getD_some, he2, MapKept.run_keyThatStays hkey]
                exact MapKept.run_setObj_map _ hw
              · rw [modify_map, ← he, he3 q, Nat.sub_zero]
          rw [hsym] at h
          dsimp only at h
          obtain ⟨r, hr, h⟩ := T.bind_some h
          rw [Heap.putK_eq] at h
          have := T.ret_some h
          subst this
          intro f z w a ht hrel hno K Q hK
          obtain ⟨d, h1, h2, _, h0⟩ := hT.run_und w
          have := kindOf_map (h2.trans rfl)
          subst this
          have hX := val_ok ht x
          have hY := val_ok ht y
          have hV := val_ok ht v
          rw [hx] at hX
          rw [hy] at hY
          rw [hv] at hV
          have hY := lit_ok hY
          have hV := lit_ok hV
          obtain ⟨hb1, hX⟩ := hX
          have hl : (st.H.get b).live := by rw [hb]; trivial
          have hS : Sx [b] [b] b := .inl (by simp)
          obtain ⟨_, hok⟩ := hrel.own b hS hl
          obtain ⟨_, arr, clock, hw, he, hbo⟩ := hok.map es hb
          rw [← he] at hr
          obtain ⟨hf, hf2⟩ := findM_ok hkey arr.toList 0 r hr
          have ex : execOp a.eval o = (do Instr.mapUpdate t (a.eval x) (a.eval y) (a.eval v); pure Next.skip : Sem Next) := by
            rcases ho with ho | ho <;> simp only [execOp, ho] <;> rfl
          cases r with
          | none =>
            refine wp_skip' (w' := { w with heap := w.heap.setIfInBounds (f b).k (.map (arr.push { key := k, val := q, born := clock }) (clock + 1)) }) ?_ (hK f z _ undef (Post.mapSet hS hrel hb hno ?_ (hbo.push _ _)) trivial)
            · rw [ex, hX, hY, hV]
              refine run_u ?_
              simp only [Instr.mapUpdate, Sem.run_bind, h1, Result.andThen_ok, MapKept.run_getObj_map hw, MapKept.run_checkKey hdk hkey, MapKept.run_findKey hdk hf]
              exact MapKept.run_setObj_map _ hw
            · simp [he]
          | some p =>
            obtain ⟨i, pv⟩ := p
            obtain ⟨_, e, he1, he2, _⟩ := hf2 i pv rfl
            rw [Nat.sub_zero] at he1
            have he1 : arr[i]? = some e := by simpa using he1
            refine wp_skip' (w' := { w with heap := w.heap.setIfInBounds (f b).k (.map (arr.modify i fun e => { e with key := k, val := q }) clock) }) ?_ (hK f z _ undef (Post.mapSet hS hrel hb hno ?_ (hbo.modify _ _ _)) trivial)
            · rw [ex, hX, hY, hV]
              refine run_u ?_
              simp only [Instr.mapUpdate, Sem.run_bind, h1, Result.andThen_ok, MapKept.run_getObj_map hw, MapKept.run_checkKey hdk hkey, MapKept.run_findKey hdk hf, he1, Option.map_some, Option.getD_some, he2, MapKept.run_keyThatStays hkey]
              exact MapKept.run_setObj_map _ hw
            · rw [modify_map, he]
        · exact (T.bad_some h).elim
      · exact (T.bad_some h).elim
    · exact (T.bad_some h).elim
  · exact (T.bad_some h).elim

end ops

end Go.Proofs.YtbobakclbdaepaaGreat.En
