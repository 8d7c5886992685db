/- The engine, part 11: the last operations; all of them. -/
import Derived.Test.YtpidkmegakdohaaGreatK10
namespace Go.Proofs.YtpidkmegakdohaaGreat.Kn
open Go
set_option linter.unusedVariables false
set_option linter.unusedSimpArgs false

section ops
variable {P : Program} {G : Ctx} (hG : CtxOk P G) {call : CallF} {draw : Bool} {st : St} {o : Oper} {u : Out}

theorem maxGo_ok {mx : Bool} {f : Fn} {nx : Nat} {z : Z} {k : IntKind} {w : World} : ∀ (l : List SV) (vs : List Value) (a : Int) (r : CV), (evMax.go mx k a l).res = some r → l.length = vs.length → (∀ (i : Nat) x v, l[i]? = some x → vs[i]? = some v → RS f nx z x v) →
    ∃ q, (vs.foldlM (match mx with | true => Builtin.max2 | false => Builtin.min2) (.int k a)).run P w = .ok q w ∧ RC f nx z r q
  | [], [], a, r, h, _, _ => by
    have h := T.ret_some h
    subst h
    exact ⟨_, rfl, RF.lit _ rfl⟩
  | [], _ :: _, _, _, _, h, _ => by simp at h
  | _ :: _, [], _, _, _, h, _ => by simp at h
  | x :: l, v :: vs, a, r, h, hl, hv => by
    unfold evMax.go at h
    split at h
    · cases ‹_ :: _ = []›
    · rename_i k' b r' heq
      simp only [List.cons.injEq] at heq
      obtain ⟨rfl, rfl⟩ := heq
      have := lit_ok (hv 0 _ v rfl rfl)
      subst this
      obtain ⟨q, h1, h2⟩ := maxGo_ok l vs _ r h (by simpa using hl) (fun i x v hx hv' => hv (i + 1) x v (by simpa using hx) (by simpa using hv'))
      refine ⟨q, ?_, h2⟩
      rw [List.foldlM_cons, Sem.run_bind]
      cases mx with
      | true => simp only [Builtin.max2, Sem.run_pure, Result.andThen_ok]; exact h1
      | false => simp only [Builtin.min2, Sem.run_pure, Result.andThen_ok]; exact h1
    · exact (T.bad_some h).elim

theorem op_max {c : Call} (ho : o.op = .call c) {mx : Bool} (hc : c.callee = .builtin (match mx with | true => .max | false => .min))
    (h : ((evMax mx (c.args.toList.map st.val)).bind fun v => pure1 st (.one v)).res = some u) : OpOk P o st u := by
  obtain ⟨r, hr, h⟩ := T.bind_some h
  have := T.ret_some h
  subst this
  refine OpOk.pure fun f z w a ht => ?_
  unfold evMax at hr
  split at hr
  · rename_i k n l hl
    obtain ⟨x, xs, hx⟩ : ∃ x xs, c.args.toList = x :: xs := by
      cases hq : c.args.toList with
      | nil => rw [hq] at hl; cases hl
      | cons x xs => exact ⟨x, xs, rfl⟩
    rw [hx] at hl
    simp only [List.map_cons, List.cons.injEq] at hl
    have h0 := val_ok ht x
    rw [hl.1] at h0
    have h0 := lit_ok h0
    have hrel : ∀ (i : Nat) y v, (xs.map st.val)[i]? = some y → (xs.map a.eval)[i]? = some v → RS f st.nx z y v := by
      intro i y v hy hv
      simp only [List.getElem?_map] at hy hv
      cases hq : xs[i]? with
      | none => rw [hq] at hy; cases hy
      | some q =>
        rw [hq] at hy hv
        simp only [Option.map_some, Option.some.injEq] at hy hv
        subst hy hv
        exact val_ok ht q
    rw [← hl.2] at hr
    obtain ⟨q, h1, h2⟩ := maxGo_ok (P := P) (w := w) _ (xs.map a.eval) n r hr (by simp) hrel
    refine ⟨q, ?_, h2⟩
    have hargs : (c.args.map a.eval).toList = .int k n :: xs.map a.eval := by
      simp [hx, h0]
    cases mx with
    | true =>
      obtain ⟨kk, hrun⟩ := run_builtin (P := P) (a := a) (w := w) ho hc
      rw [hrun]
      refine run_v ?_
      simp only [Builtin.max_, hargs]
      exact h1
    | false =>
      obtain ⟨kk, hrun⟩ := run_builtin (P := P) (a := a) (w := w) ho hc
      rw [hrun]
      refine run_v ?_
      simp only [Builtin.min_, hargs]
      exact h1
  · exact (T.bad_some hr).elim

theorem addrs?_ok {f : Fn} {z : Z} {st : St} {a : Act} (ht : TR f st.nx z st.sl a.tmps) : ∀ (l : List Operand) (r : List (Nat × Nat × Nat × Nat)), addrs? (l.map st.val) = some r →
    l.map a.eval = r.map (fun x => Value.pointer (some (ad f x.1 x.2.1 x.2.2.1 x.2.2.2))) ∧ ∀ x ∈ r, x.1 < st.nx
  | [], r, h => by
    simp only [List.map_nil, addrs?, Option.some.injEq] at h
    subst h
    exact ⟨rfl, fun x hx => by cases hx⟩
  | y :: l, r, h => by
    simp only [List.map_cons] at h
    unfold addrs? at h
    split at h
    · cases ‹_ :: _ = []›
    · rename_i b m i j r' heq
      simp only [List.cons.injEq] at heq
      obtain ⟨h1, rfl⟩ := heq
      split at h
      · rename_i q hq
        simp only [Option.some.injEq] at h
        subst h
        obtain ⟨h2, h3⟩ := addrs?_ok ht l q hq
        have hv := val_ok ht y
        rw [h1] at hv
        obtain ⟨hb, hv⟩ := hv
        refine ⟨by simp only [List.map_cons, hv, h2], fun x hx => ?_⟩
        rcases List.mem_cons.1 hx with rfl | hx
        · exact hb
        · exact h3 x hx
      · cases h
    · cases h

theorem op_makeFunc {fn : Go.Fn} {first captured : Array Operand} (ho : o.op = .makeFunc fn first captured) {g : Nat} (hfn : fn = .func g) (hf : first.toList = []) {l : List (Nat × Nat × Nat × Nat)} (hl : addrs? (captured.toList.map st.val) = some l)
    (h : (pure1 st (.one (.fn g l))).res = some u) : OpOk P o st u := by
  have := T.ret_some h
  subst this
  refine OpOk.pure fun f z w a ht => ?_
  obtain ⟨h1, h2⟩ := addrs?_ok ht captured.toList l hl
  refine ⟨.func fn (first.map a.eval) (captured.map a.eval), ?_, ?_, h2⟩
  · simp only [execOp, ho]
    exact run_v rfl
  · have e1 : first.map a.eval = #[] := by apply Array.ext'; simp [hf]
    have e2 : captured.map a.eval = (l.map fun x => Value.pointer (some (ad f x.1 x.2.1 x.2.2.1 x.2.2.2))).toArray := by apply Array.ext'; simp [h1]
    rw [e1, e2, hfn]

theorem op_extract {x : Operand} {i : Nat} (ho : o.op = .extract x i) {l : List AV} (hx : st.val x = .tup l) {v : AV} (hv : l[i]? = some v) (h : (pure1 st (.v v)).res = some u) : OpOk P o st u := by
  have := T.ret_some h
  subst this
  refine OpOk.pure fun f z w a ht => ?_
  have h1 := val_ok ht x
  rw [hx] at h1
  obtain ⟨vs, h1, h2, h3⟩ := h1
  have hlt : i < vs.toList.length := by rw [← h2]; exact (List.getElem?_eq_some_iff.1 hv).1
  have hlt' : i < vs.size := by simpa using hlt
  refine ⟨vs[i], ?_, h3 i v _ hv (by simp [hlt'])⟩
  simp only [execOp, ho, h1]
  refine run_v ?_
  simp [Instr.extract, hlt']

include hG

theorem op_makeSlice {t : Nat} {lo co : Operand} (ho : o.op = .makeSlice t lo co) {ti : TI} (hi : G.ti t = some ti) {e : Nat} (hk : ti.kind = .slice e) {l c : Int} (hl : st.val lo = .v (.one (.f (.lit (.int .i64 l))))) (hc : st.val co = .v (.one (.f (.lit (.int .i64 c)))))
    {ei : TI} (he : G.ti e = some ei)
    (h : (T.need (decide (0 ≤ l ∧ l ≤ c ∧ c * ei.bytes ≤ 281474976710656 ∧ c ≤ 9223372036854775807)) (match Nat.beq ei.size 0, G.sym with
        | true, _ => .bad
        | false, false => newBlock st (List.replicate c.toNat (zeros ei)).flatten fun b => .one (.sl false b 0 0 0 l.toNat c.toNat true ei.size)
        | false, true => st.H.putK st.nx (.arr true ei.size c.toNat fun _ => ei.zero.map .lit) fun H => .ret ⟨.one (.sl false st.nx ei.size 0 0 l.toNat c.toNat true ei.size), H, st.nx + 1, false, [], [st.nx]⟩)).res = some u) : OpOk P o st u := by
  have hT := hG.ti t ti hi
  have hE := hG.ti e ei he
  obtain ⟨hn, h⟩ := T.need_some h
  simp only [decide_eq_true_eq] at hn
  obtain ⟨l0, lc, cb, c63⟩ := hn
  have hwl : IntKind.i64.wrap l = l := IntWalk.i64_in l ⟨by omega, by omega⟩
  have hwc : IntKind.i64.wrap c = c := IntWalk.i64_in c ⟨by omega, c63⟩
  -- the run
  have run : ∀ (f : Fn) (z : Z) (w : World) (a : Act), TR f st.nx z st.sl a.tmps → ∃ cs : Array Value, cs.toList = (List.replicate c.toNat ei.zero).flatten ∧
      (execOp a.eval o).run P w = .ok (.value (.slice (some ⟨w.heap.size, 0, none⟩) l.toNat c.toNat)) (w.alloc (.cells cs e)) := by
    intro f z w a ht
    have hL := val_ok ht lo
    have hC := val_ok ht co
    rw [hl] at hL
    rw [hc] at hC
    have hL := lit_ok hL
    have hC := lit_ok hC
    obtain ⟨d, h1, h2, _, h0⟩ := hT.run_und w
    have := kindOf_slice (h2.trans hk)
    subst this
    obtain ⟨x, hx1, hx2, hx3⟩ := hE.run_typeInfo w
    obtain ⟨zv, hz1, hz2⟩ := hE.run_zero w
    have hzz : zv.cells = ei.zero.toArray := by rw [← hz2]
    have hzl : ei.zero.toArray.size = ei.size := by simpa using hE.len
    have hbn : ¬ ((x.bytes : Int) * c > 2 ^ 48) := by
      rw [hx3, Int.mul_comm]
      omega
    have hbl : (x.bytes : Int) * l ≤ (x.bytes : Int) * c := Int.mul_le_mul_of_nonneg_left lc (by omega)
    have fin : ∀ q, (Instr.makeSlice t (.int .i64 l) (.int .i64 c)).run P w = q → (execOp a.eval o).run P w = (q.andThen fun v w' => .ok (.value v) w') := by
      intro q hq
      simp only [execOp, ho, hL, hC, Sem.run_bind, hq]
      rfl
    have tooL : (decide (c < 0) || decide ((x.bytes : Int) * c > 2 ^ 48)) = false := by simp; omega
    by_cases h0 : c.toNat * ei.size = 0
    · refine ⟨#[], ?_, ?_⟩
      · have h9 : (List.replicate c.toNat ei.zero).flatten.length = c.toNat * ei.size := by simp [hE.len]
        rw [h0] at h9
        rw [List.length_eq_zero_iff.1 h9]
      · rw [fin _ rfl]
        simp only [Instr.makeSlice, Sem.run_bind, h1, Result.andThen_ok, asInt, asIntOf, Sem.run_pure, hx1, hwl, hwc]
        rw [if_neg (by simp only [Bool.or_eq_true, decide_eq_true_eq, not_or]; omega)]
        simp only [Sem.run_bind, run_askRoom, Result.andThen_ok, hE.run_sizeOf w]
        rw [if_pos h0]
        have hr0 : (Array.range 0 : Array Nat) = #[] := Array.ext' (by simp)
        simp only [Sem.run_bind, Sem.run_pure, Result.andThen_ok, h0, hr0, Array.map_empty, run_newRow]
    · refine ⟨(Array.range (c.toNat * ei.size)).map (ei.zero.toArray[· % ei.zero.toArray.size]!), ?_, ?_⟩
      · have := repl_zero ei.zero.toArray c.toNat (by rw [hzl]; intro h; simp [h] at h0)
        rw [hzl] at this ⊢
        exact this
      · rw [fin _ rfl]
        simp only [Instr.makeSlice, Sem.run_bind, h1, Result.andThen_ok, asInt, asIntOf, Sem.run_pure, hx1, hwl, hwc]
        rw [if_neg (by simp only [Bool.or_eq_true, decide_eq_true_eq, not_or]; omega)]
        simp only [Sem.run_bind, run_askRoom, Result.andThen_ok, hE.run_sizeOf w]
        rw [if_neg h0]
        simp only [Sem.run_bind, hz1, Sem.run_pure, Result.andThen_ok, run_newRow, hzz]
  have hlen : ∀ cs : Array Value, cs.toList = (List.replicate c.toNat ei.zero).flatten → cs.size = c.toNat * ei.size := by
    intro cs hcs
    have : cs.toList.length = c.toNat * ei.size := by rw [hcs]; simp [hE.len]
    simpa using this
  have hval : ∀ (f : Fn) (z : Z) (w : World) (m : Nat) (cs : Array Value), cs.toList = (List.replicate c.toNat ei.zero).flatten →
      RS (upd f st.nx ⟨w.heap.size, 0, cs.size⟩) (st.nx + 1) z (.one (.sl false st.nx m 0 0 l.toNat c.toNat true ei.size)) (.slice (some ⟨w.heap.size, 0, none⟩) l.toNat c.toNat) := fun f z w m cs hcs =>
    ⟨Nat.lt_succ_self _, (fun h => by cases h), fun _ => ⟨c.toNat, by simp [ad, upd_same], by omega, Nat.le_refl _, fun _ => rfl, by rw [upd_same, hlen cs hcs]; simp⟩⟩
  split at h
  · exact (T.bad_some h).elim
  · refine OpOk.block h fun f z w a ht => ?_
    obtain ⟨cs, hcs, hrun⟩ := run f z w a ht
    exact ⟨cs, e, _, hrun, by rw [hcs]; exact (RL.lits hE.one).repl _, hval f z w 0 cs hcs⟩
  · rw [Heap.putK_eq] at h
    have h := T.ret_some h
    subst h
    intro f z w a ht hr hno K Q hk
    obtain ⟨cs, hcs, hrun⟩ := run f z w a ht
    have hone : ∀ v ∈ cs.toList, v.oneCell' = true := by
      rw [hcs]
      intro v hv
      rw [List.mem_flatten] at hv
      obtain ⟨q, hq, hv⟩ := hv
      rw [List.mem_replicate] at hq
      rw [hq.2] at hv
      have := hE.one
      rw [List.all_eq_true] at this
      exact this v hv
    refine wp_value hrun (hk _ z _ _ (Post.alloc hr hno _ cs e id hone fun m i j x hx => ?_) (hval f z w ei.size cs hcs))
    simp only [Ob.at] at hx
    split at hx
    · rename_i hz
      obtain ⟨_, rfl, hi', hj⟩ := hz
      simp only [List.getElem?_map] at hx
      cases hq : ei.zero[j]? with
      | none => rw [hq] at hx; cases hx
      | some q =>
        rw [hq] at hx
        simp only [Option.map_some, Option.some.injEq] at hx
        subst hx
        refine ⟨q, ?_, RF.lit q ?_⟩
        · have : cs.toList[i * ei.size + j]? = some q := by
            rw [hcs]
            have hlen : ei.size = ei.zero.length := hE.len.symm
            have key : ∀ (n i : Nat), i < n → (List.replicate n ei.zero).flatten[i * ei.zero.length + j]? = some q := by
              intro n
              induction n with
              | zero => intro i hi; omega
              | succ n ih =>
                intro i hi
                rw [List.replicate_succ, List.flatten_cons]
                cases i with
                | zero => rw [Nat.zero_mul, Nat.zero_add, List.getElem?_append_left (List.getElem?_eq_some_iff.1 hq).1]; exact hq
                | succ i =>
                  rw [Nat.add_mul, Nat.one_mul, List.getElem?_append_right (by omega)]
                  rw [show i * ei.zero.length + ei.zero.length + j - ei.zero.length = i * ei.zero.length + j by omega]
                  exact ih i (by omega)
            rw [hlen]
            exact key _ i hi'
          simpa using this
        · have := hE.one
          rw [List.all_eq_true] at this
          exact this q (List.mem_of_getElem? hq)
    · cases hx

end ops
end Go.Proofs.YtpidkmegakdohaaGreat.Kn
