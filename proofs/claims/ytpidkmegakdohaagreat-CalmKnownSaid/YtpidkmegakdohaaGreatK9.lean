/- The engine, part 9: the builtins. -/
import Derived.Test.YtpidkmegakdohaaGreatK8
import Derived.Deep.AppendSrc
import Derived.Lib.AppendZerosOnto
namespace Go.Proofs.YtpidkmegakdohaaGreat.Kn
open Go
set_option linter.unusedVariables false
set_option linter.unusedSimpArgs false

theorem avs_args {f : Fn} {z : Z} {st : St} {a : Act} (ht : TR f st.nx z st.sl a.tmps) (c : Call) : ∀ (i : Nat) x, (c.args.toList.map st.val)[i]? = some x → ∃ v, (c.args.map a.eval)[i]? = some v ∧ RS f st.nx z x v := by
  intro i x hx
  simp only [List.getElem?_map] at hx
  cases hq : c.args.toList[i]? with
  | none => rw [hq] at hx; cases hx
  | some q =>
    rw [hq] at hx
    simp only [Option.map_some, Option.some.injEq] at hx
    subst hx
    refine ⟨a.eval q, ?_, val_ok ht q⟩
    have : c.args[i]? = some q := by simpa using hq
    simp [this]

theorem run_builtin {P : Program} {o : Oper} {c : Call} {b : Builtin} {a : Act} {w : World} (ho : o.op = .call c) (hc : c.callee = .builtin b) :
    ∃ k, (execOp a.eval o).run P w = (builtin b c.argTypes o.type k (c.args.map a.eval)).run P w := by
  refine ⟨c.args.map fun x => match x with | .const _ => true | _ => false, ?_⟩
  simp only [execOp, ho, resolve, hc, invoke, Sem.run_bind, Sem.run_pure, Result.andThen_ok]
  rfl

section ops
variable {P : Program} {G : Ctx} (hG : CtxOk P G) {call : CallF} {draw : Bool} {st : St} {o : Oper} {u : Out}

theorem Rel.wider {S S' : Nat → Prop} {f : Fn} {nx : Nat} {z : Z} {w : World} {H : Heap} (h : Rel S f nx z w H) (hs : ∀ b, S' b → S b) : Rel S' f nx z w H := h.less hs

/-- what is appended, as the model's builtin takes it -/
inductive Arg (P : Program) (ei : TI) (t1 : Nat) (v : Value) (n : Nat) (cs : List Value) (w : World) : Prop
  | zeros (kn kq : IntKind) (ht : P.underlying t1 = some (.int kn)) (hv : v = .int kq (n : Int)) (h48 : n * ei.bytes ≤ 281474976710656) (hcs : cs = (Builtin.zeroCells ei.zero.toArray n).toList)
  | cells (ht : (∃ e', P.underlying t1 = some (.slice e')) ∨ P.underlying t1 = some .string)
      (hrun : ∀ w' : World, (∀ x, w'.cell? x = w.cell? x) → (Builtin.firstCells ei.size n v).run P w' = .ok cs.toArray w' ∧ (Builtin.lenOf v).run P w' = .ok n w')

theorem Src.n_len {f : Fn} {nx : Nat} {z : Z} {sz : Nat} {s : Src} {vs : List Value} (h : SrcOk f nx z sz s vs) : vs.length = s.n * sz := h.len

theorem lenOf_any {P : Program} {v : Value} {n : Nat} {w : World} (h : (Builtin.lenOf v).run P w = .ok n w) (w' : World) : (Builtin.lenOf v).run P w' = .ok n w' := by
  cases v <;> simp [Builtin.lenOf] at h ⊢ <;> exact h

theorem Arg.src {ei : TI} {t1 : Nat} {v : Value} {n : Nat} {cs : List Value} {w : World} {i : TypeInfo} (hi : i.size = ei.size) (ht : (∃ e', P.underlying t1 = some (.slice e')) ∨ P.underlying t1 = some .string)
    (hrun : ∀ w' : World, (∀ x, w'.cell? x = w.cell? x) → (Builtin.firstCells ei.size n v).run P w' = .ok cs.toArray w' ∧ (Builtin.lenOf v).run P w' = .ok n w') (hlen : cs.length = n * ei.size) (hone : ∀ u ∈ cs, u.oneCell' = true) : Go.Src P i.size t1 v n cs w :=
  ⟨ht, fun w' => lenOf_any (hrun w fun _ => rfl).2 w', by rw [hi]; exact (hrun w fun _ => rfl).1, by rw [hi]; exact (hrun w.drew fun _ => rfl).1, by rw [hi]; exact hlen, hone⟩

theorem TIOk.exact {t : Nat} {i : TI} (h : TIOk P t i) : ∃ x zv, P.info? t = some x ∧ x.size = i.size ∧ x.bytes = i.bytes ∧ x.zero = some zv ∧ zv.cells = i.zero.toArray := by
  obtain ⟨x, zv, h1, h2, h3, h4, h5⟩ := h.info
  exact ⟨x, zv, h1, h2, h3, h4, by rw [← h5]⟩

theorem zeros_room {t tn ty e : Nat} {i : TypeInfo} {zv : Value} {kq kn : IntKind} (w : World) (ht : P.underlying t = some (.slice e)) (htn : P.underlying tn = some (.int kn)) (hi : P.info? e = some i) (hz : i.zero = some zv)
    (b off sLen sCap k : Nat) (h48 : k * i.bytes ≤ 281474976710656) (h63 : (k : Int) ≤ 9223372036854775807) (hsz : i.size ≠ 0) (hzl : zv.cells.size = i.size) (hone : ∀ u ∈ (Builtin.zeroCells zv.cells k).toList, u.oneCell' = true) (hroom : sLen + k ≤ sCap)
    (hc : ∀ j, j < k * i.size → (w.cell? ⟨b, off + sLen * i.size + j, none⟩).isSome = true) (hf : ∀ j, j < k * i.size → w.frozen? ⟨b, off + sLen * i.size + j, none⟩ = false) :
    (Builtin.append_ #[t, tn] ty #[.slice (some ⟨b, off, none⟩) sLen sCap, .int kq k]).run P w = .ok (.slice (some ⟨b, off, none⟩) (sLen + k) sCap) (w.setCells b (off + sLen * i.size) (Builtin.zeroCells zv.cells k).toList) := by
  have hw : IntKind.i64.wrap (k : Int) = k := by rw [IntKind.wrap_i64]; omega
  have h48i : ¬ (281474976710656 < (k : Int) * (i.bytes : Int)) := by
    rw [← Int.natCast_mul]
    omega
  have hneg : ¬ ((k : Int) < 0) := by omega
  have hl : (Builtin.zeroCells zv.cells k).toList.length = k * i.size := by simp [Builtin.zeroCells, hzl]
  have hst := run_storeCells_cells (P := P) b (off + sLen * i.size) (Builtin.zeroCells zv.cells k).toList 0 w (by rw [hl]; simpa using hc) (by rw [hl]; simpa using hf) hone
  simp only [Nat.add_zero] at hst
  by_cases hk : k = 0
  · subst hk
    have e0 : (Builtin.zeroCells zv.cells 0).toList = [] := by simp [Builtin.zeroCells]
    rw [e0] at hst ⊢
    have hroom' : sLen ≤ sCap := by omega
    have hw0 : IntKind.i64.wrap 0 = 0 := by rw [IntKind.wrap_i64]; omega
    simp [Builtin.append_, run_underlying ht, run_underlying htn, sizeOf, typeInfo, zeroValue, hi, hz, asInt, asIntOf, hw0, Addr.add_lit, storeCells, World.setCells, hroom']
  · have hns : ¬ (k * i.size = 0) := Nat.mul_ne_zero hk hsz
    simp [Builtin.append_, run_underlying ht, run_underlying htn, sizeOf, typeInfo, zeroValue, hi, hz, asInt, asIntOf, hw, hneg, hns, h48i, hroom, Addr.add_lit, hst]

theorem zeros_none {t tn ty e : Nat} {i : TypeInfo} {kq kn : IntKind} (w : World) (ht : P.underlying t = some (.slice e)) (htn : P.underlying tn = some (.int kn)) (hi : P.info? e = some i) (base : Option Addr) :
    (Builtin.append_ #[t, tn] ty #[.slice base 0 0, .int kq ((0 : Nat) : Int)]).run P w = .ok (.slice base 0 0) w := by
  have hw : IntKind.i64.wrap 0 = 0 := by rw [IntKind.wrap_i64]; omega
  cases base <;> simp [Builtin.append_, run_underlying ht, run_underlying htn, sizeOf, typeInfo, hi, asInt, asIntOf, hw, storeCells]

theorem cells_none {t tx ty e : Nat} {i : TypeInfo} (w : World) (ht : P.underlying t = some (.slice e)) (hk : (∃ e', P.underlying tx = some (.slice e')) ∨ P.underlying tx = some .string) (hi : P.info? e = some i) (base : Option Addr) {v : Value}
    (hl : (Builtin.lenOf v).run P w = .ok 0 w) (hf : (Builtin.firstCells i.size 0 v).run P w = .ok #[] w) :
    (Builtin.append_ #[t, tx] ty #[.slice base 0 0, v]).run P w = .ok (.slice base 0 0) w := by
  rcases hk with ⟨e', hk⟩ | hk <;> cases base <;> simp [Builtin.append_, run_underlying ht, run_underlying hk, sizeOf, typeInfo, hi, hl, hf, storeCells]

theorem zero_all {ei : TI} {e : Nat} (hE : TIOk P e ei) (k : Nat) : ∀ u ∈ (Builtin.zeroCells ei.zero.toArray k).toList, u.oneCell' = true := by
  intro u hu
  simp only [Builtin.zeroCells, Array.toList_map, List.mem_map, Array.toList_range, List.mem_range] at hu
  obtain ⟨q, hq, rfl⟩ := hu
  have := hE.one
  rw [List.all_eq_true] at this
  have hpos : 0 < ei.zero.toArray.size := Nat.pos_of_ne_zero fun e => by simp [e] at hq
  have hlt := Nat.mod_lt q hpos
  refine this _ ?_
  rw [getElem!_pos ei.zero.toArray _ hlt]
  simp

theorem zero_len {ei : TI} {e : Nat} (hE : TIOk P e ei) (k : Nat) : (Builtin.zeroCells ei.zero.toArray k).toList.length = k * ei.size := by
  simp [Builtin.zeroCells, hE.len]

/-- there is room -/
theorem app_room {t t1 ty e : Nat} {ei : TI} (hE : TIOk P e ei) (w : World) (ht : P.underlying t = some (.slice e)) {v : Value} {n : Nat} {cs : List Value} (ha : Arg P ei t1 v n cs w) (hlen : cs.length = n * ei.size) (hone : ∀ u ∈ cs, u.oneCell' = true)
    (hsz : ei.size ≠ 0) (hby : ei.bytes ≠ 0) (b off sLen sCap : Nat) (hroom : sLen + n ≤ sCap)
    (hc : ∀ j, j < n * ei.size → (w.cell? ⟨b, off + sLen * ei.size + j, none⟩).isSome = true) (hf : ∀ j, j < n * ei.size → w.frozen? ⟨b, off + sLen * ei.size + j, none⟩ = false) :
    (Builtin.append_ #[t, t1] ty #[.slice (some ⟨b, off, none⟩) sLen sCap, v]).run P w = .ok (.slice (some ⟨b, off, none⟩) (sLen + n) sCap) (w.setCells b (off + sLen * ei.size) cs) := by
  obtain ⟨x, zv, hx, h1, h2, h3, h4⟩ := hE.exact
  cases ha with
  | zeros kn kq htn hv h48 hcs =>
    subst hv
    subst hcs
    rw [← h4] at hone ⊢
    rw [← h1] at hsz hc hf ⊢
    have h63 : (n : Int) ≤ 9223372036854775807 := by
      have h5 : n * 1 ≤ n * ei.bytes := Nat.mul_le_mul_left _ (Nat.pos_of_ne_zero hby)
      rw [Nat.mul_one] at h5
      have := Nat.le_trans h5 h48
      omega
    exact zeros_room w ht htn hx h3 b off sLen sCap n (by rw [h2]; exact h48) h63 hsz (by rw [h4, h1]; simp [hE.len]) hone hroom hc hf
  | cells hk hrun =>
    have hs := Arg.src (P := P) h1 hk hrun hlen hone
    rw [← h1] at hlen hc hf ⊢
    exact run_append_room_src w t t1 ty e x ht hx b off sLen sCap v n cs hs hroom (by rw [hlen]; exact hc) (by rw [hlen]; exact hf)

/-- nothing onto nothing -/
theorem app_none {t t1 ty e : Nat} {ei : TI} (hE : TIOk P e ei) (w : World) (ht : P.underlying t = some (.slice e)) {v : Value} {cs : List Value} (ha : Arg P ei t1 v 0 cs w) (hlen : cs.length = 0 * ei.size) (base : Option Addr) :
    (Builtin.append_ #[t, t1] ty #[.slice base 0 0, v]).run P w = .ok (.slice base 0 0) w := by
  obtain ⟨x, zv, hx, h1, h2, h3, h4⟩ := hE.exact
  cases ha with
  | zeros kn kq htn hv h48 hcs =>
    subst hv
    exact zeros_none w ht htn hx base
  | cells hk hrun =>
    have hn : cs = [] := by rw [← List.length_eq_zero_iff]; simpa using hlen
    subst hn
    obtain ⟨a1, a2⟩ := hrun w fun _ => rfl
    exact cells_none w ht hk hx base a2 (by rw [h1]; exact a1)

/-- there is no room -/
theorem app_grow {t t1 ty e : Nat} {ei : TI} (hE : TIOk P e ei) (w : World) (ht : P.underlying t = some (.slice e)) {v : Value} {n : Nat} {cs : List Value} (ha : Arg P ei t1 v n cs w) (hlen : cs.length = n * ei.size) (hone : ∀ u ∈ cs, u.oneCell' = true)
    (hsz : ei.size ≠ 0) (hby : ei.bytes ≠ 0) (base : Option Addr) (sLen sCap : Nat) (olds : List Value) (hold : (Builtin.firstCells ei.size sLen (.slice base sLen sCap)).run P w.drew = .ok olds.toArray w.drew) (hn : 0 < n) (hg : sCap < sLen + n)
    (hsmall : (2 * (sLen + n) + 512) * ei.bytes ≤ 281474976710656) :
    ∃ cap, sLen + n ≤ cap ∧ (Builtin.append_ #[t, t1] ty #[.slice base sLen sCap, v]).run P w = .ok (.slice (some ⟨w.heap.size, 0, none⟩) (sLen + n) cap)
      (w.drew.alloc (.cells (olds ++ cs ++ (Builtin.zeroCells ei.zero.toArray (cap - (sLen + n))).toList).toArray e)) := by
  obtain ⟨x, zv, hx, h1, h2, h3, h4⟩ := hE.exact
  have hb1 : 1 ≤ ei.bytes := Nat.pos_of_ne_zero hby
  have hcap : (2 * (sLen + n) + 512) ≤ 281474976710656 := by
    have h5 : (2 * (sLen + n) + 512) * 1 ≤ (2 * (sLen + n) + 512) * ei.bytes := Nat.mul_le_mul_left _ hb1
    rw [Nat.mul_one] at h5
    exact Nat.le_trans h5 hsmall
  have hfit : Builtin.nextslicecap (sLen + n) sCap * x.bytes ≤ 281474976710656 := by
    rw [h2]
    exact Nat.le_trans (Nat.mul_le_mul_right ei.bytes (nextslicecap_le hg)) hsmall
  have hgc : sLen + n ≤ grownCap w (sLen + n) sCap e := by
    unfold grownCap
    simp only [Question.cut]
    omega
  refine ⟨grownCap w (sLen + n) sCap e, hgc, ?_⟩
  rw [← h1] at hold
  cases ha with
  | zeros kn kq htn hv h48 hcs =>
    subst hv
    have := Lib.run_append_grow_zeros (P := P) w t t1 ty e x zv kq kn ht htn hx h3 base sLen sCap olds hold n hn (by rw [h1]; omega) hg (by omega) (by rw [h2]; exact h48) hfit
    rw [this, hcs, h4]
    congr 2
    apply congrArg (fun c => Obj.cells c e)
    apply Array.ext'
    simp
  | cells hk hrun =>
    have hs := Arg.src (P := P) h1 hk hrun hlen hone
    have := run_append_grow_src w t t1 ty e x zv ht hx h3 base sLen sCap olds hold v n cs hs hg (by omega) hfit
    rw [this, h4]
    congr 2
    apply congrArg (fun c => Obj.cells c e)
    apply Array.ext'
    simp

include hG

theorem srcArg_ok {S : Nat → Prop} {f : Fn} {z : Z} {w : World} {x : CV} {v : Value} {src : Src} {fx : List Nat} {ti1 ei : TI} {t1 e : Nat} (h1 : G.ti t1 = some ti1) (he : G.ti e = some ei)
    (h : (match ti1.kind, x with
        | .int _, .f (.lit (.int _ l)) =>
          T.need (decide (0 ≤ l ∧ l * ei.bytes ≤ 281474976710656)) (match G.sym with
            | false => .ret (Src.flat l.toNat (List.replicate l.toNat (zeros ei)).flatten, [])
            | true => .ret (.fn l.toNat (fun _ => ei.zero.map .lit), []))
        | .slice _, x => srcOf st.H ei.size x
        | .str, x => srcOf st.H ei.size x
        | _, _ => .bad).res = some (src, fx)) (hr : Rel S f st.nx z w st.H) (hS : ∀ b ∈ fx, S b) (hv : RC f st.nx z x v) :
    ∃ cs : List Value, Arg P ei t1 v src.n cs w ∧ SrcOk f st.nx z ei.size src cs := by
  have hE := hG.ti e ei he
  have h1' := hG.ti t1 ti1 h1
  obtain ⟨d, hd, hk0, _⟩ := h1'.und
  split at h
  · rename_i kd kd' l hk
    obtain ⟨hl, h⟩ := T.need_some h
    simp only [decide_eq_true_eq] at hl
    cases hv
    have hd' := kindOf_int (hk0.trans hk)
    subst hd'
    have hz : (Builtin.zeroCells ei.zero.toArray l.toNat).toList = (List.replicate l.toNat ei.zero).flatten := by
      by_cases h0 : ei.zero.toArray.size = 0
      · have : ei.zero = [] := by rw [← List.length_eq_zero_iff]; simpa using h0
        simp [Builtin.zeroCells, this]
      · have := repl_zero ei.zero.toArray l.toNat h0
        simpa [Builtin.zeroCells] using this
    have hn : src.n = l.toNat := by
      split at h <;> (have h := T.ret_some h; simp only [Prod.mk.injEq] at h; obtain ⟨rfl, rfl⟩ := h; rfl)
    have hll : l = (l.toNat : Int) := by omega
    refine ⟨(Builtin.zeroCells ei.zero.toArray l.toNat).toList, ?_, ?_⟩
    · rw [hn]
      refine .zeros kd kd' hd (by rw [← hll]) ?_ rfl
      have := hl.2
      rw [hll] at this
      rw [← Int.natCast_mul] at this
      omega
    · split at h
      · have h := T.ret_some h
        simp only [Prod.mk.injEq] at h
        obtain ⟨rfl, rfl⟩ := h
        refine ⟨⟨zero_len hE _, zero_all hE _⟩, ?_⟩
        rw [hz]
        exact (RL.lits hE.one).repl _
      · have h := T.ret_some h
        simp only [Prod.mk.injEq] at h
        obtain ⟨rfl, rfl⟩ := h
        refine ⟨⟨zero_len hE _, zero_all hE _⟩, fun i j y hi hj hy => ?_⟩
        simp only [List.getElem?_map] at hy
        cases hq : ei.zero[j]? with
        | none => rw [hq] at hy; cases hy
        | some q =>
          rw [hq] at hy
          simp only [Option.map_some, Option.some.injEq] at hy
          subst hy
          refine ⟨q, ?_, RF.lit q ?_⟩
          · rw [hz]
            have hlen : ei.size = ei.zero.length := hE.len.symm
            have key : ∀ (n i : Nat), i < n → (List.replicate n ei.zero).flatten[i * ei.zero.length + j]? = some q := by
              intro n
              induction n with
              | zero => intro i hi; omega
              | succ n ih =>
                intro i hi
                rw [List.replicate_succ, List.flatten_cons]
                cases i with
                | zero => rw [Nat.zero_mul, Nat.zero_add, List.getElem?_append_left (List.getElem?_eq_some_iff.1 hq).1]; exact hq
                | succ i =>
                  rw [Nat.add_mul, Nat.one_mul, List.getElem?_append_right (by omega)]
                  rw [show i * ei.zero.length + ei.zero.length + j - ei.zero.length = i * ei.zero.length + j by omega]
                  exact ih i (by omega)
            rw [hlen]
            exact key _ i hi
          · have := hE.one
            rw [List.all_eq_true] at this
            exact this q (List.mem_of_getElem? hq)
  · rename_i e' hk
    have hd' := kindOf_slice (hk0.trans hk)
    subst hd'
    obtain ⟨cs, a1, a3⟩ := srcOf_ok (P := P) h hr hS hv
    exact ⟨cs.toList, .cells (.inl ⟨_, hd⟩) (fun w' hw => by simpa using a1 w' hw), a3⟩
  · rename_i hk
    have hd' := kindOf_str (hk0.trans hk)
    subst hd'
    obtain ⟨cs, a1, a3⟩ := srcOf_ok (P := P) h hr hS hv
    exact ⟨cs.toList, .cells (.inr hd) (fun w' hw => by simpa using a1 w' hw), a3⟩
  · exact (T.bad_some h).elim

omit hG in
/-- a new row of cells, told as a new block -/
theorem grow_post {S : Nat → Prop} {f : Fn} {z : Z} {w : World} (hr : Rel S f st.nx z w st.H) (hno : ∀ b, st.nx ≤ b → ¬ (st.H.get b).live) {sz : Nat} {s : Src} {cs rest : List Value} {cap : Nat} (e : TypeId)
    (hs : SrcOk f st.nx z sz s cs) (hrest : rest.length = (cap - s.n) * sz) (hone : ∀ v ∈ rest, v.oneCell' = true) (hcap : s.n ≤ cap) (kill : List Nat) (hk : ∀ b ∈ kill, S b ∧ b < st.nx) {fp : List Nat} (h : (grown st kill sz s fp).res = some u) :
    ∃ f', Post S f st.nx z w st.H f' u.nx z (w.drew.alloc (.cells (cs ++ rest).toArray e)) u.H u.esc ∧ RS f' u.nx z u.v (.slice (some ⟨w.heap.size, 0, none⟩) s.n cap) ∧ u.fp = fp ∧ u.wr = st.nx :: kill := by
  have hall : Post S f st.nx z w st.H (upd f st.nx ⟨w.heap.size, 0, (cs ++ rest).toArray.size⟩) (st.nx + 1) z (w.drew.alloc (.cells (cs ++ rest).toArray e)) (Heap.put st.H st.nx (s.ob sz)) false := by
    refine (Post.alloc hr.drew hno (s.ob sz) (cs ++ rest).toArray e (Src.ob_noMap s sz) (fun v hv => (List.mem_append.1 (by simpa using hv)).elim (hs.all v) (hone v)) fun m i j x hx => ?_).undrew
    obtain ⟨v, hv, hc⟩ := hs.at m i j x hx
    refine ⟨v, ?_, hc⟩
    simp only [List.getElem?_toArray]
    rw [List.getElem?_append_left (List.getElem?_eq_some_iff.1 hv).1]
    exact hv
  have hkill : ∀ (l : List Nat), (∀ b ∈ l, S b ∧ b < st.nx) → ∀ H : Heap, Post S f st.nx z w st.H (upd f st.nx ⟨w.heap.size, 0, (cs ++ rest).toArray.size⟩) (st.nx + 1) z (w.drew.alloc (.cells (cs ++ rest).toArray e)) (Heap.put H st.nx (s.ob sz)) false →
      Post S f st.nx z w st.H (upd f st.nx ⟨w.heap.size, 0, (cs ++ rest).toArray.size⟩) (st.nx + 1) z (w.drew.alloc (.cells (cs ++ rest).toArray e)) (Heap.put (l.foldl (fun H b => Heap.put H b .dead) H) st.nx (s.ob sz)) false := by
    intro l
    induction l with
    | nil => intro _ H h; exact h
    | cons b l ih =>
      intro hl H h
      obtain ⟨hb, hlt⟩ := hl b (by simp)
      refine ih (fun c hc => hl c (by simp [hc])) (Heap.put H b .dead) ((Post.kill h b hb).congr fun c => ?_)
      rw [Heap.get_put, Heap.get_cons, Heap.get_cons, Heap.get_put]
      by_cases e1 : st.nx = c
      · subst e1; simp [Nat.ne_of_lt hlt]
      · simp [e1]
  have hfin := hkill kill hk st.H hall
  have hlen : (cs ++ rest).toArray.size = cap * sz := by
    simp only [List.size_toArray, List.length_append]
    rw [hs.len, hrest, ← Nat.add_mul]
    congr 1
    omega
  have hval : ∀ m, RS (upd f st.nx ⟨w.heap.size, 0, (cs ++ rest).toArray.size⟩) (st.nx + 1) z (.one (.sl false st.nx m 0 0 s.n s.n false sz)) (.slice (some ⟨w.heap.size, 0, none⟩) s.n cap) := fun m =>
    ⟨Nat.lt_succ_self _, (fun h => by cases h), fun _ => ⟨cap, by simp [ad, upd_same], hcap, hcap, (fun h => by cases h), by rw [upd_same, hlen]; simp⟩⟩
  cases s with
  | flat n l =>
    unfold grown at h
    dsimp only at h
    rw [Heap.putK_eq] at h
    have h := T.ret_some h
    subst h
    exact ⟨_, hfin, hval 0, rfl, rfl⟩
  | fn n g =>
    unfold grown at h
    dsimp only at h
    rw [Heap.putK_eq] at h
    have h := T.ret_some h
    subst h
    exact ⟨_, hfin, hval sz, rfl, rfl⟩

end ops
end Go.Proofs.YtpidkmegakdohaaGreat.Kn
