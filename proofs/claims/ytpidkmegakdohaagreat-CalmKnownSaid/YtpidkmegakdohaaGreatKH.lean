/- The closed engine, made quick: operation by operation. -/
import Derived.Test.YtpidkmegakdohaaGreatKG
namespace Go.Proofs.YtpidkmegakdohaaGreat.Kn
open Go
set_option linter.unusedVariables false
set_option linter.unusedSimpArgs false

section
variable {G : Ctx} {call : CallF} {d : Bool} {st : St} {o : Oper} {N : Nat}

theorem aMv_eq {x : Operand} (ho : o.op = .move x ∨ o.op = .assign x) : aMv (kx N x) G call d st.sl st.H st.nx st o = evOp G call d st o := by
  have : aMv (kx N x) G call d st.sl st.H st.nx st o = pure1 st (st.val x) := by rw [← kxV_eq N x st]; rfl
  rw [this]
  rcases ho with ho | ho <;> simp only [evOp, ho]

theorem aPick_eq {c a b : Operand} (ho : o.op = .pick c a b) : aPick (kx N c) (kx N a) (kx N b) G call d st.sl st.H st.nx st o = evOp G call d st o := by
  have h := sc_spec (st.val c)
  unfold aPick
  rw [kxV_eq]
  cases hs : sc (st.val c) with
  | bool t =>
    rw [hs] at h
    simp only at h
    show T.ret (⟨kxV (bk t (kx N a) (kx N b)) st.sl, st.H, st.nx, false, [], []⟩ : Out) = _
    simp only [evOp, ho, split, h]
    cases t with
    | true => show T.ret (⟨kxV (kx N a) st.sl, _, _, _, _, _⟩ : Out) = pure1 st (st.val a); rw [kxV_eq]; rfl
    | false => show T.ret (⟨kxV (kx N b) st.sl, _, _, _, _, _⟩ : Out) = pure1 st (st.val b); rw [kxV_eq]; rfl
  | _ => exact slow_eq _ _ _ _ _ _ _ _

theorem aNew_eq {t : Nat} {i : TI} (ho : o.op = .alloc t) (hi : G.ti t = some i) : aNew (zeros i) G call d st.sl st.H st.nx st o = evOp G call d st o := by
  simp only [evOp, ho, hi]
  rfl

theorem obK_eq {β : Type} (ob : Ob) (k : List CV → β) (no : β) : obK ob k no = match ob with | .cells l => k l | _ => no := by cases ob <;> rfl

theorem aLoad_eq {t : Nat} {i : TI} {x : Operand} (ho : o.op = .load t x) (hi : G.ti t = some i) : aLoad i.size i.agg (kx N x) G call d st.sl st.H st.nx st o = evOp G call d st o := by
  have h := sc_spec (st.val x)
  unfold aLoad
  rw [kxV_eq]
  cases hs : sc (st.val x) with
  | ptr b m a j =>
    rw [hs] at h
    simp only at h
    show loadB b m a j i.size i.agg G call d st.sl st.H st.nx st o = _
    unfold loadB
    simp only [bk_eq]
    split
    · rename_i hm
      have hm := nbeq hm
      subst hm
      split
      · rename_i ha
        have ha := nbeq ha
        subst ha
        rw [obK_eq]
        split
        · rename_i l hl
          simp only [evOp, ho, hi, h]
          have hl : Heap.get st.H b = .cells l := hl
          rw [hl]
          simp only [Ob.rd, Nat.beq_refl, Bool.and_self, takeF_eq, dropF_eq, ofF_eq]
          generalize (List.take i.size (List.drop j l)).length.beq i.size = q
          cases q <;> rfl
        · exact slow_eq _ _ _ _ _ _ _ _
      · exact slow_eq _ _ _ _ _ _ _ _
    · exact slow_eq _ _ _ _ _ _ _ _
  | _ => exact slow_eq _ _ _ _ _ _ _ _

theorem aStore_eq {t : Nat} {i : TI} {x y : Operand} (ho : o.op = .store t x y) (hi : G.ti t = some i) : aStore i.size (kx N x) (kx N y) G call d st.sl st.H st.nx st o = evOp G call d st o := by
  have h := sc_spec (st.val x)
  unfold aStore
  rw [kxV_eq]
  cases hs : sc (st.val x) with
  | ptr b m a j =>
    rw [hs] at h
    simp only at h
    show storeB b m a j i.size (kx N y) G call d st.sl st.H st.nx st o = _
    unfold storeB
    rw [kxV_eq]
    cases hy : st.val y with
    | v v =>
      show bk (lenIs v.cells i.size) _ (T.bad : T Out) = _
      simp only [bk_eq, lenIs_eq]
      split
      · rename_i hlen
        split
        · rename_i hm
          have hm := nbeq hm
          subst hm
          split
          · rename_i ha
            have ha := nbeq ha
            subst ha
            rw [obK_eq]
            split
            · rename_i l hl
              simp only [evOp, ho, hi, h, hy, hlen]
              have hl : Heap.get st.H b = .cells l := hl
              rw [hl]
              simp only [Ob.wr, Nat.beq_refl, Bool.true_and, overF_eq, setRangeK_eq]
              generalize Nat.ble (j + v.cells.length) l.length = q
              cases q <;> rfl
            · exact slow_eq _ _ _ _ _ _ _ _
          · exact slow_eq _ _ _ _ _ _ _ _
        · exact slow_eq _ _ _ _ _ _ _ _
      · rename_i hlen
        simp only [evOp, ho, hi, h, hy, hlen]
    | tup l => simp only [evOp, ho, hi, h, hy]
    | top => simp only [evOp, ho, hi, h, hy]
  | _ => exact slow_eq _ _ _ _ _ _ _ _

theorem aNot_eq {t : Nat} {x : Operand} (ho : o.op = .unOp .not t x) : aNot (kx N x) G call d st.sl st.H st.nx st o = evOp G call d st o := by
  have h := sc_spec (st.val x)
  unfold aNot
  rw [kxV_eq]
  cases hs : sc (st.val x) with
  | bool b =>
    rw [hs] at h
    simp only at h
    show T.ret (⟨.v (.one (.f (.lit (.bool (bnot b))))), _, _, _, _, _⟩ : Out) = _
    simp only [evOp, ho, h, evUn, bnot_eq]
    rfl
  | _ => exact slow_eq _ _ _ _ _ _ _ _

theorem aConv_eq {s t : Nat} {x : Operand} {i j : TI} {k0 k : IntKind} (ho : o.op = .convert s t x) (hi : G.ti s = some i) (hj : G.ti t = some j) (hik : i.kind = .int k0) (hjk : j.kind = .int k) : aConv k (kx N x) G call d st.sl st.H st.nx st o = evOp G call d st o := by
  have h := sc_spec (st.val x)
  unfold aConv
  rw [kxV_eq]
  cases hs : sc (st.val x) with
  | int k1 n =>
    rw [hs] at h
    simp only at h
    show T.ret (⟨.v (.one (.f (.lit (.int k (wrapF k n))))), _, _, _, _, _⟩ : Out) = _
    simp only [evOp, ho, h, evConvert, hi, hj, hik, hjk, wrapF_eq]
    rfl
  | _ => exact slow_eq _ _ _ _ _ _ _ _

theorem aFaddr_eq {t fld : Nat} {x : Operand} {i : TI} {fs : List (Nat × Nat × Nat × Bool)} {off size ty : Nat} {agg : Bool} (ho : o.op = .fieldAddr t x fld) (hi : G.ti t = some i) (hk : i.kind = .struct fs) (hf : fs[fld]? = some (off, size, ty, agg)) (hz : Nat.beq size 0 = false) :
    aFaddr off (kx N x) G call d st.sl st.H st.nx st o = evOp G call d st o := by
  have h := sc_spec (st.val x)
  unfold aFaddr
  rw [kxV_eq]
  cases hs : sc (st.val x) with
  | ptr b m a j =>
    rw [hs] at h
    simp only at h
    obtain ⟨_, _, _, kd, _, _⟩ := i
    simp only at hk
    subst hk
    show T.ret (⟨.v (.one (.ptr b m a (j + off))), _, _, _, _, _⟩ : Out) = _
    simp only [evOp, ho, h, hi, hf, hz]
    rfl
  | _ => exact slow_eq _ _ _ _ _ _ _ _

theorem aField_eq {t fld : Nat} {x : Operand} {i : TI} {fs : List (Nat × Nat × Nat × Bool)} {off size ty : Nat} {agg : Bool} (ho : o.op = .field t x fld) (hi : G.ti t = some i) (hk : i.kind = .struct fs) (hf : fs[fld]? = some (off, size, ty, agg)) :
    aField off size agg (kx N x) G call d st.sl st.H st.nx st o = evOp G call d st o := by
  have h := sc_spec (st.val x)
  unfold aField
  rw [kxV_eq]
  cases hs : sc (st.val x) with
  | agg l =>
    rw [hs] at h
    simp only at h
    obtain ⟨_, _, _, kd, _, _⟩ := i
    simp only at hk
    subst hk
    show fieldA l off size agg G call d st.sl st.H st.nx st o = _
    simp only [fieldA, evOp, ho, h, evField, hi, hf, takeF_eq, dropF_eq, ofF_eq]
    generalize (List.take size (List.drop off l)).length.beq size = q
    cases q <;> rfl
  | _ => exact slow_eq _ _ _ _ _ _ _ _

theorem isI_eq (x : SC) (k : Int → T Out) (no : T Out) : isI x k no = match x with | .int _ n => k n | _ => no := by cases x <;> rfl

theorem aIaddr_eq {t e : Nat} {x y : Operand} {i ei : TI} (ho : o.op = .indexAddr t x y) (hi : G.ti t = some i) (hk : i.kind = .slice e) (he : G.ti e = some ei) (hsym : G.sym = false) : aIaddr ei.size (kx N x) (kx N y) G call d st.sl st.H st.nx st o = evOp G call d st o := by
  have h := sc_spec (st.val x)
  have h' := sc_spec (st.val y)
  unfold aIaddr
  rw [kxV_eq]
  cases hs : sc (st.val x) with
  | sl nil b m a j len cap ex sz =>
    rw [hs] at h
    simp only at h
    show iaddrS nil b m a j len cap ex sz ei.size (kx N y) G call d st.sl st.H st.nx st o = _
    unfold iaddrS
    rw [kxV_eq]
    simp only [bk_eq]
    split
    · rename_i hsz
      split
      · rename_i hm
        have hm := nbeq hm
        subst hm
        split
        · exact slow_eq _ _ _ _ _ _ _ _
        · rw [isI_eq]
          split
          · rename_i k n hs'
            rw [hs'] at h'
            simp only at h'
            rw [inF_eq]
            simp only [evOp, ho, h, h', evIndexAddr, hi, hk, he, hsz, atIndex, hsym]
            have hsz := nbeq hsz
            subst hsz
            simp only [inRange, T.need]
            show T.br _ _ _ = T.bind (T.br true (T.br _ _ _) _) _
            cases decide (0 ≤ n ∧ n < (len : Int)) <;> rfl
          · exact slow_eq _ _ _ _ _ _ _ _
      · exact slow_eq _ _ _ _ _ _ _ _
    · exact slow_eq _ _ _ _ _ _ _ _
  | _ => exact slow_eq _ _ _ _ _ _ _ _

theorem aAaddr_eq {t e len : Nat} {x y : Operand} {i ei : TI} (ho : o.op = .indexAddr t x y) (hi : G.ti t = some i) (hk : i.kind = .array len e) (he : G.ti e = some ei) (hsym : G.sym = false) : aAaddr len ei.size (kx N x) (kx N y) G call d st.sl st.H st.nx st o = evOp G call d st o := by
  have h := sc_spec (st.val x)
  have h' := sc_spec (st.val y)
  unfold aAaddr
  rw [kxV_eq]
  cases hs : sc (st.val x) with
  | ptr b m a j =>
    rw [hs] at h
    simp only at h
    show aaddrP b m a j len ei.size (kx N y) G call d st.sl st.H st.nx st o = _
    unfold aaddrP
    rw [kxV_eq, isI_eq]
    split
    · rename_i k n hs'
      rw [hs'] at h'
      simp only at h'
      rw [inF_eq]
      simp only [evOp, ho, h, h', evIndexAddr, hi, hk, he, atIndex, hsym]
      simp only [inRange, T.need]
      cases decide (0 ≤ n ∧ n < (len : Int)) <;> rfl
    · exact slow_eq _ _ _ _ _ _ _ _
  | _ => exact slow_eq _ _ _ _ _ _ _ _

theorem aExtr_eq {x : Operand} {i : Nat} (ho : o.op = .extract x i) : aExtr (kx N x) i G call d st.sl st.H st.nx st o = evOp G call d st o := by
  have h := sc_spec (st.val x)
  unfold aExtr
  rw [kxV_eq]
  cases hs : sc (st.val x) with
  | tup l =>
    rw [hs] at h
    simp only at h
    show nthF l i (fun v => T.ret (⟨.v v, st.H, st.nx, false, [], []⟩ : Out)) .bad = _
    simp only [evOp, ho, h, nthF_eq]
    cases l[i]? <;> rfl
  | _ => exact slow_eq _ _ _ _ _ _ _ _

theorem aLen_str_eq {c : Call} {t : Nat} {ts : List Nat} {x : Operand} {i : TI} (ho : o.op = .call c) (hc : c.callee = .builtin .len) (ht : c.argTypes.toList = t :: ts) (hx : c.args.toList = [x]) (hi : G.ti t = some i) (hk : i.kind = .str) : aLen true (kx N x) G call d st.sl st.H st.nx st o = evOp G call d st o := by
  have h := sc_spec (st.val x)
  unfold aLen
  rw [kxV_eq]
  cases hs : sc (st.val x) with
  | str s =>
    rw [hs] at h
    simp only at h
    show T.ret (⟨.v (.one (.int .i64 s.size)), _, _, _, _, _⟩ : Out) = _
    simp only [evOp, ho, hc, ht, hx, List.map_cons, List.map_nil, evBuiltin, evLen, h, hi, hk]
    rfl
  | sl nil b m a j len cap ex sz => exact slow_eq G call d st.sl st.H st.nx st o
  | _ => exact slow_eq _ _ _ _ _ _ _ _

theorem aLen_slice_eq {c : Call} {t e : Nat} {ts : List Nat} {x : Operand} {i : TI} (ho : o.op = .call c) (hc : c.callee = .builtin .len) (ht : c.argTypes.toList = t :: ts) (hx : c.args.toList = [x]) (hi : G.ti t = some i) (hk : i.kind = .slice e) : aLen false (kx N x) G call d st.sl st.H st.nx st o = evOp G call d st o := by
  have h := sc_spec (st.val x)
  unfold aLen
  rw [kxV_eq]
  cases hs : sc (st.val x) with
  | sl nil b m a j len cap ex sz =>
    rw [hs] at h
    simp only at h
    show T.ret (⟨.v (.one (.int .i64 len)), _, _, _, _, _⟩ : Out) = _
    simp only [evOp, ho, hc, ht, hx, List.map_cons, List.map_nil, evBuiltin, evLen, h, hi, hk]
    rfl
  | str s => exact slow_eq G call d st.sl st.H st.nx st o
  | _ => exact slow_eq _ _ _ _ _ _ _ _

theorem aCall_eq {c : Call} {g : Nat} {fn : Func} (ho : o.op = .call c) (hc : c.callee = .value (.func g)) (hg : G.fi g = some fn) : aCall g (c.args.toList.map (kx N)) G call d st.sl st.H st.nx st o = evOp G call d st o := by
  unfold aCall
  rw [avF_eq]
  simp only [evOp, ho, hc]
  show _ = match SV.v (AV.one (CV.fn g [])), avs? (c.args.toList.map st.val) with
    | .v (.one (.fn g cap)), some args => match G.fi g with
      | some _ => evCallOp call d st g (args ++ cap.map fun (x : Nat × Nat × Nat × Nat) => AV.one (.ptr x.1 x.2.1 x.2.2.1 x.2.2.2))
      | none => .bad
    | _, _ => .bad
  cases avs? (c.args.toList.map st.val) with
  | none => rfl
  | some args =>
    simp only [hg, List.map_nil, List.append_nil]
    cases d with
    | true => rfl
    | false =>
      show tk (call g args st.H st.nx) _ = evCallOp call false st g args
      rw [tk_eq]
      rfl

theorem bin_slow {x y : Operand} {op : BinOp} {t t' : Nat} (ho : o.op = .binOp op t x y t') {k k' : IntKind} {a b : Int} (hx : st.val x = .v (.one (.f (.lit (.int k a))))) (hy : st.val y = .v (.one (.f (.lit (.int k' b))))) (h1 : op ≠ .shl) (h2 : op ≠ .shr) (hk : k = k') :
    evOp G call d st o = ((binInt op k a b).bind fun v => .ret (.one (.f (.lit v)))).bind fun v => pure1 st (.v v) := by
  subst hk
  simp only [evOp, ho, hx, hy, evBin, decide_true]

theorem aBin_eq {x y : Operand} {op : BinOp} {t t' : Nat} (ho : o.op = .binOp op t x y t') (h1 : op ≠ .shl) (h2 : op ≠ .shr) : aBin op (kx N x) (kx N y) G call d st.sl st.H st.nx st o = evOp G call d st o := by
  have h := sc_spec (st.val x)
  have h' := sc_spec (st.val y)
  unfold aBin
  rw [kxV_eq]
  cases hs : sc (st.val x) with
  | int k a =>
    rw [hs] at h
    simp only at h
    show bin1 op (kx N y) k a G call d st.sl st.H st.nx st o = _
    unfold bin1
    rw [kxV_eq]
    cases hs' : sc (st.val y) with
    | int k' b =>
      rw [hs'] at h'
      simp only at h'
      show bin2 op k a k' b G call d st.sl st.H st.nx st o = _
      unfold bin2
      rw [bk_eq, kbeq_eq]
      cases hk : decide (k = k') with
      | false => exact slow_eq _ _ _ _ _ _ _ _
      | true =>
        have hk := of_decide_eq_true hk
        have hb := bin_slow (G := G) (call := call) (d := d) ho h h' h1 h2 hk
        show binF op k a b G call d st.sl st.H st.nx st o = _
        cases op with
        | add => rw [hb]; show T.ret (⟨.v (.one (.f (.lit (.int k (wrapF k (addF a b)))))), _, _, _, _, _⟩ : Out) = _; rw [wrapF_eq, addF_eq]; rfl
        | sub => rw [hb]; show T.ret (⟨.v (.one (.f (.lit (.int k (wrapF k (subF a b)))))), _, _, _, _, _⟩ : Out) = _; rw [wrapF_eq, subF_eq]; rfl
        | mul => rw [hb]; show T.ret (⟨.v (.one (.f (.lit (.int k (wrapF k (a * b)))))), _, _, _, _, _⟩ : Out) = _; rw [wrapF_eq]; rfl
        | eql => rw [hb]; show T.ret (⟨.v (.one (.f (.lit (.bool (ieqF a b))))), _, _, _, _, _⟩ : Out) = _; rw [ieqF_eq]; rfl
        | neq => rw [hb]; show T.ret (⟨.v (.one (.f (.lit (.bool (bnot (ieqF a b)))))), _, _, _, _, _⟩ : Out) = _; rw [ieqF_eq, bnot_eq]; rfl
        | lss => rw [hb]; show T.ret (⟨.v (.one (.f (.lit (.bool (iltF a b))))), _, _, _, _, _⟩ : Out) = _; rw [iltF_eq]; rfl
        | leq => rw [hb]; show T.ret (⟨.v (.one (.f (.lit (.bool (ileF a b))))), _, _, _, _, _⟩ : Out) = _; rw [ileF_eq]; rfl
        | gtr => rw [hb]; show T.ret (⟨.v (.one (.f (.lit (.bool (iltF b a))))), _, _, _, _, _⟩ : Out) = _; rw [iltF_eq]; rfl
        | geq => rw [hb]; show T.ret (⟨.v (.one (.f (.lit (.bool (ileF b a))))), _, _, _, _, _⟩ : Out) = _; rw [ileF_eq]; rfl
        | and => rw [hb]; show T.ret (⟨.v (.one (.f (.lit (.int k (natOp _ _ k a b))))), _, _, _, _, _⟩ : Out) = _; rw [natOp_eq (g := fun k x y => k.wrap (BitVec.ofInt k.bits x &&& BitVec.ofInt k.bits y).toNat) (fun k a b => bits_ok (f := Nat.land) (F := fun w x y => x &&& y) (fun _ _ _ => BitVec.toNat_and _ _) (fun m a b _ hb => Nat.and_lt_two_pow a hb) k a b)]; rfl
        | or => rw [hb]; show T.ret (⟨.v (.one (.f (.lit (.int k (natOp _ _ k a b))))), _, _, _, _, _⟩ : Out) = _; rw [natOp_eq (g := fun k x y => k.wrap (BitVec.ofInt k.bits x ||| BitVec.ofInt k.bits y).toNat) (fun k a b => bits_ok (f := Nat.lor) (F := fun w x y => x ||| y) (fun _ _ _ => BitVec.toNat_or _ _) (fun m a b ha hb => Nat.or_lt_two_pow ha hb) k a b)]; rfl
        | xor => rw [hb]; show T.ret (⟨.v (.one (.f (.lit (.int k (natOp _ _ k a b))))), _, _, _, _, _⟩ : Out) = _; rw [natOp_eq (g := fun k x y => k.wrap (BitVec.ofInt k.bits x ^^^ BitVec.ofInt k.bits y).toNat) (fun k a b => bits_ok (f := Nat.xor) (F := fun w x y => x ^^^ y) (fun _ _ _ => BitVec.toNat_xor _ _) (fun m a b ha hb => Nat.xor_lt_two_pow ha hb) k a b)]; rfl
        | _ => exact slow_eq G call d st.sl st.H st.nx st o
    | _ => exact slow_eq _ _ _ _ _ _ _ _
  | _ => exact slow_eq _ _ _ _ _ _ _ _

end
end Go.Proofs.YtpidkmegakdohaaGreat.Kn
