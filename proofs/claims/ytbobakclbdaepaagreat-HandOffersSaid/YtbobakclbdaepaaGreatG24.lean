/- Texts put together: OB, OC, OD, OT, OG, OH, OI. -/
import Derived.Test.YtbobakclbdaepaaGreatG23
/- HandOffers: its beginning. -/
namespace Go.Proofs.YtbobakclbdaepaaGreat.En
open Go
set_option linter.unusedVariables false
set_option linter.unusedSimpArgs false
set_option maxRecDepth 20000
set_option maxHeartbeats 1000000
theorem run_kn20 : ((evCall GC noLive 2000 6 [] [] 0).bind fun o => match o.v with | .v (.one (.f (.lit (.bool b)))) => .ret b | _ => .bad).res = some true := by kernel_rfl
theorem to_kn20 : CallTo Tryz.prog 6 [] [] 0 (out0 (.v (AB true))) := truth_to (fun w => calls_true GC_ok KnownOk.nothing (z := noZ) ⟨fun k o v h => by cases h⟩ RAs.nil run_kn20) [] 0
noncomputable abbrev hoC : Code := bodyOf Tryz.f4

noncomputable def F_kn20 : SumF
  | [], [], 0 => .ret (out0 (.v (AB true)))
  | _, _, _ => .bad
theorem sum_kn20 : SumOk Tryz.prog 6 F_kn20 := by
  refine ⟨fun args H nx r hr => ?_, fun args H nx => ?_⟩
  · unfold F_kn20 at hr
    split at hr
    · have := T.ret_some hr
      subst this
      exact to_kn20
    · exact (T.bad_some hr).elim
  · unfold F_kn20
    split
    · exact ⟨Nat.zero_le _, fun b hb hw => absurd hb (Nat.not_lt_zero b)⟩
    · trivial
noncomputable def sm_kn20 : SumF := canonSum F_kn20
theorem sm_kn20_ok : SumOk Tryz.prog 6 sm_kn20 := canonSum_ok sum_kn20
noncomputable def ss_kn20 : List (Nat × SumF) := (6, sm_kn20) :: ss_Ch
theorem ss_kn20_ok : ∀ x ∈ ss_kn20, SumOk Tryz.prog x.1 x.2 := List.forall_mem_cons.2 ⟨sm_kn20_ok, ss_Ch_ok⟩
abbrev shC (k : Int) : List CV := (shF k).map CV.f
def pnC (h : Int) : Nat → Nat → List CV
  | 0, _ => []
  | n + 1, j => I 1 :: I ((j : Int) % h) :: pnC h n (j + 1)
/-- the six pointers, the first being told block c -/
def hdC : List Nat → Nat → Nat → Nat → List CV
  | _, _, _, 0 => []
  | P, c, i, n + 1 => match P with
    | [] => .f (.lit (.pointer none)) :: hdC [] c (i + 1) n
    | k :: r => match Nat.beq k i with
      | true => Ptr c :: hdC r (c + 1) (i + 1) n
      | false => .f (.lit (.pointer none)) :: hdC (k :: r) c (i + 1) n
def shH : List Nat → Nat → Heap
  | [], _ => []
  | k :: r, c => (c, .cells (shC k)) :: shH r (c + 1)
/-- behind New and the hand -/
def S_n (h : Int) (S : Nat) (m : Int) (P : List Nat) (nl : Bool) (kl : Nat) (xl : Nat → Int) (tk : Int) : St :=
  ⟨[(1, .v (AI m)), (2, .v (.one (.f (.fs nl 1 kl (intE xl))))), (3, .v (AI tk)), (9, .v (AP 0)), (10, .v (AP 1)), (11, .v (AP (3 + P.length)))],
    [(0, .cells [I h, I S]), (1, .cells (I h :: .sl false 2 0 0 0 S S false 2 :: I 0 :: Bo false :: I m :: I h :: hdC P 3 0 6)), (2, .cells (pnC h S 0))] ++ shH P 3 ++ [(3 + P.length, .cells [I 0, I 0, I 0, I 0, I 0, I 0, I 0])], 4 + P.length, true, 0, []⟩

noncomputable def GOB1 : Ctx := GS.with ss_kn20 ll_co
noncomputable def tgt_A (n me : Int) (nl : Bool) (kl : Nat) (xl : Nat → Int) (tk : Int) : T (Ex × St) := evCutR GOB1 300 4 Tryz.f4.ntmps 3 (hoC) 0 [1, 2, 3, 9] [] (⟨argSlots 0 [AI n, AI me, .one (.f (.fs nl 1 kl (intE xl))), AI tk], [], 0, false, 0, []⟩)
noncomputable def tgt_C (nl : Bool) (kl : Nat) (xl : Nat → Int) (tk : Int) : T (Ex × St) := evCutR GOB1 2000 4 Tryz.f4.ntmps 3 (restC 3 hoC) 0 [1, 2, 3, 9, 10, 11] [] (⟨[(1, .v (AI 0)), (2, .v (.one (.f (.fs nl 1 kl (intE xl))))), (3, .v (AI tk)), (9, .v (AP 0))], [(0, .cells [I 3, I 6])], 1, false, 0, []⟩)
theorem GKOB1 : KnownOk Tryz.prog GOB1 := KnownOk.lists ss_kn20_ok ll_co_ok
theorem GOOB1 : CtxOk Tryz.prog GOB1 := GS_ok.with _ _
theorem tree_A (n me : Int) (nl : Bool) (kl : Nat) (xl : Nat → Int) (tk : Int) : (tgt_A n me nl kl xl tk).over (.tt (.ff (.tt (.br .leaf .skip)))) = T.br (decide ((0 : Int) < IntKind.wrap IntKind.i64 ((2 : Int) + n % (4 : Int)) ∧ IntKind.wrap IntKind.i64 ((2 : Int) + n % (4 : Int)) ≤ (9223372036854775807 : Int))) (T.ret (Ex.normal, ⟨[(1, SV.v (AI (me % IntKind.wrap IntKind.i64 ((2 : Int) + n % (4 : Int))))), (2, SV.v (AV.one (CV.f (FV.fs nl 1 kl fun a => [FV.lit (.int .i64 (xl a))])))), (3, SV.v (AI tk)), (9, SV.v (AP 0))], [(0, Ob.cells [I (IntKind.wrap IntKind.i64 ((2 : Int) + n % (4 : Int))), I (IntKind.wrap IntKind.i64 ((1 : Int) + IntKind.wrap IntKind.i64 (Int.tdiv n (7 : Int)) % (6 : Int)))])], 1, false, 0, []⟩)) T.bad := by kernel_rfl
theorem tree_C (nl : Bool) (kl : Nat) (xl : Nat → Int) (tk : Int) : (tgt_C nl kl xl tk).over (.tt (.tt (.tt (.tt (.tt (.tt (.tt (.tt (.tt (.tt (.tt (.tt (.ff (.ff (.ff (.ff (.ff (.ff (.ff (.ff (.ff (.tt (.tt (.tt (.tt (.tt (.tt (.tt (.tt (.tt (.tt (.tt (.tt (.ff (.tt (.ff (.tt (.ff (.tt (.tt (.ff (.tt (.ff (.ff (.tt (.tt (.tt (.ff (.tt (.ff (.ff (.tt (.tt (.tt (.ff (.tt (.ff (.ff (.tt (.tt (.tt (.ff (.tt (.ff (.ff (.tt (.tt (.tt (.ff (.tt (.ff (.ff (.tt (.tt (.ff (.ff (.tt (.ff (.ff (.tt (.tt (.tt (.tt (.ff (.tt (.tt (.tt (.tt (.tt (.tt (.ff (.ff (.tt (.tt (.tt (.tt (.tt (.ff (.tt (.ff (.tt (.tt (.tt (.ff (.ff (.tt (.ff (.tt (.tt (.tt (.ff (.ff (.ff (.tt (.tt (.ff (.ff (.tt (.ff (.ff (.ff (.tt (.tt (.tt (.tt (.ff (.ff (.ff (.ff (.tt (.ff (.tt (.tt (.tt (.ff (.ff (.ff (.ff (.ff (.tt (.ff (.ff (.ff (.ff (.ff (.ff .leaf)))))))))))))))))))))))))))))))))))))))))))))))))))))))))))))))))))))))))))))))))))))))))))))))))))))))))))))))))))))))))))))))))))))))))))))))))) = T.ret (Ex.normal, ⟨[(1, SV.v (AI (0 : Int))), (2, SV.v (AV.one (CV.f (FV.fs nl 1 kl fun a => [FV.lit (.int .i64 (xl a))])))), (3, SV.v (AI tk)), (9, SV.v (AP 0)), (10, SV.v (AP 1)), (11, SV.v (AP 5))], [(0, Ob.cells [I (3 : Int), I (6 : Int)]), (1, Ob.cells [I (3 : Int), CV.sl false 2 0 0 0 6 6 false 2, I (0 : Int), Bo false, I (0 : Int), I (3 : Int), Proofs.YtbobakclbdaepaaGreat.En.Ptr 3, CV.f (FV.lit (Value.pointer none)), CV.f (FV.lit (Value.pointer none)), Proofs.YtbobakclbdaepaaGreat.En.Ptr 4, CV.f (FV.lit (Value.pointer none)), CV.f (FV.lit (Value.pointer none))]), (2, Ob.cells [I (1 : Int), I (0 : Int), I (1 : Int), I (1 : Int), I (1 : Int), I (2 : Int), I (1 : Int), I (0 : Int), I (1 : Int), I (1 : Int), I (1 : Int), I (2 : Int)]), (3, Ob.cells [Nil, I (0 : Int), I (0 : Int), I (0 : Int), Sg { data := #[] : ByteArray }, I (0 : Int), I (0 : Int), I (0 : Int), Sg { data := #[] : ByteArray }, I (0 : Int), I (0 : Int), I (0 : Int), Sg { data := #[] : ByteArray }, I (0 : Int), I (0 : Int), I (0 : Int), Sg { data := #[] : ByteArray }, I (0 : Int), I (1 : Int), Bo false, I (0 : Int)]), (4, Ob.cells [Nil, I (0 : Int), I (0 : Int), I (0 : Int), Sg { data := #[] : ByteArray }, I (0 : Int), I (0 : Int), I (0 : Int), Sg { data := #[] : ByteArray }, I (0 : Int), I (0 : Int), I (0 : Int), Sg { data := #[] : ByteArray }, I (0 : Int), I (0 : Int), I (0 : Int), Sg { data := #[] : ByteArray }, I (3 : Int), I (1 : Int), Bo false, I (0 : Int)]), (5, Ob.cells [I (0 : Int), I (0 : Int), I (0 : Int), I (0 : Int), I (0 : Int), I (0 : Int), I (0 : Int)])], 6, true, 0, []⟩) := by kernel_rfl
end Go.Proofs.YtbobakclbdaepaaGreat.En
/- HandOffers: Choose, where all weights are one; the table. -/
namespace Go.Proofs.YtbobakclbdaepaaGreat.En
open Go
set_option linter.unusedVariables false
set_option linter.unusedSimpArgs false
set_option maxRecDepth 20000
set_option maxHeartbeats 1000000
def headK (es : List (Value × Value)) : Int := match es with
  | (.int _ k, _) :: _ => k
  | _ => 0
def onesL (ks : List Int) : List (Int × Int) := ks.map fun k => (k, 1)
/-- each weight is one; the first shard is the least -/
def OneW (es : List (Value × Value)) : Prop := ∃ ks, es = mI (onesL ks) ∧ KeyOk (onesL ks) ∧ ∀ k ∈ ks, headK es ≤ k
theorem chX_some {me load : Int} {x : Nat → Ent} {es : List (Value × Value)} {y : Nat → Int} : ∀ (c i : Nat), (chX me load x es y c i).1 = true → ∃ j, i ≤ j ∧ j < i + c ∧ chX me load x es y c i = chG me load x es (y j) ∧ (chG me load x es (y j)).1 = true
  | 0, i, h => by cases h
  | c + 1, i, h => by
    simp only [chX] at h ⊢
    cases hg : (chG me load x es (y i)).1
    · rw [hg] at h
      obtain ⟨j, h1, h2, h3, h4⟩ := chX_some c (i + 1) h
      exact ⟨j, by omega, by omega, h3, h4⟩
    · exact ⟨i, Nat.le_refl i, by omega, rfl, hg⟩
theorem chT_one {me load : Int} {x : Nat → Ent} {n : Nat} {ks : List Int} (hl : KeyOk (onesL ks)) (hk : ∀ k ∈ ks, headK (mI (onesL ks)) ≤ k) (hin : 0 ≤ me ∧ me < (n : Int)) (h : (chT me load x (mI (onesL ks)) n).1 = true) :
    TgOk me x n (chT me load x (mI (onesL ks)) n).2.1 ∧ (chT me load x (mI (onesL ks)) n).2.2.1 = headK (mI (onesL ks)) ∧ (chT me load x (mI (onesL ks)) n).2.2.2 = 1 ∧ ks ≠ [] ∧ fitsB 1 load (ldI x (chT me load x (mI (onesL ks)) n).2.1) (x me.toNat).dr = true := by
  obtain ⟨j, h1, h2, h3, h4⟩ := chX_some _ _ h
  have e : chT me load x (mI (onesL ks)) n = chG me load x (mI (onesL ks)) (tzE me x n j) := h3
  rw [e]
  have ht := tz_ok hin x (i := j) (by omega)
  obtain ⟨g1, g2, g3⟩ := (chG_ok (me := me) (load := load) (x := x) hl (tzE me x n j)).2 h4
  obtain ⟨p, hp, k1, k2, k3⟩ := g2
  obtain ⟨k, hks, rfl⟩ := List.mem_map.1 hp
  dsimp only at k1 k2 k3
  have hne : ks ≠ [] := fun e => by subst e; cases hks
  obtain ⟨k0, r, rfl⟩ := List.exists_cons_of_ne_nil hne
  have hh : headK (mI (onesL (k0 :: r))) = k0 := rfl
  rw [hh] at hk ⊢
  have hg := g3 (k0, 1) (List.mem_cons_self ..) k3
  have h5 := hk k hks
  rw [← k1, ← k2] at hg
  dsimp only at hg
  refine ⟨by rw [g1]; exact ht, ?_, k2.symm, hne, by rw [g1]; exact k3⟩
  rw [← k1]
  omega
abbrev choA (g : G5) (es : List (Value × Value)) : CallOut := ⟨.tup [.agg [I g.2.1, I (headK es), I 0, I 1], AB true], [(0, .map es)], 1, false, []⟩
abbrev choB (es : List (Value × Value)) : CallOut := ⟨.tup [.agg [I 0, I 0, I 0, I 0], AB false], [(0, .map es)], 1, false, []⟩
def ChP (me : Int) (nl : Bool) (n : Nat) (e : Nat → List FV) (es : List (Value × Value)) : Prop := EntE e ∧ ((nl = true → n = 0) ∧ n < 20) ∧ OneW es ∧ 0 ≤ me ∧ me < (n : Int)
noncomputable def F_ChO : SumF
  | [.one (.f (.lit (.int .i64 me))), .one (.f (.lit (.int .i64 load))), .one (.f (.fs nl 5 n e)), .one (.mp 0)], [(0, .map es)], 1 => .need (pb (ChP me nl n e es)) (.br (chT me load (entOf e) es n).1 (.ret (choA (chT me load (entOf e) es n) es)) (.ret (choB es)))
  | _, _, _ => .bad
theorem sum_ChO : SumOk Tryz.prog 60 F_ChO := by
  refine ⟨fun args H nx r hr => ?_, fun args H nx => ?_⟩
  · unfold F_ChO at hr
    split at hr
    · rename_i me load nl n e es
      obtain ⟨h0, hr⟩ := T.need_some hr
      obtain ⟨⟨x, rfl⟩, h1, ⟨ks, rfl, hk1, hk2⟩, hin⟩ := pb_of h0
      have hc := evCallW_ok GODB2 GKDB2 (res_Ch me load nl n x (mI (onesL ks)) ⟨h1, MapI_mI _⟩)
      rw [entOf_entE] at hr
      rcases T.br_some hr with ⟨hg, hr⟩ | ⟨hg, hr⟩
      · have := T.ret_some hr
        subst this
        obtain ⟨_, i1, i2, _⟩ := chT_one hk1 hk2 hin hg
        simp only [chR, hg, i1, i2] at hc
        exact hc
      · have := T.ret_some hr
        subst this
        have hz : chT me load x (mI (onesL ks)) n = (false, 0, 0, 0) := chX_no _ _ hg
        simp only [chR, hz] at hc
        exact hc
    · exact (T.bad_some hr).elim
  · unfold F_ChO
    split
    · refine T.Every.need ⟨⟨Nat.le_refl _, fun b hb hw => by
        have : b = 0 := by omega
        subst this; rfl⟩, ⟨Nat.le_refl _, fun b hb hw => by
        have : b = 0 := by omega
        subst this; rfl⟩⟩
    · trivial

noncomputable def sm_ChO : SumF := canonSum F_ChO
theorem sm_ChO_ok : SumOk Tryz.prog 60 sm_ChO := canonSum_ok sum_ChO
noncomputable def ss_ChO : List (Nat × SumF) := (60, sm_ChO) :: ss_kn20
theorem ss_ChO_ok : ∀ x ∈ ss_ChO, SumOk Tryz.prog x.1 x.2 := List.forall_mem_cons.2 ⟨sm_ChO_ok, ss_kn20_ok⟩
end Go.Proofs.YtbobakclbdaepaaGreat.En
/- HandOffers: states of the ticks. -/
namespace Go.Proofs.YtbobakclbdaepaaGreat.En
open Go
set_option linter.unusedVariables false
set_option linter.unusedSimpArgs false
set_option maxRecDepth 20000
set_option maxHeartbeats 1000000
/-- n steps of a shape, from the bits of b -/
def PT.bits : Nat → Nat → PT → PT
  | 0, _, p => p
  | n + 1, b, p => match b % 2 with | 0 => .ff (PT.bits n (b / 2) p) | _ => .tt (PT.bits n (b / 2) p)
/-- the set as a map's pairs -/
def mT (l : List Int) : List (Value × Value) := l.map fun k => (.int .i64 k, .bool true)
theorem mT_keys (k : Int) (l : List Int) : keysOk (.int .i64 k) (mT l) = true := by simp [keysOk, mT, keyOk]
theorem mT_trus (l : List Int) : trusOk (mT l) = true := by simp [trusOk, mT]
theorem mT_has (k : Int) : ∀ l : List Int, truM (.int .i64 k) (mT l) = true ↔ k ∈ l
  | [] => by simp [truM, mT, valM]
  | e :: r => by
    have := mT_has k r
    simp only [truM, mT, List.map_cons, valM, keyEq] at this ⊢
    cases h : (k == e)
    · simp only [List.mem_cons]
      rw [beq_eq_false_iff_ne] at h
      rw [this]
      exact ⟨.inr, fun h' => h'.resolve_left h⟩
    · have : k = e := by simpa using h
      simp [this]
def addK (k : Int) : List Int → List Int
  | [] => [k]
  | e :: r => match k == e with | true => k :: r | false => e :: addK k r
theorem addK_mem (k v : Int) : ∀ r : List Int, v ∈ addK k r → v = k ∨ v ∈ r
  | [], h => by simp only [addK, List.mem_singleton] at h; exact .inl h
  | e :: r, h => by
    simp only [addK] at h
    cases hk : (k == e)
    · rw [hk] at h
      rcases List.mem_cons.1 h with h | h
      · exact .inr (by rw [h]; exact List.mem_cons_self ..)
      · exact (addK_mem k v r h).imp id fun h => List.mem_cons_of_mem _ h
    · rw [hk] at h
      rcases List.mem_cons.1 h with h | h
      · exact .inl h
      · exact .inr (List.mem_cons_of_mem _ h)
theorem mT_put (k : Int) : ∀ l : List Int, setM (.int .i64 k) (.bool true) (mT l) = mT (addK k l)
  | [] => rfl
  | e :: r => by
    have := mT_put k r
    simp only [mT, List.map_cons, setM, keyEq, addK] at this ⊢
    cases h : (k == e)
    · simp only [List.map_cons, this]
    · simp only [List.map_cons]
abbrev gTo (me : Int) (x : Nat → Ent) (h : Nat) (L : Int) (ks : List Int) : Int := (chT me L x (mI (onesL ks)) h).2.1
abbrev gOk (me : Int) (x : Nat → Ent) (h : Nat) (L : Int) (ks : List Int) : Bool := (chT me L x (mI (onesL ks)) h).1
abbrev nnC (c : Int) : Int := IntKind.wrap IntKind.i64 (0 + IntKind.wrap IntKind.i64 (c + 1))
def S_mo (h : Nat) (S me tk : Int) (l : List FV) (x : Nat → Ent) (r p q sh u c last now : Int) (had : List Int) : St :=
  ⟨[(1, .v (AI me)), (3, .v (AI tk)), (9, .v (AP 0)), (10, .v (.one (.f (.fp l)))), (11, .v (AP 1)), (12, .v (.one (.f (.fs false 5 h (entE x))))), (15, .v (.one (.mp 2))), (16, .v (AI last)), (17, .v (AI now))],
    [(0, .cells [I h, I S]), (1, .cells [I r, I p, I q, I sh, I u, I c, I 0]), (2, .map (mT had))], 3, true, 0, []⟩
def S_m1 (h : Nat) (S me tk : Int) (l : List FV) (x : Nat → Ent) (r p q sh u c last now : Int) (es : List (Value × Value)) : St :=
  ⟨[(1, .v (AI me)), (3, .v (AI tk)), (9, .v (AP 0)), (10, .v (.one (.f (.fp l)))), (11, .v (AP 1)), (12, .v (.one (.f (.fs false 5 h (entE x))))), (15, .v (.one (.mp 2))), (16, .v (AI last)), (17, .v (AI now))],
    [(1, .cells [I r, I p, I q, I sh, I u, I c, I 0]), (0, .cells [I h, I S]), (2, .map es)], 3, true, 0, []⟩

noncomputable def trO (h : Nat) (S me tk : Int) (l : List FV) (x : Nat → Ent) (n : Int) (ks : List Int) (k c last now : Int) (had : List Int) : T (Ex × St) :=
  T.br (decide (now ≥ 0)) (T.br (pb (ChP me false h (entE x) (mI (onesL ks)))) (T.br (gOk me x h n ks) (T.br (me != me) T.bad (T.br (me != me) T.bad (T.br (me != me) T.bad (T.br (me != me) T.bad (T.br (me != me) T.bad (T.br (gTo me x h n ks == me) T.bad (T.br (gTo me x h n ks == me) T.bad (T.br (gTo me x h n ks == me) T.bad (T.br (gTo me x h n ks == me) T.bad (T.br (decide (gTo me x h n ks < 0)) T.bad (T.br (decide (gTo me x h n ks < 0)) T.bad (T.br (decide (gTo me x h n ks < 0)) T.bad (T.br (decide (gTo me x h n ks < 0)) T.bad (T.br (decide (gTo me x h n ks < 0)) T.bad (T.br (decide (gTo me x h n ks < 0)) T.bad (T.br (decide (gTo me x h n ks ≥ (h : Int))) T.bad (T.br (decide (gTo me x h n ks ≥ (h : Int))) T.bad (T.br (decide (gTo me x h n ks ≥ (h : Int))) T.bad (T.br (decide (gTo me x h n ks ≥ (h : Int))) T.bad (T.br (keysOk (Value.int IntKind.i64 (nnC c)) (mT had) && trusOk (mT had)) (T.br (decide (gTo me x h n ks ≥ (h : Int))) T.bad (T.br (truM (Value.int IntKind.i64 (nnC c)) (mT had)) T.bad (T.br (truM (Value.int IntKind.i64 (nnC c)) (mT had)) T.bad (T.br (truM (Value.int IntKind.i64 (nnC c)) (mT had)) T.bad (T.br (truM (Value.int IntKind.i64 (nnC c)) (mT had)) T.bad (T.br (truM (Value.int IntKind.i64 (nnC c)) (mT had)) T.bad (T.br (decide (IntKind.wrap IntKind.i64 (now - last) ≤ 9)) T.bad (T.br (decide (IntKind.wrap IntKind.i64 (now - last) ≤ 9)) T.bad (T.br (decide (IntKind.wrap IntKind.i64 (now - last) ≤ 9)) T.bad (T.br (decide (IntKind.wrap IntKind.i64 (now - last) ≤ 9)) T.bad (T.br (decide (IntKind.wrap IntKind.i64 (now - last) ≤ 9)) T.bad (T.br (decide (IntKind.wrap IntKind.i64 (now - last) ≤ 9)) T.bad (T.br (decide (IntKind.wrap IntKind.i64 (now - last) ≤ 9)) T.bad (T.br (decide (IntKind.wrap IntKind.i64 (now - last) ≤ 9)) T.bad (T.br (decide (0 ≤ gTo me x h n ks ∧ gTo me x h n ks < (h : Int))) (T.br (decide (IntKind.wrap IntKind.i64 (now - last) ≤ 9)) T.bad (T.br (decide (IntKind.wrap IntKind.i64 (now - last) ≤ 9)) T.bad (T.br (decide (IntKind.wrap IntKind.i64 (now - last) ≤ 9)) T.bad (T.br (decide (IntKind.wrap IntKind.i64 (now - last) ≤ 9)) T.bad (T.br (decide (IntKind.wrap IntKind.i64 (now - last) ≤ 9)) T.bad (T.br (decide (1 ≥ IntKind.wrap IntKind.i64 (n - Ent.load (x (Int.toNat (gTo me x h n ks)))))) T.bad (T.br (keysOk (Value.int IntKind.i64 (nnC c)) (mT had)) (T.ret (Ex.normal, (S_m1 h S me tk l x 1 (gTo me x h n ks) (nnC c) k (IntKind.wrap IntKind.i64 (now + 9)) (IntKind.wrap IntKind.i64 (c + 1)) now (IntKind.wrap IntKind.i64 (now + 1)) (setM (Value.int IntKind.i64 (nnC c)) (Value.bool true) (mT had))))) T.bad))))))) T.bad))))))))))))))) T.bad)))))))))))))))))))) (T.ret (Ex.normal, (S_mo h S me tk l x 0 0 0 0 0 c last (IntKind.wrap IntKind.i64 (now + 1)) had)))) T.bad) (T.ret (Ex.normal, (S_mo h S me tk l x 0 0 0 0 0 c last (IntKind.wrap IntKind.i64 (now + 1)) had)))
noncomputable def trF (h : Nat) (S me tk : Int) (l : List FV) (x : Nat → Ent) (n : Int) (ks : List Int) (k c last now : Int) (had : List Int) : T (Ex × St) :=
  T.br (decide (now < IntKind.wrap IntKind.i64 (20 + tk % 60))) (trO h S me tk l x n ks k c last now had) (T.ret (Ex.exit 2, { sl := [], H := [(0, Ob.cells [I (h : Int), I S]), (1, Ob.cells [I 0, I 0, I 0, I 0, I 0, I c, I 0]), (2, Ob.map (mT had))], nx := 3, esc := true, base := 0, wr := [] : St }))
noncomputable def trG (h : Nat) (S me tk : Int) (l : List FV) (x : Nat → Ent) (n : Int) (ks : List Int) (k p q u c last now : Int) (had : List Int) : T (Ex × St) :=
  T.br (decide (now < IntKind.wrap IntKind.i64 (20 + tk % 60))) (T.br (decide (u ≥ now)) (T.ret (Ex.normal, (S_mo h S me tk l x 1 p q k u c last (IntKind.wrap IntKind.i64 (now + 1)) had))) (trO h S me tk l x n ks k c last now had)) (T.ret (Ex.exit 2, { sl := [], H := [(0, Ob.cells [I (h : Int), I S]), (1, Ob.cells [I 1, I p, I q, I k, I u, I c, I 0]), (2, Ob.map (mT had))], nx := 3, esc := true, base := 0, wr := [] : St }))

end Go.Proofs.YtbobakclbdaepaaGreat.En
/- HandOffers: the table. -/
namespace Go.Proofs.YtbobakclbdaepaaGreat.En
open Go
set_option linter.unusedVariables false
set_option linter.unusedSimpArgs false
set_option maxRecDepth 20000
set_option maxHeartbeats 1000000
def tabL (kl : Nat) (xl : Nat → Int) : Nat → Ent := fun j => ⟨0, 0, 0, bif Nat.ble (j + 1) kl then xl j % 5 else 0, false⟩
def S_tq (h : Nat) (S me : Int) (l : List FV) (nl : Bool) (kl : Nat) (xl : Nat → Int) (tk : Int) (i : Nat) : St :=
  ⟨[(1, .v (AI me)), (2, .v (.one (.f (.fs nl 1 kl (intE xl))))), (3, .v (AI tk)), (9, .v (AP 0)), (10, .v (.one (.f (.fp l)))), (11, .v (AP 1)), (12, .v (.one (.sl (Nat.beq i 0) 2 5 0 0 i i false 5))), (13, .v (AI i))],
    [(0, .cells [I h, I S]), (1, .cells [I 0, I 0, I 0, I 0, I 0, I 0, I 0]), (2, .arr (!(Nat.beq i 0)) 5 i (entE (tabL kl xl)))], 3, true, 0, []⟩

noncomputable def GOT1 : Ctx := GS.with ss_ChO ll_co
noncomputable def tgt_tb (h : Nat) (S me : Int) (l : List FV) (nl : Bool) (kl : Nat) (xl : Nat → Int) (tk : Int) (i : Nat) : T (Ex × St) := evRound GOT1 300 4 Tryz.f4.ntmps (loopOf Tryz.f4 9) 2 [1, 2, 3, 9, 10, 11, 12, 13] [1, 3, 9, 10, 11, 12] (S_tq h S me l nl kl xl tk i)
theorem GKOT1 : KnownOk Tryz.prog GOT1 := KnownOk.lists ss_ChO_ok ll_co_ok
theorem GOOT1 : CtxOk Tryz.prog GOT1 := GS_ok.with _ _
theorem tree_tb (h : Nat) (S me : Int) (l : List FV) (nl : Bool) (kl : Nat) (xl : Nat → Int) (tk : Int) (i : Nat) : (tgt_tb h S me l nl kl xl tk i).over (.br (.br (.br (.br (.tt (.tt (.ff (.br (.br .skip .skip) (.br (.br .leaf .skip) .skip))))) .skip) .skip) (.tt (.ff (.br (.br .skip .skip) (.br (.br .leaf .skip) .skip))))) .leaf) = T.br (decide ((↑i : Int) < (↑h : Int))) (T.br (decide ((↑i : Int) < (↑kl : Int))) (T.br (!nl) (T.br (decide ((0 : Int) ≤ (↑i : Int) ∧ (↑i : Int) < (↑kl : Int))) (T.br (Nat.ble (i + 1) i) (T.br (!Nat.beq i 0) T.bad T.bad) (T.br (smallB (i + 1) 40) (T.br ((Nat.beq i 0 || !Nat.beq i 0) && Nat.ble (0 + i) i) (T.ret (Ex.normal, ⟨[(1, SV.v (AI me)), (2, SV.v (AV.one (CV.f (FV.fs nl 1 kl fun a => [FV.lit (.int .i64 (xl a))])))), (3, SV.v (AI tk)), (9, SV.v (AP 0)), (10, SV.v (AV.one (CV.f (FV.fp l)))), (11, SV.v (AP 1)), (12, SV.v (AV.one (CV.sl false 2 5 0 0 (i + 1) (i + 1) false 5))), (13, SV.v (AI (IntKind.wrap IntKind.i64 ((↑i : Int) + (1 : Int)))))], [(0, Ob.cells [I (↑h : Int), I S]), (1, Ob.cells [I (0 : Int), I (0 : Int), I (0 : Int), I (0 : Int), I (0 : Int), I (0 : Int), I (0 : Int)]), (2, Ob.arr true 5 (i + 1) fun i_1 => [FV.lit (.int .i64 (bif Nat.ble (i_1 + 1) i then Ent.inc (tabL kl xl (0 + i_1)) else (0 : Int))), FV.lit (.int .i64 (bif Nat.ble (i_1 + 1) i then Ent.st (tabL kl xl (0 + i_1)) else (0 : Int))), FV.lit (.int .i64 (bif Nat.ble (i_1 + 1) i then Ent.stamp (tabL kl xl (0 + i_1)) else (0 : Int))), FV.lit (.int .i64 (bif Nat.ble (i_1 + 1) i then Ent.load (tabL kl xl (0 + i_1)) else xl i % (5 : Int))), FV.lit (Value.bool (bif Nat.ble (i_1 + 1) i then Ent.dr (tabL kl xl (0 + i_1)) else false))])], 3, true, 0, []⟩)) T.bad) T.bad)) T.bad) T.bad) (T.br (Nat.ble (i + 1) i) (T.br (!Nat.beq i 0) T.bad T.bad) (T.br (smallB (i + 1) 40) (T.br ((Nat.beq i 0 || !Nat.beq i 0) && Nat.ble (0 + i) i) (T.ret (Ex.normal, ⟨[(1, SV.v (AI me)), (2, SV.v (AV.one (CV.f (FV.fs nl 1 kl fun a => [FV.lit (.int .i64 (xl a))])))), (3, SV.v (AI tk)), (9, SV.v (AP 0)), (10, SV.v (AV.one (CV.f (FV.fp l)))), (11, SV.v (AP 1)), (12, SV.v (AV.one (CV.sl false 2 5 0 0 (i + 1) (i + 1) false 5))), (13, SV.v (AI (IntKind.wrap IntKind.i64 ((↑i : Int) + (1 : Int)))))], [(0, Ob.cells [I (↑h : Int), I S]), (1, Ob.cells [I (0 : Int), I (0 : Int), I (0 : Int), I (0 : Int), I (0 : Int), I (0 : Int), I (0 : Int)]), (2, Ob.arr true 5 (i + 1) fun i_1 => [FV.lit (.int .i64 (bif Nat.ble (i_1 + 1) i then Ent.inc (tabL kl xl (0 + i_1)) else (0 : Int))), FV.lit (.int .i64 (bif Nat.ble (i_1 + 1) i then Ent.st (tabL kl xl (0 + i_1)) else (0 : Int))), FV.lit (.int .i64 (bif Nat.ble (i_1 + 1) i then Ent.stamp (tabL kl xl (0 + i_1)) else (0 : Int))), FV.lit (.int .i64 (bif Nat.ble (i_1 + 1) i then Ent.load (tabL kl xl (0 + i_1)) else (0 : Int))), FV.lit (Value.bool (bif Nat.ble (i_1 + 1) i then Ent.dr (tabL kl xl (0 + i_1)) else false))])], 3, true, 0, []⟩)) T.bad) T.bad))) (T.ret (Ex.exit 0, ⟨[(1, SV.v (AI me)), (3, SV.v (AI tk)), (9, SV.v (AP 0)), (10, SV.v (AV.one (CV.f (FV.fp l)))), (11, SV.v (AP 1)), (12, SV.v (AV.one (CV.sl (Nat.beq i 0) 2 5 0 0 i i false 5)))], [(0, Ob.cells [I (↑h : Int), I S]), (1, Ob.cells [I (0 : Int), I (0 : Int), I (0 : Int), I (0 : Int), I (0 : Int), I (0 : Int), I (0 : Int)]), (2, Ob.arr (!Nat.beq i 0) 5 i fun a => [FV.lit (.int .i64 (0 : Int)), FV.lit (.int .i64 (0 : Int)), FV.lit (.int .i64 (0 : Int)), FV.lit (.int .i64 (Ent.load (tabL kl xl a))), FV.lit (Value.bool false)])], 3, true, 0, []⟩)) := by kernel_rfl
end Go.Proofs.YtbobakclbdaepaaGreat.En
/- HandOffers: what stands between its loops. -/
namespace Go.Proofs.YtbobakclbdaepaaGreat.En
open Go
set_option linter.unusedVariables false
set_option linter.unusedSimpArgs false
set_option maxRecDepth 20000
set_option maxHeartbeats 1000000
def fstC : Code → Code | .seq a _ => a | c => c
def S_fz (h : Nat) (S me : Int) (l : List FV) (pl : List CV) (nl : Bool) (kl : Nat) (xl : Nat → Int) (tk : Int) (n : Nat) : St :=
  ⟨[(10, .v (.one (.f (.fp l)))), (1, .v (AI me)), (2, .v (.one (.f (.fs nl 1 kl (intE xl))))), (3, .v (AI tk)), (9, .v (AP 0)), (10, .v (AP 1)), (11, .v (AP (3 + n)))], [(0, .cells [I h, I S]), (2, .cells pl), (3 + n, .cells [I 0, I 0, I 0, I 0, I 0, I 0, I 0])], 4 + n, true, 0, []⟩
def S_7 (h : Nat) (S me : Int) (l : List FV) (nl : Bool) (kl : Nat) (xl : Nat → Int) (tk : Int) : St :=
  ⟨[(1, .v (AI me)), (2, .v (.one (.f (.fs nl 1 kl (intE xl))))), (3, .v (AI tk)), (9, .v (AP 0)), (10, .v (.one (.f (.fp l)))), (11, .v (AP 1)), (12, .v (.one Nil))], [(0, .cells [I h, I S]), (1, .cells [I 0, I 0, I 0, I 0, I 0, I 0, I 0])], 2, true, 0, []⟩
def S_8 (h : Nat) (S me tk : Int) (l : List FV) (x : Nat → Ent) : St :=
  ⟨[(1, .v (AI me)), (3, .v (AI tk)), (9, .v (AP 0)), (10, .v (.one (.f (.fp l)))), (11, .v (AP 1)), (12, .v (.one (.sl (Nat.beq h 0) 2 5 0 0 h h false 5)))], [(0, .cells [I h, I S]), (1, .cells [I 0, I 0, I 0, I 0, I 0, I 0, I 0]), (2, .arr (!(Nat.beq h 0)) 5 h (entE x))], 3, true, 0, []⟩
def S_9 (h : Nat) (S me tk : Int) (l : List FV) (x : Nat → Ent) (wr : List Nat) : St :=
  ⟨[(1, .v (AI me)), (3, .v (AI tk)), (9, .v (AP 0)), (10, .v (.one (.f (.fp l)))), (11, .v (AP 1)), (12, .v (.one (.f (.fs false 5 h (entE x))))), (15, .v (.one (.mp 2))), (16, .v (AI (-1000)))], [(0, .cells [I h, I S]), (1, .cells [I 0, I 0, I 0, I 0, I 0, I 0, I 0]), (2, .map [])], 3, true, 0, wr⟩

noncomputable def GOG1 : Ctx := GS.with ss_ChO ll_co
noncomputable def tgt_T60 (h : Nat) (S me : Int) (l : List FV) (pl : List CV) (nl : Bool) (kl : Nat) (xl : Nat → Int) (tk : Int) : T (Ex × St) := evCutR GOG1 300 4 Tryz.f4.ntmps 1 (restC 6 hoC) 0 [1, 2, 3, 9, 10, 11, 12] [] (S_fz h S me l pl nl kl xl tk 0)
noncomputable def tgt_T61 (h : Nat) (S me : Int) (l : List FV) (pl : List CV) (nl : Bool) (kl : Nat) (xl : Nat → Int) (tk : Int) : T (Ex × St) := evCutR GOG1 300 4 Tryz.f4.ntmps 1 (restC 6 hoC) 0 [1, 2, 3, 9, 10, 11, 12] [] (S_fz h S me l pl nl kl xl tk 1)
noncomputable def tgt_T62 (h : Nat) (S me : Int) (l : List FV) (pl : List CV) (nl : Bool) (kl : Nat) (xl : Nat → Int) (tk : Int) : T (Ex × St) := evCutR GOG1 300 4 Tryz.f4.ntmps 1 (restC 6 hoC) 0 [1, 2, 3, 9, 10, 11, 12] [] (S_fz h S me l pl nl kl xl tk 2)
noncomputable def tgt_T63 (h : Nat) (S me : Int) (l : List FV) (pl : List CV) (nl : Bool) (kl : Nat) (xl : Nat → Int) (tk : Int) : T (Ex × St) := evCutR GOG1 300 4 Tryz.f4.ntmps 1 (restC 6 hoC) 0 [1, 2, 3, 9, 10, 11, 12] [] (S_fz h S me l pl nl kl xl tk 3)
noncomputable def tgt_T7 (h : Nat) (S me : Int) (l : List FV) (nl : Bool) (kl : Nat) (xl : Nat → Int) (tk : Int) : T (Ex × St) := evRound GOG1 300 4 Tryz.f4.ntmps (fstC (fstC (restC 7 hoC))) 2 [1, 2, 3, 9, 10, 11, 12, 13] [] (S_7 h S me l nl kl xl tk)
noncomputable def tgt_Z (o0 o1 o2 : Ob) : T (Ex × St) := evRound GOG1 300 4 Tryz.f4.ntmps (restC 11 hoC) 0 [8] [8] (⟨[], [(0, o0), (1, o1), (2, o2)], 3, true, 0, []⟩)
noncomputable def tgt_T10 (h : Nat) (S me tk : Int) (l : List FV) (x : Nat → Ent) : T (Ex × St) := evRound GOG1 300 4 Tryz.f4.ntmps (fstC (fstC (restC 10 hoC))) 3 [1, 3, 9, 10, 11, 12, 15, 16, 17] [] (S_9 h S me tk l x [])
theorem GKOG1 : KnownOk Tryz.prog GOG1 := KnownOk.lists ss_ChO_ok ll_co_ok
theorem GOOG1 : CtxOk Tryz.prog GOG1 := GS_ok.with _ _
theorem tree_T60 (h : Nat) (S me : Int) (l : List FV) (pl : List CV) (nl : Bool) (kl : Nat) (xl : Nat → Int) (tk : Int) : (tgt_T60 h S me l pl nl kl xl tk).over .leaf = T.ret (Ex.normal, ⟨[(1, SV.v (AI me)), (2, SV.v (AV.one (CV.f (FV.fs nl 1 kl fun a => [FV.lit (.int .i64 (xl a))])))), (3, SV.v (AI tk)), (9, SV.v (AP 0)), (10, SV.v (AV.one (CV.f (FV.fp l)))), (11, SV.v (AP 1)), (12, SV.v (AV.one Nil))], [(0, Ob.cells [I (↑h : Int), I S]), (1, Ob.cells [I (0 : Int), I (0 : Int), I (0 : Int), I (0 : Int), I (0 : Int), I (0 : Int), I (0 : Int)])], 2, true, 0, []⟩) := by kernel_rfl
theorem tree_T61 (h : Nat) (S me : Int) (l : List FV) (pl : List CV) (nl : Bool) (kl : Nat) (xl : Nat → Int) (tk : Int) : (tgt_T61 h S me l pl nl kl xl tk).over .leaf = T.ret (Ex.normal, ⟨[(1, SV.v (AI me)), (2, SV.v (AV.one (CV.f (FV.fs nl 1 kl fun a => [FV.lit (.int .i64 (xl a))])))), (3, SV.v (AI tk)), (9, SV.v (AP 0)), (10, SV.v (AV.one (CV.f (FV.fp l)))), (11, SV.v (AP 1)), (12, SV.v (AV.one Nil))], [(0, Ob.cells [I (↑h : Int), I S]), (1, Ob.cells [I (0 : Int), I (0 : Int), I (0 : Int), I (0 : Int), I (0 : Int), I (0 : Int), I (0 : Int)])], 2, true, 0, []⟩) := by kernel_rfl
theorem tree_T62 (h : Nat) (S me : Int) (l : List FV) (pl : List CV) (nl : Bool) (kl : Nat) (xl : Nat → Int) (tk : Int) : (tgt_T62 h S me l pl nl kl xl tk).over .leaf = T.ret (Ex.normal, ⟨[(1, SV.v (AI me)), (2, SV.v (AV.one (CV.f (FV.fs nl 1 kl fun a => [FV.lit (.int .i64 (xl a))])))), (3, SV.v (AI tk)), (9, SV.v (AP 0)), (10, SV.v (AV.one (CV.f (FV.fp l)))), (11, SV.v (AP 1)), (12, SV.v (AV.one Nil))], [(0, Ob.cells [I (↑h : Int), I S]), (1, Ob.cells [I (0 : Int), I (0 : Int), I (0 : Int), I (0 : Int), I (0 : Int), I (0 : Int), I (0 : Int)])], 2, true, 0, []⟩) := by kernel_rfl
theorem tree_T63 (h : Nat) (S me : Int) (l : List FV) (pl : List CV) (nl : Bool) (kl : Nat) (xl : Nat → Int) (tk : Int) : (tgt_T63 h S me l pl nl kl xl tk).over .leaf = T.ret (Ex.normal, ⟨[(1, SV.v (AI me)), (2, SV.v (AV.one (CV.f (FV.fs nl 1 kl fun a => [FV.lit (.int .i64 (xl a))])))), (3, SV.v (AI tk)), (9, SV.v (AP 0)), (10, SV.v (AV.one (CV.f (FV.fp l)))), (11, SV.v (AP 1)), (12, SV.v (AV.one Nil))], [(0, Ob.cells [I (↑h : Int), I S]), (1, Ob.cells [I (0 : Int), I (0 : Int), I (0 : Int), I (0 : Int), I (0 : Int), I (0 : Int), I (0 : Int)])], 2, true, 0, []⟩) := by kernel_rfl
theorem tree_T7 (h : Nat) (S me : Int) (l : List FV) (nl : Bool) (kl : Nat) (xl : Nat → Int) (tk : Int) : (tgt_T7 h S me l nl kl xl tk).over .leaf = T.ret (Ex.normal, ⟨[(1, SV.v (AI me)), (2, SV.v (AV.one (CV.f (FV.fs nl 1 kl fun a => [FV.lit (.int .i64 (xl a))])))), (3, SV.v (AI tk)), (9, SV.v (AP 0)), (10, SV.v (AV.one (CV.f (FV.fp l)))), (11, SV.v (AP 1)), (12, SV.v (AV.one Nil)), (13, SV.v (AI (0 : Int)))], [(0, Ob.cells [I (↑h : Int), I S]), (1, Ob.cells [I (0 : Int), I (0 : Int), I (0 : Int), I (0 : Int), I (0 : Int), I (0 : Int), I (0 : Int)])], 2, true, 0, []⟩) := by kernel_rfl
theorem tree_Z (o0 o1 o2 : Ob) : (tgt_Z o0 o1 o2).over .leaf = T.ret (Ex.ret, ⟨[(8, SV.v (AB true))], [], 0, true, 0, []⟩) := by kernel_rfl
theorem tree_T10 (h : Nat) (S me tk : Int) (l : List FV) (x : Nat → Ent) : (tgt_T10 h S me tk l x).over .leaf = T.ret (Ex.normal, ⟨[(1, SV.v (AI me)), (3, SV.v (AI tk)), (9, SV.v (AP 0)), (10, SV.v (AV.one (CV.f (FV.fp l)))), (11, SV.v (AP 1)), (12, SV.v (AV.one (CV.f (FV.fs false 5 h fun a => [FV.lit (.int .i64 (Ent.inc (x a))), FV.lit (.int .i64 (Ent.st (x a))), FV.lit (.int .i64 (Ent.stamp (x a))), FV.lit (.int .i64 (Ent.load (x a))), FV.lit (Value.bool (Ent.dr (x a)))])))), (15, SV.v (AV.one (CV.mp 2))), (16, SV.v (AI (-1000 : Int))), (17, SV.v (AI (1 : Int)))], [(0, Ob.cells [I (↑h : Int), I S]), (1, Ob.cells [I (0 : Int), I (0 : Int), I (0 : Int), I (0 : Int), I (0 : Int), I (0 : Int), I (0 : Int)]), (2, Ob.map [])], 3, true, 0, []⟩) := by kernel_rfl
noncomputable def GOG2 : Ctx := GS.withP ss_ChO ll_co [(4, 15, [12])]
noncomputable def tgt_T8 (h : Nat) (S me tk : Int) (l : List FV) (x : Nat → Ent) : T (Ex × St) := evCutR GOG2 300 4 Tryz.f4.ntmps 2 (restC 8 hoC) 2 [1, 3, 9, 10, 11, 12, 15, 16] [] (S_8 h S me tk l x)
theorem GKOG2 : KnownOk Tryz.prog GOG2 := KnownOk.listsP ss_ChO_ok ll_co_ok
theorem GOOG2 : CtxOk Tryz.prog GOG2 := GS_ok.withP _ _ _
theorem tree_T8 (h : Nat) (S me tk : Int) (l : List FV) (x : Nat → Ent) : (tgt_T8 h S me tk l x).over (.br .leaf .skip) = T.br (Nat.ble h h && (!Nat.beq h 0 || Nat.beq h 0)) (T.ret (Ex.normal, ⟨[(1, SV.v (AI me)), (3, SV.v (AI tk)), (9, SV.v (AP 0)), (10, SV.v (AV.one (CV.f (FV.fp l)))), (11, SV.v (AP 1)), (12, SV.v (AV.one (CV.f (FV.fs (Nat.beq h 0) 5 h fun a => [FV.lit (.int .i64 (Ent.inc (x a))), FV.lit (.int .i64 (Ent.st (x a))), FV.lit (.int .i64 (Ent.stamp (x a))), FV.lit (.int .i64 (Ent.load (x a))), FV.lit (Value.bool (Ent.dr (x a)))])))), (15, SV.v (AV.one (CV.mp 2))), (16, SV.v (AI (-1000 : Int)))], [(0, Ob.cells [I (↑h : Int), I S]), (1, Ob.cells [I (0 : Int), I (0 : Int), I (0 : Int), I (0 : Int), I (0 : Int), I (0 : Int), I (0 : Int)]), (2, Ob.map [])], 3, true, 0, [0, 1, 2]⟩)) T.bad := by kernel_rfl
end Go.Proofs.YtbobakclbdaepaaGreat.En
/- HandOffers: the store is frozen. -/
namespace Go.Proofs.YtbobakclbdaepaaGreat.En
open Go
set_option linter.unusedVariables false
set_option linter.unusedSimpArgs false
set_option maxRecDepth 20000
set_option maxHeartbeats 1000000
/-- New comes to this store -/
def NewOk (h S m : Nat) (P : List Nat) : Prop := ∀ (nl : Bool) (kl : Nat) (xl : Nat → Int) (tk : Int),
  (evCutR GOB1 2000 4 Tryz.f4.ntmps 3 (restC 3 hoC) 0 [1, 2, 3, 9, 10, 11] [] ⟨[(1, .v (AI m)), (2, .v (.one (.f (.fs nl 1 kl (intE xl))))), (3, .v (AI tk)), (9, .v (AP 0))], [(0, .cells [I h, I S])], 1, false, 0, []⟩).res = some (.normal, S_n h S m P nl kl xl tk)
theorem frz_st {c : Code} {R : Ex → St → Prop} {st : St} {h m : Int} {b : Nat} {S : Nat} {cs : List CV} {fs : List FV} {B : List Nat}
    (ht : st.sl.get 10 = .v (AP 1)) (hc : st.H.get 1 = .cells (I h :: .sl false b 0 0 0 S S false 2 :: I 0 :: Bo false :: I m :: I h :: cs)) (h1 : 1 ∈ B) (hl : fs.length = cs.length)
    (hz : ∀ (j : Nat) x y, cs[j]? = some x → fs[j]? = some y → x = .f y ∨ ∃ d k, x = Ptr d ∧ y = .fp (shF k) ∧ st.H.get d = .cells (shC k) ∧ d ∈ B)
    (hgo : ∀ vp, HT Tryz.prog Tryz.f4.ntmps c ⟨(10, .v (.one (.f (.fp (stF h m vp fs))))) :: st.sl, st.H.filter (fun e => !(B.any (Nat.beq e.1))), st.nx, st.esc, 0, []⟩ R) : HT Tryz.prog Tryz.f4.ntmps c st R := by
  refine HT.frz (B := B) ht fun f z w hcell => ?_
  obtain ⟨vp, hv, hvr⟩ := hcell 1 _ h1 hc 1 _ rfl
  refine ⟨_, ?_, hgo vp⟩
  refine Cv.ptr 1 _ _ hc h1 (by simp [stF, hl]) fun j x v y hx hv' hy => ?_
  rcases j with _ | _ | _ | _ | _ | _ | j
  · cases hx; cases hy; exact Cv.same _ _
  · cases hx; cases hy
    rw [hv] at hv'
    cases hv'
    exact Cv.any _ _ hvr.one
  · cases hx; cases hy; exact Cv.same _ _
  · cases hx; cases hy; exact Cv.same _ _
  · cases hx; cases hy; exact Cv.same _ _
  · cases hx; cases hy; exact Cv.same _ _
  · have hx1 : cs[j]? = some x := hx
    have hy1 : fs[j]? = some y := hy
    rcases hz j x y hx1 hy1 with rfl | ⟨d, k, rfl, rfl, hd, hdB⟩
    · exact Cv.same _ _
    · obtain ⟨v2, hv2, hr2⟩ := hcell 1 _ h1 hc (j + 6) _ hx
      rw [hv2] at hv'
      cases hv'
      obtain ⟨_, rfl⟩ := hr2
      refine Cv.ptr d _ _ hd hdB (by simp [shC]) fun i x v y hx hv hy => ?_
      have : x = .f y := by
        simp only [shC, List.getElem?_map, hy, Option.map_some, Option.some.injEq] at hx
        exact hx.symm
      subst this
      exact Cv.same _ _

end Go.Proofs.YtbobakclbdaepaaGreat.En
/- HandOffers: the loop of ticks. -/
namespace Go.Proofs.YtbobakclbdaepaaGreat.En
open Go
set_option linter.unusedVariables false
set_option linter.unusedSimpArgs false
set_option maxRecDepth 20000
set_option maxHeartbeats 1000000
structure TabOk (h : Nat) (x : Nat → Ent) : Prop where
  ld : ∀ j, 0 ≤ (x j).load ∧ (x j).load ≤ 4
  dr : ∀ j, (x j).dr = false
structure KsOk (n : Int) (ks : List Int) (k : Int) : Prop where
  key : KeyOk (onesL ks)
  least : ∀ a ∈ ks, k ≤ a
  hd : headK (mI (onesL ks)) = k
  len : 0 ≤ n ∧ n ≤ 6
theorem trO_no (h : Nat) (S me tk : Int) (l : List FV) (x : Nat → Ent) (n : Int) (ks : List Int) (k c last now : Int) (had : List Int) (hh : h < 20) (hin : 0 ≤ me ∧ me < (h : Int)) (hk : KsOk n ks k) (hnow : 1 ≤ now ∧ now ≤ 80)
    (hg : gOk me x h n ks = false) : (trO h S me tk l x n ks k c last now had).res = some (.normal, S_mo h S me tk l x 0 0 0 0 0 c last (now + 1) had) := by
  have e0 : decide (now ≥ 0) = true := decide_eq_true (by omega)
  have e1 : ChP me false h (entE x) (mI (onesL ks)) := ⟨⟨x, rfl⟩, ⟨fun h => (by cases h), hh⟩, ⟨ks, rfl, hk.key, fun a ha => by rw [hk.hd]; exact hk.least a ha⟩, hin⟩
  have e2 : IntKind.wrap IntKind.i64 (now + 1) = now + 1 := wrapI (by omega)
  unfold trO
  simp only [T.res_br, T.res_ret, T.res_bad, e0, pb_true e1, hg, e2, Bool.false_eq_true, reduceIte]
theorem trO_yes (h : Nat) (S me tk : Int) (l : List FV) (x : Nat → Ent) (n : Int) (ks : List Int) (k c last now : Int) (had : List Int) (hh : h < 20) (hin : 0 ≤ me ∧ me < (h : Int)) (hk : KsOk n ks k) (hx : TabOk h x) (hnow : 1 ≤ now ∧ now ≤ 80)
    (hc : 0 ≤ c ∧ c ≤ 80) (hhad : ∀ v ∈ had, v ≤ c) (hlast : -1000 ≤ last ∧ last + 9 < now) (hg : gOk me x h n ks = true) :
    (trO h S me tk l x n ks k c last now had).res = some (.normal, S_m1 h S me tk l x 1 (gTo me x h n ks) (c + 1) k (now + 9) (c + 1) now (now + 1) (mT (addK (c + 1) had))) := by
  have e0 : decide (now ≥ 0) = true := decide_eq_true (by omega)
  have hl : ∀ a ∈ ks, headK (mI (onesL ks)) ≤ a := fun a ha => by rw [hk.hd]; exact hk.least a ha
  have e1 : ChP me false h (entE x) (mI (onesL ks)) := ⟨⟨x, rfl⟩, ⟨fun h => (by cases h), hh⟩, ⟨ks, rfl, hk.key, hl⟩, hin⟩
  obtain ⟨⟨t1, t2, _, _⟩, _, _, _, t3⟩ := chT_one hk.key hl hin hg
  obtain ⟨to, ito⟩ : ∃ to, gTo me x h n ks = to := ⟨_, rfl⟩
  have ito' : (chT me n x (mI (onesL ks)) h).2.1 = to := ito
  rw [ito'] at t1 t2 t3
  have hld := hx.ld to.toNat
  have t4 : 1 < n - (x to.toNat).load := by
    have hn := hk.len
    simp only [fitsB, hx.dr, Bool.false_or, decide_eq_true_eq] at t3
    have a1 : wiI 1 = 1 := rfl
    have a2 : wiI n = n := by unfold wiI; omega
    have a3 : wiI (ldI x to) = (x to.toNat).load := by unfold wiI ldI; omega
    omega
  have e2 : IntKind.wrap IntKind.i64 (now + 1) = now + 1 := wrapI (by omega)
  have e3 : IntKind.wrap IntKind.i64 (now + 9) = now + 9 := wrapI (by omega)
  have e4 : IntKind.wrap IntKind.i64 (c + 1) = c + 1 := wrapI (by omega)
  have e5 : IntKind.wrap IntKind.i64 (0 + (c + 1)) = c + 1 := by rw [Int.zero_add]; exact e4
  have e6 : IntKind.wrap IntKind.i64 (now - last) = now - last := wrapI (by omega)
  have e7 : decide (now - last ≤ 9) = false := decide_eq_false (by omega)
  have e8 : (to == me) = false := beq_eq_false_iff_ne.2 t2
  have e9 : decide (to < 0) = false := decide_eq_false (by omega)
  have e10 : decide (to ≥ (h : Int)) = false := decide_eq_false (by omega)
  have e11 : decide (0 ≤ to ∧ to < (h : Int)) = true := decide_eq_true t1
  have e12 : truM (.int .i64 (c + 1)) (mT had) = false := by
    cases hb : truM (.int .i64 (c + 1)) (mT had)
    · rfl
    · have := hhad _ ((mT_has (c + 1) had).1 hb)
      omega
  have e13 : IntKind.wrap IntKind.i64 (n - (x to.toNat).load) = n - (x to.toNat).load := wrapI (by have := hk.len; omega)
  have e14 : decide (1 ≥ n - (x to.toNat).load) = false := decide_eq_false (by omega)
  unfold trO
  simp only [T.res_br, T.res_ret, T.res_bad, nnC, ito, e0, pb_true e1, hg, e2, e3, e4, e5, e6, e7, e8, e9, e10, e11, e12, e13, e14, mT_keys, mT_trus, mT_put, bne_self_eq_false, Bool.and_self, Bool.false_eq_true, reduceIte]
/-- what is ahead of a tick -/
structure TkIn (g : Bool) (u c last now : Int) (had : List Int) : Prop where
  now_ : 1 ≤ now ∧ now ≤ 80
  c_ : 0 ≤ c ∧ c < now
  had_ : ∀ v ∈ had, v ≤ c
  last_ : -1000 ≤ last
  free : g = false → last + 9 < now
  giving : g = true → u = last + 9
def S_tk (h : Nat) (S me tk : Int) (l : List FV) (x : Nat → Ent) (k : Int) (g : Bool) (p q u c last now : Int) (had : List Int) : St :=
  match g with
  | true => S_mo h S me tk l x 1 p q k u c last now had
  | false => S_mo h S me tk l x 0 0 0 0 0 c last now had
abbrev OutT : Ex → St → Prop := fun e s => e = .exit 2 ∧ ∃ o0 o1 o2, s = ⟨[], [(0, o0), (1, o1), (2, o2)], 3, true, 0, []⟩
theorem m1_le (h : Nat) (S me tk : Int) (l : List FV) (x : Nat → Ent) (r p q sh u c last now : Int) (had : List Int) : StLe 3 (S_m1 h S me tk l x r p q sh u c last now (mT had)) (S_mo h S me tk l x r p q sh u c last now had) :=
  StLe.less (s := S_m1 h S me tk l x r p q sh u c last now (mT had)) (Nat.le_refl 3) (fun t => .inr (.inl rfl)) (fun b => by rcases b with _ | _ | _ | b <;> exact .inl rfl)
theorem loop_of (h : Nat) (S me tk : Int) (l : List FV) (x : Nat → Ent) (n : Int) (ks : List Int) (k : Int) (hh : h < 20) (hin : 0 ≤ me ∧ me < (h : Int)) (hk : KsOk n ks k) (hx : TabOk h x)
    (hF : ∀ c last now had e st R, (trF h S me tk l x n ks k c last now had).res = some (e, st) → R e st → HT Tryz.prog Tryz.f4.ntmps (loopOf Tryz.f4 18) (S_mo h S me tk l x 0 0 0 0 0 c last now had) R)
    (hG : ks ≠ [] → ∀ p q u c last now had e st R, (trG h S me tk l x n ks k p q u c last now had).res = some (e, st) → R e st → HT Tryz.prog Tryz.f4.ntmps (loopOf Tryz.f4 18) (S_mo h S me tk l x 1 p q k u c last now had) R) :
    HT Tryz.prog Tryz.f4.ntmps (.loop (loopOf Tryz.f4 18)) (S_mo h S me tk l x 0 0 0 0 0 0 (-1000) 1 []) OutT := by
  refine HT.loop (α := Bool × Int × Int × Int × Int × Int × Int × List Int) (fun a => S_tk h S me tk l x k a.1 a.2.1 a.2.2.1 a.2.2.2.1 a.2.2.2.2.1 a.2.2.2.2.2.1 a.2.2.2.2.2.2.1 a.2.2.2.2.2.2.2) (fun a => (100 - a.2.2.2.2.2.2.1).toNat)
    (fun a => TkIn a.1 a.2.2.2.1 a.2.2.2.2.1 a.2.2.2.2.2.1 a.2.2.2.2.2.2.1 a.2.2.2.2.2.2.2 ∧ (a.1 = true → ks ≠ [])) (fun a hI => ?_) (p := (false, 0, 0, 0, 0, -1000, 1, [])) ⟨⟨by decide, by decide, fun v hv => (by cases hv), by decide, fun _ => (by decide), fun h => (by cases h)⟩, fun h => (by cases h)⟩ (m := 3) (StLe.refl (Nat.le_refl 3))
  obtain ⟨g, p, q, u, c, last, now, had⟩ := a
  have hI : TkIn g u c last now had ∧ (g = true → ks ≠ []) := hI
  obtain ⟨⟨h1, h2, h3, h4, h5, h6⟩, hne⟩ := hI
  dsimp only
  have hE : IntKind.wrap IntKind.i64 (20 + tk % 60) = 20 + tk % 60 := wrapI (by omega)
  have w1 : IntKind.wrap IntKind.i64 (now + 1) = now + 1 := wrapI (by omega)
  have no : ∀ (hw : now < 20 + tk % 60) (hl : last + 9 < now) (hg : gOk me x h n ks = false), ∃ (m : Nat) (p' : Bool × Int × Int × Int × Int × Int × Int × List Int), StLe m (S_mo h S me tk l x 0 0 0 0 0 c last (now + 1) had) (S_tk h S me tk l x k p'.1 p'.2.1 p'.2.2.1 p'.2.2.2.1 p'.2.2.2.2.1 p'.2.2.2.2.2.1 p'.2.2.2.2.2.2.1 p'.2.2.2.2.2.2.2) ∧ (TkIn p'.1 p'.2.2.2.1 p'.2.2.2.2.1 p'.2.2.2.2.2.1 p'.2.2.2.2.2.2.1 p'.2.2.2.2.2.2.2 ∧ (p'.1 = true → ks ≠ [])) ∧ (100 - p'.2.2.2.2.2.2.1).toNat < (100 - now).toNat :=
    fun hw hl hg => ⟨3, (false, 0, 0, 0, c, last, now + 1, had), StLe.refl (Nat.le_refl 3), ⟨⟨by dsimp only; omega, by dsimp only; omega, h3, h4, fun _ => (by dsimp only; omega), fun h => (by cases h)⟩, fun h => (by cases h)⟩, by dsimp only; omega⟩
  have yes : ∀ (hw : now < 20 + tk % 60) (hg : gOk me x h n ks = true), ∃ (m : Nat) (p' : Bool × Int × Int × Int × Int × Int × Int × List Int), StLe m (S_m1 h S me tk l x 1 (gTo me x h n ks) (c + 1) k (now + 9) (c + 1) now (now + 1) (mT (addK (c + 1) had))) (S_tk h S me tk l x k p'.1 p'.2.1 p'.2.2.1 p'.2.2.2.1 p'.2.2.2.2.1 p'.2.2.2.2.2.1 p'.2.2.2.2.2.2.1 p'.2.2.2.2.2.2.2) ∧ (TkIn p'.1 p'.2.2.2.1 p'.2.2.2.2.1 p'.2.2.2.2.2.1 p'.2.2.2.2.2.2.1 p'.2.2.2.2.2.2.2 ∧ (p'.1 = true → ks ≠ [])) ∧ (100 - p'.2.2.2.2.2.2.1).toNat < (100 - now).toNat :=
    fun hw hg => ⟨3, (true, gTo me x h n ks, c + 1, now + 9, c + 1, now, now + 1, addK (c + 1) had), m1_le h S me tk l x 1 (gTo me x h n ks) (c + 1) k (now + 9) (c + 1) now (now + 1) (addK (c + 1) had),
      ⟨⟨by dsimp only; omega, by dsimp only; omega, fun v hv => by
        dsimp only at hv ⊢
        rcases addK_mem _ _ _ hv with h | h
        · omega
        · have := h3 v h
          omega, by dsimp only; omega, fun h => (by cases h), fun _ => rfl⟩, fun _ => (chT_one hk.key (fun a ha => by rw [hk.hd]; exact hk.least a ha) hin hg).2.2.2.1⟩, by dsimp only; omega⟩
  by_cases hw : now < 20 + tk % 60
  · have hw' := decide_eq_true hw
    cases g
    · have h5 := h5 rfl
      cases hg : gOk me x h n ks
      · refine hF c last now had .normal _ _ (by
          unfold trF
          simp only [T.res_br, hE, hw', reduceIte]
          exact trO_no h S me tk l x n ks k c last now had hh hin hk h1 hg) ?_
        obtain ⟨m, p', r⟩ := no hw h5 hg
        exact .inl ⟨rfl, m, p', r⟩
      · refine hF c last now had .normal _ _ (by
          unfold trF
          simp only [T.res_br, hE, hw', reduceIte]
          exact trO_yes h S me tk l x n ks k c last now had hh hin hk hx h1 (by omega) h3 ⟨h4, h5⟩ hg) ?_
        obtain ⟨m, p', r⟩ := yes hw hg
        exact .inl ⟨rfl, m, p', r⟩
    · have h6 := h6 rfl
      by_cases hu : u ≥ now
      · refine hG (hne rfl) p q u c last now had .normal _ _ (by
          unfold trG
          simp only [T.res_br, T.res_ret, hE, hw', decide_eq_true hu, w1, reduceIte]
          rfl) (.inl ⟨rfl, 3, (true, p, q, u, c, last, now + 1, had), StLe.refl (Nat.le_refl 3), ⟨⟨by dsimp only; omega, by dsimp only; omega, h3, h4, fun h => by (cases h), fun _ => h6⟩, fun _ => hne rfl⟩, by dsimp only; omega⟩)
      · have h5 : last + 9 < now := by omega
        cases hg : gOk me x h n ks
        · refine hG (hne rfl) p q u c last now had .normal _ _ (by
            unfold trG
            simp only [T.res_br, hE, hw', decide_eq_false hu, Bool.false_eq_true, reduceIte]
            exact trO_no h S me tk l x n ks k c last now had hh hin hk h1 hg) ?_
          obtain ⟨m, p', r⟩ := no hw h5 hg
          exact .inl ⟨rfl, m, p', r⟩
        · refine hG (hne rfl) p q u c last now had .normal _ _ (by
            unfold trG
            simp only [T.res_br, hE, hw', decide_eq_false hu, Bool.false_eq_true, reduceIte]
            exact trO_yes h S me tk l x n ks k c last now had hh hin hk hx h1 (by omega) h3 ⟨h4, h5⟩ hg) ?_
          obtain ⟨m, p', r⟩ := yes hw hg
          exact .inl ⟨rfl, m, p', r⟩
  · have hw' := decide_eq_false hw
    cases g
    · exact hF c last now had (.exit 2) _ _ (by
        unfold trF
        simp only [T.res_br, T.res_ret, hE, hw', Bool.false_eq_true, reduceIte]
        rfl) (.inr ⟨by simp, rfl, _, _, _, rfl⟩)
    · exact hG (hne rfl) p q u c last now had (.exit 2) _ _ (by
        unfold trG
        simp only [T.res_br, T.res_ret, hE, hw', Bool.false_eq_true, reduceIte]
        rfl) (.inr ⟨by simp, rfl, _, _, _, rfl⟩)

end Go.Proofs.YtbobakclbdaepaaGreat.En
