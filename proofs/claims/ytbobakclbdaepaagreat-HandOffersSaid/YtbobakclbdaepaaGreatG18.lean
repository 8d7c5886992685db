/- Texts put together: RD, RE, RF, RG, RH. -/
import Derived.Test.YtbobakclbdaepaaGreatG17
/- Rows of numbers: DeleteFunc, Sort, BinarySearch are known. -/
namespace Go.Proofs.YtbobakclbdaepaaGreat.En
open Go
set_option linter.unusedVariables false
set_option linter.unusedSimpArgs false
set_option maxRecDepth 20000
set_option maxHeartbeats 1000000
/-- the row, sorted -/
def sortI (x : Nat → Int) (n : Nat) : Nat → Int := putL x 0 ((rowL x 0 n).mergeSort fun x y => decide (x ≤ y))
theorem to_Sort (n N cap : Nat) (ex : Bool) (x : Nat → Int) (h : n ≤ N ∧ (n : Int) < 4611686018427387904) : CallTo Tryz.prog 94 [.one (.sl false 0 1 0 0 n cap ex 1)] [(0, .arr true 1 N (intE x))] 1 ⟨.tup [], [(0, .arr true 1 N (intE (sortI x n)))], 1, false, [0]⟩ := by
  refine row_to (x := x) (ys := (rowL x 0 n).mergeSort fun x y => decide (x ≤ y)) (N := N) rfl (by omega) (by rw [List.length_mergeSort, rowL_length]) fun k o c w hc hh hk => ?_
  have := Tryz.slices_Sort_int k o c (rowL x 0 n) w hh hk (by rw [rowL_length]; omega)
  rw [rowL_length] at this
  refine this.mono fun e w' hq => ?_
  obtain ⟨rfl, m, os, hw⟩ := hq
  exact ⟨⟨_, rfl, fun f z _ _ _ _ _ => ⟨#[], rfl, rfl, fun i a b h1 _ => by simp at h1⟩⟩, m, os, hw⟩
theorem Rel.drewN {S : Nat → Prop} {f : Fn} {nx : Nat} {z : Z} {w : World} {H : Heap} (h : Rel S f nx z w H) (q : Nat) : Rel S f nx z { w with drawn := w.drawn + q } H :=
  ⟨fun b hb hl => ⟨(h.own b hb hl).1, ⟨(h.own b hb hl).2.lt, (h.own b hb hl).2.own, (h.own b hb hl).2.room, (h.own b hb hl).2.cell, (h.own b hb hl).2.map⟩⟩, h.inj, h.zok⟩
/-- a call that reads an own row of numbers, and draws -/
theorem read_to {P : Program} {g b a n cap N nx : Nat} {ex : Bool} {x : Nat → Int} {H : Heap} {t : Int} {vr : SV} (hH : H.get b = .arr true 1 N (intE x)) (hn : a + n ≤ N)
    (hC : ∀ (k o c : Nat) (w : World), n ≤ c → (∀ j, j < n → w.cell? ⟨k, o + j, none⟩ = some (.int .i64 (x (a + j)))) → Calls P g #[.slice (some ⟨k, o, none⟩) n c, .int .i64 t] w fun e w' =>
      (∃ v, e = .returned v ∧ ∀ (f : Fn) (z : Z), RS f nx z vr v) ∧ ∃ q, w' = w.drewN q) :
    CallTo P g [.one (.sl false b 1 a 0 n cap ex 1), AI t] H nx ⟨vr, H, nx, false, []⟩ := by
  intro f z w vs hr ha R hR
  obtain ⟨v, u, rfl⟩ : ∃ v u, vs = #[v, u] := by
    have := ha.1
    simp only [List.length_cons, List.length_nil, Array.length_toList] at this
    match vs, this with
    | ⟨[v, u]⟩, _ => exact ⟨v, u, rfl⟩
  have hv : RA f nx z (.one (.sl false b 1 a 0 n cap ex 1)) v := ha.2 0 _ _ rfl rfl
  have hu : RA f nx z (AI t) u := ha.2 1 _ _ rfl rfl
  obtain rfl : u = Value.int .i64 t := by
    have hu' : RF z (.lit (.int .i64 t)) u := hu
    cases hu' with | lit _ _ => rfl
  obtain ⟨hb, _, hX⟩ := hv
  obtain ⟨c, rfl, c1, c2, c3, c4⟩ := hX rfl
  have hl : (H.get b).live := by rw [hH]; rfl
  obtain ⟨_, hok⟩ := hr.own b trivial hl
  have hcell : ∀ i, i < N → w.cell? ⟨(f b).k, (f b).d + i, none⟩ = some (.int .i64 (x i)) := fun i hi => by
    have hat : (H.get b).at 1 i 0 = some (.f (.lit (.int .i64 (x i)))) := by rw [hH]; simp [Ob.at, hi, intE]
    obtain ⟨h1, v, h2, h3⟩ := hok.cell 1 i 0 _ hat
    obtain rfl : v = Value.int .i64 (x i) := by cases h3 with | lit _ _ => rfl
    simp only [ad, Nat.mul_one, Nat.add_zero] at h2
    exact h2
  have hadr : (⟨(f b).k, (f b).d + a, none⟩ : Addr) = ad f b 1 a 0 := by simp [ad]
  have := hC (f b).k ((f b).d + a) c w c1 fun j hj => by rw [Nat.add_assoc]; exact hcell (a + j) (by omega)
  rw [hadr] at this
  refine this.mono fun e w' hq => ?_
  obtain ⟨⟨v, rfl, hvr⟩, q, rfl⟩ := hq
  exact hR f z _ v (Post.drew (k := w.drawn + q) (Post.reflA (Rel.drewN hr q))) (hvr f z)
def SortedL (x : Nat → Int) (n : Nat) : Prop := (rowL x 0 n).Pairwise (· ≤ ·)
def belowI (x : Nat → Int) (n : Nat) (t : Int) : Nat := (rowL x 0 n).countP (· < t)
theorem to_BS (n N cap : Nat) (ex : Bool) (x : Nat → Int) (t : Int) (h : n ≤ N ∧ (n : Int) < 4611686018427387904 ∧ SortedL x n) : CallTo Tryz.prog 95 [.one (.sl false 0 1 0 0 n cap ex 1), AI t] [(0, .arr true 1 N (intE x))] 1 ⟨.tup [AI (belowI x n t : Nat), AB ((rowL x 0 n).contains t)], [(0, .arr true 1 N (intE x))], 1, false, []⟩ := by
  refine read_to (x := x) (N := N) rfl (by omega) fun k o c w hc hh => ?_
  have hz : (rowL x 0 n).take n = rowL x 0 n := List.take_of_length_le (by rw [rowL_length]; exact Nat.le_refl _)
  have := Tryz.slices_BinarySearch_int k o n c (rowL x 0 n) t w (by rw [rowL_length]; exact Nat.le_refl _) (by omega) (fun j hj => by
    rw [rowL_length] at hj
    rw [hh j hj, List.getD_eq_getElem?_getD, rowL_get x 0 n j hj]; rfl) (by rw [hz]; exact h.2.2)
  rw [hz] at this
  refine this.mono fun e w' hq => ?_
  obtain ⟨rfl, q, hw⟩ := hq
  refine ⟨⟨_, rfl, fun f z => ⟨_, rfl, rfl, fun i a b h1 h2 => ?_⟩⟩, q, hw⟩
  rcases i with _ | _ | i
  · cases h1; cases h2; exact RF.lit _ rfl
  · cases h1; cases h2; exact RF.lit _ rfl
  · simp at h1

noncomputable def GRD1 : Ctx := GS.with ss_Compare ll0
noncomputable def tgt_S2 (x y : Int) : T CallOut := evCallW [] GRD1 300 94 [.one (.sl false 0 0 0 0 2 2 true 1)] [(0, .cells [I x, I y])] 1
noncomputable def tgt_Nx0 (me : Int) (nl : Bool) (x : Nat → Int) : T CallOut := evCallW [] GRD1 300 81 [AI me, .one (.f (.fs nl 1 0 (intE x)))] [] 0
theorem GKRD1 : KnownOk Tryz.prog GRD1 := KnownOk.lists ss_Compare_ok ll0_ok
theorem GORD1 : CtxOk Tryz.prog GRD1 := GS_ok.with _ _
theorem tree_S2 (x y : Int) : (tgt_S2 x y).over (.ff (.ff (.ff (.ff (.tt (.tt (.tt (.tt (.tt (.tt (.tt (.tt (.ff (.tt (.tt (.tt (.tt (.tt (.tt (.tt (.tt (.tt (.tt (.tt (.br (.tt (.tt (.tt (.br (.tt (.tt (.tt (.tt (.tt (.tt (.tt (.tt (.tt (.tt (.ff (.tt (.tt (.tt (.ff (.tt (.tt (.tt (.tt (.ff (.ff (.ff (.ff (.ff (.ff (.ff (.ff (.ff (.ff (.ff (.ff (.ff .leaf)))))))))))))))))))))))))))))))) (.ff (.ff (.ff (.tt (.br (.tt (.tt (.tt (.tt (.tt (.ff (.tt (.tt (.tt (.ff (.tt (.tt (.tt (.tt (.ff (.ff (.ff (.ff (.ff (.ff (.ff (.ff (.ff (.ff (.ff (.ff (.ff .leaf))))))))))))))))))))))))))) (.ff .leaf)))))))))) (.ff (.ff (.ff (.ff (.ff (.ff (.ff (.tt (.br (.tt (.tt (.tt (.tt (.tt (.ff (.tt (.tt (.tt (.ff (.tt (.tt (.tt (.tt (.ff (.ff (.ff (.ff (.ff (.ff (.ff (.ff (.ff (.ff (.ff (.ff (.ff .leaf))))))))))))))))))))))))))) (.ff .leaf))))))))))))))))))))))))))))))))))) = T.br (y != y) (T.br (!x != x) (T.ret ⟨SV.tup [], [(0, Ob.cells [I y, I x])], 1, false, []⟩) (T.br (decide (y < x)) (T.ret ⟨SV.tup [], [(0, Ob.cells [I y, I x])], 1, false, []⟩) (T.ret ⟨SV.tup [], [(0, Ob.cells [I x, I y])], 1, false, []⟩))) (T.br (decide (y < x)) (T.ret ⟨SV.tup [], [(0, Ob.cells [I y, I x])], 1, false, []⟩) (T.ret ⟨SV.tup [], [(0, Ob.cells [I x, I y])], 1, false, []⟩)) := by kernel_rfl
theorem tree_Nx0 (me : Int) (nl : Bool) (x : Nat → Int) : (tgt_Nx0 me nl x).over (.br (.ff (.tt (.tt .leaf))) (.tt (.ff (.tt (.tt .leaf))))) = T.br nl (T.ret (out0 (SV.v (AV.one Nil)))) (T.ret (out0 (SV.v (AV.one Nil)))) := by kernel_rfl
theorem res_S2 (x y : Int) : (tgt_S2 x y).res = some ⟨.tup [], [(0, .cells [I (min x y), I (max x y)])], 1, false, []⟩ := by
  refine T.over_eq _ (tree_S2 x y) ?_
  by_cases h : y < x
  · have e1 : min x y = y := by omega
    have e2 : max x y = x := by omega
    simp [T.res_br, T.res_ret, h, e1, e2]
  · have e1 : min x y = x := by omega
    have e2 : max x y = y := by omega
    simp [T.res_br, T.res_ret, h, e1, e2]

noncomputable def F_S2 : SumF
  | [.one (.sl false 0 0 0 0 2 2 true 1)], [(0, .cells [.f (.lit (.int .i64 x)), .f (.lit (.int .i64 y))])], 1 => .ret (⟨.tup [], [(0, .cells [I (min x y), I (max x y)])], 1, false, [0]⟩)
  | _, _, _ => .bad
theorem sum_S2 : SumOk Tryz.prog 94 F_S2 := by
  refine ⟨fun args H nx r hr => ?_, fun args H nx => ?_⟩
  · unfold F_S2 at hr
    split at hr
    · rename_i x y
      have := T.ret_some hr
      subst this
      exact by have h9 := evCallW_ok GORD1 GKRD1 (res_S2 x y); exact h9
    · exact (T.bad_some hr).elim
  · unfold F_S2
    split
    · exact ⟨by first | exact Nat.le_refl _ | (dsimp only; omega), fun b hb hw => by
        have : b = 0 := by omega
        subst this <;> first | rfl | exact absurd (by dsimp only; decide) hw⟩
    · trivial
noncomputable def sm_S2 : SumF := canonSum F_S2
theorem sm_S2_ok : SumOk Tryz.prog 94 sm_S2 := canonSum_ok sum_S2
noncomputable def ss_S2 : List (Nat × SumF) := (94, sm_S2) :: ss_Compare
theorem ss_S2_ok : ∀ x ∈ ss_S2, SumOk Tryz.prog x.1 x.2 := List.forall_mem_cons.2 ⟨sm_S2_ok, ss_Compare_ok⟩
noncomputable def F_SortR : SumF
  | [.one (.sl false 0 1 0 0 n cap ex 1)], [(0, .arr true 1 N e)], 1 => .need (pb (IntE e ∧ n ≤ N ∧ (n : Int) < 4611686018427387904)) (.ret (⟨.tup [], [(0, .arr true 1 N (intE (sortI (intOf e) n)))], 1, false, [0]⟩))
  | _, _, _ => .bad
theorem sum_SortR : SumOk Tryz.prog 94 F_SortR := by
  refine ⟨fun args H nx r hr => ?_, fun args H nx => ?_⟩
  · unfold F_SortR at hr
    split at hr
    · rename_i n cap ex N e
      obtain ⟨h0, hr⟩ := T.need_some hr
      have := T.ret_some hr
      subst this
      have h := pb_of h0
      obtain ⟨⟨x, rfl⟩, h1⟩ := h
      exact to_Sort n N cap ex x h1
    · exact (T.bad_some hr).elim
  · unfold F_SortR
    split
    · exact T.Every.need ⟨by first | exact Nat.le_refl _ | (dsimp only; omega), fun b hb hw => by
        have : b = 0 := by omega
        subst this <;> first | rfl | exact absurd (by dsimp only; decide) hw⟩
    · trivial
noncomputable def sm_SortR : SumF := orSum sm_S2 (canonSum F_SortR)
theorem sm_SortR_ok : SumOk Tryz.prog 94 sm_SortR := orSum_ok sm_S2_ok (canonSum_ok sum_SortR)
noncomputable def ss_SortR : List (Nat × SumF) := (94, sm_SortR) :: ss_S2
theorem ss_SortR_ok : ∀ x ∈ ss_SortR, SumOk Tryz.prog x.1 x.2 := List.forall_mem_cons.2 ⟨sm_SortR_ok, ss_S2_ok⟩
noncomputable def F_BS : SumF
  | [.one (.sl false 0 1 0 0 n cap ex 1), .one (.f (.lit (.int .i64 t)))], [(0, .arr true 1 N e)], 1 => .need (pb (IntE e ∧ n ≤ N ∧ (n : Int) < 4611686018427387904 ∧ SortedL (intOf e) n)) (.ret (⟨.tup [AI (belowI (intOf e) n t : Nat), AB ((rowL (intOf e) 0 n).contains t)], [(0, .arr true 1 N e)], 1, false, []⟩))
  | _, _, _ => .bad
theorem sum_BS : SumOk Tryz.prog 95 F_BS := by
  refine ⟨fun args H nx r hr => ?_, fun args H nx => ?_⟩
  · unfold F_BS at hr
    split at hr
    · rename_i n cap ex t N e
      obtain ⟨h0, hr⟩ := T.need_some hr
      have := T.ret_some hr
      subst this
      have h := pb_of h0
      obtain ⟨⟨x, rfl⟩, h1⟩ := h
      exact to_BS n N cap ex x t h1
    · exact (T.bad_some hr).elim
  · unfold F_BS
    split
    · exact T.Every.need ⟨by first | exact Nat.le_refl _ | (dsimp only; omega), fun b hb hw => by
        have : b = 0 := by omega
        subst this <;> first | rfl | exact absurd (by dsimp only; decide) hw⟩
    · trivial
noncomputable def sm_BS : SumF := canonSum F_BS
theorem sm_BS_ok : SumOk Tryz.prog 95 sm_BS := canonSum_ok sum_BS
noncomputable def ss_BS : List (Nat × SumF) := (95, sm_BS) :: ss_SortR
theorem ss_BS_ok : ∀ x ∈ ss_BS, SumOk Tryz.prog x.1 x.2 := List.forall_mem_cons.2 ⟨sm_BS_ok, ss_SortR_ok⟩
noncomputable def F_Del : SumF
  | [.one (.sl false 0 1 0 0 n cap false 1), .one (.fn g [(1, 0, 0, 0)])], [(0, .arr true 1 N e), (1, .cells [.f (.lit (.int .i64 me))])], 2 => .need (pb (IntE e ∧ g = 93 ∧ n ≤ N ∧ n ≤ cap ∧ (n : Int) ≤ 9223372036854775807)) (.ret (⟨.v (.one (.sl false 0 1 0 0 (delI me (intOf e) n).1 cap false 1)), [(0, .arr true 1 N (intE (delI me (intOf e) n).2)), (1, .cells [I me])], 2, false, [0]⟩))
  | _, _, _ => .bad
theorem sum_Del : SumOk Tryz.prog 91 F_Del := by
  refine ⟨fun args H nx r hr => ?_, fun args H nx => ?_⟩
  · unfold F_Del at hr
    split at hr
    · rename_i n cap g N e me
      obtain ⟨h0, hr⟩ := T.need_some hr
      have := T.ret_some hr
      subst this
      have h := pb_of h0
      obtain ⟨⟨x, rfl⟩, rfl, h1⟩ := h
      exact by have h9 := evCallW_ok GORC4 GKRC4 (res_Del n N cap x me h1); exact h9
    · exact (T.bad_some hr).elim
  · unfold F_Del
    split
    · exact T.Every.need ⟨by first | exact Nat.le_refl _ | (dsimp only; omega), fun b hb hw => by
        have : b = 0 ∨ b = 1 := by omega
        rcases this with rfl | rfl <;> first | rfl | exact absurd (by dsimp only; decide) hw⟩
    · trivial
noncomputable def sm_Del : SumF := canonSum F_Del
theorem sm_Del_ok : SumOk Tryz.prog 91 sm_Del := canonSum_ok sum_Del
noncomputable def ss_Del : List (Nat × SumF) := (91, sm_Del) :: ss_BS
theorem ss_Del_ok : ∀ x ∈ ss_Del, SumOk Tryz.prog x.1 x.2 := List.forall_mem_cons.2 ⟨sm_Del_ok, ss_BS_ok⟩
theorem res_Clone (n : Nat) (x : Nat → Int) (h : 1 ≤ n ∧ n ≤ 1048576) : (tgt_Clone false n x).res = some ⟨.v (.one (.sl false 1 1 0 0 n n false 1)), [(1, .arr true 1 n (intE x)), (0, .cells [])], 2, false, []⟩ := by
  refine T.over_eq _ (tree_Clone false n x) ?_
  have e1 : Nat.beq n 0 = false := beq_ff (by omega)
  have e2 : Nat.ble n 0 = false := ble_false (by omega)
  have e3 : smallB n 8 = true := smallB_le (by omega) (by omega)
  simp only [T.res_br, T.res_ret, T.res_bad, e1, e2, e3, Bool.false_eq_true, reduceIte, Nat.zero_add, Nat.sub_zero]

noncomputable def F_Clone : SumF
  | [.one (.f (.fs nl 1 n e))], [], 0 => .need (pb (IntE e ∧ nl = false ∧ 1 ≤ n ∧ n ≤ 1048576)) (.ret (⟨.v (.one (.sl false 1 1 0 0 n n false 1)), [(1, .arr true 1 n (intE (intOf e))), (0, .cells [])], 2, false, []⟩))
  | _, _, _ => .bad
theorem sum_Clone : SumOk Tryz.prog 92 F_Clone := by
  refine ⟨fun args H nx r hr => ?_, fun args H nx => ?_⟩
  · unfold F_Clone at hr
    split at hr
    · rename_i nl n e
      obtain ⟨h0, hr⟩ := T.need_some hr
      have := T.ret_some hr
      subst this
      have h := pb_of h0
      obtain ⟨⟨x, rfl⟩, rfl, h1⟩ := h
      exact evCallW_ok GORC5 GKRC5 (res_Clone n x h1)
    · exact (T.bad_some hr).elim
  · unfold F_Clone
    split
    · exact T.Every.need ⟨Nat.zero_le _, fun b hb hw => absurd hb (Nat.not_lt_zero b)⟩
    · trivial
noncomputable def sm_Clone : SumF := canonSum F_Clone
theorem sm_Clone_ok : SumOk Tryz.prog 92 sm_Clone := canonSum_ok sum_Clone
noncomputable def ss_Clone : List (Nat × SumF) := (92, sm_Clone) :: ss_Del
theorem ss_Clone_ok : ∀ x ∈ ss_Clone, SumOk Tryz.prog x.1 x.2 := List.forall_mem_cons.2 ⟨sm_Clone_ok, ss_Del_ok⟩
noncomputable def GRD2 : Ctx := GS.with ss_Clone ll0
noncomputable def tgt_Nx (me : Int) (nl : Bool) (n : Nat) (x : Nat → Int) : T CallOut := evCallW [] GRD2 300 81 [AI me, .one (.f (.fs nl 1 n (intE x)))] [] 0
theorem GKRD2 : KnownOk Tryz.prog GRD2 := KnownOk.lists ss_Clone_ok ll0_ok
theorem GORD2 : CtxOk Tryz.prog GRD2 := GS_ok.with _ _
theorem tree_Nx (me : Int) (nl : Bool) (n : Nat) (x : Nat → Int) : (tgt_Nx me nl n x).over (.br (.br (.br .leaf (.br (.br (.br .skip (.tt (.br (.tt (.br (.br .skip (.tt (.br (.tt (.br (.ff (.tt (.tt (.tt (.ff (.tt (.tt (.tt (.tt (.br (.tt (.ff (.tt (.ff (.ff (.tt (.ff (.tt (.ff (.tt (.tt (.ff (.tt (.ff (.tt (.tt (.ff (.tt .leaf)))))))))))))))))) (.ff (.tt (.tt (.ff (.tt .leaf))))))))))))))) .skip)) .skip))) .skip)) .skip))) .skip) .skip)) .skip) .skip) = T.br (pb (IntE (intE x) ∧ nl = false ∧ 1 ≤ n ∧ n ≤ 1048576)) (T.br (pb (IntE (intE x) ∧ 93 = 93 ∧ n ≤ n ∧ n ≤ n ∧ (↑n : Int) ≤ (9223372036854775807 : Int))) (T.br ((↑(Prod.fst (delI me x n)) : Int) == (0 : Int)) (T.ret (out0 (SV.v (AV.one Nil)))) (T.br (pb (IntE (intE (Prod.snd (delI me x n))) ∧ Prod.fst (delI me x n) ≤ n ∧ (↑(Prod.fst (delI me x n)) : Int) < (4611686018427387904 : Int))) (T.br (pb (IntE (intE (sortI (Prod.snd (delI me x n)) (Prod.fst (delI me x n)))) ∧ Prod.fst (delI me x n) ≤ n ∧ (↑(Prod.fst (delI me x n)) : Int) < (4611686018427387904 : Int) ∧ SortedL (sortI (Prod.snd (delI me x n)) (Prod.fst (delI me x n))) (Prod.fst (delI me x n)))) (T.br (decide ((↑(Prod.fst (delI me x n)) : Int) = (0 : Int))) T.bad (T.br (decide ((0 : Int) ≤ Int.tmod (↑(belowI (sortI (Prod.snd (delI me x n)) (Prod.fst (delI me x n))) (Prod.fst (delI me x n)) me) : Int) (↑(Prod.fst (delI me x n)) : Int) ∧ Int.tmod (↑(belowI (sortI (Prod.snd (delI me x n)) (Prod.fst (delI me x n))) (Prod.fst (delI me x n)) me) : Int) (↑(Prod.fst (delI me x n)) : Int) < (↑(Prod.fst (delI me x n)) : Int))) (T.br (Nat.ble (0 + Int.toNat (Int.tmod (↑(belowI (sortI (Prod.snd (delI me x n)) (Prod.fst (delI me x n))) (Prod.fst (delI me x n)) me) : Int) (↑(Prod.fst (delI me x n)) : Int)) + 1) n) (T.br (decide ((↑(Prod.fst (delI me x n)) : Int) = (0 : Int))) T.bad (T.br (decide ((0 : Int) ≤ Int.tmod (IntKind.wrap IntKind.i64 (IntKind.wrap IntKind.i64 ((↑(belowI (sortI (Prod.snd (delI me x n)) (Prod.fst (delI me x n))) (Prod.fst (delI me x n)) me) : Int) + (↑(Prod.fst (delI me x n)) : Int)) - (1 : Int))) (↑(Prod.fst (delI me x n)) : Int) ∧ Int.tmod (IntKind.wrap IntKind.i64 (IntKind.wrap IntKind.i64 ((↑(belowI (sortI (Prod.snd (delI me x n)) (Prod.fst (delI me x n))) (Prod.fst (delI me x n)) me) : Int) + (↑(Prod.fst (delI me x n)) : Int)) - (1 : Int))) (↑(Prod.fst (delI me x n)) : Int) < (↑(Prod.fst (delI me x n)) : Int))) (T.br (Nat.ble (0 + Int.toNat (Int.tmod (IntKind.wrap IntKind.i64 (IntKind.wrap IntKind.i64 ((↑(belowI (sortI (Prod.snd (delI me x n)) (Prod.fst (delI me x n))) (Prod.fst (delI me x n)) me) : Int) + (↑(Prod.fst (delI me x n)) : Int)) - (1 : Int))) (↑(Prod.fst (delI me x n)) : Int)) + 1) n) (T.br (max (sortI (Prod.snd (delI me x n)) (Prod.fst (delI me x n)) (0 + Int.toNat (Int.tmod (↑(belowI (sortI (Prod.snd (delI me x n)) (Prod.fst (delI me x n))) (Prod.fst (delI me x n)) me) : Int) (↑(Prod.fst (delI me x n)) : Int)))) (sortI (Prod.snd (delI me x n)) (Prod.fst (delI me x n)) (0 + Int.toNat (Int.tmod (IntKind.wrap IntKind.i64 (IntKind.wrap IntKind.i64 ((↑(belowI (sortI (Prod.snd (delI me x n)) (Prod.fst (delI me x n))) (Prod.fst (delI me x n)) me) : Int) + (↑(Prod.fst (delI me x n)) : Int)) - (1 : Int))) (↑(Prod.fst (delI me x n)) : Int)))) == min (sortI (Prod.snd (delI me x n)) (Prod.fst (delI me x n)) (0 + Int.toNat (Int.tmod (↑(belowI (sortI (Prod.snd (delI me x n)) (Prod.fst (delI me x n))) (Prod.fst (delI me x n)) me) : Int) (↑(Prod.fst (delI me x n)) : Int)))) (sortI (Prod.snd (delI me x n)) (Prod.fst (delI me x n)) (0 + Int.toNat (Int.tmod (IntKind.wrap IntKind.i64 (IntKind.wrap IntKind.i64 ((↑(belowI (sortI (Prod.snd (delI me x n)) (Prod.fst (delI me x n))) (Prod.fst (delI me x n)) me) : Int) + (↑(Prod.fst (delI me x n)) : Int)) - (1 : Int))) (↑(Prod.fst (delI me x n)) : Int))))) (T.ret ⟨SV.v (AV.one (CV.sl false 3 0 0 0 1 1 true 1)), [(3, Ob.cells [I (min (sortI (Prod.snd (delI me x n)) (Prod.fst (delI me x n)) (0 + Int.toNat (Int.tmod (↑(belowI (sortI (Prod.snd (delI me x n)) (Prod.fst (delI me x n))) (Prod.fst (delI me x n)) me) : Int) (↑(Prod.fst (delI me x n)) : Int)))) (sortI (Prod.snd (delI me x n)) (Prod.fst (delI me x n)) (0 + Int.toNat (Int.tmod (IntKind.wrap IntKind.i64 (IntKind.wrap IntKind.i64 ((↑(belowI (sortI (Prod.snd (delI me x n)) (Prod.fst (delI me x n))) (Prod.fst (delI me x n)) me) : Int) + (↑(Prod.fst (delI me x n)) : Int)) - (1 : Int))) (↑(Prod.fst (delI me x n)) : Int))))), I (0 : Int)]), (2, Ob.arr true 1 n fun a => [FV.lit (.int .i64 (sortI (Prod.snd (delI me x n)) (Prod.fst (delI me x n)) a))]), (0, Ob.cells [I me]), (1, Ob.cells [])], 4, false, []⟩) (T.ret ⟨SV.v (AV.one (CV.sl false 3 0 0 0 2 2 true 1)), [(3, Ob.cells [I (min (sortI (Prod.snd (delI me x n)) (Prod.fst (delI me x n)) (0 + Int.toNat (Int.tmod (↑(belowI (sortI (Prod.snd (delI me x n)) (Prod.fst (delI me x n))) (Prod.fst (delI me x n)) me) : Int) (↑(Prod.fst (delI me x n)) : Int)))) (sortI (Prod.snd (delI me x n)) (Prod.fst (delI me x n)) (0 + Int.toNat (Int.tmod (IntKind.wrap IntKind.i64 (IntKind.wrap IntKind.i64 ((↑(belowI (sortI (Prod.snd (delI me x n)) (Prod.fst (delI me x n))) (Prod.fst (delI me x n)) me) : Int) + (↑(Prod.fst (delI me x n)) : Int)) - (1 : Int))) (↑(Prod.fst (delI me x n)) : Int))))), I (max (sortI (Prod.snd (delI me x n)) (Prod.fst (delI me x n)) (0 + Int.toNat (Int.tmod (↑(belowI (sortI (Prod.snd (delI me x n)) (Prod.fst (delI me x n))) (Prod.fst (delI me x n)) me) : Int) (↑(Prod.fst (delI me x n)) : Int)))) (sortI (Prod.snd (delI me x n)) (Prod.fst (delI me x n)) (0 + Int.toNat (Int.tmod (IntKind.wrap IntKind.i64 (IntKind.wrap IntKind.i64 ((↑(belowI (sortI (Prod.snd (delI me x n)) (Prod.fst (delI me x n))) (Prod.fst (delI me x n)) me) : Int) + (↑(Prod.fst (delI me x n)) : Int)) - (1 : Int))) (↑(Prod.fst (delI me x n)) : Int)))))]), (2, Ob.arr true 1 n fun a => [FV.lit (.int .i64 (sortI (Prod.snd (delI me x n)) (Prod.fst (delI me x n)) a))]), (0, Ob.cells [I me]), (1, Ob.cells [])], 4, false, []⟩)) T.bad) T.bad)) T.bad) T.bad)) T.bad) T.bad)) T.bad) T.bad := by kernel_rfl
theorem rowL_putL (x : Nat → Int) (l : List Int) : rowL (putL x 0 l) 0 l.length = l := by
  apply List.ext_getElem
  · rw [rowL_length]
  · intro i h1 h2
    simp [rowL, putL, h2]
theorem sortI_ok (x : Nat → Int) (n : Nat) : rowL (sortI x n) 0 n = (rowL x 0 n).mergeSort fun x y => decide (x ≤ y) := by
  have := rowL_putL x ((rowL x 0 n).mergeSort fun x y => decide (x ≤ y))
  rwa [List.length_mergeSort, rowL_length] at this
theorem sortI_sorted (x : Nat → Int) (n : Nat) : SortedL (sortI x n) n := by
  unfold SortedL
  rw [sortI_ok]
  have := List.pairwise_mergeSort (le := fun x y : Int => decide (x ≤ y)) (fun a b c h1 h2 => by simp at *; omega) (fun a b => by simp; omega) (rowL x 0 n)
  exact this.imp fun h => by simpa using h
def nxD (me : Int) (x : Nat → Int) (n : Nat) : Nat := (delI me x n).1
def nxS (me : Int) (x : Nat → Int) (n : Nat) : Nat → Int := sortI (delI me x n).2 (nxD me x n)
def nxK (me : Int) (x : Nat → Int) (n : Nat) : Nat := belowI (nxS me x n) (nxD me x n) me
def nxB (me : Int) (x : Nat → Int) (n : Nat) : Int := nxS me x n (nxK me x n % nxD me x n)
def nxA (me : Int) (x : Nat → Int) (n : Nat) : Int := nxS me x n ((nxK me x n + nxD me x n - 1) % nxD me x n)
def nxR (me : Int) (x : Nat → Int) (n : Nat) : CallOut := if nxD me x n = 0 then out0 (.v (.one Nil)) else if max (nxB me x n) (nxA me x n) = min (nxB me x n) (nxA me x n) then ⟨.v (.one (.sl false 3 0 0 0 1 1 true 1)), [(3, .cells [I (min (nxB me x n) (nxA me x n)), I 0]), (2, .arr true 1 n (intE (nxS me x n))), (0, .cells [I me]), (1, .cells [])], 4, false, []⟩
  else ⟨.v (.one (.sl false 3 0 0 0 2 2 true 1)), [(3, .cells [I (min (nxB me x n) (nxA me x n)), I (max (nxB me x n) (nxA me x n))]), (2, .arr true 1 n (intE (nxS me x n))), (0, .cells [I me]), (1, .cells [])], 4, false, []⟩
theorem belowI_le (x : Nat → Int) (n : Nat) (t : Int) : belowI x n t ≤ n := by
  have := List.countP_le_length (p := fun y : Int => decide (y < t)) (l := rowL x 0 n)
  rwa [rowL_length] at this
theorem res_Nx (me : Int) (n : Nat) (x : Nat → Int) (h : 1 ≤ n ∧ n ≤ 1048576) : (tgt_Nx me false n x).res = some (nxR me x n) := by
  refine T.over_eq _ (tree_Nx me false n x) ?_
  obtain ⟨h1, h2⟩ := h
  have hd : nxD me x n = (delI me x n).1 := rfl
  have hs : nxS me x n = sortI (delI me x n).2 (nxD me x n) := rfl
  have hk : nxK me x n = belowI (nxS me x n) (nxD me x n) me := rfl
  have hso : SortedL (nxS me x n) (nxD me x n) := sortI_sorted _ _
  have hb : nxB me x n = nxS me x n (nxK me x n % nxD me x n) := rfl
  have ha : nxA me x n = nxS me x n ((nxK me x n + nxD me x n - 1) % nxD me x n) := rfl
  have d1 : nxD me x n ≤ n := (delI_ok me x n).1
  have d2 : nxK me x n ≤ nxD me x n := belowI_le _ _ _
  have f1 : (n : Int) ≤ 9223372036854775807 := by omega
  simp only [T.res_br, T.res_ret, T.res_bad, ← hd, ← hs, ← hk, IntE_ok, h1, h2, f1, eq_self, Nat.le_refl, and_self, pb_tt, reduceIte]
  unfold nxR
  by_cases h0 : nxD me x n = 0
  · simp only [h0, reduceIte]
    rfl
  · have m1 : nxK me x n % nxD me x n < nxD me x n := Nat.mod_lt _ (by omega)
    have m2 : (nxK me x n + nxD me x n - 1) % nxD me x n < nxD me x n := Nat.mod_lt _ (by omega)
    have e1 : (((nxD me x n : Nat) : Int) == 0) = false := by simpa using h0
    have e2 : ¬ (((nxD me x n : Nat) : Int) = 0) := by omega
    have e3 : ((nxD me x n : Nat) : Int) < 4611686018427387904 := by omega
    have t1 : Int.tmod (nxK me x n : Int) (nxD me x n : Int) = ((nxK me x n % nxD me x n : Nat) : Int) := by rw [Int.tmod_eq_emod_of_nonneg (by omega)]; rfl
    have w1 : IntKind.wrap IntKind.i64 ((nxK me x n : Int) + (nxD me x n : Int)) = ((nxK me x n + nxD me x n : Nat) : Int) := by rw [wrapI (by omega)]; omega
    have w2 : IntKind.wrap IntKind.i64 (((nxK me x n + nxD me x n : Nat) : Int) - 1) = ((nxK me x n + nxD me x n - 1 : Nat) : Int) := by rw [wrapI (by omega)]; omega
    have t2 : Int.tmod ((nxK me x n + nxD me x n - 1 : Nat) : Int) (nxD me x n : Int) = (((nxK me x n + nxD me x n - 1) % nxD me x n : Nat) : Int) := by rw [Int.tmod_eq_emod_of_nonneg (by omega)]; rfl
    have g1 : (0 : Int) ≤ ((nxK me x n % nxD me x n : Nat) : Int) ∧ ((nxK me x n % nxD me x n : Nat) : Int) < (nxD me x n : Int) := by omega
    have g2 : (0 : Int) ≤ (((nxK me x n + nxD me x n - 1) % nxD me x n : Nat) : Int) ∧ (((nxK me x n + nxD me x n - 1) % nxD me x n : Nat) : Int) < (nxD me x n : Int) := by omega
    have b1 : Nat.ble (nxK me x n % nxD me x n + 1) n = true := ble_tt (by omega)
    have b2 : Nat.ble ((nxK me x n + nxD me x n - 1) % nxD me x n + 1) n = true := ble_tt (by omega)
    simp only [e1, e2, e3, t1, w1, w2, t2, decide_eq_true g1, decide_eq_true g2, Int.toNat_natCast, Nat.zero_add, b1, b2, d1, hso, h0, ← ha, ← hb, decide_false, and_self, pb_tt, Bool.false_eq_true, beq_iff_eq, if_false, if_true]
    split <;> rfl

noncomputable def GRD3 : Ctx := GS.with ss_Clone ll0
noncomputable def tgt_Nz (me : Int) (nl : Bool) (n : Nat) (x : Nat → Int) : T CallOut := evCallZ [] GRD3 300 81 [AI me, .one (.f (.fs nl 1 n (intE x)))] [] 0
theorem GKRD3 : KnownOk Tryz.prog GRD3 := KnownOk.lists ss_Clone_ok ll0_ok
theorem GORD3 : CtxOk Tryz.prog GRD3 := GS_ok.with _ _
theorem tree_Nz (me : Int) (nl : Bool) (n : Nat) (x : Nat → Int) : (tgt_Nz me nl n x).over (.br (.br (.br .leaf (.br (.br (.br .skip (.tt (.br (.tt (.br (.br .skip (.tt (.br (.tt (.br (.ff (.tt (.tt (.tt (.ff (.tt (.tt (.tt (.tt (.br (.tt (.ff (.tt (.ff (.ff (.tt (.ff (.tt (.ff (.tt (.tt (.ff (.tt (.ff (.tt (.tt (.ff (.tt .leaf)))))))))))))))))) (.ff (.tt (.tt (.ff (.tt .leaf))))))))))))))) .skip)) .skip))) .skip)) .skip))) .skip) .skip)) .skip) .skip) = T.br (pb (IntE (intE x) ∧ nl = false ∧ 1 ≤ n ∧ n ≤ 1048576)) (T.br (pb (IntE (intE x) ∧ 93 = 93 ∧ n ≤ n ∧ n ≤ n ∧ (↑n : Int) ≤ (9223372036854775807 : Int))) (T.br ((↑(Prod.fst (delI me x n)) : Int) == (0 : Int)) (T.ret (out0 (SV.v (AV.one Nil)))) (T.br (pb (IntE (intE (Prod.snd (delI me x n))) ∧ Prod.fst (delI me x n) ≤ n ∧ (↑(Prod.fst (delI me x n)) : Int) < (4611686018427387904 : Int))) (T.br (pb (IntE (intE (sortI (Prod.snd (delI me x n)) (Prod.fst (delI me x n)))) ∧ Prod.fst (delI me x n) ≤ n ∧ (↑(Prod.fst (delI me x n)) : Int) < (4611686018427387904 : Int) ∧ SortedL (sortI (Prod.snd (delI me x n)) (Prod.fst (delI me x n))) (Prod.fst (delI me x n)))) (T.br (decide ((↑(Prod.fst (delI me x n)) : Int) = (0 : Int))) T.bad (T.br (decide ((0 : Int) ≤ Int.tmod (↑(belowI (sortI (Prod.snd (delI me x n)) (Prod.fst (delI me x n))) (Prod.fst (delI me x n)) me) : Int) (↑(Prod.fst (delI me x n)) : Int) ∧ Int.tmod (↑(belowI (sortI (Prod.snd (delI me x n)) (Prod.fst (delI me x n))) (Prod.fst (delI me x n)) me) : Int) (↑(Prod.fst (delI me x n)) : Int) < (↑(Prod.fst (delI me x n)) : Int))) (T.br (Nat.ble (0 + Int.toNat (Int.tmod (↑(belowI (sortI (Prod.snd (delI me x n)) (Prod.fst (delI me x n))) (Prod.fst (delI me x n)) me) : Int) (↑(Prod.fst (delI me x n)) : Int)) + 1) n) (T.br (decide ((↑(Prod.fst (delI me x n)) : Int) = (0 : Int))) T.bad (T.br (decide ((0 : Int) ≤ Int.tmod (IntKind.wrap IntKind.i64 (IntKind.wrap IntKind.i64 ((↑(belowI (sortI (Prod.snd (delI me x n)) (Prod.fst (delI me x n))) (Prod.fst (delI me x n)) me) : Int) + (↑(Prod.fst (delI me x n)) : Int)) - (1 : Int))) (↑(Prod.fst (delI me x n)) : Int) ∧ Int.tmod (IntKind.wrap IntKind.i64 (IntKind.wrap IntKind.i64 ((↑(belowI (sortI (Prod.snd (delI me x n)) (Prod.fst (delI me x n))) (Prod.fst (delI me x n)) me) : Int) + (↑(Prod.fst (delI me x n)) : Int)) - (1 : Int))) (↑(Prod.fst (delI me x n)) : Int) < (↑(Prod.fst (delI me x n)) : Int))) (T.br (Nat.ble (0 + Int.toNat (Int.tmod (IntKind.wrap IntKind.i64 (IntKind.wrap IntKind.i64 ((↑(belowI (sortI (Prod.snd (delI me x n)) (Prod.fst (delI me x n))) (Prod.fst (delI me x n)) me) : Int) + (↑(Prod.fst (delI me x n)) : Int)) - (1 : Int))) (↑(Prod.fst (delI me x n)) : Int)) + 1) n) (T.br (max (sortI (Prod.snd (delI me x n)) (Prod.fst (delI me x n)) (0 + Int.toNat (Int.tmod (↑(belowI (sortI (Prod.snd (delI me x n)) (Prod.fst (delI me x n))) (Prod.fst (delI me x n)) me) : Int) (↑(Prod.fst (delI me x n)) : Int)))) (sortI (Prod.snd (delI me x n)) (Prod.fst (delI me x n)) (0 + Int.toNat (Int.tmod (IntKind.wrap IntKind.i64 (IntKind.wrap IntKind.i64 ((↑(belowI (sortI (Prod.snd (delI me x n)) (Prod.fst (delI me x n))) (Prod.fst (delI me x n)) me) : Int) + (↑(Prod.fst (delI me x n)) : Int)) - (1 : Int))) (↑(Prod.fst (delI me x n)) : Int)))) == min (sortI (Prod.snd (delI me x n)) (Prod.fst (delI me x n)) (0 + Int.toNat (Int.tmod (↑(belowI (sortI (Prod.snd (delI me x n)) (Prod.fst (delI me x n))) (Prod.fst (delI me x n)) me) : Int) (↑(Prod.fst (delI me x n)) : Int)))) (sortI (Prod.snd (delI me x n)) (Prod.fst (delI me x n)) (0 + Int.toNat (Int.tmod (IntKind.wrap IntKind.i64 (IntKind.wrap IntKind.i64 ((↑(belowI (sortI (Prod.snd (delI me x n)) (Prod.fst (delI me x n))) (Prod.fst (delI me x n)) me) : Int) + (↑(Prod.fst (delI me x n)) : Int)) - (1 : Int))) (↑(Prod.fst (delI me x n)) : Int))))) (T.ret (out0 (SV.v (AV.one (CV.f (FV.fs false 1 1 fun a => [FV.lit (.int .i64 (min (sortI (Prod.snd (delI me x n)) (Prod.fst (delI me x n)) (0 + Int.toNat (Int.tmod (↑(belowI (sortI (Prod.snd (delI me x n)) (Prod.fst (delI me x n))) (Prod.fst (delI me x n)) me) : Int) (↑(Prod.fst (delI me x n)) : Int)))) (sortI (Prod.snd (delI me x n)) (Prod.fst (delI me x n)) (0 + Int.toNat (Int.tmod (IntKind.wrap IntKind.i64 (IntKind.wrap IntKind.i64 ((↑(belowI (sortI (Prod.snd (delI me x n)) (Prod.fst (delI me x n))) (Prod.fst (delI me x n)) me) : Int) + (↑(Prod.fst (delI me x n)) : Int)) - (1 : Int))) (↑(Prod.fst (delI me x n)) : Int))))))])))))) (T.ret (out0 (SV.v (AV.one (CV.f (FV.fs false 1 2 fun a => [FV.lit (.int .i64 (bif Nat.beq a 0 then min (sortI (Prod.snd (delI me x n)) (Prod.fst (delI me x n)) (0 + Int.toNat (Int.tmod (↑(belowI (sortI (Prod.snd (delI me x n)) (Prod.fst (delI me x n))) (Prod.fst (delI me x n)) me) : Int) (↑(Prod.fst (delI me x n)) : Int)))) (sortI (Prod.snd (delI me x n)) (Prod.fst (delI me x n)) (0 + Int.toNat (Int.tmod (IntKind.wrap IntKind.i64 (IntKind.wrap IntKind.i64 ((↑(belowI (sortI (Prod.snd (delI me x n)) (Prod.fst (delI me x n))) (Prod.fst (delI me x n)) me) : Int) + (↑(Prod.fst (delI me x n)) : Int)) - (1 : Int))) (↑(Prod.fst (delI me x n)) : Int)))) else max (sortI (Prod.snd (delI me x n)) (Prod.fst (delI me x n)) (0 + Int.toNat (Int.tmod (↑(belowI (sortI (Prod.snd (delI me x n)) (Prod.fst (delI me x n))) (Prod.fst (delI me x n)) me) : Int) (↑(Prod.fst (delI me x n)) : Int)))) (sortI (Prod.snd (delI me x n)) (Prod.fst (delI me x n)) (0 + Int.toNat (Int.tmod (IntKind.wrap IntKind.i64 (IntKind.wrap IntKind.i64 ((↑(belowI (sortI (Prod.snd (delI me x n)) (Prod.fst (delI me x n))) (Prod.fst (delI me x n)) me) : Int) + (↑(Prod.fst (delI me x n)) : Int)) - (1 : Int))) (↑(Prod.fst (delI me x n)) : Int))))))]))))))) T.bad) T.bad)) T.bad) T.bad)) T.bad) T.bad)) T.bad) T.bad := by kernel_rfl
end Go.Proofs.YtbobakclbdaepaaGreat.En
/- Who is next, by the reference. -/
namespace Go.Proofs.YtbobakclbdaepaaGreat.En
open Go
set_option linter.unusedVariables false
set_option linter.unusedSimpArgs false
set_option maxRecDepth 20000
set_option maxHeartbeats 1000000
def S_rn (nl : Bool) (n : Nat) (x : Nat → Int) (me : Int) (i : Nat) (a : (Int × Int) × (Int × Int)) : St := ⟨[(0, .v (AI me)), (1, .v (.one (.f (.fs nl 1 n (intE x))))), (5, .v (AI a.1.1)), (6, .v (AI a.1.2)), (7, .v (AI a.2.1)), (8, .v (AI a.2.2)), (9, .v (AI i))], [], 0, false, 0, []⟩

def upL (x : Nat → Int) (i : Nat) (b : Int) : Int := if b < 0 then i else if x i < x b.toNat then i else b
def upM (x : Nat → Int) (i : Nat) (b : Int) : Int := if b < 0 then i else if x i > x b.toNat then i else b
def rnF (me : Int) (x : Nat → Int) (i : Nat) (a : (Int × Int) × (Int × Int)) : (Int × Int) × (Int × Int) := match x i == me with | true => a | false => ((if x i > me then upL x i a.1.1 else a.1.1, if x i < me then upM x i a.1.2 else a.1.2), (upL x i a.2.1, upM x i a.2.2))
theorem upL_cases (x : Nat → Int) (i : Nat) (b : Int) : (b < 0 ∧ upL x i b = i) ∨ (¬ b < 0 ∧ x i < x b.toNat ∧ upL x i b = i) ∨ (¬ b < 0 ∧ ¬ x i < x b.toNat ∧ upL x i b = b) := by
  unfold upL
  by_cases h : b < 0
  · simp [h]
  · by_cases h2 : x i < x b.toNat <;> simp [h, h2]
theorem upM_cases (x : Nat → Int) (i : Nat) (b : Int) : (b < 0 ∧ upM x i b = i) ∨ (¬ b < 0 ∧ x i > x b.toNat ∧ upM x i b = i) ∨ (¬ b < 0 ∧ ¬ x i > x b.toNat ∧ upM x i b = b) := by
  unfold upM
  by_cases h : b < 0
  · simp [h]
  · by_cases h2 : x i > x b.toNat <;> simp [h, h2]
theorem in_of {b : Int} {i n : Nat} (h : b < (i : Int)) (hi : i < n) (hb : ¬ b < 0) : (0 : Int) ≤ b ∧ b < (n : Int) := by omega

end Go.Proofs.YtbobakclbdaepaaGreat.En
/- Both Next tell the same. -/
namespace Go.Proofs.YtbobakclbdaepaaGreat.En
open Go
set_option linter.unusedVariables false
set_option linter.unusedSimpArgs false
set_option maxRecDepth 20000
set_option maxHeartbeats 1000000
def LcI (p : Int → Prop) (x : Nat → Int) (i : Nat) (b : Int) : Prop := (b = -1 ∧ ∀ j, j < i → ¬ p (x j)) ∨ ∃ k : Nat, k < i ∧ b = k ∧ p (x k) ∧ ∀ j, j < i → p (x j) → x k ≤ x j
def McI (p : Int → Prop) (x : Nat → Int) (i : Nat) (b : Int) : Prop := (b = -1 ∧ ∀ j, j < i → ¬ p (x j)) ∨ ∃ k : Nat, k < i ∧ b = k ∧ p (x k) ∧ ∀ j, j < i → p (x j) → x j ≤ x k
theorem LcI.no {p : Int → Prop} {x : Nat → Int} {i : Nat} {b : Int} (h : LcI p x i b) (hp : ¬ p (x i)) : LcI p x (i + 1) b := by
  rcases h with ⟨h1, h2⟩ | ⟨k, h1, h2, h3, h4⟩
  · refine .inl ⟨h1, fun j hj => ?_⟩
    rcases Nat.lt_succ_iff_lt_or_eq.1 hj with hj | rfl
    · exact h2 j hj
    · exact hp
  · refine .inr ⟨k, by omega, h2, h3, fun j hj hq => ?_⟩
    rcases Nat.lt_succ_iff_lt_or_eq.1 hj with hj | rfl
    · exact h4 j hj hq
    · exact absurd hq hp
theorem McI.no {p : Int → Prop} {x : Nat → Int} {i : Nat} {b : Int} (h : McI p x i b) (hp : ¬ p (x i)) : McI p x (i + 1) b := by
  rcases h with ⟨h1, h2⟩ | ⟨k, h1, h2, h3, h4⟩
  · refine .inl ⟨h1, fun j hj => ?_⟩
    rcases Nat.lt_succ_iff_lt_or_eq.1 hj with hj | rfl
    · exact h2 j hj
    · exact hp
  · refine .inr ⟨k, by omega, h2, h3, fun j hj hq => ?_⟩
    rcases Nat.lt_succ_iff_lt_or_eq.1 hj with hj | rfl
    · exact h4 j hj hq
    · exact absurd hq hp
theorem LcI.yes {p : Int → Prop} {x : Nat → Int} {i : Nat} {b : Int} (h : LcI p x i b) (hp : p (x i)) : LcI p x (i + 1) (upL x i b) := by
  rcases h with ⟨h1, h2⟩ | ⟨k, h1, h2, h3, h4⟩
  · subst h1
    refine .inr ⟨i, by omega, rfl, hp, fun j hj hq => ?_⟩
    rcases Nat.lt_succ_iff_lt_or_eq.1 hj with hj | rfl
    · exact absurd hq (h2 j hj)
    · exact Int.le_refl _
  · subst h2
    rcases upL_cases x i (k : Int) with ⟨g, e⟩ | ⟨g, g2, e⟩ | ⟨g, g2, e⟩
    · omega
    · rw [e]
      rw [Int.toNat_natCast] at g2
      refine .inr ⟨i, by omega, rfl, hp, fun j hj hq => ?_⟩
      rcases Nat.lt_succ_iff_lt_or_eq.1 hj with hj | rfl
      · have := h4 j hj hq; omega
      · exact Int.le_refl _
    · rw [e]
      rw [Int.toNat_natCast] at g2
      refine .inr ⟨k, by omega, rfl, h3, fun j hj hq => ?_⟩
      rcases Nat.lt_succ_iff_lt_or_eq.1 hj with hj | rfl
      · exact h4 j hj hq
      · omega
theorem McI.yes {p : Int → Prop} {x : Nat → Int} {i : Nat} {b : Int} (h : McI p x i b) (hp : p (x i)) : McI p x (i + 1) (upM x i b) := by
  rcases h with ⟨h1, h2⟩ | ⟨k, h1, h2, h3, h4⟩
  · subst h1
    refine .inr ⟨i, by omega, rfl, hp, fun j hj hq => ?_⟩
    rcases Nat.lt_succ_iff_lt_or_eq.1 hj with hj | rfl
    · exact absurd hq (h2 j hj)
    · exact Int.le_refl _
  · subst h2
    rcases upM_cases x i (k : Int) with ⟨g, e⟩ | ⟨g, g2, e⟩ | ⟨g, g2, e⟩
    · omega
    · rw [e]
      rw [Int.toNat_natCast] at g2
      refine .inr ⟨i, by omega, rfl, hp, fun j hj hq => ?_⟩
      rcases Nat.lt_succ_iff_lt_or_eq.1 hj with hj | rfl
      · have := h4 j hj hq; omega
      · exact Int.le_refl _
    · rw [e]
      rw [Int.toNat_natCast] at g2
      refine .inr ⟨k, by omega, rfl, h3, fun j hj hq => ?_⟩
      rcases Nat.lt_succ_iff_lt_or_eq.1 hj with hj | rfl
      · exact h4 j hj hq
      · omega
def RnI (me : Int) (x : Nat → Int) (i : Nat) (a : (Int × Int) × (Int × Int)) : Prop := (LcI (me < ·) x i a.1.1 ∧ McI (· < me) x i a.1.2) ∧ LcI (· ≠ me) x i a.2.1 ∧ McI (· ≠ me) x i a.2.2
theorem RnI.step {me : Int} {x : Nat → Int} {i : Nat} {a : (Int × Int) × (Int × Int)} (h : RnI me x i a) : RnI me x (i + 1) (rnF me x i a) := by
  obtain ⟨⟨b, a⟩, l, m⟩ := a
  obtain ⟨⟨h1, h2⟩, h3, h4⟩ := h
  cases hq : (x i == me)
  · have hne : x i ≠ me := by simpa using hq
    have es : rnF me x i ((b, a), (l, m)) = ((if x i > me then upL x i b else b, if x i < me then upM x i a else a), (upL x i l, upM x i m)) := by simp only [rnF, hq]
    rw [es]
    refine ⟨⟨?_, ?_⟩, h3.yes hne, h4.yes hne⟩
    · by_cases hg : x i > me
      · simp only [hg, reduceIte]; exact h1.yes hg
      · simp only [hg, reduceIte]; exact h1.no hg
    · by_cases hg : x i < me
      · simp only [hg, reduceIte]; exact h2.yes hg
      · simp only [hg, reduceIte]; exact h2.no hg
  · have he : x i = me := by simpa using hq
    have es : rnF me x i ((b, a), (l, m)) = ((b, a), (l, m)) := by simp only [rnF, hq]
    rw [es]
    exact ⟨⟨h1.no (by omega), h2.no (by omega)⟩, h3.no (by simp [he]), h4.no (by simp [he])⟩
theorem RnI.fold {me : Int} {x : Nat → Int} : ∀ (c i : Nat) (a : (Int × Int) × (Int × Int)), RnI me x i a → RnI me x (i + c) (foldF (rnF me x) c i a)
  | 0, _, _, h => h
  | c + 1, i, a, h => by
    have := RnI.fold c (i + 1) _ h.step
    rw [show i + 1 + c = i + (c + 1) by omega] at this
    exact this
def rnR (me : Int) (x : Nat → Int) (n : Nat) : (Int × Int) × (Int × Int) := foldF (rnF me x) n 0 ((-1, -1), (-1, -1))
theorem rnR_ok (me : Int) (x : Nat → Int) (n : Nat) : RnI me x n (rnR me x n) := by
  have := RnI.fold (me := me) (x := x) n 0 ((-1, -1), (-1, -1)) ⟨⟨.inl ⟨rfl, fun j hj => absurd hj (Nat.not_lt_zero j)⟩, .inl ⟨rfl, fun j hj => absurd hj (Nat.not_lt_zero j)⟩⟩, .inl ⟨rfl, fun j hj => absurd hj (Nat.not_lt_zero j)⟩, .inl ⟨rfl, fun j hj => absurd hj (Nat.not_lt_zero j)⟩⟩
  rwa [Nat.zero_add] at this
/-- the least of those that are so -/
def LeastI (p : Int → Prop) (x : Nat → Int) (n : Nat) (v : Int) : Prop := (∃ j, j < n ∧ p (x j) ∧ x j = v) ∧ ∀ j, j < n → p (x j) → v ≤ x j
def MostI (p : Int → Prop) (x : Nat → Int) (n : Nat) (v : Int) : Prop := (∃ j, j < n ∧ p (x j) ∧ x j = v) ∧ ∀ j, j < n → p (x j) → x j ≤ v
theorem LeastI.uniq {p : Int → Prop} {x : Nat → Int} {n : Nat} {v u : Int} (h : LeastI p x n v) (g : LeastI p x n u) : v = u := by
  obtain ⟨⟨j, h1, h2, h3⟩, h4⟩ := h
  obtain ⟨⟨k, g1, g2, g3⟩, g4⟩ := g
  have := h4 k g1 g2
  have := g4 j h1 h2
  omega
theorem MostI.uniq {p : Int → Prop} {x : Nat → Int} {n : Nat} {v u : Int} (h : MostI p x n v) (g : MostI p x n u) : v = u := by
  obtain ⟨⟨j, h1, h2, h3⟩, h4⟩ := h
  obtain ⟨⟨k, g1, g2, g3⟩, g4⟩ := g
  have := h4 k g1 g2
  have := g4 j h1 h2
  omega
def IsB (me : Int) (x : Nat → Int) (n : Nat) (v : Int) : Prop := LeastI (me < ·) x n v ∨ ((∀ j, j < n → ¬ me < x j) ∧ LeastI (· ≠ me) x n v)
def IsA (me : Int) (x : Nat → Int) (n : Nat) (v : Int) : Prop := MostI (· < me) x n v ∨ ((∀ j, j < n → ¬ x j < me) ∧ MostI (· ≠ me) x n v)
theorem IsB.uniq {me : Int} {x : Nat → Int} {n : Nat} {v u : Int} (h : IsB me x n v) (g : IsB me x n u) : v = u := by
  rcases h with h | ⟨h1, h2⟩ <;> rcases g with g | ⟨g1, g2⟩
  · exact h.uniq g
  · obtain ⟨⟨j, a, b, _⟩, _⟩ := h; exact absurd b (g1 j a)
  · obtain ⟨⟨j, a, b, _⟩, _⟩ := g; exact absurd b (h1 j a)
  · exact h2.uniq g2
theorem IsA.uniq {me : Int} {x : Nat → Int} {n : Nat} {v u : Int} (h : IsA me x n v) (g : IsA me x n u) : v = u := by
  rcases h with h | ⟨h1, h2⟩ <;> rcases g with g | ⟨g1, g2⟩
  · exact h.uniq g
  · obtain ⟨⟨j, a, b, _⟩, _⟩ := h; exact absurd b (g1 j a)
  · obtain ⟨⟨j, a, b, _⟩, _⟩ := g; exact absurd b (h1 j a)
  · exact h2.uniq g2
/-- who is next, by the reference -/
def rnB (me : Int) (x : Nat → Int) (n : Nat) : Int := if (rnR me x n).1.1 < 0 then x (rnR me x n).2.1.toNat else x (rnR me x n).1.1.toNat
def rnA (me : Int) (x : Nat → Int) (n : Nat) : Int := if (rnR me x n).1.2 < 0 then x (rnR me x n).2.2.toNat else x (rnR me x n).1.2.toNat
theorem rn_none (me : Int) (x : Nat → Int) (n : Nat) : (rnR me x n).2.1 < 0 ↔ ∀ j, j < n → x j = me := by
  obtain ⟨_, h, _⟩ := rnR_ok me x n
  rcases h with ⟨h1, h2⟩ | ⟨k, h1, h2, h3, h4⟩
  · rw [h1]
    exact ⟨fun _ j hj => Decidable.not_not.1 (h2 j hj), fun _ => by decide⟩
  · rw [h2]
    exact ⟨fun h => by omega, fun h => absurd (h k h1) h3⟩
theorem rnB_ok {me : Int} {x : Nat → Int} {n : Nat} (h0 : ¬ (rnR me x n).2.1 < 0) : IsB me x n (rnB me x n) := by
  obtain ⟨⟨h1, _⟩, h3, _⟩ := rnR_ok me x n
  unfold rnB
  rcases h1 with ⟨e, g⟩ | ⟨k, k1, e, k3, k4⟩
  · rw [if_pos (by omega)]
    rcases h3 with ⟨e3, _⟩ | ⟨k, k1, e3, k3, k4⟩
    · omega
    · rw [e3, Int.toNat_natCast]
      exact .inr ⟨g, ⟨k, k1, k3, rfl⟩, k4⟩
  · rw [if_neg (by omega), e, Int.toNat_natCast]
    exact .inl ⟨⟨k, k1, k3, rfl⟩, k4⟩
theorem rnA_ok {me : Int} {x : Nat → Int} {n : Nat} (h0 : ¬ (rnR me x n).2.1 < 0) : IsA me x n (rnA me x n) := by
  have hn := rn_none me x n
  obtain ⟨⟨_, h1⟩, _, h3⟩ := rnR_ok me x n
  unfold rnA
  rcases h1 with ⟨e, g⟩ | ⟨k, k1, e, k3, k4⟩
  · rw [if_pos (by omega)]
    rcases h3 with ⟨e3, f⟩ | ⟨k, k1, e3, k3, k4⟩
    · exact absurd (hn.2 fun j hj => Decidable.not_not.1 (f j hj)) h0
    · rw [e3, Int.toNat_natCast]
      exact .inr ⟨g, ⟨k, k1, k3, rfl⟩, k4⟩
  · rw [if_neg (by omega), e, Int.toNat_natCast]
    exact .inl ⟨⟨k, k1, k3, rfl⟩, k4⟩

theorem mem_rowL (x : Nat → Int) (n : Nat) (y : Int) : y ∈ rowL x 0 n ↔ ∃ j, j < n ∧ x j = y := by
  simp [rowL]
theorem rowL_sorted {s : Nat → Int} {d : Nat} (h : SortedL s d) {i j : Nat} (hi : i ≤ j) (hj : j < d) : s i ≤ s j := by
  rcases Nat.lt_or_eq_of_le hi with hi | rfl
  · have := List.pairwise_iff_getElem.1 h i j (by rw [rowL_length]; omega) (by rw [rowL_length]; omega) hi
    simpa [rowL] using this
  · exact Int.le_refl _
theorem belowI_succ (s : Nat → Int) (d : Nat) (t : Int) : belowI s (d + 1) t = belowI s d t + (if s d < t then 1 else 0) := by
  unfold belowI
  rw [rowL_succ, List.countP_append]
  by_cases h : s d < t
  · simp [h]
  · simp [h]
theorem below_iff {s : Nat → Int} {t : Int} : ∀ {d : Nat}, SortedL s d → ∀ j, j < d → (s j < t ↔ j < belowI s d t)
  | 0, _, j, hj => absurd hj (Nat.not_lt_zero j)
  | d + 1, h, j, hj => by
    have h' : SortedL s d := by
      have := h
      unfold SortedL at this ⊢
      rw [rowL_succ] at this
      exact (List.pairwise_append.1 this).1
    have ih := below_iff (t := t) h'
    have hle := belowI_le s d t
    rw [belowI_succ]
    by_cases hd : s d < t
    · rw [if_pos hd]
      have : d ≤ belowI s d t := by
        rcases Nat.eq_zero_or_pos d with rfl | hp
        · exact Nat.zero_le _
        · have := (ih (d - 1) (by omega)).1 (by have := rowL_sorted h (i := d - 1) (j := d) (by omega) (by omega); omega)
          omega
      have := rowL_sorted h (i := j) (j := d) (by omega) (by omega)
      exact ⟨fun _ => by omega, fun _ => by omega⟩
    · rw [if_neg hd]
      rcases Nat.lt_succ_iff_lt_or_eq.1 hj with hj | rfl
      · exact ih j hj
      · exact ⟨fun h => absurd h hd, fun h => by omega⟩
theorem nxS_mem (me : Int) (x : Nat → Int) (n : Nat) (y : Int) : (∃ j, j < nxD me x n ∧ nxS me x n j = y) ↔ (∃ j, j < n ∧ x j = y) ∧ y ≠ me := by
  rw [← mem_rowL, ← mem_rowL]
  unfold nxS
  rw [sortI_ok, List.mem_mergeSort]
  have : rowL (delI me x n).2 0 (nxD me x n) = filL me x n := (delI_ok me x n).2
  rw [this]
  simp [filL]
theorem nxD_none (me : Int) (x : Nat → Int) (n : Nat) : nxD me x n = 0 ↔ ∀ j, j < n → x j = me := by
  constructor
  · intro h j hj
    refine Decidable.byContradiction fun hne => ?_
    obtain ⟨k, hk, _⟩ := (nxS_mem me x n (x j)).2 ⟨⟨j, hj, rfl⟩, hne⟩
    omega
  · intro h
    refine Decidable.byContradiction fun hne => ?_
    obtain ⟨⟨k, hk, e⟩, h2⟩ := (nxS_mem me x n (nxS me x n 0)).1 ⟨0, by omega, rfl⟩
    exact h2 (e ▸ h k hk)
theorem nxB_ok {me : Int} {x : Nat → Int} {n : Nat} (h0 : nxD me x n ≠ 0) : IsB me x n (nxB me x n) := by
  have hs : SortedL (nxS me x n) (nxD me x n) := sortI_sorted _ _
  have hk : nxK me x n ≤ nxD me x n := belowI_le _ _ _
  have hb := fun j hj => below_iff (t := me) hs j hj
  have hall : ∀ j, j < n → x j ≠ me → ∃ i, i < nxD me x n ∧ nxS me x n i = x j := fun j hj hne => (nxS_mem me x n (x j)).2 ⟨⟨j, hj, rfl⟩, hne⟩
  have hin : ∀ i, i < nxD me x n → (∃ j, j < n ∧ x j = nxS me x n i) ∧ nxS me x n i ≠ me := fun i hi => (nxS_mem me x n _).1 ⟨i, hi, rfl⟩
  have hK : nxK me x n = belowI (nxS me x n) (nxD me x n) me := rfl
  rw [← hK] at hb
  unfold nxB
  rcases Nat.lt_or_eq_of_le hk with hlt | heq
  · rw [Nat.mod_eq_of_lt hlt]
    obtain ⟨⟨j, j1, j2⟩, h2⟩ := hin _ hlt
    have h3 := hb _ hlt
    refine .inl ⟨⟨j, j1, by omega, j2⟩, fun j hj hp => ?_⟩
    obtain ⟨i, i1, i2⟩ := hall j hj (by omega)
    have h4 := hb i i1
    have := rowL_sorted hs (i := nxK me x n) (j := i) (by omega) i1
    omega
  · rw [heq, Nat.mod_self]
    obtain ⟨⟨j, j1, j2⟩, h2⟩ := hin 0 (by omega)
    refine .inr ⟨fun j hj hp => ?_, ⟨j, j1, by omega, j2⟩, fun j hj hp => ?_⟩
    · obtain ⟨i, i1, i2⟩ := hall j hj (by omega)
      have h4 := hb i i1
      omega
    · obtain ⟨i, i1, i2⟩ := hall j hj hp
      have := rowL_sorted hs (i := 0) (j := i) (by omega) i1
      omega
theorem nxA_ok {me : Int} {x : Nat → Int} {n : Nat} (h0 : nxD me x n ≠ 0) : IsA me x n (nxA me x n) := by
  have hs : SortedL (nxS me x n) (nxD me x n) := sortI_sorted _ _
  have hk : nxK me x n ≤ nxD me x n := belowI_le _ _ _
  have hb := fun j hj => below_iff (t := me) hs j hj
  have hall : ∀ j, j < n → x j ≠ me → ∃ i, i < nxD me x n ∧ nxS me x n i = x j := fun j hj hne => (nxS_mem me x n (x j)).2 ⟨⟨j, hj, rfl⟩, hne⟩
  have hin : ∀ i, i < nxD me x n → (∃ j, j < n ∧ x j = nxS me x n i) ∧ nxS me x n i ≠ me := fun i hi => (nxS_mem me x n _).1 ⟨i, hi, rfl⟩
  have hK : nxK me x n = belowI (nxS me x n) (nxD me x n) me := rfl
  rw [← hK] at hb
  unfold nxA
  rcases Nat.eq_zero_or_pos (nxK me x n) with heq | hpos
  · rw [heq, Nat.mod_eq_of_lt (by omega)]
    obtain ⟨⟨j, j1, j2⟩, h2⟩ := hin (0 + nxD me x n - 1) (by omega)
    refine .inr ⟨fun j hj hp => ?_, ⟨j, j1, by omega, j2⟩, fun j hj hp => ?_⟩
    · obtain ⟨i, i1, i2⟩ := hall j hj (by omega)
      have h4 := hb i i1
      omega
    · obtain ⟨i, i1, i2⟩ := hall j hj hp
      have := rowL_sorted hs (i := i) (j := 0 + nxD me x n - 1) (by omega) (by omega)
      omega
  · rw [show (nxK me x n + nxD me x n - 1) % nxD me x n = nxK me x n - 1 by
      rw [show nxK me x n + nxD me x n - 1 = (nxK me x n - 1) + nxD me x n by omega, Nat.add_mod_right, Nat.mod_eq_of_lt (by omega)]]
    obtain ⟨⟨j, j1, j2⟩, h2⟩ := hin (nxK me x n - 1) (by omega)
    have h3 := hb (nxK me x n - 1) (by omega)
    refine .inl ⟨⟨j, j1, by omega, j2⟩, fun j hj hp => ?_⟩
    obtain ⟨i, i1, i2⟩ := hall j hj (by omega)
    have h4 := hb i i1
    have := rowL_sorted hs (i := i) (j := nxK me x n - 1) (by omega) (by omega)
    omega
/-- what both Next answer -/
def nzO (vb va : Int) : CallOut := if max vb va = min vb va then out0 (.v (.one (.f (.fs false 1 1 (intE fun _ => min vb va))))) else out0 (.v (.one (.f (.fs false 1 2 (intE fun a => bif Nat.beq a 0 then min vb va else max vb va)))))
def nzR (me : Int) (x : Nat → Int) (n : Nat) : CallOut := if nxD me x n = 0 then out0 (.v (.one Nil)) else nzO (nxB me x n) (nxA me x n)
theorem nz_eq (me : Int) (x : Nat → Int) (n : Nat) : nzR me x n = if (rnR me x n).2.1 < 0 then out0 (.v (.one Nil)) else nzO (rnB me x n) (rnA me x n) := by
  unfold nzR
  by_cases h : nxD me x n = 0
  · rw [if_pos h, if_pos ((rn_none me x n).2 ((nxD_none me x n).1 h))]
  · have h2 : ¬ (rnR me x n).2.1 < 0 := fun h2 => h ((nxD_none me x n).2 ((rn_none me x n).1 h2))
    rw [if_neg h, if_neg h2, (nxB_ok h).uniq (rnB_ok h2), (nxA_ok h).uniq (rnA_ok h2)]

theorem res_Nz (me : Int) (n : Nat) (x : Nat → Int) (h : 1 ≤ n ∧ n ≤ 1048576) : (tgt_Nz me false n x).res = some (nzR me x n) := by
  refine T.over_eq _ (tree_Nz me false n x) ?_
  obtain ⟨h1, h2⟩ := h
  have hd : nxD me x n = (delI me x n).1 := rfl
  have hs : nxS me x n = sortI (delI me x n).2 (nxD me x n) := rfl
  have hk : nxK me x n = belowI (nxS me x n) (nxD me x n) me := rfl
  have hso : SortedL (nxS me x n) (nxD me x n) := sortI_sorted _ _
  have hb : nxB me x n = nxS me x n (nxK me x n % nxD me x n) := rfl
  have ha : nxA me x n = nxS me x n ((nxK me x n + nxD me x n - 1) % nxD me x n) := rfl
  have d1 : nxD me x n ≤ n := (delI_ok me x n).1
  have d2 : nxK me x n ≤ nxD me x n := belowI_le _ _ _
  have f1 : (n : Int) ≤ 9223372036854775807 := by omega
  simp only [T.res_br, T.res_ret, T.res_bad, ← hd, ← hs, ← hk, IntE_ok, h1, h2, f1, eq_self, Nat.le_refl, and_self, pb_tt, reduceIte]
  unfold nzR nzO
  by_cases h0 : nxD me x n = 0
  · simp only [h0, reduceIte]
    rfl
  · have m1 : nxK me x n % nxD me x n < nxD me x n := Nat.mod_lt _ (by omega)
    have m2 : (nxK me x n + nxD me x n - 1) % nxD me x n < nxD me x n := Nat.mod_lt _ (by omega)
    have e1 : (((nxD me x n : Nat) : Int) == 0) = false := by simpa using h0
    have e2 : ¬ (((nxD me x n : Nat) : Int) = 0) := by omega
    have e3 : ((nxD me x n : Nat) : Int) < 4611686018427387904 := by omega
    have t1 : Int.tmod (nxK me x n : Int) (nxD me x n : Int) = ((nxK me x n % nxD me x n : Nat) : Int) := by rw [Int.tmod_eq_emod_of_nonneg (by omega)]; rfl
    have w1 : IntKind.wrap IntKind.i64 ((nxK me x n : Int) + (nxD me x n : Int)) = ((nxK me x n + nxD me x n : Nat) : Int) := by rw [wrapI (by omega)]; omega
    have w2 : IntKind.wrap IntKind.i64 (((nxK me x n + nxD me x n : Nat) : Int) - 1) = ((nxK me x n + nxD me x n - 1 : Nat) : Int) := by rw [wrapI (by omega)]; omega
    have t2 : Int.tmod ((nxK me x n + nxD me x n - 1 : Nat) : Int) (nxD me x n : Int) = (((nxK me x n + nxD me x n - 1) % nxD me x n : Nat) : Int) := by rw [Int.tmod_eq_emod_of_nonneg (by omega)]; rfl
    have g1 : (0 : Int) ≤ ((nxK me x n % nxD me x n : Nat) : Int) ∧ ((nxK me x n % nxD me x n : Nat) : Int) < (nxD me x n : Int) := by omega
    have g2 : (0 : Int) ≤ (((nxK me x n + nxD me x n - 1) % nxD me x n : Nat) : Int) ∧ (((nxK me x n + nxD me x n - 1) % nxD me x n : Nat) : Int) < (nxD me x n : Int) := by omega
    have b1 : Nat.ble (nxK me x n % nxD me x n + 1) n = true := ble_tt (by omega)
    have b2 : Nat.ble ((nxK me x n + nxD me x n - 1) % nxD me x n + 1) n = true := ble_tt (by omega)
    simp only [e1, e2, e3, t1, w1, w2, t2, decide_eq_true g1, decide_eq_true g2, Int.toNat_natCast, Nat.zero_add, b1, b2, d1, hso, h0, ← ha, ← hb, decide_false, and_self, pb_tt, Bool.false_eq_true, beq_iff_eq, if_false, if_true]
    split <;> rfl
theorem min_if (p q : Int) : (if q < p then q else p) = min p q := by split <;> omega
theorem max_if (p q : Int) : (if q > p then q else p) = max p q := by split <;> omega

end Go.Proofs.YtbobakclbdaepaaGreat.En
/- Both Next are known; same. -/
namespace Go.Proofs.YtbobakclbdaepaaGreat.En
open Go
set_option linter.unusedVariables false
set_option linter.unusedSimpArgs false
set_option maxRecDepth 20000
set_option maxHeartbeats 1000000
def nzN (me : Int) (x : Nat → Int) (n : Nat) : Bool := Nat.beq (nxD me x n) 0
def nzL (me : Int) (x : Nat → Int) (n : Nat) : Nat := if nxD me x n = 0 then 0 else if max (nxB me x n) (nxA me x n) = min (nxB me x n) (nxA me x n) then 1 else 2
def nzE (me : Int) (x : Nat → Int) (n : Nat) (i : Nat) : Int := bif Nat.beq i 0 then min (nxB me x n) (nxA me x n) else max (nxB me x n) (nxA me x n)
theorem nz_le {P : Program} {g : Nat} {args : List AV} {me : Int} {x : Nat → Int} {n : Nat} (h : CallTo P g args [] 0 (nzR me x n)) : CallTo P g args [] 0 (out0 (.v (.one (.f (.fs (nzN me x n) 1 (nzL me x n) (intE (nzE me x n))))))) := by
  unfold nzR nzO at h
  by_cases h0 : nxD me x n = 0
  · have e1 : nzN me x n = true := by simp [nzN, h0]
    have e2 : nzL me x n = 0 := by simp [nzL, h0]
    rw [if_pos h0] at h
    rw [e1, e2]
    exact h.less (Nat.le_refl 0) (.inr (.inr ⟨_, _, rfl, rfl, CV.le.f FV.le_nil⟩)) (fun b => .inl rfl) rfl rfl
  · have e1 : nzN me x n = false := by unfold nzN; exact beq_ff h0
    rw [if_neg h0] at h
    by_cases h2 : max (nxB me x n) (nxA me x n) = min (nxB me x n) (nxA me x n)
    · have e2 : nzL me x n = 1 := by simp only [nzL, h0, h2, reduceIte]
      rw [if_pos h2] at h
      rw [e1, e2]
      have hle : FV.le (.fs false 1 1 (intE fun _ => min (nxB me x n) (nxA me x n))) (.fs false 1 1 (intE (nzE me x n))) := FV.le_fs fun i hi => by
        obtain rfl : i = 0 := Nat.lt_one_iff.1 hi
        rfl
      exact h.less (Nat.le_refl 0) (.inr (.inr ⟨_, _, rfl, rfl, CV.le.f hle⟩)) (fun b => .inl rfl) rfl rfl
    · have e2 : nzL me x n = 2 := by simp only [nzL, h0, h2, reduceIte]
      rw [if_neg h2] at h
      rw [e1, e2]
      exact h
theorem nz_0 (me : Int) (x : Nat → Int) : nzR me x 0 = out0 (.v (.one Nil)) := by
  have : nxD me x 0 = 0 := (nxD_none me x 0).2 fun j hj => absurd hj (Nat.not_lt_zero j)
  unfold nzR
  rw [if_pos this]
theorem res_Nx0 (me : Int) (nl : Bool) (x : Nat → Int) : (tgt_Nx0 me nl x).res = some (nzR me x 0) := by
  rw [nz_0]
  refine T.over_eq _ (tree_Nx0 me nl x) ?_
  simp only [T.res_br, T.res_ret]
  cases nl <;> rfl
theorem to_Nz (me : Int) (nl : Bool) (n : Nat) (x : Nat → Int) (h : (nl = true → n = 0) ∧ n ≤ 1048576) : CallTo Tryz.prog 81 [AI me, .one (.f (.fs nl 1 n (intE x)))] [] 0 (out0 (.v (.one (.f (.fs (nzN me x n) 1 (nzL me x n) (intE (nzE me x n))))))) := by
  refine nz_le ?_
  rcases Nat.eq_zero_or_pos n with rfl | hp
  · exact evCallW_ok GORD1 GKRD1 (res_Nx0 me nl x)
  · have : nl = false := by
      cases nl
      · rfl
      · have := h.1 rfl; omega
    subst this
    exact evCallZ_ok GORD3 GKRD3 (res_Nz me n x ⟨hp, h.2⟩)

noncomputable def F_Nz : SumF
  | [.one (.f (.lit (.int .i64 me))), .one (.f (.fs nl 1 n e))], [], 0 => .need (pb (IntE e ∧ (nl = true → n = 0) ∧ n ≤ 1048576)) (.ret (out0 (.v (.one (.f (.fs (nzN me (intOf e) n) 1 (nzL me (intOf e) n) (intE (nzE me (intOf e) n))))))))
  | _, _, _ => .bad
theorem sum_Nz : SumOk Tryz.prog 81 F_Nz := by
  refine ⟨fun args H nx r hr => ?_, fun args H nx => ?_⟩
  · unfold F_Nz at hr
    split at hr
    · rename_i me nl n e
      obtain ⟨h0, hr⟩ := T.need_some hr
      have := T.ret_some hr
      subst this
      have h := pb_of h0
      obtain ⟨⟨x, rfl⟩, h1⟩ := h
      exact to_Nz me nl n x h1
    · exact (T.bad_some hr).elim
  · unfold F_Nz
    split
    · exact T.Every.need ⟨Nat.zero_le _, fun b hb hw => absurd hb (Nat.not_lt_zero b)⟩
    · trivial
noncomputable def sm_Nz : SumF := orSum (nilSum 1 ((intE fun _ => 0)) (canonSum F_Nz)) (frzSum (nilSum 1 ((intE fun _ => 0)) (canonSum F_Nz)))
theorem sm_Nz_ok : SumOk Tryz.prog 81 sm_Nz := orSum_ok (nilSum_ok (canonSum_ok sum_Nz)) (frzSum_ok (nilSum_ok (canonSum_ok sum_Nz)))
noncomputable def ss_Nz : List (Nat × SumF) := (81, sm_Nz) :: ss_Compare
theorem ss_Nz_ok : ∀ x ∈ ss_Nz, SumOk Tryz.prog x.1 x.2 := List.forall_mem_cons.2 ⟨sm_Nz_ok, ss_Compare_ok⟩
def S_sm (nl : Bool) (n : Nat) (x : Nat → Int) (nl2 : Bool) (i : Nat) (a : Unit) : St := ⟨[(0, .v (.one (.f (.fs nl 1 n (intE x))))), (1, .v (.one (.f (.fs nl2 1 n (intE x))))), (12, .v (AI n)), (13, .v (AI i))], [], 0, false, 0, []⟩

end Go.Proofs.YtbobakclbdaepaaGreat.En
/- RingTells: the numbers drawn small. -/
namespace Go.Proofs.YtbobakclbdaepaaGreat.En
open Go
set_option linter.unusedVariables false
set_option linter.unusedSimpArgs false
set_option maxRecDepth 20000
set_option maxHeartbeats 1000000
def S_nn (nl : Bool) (n : Nat) (x : Nat → Int) (me k : Int) (l2 : Bool) (n2 : Nat) (e2 : Nat → List FV) (i : Nat) (a : Unit) : St :=
  ⟨[(0, .v (AI me)), (1, .v (.one (.f (.fs nl 1 n (intE x))))), (3, .v (AI k)), (9, .v (.one (.f (.fs l2 5 n2 e2)))), (10, .v (.one (.sl (Nat.beq i 0) 0 1 0 0 i i false 1))), (16, .v (.one (.f (.fs nl 1 n (intE x))))), (17, .v (AI n)), (18, .v (AI i))], [(0, .arr (!(Nat.beq i 0)) 1 i (intE fun j => x j % 9 - 2))], 1, false, 0, []⟩

end Go.Proofs.YtbobakclbdaepaaGreat.En
