-- PRINTED BY print.sh 35421559b90ae4d0a3588c463048766b98c2df88dd9212a6774a882060cdf62d: not written by this session
import Derived.Test.YtabmkefbceepmaaPDonorLowersx0
namespace Go.Proofs.Ytabmkefbceepmaa.PDonorLowers
open Go.RowKit Go.Proofs.YtabmkefbceepmaaW.PrintWords Go.Proofs.YtabmkefbceepmaaW.PrintLast Go.Proofs.YtabmkefbceepmaaW.PrintMore
attribute [local go_sem] max2_int min2_int max_two min_two max_three min_three max_four min_four   -- for this text's walks alone
set_option linter.unusedVariables false
set_option linter.unusedSimpArgs false

/-! ### osmosishand_Pick: function 12 -/
def osmosishand_Pick.f (a0 : Int) (a1 : Int) : Option (Int) := if a1 = 0 then (none) else (if (Int.tmod a0 a1) < 0 then (some (wrap64 ((Int.tmod a0 a1) + a1))) else (some (Int.tmod a0 a1)))
set_option maxHeartbeats 8000000 in
set_option maxRecDepth 100000 in
theorem osmosishand_Pick.calls (a0 : Int) (a1 : Int) (r : Int) (w : World) (h : osmosishand_Pick.f a0 a1 = some r) :
    Calls Try.prog 12 #[.int .i64 a0, .int .i64 a1] w fun e w' => e = .returned (.int .i64 r) ∧ Drawn0 w w' := by
  have H : (if a1 = 0 then (none) else (if (Int.tmod a0 a1) < 0 then (some (wrap64 ((Int.tmod a0 a1) + a1))) else (some (Int.tmod a0 a1)))) = some r := h
  clear h
  by_cases c3 : a1 = 0
  · rw [if_pos c3] at H
    exact absurd H (by simp)
  · rw [if_neg c3] at H
    have c3b0 : (a1 == 0) = false := beq_eq_false_iff_ne.mpr c3
    have c3b1 : (a1 != 0) = true := bne_iff_ne.mpr c3
    by_cases c4 : (Int.tmod a0 a1) < 0
    · rw [if_pos c4] at H
      have c4b0 : decide ((Int.tmod a0 a1) < 0) = true := decide_eq_true c4
      clear c4
      obtain rfl := Option.some.inj H
      go_enter Try.func12, Try.ntmps12
      go_wp2
      go_ret
      exact ⟨by first | rfl | (simp; done) | (simp [*]; done), by repeat (first | exact Drawn0.refl _ | apply Drawn0.step)⟩
    · rw [if_neg c4] at H
      have c4b0 : decide ((Int.tmod a0 a1) < 0) = false := decide_eq_false c4
      clear c4
      obtain rfl := Option.some.inj H
      go_enter Try.func12, Try.ntmps12
      go_wp2
      go_ret
      exact ⟨by first | rfl | (simp; done) | (simp [*]; done), by repeat (first | exact Drawn0.refl _ | apply Drawn0.step)⟩

/-! ### donor_within: function 40 -/
def donor_within.f (a0 : Int) : Option (Int) := some (mx 0 (mn a0 4611686018427387903))
set_option maxHeartbeats 8000000 in
set_option maxRecDepth 100000 in
theorem donor_within.calls (a0 : Int) (r : Int) (w : World) (h : donor_within.f a0 = some r) :
    Calls Try.prog 40 #[.int .i64 a0] w fun e w' => e = .returned (.int .i64 r) ∧ Below w.heap.size w w' := by
  have HB := Aside0.mk (Below.refl w.heap.size w)
  have H : (some (mx 0 (mn a0 4611686018427387903))) = some r := h
  clear h
  obtain ⟨ji2, hji2⟩ : ∃ j_ : Int, (mn a0 4611686018427387903) = j_ := ⟨_, rfl⟩
  replace H : (some (mx 0 (ji2))) = some r := by first | (rw [hji2] at H; exact H) | (simp only [hji2] at H ⊢; exact H)
  (try (have hji2h : ji2 ≤ 4611686018427387903 := by (rw [← hji2]; unfold mn; (repeat' split) <;> omega)))
  (try (have hji2g : ji2 ≤ 64 := by omega))
  have hji2_ : (if 4611686018427387903 < a0 then 4611686018427387903 else a0) = ji2 := hji2
  obtain ⟨ji3, hji3⟩ : ∃ j_ : Int, (mx 0 (ji2)) = j_ := ⟨_, rfl⟩
  replace H : (some ji3) = some r := by first | (rw [hji3] at H; exact H) | (simp only [hji3] at H ⊢; exact H)
  have hji3_ : (if 0 < (ji2) then (ji2) else 0) = ji3 := hji3
  obtain rfl := Option.some.inj H
  go_enter Try.func40, Try.ntmps40
  go_wp2
  go_ret
  exact ⟨by first | rfl | (simp [errW_none, errW_some] <;> rfl) | (simp only [← hji2, ← hji3]; first | rfl | (simp [errW_none, errW_some] <;> rfl)) | (simp [*, errW_none, errW_some] <;> rfl), by repeat (first | (with_reducible first | exact HB.out | apply below_alloc | apply pw_below_drewN | apply below_drew1) | exact HB.out)⟩

/-! ### donor_Fits: function 13 -/
def donor_Fits.f (a0 : Int) (a1 : Int) (a2 : Int) (a3 : Bool) : Option (Bool) := if a3 = true then (some true) else ((donor_within.f a0).bind fun t101 => ((donor_within.f a1).bind fun t102 => ((donor_within.f a2).bind fun t103 => (some (decide (t101 < (wrap64 (t102 - t103))))))))
set_option maxHeartbeats 8000000 in
set_option maxRecDepth 100000 in
theorem donor_Fits.calls (a0 : Int) (a1 : Int) (a2 : Int) (a3 : Bool) (r : Bool) (w : World) (h : donor_Fits.f a0 a1 a2 a3 = some r) :
    Calls Try.prog 13 #[.int .i64 a0, .int .i64 a1, .int .i64 a2, .bool a3] w fun e w' => e = .returned (.bool r) ∧ Below w.heap.size w w' := by
  have HB := Aside0.mk (Below.refl w.heap.size w)
  have H : (if a3 = true then (some true) else ((donor_within.f a0).bind fun t101 => ((donor_within.f a1).bind fun t102 => ((donor_within.f a2).bind fun t103 => (some (decide (t101 < (wrap64 (t102 - t103))))))))) = some r := h
  clear h
  by_cases c5 : a3 = true
  · subst c5
    have H1 : (some true) = some r := by rw [if_pos rfl] at H; exact H
    clear H
    have H := H1
    clear H1
    obtain rfl := Option.some.inj H
    go_enter Try.func13, Try.ntmps13
    go_wp2
    go_ret
    exact ⟨by first | rfl | (simp [errW_none, errW_some] <;> rfl) | (simp [*, errW_none, errW_some] <;> rfl), by repeat (first | (with_reducible first | exact HB.out | apply below_alloc | apply pw_below_drewN | apply below_drew1) | exact HB.out)⟩
  · replace c5 := Bool.eq_false_iff.mpr c5
    subst c5
    have H1 : ((donor_within.f a0).bind fun t101 => ((donor_within.f a1).bind fun t102 => ((donor_within.f a2).bind fun t103 => (some (decide (t101 < (wrap64 (t102 - t103)))))))) = some r := by rw [if_neg (show ¬ (false = true) by decide)] at H; exact H
    clear H
    have H := H1
    clear H1
    replace H := Option.bind_eq_some_iff.mp H
    obtain ⟨t101, A60, H⟩ := H
    replace H : ((donor_within.f a1).bind fun t102 => ((donor_within.f a2).bind fun t103 => (some (decide (t101 < (wrap64 (t102 - t103))))))) = some r := H
    have A6 := Aside0.mk A60
    clear A60
    replace H := Option.bind_eq_some_iff.mp H
    obtain ⟨t102, A70, H⟩ := H
    replace H : ((donor_within.f a2).bind fun t103 => (some (decide (t101 < (wrap64 (t102 - t103)))))) = some r := H
    have A7 := Aside0.mk A70
    clear A70
    replace H := Option.bind_eq_some_iff.mp H
    obtain ⟨t103, A80, H⟩ := H
    replace H : (some (decide (t101 < (wrap64 (t102 - t103))))) = some r := H
    have A8 := Aside0.mk A80
    clear A80
    obtain rfl := Option.some.inj H
    go_enter Try.func13, Try.ntmps13
    go_wp2_with (first | (go_at_call 40; (with_reducible refine (donor_within.calls a0 t101 _ A6.out).mono ?_); rintro e w9 ⟨rfl, hb⟩; have n0_ := Aside0.mk (below_step (by repeat (first | (with_reducible first | exact HB.out | apply below_alloc | apply pw_below_drewN | apply below_drew1) | exact HB.out)) hb); clear HB; have HB := n0_; clear n0_; (try clear hb); (try clear hb2); (try clear hk); (try clear hi)) | (go_at_call 40; (with_reducible refine (donor_within.calls a1 t102 _ A7.out).mono ?_); rintro e w10 ⟨rfl, hb⟩; have n0_ := Aside0.mk (below_step (by repeat (first | (with_reducible first | exact HB.out | apply below_alloc | apply pw_below_drewN | apply below_drew1) | exact HB.out)) hb); clear HB; have HB := n0_; clear n0_; (try clear hb); (try clear hb2); (try clear hk); (try clear hi)) | (go_at_call 40; (with_reducible refine (donor_within.calls a2 t103 _ A8.out).mono ?_); rintro e w11 ⟨rfl, hb⟩; have n0_ := Aside0.mk (below_step (by repeat (first | (with_reducible first | exact HB.out | apply below_alloc | apply pw_below_drewN | apply below_drew1) | exact HB.out)) hb); clear HB; have HB := n0_; clear n0_; (try clear hb); (try clear hb2); (try clear hk); (try clear hi)))
    go_ret
    exact ⟨by first | rfl | (simp [errW_none, errW_some] <;> rfl) | (simp [*, errW_none, errW_some] <;> rfl), by repeat (first | (with_reducible first | exact HB.out | apply below_alloc | apply pw_below_drewN | apply below_drew1) | exact HB.out)⟩

/-! ### osmosislaw15_known: function 14 -/
def osmosislaw15_known.f  : Option (Bool) := (donor_Fits.f 3 9 2 false).bind fun t104 => (if t104 = true then ((donor_Fits.f 7 9 2 false).bind fun t105 => (if t105 = true then (some false) else ((donor_Fits.f 7 9 2 true).bind fun t106 => (some t106)))) else (some false))
set_option maxHeartbeats 8000000 in
set_option maxRecDepth 100000 in
theorem osmosislaw15_known.calls  (r : Bool) (w : World) (h : osmosislaw15_known.f  = some r) :
    Calls Try.prog 14 #[] w fun e w' => e = .returned (.bool r) ∧ Below w.heap.size w w' := by
  have HB := Aside0.mk (Below.refl w.heap.size w)
  have H : ((donor_Fits.f 3 9 2 false).bind fun t104 => (if t104 = true then ((donor_Fits.f 7 9 2 false).bind fun t105 => (if t105 = true then (some false) else ((donor_Fits.f 7 9 2 true).bind fun t106 => (some t106)))) else (some false))) = some r := h
  clear h
  replace H := Option.bind_eq_some_iff.mp H
  obtain ⟨t104, A10, H⟩ := H
  replace H : (if t104 = true then ((donor_Fits.f 7 9 2 false).bind fun t105 => (if t105 = true then (some false) else ((donor_Fits.f 7 9 2 true).bind fun t106 => (some t106)))) else (some false)) = some r := H
  have A1 := Aside0.mk A10
  clear A10
  by_cases c2 : t104 = true
  · subst c2
    have H1 : ((donor_Fits.f 7 9 2 false).bind fun t105 => (if t105 = true then (some false) else ((donor_Fits.f 7 9 2 true).bind fun t106 => (some t106)))) = some r := by rw [if_pos rfl] at H; exact H
    clear H
    have H := H1
    clear H1
    replace H := Option.bind_eq_some_iff.mp H
    obtain ⟨t105, A30, H⟩ := H
    replace H : (if t105 = true then (some false) else ((donor_Fits.f 7 9 2 true).bind fun t106 => (some t106))) = some r := H
    have A3 := Aside0.mk A30
    clear A30
    by_cases c4 : t105 = true
    · subst c4
      have H1 : (some false) = some r := by rw [if_pos rfl] at H; exact H
      clear H
      have H := H1
      clear H1
      obtain rfl := Option.some.inj H
      go_enter Try.func14, Try.ntmps14
      go_wp2_with (first | ((with_reducible refine gate_callee (f := 13) rfl ?_); refine goesL_ (some 1) rfl rfl Try.func13 (by kernel_rfl) rfl #[.int .i64 3, .int .i64 9, .int .i64 2, .bool false] rfl (by (try simp only [List.map_toArray, List.map_cons, List.map_nil]); first | done | rfl | (simp only [List.length_drop, List.length_take]; rfl)) ?_; (with_reducible refine (donor_Fits.calls 3 9 2 false true _ A1.out).mono ?_); rintro e w5 ⟨rfl, hb⟩; refine ⟨_, rfl, ?_⟩; have n0_ := Aside0.mk (below_step (by repeat (first | (with_reducible first | exact HB.out | apply below_alloc | apply pw_below_drewN | apply below_drew1) | exact HB.out)) hb); clear HB; have HB := n0_; clear n0_; (try clear hb); (try clear hb2); (try clear hk); (try clear hi)) | (go_at_call 13; (with_reducible refine (donor_Fits.calls 7 9 2 false true _ A3.out).mono ?_); rintro e w6 ⟨rfl, hb⟩; have n0_ := Aside0.mk (below_step (by repeat (first | (with_reducible first | exact HB.out | apply below_alloc | apply pw_below_drewN | apply below_drew1) | exact HB.out)) hb); clear HB; have HB := n0_; clear n0_; (try clear hb); (try clear hb2); (try clear hk); (try clear hi)))
      go_ret
      exact ⟨by first | rfl | (simp [errW_none, errW_some] <;> rfl) | (simp [*, errW_none, errW_some] <;> rfl), by repeat (first | (with_reducible first | exact HB.out | apply below_alloc | apply pw_below_drewN | apply below_drew1) | exact HB.out)⟩
    · replace c4 := Bool.eq_false_iff.mpr c4
      subst c4
      have H1 : ((donor_Fits.f 7 9 2 true).bind fun t106 => (some t106)) = some r := by rw [if_neg (show ¬ (false = true) by decide)] at H; exact H
      clear H
      have H := H1
      clear H1
      replace H := Option.bind_eq_some_iff.mp H
      obtain ⟨t106, A70, H⟩ := H
      replace H : (some t106) = some r := H
      have A7 := Aside0.mk A70
      clear A70
      obtain rfl := Option.some.inj H
      go_enter Try.func14, Try.ntmps14
      go_wp2_with (first | ((with_reducible refine gate_callee (f := 13) rfl ?_); refine goesL_ (some 1) rfl rfl Try.func13 (by kernel_rfl) rfl #[.int .i64 3, .int .i64 9, .int .i64 2, .bool false] rfl (by (try simp only [List.map_toArray, List.map_cons, List.map_nil]); first | done | rfl | (simp only [List.length_drop, List.length_take]; rfl)) ?_; (with_reducible refine (donor_Fits.calls 3 9 2 false true _ A1.out).mono ?_); rintro e w8 ⟨rfl, hb⟩; refine ⟨_, rfl, ?_⟩; have n0_ := Aside0.mk (below_step (by repeat (first | (with_reducible first | exact HB.out | apply below_alloc | apply pw_below_drewN | apply below_drew1) | exact HB.out)) hb); clear HB; have HB := n0_; clear n0_; (try clear hb); (try clear hb2); (try clear hk); (try clear hi)) | (go_at_call 13; (with_reducible refine (donor_Fits.calls 7 9 2 false false _ A3.out).mono ?_); rintro e w9 ⟨rfl, hb⟩; have n0_ := Aside0.mk (below_step (by repeat (first | (with_reducible first | exact HB.out | apply below_alloc | apply pw_below_drewN | apply below_drew1) | exact HB.out)) hb); clear HB; have HB := n0_; clear n0_; (try clear hb); (try clear hb2); (try clear hk); (try clear hi)) | (go_at_call 13; (with_reducible refine (donor_Fits.calls 7 9 2 true t106 _ A7.out).mono ?_); rintro e w10 ⟨rfl, hb⟩; have n0_ := Aside0.mk (below_step (by repeat (first | (with_reducible first | exact HB.out | apply below_alloc | apply pw_below_drewN | apply below_drew1) | exact HB.out)) hb); clear HB; have HB := n0_; clear n0_; (try clear hb); (try clear hb2); (try clear hk); (try clear hi)))
      go_ret
      exact ⟨by first | rfl | (simp [errW_none, errW_some] <;> rfl) | (simp [*, errW_none, errW_some] <;> rfl), by repeat (first | (with_reducible first | exact HB.out | apply below_alloc | apply pw_below_drewN | apply below_drew1) | exact HB.out)⟩
  · replace c2 := Bool.eq_false_iff.mpr c2
    subst c2
    have H1 : (some false) = some r := by rw [if_neg (show ¬ (false = true) by decide)] at H; exact H
    clear H
    have H := H1
    clear H1
    obtain rfl := Option.some.inj H
    go_enter Try.func14, Try.ntmps14
    go_wp2_with (first | ((with_reducible refine gate_callee (f := 13) rfl ?_); refine goesL_ (some 1) rfl rfl Try.func13 (by kernel_rfl) rfl #[.int .i64 3, .int .i64 9, .int .i64 2, .bool false] rfl (by (try simp only [List.map_toArray, List.map_cons, List.map_nil]); first | done | rfl | (simp only [List.length_drop, List.length_take]; rfl)) ?_; (with_reducible refine (donor_Fits.calls 3 9 2 false false _ A1.out).mono ?_); rintro e w11 ⟨rfl, hb⟩; refine ⟨_, rfl, ?_⟩; have n0_ := Aside0.mk (below_step (by repeat (first | (with_reducible first | exact HB.out | apply below_alloc | apply pw_below_drewN | apply below_drew1) | exact HB.out)) hb); clear HB; have HB := n0_; clear n0_; (try clear hb); (try clear hb2); (try clear hk); (try clear hi)))
    go_ret
    exact ⟨by first | rfl | (simp [errW_none, errW_some] <;> rfl) | (simp [*, errW_none, errW_some] <;> rfl), by repeat (first | (with_reducible first | exact HB.out | apply below_alloc | apply pw_below_drewN | apply below_drew1) | exact HB.out)⟩

/-! ### osmosislaw15_DonorLowers: function 3 -/
def osmosislaw15_DonorLowers.f (a0 : Int) (a1 : Int) (a2 : Int) : Option (Bool) := (osmosishand_Pick.f a0 1000).bind fun t107 => ((osmosishand_Pick.f a1 20000).bind fun t108 => ((osmosishand_Pick.f a2 20000).bind fun t109 => ((donor_Fits.f (wrap64 (1 + t107)) t108 t109 false).bind fun t110 => (if t110 = true then ((osmosislaw15_known.f).bind fun t111 => (if t111 = true then (if (wrap64 ((wrap64 ((wrap64 (t108 * t108)) + (wrap64 (t109 * t109)))) - (wrap64 ((wrap64 ((wrap64 (t108 - (wrap64 (1 + t107)))) * (wrap64 (t108 - (wrap64 (1 + t107)))))) + (wrap64 ((wrap64 (t109 + (wrap64 (1 + t107)))) * (wrap64 (t109 + (wrap64 (1 + t107)))))))))) ≥ (wrap64 (2 * (wrap64 (1 + t107)))) then (if (wrap64 (t108 - (wrap64 (1 + t107)))) > t109 then (some (decide ((wrap64 (t109 + (wrap64 (1 + t107)))) < t108))) else (some false)) else (some false)) else (some false))) else ((osmosislaw15_known.f).bind fun t112 => (if t112 = true then (some (decide ((wrap64 (1 + t107)) ≥ (wrap64 (t108 - t109))))) else (some false)))))))
set_option maxHeartbeats 8000000 in
set_option maxRecDepth 100000 in
theorem osmosislaw15_DonorLowers.calls (a0 : Int) (a1 : Int) (a2 : Int) (r : Bool) (w : World) (h : osmosislaw15_DonorLowers.f a0 a1 a2 = some r) :
    Calls Try.prog 3 #[.int .i64 a0, .int .i64 a1, .int .i64 a2] w fun e w' => e = .returned (.bool r) ∧ Below w.heap.size w w' := by
  have HB := Aside0.mk (Below.refl w.heap.size w)
  have H : ((osmosishand_Pick.f a0 1000).bind fun t107 => ((osmosishand_Pick.f a1 20000).bind fun t108 => ((osmosishand_Pick.f a2 20000).bind fun t109 => ((donor_Fits.f (wrap64 (1 + t107)) t108 t109 false).bind fun t110 => (if t110 = true then ((osmosislaw15_known.f).bind fun t111 => (if t111 = true then (if (wrap64 ((wrap64 ((wrap64 (t108 * t108)) + (wrap64 (t109 * t109)))) - (wrap64 ((wrap64 ((wrap64 (t108 - (wrap64 (1 + t107)))) * (wrap64 (t108 - (wrap64 (1 + t107)))))) + (wrap64 ((wrap64 (t109 + (wrap64 (1 + t107)))) * (wrap64 (t109 + (wrap64 (1 + t107)))))))))) ≥ (wrap64 (2 * (wrap64 (1 + t107)))) then (if (wrap64 (t108 - (wrap64 (1 + t107)))) > t109 then (some (decide ((wrap64 (t109 + (wrap64 (1 + t107)))) < t108))) else (some false)) else (some false)) else (some false))) else ((osmosislaw15_known.f).bind fun t112 => (if t112 = true then (some (decide ((wrap64 (1 + t107)) ≥ (wrap64 (t108 - t109))))) else (some false)))))))) = some r := h
  clear h
  replace H := Option.bind_eq_some_iff.mp H
  obtain ⟨t107, A40, H⟩ := H
  replace H : ((osmosishand_Pick.f a1 20000).bind fun t108 => ((osmosishand_Pick.f a2 20000).bind fun t109 => ((donor_Fits.f (wrap64 (1 + t107)) t108 t109 false).bind fun t110 => (if t110 = true then ((osmosislaw15_known.f).bind fun t111 => (if t111 = true then (if (wrap64 ((wrap64 ((wrap64 (t108 * t108)) + (wrap64 (t109 * t109)))) - (wrap64 ((wrap64 ((wrap64 (t108 - (wrap64 (1 + t107)))) * (wrap64 (t108 - (wrap64 (1 + t107)))))) + (wrap64 ((wrap64 (t109 + (wrap64 (1 + t107)))) * (wrap64 (t109 + (wrap64 (1 + t107)))))))))) ≥ (wrap64 (2 * (wrap64 (1 + t107)))) then (if (wrap64 (t108 - (wrap64 (1 + t107)))) > t109 then (some (decide ((wrap64 (t109 + (wrap64 (1 + t107)))) < t108))) else (some false)) else (some false)) else (some false))) else ((osmosislaw15_known.f).bind fun t112 => (if t112 = true then (some (decide ((wrap64 (1 + t107)) ≥ (wrap64 (t108 - t109))))) else (some false))))))) = some r := H
  have A4 := Aside0.mk A40
  clear A40
  replace H := Option.bind_eq_some_iff.mp H
  obtain ⟨t108, A50, H⟩ := H
  replace H : ((osmosishand_Pick.f a2 20000).bind fun t109 => ((donor_Fits.f (wrap64 (1 + t107)) t108 t109 false).bind fun t110 => (if t110 = true then ((osmosislaw15_known.f).bind fun t111 => (if t111 = true then (if (wrap64 ((wrap64 ((wrap64 (t108 * t108)) + (wrap64 (t109 * t109)))) - (wrap64 ((wrap64 ((wrap64 (t108 - (wrap64 (1 + t107)))) * (wrap64 (t108 - (wrap64 (1 + t107)))))) + (wrap64 ((wrap64 (t109 + (wrap64 (1 + t107)))) * (wrap64 (t109 + (wrap64 (1 + t107)))))))))) ≥ (wrap64 (2 * (wrap64 (1 + t107)))) then (if (wrap64 (t108 - (wrap64 (1 + t107)))) > t109 then (some (decide ((wrap64 (t109 + (wrap64 (1 + t107)))) < t108))) else (some false)) else (some false)) else (some false))) else ((osmosislaw15_known.f).bind fun t112 => (if t112 = true then (some (decide ((wrap64 (1 + t107)) ≥ (wrap64 (t108 - t109))))) else (some false)))))) = some r := H
  have A5 := Aside0.mk A50
  clear A50
  replace H := Option.bind_eq_some_iff.mp H
  obtain ⟨t109, A60, H⟩ := H
  replace H : ((donor_Fits.f (wrap64 (1 + t107)) t108 t109 false).bind fun t110 => (if t110 = true then ((osmosislaw15_known.f).bind fun t111 => (if t111 = true then (if (wrap64 ((wrap64 ((wrap64 (t108 * t108)) + (wrap64 (t109 * t109)))) - (wrap64 ((wrap64 ((wrap64 (t108 - (wrap64 (1 + t107)))) * (wrap64 (t108 - (wrap64 (1 + t107)))))) + (wrap64 ((wrap64 (t109 + (wrap64 (1 + t107)))) * (wrap64 (t109 + (wrap64 (1 + t107)))))))))) ≥ (wrap64 (2 * (wrap64 (1 + t107)))) then (if (wrap64 (t108 - (wrap64 (1 + t107)))) > t109 then (some (decide ((wrap64 (t109 + (wrap64 (1 + t107)))) < t108))) else (some false)) else (some false)) else (some false))) else ((osmosislaw15_known.f).bind fun t112 => (if t112 = true then (some (decide ((wrap64 (1 + t107)) ≥ (wrap64 (t108 - t109))))) else (some false))))) = some r := H
  have A6 := Aside0.mk A60
  clear A60
  replace H := Option.bind_eq_some_iff.mp H
  obtain ⟨t110, A70, H⟩ := H
  replace H : (if t110 = true then ((osmosislaw15_known.f).bind fun t111 => (if t111 = true then (if (wrap64 ((wrap64 ((wrap64 (t108 * t108)) + (wrap64 (t109 * t109)))) - (wrap64 ((wrap64 ((wrap64 (t108 - (wrap64 (1 + t107)))) * (wrap64 (t108 - (wrap64 (1 + t107)))))) + (wrap64 ((wrap64 (t109 + (wrap64 (1 + t107)))) * (wrap64 (t109 + (wrap64 (1 + t107)))))))))) ≥ (wrap64 (2 * (wrap64 (1 + t107)))) then (if (wrap64 (t108 - (wrap64 (1 + t107)))) > t109 then (some (decide ((wrap64 (t109 + (wrap64 (1 + t107)))) < t108))) else (some false)) else (some false)) else (some false))) else ((osmosislaw15_known.f).bind fun t112 => (if t112 = true then (some (decide ((wrap64 (1 + t107)) ≥ (wrap64 (t108 - t109))))) else (some false)))) = some r := H
  have A7 := Aside0.mk A70
  clear A70
  by_cases c8 : t110 = true
  · subst c8
    have H1 : ((osmosislaw15_known.f).bind fun t111 => (if t111 = true then (if (wrap64 ((wrap64 ((wrap64 (t108 * t108)) + (wrap64 (t109 * t109)))) - (wrap64 ((wrap64 ((wrap64 (t108 - (wrap64 (1 + t107)))) * (wrap64 (t108 - (wrap64 (1 + t107)))))) + (wrap64 ((wrap64 (t109 + (wrap64 (1 + t107)))) * (wrap64 (t109 + (wrap64 (1 + t107)))))))))) ≥ (wrap64 (2 * (wrap64 (1 + t107)))) then (if (wrap64 (t108 - (wrap64 (1 + t107)))) > t109 then (some (decide ((wrap64 (t109 + (wrap64 (1 + t107)))) < t108))) else (some false)) else (some false)) else (some false))) = some r := by rw [if_pos rfl] at H; exact H
    clear H
    have H := H1
    clear H1
    replace H := Option.bind_eq_some_iff.mp H
    obtain ⟨t111, A90, H⟩ := H
    replace H : (if t111 = true then (if (wrap64 ((wrap64 ((wrap64 (t108 * t108)) + (wrap64 (t109 * t109)))) - (wrap64 ((wrap64 ((wrap64 (t108 - (wrap64 (1 + t107)))) * (wrap64 (t108 - (wrap64 (1 + t107)))))) + (wrap64 ((wrap64 (t109 + (wrap64 (1 + t107)))) * (wrap64 (t109 + (wrap64 (1 + t107)))))))))) ≥ (wrap64 (2 * (wrap64 (1 + t107)))) then (if (wrap64 (t108 - (wrap64 (1 + t107)))) > t109 then (some (decide ((wrap64 (t109 + (wrap64 (1 + t107)))) < t108))) else (some false)) else (some false)) else (some false)) = some r := H
    have A9 := Aside0.mk A90
    clear A90
    by_cases c10 : t111 = true
    · subst c10
      have H1 : (if (wrap64 ((wrap64 ((wrap64 (t108 * t108)) + (wrap64 (t109 * t109)))) - (wrap64 ((wrap64 ((wrap64 (t108 - (wrap64 (1 + t107)))) * (wrap64 (t108 - (wrap64 (1 + t107)))))) + (wrap64 ((wrap64 (t109 + (wrap64 (1 + t107)))) * (wrap64 (t109 + (wrap64 (1 + t107)))))))))) ≥ (wrap64 (2 * (wrap64 (1 + t107)))) then (if (wrap64 (t108 - (wrap64 (1 + t107)))) > t109 then (some (decide ((wrap64 (t109 + (wrap64 (1 + t107)))) < t108))) else (some false)) else (some false)) = some r := by rw [if_pos rfl] at H; exact H
      clear H
      have H := H1
      clear H1
      by_cases c11 : (wrap64 ((wrap64 ((wrap64 (t108 * t108)) + (wrap64 (t109 * t109)))) - (wrap64 ((wrap64 ((wrap64 (t108 - (wrap64 (1 + t107)))) * (wrap64 (t108 - (wrap64 (1 + t107)))))) + (wrap64 ((wrap64 (t109 + (wrap64 (1 + t107)))) * (wrap64 (t109 + (wrap64 (1 + t107)))))))))) ≥ (wrap64 (2 * (wrap64 (1 + t107))))
      · rw [if_pos c11] at H
        have c11b0 : decide ((wrap64 (2 * (wrap64 (1 + t107)))) ≤ (wrap64 ((wrap64 ((wrap64 (t108 * t108)) + (wrap64 (t109 * t109)))) - (wrap64 ((wrap64 ((wrap64 (t108 - (wrap64 (1 + t107)))) * (wrap64 (t108 - (wrap64 (1 + t107)))))) + (wrap64 ((wrap64 (t109 + (wrap64 (1 + t107)))) * (wrap64 (t109 + (wrap64 (1 + t107))))))))))) = true := decide_eq_true c11
        clear c11
        by_cases c12 : (wrap64 (t108 - (wrap64 (1 + t107)))) > t109
        · rw [if_pos c12] at H
          have c12b0 : decide (t109 < (wrap64 (t108 - (wrap64 (1 + t107))))) = true := decide_eq_true c12
          clear c12
          obtain rfl := Option.some.inj H
          go_enter Try.func3, Try.ntmps3
          go_wp2_with (first | ((with_reducible refine gate_callee (f := 12) rfl ?_); refine goesL_ (some 10) rfl rfl Try.func12 (by kernel_rfl) rfl #[.int .i64 a0, .int .i64 1000] rfl (by (try simp only [List.map_toArray, List.map_cons, List.map_nil]); first | done | rfl | (simp only [List.length_drop, List.length_take]; rfl)) ?_; (with_reducible refine (osmosishand_Pick.calls a0 1000 t107 _ A4.out).mono ?_); rintro e w' ⟨rfl, ⟨nd, rfl⟩⟩; refine ⟨_, rfl, ?_⟩) | ((with_reducible refine gate_callee (f := 12) rfl ?_); refine goesL_ (some 13) rfl rfl Try.func12 (by kernel_rfl) rfl #[.int .i64 a1, .int .i64 20000] rfl (by (try simp only [List.map_toArray, List.map_cons, List.map_nil]); first | done | rfl | (simp only [List.length_drop, List.length_take]; rfl)) ?_; (with_reducible refine (osmosishand_Pick.calls a1 20000 t108 _ A5.out).mono ?_); rintro e w' ⟨rfl, ⟨nd, rfl⟩⟩; refine ⟨_, rfl, ?_⟩) | ((with_reducible refine gate_callee (f := 12) rfl ?_); refine goesL_ (some 15) rfl rfl Try.func12 (by kernel_rfl) rfl #[.int .i64 a2, .int .i64 20000] rfl (by (try simp only [List.map_toArray, List.map_cons, List.map_nil]); first | done | rfl | (simp only [List.length_drop, List.length_take]; rfl)) ?_; (with_reducible refine (osmosishand_Pick.calls a2 20000 t109 _ A6.out).mono ?_); rintro e w' ⟨rfl, ⟨nd, rfl⟩⟩; refine ⟨_, rfl, ?_⟩) | ((with_reducible refine gate_callee (f := 13) rfl ?_); refine goesL_ (some 19) rfl rfl Try.func13 (by kernel_rfl) rfl #[.int .i64 (wrap64 (1 + t107)), .int .i64 t108, .int .i64 t109, .bool false] rfl (by (try simp only [List.map_toArray, List.map_cons, List.map_nil]); first | done | rfl | (simp only [List.length_drop, List.length_take]; rfl)) ?_; (with_reducible refine (donor_Fits.calls (wrap64 (1 + t107)) t108 t109 false true _ A7.out).mono ?_); rintro e w13 ⟨rfl, hb⟩; refine ⟨_, rfl, ?_⟩; have n0_ := Aside0.mk (below_step (by repeat (first | (with_reducible first | exact HB.out | apply below_alloc | apply pw_below_drewN | apply below_drew1) | exact HB.out)) hb); clear HB; have HB := n0_; clear n0_; (try clear hb); (try clear hb2); (try clear hk); (try clear hi)) | ((with_reducible refine gate_callee (f := 14) rfl ?_); refine goesL_ (some 51) rfl rfl Try.func14 (by kernel_rfl) rfl #[] rfl (by (try simp only [List.map_toArray, List.map_cons, List.map_nil]); first | done | rfl | (simp only [List.length_drop, List.length_take]; rfl)) ?_; (with_reducible refine (osmosislaw15_known.calls  true _ A9.out).mono ?_); rintro e w14 ⟨rfl, hb⟩; refine ⟨_, rfl, ?_⟩; have n0_ := Aside0.mk (below_step (by repeat (first | (with_reducible first | exact HB.out | apply below_alloc | apply pw_below_drewN | apply below_drew1) | exact HB.out)) hb); clear HB; have HB := n0_; clear n0_; (try clear hb); (try clear hb2); (try clear hk); (try clear hi)))
          go_ret
          exact ⟨by first | rfl | (simp [errW_none, errW_some] <;> rfl) | (simp [*, errW_none, errW_some] <;> rfl), by repeat (first | (with_reducible first | exact HB.out | apply below_alloc | apply pw_below_drewN | apply below_drew1) | exact HB.out)⟩
        · rw [if_neg c12] at H
          have c12b0 : decide (t109 < (wrap64 (t108 - (wrap64 (1 + t107))))) = false := decide_eq_false c12
          clear c12
          obtain rfl := Option.some.inj H
          go_enter Try.func3, Try.ntmps3
          go_wp2_with (first | ((with_reducible refine gate_callee (f := 12) rfl ?_); refine goesL_ (some 10) rfl rfl Try.func12 (by kernel_rfl) rfl #[.int .i64 a0, .int .i64 1000] rfl (by (try simp only [List.map_toArray, List.map_cons, List.map_nil]); first | done | rfl | (simp only [List.length_drop, List.length_take]; rfl)) ?_; (with_reducible refine (osmosishand_Pick.calls a0 1000 t107 _ A4.out).mono ?_); rintro e w' ⟨rfl, ⟨nd, rfl⟩⟩; refine ⟨_, rfl, ?_⟩) | ((with_reducible refine gate_callee (f := 12) rfl ?_); refine goesL_ (some 13) rfl rfl Try.func12 (by kernel_rfl) rfl #[.int .i64 a1, .int .i64 20000] rfl (by (try simp only [List.map_toArray, List.map_cons, List.map_nil]); first | done | rfl | (simp only [List.length_drop, List.length_take]; rfl)) ?_; (with_reducible refine (osmosishand_Pick.calls a1 20000 t108 _ A5.out).mono ?_); rintro e w' ⟨rfl, ⟨nd, rfl⟩⟩; refine ⟨_, rfl, ?_⟩) | ((with_reducible refine gate_callee (f := 12) rfl ?_); refine goesL_ (some 15) rfl rfl Try.func12 (by kernel_rfl) rfl #[.int .i64 a2, .int .i64 20000] rfl (by (try simp only [List.map_toArray, List.map_cons, List.map_nil]); first | done | rfl | (simp only [List.length_drop, List.length_take]; rfl)) ?_; (with_reducible refine (osmosishand_Pick.calls a2 20000 t109 _ A6.out).mono ?_); rintro e w' ⟨rfl, ⟨nd, rfl⟩⟩; refine ⟨_, rfl, ?_⟩) | ((with_reducible refine gate_callee (f := 13) rfl ?_); refine goesL_ (some 19) rfl rfl Try.func13 (by kernel_rfl) rfl #[.int .i64 (wrap64 (1 + t107)), .int .i64 t108, .int .i64 t109, .bool false] rfl (by (try simp only [List.map_toArray, List.map_cons, List.map_nil]); first | done | rfl | (simp only [List.length_drop, List.length_take]; rfl)) ?_; (with_reducible refine (donor_Fits.calls (wrap64 (1 + t107)) t108 t109 false true _ A7.out).mono ?_); rintro e w15 ⟨rfl, hb⟩; refine ⟨_, rfl, ?_⟩; have n0_ := Aside0.mk (below_step (by repeat (first | (with_reducible first | exact HB.out | apply below_alloc | apply pw_below_drewN | apply below_drew1) | exact HB.out)) hb); clear HB; have HB := n0_; clear n0_; (try clear hb); (try clear hb2); (try clear hk); (try clear hi)) | ((with_reducible refine gate_callee (f := 14) rfl ?_); refine goesL_ (some 51) rfl rfl Try.func14 (by kernel_rfl) rfl #[] rfl (by (try simp only [List.map_toArray, List.map_cons, List.map_nil]); first | done | rfl | (simp only [List.length_drop, List.length_take]; rfl)) ?_; (with_reducible refine (osmosislaw15_known.calls  true _ A9.out).mono ?_); rintro e w16 ⟨rfl, hb⟩; refine ⟨_, rfl, ?_⟩; have n0_ := Aside0.mk (below_step (by repeat (first | (with_reducible first | exact HB.out | apply below_alloc | apply pw_below_drewN | apply below_drew1) | exact HB.out)) hb); clear HB; have HB := n0_; clear n0_; (try clear hb); (try clear hb2); (try clear hk); (try clear hi)))
          go_ret
          exact ⟨by first | rfl | (simp [errW_none, errW_some] <;> rfl) | (simp [*, errW_none, errW_some] <;> rfl), by repeat (first | (with_reducible first | exact HB.out | apply below_alloc | apply pw_below_drewN | apply below_drew1) | exact HB.out)⟩
      · rw [if_neg c11] at H
        have c11b0 : decide ((wrap64 (2 * (wrap64 (1 + t107)))) ≤ (wrap64 ((wrap64 ((wrap64 (t108 * t108)) + (wrap64 (t109 * t109)))) - (wrap64 ((wrap64 ((wrap64 (t108 - (wrap64 (1 + t107)))) * (wrap64 (t108 - (wrap64 (1 + t107)))))) + (wrap64 ((wrap64 (t109 + (wrap64 (1 + t107)))) * (wrap64 (t109 + (wrap64 (1 + t107))))))))))) = false := decide_eq_false c11
        clear c11
        obtain rfl := Option.some.inj H
        go_enter Try.func3, Try.ntmps3
        go_wp2_with (first | ((with_reducible refine gate_callee (f := 12) rfl ?_); refine goesL_ (some 10) rfl rfl Try.func12 (by kernel_rfl) rfl #[.int .i64 a0, .int .i64 1000] rfl (by (try simp only [List.map_toArray, List.map_cons, List.map_nil]); first | done | rfl | (simp only [List.length_drop, List.length_take]; rfl)) ?_; (with_reducible refine (osmosishand_Pick.calls a0 1000 t107 _ A4.out).mono ?_); rintro e w' ⟨rfl, ⟨nd, rfl⟩⟩; refine ⟨_, rfl, ?_⟩) | ((with_reducible refine gate_callee (f := 12) rfl ?_); refine goesL_ (some 13) rfl rfl Try.func12 (by kernel_rfl) rfl #[.int .i64 a1, .int .i64 20000] rfl (by (try simp only [List.map_toArray, List.map_cons, List.map_nil]); first | done | rfl | (simp only [List.length_drop, List.length_take]; rfl)) ?_; (with_reducible refine (osmosishand_Pick.calls a1 20000 t108 _ A5.out).mono ?_); rintro e w' ⟨rfl, ⟨nd, rfl⟩⟩; refine ⟨_, rfl, ?_⟩) | ((with_reducible refine gate_callee (f := 12) rfl ?_); refine goesL_ (some 15) rfl rfl Try.func12 (by kernel_rfl) rfl #[.int .i64 a2, .int .i64 20000] rfl (by (try simp only [List.map_toArray, List.map_cons, List.map_nil]); first | done | rfl | (simp only [List.length_drop, List.length_take]; rfl)) ?_; (with_reducible refine (osmosishand_Pick.calls a2 20000 t109 _ A6.out).mono ?_); rintro e w' ⟨rfl, ⟨nd, rfl⟩⟩; refine ⟨_, rfl, ?_⟩) | ((with_reducible refine gate_callee (f := 13) rfl ?_); refine goesL_ (some 19) rfl rfl Try.func13 (by kernel_rfl) rfl #[.int .i64 (wrap64 (1 + t107)), .int .i64 t108, .int .i64 t109, .bool false] rfl (by (try simp only [List.map_toArray, List.map_cons, List.map_nil]); first | done | rfl | (simp only [List.length_drop, List.length_take]; rfl)) ?_; (with_reducible refine (donor_Fits.calls (wrap64 (1 + t107)) t108 t109 false true _ A7.out).mono ?_); rintro e w17 ⟨rfl, hb⟩; refine ⟨_, rfl, ?_⟩; have n0_ := Aside0.mk (below_step (by repeat (first | (with_reducible first | exact HB.out | apply below_alloc | apply pw_below_drewN | apply below_drew1) | exact HB.out)) hb); clear HB; have HB := n0_; clear n0_; (try clear hb); (try clear hb2); (try clear hk); (try clear hi)) | ((with_reducible refine gate_callee (f := 14) rfl ?_); refine goesL_ (some 51) rfl rfl Try.func14 (by kernel_rfl) rfl #[] rfl (by (try simp only [List.map_toArray, List.map_cons, List.map_nil]); first | done | rfl | (simp only [List.length_drop, List.length_take]; rfl)) ?_; (with_reducible refine (osmosislaw15_known.calls  true _ A9.out).mono ?_); rintro e w18 ⟨rfl, hb⟩; refine ⟨_, rfl, ?_⟩; have n0_ := Aside0.mk (below_step (by repeat (first | (with_reducible first | exact HB.out | apply below_alloc | apply pw_below_drewN | apply below_drew1) | exact HB.out)) hb); clear HB; have HB := n0_; clear n0_; (try clear hb); (try clear hb2); (try clear hk); (try clear hi)))
        go_ret
        exact ⟨by first | rfl | (simp [errW_none, errW_some] <;> rfl) | (simp [*, errW_none, errW_some] <;> rfl), by repeat (first | (with_reducible first | exact HB.out | apply below_alloc | apply pw_below_drewN | apply below_drew1) | exact HB.out)⟩
    · replace c10 := Bool.eq_false_iff.mpr c10
      subst c10
      have H1 : (some false) = some r := by rw [if_neg (show ¬ (false = true) by decide)] at H; exact H
      clear H
      have H := H1
      clear H1
      obtain rfl := Option.some.inj H
      go_enter Try.func3, Try.ntmps3
      go_wp2_with (first | ((with_reducible refine gate_callee (f := 12) rfl ?_); refine goesL_ (some 10) rfl rfl Try.func12 (by kernel_rfl) rfl #[.int .i64 a0, .int .i64 1000] rfl (by (try simp only [List.map_toArray, List.map_cons, List.map_nil]); first | done | rfl | (simp only [List.length_drop, List.length_take]; rfl)) ?_; (with_reducible refine (osmosishand_Pick.calls a0 1000 t107 _ A4.out).mono ?_); rintro e w' ⟨rfl, ⟨nd, rfl⟩⟩; refine ⟨_, rfl, ?_⟩) | ((with_reducible refine gate_callee (f := 12) rfl ?_); refine goesL_ (some 13) rfl rfl Try.func12 (by kernel_rfl) rfl #[.int .i64 a1, .int .i64 20000] rfl (by (try simp only [List.map_toArray, List.map_cons, List.map_nil]); first | done | rfl | (simp only [List.length_drop, List.length_take]; rfl)) ?_; (with_reducible refine (osmosishand_Pick.calls a1 20000 t108 _ A5.out).mono ?_); rintro e w' ⟨rfl, ⟨nd, rfl⟩⟩; refine ⟨_, rfl, ?_⟩) | ((with_reducible refine gate_callee (f := 12) rfl ?_); refine goesL_ (some 15) rfl rfl Try.func12 (by kernel_rfl) rfl #[.int .i64 a2, .int .i64 20000] rfl (by (try simp only [List.map_toArray, List.map_cons, List.map_nil]); first | done | rfl | (simp only [List.length_drop, List.length_take]; rfl)) ?_; (with_reducible refine (osmosishand_Pick.calls a2 20000 t109 _ A6.out).mono ?_); rintro e w' ⟨rfl, ⟨nd, rfl⟩⟩; refine ⟨_, rfl, ?_⟩) | ((with_reducible refine gate_callee (f := 13) rfl ?_); refine goesL_ (some 19) rfl rfl Try.func13 (by kernel_rfl) rfl #[.int .i64 (wrap64 (1 + t107)), .int .i64 t108, .int .i64 t109, .bool false] rfl (by (try simp only [List.map_toArray, List.map_cons, List.map_nil]); first | done | rfl | (simp only [List.length_drop, List.length_take]; rfl)) ?_; (with_reducible refine (donor_Fits.calls (wrap64 (1 + t107)) t108 t109 false true _ A7.out).mono ?_); rintro e w19 ⟨rfl, hb⟩; refine ⟨_, rfl, ?_⟩; have n0_ := Aside0.mk (below_step (by repeat (first | (with_reducible first | exact HB.out | apply below_alloc | apply pw_below_drewN | apply below_drew1) | exact HB.out)) hb); clear HB; have HB := n0_; clear n0_; (try clear hb); (try clear hb2); (try clear hk); (try clear hi)) | ((with_reducible refine gate_callee (f := 14) rfl ?_); refine goesL_ (some 51) rfl rfl Try.func14 (by kernel_rfl) rfl #[] rfl (by (try simp only [List.map_toArray, List.map_cons, List.map_nil]); first | done | rfl | (simp only [List.length_drop, List.length_take]; rfl)) ?_; (with_reducible refine (osmosislaw15_known.calls  false _ A9.out).mono ?_); rintro e w20 ⟨rfl, hb⟩; refine ⟨_, rfl, ?_⟩; have n0_ := Aside0.mk (below_step (by repeat (first | (with_reducible first | exact HB.out | apply below_alloc | apply pw_below_drewN | apply below_drew1) | exact HB.out)) hb); clear HB; have HB := n0_; clear n0_; (try clear hb); (try clear hb2); (try clear hk); (try clear hi)))
      go_ret
      exact ⟨by first | rfl | (simp [errW_none, errW_some] <;> rfl) | (simp [*, errW_none, errW_some] <;> rfl), by repeat (first | (with_reducible first | exact HB.out | apply below_alloc | apply pw_below_drewN | apply below_drew1) | exact HB.out)⟩
  · replace c8 := Bool.eq_false_iff.mpr c8
    subst c8
    have H1 : ((osmosislaw15_known.f).bind fun t112 => (if t112 = true then (some (decide ((wrap64 (1 + t107)) ≥ (wrap64 (t108 - t109))))) else (some false))) = some r := by rw [if_neg (show ¬ (false = true) by decide)] at H; exact H
    clear H
    have H := H1
    clear H1
    replace H := Option.bind_eq_some_iff.mp H
    obtain ⟨t112, A210, H⟩ := H
    replace H : (if t112 = true then (some (decide ((wrap64 (1 + t107)) ≥ (wrap64 (t108 - t109))))) else (some false)) = some r := H
    have A21 := Aside0.mk A210
    clear A210
    by_cases c22 : t112 = true
    · subst c22
      have H1 : (some (decide ((wrap64 (1 + t107)) ≥ (wrap64 (t108 - t109))))) = some r := by rw [if_pos rfl] at H; exact H
      clear H
      have H := H1
      clear H1
      obtain rfl := Option.some.inj H
      go_enter Try.func3, Try.ntmps3
      go_wp2_with (first | ((with_reducible refine gate_callee (f := 12) rfl ?_); refine goesL_ (some 10) rfl rfl Try.func12 (by kernel_rfl) rfl #[.int .i64 a0, .int .i64 1000] rfl (by (try simp only [List.map_toArray, List.map_cons, List.map_nil]); first | done | rfl | (simp only [List.length_drop, List.length_take]; rfl)) ?_; (with_reducible refine (osmosishand_Pick.calls a0 1000 t107 _ A4.out).mono ?_); rintro e w' ⟨rfl, ⟨nd, rfl⟩⟩; refine ⟨_, rfl, ?_⟩) | ((with_reducible refine gate_callee (f := 12) rfl ?_); refine goesL_ (some 13) rfl rfl Try.func12 (by kernel_rfl) rfl #[.int .i64 a1, .int .i64 20000] rfl (by (try simp only [List.map_toArray, List.map_cons, List.map_nil]); first | done | rfl | (simp only [List.length_drop, List.length_take]; rfl)) ?_; (with_reducible refine (osmosishand_Pick.calls a1 20000 t108 _ A5.out).mono ?_); rintro e w' ⟨rfl, ⟨nd, rfl⟩⟩; refine ⟨_, rfl, ?_⟩) | ((with_reducible refine gate_callee (f := 12) rfl ?_); refine goesL_ (some 15) rfl rfl Try.func12 (by kernel_rfl) rfl #[.int .i64 a2, .int .i64 20000] rfl (by (try simp only [List.map_toArray, List.map_cons, List.map_nil]); first | done | rfl | (simp only [List.length_drop, List.length_take]; rfl)) ?_; (with_reducible refine (osmosishand_Pick.calls a2 20000 t109 _ A6.out).mono ?_); rintro e w' ⟨rfl, ⟨nd, rfl⟩⟩; refine ⟨_, rfl, ?_⟩) | ((with_reducible refine gate_callee (f := 13) rfl ?_); refine goesL_ (some 19) rfl rfl Try.func13 (by kernel_rfl) rfl #[.int .i64 (wrap64 (1 + t107)), .int .i64 t108, .int .i64 t109, .bool false] rfl (by (try simp only [List.map_toArray, List.map_cons, List.map_nil]); first | done | rfl | (simp only [List.length_drop, List.length_take]; rfl)) ?_; (with_reducible refine (donor_Fits.calls (wrap64 (1 + t107)) t108 t109 false false _ A7.out).mono ?_); rintro e w23 ⟨rfl, hb⟩; refine ⟨_, rfl, ?_⟩; have n0_ := Aside0.mk (below_step (by repeat (first | (with_reducible first | exact HB.out | apply below_alloc | apply pw_below_drewN | apply below_drew1) | exact HB.out)) hb); clear HB; have HB := n0_; clear n0_; (try clear hb); (try clear hb2); (try clear hk); (try clear hi)) | ((with_reducible refine gate_callee (f := 14) rfl ?_); refine goesL_ (some 21) rfl rfl Try.func14 (by kernel_rfl) rfl #[] rfl (by (try simp only [List.map_toArray, List.map_cons, List.map_nil]); first | done | rfl | (simp only [List.length_drop, List.length_take]; rfl)) ?_; (with_reducible refine (osmosislaw15_known.calls  true _ A21.out).mono ?_); rintro e w24 ⟨rfl, hb⟩; refine ⟨_, rfl, ?_⟩; have n0_ := Aside0.mk (below_step (by repeat (first | (with_reducible first | exact HB.out | apply below_alloc | apply pw_below_drewN | apply below_drew1) | exact HB.out)) hb); clear HB; have HB := n0_; clear n0_; (try clear hb); (try clear hb2); (try clear hk); (try clear hi)))
      go_ret
      exact ⟨by first | rfl | (simp [errW_none, errW_some] <;> rfl) | (simp [*, errW_none, errW_some] <;> rfl), by repeat (first | (with_reducible first | exact HB.out | apply below_alloc | apply pw_below_drewN | apply below_drew1) | exact HB.out)⟩
    · replace c22 := Bool.eq_false_iff.mpr c22
      subst c22
      have H1 : (some false) = some r := by rw [if_neg (show ¬ (false = true) by decide)] at H; exact H
      clear H
      have H := H1
      clear H1
      obtain rfl := Option.some.inj H
      go_enter Try.func3, Try.ntmps3
      go_wp2_with (first | ((with_reducible refine gate_callee (f := 12) rfl ?_); refine goesL_ (some 10) rfl rfl Try.func12 (by kernel_rfl) rfl #[.int .i64 a0, .int .i64 1000] rfl (by (try simp only [List.map_toArray, List.map_cons, List.map_nil]); first | done | rfl | (simp only [List.length_drop, List.length_take]; rfl)) ?_; (with_reducible refine (osmosishand_Pick.calls a0 1000 t107 _ A4.out).mono ?_); rintro e w' ⟨rfl, ⟨nd, rfl⟩⟩; refine ⟨_, rfl, ?_⟩) | ((with_reducible refine gate_callee (f := 12) rfl ?_); refine goesL_ (some 13) rfl rfl Try.func12 (by kernel_rfl) rfl #[.int .i64 a1, .int .i64 20000] rfl (by (try simp only [List.map_toArray, List.map_cons, List.map_nil]); first | done | rfl | (simp only [List.length_drop, List.length_take]; rfl)) ?_; (with_reducible refine (osmosishand_Pick.calls a1 20000 t108 _ A5.out).mono ?_); rintro e w' ⟨rfl, ⟨nd, rfl⟩⟩; refine ⟨_, rfl, ?_⟩) | ((with_reducible refine gate_callee (f := 12) rfl ?_); refine goesL_ (some 15) rfl rfl Try.func12 (by kernel_rfl) rfl #[.int .i64 a2, .int .i64 20000] rfl (by (try simp only [List.map_toArray, List.map_cons, List.map_nil]); first | done | rfl | (simp only [List.length_drop, List.length_take]; rfl)) ?_; (with_reducible refine (osmosishand_Pick.calls a2 20000 t109 _ A6.out).mono ?_); rintro e w' ⟨rfl, ⟨nd, rfl⟩⟩; refine ⟨_, rfl, ?_⟩) | ((with_reducible refine gate_callee (f := 13) rfl ?_); refine goesL_ (some 19) rfl rfl Try.func13 (by kernel_rfl) rfl #[.int .i64 (wrap64 (1 + t107)), .int .i64 t108, .int .i64 t109, .bool false] rfl (by (try simp only [List.map_toArray, List.map_cons, List.map_nil]); first | done | rfl | (simp only [List.length_drop, List.length_take]; rfl)) ?_; (with_reducible refine (donor_Fits.calls (wrap64 (1 + t107)) t108 t109 false false _ A7.out).mono ?_); rintro e w25 ⟨rfl, hb⟩; refine ⟨_, rfl, ?_⟩; have n0_ := Aside0.mk (below_step (by repeat (first | (with_reducible first | exact HB.out | apply below_alloc | apply pw_below_drewN | apply below_drew1) | exact HB.out)) hb); clear HB; have HB := n0_; clear n0_; (try clear hb); (try clear hb2); (try clear hk); (try clear hi)) | ((with_reducible refine gate_callee (f := 14) rfl ?_); refine goesL_ (some 21) rfl rfl Try.func14 (by kernel_rfl) rfl #[] rfl (by (try simp only [List.map_toArray, List.map_cons, List.map_nil]); first | done | rfl | (simp only [List.length_drop, List.length_take]; rfl)) ?_; (with_reducible refine (osmosislaw15_known.calls  false _ A21.out).mono ?_); rintro e w26 ⟨rfl, hb⟩; refine ⟨_, rfl, ?_⟩; have n0_ := Aside0.mk (below_step (by repeat (first | (with_reducible first | exact HB.out | apply below_alloc | apply pw_below_drewN | apply below_drew1) | exact HB.out)) hb); clear HB; have HB := n0_; clear n0_; (try clear hb); (try clear hb2); (try clear hk); (try clear hi)))
      go_ret
      exact ⟨by first | rfl | (simp [errW_none, errW_some] <;> rfl) | (simp [*, errW_none, errW_some] <;> rfl), by repeat (first | (with_reducible first | exact HB.out | apply below_alloc | apply pw_below_drewN | apply below_drew1) | exact HB.out)⟩

/-- THE ONE PURE STATEMENT of osmosislaw15_DonorLowers: yours. -/
def osmosislaw15_DonorLowers.Pure : Prop := ∀ (a0 : Int) (a1 : Int) (a2 : Int), (Lit.int .i64 a0).wf = true → (Lit.int .i64 a1).wf = true → (Lit.int .i64 a2).wf = true → osmosislaw15_DonorLowers.f a0 a1 a2 = some true
theorem osmosislaw15_DonorLowers.walk (P : osmosislaw15_DonorLowers.Pure) (a0 : Int) (a1 : Int) (a2 : Int) (w : World) (w0 : (Lit.int .i64 a0).wf = true) (w1 : (Lit.int .i64 a1).wf = true) (w2 : (Lit.int .i64 a2).wf = true) :
    Calls Try.prog 3 #[.int .i64 a0, .int .i64 a1, .int .i64 a2] w fun e w' => e = .returned (.bool true) ∧ Below w.heap.size w w' := by
  have h := P a0 a1 a2 w0 w1 w2
  refine (osmosislaw15_DonorLowers.calls a0 a1 a2 true w h).mono ?_
  rintro e w' ⟨rfl, hd⟩
  exact ⟨rfl, hd⟩

end Go.Proofs.Ytabmkefbceepmaa.PDonorLowers
