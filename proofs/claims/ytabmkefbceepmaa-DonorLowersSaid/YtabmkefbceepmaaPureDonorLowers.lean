/- DonorLowers: for every three whole numbers a gift that fits lowers the sum of the loads' squares by twice its weight at least, and both loads lie between what they were; no condition but that the numbers are int's. -/
import Derived.Test.YtabmkefbceepmaaPDonorLowersx1
namespace Go.Proofs.Ytabmkefbceepmaa.Pure
open Go.RowKit Go.Proofs.Ytabmkefbceepmaa.PDonorLowers Go.Proofs.YtabmkefbceepmaaW.PrintWords Go.Proofs.YtabmkefbceepmaaW.PrintLast

theorem wrap_in {n : Int} (h0 : -9223372036854775808 ≤ n) (h1 : n ≤ 9223372036854775807) : wrap64 n = n := by
  unfold wrap64; omega

theorem pick_some (a m : Int) (hm : 0 < m) (hm2 : m ≤ 100000) : ∃ r, osmosishand_Pick.f a m = some r ∧ 0 ≤ r ∧ r < m := by
  unfold osmosishand_Pick.f
  rw [if_neg (by omega)]
  have h1 : Int.tmod a m < m := Int.tmod_lt_of_pos a hm
  have h2 : -m < Int.tmod a m := by
    rcases Int.le_total 0 a with h | h
    · have := Int.tmod_nonneg (b := m) h; omega
    · have h3 : Int.tmod (-a) m < m := Int.tmod_lt_of_pos (-a) hm
      rw [Int.neg_tmod] at h3; omega
  by_cases hneg : Int.tmod a m < 0
  · rw [if_pos hneg, wrap_in (by omega) (by omega)]
    exact ⟨_, rfl, by omega, by omega⟩
  · rw [if_neg hneg]
    exact ⟨_, rfl, by omega, by omega⟩

theorem within_eq {n : Int} (h0 : 0 ≤ n) (h1 : n ≤ 100000) : donor_within.f n = some n := by
  unfold donor_within.f mx mn
  congr 1
  omega

theorem fits_eq {w l o : Int} (hw : 0 ≤ w) (hw2 : w ≤ 100000) (hl : 0 ≤ l) (hl2 : l ≤ 100000) (ho : 0 ≤ o) (ho2 : o ≤ 100000) :
    donor_Fits.f w l o false = some (decide (w < l - o)) := by
  unfold donor_Fits.f
  rw [if_neg (by simp), within_eq hw hw2, within_eq hl hl2, within_eq ho ho2]
  simp only [Option.bind_some]
  rw [wrap_in (by omega) (by omega)]

theorem known_eq : osmosislaw15_known.f = some true := by decide +kernel

theorem square {x : Int} (h0 : 0 ≤ x) (h1 : x ≤ 100000) : 0 ≤ x * x ∧ x * x ≤ 10000000000 := by
  constructor
  · exact Int.mul_nonneg h0 h0
  · exact Int.le_trans (Int.mul_le_mul h1 h1 h0 (by omega)) (by omega)

theorem gain {w l o : Int} (hw : 1 ≤ w) (h : w < l - o) : (l * l + o * o) - ((l - w) * (l - w) + (o + w) * (o + w)) ≥ 2 * w := by
  obtain ⟨d, rfl⟩ : ∃ d, l = o + w + d := ⟨l - o - w, by omega⟩
  have hd : 1 ≤ d := by omega
  have h1 : (o + w + d) * (o + w + d) + o * o - ((o + w + d - w) * (o + w + d - w) + (o + w) * (o + w)) = 2 * (w * d) := by
    have : o + w + d - w = o + d := by omega
    rw [this]
    simp only [Int.add_mul, Int.mul_add]
    rw [Int.mul_comm w o, Int.mul_comm d o, Int.mul_comm d w]
    omega
  rw [h1]
  have h2 : w * 1 ≤ w * d := Int.mul_le_mul_of_nonneg_left hd (by omega)
  omega

theorem DonorLowers : osmosislaw15_DonorLowers.Pure := by
  intro a0 a1 a2 _ _ _
  obtain ⟨w, ew, hw0, hw1⟩ := pick_some a0 1000 (by omega) (by omega)
  obtain ⟨l, el, hl0, hl1⟩ := pick_some a1 20000 (by omega) (by omega)
  obtain ⟨o, eo, ho0, ho1⟩ := pick_some a2 20000 (by omega) (by omega)
  unfold osmosislaw15_DonorLowers.f
  rw [ew, el, eo]
  simp only [Option.bind_some]
  rw [wrap_in (n := 1 + w) (by omega) (by omega), fits_eq (by omega) (by omega) hl0 (by omega) ho0 (by omega)]
  simp only [Option.bind_some]
  rw [known_eq]
  simp only [Option.bind_some, if_true]
  by_cases h : 1 + w < l - o
  · rw [if_pos (by simpa using h)]
    have s1 := square hl0 (by omega)
    have s2 := square ho0 (by omega)
    have s3 := square (x := l - (1 + w)) (by omega) (by omega)
    have s4 := square (x := o + (1 + w)) (by omega) (by omega)
    have g := gain (w := 1 + w) (by omega) h
    rw [wrap_in (n := l - (1 + w)) (by omega) (by omega), wrap_in (n := o + (1 + w)) (by omega) (by omega), wrap_in (n := l * l) (by omega) (by omega),
      wrap_in (n := o * o) (by omega) (by omega), wrap_in (n := (l - (1 + w)) * (l - (1 + w))) (by omega) (by omega), wrap_in (n := (o + (1 + w)) * (o + (1 + w))) (by omega) (by omega),
      wrap_in (n := l * l + o * o) (by omega) (by omega), wrap_in (n := (l - (1 + w)) * (l - (1 + w)) + (o + (1 + w)) * (o + (1 + w))) (by omega) (by omega),
      wrap_in (n := 2 * (1 + w)) (by omega) (by omega)]
    rw [wrap_in (by omega) (by omega), if_pos g, if_pos (by omega)]
    simp; omega
  · rw [if_neg (by simpa using h), wrap_in (n := l - o) (by omega) (by omega)]
    simp; omega

end Go.Proofs.Ytabmkefbceepmaa.Pure
