/- Layer 15: fair.Cost, and the reference's. -/
import Derived.Test.YtcgddfpfmnpaeaaE
import Derived.Test.YtcgddfpfmnpaeaaB
namespace Go.Proofs.Ytcgddfpfmnpaeaa
open Go.RowKit

def costBad (w u : Int) : Bool := decide (w < 1 ∨ 16 < w ∨ u < 0)
def costFits (w u : Int) : Bool := decide (u * (720720 / w) ≤ maxTag)
def costV (w u : Int) : Int := if costBad w u then 0 else if costFits w u then u * (720720 / w) else 0
def costE (w u : Int) : Int := if costBad w u then 1 else if costFits w u then 0 else 4

theorem cost_bad {w u : Int} (h : w < 1 ∨ 16 < w ∨ u < 0) : costV w u = 0 ∧ costE w u = 1 := by
  have : costBad w u = true := by unfold costBad; simpa using h
  unfold costV costE; simp [this]
theorem cost_fits {w u : Int} (h1 : 1 ≤ w) (h2 : w ≤ 16) (h3 : 0 ≤ u) (h : u * (720720 / w) ≤ 1152921504606846976) : costV w u = u * (720720 / w) ∧ costE w u = 0 := by
  have hb : costBad w u = false := by unfold costBad; simp; omega
  have hf : costFits w u = true := by unfold costFits maxTag; simpa using h
  unfold costV costE; simp [hb, hf]
theorem cost_large {w u : Int} (h1 : 1 ≤ w) (h2 : w ≤ 16) (h3 : 0 ≤ u) (h : 1152921504606846976 < u * (720720 / w)) : costV w u = 0 ∧ costE w u = 4 := by
  have hb : costBad w u = false := by unfold costBad; simp; omega
  have hf : costFits w u = false := by unfold costFits maxTag; simpa using h
  unfold costV costE; simp [hb, hf]
theorem one_pos {w : Int} (h1 : 1 ≤ w) (h2 : w ≤ 16) : 45045 ≤ 720720 / w ∧ 720720 / w ≤ 720720 := by
  have a : (720720 / 16 : Int) ≤ 720720 / w := by
    rw [Int.le_ediv_iff_mul_le (by omega)]; omega
  have b : 720720 / w ≤ 720720 := Int.ediv_le_self _ (by omega)
  omega
theorem I64_one {w : Int} (h1 : 1 ≤ w) (h2 : w ≤ 16) : I64 (720720 / w) := by
  have := one_pos h1 h2; unfold I64; omega
theorem mul_nonneg_one {w u : Int} (h1 : 1 ≤ w) (h2 : w ≤ 16) (h3 : 0 ≤ u) : 0 ≤ u * (720720 / w) := Int.mul_nonneg h3 (by have := one_pos h1 h2; omega)

set_option maxHeartbeats 1000000 in
theorem cost_bad_any (w u : Int) (h : w < 1 ∨ 16 < w ∨ u < 0) (W : World) :
    Calls Try.prog 15 #[.int .i64 w, .int .i64 u] W fun e w' => e = .returned (.tuple #[.int .i64 (costV w u), .int .i64 (costE w u)]) ∧ Below W.heap.size W w' := by
  have hc := Lib.hid (cost_bad h)
  by_cases h1 : w < 1
  · go_enter Try.func15, Try.ntmps15
    go_wp2_with fail
    go_ret2
    exact ⟨ret_int2 hc.out.1.symm hc.out.2.symm, Below.refl _ _⟩
  · by_cases h2 : 16 < w
    · go_enter Try.func15, Try.ntmps15
      go_wp2_with fail
      go_ret2
      exact ⟨ret_int2 hc.out.1.symm hc.out.2.symm, Below.refl _ _⟩
    · have h3 : u < 0 := by omega
      go_enter Try.func15, Try.ntmps15
      go_wp2_with fail
      go_ret2
      exact ⟨ret_int2 hc.out.1.symm hc.out.2.symm, Below.refl _ _⟩
theorem mulV_le {a b : Int} (h : mulOk a b = true) : mulV a b = a * b := by unfold mulV; rw [if_pos h]
set_option maxHeartbeats 1000000 in
theorem cost_good_any (w u : Int) (h1 : 1 ≤ w) (h2 : w ≤ 16) (h3 : 0 ≤ u) (hu : I64 u) (W : World) :
    Calls Try.prog 15 #[.int .i64 w, .int .i64 u] W fun e w' => e = .returned (.tuple #[.int .i64 (costV w u), .int .i64 (costE w u)]) ∧ Below W.heap.size W w' := by
  have hm := fun W => mul_any u (720720 / w) hu (I64_one h1 h2) W
  have hn := mul_nonneg_one h1 h2 h3
  clear hu
  cases hok : mulOk u (720720 / w)
  · have h4 := mulV_no hok
    rw [h4.1, h4.2] at hm
    have hl : costV w u = 0 ∧ costE w u = 4 := cost_large h1 h2 h3 (by unfold mulOk at hok; rw [decide_eq_false_iff_not] at hok; omega)
    have HL := Lib.hid hl
    clear hl hok h4 hn
    go_enter Try.func15, Try.ntmps15
    go_wp2_with (go_at_call 29; refine (hm _).mono ?_; rintro e w1 ⟨rfl, hb1⟩)
    go_ret2
    exact ⟨ret_int2 HL.out.1.symm HL.out.2.symm, hb1⟩
  · rw [mulV_le hok, mulE_yes hok] at hm
    clear hok
    have HF := Lib.hid (@cost_fits w u h1 h2 h3)
    have HL := Lib.hid (@cost_large w u h1 h2 h3)
    generalize u * (720720 / w) = c at *
    go_enter Try.func15, Try.ntmps15
    go_wp2_with (go_at_call 29; refine (hm _).mono ?_; rintro e w1 ⟨rfl, hb1⟩)
    · go_ret2
      have h := HL.out (by assumption)
      exact ⟨ret_int2 h.1.symm h.2.symm, hb1⟩
    · go_ret2
      have h := HF.out (by assumption)
      exact ⟨ret_int2 h.1.symm h.2.symm, hb1⟩

theorem cost_any (w u : Int) (hu : I64 u) (W : World) :
    Calls Try.prog 15 #[.int .i64 w, .int .i64 u] W fun e w' => e = .returned (.tuple #[.int .i64 (costV w u), .int .i64 (costE w u)]) ∧ Below W.heap.size W w' := by
  by_cases h : w < 1 ∨ 16 < w ∨ u < 0
  · exact cost_bad_any w u h W
  · exact cost_good_any w u (by omega) (by omega) (by omega) hu W

/-! the reference's -/
theorem ref_fits {w u : Int} (h1 : 1 ≤ w) (h2 : w ≤ 16) (h : u ≤ 1152921504606846976 / (720720 / w)) : u * (720720 / w) ≤ 1152921504606846976 := by
  have := one_pos h1 h2
  rwa [Int.le_ediv_iff_mul_le (by omega)] at h
theorem ref_large {w u : Int} (h1 : 1 ≤ w) (h2 : w ≤ 16) (h : 1152921504606846976 / (720720 / w) < u) : 1152921504606846976 < u * (720720 / w) := by
  have := one_pos h1 h2
  rwa [Int.ediv_lt_iff_lt_mul (by omega)] at h
theorem wrap_small {c : Int} (h0 : 0 ≤ c) (h : c ≤ 1152921504606846976) : wrap64 c = c := by unfold wrap64; omega
set_option maxHeartbeats 1000000 in
theorem refCost_any (w u : Int) (W : World) :
    Calls Try.prog 22 #[.int .i64 w, .int .i64 u] W fun e w' => e = .returned (.tuple #[.int .i64 (costV w u), .int .i64 (costE w u)]) ∧ W = w' := by
  by_cases h1 : w < 1
  · have hc := Lib.hid (@cost_bad w u (by omega))
    go_enter Try.func22, Try.ntmps22
    go_wp2_with fail
    go_ret2
    exact ⟨ret_int2 hc.out.1.symm hc.out.2.symm, rfl⟩
  · by_cases h2 : 16 < w
    · have hc := Lib.hid (@cost_bad w u (by omega))
      go_enter Try.func22, Try.ntmps22
      go_wp2_with fail
      go_ret2
      exact ⟨ret_int2 hc.out.1.symm hc.out.2.symm, rfl⟩
    · by_cases h3 : u < 0
      · have hc := Lib.hid (@cost_bad w u (by omega))
        go_enter Try.func22, Try.ntmps22
        go_wp2_with fail
        go_ret2
        exact ⟨ret_int2 hc.out.1.symm hc.out.2.symm, rfl⟩
      · have h1' : 1 ≤ w := by omega
        have h2' : w ≤ 16 := by omega
        have h3' : 0 ≤ u := by omega
        have HO := one_pos h1' h2'
        clear h1 h2 h3
        go_enter Try.func22, Try.ntmps22
        go_wp2_with fail
        · go_ret2
          have h := cost_large h1' h2' h3' (ref_large h1' h2' (by assumption))
          exact ⟨ret_int2 h.1.symm h.2.symm, rfl⟩
        · go_ret2
          have hf := ref_fits h1' h2' (by assumption)
          have h := cost_fits h1' h2' h3' hf
          exact ⟨ret_int2 ((wrap_small (mul_nonneg_one h1' h2' h3') hf).trans h.1.symm) h.2.symm, rfl⟩
end Go.Proofs.Ytcgddfpfmnpaeaa
