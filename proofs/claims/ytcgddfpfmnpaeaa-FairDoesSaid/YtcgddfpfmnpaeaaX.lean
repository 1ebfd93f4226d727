/- Layer 15: == of tenants. -/
import Derived.Test.YtcgddfpfmnpaeaaJ
namespace Go.Proofs.Ytcgddfpfmnpaeaa
open Go.RowKit
theorem ten_eq_iff (x y : Ten) : x = y ↔ x.w = y.w ∧ x.q = y.q ∧ x.l = y.l ∧ x.t = y.t ∧ x.r = y.r := by
  obtain ⟨a, b, c, d, e⟩ := x
  obtain ⟨a', b', c', d', e'⟩ := y
  simp only [Ten.mk.injEq]
theorem neq_run (x y : Ten) (W : World) : (binOp .neq 34 (.agg #[.int .i64 x.w, .int .i64 x.q, .int .i64 x.l, .int .i64 x.t, .int .i64 x.r]) (.agg #[.int .i64 y.w, .int .i64 y.q, .int .i64 y.l, .int .i64 y.t, .int .i64 y.r])).run Try.prog W = .ok (.bool (!decide (x = y))) W := by
  have hi := ten_eq_iff x y
  by_cases h1 : x.w = y.w
  · by_cases h2 : x.q = y.q
    · by_cases h3 : x.l = y.l
      · by_cases h4 : x.t = y.t
        · by_cases h5 : x.r = y.r
          · have : decide (x = y) = true := by rw [decide_eq_true_eq, hi]; exact ⟨h1, h2, h3, h4, h5⟩
            rw [this]; simp [go_sem, h1, h2, h3, h4, h5]
          · have : decide (x = y) = false := by rw [decide_eq_false_iff_not, hi]; simp [h5]
            rw [this]; simp [go_sem, h1, h2, h3, h4, h5]
        · have : decide (x = y) = false := by rw [decide_eq_false_iff_not, hi]; simp [h4]
          rw [this]; simp [go_sem, h1, h2, h3, h4]
      · have : decide (x = y) = false := by rw [decide_eq_false_iff_not, hi]; simp [h3]
        rw [this]; simp [go_sem, h1, h2, h3]
    · have : decide (x = y) = false := by rw [decide_eq_false_iff_not, hi]; simp [h2]
      rw [this]; simp [go_sem, h1, h2]
  · have : decide (x = y) = false := by rw [decide_eq_false_iff_not, hi]; simp [h1]
    rw [this]; simp [go_sem, h1]
end Go.Proofs.Ytcgddfpfmnpaeaa
