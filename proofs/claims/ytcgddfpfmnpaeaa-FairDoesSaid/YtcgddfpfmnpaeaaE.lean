/- calc: bits.Mul64, size, times, Mul. -/
import Derived.Test.YtcgddfpfmnpaeaaProg
import Derived.Test.YtcgddfpfmnpaeaaWd
import Derived.Lib.Mul64
import Derived.Laws.Bits64b
namespace Go.Proofs.Ytcgddfpfmnpaeaa
open Go.RowKit

/-- Fits an int64. -/
def I64 (a : Int) : Prop := -9223372036854775808 ≤ a ∧ a ≤ 9223372036854775807
/-- Two to the 64th. -/
def K64 : Nat := 18446744073709551616
def hiN (x y : Nat) : Nat := x * y / K64
def loN (x y : Nat) : Nat := x * y % K64
namespace M64
theorem maskN (a : Nat) (ha : a < 18446744073709551616) : bits .and .u64 (a : Int) 4294967295 = ((a % 4294967296 : Nat) : Int) := by
  have h := bits_and_u64_nat a 4294967295 ha (by omega)
  have e : a &&& 4294967295 = a % 4294967296 := Nat.and_two_pow_sub_one_eq_mod a 32
  rw [e] at h
  exact h
theorem divN (a : Nat) : (a : Int) / 4294967296 = ((a / 4294967296 : Nat) : Int) := by omega
theorem mulN (a b : Nat) : (a : Int) * (b : Int) = ((a * b : Nat) : Int) := (Int.natCast_mul a b).symm
theorem addN (a b : Nat) : (a : Int) + (b : Int) = ((a + b : Nat) : Int) := (Int.natCast_add a b).symm
theorem wrapN (a : Nat) (ha : a < 18446744073709551616) : IntKind.u64.wrap (a : Int) = (a : Int) := by rw [IntKind.wrap_u64]; omega
theorem wrapM (a : Nat) : IntKind.u64.wrap (a : Int) = ((a % 18446744073709551616 : Nat) : Int) := by rw [IntKind.wrap_u64]; omega
end M64

set_option maxHeartbeats 1000000 in
theorem mul64_any (x y : Nat) (hx : x < 18446744073709551616) (hy : y < 18446744073709551616) (w : World) :
    Calls Try.prog 41 #[.int .u64 x, .int .u64 y] w fun e w' => e = .returned (.tuple #[.int .u64 ((hiN x y : Nat) : Int), .int .u64 ((loN x y : Nat) : Int)]) ∧ w = w' := by
  obtain ⟨bd, bt, bw, hhi⟩ := Lib.mul64_hi x y hx hy
  have ba := Lib.half_mul_le (a := x / 4294967296) (b := y / 4294967296) (by omega) (by omega)
  have bb := Lib.half_mul_le (a := x / 4294967296) (b := y % 4294967296) (by omega) (by omega)
  have bc := Lib.half_mul_le (a := x % 4294967296) (b := y / 4294967296) (by omega) (by omega)
  have ba' : x / 4294967296 * (y / 4294967296) < 18446744073709551616 := by omega
  have bb' : x / 4294967296 * (y % 4294967296) < 18446744073709551616 := by omega
  have bc' : x % 4294967296 * (y / 4294967296) < 18446744073709551616 := by omega
  have bh1 : x / 4294967296 * (y / 4294967296) + (x / 4294967296 * (y % 4294967296) + x % 4294967296 * (y % 4294967296) / 4294967296) / 4294967296 < 18446744073709551616 := by omega
  have bh : x / 4294967296 * (y / 4294967296) + (x / 4294967296 * (y % 4294967296) + x % 4294967296 * (y % 4294967296) / 4294967296) / 4294967296 + ((x / 4294967296 * (y % 4294967296) + x % 4294967296 * (y % 4294967296) / 4294967296) % 4294967296 + x % 4294967296 * (y / 4294967296)) / 4294967296 < 18446744073709551616 := by omega
  go_enter Try.func41, Try.ntmps41
  go_wp2
  simp only [M64.maskN x hx, M64.maskN y hy, M64.divN, M64.mulN, M64.addN, M64.wrapN _ bd, M64.wrapN _ bb', M64.wrapN _ bt, M64.maskN _ bt, M64.wrapN _ bc', M64.wrapN _ bw, M64.wrapN _ ba', M64.wrapN _ bh1, M64.wrapN _ bh, M64.wrapM (x * y)]
  rw [hhi]
  go_ret2
  exact ⟨rfl, rfl⟩

theorem size_neg (a : Int) (h : I64 a) (hn : a < 0) : IntKind.u64.wrap (-(IntKind.u64.wrap a)) = (a.natAbs : Int) := by
  unfold I64 at h; rw [IntKind.wrap_u64, IntKind.wrap_u64]; omega
theorem size_pos (a : Int) (h : I64 a) (hn : 0 ≤ a) : IntKind.u64.wrap a = (a.natAbs : Int) := by
  unfold I64 at h; rw [IntKind.wrap_u64]; omega
theorem size_any (a : Int) (h : I64 a) (w : World) : Calls Try.prog 42 #[.int .i64 a] w fun e w' => e = .returned (.int .u64 (a.natAbs : Int)) ∧ w = w' := by
  have H := Lib.hid h; clear h
  by_cases hn : a < 0
  · go_enter Try.func42, Try.ntmps42
    go_wp2
    go_ret
    exact ⟨ret_int (size_neg a H.out hn), rfl⟩
  · go_enter Try.func42, Try.ntmps42
    go_wp2
    go_ret
    exact ⟨ret_int (size_pos a H.out (by omega)), rfl⟩

theorem natAbs_lt (a : Int) (h : I64 a) : a.natAbs < 18446744073709551616 := by unfold I64 at h; omega
def minusOf (a b : Int) : Bool := (decide (a < 0) != decide (b < 0)) && (!(((hiN a.natAbs b.natAbs : Nat) : Int) == 0) || !(((loN a.natAbs b.natAbs : Nat) : Int) == 0))
theorem minusOf_eq (a b : Int) : minusOf a b = decide (a * b < 0) := by
  have hab : (a * b).natAbs = a.natAbs * b.natAbs := Int.natAbs_mul a b
  have hp : a.natAbs * b.natAbs = 0 ↔ hiN a.natAbs b.natAbs = 0 ∧ loN a.natAbs b.natAbs = 0 := by
    unfold hiN loN K64
    omega
  have hz : (!(((hiN a.natAbs b.natAbs : Nat) : Int) == 0) || !(((loN a.natAbs b.natAbs : Nat) : Int) == 0)) = !decide (a.natAbs * b.natAbs = 0) := by
    by_cases h1 : hiN a.natAbs b.natAbs = 0 <;> by_cases h2 : loN a.natAbs b.natAbs = 0 <;> simp [h1, h2, hp]
  unfold minusOf
  rw [hz, ← hab]
  by_cases ha : a < 0 <;> by_cases hb : b < 0
  · have := Int.mul_pos_of_neg_of_neg ha hb
    simp [ha, hb]; omega
  · have := Int.mul_nonpos_of_nonpos_of_nonneg (a := a) (b := b) (by omega) (by omega)
    simp only [ha, hb, decide_true, decide_false, Bool.true_bne, Bool.not_false, Bool.true_and]
    rw [← decide_not, decide_eq_decide]; omega
  · have := Int.mul_nonpos_of_nonneg_of_nonpos (a := a) (b := b) (by omega) (by omega)
    simp only [ha, hb, decide_true, decide_false, Bool.false_bne, Bool.true_and]
    rw [← decide_not, decide_eq_decide]; omega
  · have := Int.mul_nonneg (a := a) (b := b) (by omega) (by omega)
    simp [ha, hb]; omega

set_option maxHeartbeats 1000000 in
theorem times_any (a b : Int) (ha : I64 a) (hb : I64 b) (w : World) :
    Calls Try.prog 36 #[.int .i64 a, .int .i64 b] w fun e w' => e = .returned (.agg #[.bool (minusOf a b), .int .u64 ((hiN a.natAbs b.natAbs : Nat) : Int), .int .u64 ((loN a.natAbs b.natAbs : Nat) : Int)]) ∧ Below w.heap.size w w' := by
  have H := Lib.hid (And.intro ha hb); clear ha hb
  by_cases h1 : a < 0 <;> by_cases h2 : b < 0
  all_goals
    go_enter Try.func36, Try.ntmps36
    go_wp2_with (first
      | (go_at_call 42; refine (size_any _ (by first | exact H.out.1 | exact H.out.2) _).mono ?_; rintro e w' ⟨rfl, rfl⟩)
      | (go_at_call 41; refine (mul64_any _ _ (natAbs_lt _ H.out.1) (natAbs_lt _ H.out.2) _).mono ?_; rintro e w' ⟨rfl, rfl⟩))
  all_goals refine bodyPost_ret (v := .agg #[.bool (minusOf a b), .int .u64 ((hiN a.natAbs b.natAbs : Nat) : Int), .int .u64 ((loN a.natAbs b.natAbs : Nat) : Int)]) ?_ rfl ⟨rfl, (Below.refl _ _).alloc (Nat.le_refl _) _⟩
  all_goals simp [results, Try.results36, go_sem, minusOf, *]

def mulOk (a b : Int) : Bool := decide (-9223372036854775808 ≤ a * b ∧ a * b ≤ 9223372036854775807)
def mulV (a b : Int) : Int := if mulOk a b then a * b else 0
def mulE (a b : Int) : Int := if mulOk a b then 0 else 4
theorem mul_parts (a b : Int) : (a * b).natAbs = hiN a.natAbs b.natAbs * 18446744073709551616 + loN a.natAbs b.natAbs ∧ loN a.natAbs b.natAbs < 18446744073709551616 := by
  rw [Int.natAbs_mul]; unfold hiN loN K64; omega
theorem mul_hi {a b : Int} (h : ¬ hiN a.natAbs b.natAbs = 0) : mulOk a b = false := by
  have := mul_parts a b
  unfold mulOk; rw [decide_eq_false_iff_not]; omega
theorem mul_lo_neg {a b : Int} (hm : minusOf a b = true) (h : 9223372036854775808 < ((loN a.natAbs b.natAbs : Nat) : Int)) : mulOk a b = false := by
  have := mul_parts a b
  rw [minusOf_eq] at hm; simp only [decide_eq_true_eq] at hm
  unfold mulOk; rw [decide_eq_false_iff_not]; omega
theorem mul_lo_pos {a b : Int} (hm : minusOf a b = false) (h : 9223372036854775807 < ((loN a.natAbs b.natAbs : Nat) : Int)) : mulOk a b = false := by
  have := mul_parts a b
  rw [minusOf_eq] at hm; simp only [decide_eq_false_iff_not] at hm
  unfold mulOk; rw [decide_eq_false_iff_not]; omega
theorem mul_in_neg {a b : Int} (hm : minusOf a b = true) (h0 : hiN a.natAbs b.natAbs = 0) (h : ((loN a.natAbs b.natAbs : Nat) : Int) ≤ 9223372036854775808) : mulOk a b = true := by
  have := mul_parts a b
  rw [minusOf_eq] at hm; simp only [decide_eq_true_eq] at hm
  unfold mulOk; rw [decide_eq_true_eq]; omega
theorem mul_in_pos {a b : Int} (hm : minusOf a b = false) (h0 : hiN a.natAbs b.natAbs = 0) (h : ((loN a.natAbs b.natAbs : Nat) : Int) ≤ 9223372036854775807) : mulOk a b = true := by
  have := mul_parts a b
  rw [minusOf_eq] at hm; simp only [decide_eq_false_iff_not] at hm
  unfold mulOk; rw [decide_eq_true_eq]; omega
theorem wrap_in {a b : Int} (h : mulOk a b = true) : wrap64 (a * b) = mulV a b := by
  unfold mulV; rw [if_pos h]
  unfold mulOk at h; rw [decide_eq_true_eq] at h
  unfold wrap64; omega
theorem mulV_no {a b : Int} (h : mulOk a b = false) : mulV a b = 0 ∧ mulE a b = 4 := by unfold mulV mulE; simp [h]
theorem mulE_yes {a b : Int} (h : mulOk a b = true) : mulE a b = 0 := by unfold mulE; simp [h]
theorem ret_int2 {k l : IntKind} {a b c d : Int} (h : a = b) (h' : c = d) : Ending.returned (.tuple #[.int k a, .int l c]) = .returned (.tuple #[.int k b, .int l d]) := by rw [h, h']

set_option maxHeartbeats 1000000 in
theorem mul_any (a b : Int) (ha : I64 a) (hb : I64 b) (w : World) :
    Calls Try.prog 29 #[.int .i64 a, .int .i64 b] w fun e w' => e = .returned (.tuple #[.int .i64 (mulV a b), .int .i64 (mulE a b)]) ∧ Below w.heap.size w w' := by
  have ht := times_any a b ha hb
  clear ha hb
  cases hm : minusOf a b
  all_goals
    rw [hm] at ht
    have HM := Lib.hid hm; clear hm
    go_enter Try.func29, Try.ntmps29
    go_wp2_with (go_at_call 36; refine (ht _).mono ?_; rintro e w1 ⟨rfl, hb1⟩)
    all_goals (go_ret2; refine ⟨?_, hb1.alloc hb1.size _⟩)
    all_goals first
      | (have h := mul_hi ‹¬ hiN a.natAbs b.natAbs = 0›; exact ret_int2 (mulV_no h).1.symm (mulV_no h).2.symm)
      | (have h := mul_lo_pos HM.out (by assumption); exact ret_int2 (mulV_no h).1.symm (mulV_no h).2.symm)
      | (have h := mul_lo_neg HM.out (by assumption); exact ret_int2 (mulV_no h).1.symm (mulV_no h).2.symm)
      | (have h := mul_in_pos HM.out (by assumption) (by assumption); exact ret_int2 (wrap_in h) (mulE_yes h).symm)
      | (have h := mul_in_neg HM.out (by assumption) (by assumption); exact ret_int2 (wrap_in h) (mulE_yes h).symm)
end Go.Proofs.Ytcgddfpfmnpaeaa
