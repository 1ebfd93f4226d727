/- Layer 15: what FairBack asks of the numbers. -/
import Derived.Test.YtcgddfpfmnpaeaaN
import Derived.Test.YtcgddfpfmnpaeaaM
namespace Go.Proofs.Ytcgddfpfmnpaeaa
open Go.RowKit

theorem cost_add {w m n : Int} (h1 : 1 ≤ w) (h2 : w ≤ 16) (hm : 0 ≤ m) (hn : 0 ≤ n) (hm2 : m ≤ 1073741824) (hn2 : n ≤ 1073741824) :
    costE w m = 0 ∧ costE w n = 0 ∧ costE w (m + n) = 0 ∧ costV w (m + n) = costV w m + costV w n ∧ 0 ≤ costV w m ∧ 0 ≤ costV w n := by
  have ho := one_pos h1 h2
  have key : ∀ u : Int, 0 ≤ u → u ≤ 2147483648 → 0 ≤ u * (720720 / w) ∧ u * (720720 / w) ≤ 1152921504606846976 := by
    intro u h0 hu
    have := Int.mul_le_mul hu ho.2 (by omega) (by omega)
    exact ⟨Int.mul_nonneg h0 (by omega), by omega⟩
  have k1 := key m hm (by omega)
  have k2 := key n hn (by omega)
  have k3 := key (m + n) (by omega) (by omega)
  have f1 := cost_fits h1 h2 hm k1.2
  have f2 := cost_fits h1 h2 hn k2.2
  have f3 := cost_fits h1 h2 (show 0 ≤ m + n from by omega) k3.2
  refine ⟨f1.2, f2.2, f3.2, ?_, by omega, by omega⟩
  rw [f1.1, f2.1, f3.1, Int.add_mul]
theorem chk_set {xs : List Ten} {n : Nat} (hn : n < xs.length) (h : chk xs = true) {t : Int} (h0 : 0 ≤ t) (h1 : t ≤ 1152921504606846976) : chk (xs.set n { xs[n] with t := t }) = true := by
  have hok := find_ten h hn
  unfold chk at h ⊢
  rw [Bool.and_eq_true, List.all_eq_true] at h ⊢
  refine ⟨by rw [List.length_set]; exact h.1, fun x hx => ?_⟩
  rcases List.mem_or_eq_of_mem_set hx with hx | hx
  · exact h.2 x hx
  · rw [hx]
    have hb := ok_bounds hok
    unfold Ten.ok wi maxTag maxRan
    simp only [Bool.and_eq_true, decide_eq_true_eq]
    omega
/-- A charge, laid out: where it can be found. -/
theorem charge_at {xs : List Ten} {n : Nat} {u : Int} (hn : n < xs.length) (hc : chk xs = true) (hce : costE xs[n].w u = 0) :
    chargeE xs n u = (if 1152921504606846976 - xs[n].t < costV xs[n].w u then 4 else 0) ∧ (¬ 1152921504606846976 - xs[n].t < costV xs[n].w u → chargeL xs n u = xs.set n { xs[n] with t := xs[n].t + costV xs[n].w u }) := by
  have hf : findE xs n = 0 := findE_in hc (by omega) (by omega)
  have hE : chargeE xs n u = (if 1152921504606846976 - xs[n].t < costV xs[n].w u then 4 else 0) := by
    unfold chargeE maxTag; rw [if_neg (by omega), tenAt_nat hn, if_neg (by omega)]
  refine ⟨hE, fun h => ?_⟩
  rw [if_neg h] at hE
  unfold chargeL setTag; rw [if_pos hE, tenAt_nat hn]; rfl
theorem refund_at {xs : List Ten} {n : Nat} {u : Int} (hn : n < xs.length) (hc : chk xs = true) (hce : costE xs[n].w u = 0) (hl : costV xs[n].w u ≤ xs[n].t) :
    refundE xs n u = 0 ∧ refundL xs n u = xs.set n { xs[n] with t := xs[n].t - costV xs[n].w u } := by
  have hf : findE xs n = 0 := findE_in hc (by omega) (by omega)
  have hE : refundE xs n u = 0 := by
    unfold refundE; rw [if_neg (by omega), tenAt_nat hn, if_neg (by omega), if_neg (by omega)]
  refine ⟨hE, ?_⟩
  unfold refundL setTag; rw [if_pos hE, tenAt_nat hn]; rfl
theorem back_no {xs : List Ten} {i m n : Int} (hm : 0 ≤ m) (hn : 0 ≤ n) (hm2 : m ≤ 1073741824) (hn2 : n ≤ 1073741824) (h : chargeE xs i m ≠ 0) : chargeE xs i (m + n) = chargeE xs i m := by
  rcases findE_cases xs i with ⟨_, he⟩ | ⟨_, _, he⟩ | ⟨hc, h0, h2, he⟩
  · unfold chargeE; rw [if_pos (by omega), if_pos (by omega)]
  · unfold chargeE; rw [if_pos (by omega), if_pos (by omega)]
  · obtain ⟨k, rfl⟩ := Int.eq_ofNat_of_zero_le h0
    have hk : k < xs.length := by omega
    have hb := ok_bounds (find_ten hc hk)
    obtain ⟨c1, c2, c3, c4, c5, c6⟩ := cost_add hb.1 hb.2.1 hm hn hm2 hn2
    rw [(charge_at hk hc c1).1] at h ⊢
    rw [(charge_at hk hc c3).1]
    have hlt : 1152921504606846976 - xs[k].t < costV xs[k].w m := by
      by_cases hlt : 1152921504606846976 - xs[k].t < costV xs[k].w m
      · exact hlt
      · rw [if_neg hlt] at h; exact absurd rfl h
    rw [if_pos hlt, if_pos (by omega)]
theorem back_yes {xs : List Ten} {i m n : Int} (hm : 0 ≤ m) (hn : 0 ≤ n) (hm2 : m ≤ 1073741824) (hn2 : n ≤ 1073741824) (h : chargeE xs i m = 0) :
    chargeE (chargeL xs i m) i n = chargeE xs i (m + n) ∧ chargeL (chargeL xs i m) i n = chargeL xs i (m + n) ∧ refundE (chargeL xs i m) i m = 0 ∧ refundL (chargeL xs i m) i m = xs ∧ (chargeL xs i m).length = xs.length := by
  rcases findE_cases xs i with ⟨_, he⟩ | ⟨_, _, he⟩ | ⟨hc, h0, h2, he⟩
  · unfold chargeE at h; rw [if_pos (by omega)] at h; omega
  · unfold chargeE at h; rw [if_pos (by omega)] at h; omega
  · obtain ⟨k, rfl⟩ := Int.eq_ofNat_of_zero_le h0
    have hk : k < xs.length := by omega
    have hb := ok_bounds (find_ten hc hk)
    obtain ⟨c1, c2, c3, c4, c5, c6⟩ := cost_add hb.1 hb.2.1 hm hn hm2 hn2
    have hle : ¬ 1152921504606846976 - xs[k].t < costV xs[k].w m := by
      intro hlt
      rw [(charge_at hk hc c1).1, if_pos hlt] at h; omega
    have hL := (charge_at hk hc c1).2 hle
    have hc' := chk_set hk hc (t := xs[k].t + costV xs[k].w m) (by omega) (by omega)
    have hk' : k < (xs.set k { xs[k] with t := xs[k].t + costV xs[k].w m }).length := by rw [List.length_set]; exact hk
    have hat : (xs.set k { xs[k] with t := xs[k].t + costV xs[k].w m })[k] = { xs[k] with t := xs[k].t + costV xs[k].w m } := by simp
    rw [hL]
    have a1 := charge_at (u := n) hk' hc' (by rw [hat]; exact c2)
    have a2 := charge_at (u := m + n) hk hc c3
    have a3 := refund_at (u := m) hk' hc' (by rw [hat]; exact c1) (by rw [hat]; simp only; omega)
    rw [hat] at a1 a3
    simp only at a1 a3
    refine ⟨?_, ?_, a3.1, ?_, List.length_set⟩
    · rw [a1.1, a2.1, c4]
      by_cases hx : 1152921504606846976 - (xs[k].t + costV xs[k].w m) < costV xs[k].w n
      · rw [if_pos hx, if_pos (by omega)]
      · rw [if_neg hx, if_neg (by omega)]
    · by_cases hx : 1152921504606846976 - (xs[k].t + costV xs[k].w m) < costV xs[k].w n
      · rw [chargeL_no (by rw [a1.1, if_pos hx]; omega), chargeL_no (by rw [a2.1, if_pos (by omega)]; omega)]
      · rw [a1.2 hx, a2.2 (by omega), c4, List.set_set, Int.add_assoc]
    · rw [a3.2, List.set_set]
      have : xs[k].t + costV xs[k].w m - costV xs[k].w m = xs[k].t := by omega
      rw [this]
      exact List.set_getElem_self hk
theorem half_cost (w : Int) (h1 : 1 ≤ w) (h2 : w ≤ 8) : 720720 / w = 2 * (720720 / (2 * w)) := by
  have : w = 1 ∨ w = 2 ∨ w = 3 ∨ w = 4 ∨ w = 5 ∨ w = 6 ∨ w = 7 ∨ w = 8 := by omega
  rcases this with rfl | rfl | rfl | rfl | rfl | rfl | rfl | rfl <;> rfl
theorem half_costs {w m : Int} (h1 : 1 ≤ w) (h2 : w ≤ 8) (hm : 0 ≤ m) (hm2 : m ≤ 1073741824) : costE w m = 0 ∧ costE (2 * w) m = 0 ∧ costV w m = 2 * costV (2 * w) m ∧ 0 ≤ costV (2 * w) m ∧ costV (2 * w) m ≤ 1152921504606846976 := by
  obtain ⟨a1, _, _, _, _, _⟩ := cost_add (w := w) (n := 0) h1 (by omega) hm (by omega) hm2 (by omega)
  obtain ⟨b1, _, _, _, _, _⟩ := cost_add (w := 2 * w) (n := 0) (by omega) (by omega) hm (by omega) hm2 (by omega)
  have c1 := cost_ok (by omega) (by omega) b1
  refine ⟨a1, b1, ?_, c1.1, c1.2⟩
  have ho := one_pos h1 (by omega : w ≤ 16)
  have ho2 := one_pos (w := 2 * w) (by omega) (by omega)
  have k1 := Int.mul_le_mul hm2 ho.2 (by omega) (by omega)
  have k2 := Int.mul_le_mul hm2 ho2.2 (by omega) (by omega)
  rw [(cost_fits h1 (by omega) hm (by omega)).1, (cost_fits (w := 2 * w) (by omega) (by omega) hm (by omega)).1, half_cost w h1 h2]
  ac_rfl
end Go.Proofs.Ytcgddfpfmnpaeaa
