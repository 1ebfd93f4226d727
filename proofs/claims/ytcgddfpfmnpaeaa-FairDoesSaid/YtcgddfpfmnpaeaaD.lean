/- Layer 15: fair.own. -/
import Derived.Test.YtcgddfpfmnpaeaaB
import Derived.Test.YtcgddfpfmnpaeaaC
namespace Go.Proofs.Ytcgddfpfmnpaeaa
open Go.RowKit

theorem chk_len {xs : List Ten} (h : chk xs = true) : 1 ≤ xs.length ∧ xs.length ≤ 16 := by
  unfold chk at h
  rw [Bool.and_eq_true] at h
  simpa using h.1
theorem own_form {w : World} {v : Value} {base : Nat} {xs : List Ten} (h : Own Ten.enc 5 34 base w v xs) (h0 : 0 < xs.length) : ∃ g cap, v = .slice (some ⟨g, 0, none⟩) xs.length cap ∧ base ≤ g ∧ g < w.heap.size := by
  unfold Own at h
  obtain ⟨g, cap, hv, hb, hg⟩ := h.form h0
  exact ⟨g, cap, hv, hb, hg⟩

set_option maxHeartbeats 1000000 in
theorem own_yes (b off c : Nat) (xs : List Ten) (i : Nat) (w : World) (hx : Sl Ten.enc 5 w (some ⟨b, off, none⟩) xs) (hi : i < xs.length) (hc : chk xs = true) :
    Calls Try.prog 27 #[.slice (some ⟨b, off, none⟩) xs.length c, .int .i64 i] w fun e w' => ∃ g cap, e = .returned (.tuple #[.slice (some ⟨g, 0, none⟩) xs.length cap, .pointer (some ⟨g, i * 5, none⟩), .int .i64 0]) ∧ Own Ten.enc 5 34 w.heap.size w' (.slice (some ⟨g, 0, none⟩) xs.length cap) xs ∧ Below w.heap.size w w' := by
  have hl := chk_len hc
  go_enter Try.func27, Try.ntmps27
  go_wp2_with (go_at_call 24; refine (check_yes (some ⟨b, off, none⟩) c xs _ hx (by omega) hc).mono ?_; rintro e w1 ⟨rfl, hb1⟩)
  refine (clone_ten b off c xs w1 (hx.below hb1) (by omega) (by omega)).mono ?_
  rintro e w2 ⟨v, rfl, hown, hb2⟩
  obtain ⟨g, cap, rfl, hg1, hg2⟩ := own_form hown (by omega)
  have hlt : (i : Int) < (xs.length : Int) := by omega
  have hge : (0 : Int) ≤ (i : Int) := by omega
  go_wp2_with fail
  go_quiet (fail)
  go_wp2
  go_ret3
  refine ⟨g, cap, ?_, ?_, ?_⟩
  · rfl
  · exact (hown.lower hb1.size).below (below_drewN (Below.refl _ _) _)
  · exact below_drewN (below_then hb1 hb2) _

def findE (xs : List Ten) (i : Int) : Int := if chk xs then (if 0 ≤ i ∧ i < xs.length then 0 else 5) else 1
theorem findE_no {xs : List Ten} {i : Int} (h : chk xs = false) : findE xs i = 1 := by unfold findE; simp [h]
theorem findE_far {xs : List Ten} {i : Int} (h : chk xs = true) (hi : i < 0 ∨ (xs.length : Int) ≤ i) : findE xs i = 5 := by unfold findE; rw [if_pos h, if_neg (by omega)]
theorem findE_in {xs : List Ten} {i : Int} (h : chk xs = true) (h0 : 0 ≤ i) (h1 : i < (xs.length : Int)) : findE xs i = 0 := by unfold findE; rw [if_pos h, if_pos ⟨h0, h1⟩]
theorem findE_cases (xs : List Ten) (i : Int) : (chk xs = false ∧ findE xs i = 1) ∨ (chk xs = true ∧ (i < 0 ∨ (xs.length : Int) ≤ i) ∧ findE xs i = 5) ∨ (chk xs = true ∧ 0 ≤ i ∧ i < (xs.length : Int) ∧ findE xs i = 0) := by
  cases h : chk xs
  · exact .inl ⟨rfl, findE_no h⟩
  · by_cases hi : 0 ≤ i ∧ i < (xs.length : Int)
    · exact .inr (.inr ⟨rfl, hi.1, hi.2, findE_in h hi.1 hi.2⟩)
    · exact .inr (.inl ⟨rfl, by omega, findE_far h (by omega)⟩)

set_option maxHeartbeats 1000000 in
theorem own_no (A : Option Addr) (c : Nat) (xs : List Ten) (i : Int) (w : World) (hx : Sl Ten.enc 5 w A xs) (hbig : xs.length ≤ 9223372036854775807) (h : findE xs i ≠ 0) :
    Calls Try.prog 27 #[.slice A xs.length c, .int .i64 i] w fun e w' => e = .returned (.tuple #[.slice none 0 0, .pointer none, .int .i64 (findE xs i)]) ∧ Below w.heap.size w w' := by
  rcases findE_cases xs i with ⟨hc, he⟩ | ⟨hc, hi, he⟩ | ⟨_, _, _, he⟩
  · rw [he]; clear he h
    go_enter Try.func27, Try.ntmps27
    go_wp2_with (go_at_call 24; refine (check_no A c xs _ hx hbig hc).mono ?_; rintro e w1 ⟨rfl, hb1⟩)
    go_ret3
    exact ⟨rfl, hb1⟩
  · rw [he]; clear he h
    go_enter Try.func27, Try.ntmps27
    go_wp2_with (go_at_call 24; refine (check_yes A c xs _ hx hbig hc).mono ?_; rintro e w1 ⟨rfl, hb1⟩)
    all_goals (go_ret3; exact ⟨rfl, hb1⟩)
  · exact absurd he h
end Go.Proofs.Ytcgddfpfmnpaeaa
