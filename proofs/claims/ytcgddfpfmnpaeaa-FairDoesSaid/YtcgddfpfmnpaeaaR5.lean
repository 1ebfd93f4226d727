/- Layer 15: the reference's Gap, Same. -/
import Derived.Test.YtcgddfpfmnpaeaaR4
namespace Go.Proofs.Ytcgddfpfmnpaeaa
open Go.RowKit

set_option maxHeartbeats 4000000 in
theorem refGap_any (A : Option Addr) (c : Nat) (xs : List Ten) (i k : Int) (w : World) (hx : Sl Ten.enc 5 w A xs) :
    Calls Try.prog 21 #[.slice A xs.length c, .int .i64 i, .int .i64 k] w fun e w' => e = .returned (.tuple #[.int .i64 (gapV xs i k), .int .i64 (gapE xs i k)]) ∧ Below w.heap.size w w' := by
  have hck := refCheck_any A c xs w hx
  rcases findE_cases xs i with ⟨hc, he⟩ | ⟨hc, hi, he⟩ | ⟨hc, h0, h1, he⟩
  · rw [hc] at hck
    have hE : gapE xs i k = 1 := by unfold gapE; rw [if_pos (by omega), he]
    rw [gap_no (by omega), hE]
    clear hc he hE
    go_enter Try.func21, Try.ntmps21
    go_wp2_with (go_at_call 32; refine hck.mono ?_; rintro e w1 ⟨rfl, hb1⟩)
    go_ret2
    exact ⟨rfl, hb1⟩
  · rw [hc] at hck
    have hE : gapE xs i k = 5 := by unfold gapE; rw [if_pos (by omega), he]
    rw [gap_no (by omega), hE]
    clear hc he hE
    by_cases hi0 : i < 0
    · clear hi
      go_enter Try.func21, Try.ntmps21
      go_wp2_with (go_at_call 32; refine hck.mono ?_; rintro e w1 ⟨rfl, hb1⟩)
      go_ret2
      exact ⟨rfl, hb1⟩
    · have hi1 : (xs.length : Int) ≤ i := by omega
      clear hi
      go_enter Try.func21, Try.ntmps21
      go_wp2_with (go_at_call 32; refine hck.mono ?_; rintro e w1 ⟨rfl, hb1⟩)
      go_ret2
      exact ⟨rfl, hb1⟩
  · rw [hc] at hck
    have hE : gapE xs i k = findE xs k := by unfold gapE; rw [if_neg (by omega)]
    rcases findE_cases xs k with ⟨hc2, _⟩ | ⟨_, hk, he2⟩ | ⟨_, h2, h3, he2⟩
    · rw [hc] at hc2; cases hc2
    · rw [gap_no (by omega), hE, he2]
      clear hE he he2 hc
      by_cases hk0 : k < 0
      · clear hk
        go_enter Try.func21, Try.ntmps21
        go_wp2_with (go_at_call 32; refine hck.mono ?_; rintro e w1 ⟨rfl, hb1⟩)
        go_ret2
        exact ⟨rfl, hb1⟩
      · have hk1 : (xs.length : Int) ≤ k := by omega
        clear hk
        go_enter Try.func21, Try.ntmps21
        go_wp2_with (go_at_call 32; refine hck.mono ?_; rintro e w1 ⟨rfl, hb1⟩)
        go_ret2
        exact ⟨rfl, hb1⟩
    · have hV : gapV xs i k = (tenAt xs i).t - (tenAt xs k).t := by unfold gapV; rw [if_pos (by omega)]
      rw [hE, he2, hV]
      obtain ⟨n, rfl⟩ := Int.eq_ofNat_of_zero_le h0
      obtain ⟨m, rfl⟩ := Int.eq_ofNat_of_zero_le h2
      have hn : n < xs.length := by omega
      have hm : m < xs.length := by omega
      have hbn := ok_bounds (find_ten hc hn)
      have hbm := ok_bounds (find_ten hc hm)
      rw [tenAt_nat hn, tenAt_nat hm]
      clear hE hV he he2 hc
      go_enter Try.func21, Try.ntmps21
      go_wp2_with fail
      refine hck.mono ?_
      rintro e w1 ⟨rfl, hb1⟩
      obtain ⟨b1, o1, rfl, _, _, _, c3, _⟩ := (hx.below hb1).ten_at n hn
      obtain ⟨b2, o2, hA, _, _, _, d3, _⟩ := (hx.below hb1).ten_at m hm
      obtain ⟨rfl, rfl⟩ : b1 = b2 ∧ o1 = o2 := by simpa using hA
      clear hA hx hck
      go_wp2_with fail
      go_quiet (fail)
      go_wp2_with fail
      go_ret2
      exact ⟨rfl, below_drewN hb1 _⟩

theorem drewN_drewN (w : World) (m n : Nat) : (w.drewN m).drewN n = w.drewN (m + n) := by simp [World.drewN, Nat.add_assoc]
set_option maxHeartbeats 2000000 in
theorem refSame_ten (A B : Option Addr) (c d : Nat) (xs : List Ten) (w : World) (hx : Sl Ten.enc 5 w A xs) (hy : Sl Ten.enc 5 w B xs) (hbig : xs.length ≤ 9223372036854775807) :
    Calls Try.prog 23 #[.slice A xs.length c, .slice B xs.length d] w fun e w' => e = .returned (.bool true) ∧ Below w.heap.size w w' := by
  go_enter Try.func23, Try.ntmps23
  go_wp2_with fail
  go_loopg [5, 13] xs.length (fun gg _ s13 wr => ∃ kk : Nat, kk ≤ xs.length ∧ xs.length - kk ≤ gg ∧ s13 = .int .i64 kk ∧ Aside (∃ nq, wr = w.drewN nq))
  case atStart => exact ⟨0, Nat.zero_le _, by omega, rfl, ⟨0, rfl⟩⟩
  case round =>
    obtain ⟨kk, hkk, hg, rfl, ⟨nq, rfl⟩⟩ := hrel
    by_cases hlt : kk < xs.length
    · obtain ⟨b1, o1, rfl, p0, p1, p2, p3, p4⟩ := (hx.drewN nq).ten_at kk hlt
      obtain ⟨b2, o2, rfl, t0, t1, t2, t3, t4⟩ := (hy.drewN nq).ten_at kk hlt
      have z0 : (0 : Int) ≤ (kk : Int) := by omega
      have z1 : (kk : Int) < (xs.length : Int) := by omega
      have hnr := fun W => neq_run xs[kk] xs[kk] W
      have DN := Lib.hid (drewN_drewN w nq)
      clear hx hy
      generalize w.drewN nq = w7 at *
      rw [show decide (xs[kk] = xs[kk]) = true from by simp] at hnr
      go_wp2_with fail
      go_quiet (fail)
      go_wp2_with fail
      go_roundg (xs.length - (kk + 1))
      case measure => omega
      case rel => exact ⟨kk + 1, by omega, by omega, by go_num, ⟨_, DN.out _⟩⟩
    · have hkx : kk = xs.length := by omega
      clear hkx
      go_wp2_with fail
      go_ret
      exact ⟨rfl, below_drewN (Below.refl _ _) _⟩
end Go.Proofs.Ytcgddfpfmnpaeaa
