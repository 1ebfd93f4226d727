/- Layer 9: PollTells, walked. -/
import Derived.Test.YtkckhnblkjgkdaaS3
namespace Go.Proofs.Ytkckhnblkjgkdaa
open Go.RowKit

set_option maxRecDepth 100000 in
set_option maxHeartbeats 4000000 in
theorem tells_any (n : Int) (A B : Option Addr) (c d : Nat) (xs ys : List Fd) (w : World) (hx : Sl Fd.enc 3 w A xs) (hy : Sl Fd.enc 3 w B ys) (hcap : xs.length ≤ c) (hbig : xs.length ≤ 9223372036854775807) (hbig2 : ys.length ≤ 9223372036854775807) :
    Calls Try.prog 6 #[.int .i64 n, .slice A xs.length c, .slice B ys.length d] w fun e w' => e = .returned (.bool true) ∧ Below w.heap.size w w' := by
  by_cases h60 : 60 < xs.length
  · go_enter Try.func6, Try.ntmps6
    go_wp2_with fail
    refine (live_any w).mono ?_
    rintro e w1 ⟨rfl, hb1⟩
    go_wp2_with fail
    go_ret
    exact ⟨rfl, hb1⟩
  · by_cases h61 : 60 < ys.length
    · go_enter Try.func6, Try.ntmps6
      go_wp2_with fail
      refine (live_any w).mono ?_
      rintro e w1 ⟨rfl, hb1⟩
      go_wp2_with fail
      go_ret
      exact ⟨rfl, hb1⟩
    · have hnl : (newL n).length ≤ 9223372036854775807 := by unfold newL; split; decide; rw [List.length_replicate]; omega
      have hwl : (waitsL xs).length ≤ 9223372036854775807 := by unfold waitsL; split; unfold wl; rw [List.length_map]; exact Nat.le_trans (List.length_filter_le _ _) hbig; decide
      have N1 := fun W => new_any n W
      have N2 := fun W => refNew_c n W
      have W1 := fun W (h : Sl Fd.enc 3 W A xs) => waits_c A c xs W h hbig
      have W2 := fun W (h : Sl Fd.enc 3 W A xs) => refWaits_c A c xs W h hcap
      have K1 := fun W (h : Sl Fd.enc 3 W A xs) => check_any A c xs W h hbig
      have K2 := fun W (h : Sl Fd.enc 3 W A xs) => refCheck_c A c xs W h hcap
      have M1 := fun W (h : Sl Fd.enc 3 W A xs) (k : Sl Fd.enc 3 W B ys) => same_fd A B c d xs ys W h k hbig
      have M2 := fun W (h : Sl Fd.enc 3 W A xs) (k : Sl Fd.enc 3 W B ys) => refSame_fd A B c d xs ys W h k hbig
      have Q1 : ∀ A' B' c' d' W, Sl Fd.enc 3 W A' (newL n) → Sl Fd.enc 3 W B' (newL n) → Calls Try.prog 23 #[.slice A' (newL n).length c', .slice B' (newL n).length d'] W fun e w' => e = .returned (.bool true) ∧ Below W.heap.size W w' := by
        intro A' B' c' d' W h1 h2
        have h := refSame_fd A' B' c' d' (newL n) (newL n) W h1 h2 hnl
        rw [show decide (newL n = newL n) = true from by simp] at h
        exact h.mono fun e w' ⟨he, n, hw⟩ => ⟨he, by rw [hw]; exact below_drewN (Below.refl _ _) n⟩
      have Q2 := fun A' B' c' d' W h1 h2 => same_ints A' B' c' d' (waitsL xs) W h1 h2 hwl
      clear hnl hwl
      generalize newL n = nl at *
      generalize newE n = ne at *
      generalize waitsL xs = wls at *
      generalize errC xs = ec at *
      generalize decide (xs = ys) = sm at *
      go_enter Try.func6, Try.ntmps6
      go_wp2_with fail
      refine (live_any w).mono ?_
      rintro e w1 ⟨rfl, hb1⟩
      go_wp2_with fail
      refine (N1 w1).mono ?_
      rintro e w2 ⟨A2, c2, rfl, o2, hb2⟩
      have B2 := below_then hb1 hb2
      have s2 := own_sl o2
      go_wp2_with fail
      refine (N2 w2).mono ?_
      rintro e w3 ⟨A3, c3, rfl, o3, hb3⟩
      have B3 := below_then B2 hb3
      have s3 := own_sl o3
      have s23 := s2.below hb3
      go_wp2_with fail
      refine (W1 w3 (hx.below B3)).mono ?_
      rintro e w4 ⟨A4, c4, rfl, s4, _, hb4⟩
      have B4 := below_then B3 hb4
      have s34 := s3.below hb4
      have s24 := s23.below hb4
      go_wp2_with fail
      refine (W2 w4 (hx.below B4)).mono ?_
      rintro e w5 ⟨A5, c5, rfl, s5, _, hb5⟩
      have B5 := below_then B4 hb5
      have s35 := s34.below hb5
      have s25 := s24.below hb5
      have s45 := s4.below hb5
      clear o2 o3 hb1 hb2 hb3 hb4 hb5 s2 s3 s23 s34 s24 s4 B2 B3 B4 N1 N2 W1 W2
      go_wp2_with fail
      refine (Q1 A2 A3 c2 c3 w5 s25 s35).mono ?_
      rintro e w6 ⟨rfl, hb6⟩
      have B6 := below_then B5 hb6
      have s46 := s45.below hb6
      have s56 := s5.below hb6
      go_wp2_with fail
      refine (Q2 A4 A5 c4 c5 w6 s46 s56).mono ?_
      rintro e w7 ⟨rfl, hb7⟩
      have B7 := below_then B6 hb7
      go_wp2_with fail
      refine (K1 w7 (hx.below B7)).mono ?_
      rintro e w8 ⟨rfl, hb8⟩
      have B8 := below_then B7 hb8
      go_wp2_with fail
      refine (K2 w8 (hx.below B8)).mono ?_
      rintro e w9 ⟨rfl, hb9⟩
      have B9 := below_then B8 hb9
      go_wp2_with fail
      refine (M1 w9 (hx.below B9) (hy.below B9)).mono ?_
      rintro e wa ⟨rfl, na, rfl⟩
      have BA := below_drewN B9 na
      have hxa := hx.below BA
      have hya := hy.below BA
      generalize w9.drewN na = wA at *
      go_wp2_with fail
      refine (M2 wA hxa hya).mono ?_
      rintro e wb ⟨rfl, nb, rfl⟩
      go_wp2_with fail
      go_ret
      exact ⟨rfl, below_drewN BA nb⟩
end Go.Proofs.Ytkckhnblkjgkdaa
