/- Layer 9: PollBack, walked. -/
import Derived.Test.YtkckhnblkjgkdaaJ
namespace Go.Proofs.Ytkckhnblkjgkdaa
open Go.RowKit

theorem armE_in {xs : List Fd} {i id : Int} (h : needE xs i ≠ 0) : armE xs i id ≠ 0 := by
  unfold armE; split
  · decide
  · first | decide | (rw [if_pos h]; decide)
set_option maxRecDepth 100000 in
set_option maxHeartbeats 4000000 in
theorem back_bad (A : Option Addr) (c : Nat) (xs : List Fd) (i id : Int) (w : World) (hx : Sl Fd.enc 3 w A xs) (hbig : xs.length ≤ 9223372036854775807) (h : 20 < xs.length ∨ chk xs = false) :
    Calls Try.prog 8 #[.slice A xs.length c, .int .i64 i, .int .i64 id] w fun e w' => e = .returned (.bool true) ∧ Below w.heap.size w w' := by
  by_cases h20 : 20 < xs.length
  · clear h
    go_enter Try.func8, Try.ntmps8
    go_wp2_with fail
    refine (live_any w).mono ?_
    rintro e w1 ⟨rfl, hb1⟩
    go_wp2_with fail
    go_ret
    exact ⟨rfl, hb1⟩
  · have hc : chk xs = false := by rcases h with h | h; exact absurd h h20; exact h
    have hck := fun W (hw : Sl Fd.enc 3 W A xs) => check_any A c xs W hw hbig
    rw [errC_not hc] at hck
    clear h hc
    go_enter Try.func8, Try.ntmps8
    go_wp2_with fail
    refine (live_any w).mono ?_
    rintro e w1 ⟨rfl, hb1⟩
    have hx1 := hx.below hb1
    go_wp2_with fail
    refine (hck w1 hx1).mono ?_
    rintro e w2 ⟨rfl, hb2⟩
    go_wp2_with fail
    go_ret
    exact ⟨rfl, below_then hb1 hb2⟩
set_option maxRecDepth 100000 in
set_option maxHeartbeats 4000000 in
theorem back_none (A : Option Addr) (c : Nat) (xs : List Fd) (i : Int) (id : Int) (w : World) (hx : Sl Fd.enc 3 w A xs) (hc : chk xs = true) (h0 : inP xs i = false) :
    Calls Try.prog 8 #[.slice A xs.length c, .int .i64 i, .int .i64 id] w fun e w' => e = .returned (.bool true) ∧ Below w.heap.size w w' := by
  have hbig : xs.length ≤ 9223372036854775807 := by have := chk_len hc; omega
  have h20 : (xs.length : Int) ≤ 20 := by have := chk_len hc; omega
  have hck := fun W (hw : Sl Fd.enc 3 W A xs) => check_any A c xs W hw hbig
  rw [errC_yes hc] at hck
  have OC := fun W h => open_c A c xs i W h hbig
  have AC := fun W h => arm_c A c xs i W id h hbig
  have FC := fun W h => fire_c A c xs i W h hbig
  have hq : needE xs i = 1 ∧ openE xs i = 1 := by unfold needE openE; rw [h0]; exact ⟨rfl, rfl⟩
  have ha : (armE xs i id == 0) = false := by simpa using armE_in (id := id) (by rw [hq.1]; decide)
  rw [hq.2] at OC
  rw [hq.1] at FC
  clear hq h0 hc
  generalize armE xs i id = ea at *
  generalize armL xs i id = la at *
  generalize armV xs i id = va at *
  generalize openL xs i = lo at *
  generalize fireL xs i = lf at *
  generalize whoV xs i = vf at *
  go_enter Try.func8, Try.ntmps8
  go_wp2_with fail
  refine (live_any w).mono ?_
  rintro e w1 ⟨rfl, hb1⟩
  have hx1 := hx.below hb1
  go_wp2_with fail
  refine (hck w1 hx1).mono ?_
  rintro e w2 ⟨rfl, hb2⟩
  have hx2 := hx1.below hb2
  have B2 := below_then hb1 hb2
  go_wp2_with fail
  refine (OC w2 hx2).mono ?_
  rintro e w3 ⟨A1, c1, rfl, own1, hb3⟩
  have hx3 := hx2.below hb3
  have B3 := below_then B2 hb3
  have s1 := own_sl own1
  clear hx hx1 hx2 hb1 hb2 hb3 B2 own1
  go_wp2_with fail
  refine (AC w3 hx3).mono ?_
  rintro e w4 ⟨A2, c2, rfl, own2, hb4⟩
  have hx4 := hx3.below hb4
  have B4 := below_then B3 hb4
  clear own2 hb4 B3 hx3
  go_wp2_with fail
  refine (FC w4 hx4).mono ?_
  rintro e w5 ⟨A3, c3, rfl, own3, hb5⟩
  have B5 := below_then B4 hb5
  go_wp2_with fail
  go_ret
  exact ⟨rfl, B5⟩
set_option maxRecDepth 100000 in
set_option maxHeartbeats 4000000 in
theorem back_shut (A : Option Addr) (c : Nat) (xs : List Fd) (n : Nat) (id : Int) (w : World) (hx : Sl Fd.enc 3 w A xs) (hc : chk xs = true) (hn : n < xs.length) (ho : xs[n].o = false) :
    Calls Try.prog 8 #[.slice A xs.length c, .int .i64 n, .int .i64 id] w fun e w' => e = .returned (.bool true) ∧ Below w.heap.size w w' := by
  have hbig : xs.length ≤ 9223372036854775807 := by have := chk_len hc; omega
  have h20 : (xs.length : Int) ≤ 20 := by have := chk_len hc; omega
  have hck := fun W (hw : Sl Fd.enc 3 W A xs) => check_any A c xs W hw hbig
  rw [errC_yes hc] at hck
  have OC := fun W h => open_c A c xs n W h hbig
  have AC := fun W h => arm_c A c xs n W id h hbig
  have FC := fun W h => fire_c A c xs n W h hbig
  have hq : needE xs n = 5 ∧ openE xs n = 0 := by unfold needE openE inP; rw [hc, fdAt_nat hn, ho]; simp [hn]
  have ha : (armE xs n id == 0) = false := by simpa using armE_in (id := id) (by rw [hq.1]; decide)
  obtain ⟨f1, f2, f3, f4⟩ := back_open hc hn ho
  have hl1 : (xs.set n ⟨true, false, -1⟩).length = xs.length := List.length_set
  have SC := fun A' c' W h => shut_c A' c' (xs.set n ⟨true, false, -1⟩) n W h (by rw [hl1]; exact hbig)
  have MC := fun A' c' W h1 h2 => same_c A' c' xs W A c h1 h2 hbig
  rw [hq.2, f1] at OC
  rw [hq.1] at FC
  rw [f2, f3, f4] at SC
  clear hq hc f1 f2 f3 f4 ho hl1
  generalize xs.set n ⟨true, false, -1⟩ = ys at *
  generalize armE xs n id = ea at *
  generalize armL xs n id = la at *
  generalize armV xs n id = va at *
  generalize fireL xs n = lf at *
  generalize whoV xs n = vf at *
  go_enter Try.func8, Try.ntmps8
  go_wp2_with fail
  refine (live_any w).mono ?_
  rintro e w1 ⟨rfl, hb1⟩
  have hx1 := hx.below hb1
  go_wp2_with fail
  refine (hck w1 hx1).mono ?_
  rintro e w2 ⟨rfl, hb2⟩
  have hx2 := hx1.below hb2
  have B2 := below_then hb1 hb2
  go_wp2_with fail
  refine (OC w2 hx2).mono ?_
  rintro e w3 ⟨A1, c1, rfl, own1, hb3⟩
  have hx3 := hx2.below hb3
  have B3 := below_then B2 hb3
  have s1 := own_sl own1
  clear hx hx1 hx2 hb1 hb2 hb3 B2 own1
  go_wp2_with fail
  refine (SC A1 c1 w3 s1).mono ?_
  rintro e w4 ⟨A2, c2, rfl, own2, hb4⟩
  have hx4 := hx3.below hb4
  have B4 := below_then B3 hb4
  have s2 := own_sl own2
  clear own2 hb4 B3 hx3 s1
  go_wp2_with fail
  refine (MC A2 c2 w4 s2 hx4).mono ?_
  rintro e w5 ⟨rfl, hb5⟩
  have hx5 := hx4.below hb5
  have B5 := below_then B4 hb5
  clear B4 hb5 hx4
  go_wp2_with fail
  refine (AC w5 hx5).mono ?_
  rintro e w6 ⟨A3, c3, rfl, own3, hb6⟩
  have hx6 := hx5.below hb6
  have B6 := below_then B5 hb6
  clear own3 hb6 B5 hx5
  go_wp2_with fail
  refine (FC w6 hx6).mono ?_
  rintro e w7 ⟨A4, c4, rfl, own4, hb7⟩
  have B7 := below_then B6 hb7
  go_wp2_with fail
  go_ret
  exact ⟨rfl, B7⟩
set_option maxRecDepth 100000 in
set_option maxHeartbeats 4000000 in
theorem back_no_once (A : Option Addr) (c : Nat) (xs : List Fd) (n : Nat) (id : Int) (w : World) (hx : Sl Fd.enc 3 w A xs) (hc : chk xs = true) (hn : n < xs.length) (ho : xs[n].o = true) (harm : armE xs n id ≠ 0) (hw : xs[n].w ≠ -1) :
    Calls Try.prog 8 #[.slice A xs.length c, .int .i64 n, .int .i64 id] w fun e w' => e = .returned (.bool true) ∧ Below w.heap.size w w' := by
  have hbig : xs.length ≤ 9223372036854775807 := by have := chk_len hc; omega
  have h20 : (xs.length : Int) ≤ 20 := by have := chk_len hc; omega
  have hck := fun W (hw : Sl Fd.enc 3 W A xs) => check_any A c xs W hw hbig
  rw [errC_yes hc] at hck
  have OC := fun W h => open_c A c xs n W h hbig
  have AC := fun W h => arm_c A c xs n W id h hbig
  have FC := fun W h => fire_c A c xs n W h hbig
  have hq : needE xs n = 0 ∧ openE xs n = 6 := by unfold needE openE inP; rw [hc, fdAt_nat hn, ho]; simp [hn]
  rw [hq.2] at OC
  rw [hq.1, whoV_in hn hq.1] at FC
  have ha : (armE xs n id == 0) = false := by simpa using harm
  have hwb : (xs[n].w == -1) = false := by simpa using hw
  clear hq hc ho harm hw
  generalize fireL xs n = lf at *
  generalize xs[n].w = wn at *
  generalize armE xs n id = ea at *
  generalize armV xs n id = va at *
  generalize armL xs n id = la at *
  generalize openL xs n = lo at *
  go_enter Try.func8, Try.ntmps8
  go_wp2_with fail
  refine (live_any w).mono ?_
  rintro e w1 ⟨rfl, hb1⟩
  have hx1 := hx.below hb1
  go_wp2_with fail
  refine (hck w1 hx1).mono ?_
  rintro e w2 ⟨rfl, hb2⟩
  have hx2 := hx1.below hb2
  have B2 := below_then hb1 hb2
  go_wp2_with fail
  refine (OC w2 hx2).mono ?_
  rintro e w3 ⟨A1, c1, rfl, own1, hb3⟩
  have hx3 := hx2.below hb3
  have B3 := below_then B2 hb3
  have s1 := own_sl own1
  clear hx hx1 hx2 hb1 hb2 hb3 B2 own1
  go_wp2_with fail
  refine (AC w3 hx3).mono ?_
  rintro e w4 ⟨A2, c2, rfl, own2, hb4⟩
  have hx4 := hx3.below hb4
  have B4 := below_then B3 hb4
  have s2 := own_sl own2
  clear own2 hb4 B3 hx3
  go_wp2_with fail
  refine (FC w4 hx4).mono ?_
  rintro e w9 ⟨A5, c5, rfl, own5, hb9⟩
  have B9 := below_then B4 hb9
  have s5 := own_sl own5
  clear own5 hb9
  go_wp2_with fail
  go_ret
  exact ⟨rfl, B9⟩
set_option maxRecDepth 100000 in
set_option maxHeartbeats 4000000 in
theorem back_no_twice (A : Option Addr) (c : Nat) (xs : List Fd) (n : Nat) (id : Int) (w : World) (hx : Sl Fd.enc 3 w A xs) (hc : chk xs = true) (hn : n < xs.length) (ho : xs[n].o = true) (harm : armE xs n id ≠ 0) (hw : xs[n].w = -1) :
    Calls Try.prog 8 #[.slice A xs.length c, .int .i64 n, .int .i64 id] w fun e w' => e = .returned (.bool true) ∧ Below w.heap.size w w' := by
  have hbig : xs.length ≤ 9223372036854775807 := by have := chk_len hc; omega
  have h20 : (xs.length : Int) ≤ 20 := by have := chk_len hc; omega
  have hck := fun W (hw : Sl Fd.enc 3 W A xs) => check_any A c xs W hw hbig
  rw [errC_yes hc] at hck
  have OC := fun W h => open_c A c xs n W h hbig
  have AC := fun W h => arm_c A c xs n W id h hbig
  have FC := fun W h => fire_c A c xs n W h hbig
  have hq : needE xs n = 0 ∧ openE xs n = 6 := by unfold needE openE inP; rw [hc, fdAt_nat hn, ho]; simp [hn]
  rw [hq.2] at OC
  rw [hq.1, whoV_in hn hq.1] at FC
  have ha : (armE xs n id == 0) = false := by simpa using harm
  obtain ⟨e1, e2, e3, e4⟩ := back_fire hc hn hq.1 hw
  have hl3 : (xs.set n ⟨true, true, -1⟩).length = xs.length := List.length_set
  have F3 := fun A' c' W h => fire_c A' c' (xs.set n ⟨true, true, -1⟩) n W h (by rw [hl3]; exact hbig)
  have M3 := fun A' B' c' d' W h1 h2 => same_c A' c' (xs.set n ⟨true, true, -1⟩) W B' d' h1 h2 (by rw [hl3]; exact hbig)
  rw [e2, e3, e4] at F3
  rw [e1, hw] at FC
  clear e1 e2 e3 e4 hl3
  clear hq hc ho harm hw
  generalize xs.set n ⟨true, true, -1⟩ = zs at *
  generalize armE xs n id = ea at *
  generalize armV xs n id = va at *
  generalize armL xs n id = la at *
  generalize openL xs n = lo at *
  go_enter Try.func8, Try.ntmps8
  go_wp2_with fail
  refine (live_any w).mono ?_
  rintro e w1 ⟨rfl, hb1⟩
  have hx1 := hx.below hb1
  go_wp2_with fail
  refine (hck w1 hx1).mono ?_
  rintro e w2 ⟨rfl, hb2⟩
  have hx2 := hx1.below hb2
  have B2 := below_then hb1 hb2
  go_wp2_with fail
  refine (OC w2 hx2).mono ?_
  rintro e w3 ⟨A1, c1, rfl, own1, hb3⟩
  have hx3 := hx2.below hb3
  have B3 := below_then B2 hb3
  have s1 := own_sl own1
  clear hx hx1 hx2 hb1 hb2 hb3 B2 own1
  go_wp2_with fail
  refine (AC w3 hx3).mono ?_
  rintro e w4 ⟨A2, c2, rfl, own2, hb4⟩
  have hx4 := hx3.below hb4
  have B4 := below_then B3 hb4
  have s2 := own_sl own2
  clear own2 hb4 B3 hx3
  go_wp2_with fail
  refine (FC w4 hx4).mono ?_
  rintro e w9 ⟨A5, c5, rfl, own5, hb9⟩
  have B9 := below_then B4 hb9
  have s5 := own_sl own5
  clear own5 hb9
  go_wp2_with fail
  refine (F3 A5 c5 w9 s5).mono ?_
  rintro e wa ⟨A6, c6, rfl, own6, hba⟩
  have BA := below_then B9 hba
  have s6 := own_sl own6
  have s5a := s5.below hba
  clear own6 hba
  go_wp2_with fail
  refine (M3 A5 A6 c5 c6 wa s5a s6).mono ?_
  rintro e wb ⟨rfl, hbb⟩
  have BB := below_then BA hbb
  go_wp2_with fail
  go_ret
  exact ⟨rfl, BB⟩
set_option maxRecDepth 100000 in
set_option maxHeartbeats 4000000 in
theorem back_now_twice (A : Option Addr) (c : Nat) (xs : List Fd) (n : Nat) (id : Int) (w : World) (hx : Sl Fd.enc 3 w A xs) (hc : chk xs = true) (hn : n < xs.length) (ho : xs[n].o = true) (harm : armE xs n id = 0) (hr : xs[n].r = true) (hw : xs[n].w = -1) :
    Calls Try.prog 8 #[.slice A xs.length c, .int .i64 n, .int .i64 id] w fun e w' => e = .returned (.bool true) ∧ Below w.heap.size w w' := by
  have hbig : xs.length ≤ 9223372036854775807 := by have := chk_len hc; omega
  have h20 : (xs.length : Int) ≤ 20 := by have := chk_len hc; omega
  have hck := fun W (hw : Sl Fd.enc 3 W A xs) => check_any A c xs W hw hbig
  rw [errC_yes hc] at hck
  have OC := fun W h => open_c A c xs n W h hbig
  have AC := fun W h => arm_c A c xs n W id h hbig
  have FC := fun W h => fire_c A c xs n W h hbig
  have hq : needE xs n = 0 ∧ openE xs n = 6 := by unfold needE openE inP; rw [hc, fdAt_nat hn, ho]; simp [hn]
  rw [hq.2] at OC
  rw [hq.1, whoV_in hn hq.1] at FC
  have hav := (arm_yes harm true (by rw [fdAt_nat hn]; exact hr)).1
  rw [hav, harm] at AC
  obtain ⟨e1, e2, e3, e4⟩ := back_fire hc hn hq.1 hw
  have hl3 : (xs.set n ⟨true, true, -1⟩).length = xs.length := List.length_set
  have F3 := fun A' c' W h => fire_c A' c' (xs.set n ⟨true, true, -1⟩) n W h (by rw [hl3]; exact hbig)
  have M3 := fun A' B' c' d' W h1 h2 => same_c A' c' (xs.set n ⟨true, true, -1⟩) W B' d' h1 h2 (by rw [hl3]; exact hbig)
  rw [e2, e3, e4] at F3
  rw [e1, hw] at FC
  clear e1 e2 e3 e4 hl3
  clear hav
  clear hr
  clear hq hc ho harm hw
  generalize xs.set n ⟨true, true, -1⟩ = zs at *
  generalize armL xs n id = la at *
  generalize openL xs n = lo at *
  go_enter Try.func8, Try.ntmps8
  go_wp2_with fail
  refine (live_any w).mono ?_
  rintro e w1 ⟨rfl, hb1⟩
  have hx1 := hx.below hb1
  go_wp2_with fail
  refine (hck w1 hx1).mono ?_
  rintro e w2 ⟨rfl, hb2⟩
  have hx2 := hx1.below hb2
  have B2 := below_then hb1 hb2
  go_wp2_with fail
  refine (OC w2 hx2).mono ?_
  rintro e w3 ⟨A1, c1, rfl, own1, hb3⟩
  have hx3 := hx2.below hb3
  have B3 := below_then B2 hb3
  have s1 := own_sl own1
  clear hx hx1 hx2 hb1 hb2 hb3 B2 own1
  go_wp2_with fail
  refine (AC w3 hx3).mono ?_
  rintro e w4 ⟨A2, c2, rfl, own2, hb4⟩
  have hx4 := hx3.below hb4
  have B4 := below_then B3 hb4
  have s2 := own_sl own2
  clear own2 hb4 B3 hx3
  go_wp2_with fail
  refine (FC w4 hx4).mono ?_
  rintro e w9 ⟨A5, c5, rfl, own5, hb9⟩
  have B9 := below_then B4 hb9
  have s5 := own_sl own5
  clear own5 hb9
  go_wp2_with fail
  refine (F3 A5 c5 w9 s5).mono ?_
  rintro e wa ⟨A6, c6, rfl, own6, hba⟩
  have BA := below_then B9 hba
  have s6 := own_sl own6
  have s5a := s5.below hba
  clear own6 hba
  go_wp2_with fail
  refine (M3 A5 A6 c5 c6 wa s5a s6).mono ?_
  rintro e wb ⟨rfl, hbb⟩
  have BB := below_then BA hbb
  go_wp2_with fail
  go_ret
  exact ⟨rfl, BB⟩
set_option maxRecDepth 100000 in
set_option maxHeartbeats 4000000 in
theorem back_wait_twice (A : Option Addr) (c : Nat) (xs : List Fd) (n : Nat) (id : Int) (w : World) (hx : Sl Fd.enc 3 w A xs) (hc : chk xs = true) (hn : n < xs.length) (ho : xs[n].o = true) (harm : armE xs n id = 0) (hr : xs[n].r = false) (hw : xs[n].w = -1) :
    Calls Try.prog 8 #[.slice A xs.length c, .int .i64 n, .int .i64 id] w fun e w' => e = .returned (.bool true) ∧ Below w.heap.size w w' := by
  have hbig : xs.length ≤ 9223372036854775807 := by have := chk_len hc; omega
  have h20 : (xs.length : Int) ≤ 20 := by have := chk_len hc; omega
  have hck := fun W (hw : Sl Fd.enc 3 W A xs) => check_any A c xs W hw hbig
  rw [errC_yes hc] at hck
  have OC := fun W h => open_c A c xs n W h hbig
  have AC := fun W h => arm_c A c xs n W id h hbig
  have FC := fun W h => fire_c A c xs n W h hbig
  have hq : needE xs n = 0 ∧ openE xs n = 6 := by unfold needE openE inP; rw [hc, fdAt_nat hn, ho]; simp [hn]
  rw [hq.2] at OC
  rw [hq.1, whoV_in hn hq.1] at FC
  have hav := (arm_yes harm false (by rw [fdAt_nat hn]; exact hr)).1
  obtain ⟨g1, g2, g3, g4, g5, g6⟩ := back_arm hc hn harm hr
  have hl2 : (xs.set n ⟨true, false, id⟩).length = xs.length := List.length_set
  have DC := fun A' c' W h => drop_c A' c' (xs.set n ⟨true, false, id⟩) W id h (by rw [hl2]; exact hbig)
  have F2 := fun A' c' W h => fire_c A' c' (xs.set n ⟨true, false, id⟩) n W h (by rw [hl2]; exact hbig)
  have MC := fun A' c' W h1 h2 => same_c A' c' xs W A c h1 h2 hbig
  rw [g2, g3] at DC
  rw [g4, g5, g6] at F2
  rw [hav, harm, g1] at AC
  have HL2 := Lib.hid hl2
  clear g1 g2 g3 g4 g5 g6 hl2
  obtain ⟨e1, e2, e3, e4⟩ := back_fire hc hn hq.1 hw
  have hl3 : (xs.set n ⟨true, true, -1⟩).length = xs.length := List.length_set
  have F3 := fun A' c' W h => fire_c A' c' (xs.set n ⟨true, true, -1⟩) n W h (by rw [hl3]; exact hbig)
  have M3 := fun A' B' c' d' W h1 h2 => same_c A' c' (xs.set n ⟨true, true, -1⟩) W B' d' h1 h2 (by rw [hl3]; exact hbig)
  rw [e2, e3, e4] at F3
  rw [e1, hw] at FC
  clear e1 e2 e3 e4 hl3
  clear hav
  clear hr
  clear hq hc ho harm hw
  generalize xs.set n ⟨true, true, -1⟩ = zs at *
  generalize xs.set n ⟨true, false, id⟩ = ys at *
  generalize openL xs n = lo at *
  go_enter Try.func8, Try.ntmps8
  go_wp2_with fail
  refine (live_any w).mono ?_
  rintro e w1 ⟨rfl, hb1⟩
  have hx1 := hx.below hb1
  go_wp2_with fail
  refine (hck w1 hx1).mono ?_
  rintro e w2 ⟨rfl, hb2⟩
  have hx2 := hx1.below hb2
  have B2 := below_then hb1 hb2
  go_wp2_with fail
  refine (OC w2 hx2).mono ?_
  rintro e w3 ⟨A1, c1, rfl, own1, hb3⟩
  have hx3 := hx2.below hb3
  have B3 := below_then B2 hb3
  have s1 := own_sl own1
  clear hx hx1 hx2 hb1 hb2 hb3 B2 own1
  go_wp2_with fail
  refine (AC w3 hx3).mono ?_
  rintro e w4 ⟨A2, c2, rfl, own2, hb4⟩
  have hx4 := hx3.below hb4
  have B4 := below_then B3 hb4
  have s2 := own_sl own2
  clear own2 hb4 B3 hx3
  go_wp2_with fail
  refine (DC A2 c2 w4 s2).mono ?_
  rintro e w5 ⟨A3, c3, rfl, own3, hb5⟩
  have hx5 := hx4.below hb5
  have B5 := below_then B4 hb5
  have s3 := own_sl own3
  have s25 := s2.below hb5
  clear own3 hb5 B4 hx4
  go_wp2_with fail
  refine (MC A3 c3 w5 s3 hx5).mono ?_
  rintro e w6 ⟨rfl, hb6⟩
  have hx6 := hx5.below hb6
  have B6 := below_then B5 hb6
  have s26 := s25.below hb6
  clear hb6 B5 hx5
  go_wp2_with fail
  refine (F2 A2 c2 w6 s26).mono ?_
  rintro e w7 ⟨A4, c4, rfl, own4, hb7⟩
  have hx7 := hx6.below hb7
  have B7 := below_then B6 hb7
  have s4 := own_sl own4
  clear own4 hb7 B6 hx6
  go_wp2_with fail
  refine (MC A4 c4 w7 s4 hx7).mono ?_
  rintro e w8 ⟨rfl, hb8⟩
  have hx8 := hx7.below hb8
  have B8 := below_then B7 hb8
  clear hb8 B7 hx7
  go_wp2_with fail
  refine (FC w8 hx8).mono ?_
  rintro e w9 ⟨A5, c5, rfl, own5, hb9⟩
  have B9 := below_then B8 hb9
  have s5 := own_sl own5
  clear own5 hb9
  go_wp2_with fail
  refine (F3 A5 c5 w9 s5).mono ?_
  rintro e wa ⟨A6, c6, rfl, own6, hba⟩
  have BA := below_then B9 hba
  have s6 := own_sl own6
  have s5a := s5.below hba
  clear own6 hba
  go_wp2_with fail
  refine (M3 A5 A6 c5 c6 wa s5a s6).mono ?_
  rintro e wb ⟨rfl, hbb⟩
  have BB := below_then BA hbb
  go_wp2_with fail
  go_ret
  exact ⟨rfl, BB⟩
theorem back_any (A : Option Addr) (c : Nat) (xs : List Fd) (i id : Int) (w : World) (hx : Sl Fd.enc 3 w A xs) (hbig : xs.length ≤ 9223372036854775807) :
    Calls Try.prog 8 #[.slice A xs.length c, .int .i64 i, .int .i64 id] w fun e w' => e = .returned (.bool true) ∧ Below w.heap.size w w' := by
  cases hc : chk xs
  · exact back_bad A c xs i id w hx hbig (.inr hc)
  · rcases need_cases xs i with ⟨h1, _⟩ | ⟨n, rfl, hn, _, _, ho, _⟩ | ⟨n, rfl, hn, _, _, ho, _⟩
    · exact back_none A c xs i id w hx hc h1
    · exact back_shut A c xs n id w hx hc hn ho
    · by_cases ha : armE xs n id = 0
      · have hw := (arm_facts hc hn ha).2.2.1
        cases hr : xs[n].r
        · exact back_wait_twice A c xs n id w hx hc hn ho ha hr hw
        · exact back_now_twice A c xs n id w hx hc hn ho ha hr hw
      · by_cases hw : xs[n].w = -1
        · exact back_no_twice A c xs n id w hx hc hn ho ha hw
        · exact back_no_once A c xs n id w hx hc hn ho ha hw
end Go.Proofs.Ytkckhnblkjgkdaa
