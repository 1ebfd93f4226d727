/- Layer 9: the reference's Shut, Fire. -/
import Derived.Test.YtkckhnblkjgkdaaS5
import Derived.Deep.RegionHeld3
namespace Go.Proofs.Ytkckhnblkjgkdaa
open Go.RowKit

theorem keepS {w1 W w2 : World} {a : Addr} {v : Value} (h : W.cell? a = some v ∧ Below w1.heap.size w1 W) (hb : Below W.heap.size W w2) : w2.cell? a = some v ∧ Below w1.heap.size w1 w2 := ⟨cell_below hb h.1, below_then h.2 hb⟩
set_option maxHeartbeats 2000000 in
theorem refShut_c (A : Option Addr) (c : Nat) (xs : List Fd) (i : Int) (w : World) (hx : Sl Fd.enc 3 w A xs) (hcap : xs.length ≤ c) : Calls Try.prog 18 #[.slice A xs.length c, .int .i64 i] w (GivesV (.int .i64 (whoV xs i)) w (shutL xs i) (needE xs i)) := by
  have hin := refIn_c A c xs i w hx hcap
  unfold shutL whoV
  rcases need_cases xs i with ⟨h1, h2, _⟩ | ⟨n, rfl, hn, hc, hi, ho, h2, _⟩ | ⟨n, rfl, hn, hc, hi, ho, h2, _⟩
  · rw [h1] at hin
    rw [h2, if_neg (by decide), if_neg (by decide)]; clear h2 h1
    go_enter Try.func18, Try.ntmps18
    go_wp2_with (go_at_call 36; refine hin.mono ?_; rintro e w1 ⟨rfl, hb1⟩)
    go_ret3
    exact givesV_no rfl hb1
  · rw [hi] at hin
    rw [h2, if_neg (by decide), if_neg (by decide)]; clear h2 hc hi
    have z0 : (0 : Int) ≤ (n : Int) := by omega
    have z1 : (n : Int) < (xs.length : Int) := by omega
    go_enter Try.func18, Try.ntmps18
    go_wp2_with fail
    refine hin.mono ?_
    rintro e w1 ⟨rfl, hb1⟩
    obtain ⟨b, off, rfl, c0, c1, c2⟩ := (hx.below hb1).fd_at n hn
    rw [ho] at c0
    clear ho
    go_wp2_with fail
    go_ret3
    exact givesV_no rfl hb1
  · rw [hi] at hin
    have hl := chk_len hc
    rw [h2, if_pos rfl, if_pos rfl, Int.toNat_natCast, fdAt_nat hn]; clear h2 hc hi
    have z0 : (0 : Int) ≤ (n : Int) := by omega
    have z1 : (n : Int) < (xs.length : Int) := by omega
    go_enter Try.func18, Try.ntmps18
    go_wp2_with fail
    refine hin.mono ?_
    rintro e w1 ⟨rfl, hb1⟩
    have hx1 := hx.below hb1
    obtain ⟨b, off, rfl, c0, c1, c2⟩ := hx1.fd_at n hn
    rw [ho] at c0
    clear ho
    have RW := fun W (h : Sl Fd.enc 3 W (some ⟨b, off, none⟩) xs) => refWith_c b off c xs n ⟨false, false, -1⟩ W h hn (by omega)
    go_wp2_with fail
    go_region_held3 (fun W => W.cell? ⟨b, off + n * 3 + 2, none⟩ = some (.int .i64 xs[n].w) ∧ Below w1.heap.size w1 W) (first | exact ⟨c2, (Below.refl _ _).drew⟩ | exact keepS ‹_ ∧ _› hb2) (first | (go_at_call 37; refine (RW _ (hx1.below (‹_ ∧ Below _ _ _›).2)).mono ?_; rintro e w2 ⟨g, d, rfl, hown, hb2⟩))
    go_wp2_with fail
    go_ret3
    exact givesV_set rfl (hown.lower hb1.size) (below_then hb1 (below_then ((Below.refl _ _).drew) hb2))

set_option maxHeartbeats 4000000 in
theorem refFire_c (A : Option Addr) (c : Nat) (xs : List Fd) (i : Int) (w : World) (hx : Sl Fd.enc 3 w A xs) (hcap : xs.length ≤ c) : Calls Try.prog 20 #[.slice A xs.length c, .int .i64 i] w (GivesV (.int .i64 (whoV xs i)) w (fireL xs i) (needE xs i)) := by
  have hin := refIn_c A c xs i w hx hcap
  unfold fireL whoV
  rcases need_cases xs i with ⟨h1, h2, _⟩ | ⟨n, rfl, hn, hc, hi, ho, h2, _⟩ | ⟨n, rfl, hn, hc, hi, ho, h2, _⟩
  · rw [h1] at hin
    rw [h2, if_neg (by decide), if_neg (by decide)]; clear h2 h1
    go_enter Try.func20, Try.ntmps20
    go_wp2_with (go_at_call 36; refine hin.mono ?_; rintro e w1 ⟨rfl, hb1⟩)
    go_ret3
    exact givesV_no rfl hb1
  · rw [hi] at hin
    rw [h2, if_neg (by decide), if_neg (by decide)]; clear h2 hc hi
    have z0 : (0 : Int) ≤ (n : Int) := by omega
    have z1 : (n : Int) < (xs.length : Int) := by omega
    go_enter Try.func20, Try.ntmps20
    go_wp2_with fail
    refine hin.mono ?_
    rintro e w1 ⟨rfl, hb1⟩
    obtain ⟨b, off, rfl, c0, c1, c2⟩ := (hx.below hb1).fd_at n hn
    rw [ho] at c0
    clear ho
    go_wp2_with fail
    go_ret3
    exact givesV_no rfl hb1
  · rw [hi] at hin
    have hl := chk_len hc
    have hlo := (odd_facts (odd_no hc hn)).1
    rw [h2, if_pos rfl, if_pos rfl, Int.toNat_natCast, fdAt_nat hn]; clear h2 hc hi
    have z0 : (0 : Int) ≤ (n : Int) := by omega
    have z1 : (n : Int) < (xs.length : Int) := by omega
    by_cases hw : xs[n].w = -1
    · rw [hw]
      go_enter Try.func20, Try.ntmps20
      go_wp2_with fail
      refine hin.mono ?_
      rintro e w1 ⟨rfl, hb1⟩
      have hx1 := hx.below hb1
      obtain ⟨b, off, rfl, c0, c1, c2⟩ := hx1.fd_at n hn
      rw [ho] at c0
      rw [hw] at c2
      clear ho hw
      go_wp2_with fail
      refine (refWith_c b off c xs n ⟨true, true, -1⟩ w1 hx1 hn (by omega)).mono ?_
      rintro e w2 ⟨g, d, rfl, hown, hb2⟩
      go_wp2_with fail
      go_ret3
      exact givesV_set rfl (hown.lower hb1.size) (below_then hb1 hb2)
    · have hwb : (xs[n].w == -1) = false := by simpa using hw
      have hwp : 0 ≤ xs[n].w := by omega
      rw [hwb]
      clear hw hwb
      go_enter Try.func20, Try.ntmps20
      go_wp2_with fail
      refine hin.mono ?_
      rintro e w1 ⟨rfl, hb1⟩
      have hx1 := hx.below hb1
      obtain ⟨b, off, rfl, c0, c1, c2⟩ := hx1.fd_at n hn
      rw [ho] at c0
      clear ho
      have RW := fun W (h : Sl Fd.enc 3 W (some ⟨b, off, none⟩) xs) => refWith_c b off c xs n ⟨true, false, -1⟩ W h hn (by omega)
      go_wp2_with fail
      go_region_held3 (fun W => W.cell? ⟨b, off + n * 3 + 2, none⟩ = some (.int .i64 xs[n].w) ∧ Below w1.heap.size w1 W) (first | exact ⟨c2, (Below.refl _ _).drew⟩ | exact keepS ‹_ ∧ _› hb2) (first | (go_at_call 37; refine (RW _ (hx1.below (‹_ ∧ Below _ _ _›).2)).mono ?_; rintro e w2 ⟨g, d, rfl, hown, hb2⟩))
      go_wp2_with fail
      go_ret3
      exact givesV_set rfl (hown.lower hb1.size) (below_then hb1 (below_then ((Below.refl _ _).drew) hb2))
end Go.Proofs.Ytkckhnblkjgkdaa
