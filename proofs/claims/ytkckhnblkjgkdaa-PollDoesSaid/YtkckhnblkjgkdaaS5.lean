/- Layer 9: the reference's waits, Open, Arm, Drop. -/
import Derived.Test.YtkckhnblkjgkdaaS4
namespace Go.Proofs.Ytkckhnblkjgkdaa
open Go.RowKit

set_option maxHeartbeats 2000000 in
theorem refwho_c (A : Option Addr) (c : Nat) (xs : List Fd) (id : Int) (w : World) (hx : Sl Fd.enc 3 w A xs) (hbig : xs.length ≤ 9223372036854775807) :
    Calls Try.prog 38 #[.slice A xs.length c, .int .i64 id] w fun e w' => e = .returned (.int .i64 (idxOf (whoP id) xs)) ∧ Below w.heap.size w w' := by
  go_enter Try.func38, Try.ntmps38
  go_wp2
  go_loopg [5, 6, 9] xs.length (fun gg _ _ s9 wr => ∃ kk : Nat, kk ≤ xs.length ∧ xs.length - kk ≤ gg ∧ s9 = .int .i64 kk ∧ Aside (Below w.heap.size w wr) ∧ Aside (∀ j, (hj : j < kk) → ∀ hl : j < xs.length, whoP id xs[j] = false))
  case atStart => exact ⟨0, Nat.zero_le _, by omega, rfl, Below.refl _ w, fun j hj => absurd hj (Nat.not_lt_zero _)⟩
  case round =>
    obtain ⟨kk, hkk, hg, rfl, BW, NO⟩ := hrel
    by_cases hlt : kk < xs.length
    · obtain ⟨b, off, rfl, c0, c1, c2⟩ := (hx.below BW.out).fd_at kk hlt
      clear hx
      cases hq : whoP id xs[kk] with
      | true =>
        have HQ := Lib.hid hq
        have hb : (xs[kk].w == id) = true := hq
        clear hq
        go_wp2_with fail
        go_ret
        exact ⟨ret_int (idxOf_hit (whoP id) xs kk hlt HQ.out (fun j hj => NO.out j hj (by omega))).symm, BW.out.alloc BW.out.size _⟩
      | false =>
        have HQ := Lib.hid hq
        have hb : (xs[kk].w == id) = false := hq
        clear hq
        go_wp2_with fail
        go_roundg (xs.length - (kk + 1))
        case measure => omega
        case rel =>
          refine ⟨kk + 1, by omega, by omega, by go_num, BW.out.alloc BW.out.size _, (show Aside _ from fun j hj hl => ?_)⟩
          by_cases e : j = kk
          · subst e
            exact HQ.out
          · exact NO.out j (by omega) hl
    · have : kk = xs.length := by omega
      go_wp2
      go_ret
      exact ⟨ret_int (idxOf_miss (whoP id) xs (fun j hj => NO.out j (by omega) hj)).symm, BW.out⟩

set_option maxHeartbeats 2000000 in
theorem refOpen_c (A : Option Addr) (c : Nat) (xs : List Fd) (i : Int) (w : World) (hx : Sl Fd.enc 3 w A xs) (hcap : xs.length ≤ c) : Calls Try.prog 17 #[.slice A xs.length c, .int .i64 i] w (Gives w (openL xs i) (openE xs i)) := by
  have hin := refIn_c A c xs i w hx hcap
  unfold openL
  rcases need_cases xs i with ⟨h1, _, h2⟩ | ⟨n, rfl, hn, hc, hi, ho, _, h2⟩ | ⟨n, rfl, hn, hc, hi, ho, _, h2⟩
  · rw [h1] at hin
    rw [h2, if_neg (by decide)]; clear h2 h1
    go_enter Try.func17, Try.ntmps17
    go_wp2_with (go_at_call 36; refine hin.mono ?_; rintro e w1 ⟨rfl, hb1⟩)
    go_ret2
    exact gives_no rfl hb1
  · rw [hi] at hin
    have hl := chk_len hc
    rw [h2, if_pos rfl, Int.toNat_natCast]; clear h2 hc hi
    have z0 : (0 : Int) ≤ (n : Int) := by omega
    have z1 : (n : Int) < (xs.length : Int) := by omega
    go_enter Try.func17, Try.ntmps17
    go_wp2_with fail
    refine hin.mono ?_
    rintro e w1 ⟨rfl, hb1⟩
    have hx1 := hx.below hb1
    obtain ⟨b, off, rfl, c0, c1, c2⟩ := hx1.fd_at n hn
    rw [ho] at c0
    clear ho
    go_wp2_with fail
    refine (refWith_c b off c xs n ⟨true, false, -1⟩ w1 hx1 hn (by omega)).mono ?_
    rintro e w2 ⟨g, d, rfl, hown, hb2⟩
    go_wp2_with fail
    go_ret2
    exact gives_set rfl (hown.lower hb1.size) (below_then hb1 hb2)
  · rw [hi] at hin
    rw [h2, if_neg (by decide)]; clear h2 hc hi
    have z0 : (0 : Int) ≤ (n : Int) := by omega
    have z1 : (n : Int) < (xs.length : Int) := by omega
    go_enter Try.func17, Try.ntmps17
    go_wp2_with fail
    refine hin.mono ?_
    rintro e w1 ⟨rfl, hb1⟩
    obtain ⟨b, off, rfl, c0, c1, c2⟩ := (hx.below hb1).fd_at n hn
    rw [ho] at c0
    clear ho
    go_wp2_with fail
    go_ret2
    exact gives_no rfl hb1
end Go.Proofs.Ytkckhnblkjgkdaa
