/- Layer 9: the reference's Arm, Drop. -/
import Derived.Test.YtkckhnblkjgkdaaS6
namespace Go.Proofs.Ytkckhnblkjgkdaa
open Go.RowKit

set_option maxHeartbeats 4000000 in
theorem refArm_c (A : Option Addr) (c : Nat) (xs : List Fd) (i id : Int) (w : World) (hx : Sl Fd.enc 3 w A xs) (hcap : xs.length ≤ c) (hbig : xs.length ≤ 9223372036854775807) : Calls Try.prog 19 #[.slice A xs.length c, .int .i64 i, .int .i64 id] w (GivesV (.bool (armV xs i id)) w (armL xs i id) (armE xs i id)) := by
  have hin := refIn_c A c xs i w hx hcap
  have hwho := fun W (h : Sl Fd.enc 3 W A xs) => refwho_c A c xs id W h hbig
  have HN := Lib.hid (fun h => @arm_no xs i id h)
  have HY := Lib.hid (fun h => @arm_yes xs i id h)
  rcases need_cases xs i with ⟨h1, h2, _⟩ | ⟨n, rfl, hn, hc, hi, ho, h2, _⟩ | ⟨n, rfl, hn, hc, hi, ho, h2, _⟩
  · rw [h1] at hin
    have hE : armE xs i id = 1 := by unfold armE; rw [if_pos (.inl h2)]
    rw [(HN.out (by rw [hE]; decide)).1, (HN.out (by rw [hE]; decide)).2, hE]; clear h2 h1 hE
    go_enter Try.func19, Try.ntmps19
    go_wp2_with (go_at_call 36; refine hin.mono ?_; rintro e w1 ⟨rfl, hb1⟩)
    go_ret3
    exact givesV_no rfl hb1
  · rw [hi] at hin
    have hE : armE xs n id = if id < 0 then 1 else 5 := by
      unfold armE; rw [h2]
      by_cases hid : id < 0
      · rw [if_pos (.inr hid), if_pos hid]
      · rw [if_neg (by simp; omega), if_pos (by decide), if_neg hid]
    rw [(HN.out (by rw [hE]; split <;> decide)).1, (HN.out (by rw [hE]; split <;> decide)).2, hE]
    clear h2 hc hi hE
    have z0 : (0 : Int) ≤ (n : Int) := by omega
    have z1 : (n : Int) < (xs.length : Int) := by omega
    by_cases hid : id < 0
    · rw [if_pos hid]
      go_enter Try.func19, Try.ntmps19
      go_wp2_with (go_at_call 36; refine hin.mono ?_; rintro e w1 ⟨rfl, hb1⟩)
      go_ret3
      exact givesV_no rfl hb1
    · rw [if_neg hid]
      have hid' : 0 ≤ id := by omega
      clear hid
      go_enter Try.func19, Try.ntmps19
      go_wp2_with fail
      refine hin.mono ?_
      rintro e w1 ⟨rfl, hb1⟩
      obtain ⟨b, off, rfl, c0, c1, c2⟩ := (hx.below hb1).fd_at n hn
      rw [ho] at c0
      clear ho
      go_wp2_with fail
      go_ret3
      exact givesV_no rfl hb1
  · rw [hi] at hin
    have hl := chk_len hc
    have hod := odd_facts (odd_no hc hn)
    have hE : armE xs n id = if id < 0 then 1 else if xs.any (whoP id) = true then 6 else if xs[n].w ≠ -1 then 7 else 0 := by
      unfold armE; rw [h2, fdAt_nat hn]
      by_cases hid : id < 0
      · rw [if_pos (.inr hid), if_pos hid]
      · rw [if_neg (by simp; omega), if_neg (by decide), if_neg hid]
    have HFD := Lib.hid (fdAt_nat hn)
    clear h2 hc hi
    have z0 : (0 : Int) ≤ (n : Int) := by omega
    have z1 : (n : Int) < (xs.length : Int) := by omega
    by_cases hid : id < 0
    · rw [if_pos hid] at hE
      rw [(HN.out (by rw [hE]; decide)).1, (HN.out (by rw [hE]; decide)).2, hE]
      clear hE
      go_enter Try.func19, Try.ntmps19
      go_wp2_with (go_at_call 36; refine hin.mono ?_; rintro e w1 ⟨rfl, hb1⟩)
      go_ret3
      exact givesV_no rfl hb1
    have hid' : 0 ≤ id := by omega
    rw [if_neg hid] at hE
    clear hid
    have hxp := hx
    rcases idxOf_cases (whoP id) xs with ⟨h1, h2⟩ | ⟨k, hk, h1, h2, _, _⟩
    case inr =>
      rw [h1] at hwho
      rw [h2, if_pos rfl] at hE
      rw [(HN.out (by rw [hE]; decide)).1, (HN.out (by rw [hE]; decide)).2, hE]
      clear hE h1 h2
      have z2 : (0 : Int) ≤ (k : Int) := by omega
      go_enter Try.func19, Try.ntmps19
      go_wp2_with fail
      refine hin.mono ?_
      rintro e w1 ⟨rfl, hb1⟩
      have hx1 := hx.below hb1
      obtain ⟨b, off, rfl, c0, c1, c2⟩ := hx1.fd_at n hn
      rw [ho] at c0
      clear ho
      go_wp2_with fail
      refine (hwho w1 hx1).mono ?_
      rintro e w2 ⟨rfl, hb2⟩
      go_wp2_with fail
      go_ret3
      exact givesV_no rfl (below_then hb1 hb2)
    case inl =>
      rw [h1] at hwho
      rw [h2, if_neg (by decide)] at hE
      clear h1 h2
      by_cases hw : xs[n].w = -1
      case neg =>
        rw [if_pos hw] at hE
        have hwp : 0 ≤ xs[n].w := by omega
        rw [(HN.out (by rw [hE]; decide)).1, (HN.out (by rw [hE]; decide)).2, hE]
        clear hE hw
        go_enter Try.func19, Try.ntmps19
        go_wp2_with fail
        refine hin.mono ?_
        rintro e w1 ⟨rfl, hb1⟩
        have hx1 := hx.below hb1
        obtain ⟨b, off, rfl, c0, c1, c2⟩ := hx1.fd_at n hn
        rw [ho] at c0
        clear ho
        go_wp2_with fail
        refine (hwho w1 hx1).mono ?_
        rintro e w2 ⟨rfl, hb2⟩
        have d2 := cell_below hb2 c2
        go_wp2_with fail
        go_ret3
        exact givesV_no rfl (below_then hb1 hb2)
      case pos =>
        rw [if_neg (by simpa using hw)] at hE
        cases hr : xs[n].r
        case false =>
          have hy := HY.out hE false (by rw [HFD.out]; exact hr)
          rw [if_neg (by decide)] at hy
          rw [hy.1, hy.2, hE, Int.toNat_natCast]
          clear hy hE
          go_enter Try.func19, Try.ntmps19
          go_wp2_with fail
          refine hin.mono ?_
          rintro e w1 ⟨rfl, hb1⟩
          have hx1 := hx.below hb1
          obtain ⟨b, off, rfl, c0, c1, c2⟩ := hx1.fd_at n hn
          rw [ho] at c0
          rw [hw] at c2
          rw [hr] at c1
          clear ho hw hr
          go_wp2_with fail
          refine (hwho w1 hx1).mono ?_
          rintro e w2 ⟨rfl, hb2⟩
          have d1 := cell_below hb2 c1
          have d2 := cell_below hb2 c2
          have hx2 := hx1.below hb2
          go_wp2_with fail
          refine (refWith_c b off c xs n ⟨true, false, id⟩ w2 hx2 hn (by omega)).mono ?_
          rintro e w3 ⟨g, d, rfl, hown, hb3⟩
          go_wp2_with fail
          go_ret3
          exact givesV_set rfl (hown.lower (below_then hb1 hb2).size) (below_then (below_then hb1 hb2) hb3)
        case true =>
          have hy := HY.out hE true (by rw [HFD.out]; exact hr)
          rw [if_pos rfl] at hy
          rw [hy.1, hy.2, hE, Int.toNat_natCast]
          clear hy hE
          go_enter Try.func19, Try.ntmps19
          go_wp2_with fail
          refine hin.mono ?_
          rintro e w1 ⟨rfl, hb1⟩
          have hx1 := hx.below hb1
          obtain ⟨b, off, rfl, c0, c1, c2⟩ := hx1.fd_at n hn
          rw [ho] at c0
          rw [hw] at c2
          rw [hr] at c1
          clear ho hw hr
          go_wp2_with fail
          refine (hwho w1 hx1).mono ?_
          rintro e w2 ⟨rfl, hb2⟩
          have d1 := cell_below hb2 c1
          have d2 := cell_below hb2 c2
          have hx2 := hx1.below hb2
          go_wp2_with fail
          refine (refWith_c b off c xs n ⟨true, false, -1⟩ w2 hx2 hn (by omega)).mono ?_
          rintro e w3 ⟨g, d, rfl, hown, hb3⟩
          go_wp2_with fail
          go_ret3
          exact givesV_set rfl (hown.lower (below_then hb1 hb2).size) (below_then (below_then hb1 hb2) hb3)

set_option maxHeartbeats 4000000 in
theorem refDrop_c (A : Option Addr) (c : Nat) (xs : List Fd) (id : Int) (w : World) (hx : Sl Fd.enc 3 w A xs) (hcap : xs.length ≤ c) (hbig : xs.length ≤ 9223372036854775807) : Calls Try.prog 22 #[.slice A xs.length c, .int .i64 id] w (Gives w (dropL xs id) (dropE xs id)) := by
  have hck := refCheck_c A c xs w hx hcap
  have hwho := fun W (h : Sl Fd.enc 3 W A xs) => refwho_c A c xs id W h hbig
  cases hc : chk xs
  case false =>
    have hE : dropE xs id = 1 := by unfold dropE; rw [hc]; rfl
    rw [dropL_no (by rw [hE]; decide), hE]
    rw [errC_not hc] at hck
    clear hc hE
    go_enter Try.func22, Try.ntmps22
    go_wp2_with fail
    refine hck.mono ?_
    rintro e w1 ⟨rfl, hb1⟩
    go_wp2_with fail
    go_ret2
    exact gives_no rfl hb1
  case true =>
    have hl := chk_len hc
    rw [errC_yes hc] at hck
    have hE : dropE xs id = if idxOf (whoP id) xs < 0 ∨ id < 0 then 5 else 0 := by unfold dropE; rw [hc]; rfl
    rcases idxOf_cases (whoP id) xs with ⟨h1, _⟩ | ⟨n, hn, h1, _, hp, _⟩
    · rw [h1] at hwho hE
      rw [if_pos (.inl (by decide))] at hE
      rw [dropL_no (by rw [hE]; decide), hE]
      clear hE hc h1
      by_cases hid : id < 0
      all_goals
        go_enter Try.func22, Try.ntmps22
        go_wp2_with fail
        refine hck.mono ?_
        rintro e w1 ⟨rfl, hb1⟩
        go_wp2_with fail
        refine (hwho w1 (hx.below hb1)).mono ?_
        rintro e w2 ⟨rfl, hb2⟩
        go_wp2_with fail
        go_ret2
        exact gives_no rfl (below_then hb1 hb2)
    · have hL : dropL xs id = if dropE xs id = 0 then xs.set n ⟨true, false, -1⟩ else [] := by unfold dropL; rw [h1, Int.toNat_natCast]
      rw [h1] at hwho hE
      by_cases hid : id < 0
      · rw [if_pos (.inr hid)] at hE
        rw [dropL_no (by rw [hE]; decide), hE]
        clear hE hc h1 hL hp
        go_enter Try.func22, Try.ntmps22
        go_wp2_with fail
        refine hck.mono ?_
        rintro e w1 ⟨rfl, hb1⟩
        go_wp2_with fail
        refine (hwho w1 (hx.below hb1)).mono ?_
        rintro e w2 ⟨rfl, hb2⟩
        go_wp2_with fail
        go_ret2
        exact gives_no rfl (below_then hb1 hb2)
      · rw [if_neg (by omega)] at hE
        rw [hE, if_pos rfl] at hL
        rw [hL, hE]
        have hid0 : 0 ≤ id := by omega
        have z1 : (0 : Int) ≤ (n : Int) := by omega
        clear hE hc h1 hL hp hid
        go_enter Try.func22, Try.ntmps22
        go_wp2_with fail
        refine hck.mono ?_
        rintro e w1 ⟨rfl, hb1⟩
        have hx1 := hx.below hb1
        go_wp2_with fail
        refine (hwho w1 hx1).mono ?_
        rintro e w2 ⟨rfl, hb2⟩
        have hx2 := hx1.below hb2
        obtain ⟨b, off, rfl, _⟩ := hx2.fd_at n hn
        go_wp2_with fail
        refine (refWith_c b off c xs n ⟨true, false, -1⟩ w2 hx2 hn (by omega)).mono ?_
        rintro e w3 ⟨g, d, rfl, hown, hb3⟩
        go_wp2_with fail
        go_ret2
        exact gives_set rfl (hown.lower (below_then hb1 hb2).size) (below_then (below_then hb1 hb2) hb3)
end Go.Proofs.Ytkckhnblkjgkdaa
