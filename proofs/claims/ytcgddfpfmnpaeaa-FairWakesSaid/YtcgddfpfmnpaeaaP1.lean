/- Layer 15: FairWakes. -/
import Derived.Test.YtcgddfpfmnpaeaaO
namespace Go.Proofs.Ytcgddfpfmnpaeaa
open Go.RowKit

theorem wake_ok {xs : List Ten} {bs : List Bool} {i : Int} (h : wakeE xs bs i = 0) : ∃ n : Nat, ∃ hn : n < xs.length, i = n ∧ ∃ t', wakeL xs bs i = xs.set n { xs[n] with t := t' } ∧ xs[n].t ≤ t' ∧
    ((leastE xs bs = 5 ∧ t' = xs[n].t) ∨ ∃ k : Nat, ∃ hk : k < xs.length, leastE xs bs = 0 ∧ leastV xs bs = k ∧ t' = mx xs[n].t xs[k].t) := by
  have h1 : leastE xs bs ≠ 1 := by intro h1; unfold wakeE at h; rw [if_pos h1] at h; omega
  have hf : findE xs i = 0 := by unfold wakeE at h; rwa [if_neg h1] at h
  rcases findE_cases xs i with ⟨_, he⟩ | ⟨_, _, he⟩ | ⟨hc, h0, h2, _⟩
  · omega
  · omega
  obtain ⟨n, rfl⟩ := Int.eq_ofNat_of_zero_le h0
  have hn : n < xs.length := by omega
  rcases leastE_three xs bs with h3 | h3 | h3
  · obtain ⟨_, k, hk, hbest, _, _⟩ := least_spec h3
    refine ⟨n, hn, rfl, mx xs[n].t xs[k].t, ?_, by unfold mx; split <;> omega, .inr ⟨k, hk, h3, hbest, rfl⟩⟩
    unfold wakeL; rw [if_neg (by omega), if_pos h3, hbest, setTag, tenAt_nat hn, tenAt_nat hk]; rfl
  · exact absurd h3 h1
  · refine ⟨n, hn, rfl, xs[n].t, ?_, Int.le_refl _, .inl ⟨h3, rfl⟩⟩
    unfold wakeL; rw [if_neg (by omega), if_neg (by omega)]
    exact (List.set_getElem_self hn).symm
theorem wakeL_no {xs : List Ten} {bs : List Bool} {i : Int} (h : wakeE xs bs i ≠ 0) : wakeL xs bs i = [] := by unfold wakeL; rw [if_pos h]
theorem wake_get {xs : List Ten} {n : Nat} (hn : n < xs.length) {t' : Int} (hle : xs[n].t ≤ t') (k : Nat) (hk : k < xs.length) (hk' : k < (xs.set n { xs[n] with t := t' }).length) :
    ∃ t2, (xs.set n { xs[n] with t := t' })[k] = { xs[k] with t := t2 } ∧ xs[k].t ≤ t2 ∧ ((k : Int) ≠ n → t2 = xs[k].t) := by
  by_cases e : n = k
  · subst e
    exact ⟨t', by simp, hle, fun hne => absurd rfl hne⟩
  · exact ⟨xs[k].t, by simp [e], Int.le_refl _, fun _ => rfl⟩

set_option maxRecDepth 100000 in
set_option maxHeartbeats 4000000 in
theorem wakes_law (A Ab : Option Addr) (c cb : Nat) (xs : List Ten) (bs : List Bool) (i : Int) (w : World) (hx : Sl Ten.enc 5 w A xs) (hbs : Sl encB 1 w Ab bs) (hbig : xs.length ≤ 9223372036854775807) :
    Calls Try.prog 5 #[.slice A xs.length c, .int .i64 i, .slice Ab bs.length cb] w fun e w' => e = .returned (.bool true) ∧ Below w.heap.size w w' := by
  by_cases h1 : 100 < xs.length
  · go_enter Try.func5, Try.ntmps5
    go_wp2_with (go_at_call 8; refine (live_any _).mono ?_; rintro e w1 ⟨rfl, hb1⟩)
    go_ret
    exact ⟨rfl, hb1⟩
  by_cases h2 : 100 < bs.length
  · go_enter Try.func5, Try.ntmps5
    go_wp2_with (go_at_call 8; refine (live_any _).mono ?_; rintro e w1 ⟨rfl, hb1⟩)
    go_ret
    exact ⟨rfl, hb1⟩
  have hwk := fun W (h : Sl Ten.enc 5 W A xs) (h' : Sl encB 1 W Ab bs) => wake_slice A Ab c cb xs bs i W h h' hbig
  by_cases hE : wakeE xs bs i = 0
  case neg =>
    rw [wakeL_no hE] at hwk
    have hq : (wakeE xs bs i == 0) = false := by simpa using hE
    clear hE
    generalize wakeE xs bs i = q at *
    go_enter Try.func5, Try.ntmps5
    go_wp2_with fail
    refine (live_any _).mono ?_
    rintro e w1 ⟨rfl, hb1⟩
    go_wp2_with fail
    refine (hwk w1 (hx.below hb1) (hbs.below hb1)).mono ?_
    rintro e w2 ⟨A1, c1, rfl, hown, hb2⟩
    go_wp2_with fail
    go_ret
    exact ⟨rfl, below_then hb1 hb2⟩
  case pos =>
    obtain ⟨n, hn, rfl, t', hL, hle, hcase⟩ := wake_ok hE
    rw [hE, hL] at hwk
    have HG := Lib.hid (@wake_get xs n hn t' hle)
    have HLEN := Lib.hid (show (xs.set n { xs[n] with t := t' }).length = xs.length from List.length_set)
    have HATN := Lib.hid (show ∀ h : n < (xs.set n { xs[n] with t := t' }).length, (xs.set n { xs[n] with t := t' })[n] = { xs[n] with t := t' } from fun h => by simp)
    have HC := Lib.hid hcase
    have hle1 := fun W (h : Sl Ten.enc 5 W A xs) (h' : Sl encB 1 W Ab bs) => least_any A Ab c cb xs bs W h h' hbig
    have hsame := fun (A1 : Option Addr) (c1 : Nat) W (h : Sl Ten.enc 5 W A1 (xs.set n { xs[n] with t := t' })) (h' : Sl Ten.enc 5 W A xs) => same_ten A1 A c1 c (xs.set n { xs[n] with t := t' }) xs W h h' (by rw [HLEN.out]; exact hbig)
    have HSAME5 := Lib.hid (show t' = xs[n].t → xs.set n { xs[n] with t := t' } = xs from fun h => by rw [h]; exact List.set_getElem_self hn)
    clear hcase hE hL
    generalize hys : xs.set n { xs[n] with t := t' } = ys at *
    clear hys
    rw [HLEN.out] at hsame
    go_enter Try.func5, Try.ntmps5
    go_wp2_with fail
    refine (live_any _).mono ?_
    rintro e w1 ⟨rfl, hb1⟩
    go_wp2_with fail
    refine (hwk w1 (hx.below hb1) (hbs.below hb1)).mono ?_
    rintro e w2 ⟨A1, c1, rfl, hown, hb2⟩
    obtain ⟨A', c', hv, hs, _⟩ := hown.sl Ten.enc_length
    obtain ⟨rfl, rfl⟩ : A1 = A' ∧ c1 = c' := by simpa using hv
    rw [HLEN.out]
    have hbw := below_then hb1 hb2
    have hx2 := hx.below hbw
    have hbs2 := hbs.below hbw
    clear hown hv hwk hb1 hb2 hx hbs
    have z3 : (0 : Int) ≤ (n : Int) := by omega
    have z4 : (n : Int) < (xs.length : Int) := by omega
    go_wp2_with fail
    go_loopg [10, 57] xs.length (fun gg _ s57 wr => ∃ kk : Nat, kk ≤ xs.length ∧ xs.length - kk ≤ gg ∧ s57 = .int .i64 kk ∧ Aside (Below w2.heap.size w2 wr))
    case atStart => exact ⟨0, Nat.zero_le _, by omega, rfl, Below.refl _ _⟩
    case round =>
      obtain ⟨kk, hkk, hgk, rfl, BW⟩ := hrel
      by_cases hlt : kk < xs.length
      · obtain ⟨b1, o1, rfl, c0, c1, c2, c3, c4⟩ := (hx2.below BW.out).ten_at kk hlt
        obtain ⟨b2, o2, rfl, d0, d1, d2, d3, d4⟩ := (hs.below BW.out).ten_at kk (by rw [HLEN.out]; exact hlt)
        obtain ⟨t2, ht, hle2, hne⟩ := HG.out kk hlt (by rw [HLEN.out]; exact hlt)
        rw [ht] at d0 d1 d2 d3 d4
        simp only at d0 d1 d2 d3 d4
        have z0 : (0 : Int) ≤ (kk : Int) := by omega
        have z1 : (kk : Int) < (xs.length : Int) := by omega
        clear ht hx2 hs hbs2 hsame hle1 hle
        by_cases hki : (kk : Int) = n
        · obtain rfl : kk = n := by omega
          have hb' : decide (t2 < xs[kk].t) = false := by simp; omega
          clear hki hne
          go_wp2_with fail
          go_quiet (fail)
          go_wp2_with fail
          go_roundg (xs.length - (kk + 1))
          case measure => omega
          case rel => exact ⟨kk + 1, by omega, by omega, by go_num, below_drewN BW.out nq⟩
        · have hb : ((kk : Int) == (n : Int)) = false := by simp; omega
          have hb2 : ((kk : Int) != (n : Int)) = true := by simp; omega
          have hb3 : (kk != n) = true := by simp; omega
          have hb4 : (kk == n) = false := by simp; omega
          obtain rfl := hne hki
          clear hki hne
          go_wp2_with fail
          go_quiet (fail)
          go_wp2_with fail
          go_roundg (xs.length - (kk + 1))
          case measure => omega
          case rel => exact ⟨kk + 1, by omega, by omega, by go_num, below_drewN BW.out nq⟩
      · have hbw3 := below_then hbw BW.out
        have hx3 := hx2.below BW.out
        have hs3 := hs.below BW.out
        have hbs3 := hbs2.below BW.out
        clear hx2 hs hbs2 HG
        rcases HC.out with ⟨h5, ht⟩ | ⟨k, hk, h0, hv, ht⟩
        · have hyx := HSAME5.out ht
          rw [h5] at hle1
          have hsm := fun W h h' => hsame A1 c1 W h h'
          have HYX := Lib.hid hyx
          clear hyx ht h5 hsame
          generalize leastV xs bs = q at *
          go_wp2_with fail
          refine (hle1 wr hx3 hbs3).mono ?_
          rintro e w3 ⟨rfl, hb3⟩
          go_wp2_with fail
          refine (hsm w3 (hs3.below hb3) (hx3.below hb3)).mono ?_
          rintro e w4 ⟨rfl, nq, rfl⟩
          rw [show decide (ys = xs) = true from by rw [decide_eq_true_eq]; exact HYX.out]
          go_wp2_with fail
          go_ret
          exact ⟨rfl, below_drewN (below_then hbw3 hb3) _⟩
        · rw [h0, hv] at hle1
          have HT := Lib.hid ht
          clear h0 hv ht hsame
          go_wp2_with fail
          refine (hle1 wr hx3 hbs3).mono ?_
          rintro e w3 ⟨rfl, hb3⟩
          obtain ⟨b1, o1, rfl, c0, c1, c2, c3, c4⟩ := (hx3.below hb3).ten_at k hk
          obtain ⟨b1', o1', hA1, _, _, _, e3, _⟩ := (hx3.below hb3).ten_at n hn
          obtain ⟨rfl, rfl⟩ : b1 = b1' ∧ o1 = o1' := by simpa using hA1
          obtain ⟨b2, o2, rfl, d0, d1, d2, d3, d4⟩ := (hs3.below hb3).ten_at n (by rw [HLEN.out]; exact hn)
          rw [HATN.out] at d3
          simp only at d3
          have z0 : (0 : Int) ≤ (k : Int) := by omega
          have z1 : (k : Int) < (xs.length : Int) := by omega
          rw [HT.out] at d3
          clear d0 d1 d2 d4 hx3 hs3 hbs3 hle1 hA1 hle
          by_cases hm : xs[n].t < xs[k].t
          · rw [show mx xs[n].t xs[k].t = xs[k].t from by unfold mx; rw [if_pos hm]] at d3
            have hb : (xs[k].t == xs[n].t) = false := by simp; omega
            clear hm
            go_wp2_with fail
            go_quiet (fail)
            go_wp2_with fail
            go_ret
            exact ⟨rfl, below_drewN (below_then hbw3 hb3) _⟩
          · rw [show mx xs[n].t xs[k].t = xs[n].t from by unfold mx; rw [if_neg hm]] at d3
            have hb : decide (xs[k].t ≤ xs[n].t) = true := by simp; omega
            clear hm
            go_wp2_with fail
            go_quiet (fail)
            go_wp2_with fail
            go_ret
            exact ⟨rfl, below_drewN (below_then hbw3 hb3) _⟩
end Go.Proofs.Ytcgddfpfmnpaeaa
