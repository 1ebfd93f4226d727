/- Layer 15: the reference's Least, Wake. -/
import Derived.Test.YtcgddfpfmnpaeaaR2
namespace Go.Proofs.Ytcgddfpfmnpaeaa
open Go.RowKit

theorem best_step_no {xs : List Ten} {bs : List Bool} {k : Nat} (hk : k < bs.length) (h : bs[k] = false) : best xs bs (k + 1) = best xs bs k := by
  rw [best, if_neg]; simp [hk, h]
theorem best_step_new {xs : List Ten} {bs : List Bool} {k : Nat} (hk : k < bs.length) (h : bs[k] = true) (hb : best xs bs k < 0) : best xs bs (k + 1) = k := by
  rw [best, if_pos]; simp [hk, h, hb]
theorem best_step_lt {xs : List Ten} {bs : List Bool} {k q : Nat} (hk : k < bs.length) (hx : k < xs.length) (hq : q < xs.length) (h : bs[k] = true) (hb : best xs bs k = q) (hl : xs[k].t < xs[q].t) : best xs bs (k + 1) = k := by
  rw [best, if_pos]
  refine ⟨by simp [hk, h], .inr ?_⟩
  rw [hb, tenAt_nat hx, tenAt_nat hq]; exact hl
theorem best_step_ge {xs : List Ten} {bs : List Bool} {k q : Nat} (hx : k < xs.length) (hq : q < xs.length) (hb : best xs bs k = q) (hl : ¬ xs[k].t < xs[q].t) : best xs bs (k + 1) = q := by
  rw [best, if_neg, hb]
  rintro ⟨_, h | h⟩
  · omega
  · rw [hb, tenAt_nat hx, tenAt_nat hq] at h; exact hl h

set_option maxHeartbeats 4000000 in
theorem refLeast_any (A Ab : Option Addr) (c cb : Nat) (xs : List Ten) (bs : List Bool) (w : World) (hx : Sl Ten.enc 5 w A xs) (hbs : Sl encB 1 w Ab bs) (hbig : xs.length ≤ 9223372036854775807) :
    Calls Try.prog 19 #[.slice A xs.length c, .slice Ab bs.length cb] w fun e w' => e = .returned (.tuple #[.int .i64 (leastV xs bs), .int .i64 (leastE xs bs)]) ∧ Below w.heap.size w w' := by
  have hck := refCheck_any A c xs w hx
  cases hc : chk xs
  case false =>
    rw [hc] at hck
    have HE := Lib.hid (@least_bad xs bs (.inl hc))
    clear hc
    go_enter Try.func19, Try.ntmps19
    go_wp2_with (go_at_call 32; refine hck.mono ?_; rintro e w1 ⟨rfl, hb1⟩)
    go_ret2
    exact ⟨ret_int2 HE.out.2.symm HE.out.1.symm, hb1⟩
  case true =>
    rw [hc] at hck
    by_cases hlen : bs.length = xs.length
    case neg =>
      have HE := Lib.hid (@least_bad xs bs (.inr hlen))
      have hne : ((bs.length : Int) != (xs.length : Int)) = true := by simp; omega
      clear hc hlen
      go_enter Try.func19, Try.ntmps19
      go_wp2_with (go_at_call 32; refine hck.mono ?_; rintro e w1 ⟨rfl, hb1⟩)
      go_ret2
      exact ⟨ret_int2 HE.out.2.symm HE.out.1.symm, hb1⟩
    case pos =>
      have HN := Lib.hid (@least_none xs bs hc hlen)
      have HS := Lib.hid (@least_some xs bs hc hlen)
      have hne : ((bs.length : Int) != (xs.length : Int)) = false := by simp; omega
      have hl1 : bs.length ≤ xs.length := by omega
      have hl2 : xs.length ≤ bs.length := by omega
      clear hc hlen
      go_enter Try.func19, Try.ntmps19
      go_wp2_with fail
      refine hck.mono ?_
      rintro e w1 ⟨rfl, hb1⟩
      have hx1 := hx.below hb1
      have hbs1 := hbs.below hb1
      clear hx hbs hck
      go_wp2_with fail
      go_loopg [6, 7, 8, 21] xs.length (fun gg s6 _ _ s21 wr => ∃ kk : Nat, kk ≤ xs.length ∧ xs.length - kk ≤ gg ∧ s21 = .int .i64 kk ∧ s6 = .int .i64 (best xs bs kk) ∧ Aside (Below w1.heap.size w1 wr))
      case atStart => exact ⟨0, Nat.zero_le _, by omega, rfl, rfl, Below.refl _ _⟩
      case round =>
        clear hne
        obtain ⟨kk, hkk, hgk, rfl, rfl, BW⟩ := hrel
        have hbr := best_range xs bs kk
        by_cases hlt : kk < xs.length
        · have hltb : kk < bs.length := by omega
          obtain ⟨b1, o1, rfl, c0, c1, c2, c3, c4⟩ := (hx1.below BW.out).ten_at kk hlt
          obtain ⟨b2, o2, rfl, d0⟩ := (hbs1.below BW.out).bool_at kk hltb
          have z0 : (0 : Int) ≤ (kk : Int) := by omega
          have z1 : (kk : Int) < (xs.length : Int) := by omega
          have z2 : (kk : Int) < (bs.length : Int) := by omega
          go_upto_region 7 with fail
          have e3 : (wr.alloc (.cells #[.int .i64 xs[kk].w, .int .i64 xs[kk].q, .int .i64 xs[kk].l, .int .i64 xs[kk].t, .int .i64 xs[kk].r] 34)).cell? ⟨wr.heap.size, 3, none⟩ = some (.int .i64 xs[kk].t) := by simp
          have f0 := cell_alloc d0 (.cells #[.int .i64 xs[kk].w, .int .i64 xs[kk].q, .int .i64 xs[kk].l, .int .i64 xs[kk].t, .int .i64 xs[kk].r] 34)
          have BW5 := BW.out.alloc BW.out.size (.cells #[.int .i64 xs[kk].w, .int .i64 xs[kk].q, .int .i64 xs[kk].l, .int .i64 xs[kk].t, .int .i64 xs[kk].r] 34)
          have hx5 := hx1.below BW5
          clear c0 c1 c2 c3 c4 d0 hx1 hbs1 BW
          generalize wr.alloc (.cells #[.int .i64 xs[kk].w, .int .i64 xs[kk].q, .int .i64 xs[kk].l, .int .i64 xs[kk].t, .int .i64 xs[kk].r] 34) = w5 at *
          generalize wr.heap.size = g5 at *
          cases hq : bs[kk]
          case false =>
            rw [hq] at f0
            have ST := Lib.hid (best_step_no (xs := xs) hltb hq)
            clear hq
            go_quiet (fail)
            go_wp2_with fail
            go_roundg (xs.length - (kk + 1))
            case measure => omega
            case rel => exact ⟨kk + 1, by omega, by omega, by go_num, by rw [ST.out], below_drewN BW5 _⟩
          case true =>
            rw [hq] at f0
            by_cases hbn : best xs bs kk < 0
            · have ST := Lib.hid (best_step_new hltb hq hbn)
              clear hq
              go_quiet (fail)
              go_wp2_with fail
              go_roundg (xs.length - (kk + 1))
              case measure => omega
              case rel => exact ⟨kk + 1, by omega, by omega, by go_num, by rw [ST.out], below_drewN BW5 _⟩
            · obtain ⟨q, hqq⟩ := Int.eq_ofNat_of_zero_le (show 0 ≤ best xs bs kk by omega)
              have hqx : q < xs.length := by omega
              obtain ⟨b3, o3, hA, _, _, _, g3, _⟩ := hx5.ten_at q hqx
              obtain ⟨rfl, rfl⟩ : b1 = b3 ∧ o1 = o3 := by simpa using hA
              have z3 : (0 : Int) ≤ (q : Int) := by omega
              have z4 : (q : Int) < (xs.length : Int) := by omega
              have hqn : decide ((q : Int) < 0) = false := by simp
              by_cases htl : xs[kk].t < xs[q].t
              · have ST := Lib.hid (best_step_lt hltb hlt hqx hq hqq htl)
                rw [hqq]
                clear hq hqq hA hbr hbn
                go_quiet (fail)
                go_wp2_with fail
                go_roundg (xs.length - (kk + 1))
                case measure => omega
                case rel => exact ⟨kk + 1, by omega, by omega, by go_num, by rw [ST.out], below_drewN BW5 _⟩
              · have ST := Lib.hid (best_step_ge hlt hqx hqq htl)
                have htl2 : decide (xs[kk].t < xs[q].t) = false := by simpa using htl
                rw [hqq]
                clear hq hqq hA hbr hbn htl
                go_quiet (fail)
                go_wp2_with fail
                go_roundg (xs.length - (kk + 1))
                case measure => omega
                case rel => exact ⟨kk + 1, by omega, by omega, by go_num, by rw [ST.out], below_drewN BW5 _⟩
        · have hkx : kk = xs.length := by omega
          subst hkx
          by_cases hbn : best xs bs xs.length < 0
          · have HE := Lib.hid (HN.out hbn)
            go_wp2_with fail
            go_ret2
            exact ⟨ret_int2 HE.out.2.symm HE.out.1.symm, below_then hb1 BW.out⟩
          · have HE := Lib.hid (HS.out (by omega))
            have hbn2 : 0 ≤ best xs bs xs.length := by omega
            clear hbn
            go_wp2_with fail
            go_ret2
            exact ⟨ret_int2 HE.out.2.symm HE.out.1.symm, below_then hb1 BW.out⟩
end Go.Proofs.Ytcgddfpfmnpaeaa
