/- Layer 9: PollWaits, walked. -/
import Derived.Test.YtkckhnblkjgkdaaW7
namespace Go.Proofs.Ytkckhnblkjgkdaa
open Go.RowKit

theorem wl_len (xs : List Fd) : (wl xs).length ≤ xs.length := by unfold wl; rw [List.length_map]; exact List.length_filter_le _ _
set_option maxRecDepth 100000 in
set_option maxHeartbeats 4000000 in
theorem waits_bad (A : Option Addr) (c : Nat) (xs : List Fd) (w : World) (hx : Sl Fd.enc 3 w A xs) (hbig : xs.length ≤ 9223372036854775807) (h : 60 < xs.length ∨ chk xs = false) :
    Calls Try.prog 7 #[.slice A xs.length c] w fun e w' => e = .returned (.bool true) ∧ Below w.heap.size w w' := by
  by_cases h60 : 60 < xs.length
  · clear h
    go_enter Try.func7, Try.ntmps7
    go_wp2_with fail
    refine (live_any w).mono ?_
    rintro e w1 ⟨rfl, hb1⟩
    go_wp2_with fail
    go_ret
    exact ⟨rfl, hb1⟩
  · have hc : chk xs = false := by rcases h with h | h; exact absurd h h60; exact h
    have hck := fun W (hw : Sl Fd.enc 3 W A xs) => check_any A c xs W hw hbig
    have hwt := fun W (hw : Sl Fd.enc 3 W A xs) => waits_c A c xs W hw hbig
    rw [errC_not hc] at hck hwt
    clear h hc
    go_enter Try.func7, Try.ntmps7
    go_wp2_with fail
    refine (live_any w).mono ?_
    rintro e w1 ⟨rfl, hb1⟩
    have hx1 := hx.below hb1
    go_wp2_with fail
    refine (hwt w1 hx1).mono ?_
    rintro e w2 ⟨A2, c2, rfl, s2, hl2, hb2⟩
    have hx2 := hx1.below hb2
    go_wp2_with fail
    refine (hck w2 hx2).mono ?_
    rintro e w3 ⟨rfl, hb3⟩
    go_wp2_with fail
    go_ret
    exact ⟨rfl, below_then (below_then hb1 hb2) hb3⟩

theorem sl_tail2 {w : World} {b off : Nat} {l : List Int} (h : Sl encI 1 w (some ⟨b, off, none⟩) l) (k : Nat) : Sl encI 1 w (some ⟨b, off + k, none⟩) (l.drop k) := by
  intro h0
  rw [List.length_drop] at h0
  refine ⟨b, off + k, rfl, fun j hj i v hv => ?_⟩
  rw [List.length_drop] at hj
  obtain ⟨b', off', hA, hc⟩ := h (by omega)
  obtain ⟨rfl, rfl⟩ : b = b' ∧ off = off' := by simpa using hA
  have := hc (k + j) (by omega) i v (by rw [List.getElem_drop] at hv; exact hv)
  rw [show off + k + j * 1 + i = off + (k + j) * 1 + i from by omega]
  exact this
def many (xs : List Fd) (k : Nat) : Int := ((wl (xs.take k)).length : Int)
theorem many_step {xs : List Fd} {k : Nat} (h : k < xs.length) : many xs (k + 1) = many xs k + (if xs[k].w = -1 then 0 else 1) := by
  unfold many; rw [wl_step h, List.length_append]
  by_cases e : xs[k].w = -1
  · simp [e]
  · simp [e]
theorem many_le (xs : List Fd) (k : Nat) : 0 ≤ many xs k ∧ many xs k ≤ k := by
  unfold many
  have := wl_len (xs.take k)
  rw [List.length_take] at this
  omega
set_option maxRecDepth 100000 in
set_option maxHeartbeats 8000000 in
theorem waits_zero (A : Option Addr) (c : Nat) (xs : List Fd) (w : World) (hx : Sl Fd.enc 3 w A xs) (hc : chk xs = true) (hz : (wl xs).length = 0) :
    Calls Try.prog 7 #[.slice A xs.length c] w fun e w' => e = .returned (.bool true) ∧ Below w.heap.size w w' := by
  have hl := chk_len hc
  have hwt := fun W (hw : Sl Fd.enc 3 W A xs) => waits_c A c xs W hw (by omega)
  have hE : waitsL xs = wl xs := by unfold waitsL; rw [if_pos hc]
  rw [errC_yes hc, hE] at hwt
  have HC := Lib.hid hc
  have hwl := wl_len xs
  clear hE hc
  obtain ⟨n, hn⟩ : ∃ n, n = (wl xs).length := ⟨_, rfl⟩
  have HN := Lib.hid hn
  have hn16 : n ≤ 16 := by omega
  clear hwl
  go_enter Try.func7, Try.ntmps7
  go_wp2_with fail
  refine (live_any w).mono ?_
  rintro e w1 ⟨rfl, hb1⟩
  have hx1 := hx.below hb1
  go_wp2_with fail
  refine (hwt w1 hx1).mono ?_
  rintro e w2 ⟨A2, c2, rfl, s2, hl2, hb2⟩
  have hx2 := hx1.below hb2
  have HB := Lib.hid (below_then hb1 hb2)
  rw [← hn] at hl2 ⊢
  clear hn hwt hx hx1 hb1 hb2
  go_wp2_with fail
  go_loopg [6, 40] n (fun gg s6 s40 wr => ∃ (kk : Nat) (A6 : Option Addr) (c6 : Nat) (ys : List Fd), kk ≤ n ∧ n - kk ≤ gg ∧ s40 = .int .i64 kk ∧ s6 = .slice A6 ys.length c6 ∧ Aside (Below w2.heap.size w2 wr) ∧ Aside (Sl Fd.enc 3 wr A6 ys) ∧ Aside (chk ys = true) ∧ Aside (wl ys = (wl xs).drop kk))
  case atStart => exact ⟨0, A, c, xs, Nat.zero_le _, by omega, rfl, rfl, Below.refl _ _, hx2, HC.out, by show _ = _; rw [List.drop_zero]⟩
  case round =>
    obtain ⟨kk, A6, c6, ys, hkk, hg, rfl, rfl, BW, SY, CY, WY⟩ := hrel
    by_cases hlt : kk < n
    · have : n = 0 := by rw [HN.out]; exact hz
      omega
    · have hkx : kk = n := by omega
      have hx3 := hx2.below BW.out
      have HBB := Lib.hid (below_then HB.out BW.out)
      clear hkx SY CY WY s2
      go_wp2_with fail
      go_loopg [13, 15, 75] xs.length (fun gg s13 _ s75 wq => ∃ mm : Nat, mm ≤ xs.length ∧ xs.length - mm ≤ gg ∧ s75 = .int .i64 mm ∧ s13 = .int .i64 (many xs mm) ∧ Aside (Below wr.heap.size wr wq))
      case atStart => exact ⟨0, Nat.zero_le _, by omega, rfl, rfl, Below.refl _ _⟩
      case round =>
        obtain ⟨mm, hmm, hgm, rfl, rfl, BQ⟩ := hrel
        by_cases hlt2 : mm < xs.length
        · obtain ⟨b, off, rfl, c0, c1, c2⟩ := (hx3.below BQ.out).fd_at mm hlt2
          have z0 : (0 : Int) ≤ (mm : Int) := by omega
          have z1 : (mm : Int) < (xs.length : Int) := by omega
          have ST := Lib.hid (many_step hlt2)
          have hml := many_le xs mm
          by_cases hw : xs[mm].w = -1
          · have hwb : (xs[mm].w == -1) = true := by simpa using hw
            have HW := Lib.hid hw
            clear hw hx3
            go_wp2_with fail
            go_roundg (xs.length - (mm + 1))
            case measure => omega
            case rel => exact ⟨mm + 1, by omega, by omega, by go_num, by rw [ST.out, if_pos HW.out, Int.add_zero], BQ.out.alloc BQ.out.size _⟩
          · have hwb : (xs[mm].w == -1) = false := by simpa using hw
            have HW := Lib.hid hw
            clear hw hx3
            go_wp2_with fail
            go_roundg (xs.length - (mm + 1))
            case measure => omega
            case rel => exact ⟨mm + 1, by omega, by omega, by go_num, by rw [ST.out, if_neg HW.out], BQ.out.alloc BQ.out.size _⟩
        · have hmx : mm = xs.length := by omega
          have hmn : many xs mm = (n : Int) := by unfold many; rw [hmx, List.take_length, ← HN.out]
          have hmb : (many xs mm == (n : Int)) = true := by rw [hmn]; simp
          clear hmx hmn
          go_wp2_with fail
          go_ret
          exact ⟨rfl, below_then HBB.out BQ.out⟩
set_option maxRecDepth 100000 in
set_option maxHeartbeats 8000000 in
theorem waits_pos (A : Option Addr) (c : Nat) (xs : List Fd) (w : World) (hx : Sl Fd.enc 3 w A xs) (hc : chk xs = true) (hz : (wl xs).length ≠ 0) :
    Calls Try.prog 7 #[.slice A xs.length c] w fun e w' => e = .returned (.bool true) ∧ Below w.heap.size w w' := by
  have hl := chk_len hc
  have hwt := fun W (hw : Sl Fd.enc 3 W A xs) => waits_c A c xs W hw (by omega)
  have hE : waitsL xs = wl xs := by unfold waitsL; rw [if_pos hc]
  rw [errC_yes hc, hE] at hwt
  have HC := Lib.hid hc
  have hwl := wl_len xs
  clear hE hc
  obtain ⟨n, hn⟩ : ∃ n, n = (wl xs).length := ⟨_, rfl⟩
  have HN := Lib.hid hn
  have hn16 : n ≤ 16 := by omega
  clear hwl
  go_enter Try.func7, Try.ntmps7
  go_wp2_with fail
  refine (live_any w).mono ?_
  rintro e w1 ⟨rfl, hb1⟩
  have hx1 := hx.below hb1
  go_wp2_with fail
  refine (hwt w1 hx1).mono ?_
  rintro e w2 ⟨A2, c2, rfl, s2, hl2, hb2⟩
  have hx2 := hx1.below hb2
  have HB := Lib.hid (below_then hb1 hb2)
  rw [← hn] at hl2 hz ⊢
  obtain ⟨r, rfl⟩ : ∃ r, c2 = r + 1 := ⟨c2 - 1, by omega⟩
  clear hn hwt hx hx1 hb1 hb2
  go_wp2_with fail
  go_loopg [6, 40] n (fun gg s6 s40 wr => ∃ (kk : Nat) (A6 : Option Addr) (c6 : Nat) (ys : List Fd), kk ≤ n ∧ n - kk ≤ gg ∧ s40 = .int .i64 kk ∧ s6 = .slice A6 ys.length c6 ∧ Aside (Below w2.heap.size w2 wr) ∧ Aside (Sl Fd.enc 3 wr A6 ys) ∧ Aside (chk ys = true) ∧ Aside (wl ys = (wl xs).drop kk))
  case atStart => exact ⟨0, A, c, xs, Nat.zero_le _, by omega, rfl, rfl, Below.refl _ _, hx2, HC.out, by show _ = _; rw [List.drop_zero]⟩
  case round =>
    obtain ⟨kk, A6, c6, ys, hkk, hg, rfl, rfl, BW, SY, CY, WY⟩ := hrel
    by_cases hlt : kk < n
    · have hlt2 : kk < (wl xs).length := by rw [← HN.out]; exact hlt
      obtain ⟨b1, o1, rfl, p0⟩ := (s2.below BW.out).int_at kk hlt2
      have ST0 := sl_tail2 (s2.below BW.out) (kk + 1)
      have hcons : wl ys = (wl xs)[kk] :: (wl xs).drop (kk + 1) := by rw [WY.out]; exact List.drop_eq_getElem_cons hlt2
      generalize (wl xs)[kk] = id at *
      obtain ⟨d1, d2, d3, d4⟩ := drop_first CY.out hcons
      have hyl := chk_len CY.out
      have DC := drop_c A6 c6 ys wr id SY.out (by omega)
      have WC := fun A' c' W (h : Sl Fd.enc 3 W A' (dropL ys id)) => waits_c A' c' (dropL ys id) W h (by rw [d4]; omega)
      generalize hzz : dropL ys id = zs at *
      have hwz : waitsL zs = (wl xs).drop (kk + 1) := by unfold waitsL; rw [if_pos d2, d3]
      rw [hwz, errC_yes d2] at WC
      rw [d1] at DC
      have hrl : ((wl xs).drop (kk + 1)).length = n - (kk + 1) := by rw [List.length_drop, ← HN.out]
      have hnil : Hid (n = kk + 1 → (wl xs).drop (kk + 1) = []) := by intro h; apply List.eq_nil_of_length_eq_zero; omega
      have HWR : Hid (wl zs = (wl xs).drop (kk + 1)) := Lib.hid d3
      have ST := ST0
      clear ST0
      generalize hre : (wl xs).drop (kk + 1) = rest at *
      have HRE := Lib.hid hre
      clear hre
      have SM : ∀ A' B' c' d' W, Sl encI 1 W A' rest → Sl encI 1 W B' rest → Calls Try.prog 26 #[.slice A' rest.length c', .slice B' (n - (kk + 1)) d'] W fun e w' => e = .returned (.bool true) ∧ Below W.heap.size W w' := by
        intro A' B' c' d' W h1 h2
        rw [← hrl]
        exact same_ints A' B' c' d' rest W h1 h2 (by omega)
      have z0 : (0 : Int) ≤ (kk : Int) := by omega
      have z1 : (kk : Int) < (n : Int) := by omega
      have HD := Lib.hid d2
      clear hcons d1 d2 d3 d4 hwz hrl hx2 hzz
      go_wp2_with fail
      refine DC.mono ?_
      rintro e w3 ⟨A3, c3, rfl, own3, hb3⟩
      have s3 := own_sl own3
      go_wp2_with fail
      refine (WC A3 c3 w3 s3).mono ?_
      rintro e w4 ⟨A4, c4, rfl, s4, hl4, hb4⟩
      have ST4 := (ST.below hb3).below hb4
      have B4 := BW.out.trans ((below_then hb3 hb4).mono BW.out.size)
      have s34 := s3.below hb4
      clear WC DC s3 own3 ST hb3 hb4 p0
      by_cases hrk : r = kk
      · subst hrk
        have hr0 : rest = [] := hnil.out (by omega)
        subst hr0
        clear SM ST4 hnil
        go_wp2_with fail
        refine (same_ints A4 (some ⟨b1, o1, none⟩) c4 0 [] w4 s4 (Sl.nil _ _ _ _) (by decide)).mono ?_
        rintro e w5 ⟨rfl, hb5⟩
        have B5 := B4.trans (hb5.mono B4.size)
        have s35 := s34.below hb5
        go_wp2_with fail
        go_roundg (n - (r + 1))
        case measure => omega
        case rel => exact ⟨r + 1, A3, c3, zs, by omega, by omega, by go_num, rfl, B5, s35, HD.out, by show _ = _; rw [HRE.out]; exact HWR.out⟩
      · have hrk2 : ¬ r + 1 = kk + 1 := by omega
        go_wp2_with fail
        refine (SM A4 _ _ _ w4 s4 ST4).mono ?_
        rintro e w5 ⟨rfl, hb5⟩
        have B5 := B4.trans (hb5.mono B4.size)
        have s35 := s34.below hb5
        go_wp2_with fail
        go_roundg (n - (kk + 1))
        case measure => omega
        case rel => exact ⟨kk + 1, A3, c3, zs, by omega, by omega, by go_num, rfl, B5, s35, HD.out, by show _ = _; rw [HRE.out]; exact HWR.out⟩
    · have hkx : kk = n := by omega
      have hx3 := hx2.below BW.out
      have HBB := Lib.hid (below_then HB.out BW.out)
      clear hkx SY CY WY s2
      go_wp2_with fail
      go_loopg [13, 15, 75] xs.length (fun gg s13 _ s75 wq => ∃ mm : Nat, mm ≤ xs.length ∧ xs.length - mm ≤ gg ∧ s75 = .int .i64 mm ∧ s13 = .int .i64 (many xs mm) ∧ Aside (Below wr.heap.size wr wq))
      case atStart => exact ⟨0, Nat.zero_le _, by omega, rfl, rfl, Below.refl _ _⟩
      case round =>
        obtain ⟨mm, hmm, hgm, rfl, rfl, BQ⟩ := hrel
        by_cases hlt2 : mm < xs.length
        · obtain ⟨b, off, rfl, c0, c1, c2⟩ := (hx3.below BQ.out).fd_at mm hlt2
          have z0 : (0 : Int) ≤ (mm : Int) := by omega
          have z1 : (mm : Int) < (xs.length : Int) := by omega
          have ST := Lib.hid (many_step hlt2)
          have hml := many_le xs mm
          by_cases hw : xs[mm].w = -1
          · have hwb : (xs[mm].w == -1) = true := by simpa using hw
            have HW := Lib.hid hw
            clear hw hx3
            go_wp2_with fail
            go_roundg (xs.length - (mm + 1))
            case measure => omega
            case rel => exact ⟨mm + 1, by omega, by omega, by go_num, by rw [ST.out, if_pos HW.out, Int.add_zero], BQ.out.alloc BQ.out.size _⟩
          · have hwb : (xs[mm].w == -1) = false := by simpa using hw
            have HW := Lib.hid hw
            clear hw hx3
            go_wp2_with fail
            go_roundg (xs.length - (mm + 1))
            case measure => omega
            case rel => exact ⟨mm + 1, by omega, by omega, by go_num, by rw [ST.out, if_neg HW.out], BQ.out.alloc BQ.out.size _⟩
        · have hmx : mm = xs.length := by omega
          have hmn : many xs mm = (n : Int) := by unfold many; rw [hmx, List.take_length, ← HN.out]
          have hmb : (many xs mm == (n : Int)) = true := by rw [hmn]; simp
          clear hmx hmn
          go_wp2_with fail
          go_ret
          exact ⟨rfl, below_then HBB.out BQ.out⟩
theorem waits_any (A : Option Addr) (c : Nat) (xs : List Fd) (w : World) (hx : Sl Fd.enc 3 w A xs) (hbig : xs.length ≤ 9223372036854775807) :
    Calls Try.prog 7 #[.slice A xs.length c] w fun e w' => e = .returned (.bool true) ∧ Below w.heap.size w w' := by
  cases hc : chk xs
  · exact waits_bad A c xs w hx hbig (.inr hc)
  · by_cases hz : (wl xs).length = 0
    · exact waits_zero A c xs w hx hc hz
    · exact waits_pos A c xs w hx hc hz
end Go.Proofs.Ytkckhnblkjgkdaa
