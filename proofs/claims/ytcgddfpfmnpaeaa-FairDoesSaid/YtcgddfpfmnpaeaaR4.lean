/- Layer 15: the reference's Wake. -/
import Derived.Test.YtcgddfpfmnpaeaaR3
namespace Go.Proofs.Ytcgddfpfmnpaeaa
open Go.RowKit

theorem leastE_one {xs : List Ten} {bs : List Bool} : leastE xs bs = 1 ↔ (chk xs = false ∨ bs.length ≠ xs.length) := by
  constructor
  · intro h
    cases hc : chk xs
    · exact .inl rfl
    · refine .inr (fun hb => ?_)
      unfold leastE at h
      rw [if_pos ⟨hc, hb⟩] at h
      split at h <;> omega
  · intro h; exact (least_bad h).1

set_option maxHeartbeats 4000000 in
theorem refWake_any (A Ab : Option Addr) (c cb : Nat) (xs : List Ten) (bs : List Bool) (i : Int) (w : World) (hx : Sl Ten.enc 5 w A xs) (hbs : Sl encB 1 w Ab bs) (hbig : xs.length ≤ 9223372036854775807) :
    Calls Try.prog 18 #[.slice A xs.length c, .int .i64 i, .slice Ab bs.length cb] w (Gives w (wakeL xs bs i) (wakeE xs bs i)) := by
  have hck := refCheck_any A c xs w hx
  have hle := fun W (h : Sl Ten.enc 5 W A xs) (h' : Sl encB 1 W Ab bs) => refLeast_any A Ab c cb xs bs W h h' hbig
  by_cases h1 : leastE xs bs = 1
  case pos =>
    have hE : wakeE xs bs i = 1 := by unfold wakeE; rw [if_pos h1]
    have hL : wakeL xs bs i = [] := by unfold wakeL; rw [if_pos (by omega)]
    rw [hE, hL]
    rcases leastE_one.1 h1 with hc | hb
    · rw [hc] at hck
      clear h1 hE hL hc
      go_enter Try.func18, Try.ntmps18
      go_wp2_with (go_at_call 32; refine hck.mono ?_; rintro e w1 ⟨rfl, hb1⟩)
      go_ret2
      exact gives_no rfl hb1
    · have hne : ((bs.length : Int) != (xs.length : Int)) = true := by simp; omega
      cases hc : chk xs
      all_goals
        rw [hc] at hck
        clear h1 hE hL hc hb
        go_enter Try.func18, Try.ntmps18
        go_wp2_with (go_at_call 32; refine hck.mono ?_; rintro e w1 ⟨rfl, hb1⟩)
        go_ret2
        exact gives_no rfl hb1
  case neg =>
    have hE : wakeE xs bs i = findE xs i := by unfold wakeE; rw [if_neg h1]
    have hl05 : leastE xs bs = 0 ∨ leastE xs bs = 5 := by rcases leastE_three xs bs with h | h | h <;> omega
    have hcb : chk xs = true ∧ bs.length = xs.length := by
      cases hc : chk xs
      · exact absurd (leastE_one.2 (.inl hc)) h1
      · refine ⟨rfl, ?_⟩
        by_cases hb : bs.length = xs.length
        · exact hb
        · exact absurd (leastE_one.2 (.inr hb)) h1
    obtain ⟨hc, hlen⟩ := hcb
    have hne : ((bs.length : Int) != (xs.length : Int)) = false := by simp; omega
    have hl := (chk_len hc).2
    rw [hc] at hck
    rcases findE_cases xs i with ⟨hc2, _⟩ | ⟨_, hi, he⟩ | ⟨_, h0, h2, he⟩
    · rw [hc] at hc2; cases hc2
    · have hL : wakeL xs bs i = [] := by unfold wakeL; rw [if_pos (by omega)]
      rw [hE, hL, he]
      clear hE hL h1 he hc hl05 hlen
      by_cases hi0 : i < 0
      · clear hi
        go_enter Try.func18, Try.ntmps18
        go_wp2_with (go_at_call 32; refine hck.mono ?_; rintro e w1 ⟨rfl, hb1⟩)
        go_ret2
        exact gives_no rfl hb1
      · have hi1 : (xs.length : Int) ≤ i := by omega
        clear hi
        go_enter Try.func18, Try.ntmps18
        go_wp2_with (go_at_call 32; refine hck.mono ?_; rintro e w1 ⟨rfl, hb1⟩)
        go_ret2
        exact gives_no rfl hb1
    · obtain ⟨n, rfl⟩ := Int.eq_ofNat_of_zero_le h0
      have hn : n < xs.length := by omega
      rw [he] at hE
      rcases hl05 with h | h
      · obtain ⟨hx1, k, hk, hbest, hx2, hx3⟩ := least_spec h
        clear hx1 hx2 hx3
        have hL : wakeL xs bs n = xs.set n { xs[n] with t := mx xs[n].t xs[k].t } := by
          unfold wakeL; rw [if_neg (by omega), if_pos h, hbest, setTag, tenAt_nat hn, tenAt_nat hk]; rfl
        rw [hE, hL]
        rw [h, hbest] at hle
        have hw := fun W (h : Sl Ten.enc 5 W A xs) => refWith_any A c xs n { xs[n] with t := mx xs[n].t xs[k].t } W h hn (by omega)
        have z0 : (0 : Int) ≤ (k : Int) := by omega
        have z1 : (k : Int) < (xs.length : Int) := by omega
        clear hE hL h1 h hbest hc hlen he
        go_enter Try.func18, Try.ntmps18
        go_wp2_with fail
        refine hck.mono ?_
        rintro e w1 ⟨rfl, hb1⟩
        obtain ⟨b1, o1, rfl, c0, c1, c2, c3, c4⟩ := (hx.below hb1).ten_at n hn
        have hb2 := hb1.alloc hb1.size (.cells #[.int .i64 xs[n].w, .int .i64 xs[n].q, .int .i64 xs[n].l, .int .i64 xs[n].t, .int .i64 xs[n].r] 34)
        go_wp2_with fail
        refine (hle _ (hx.below hb2) (hbs.below hb2)).mono ?_
        rintro e w3 ⟨rfl, hb3⟩
        have hb4 := below_then hb2 hb3
        have k0 : w3.cell? ⟨w1.heap.size, 0, none⟩ = some (.int .i64 xs[n].w) := cell_below hb3 (by simp)
        have k1 : w3.cell? ⟨w1.heap.size, 1, none⟩ = some (.int .i64 xs[n].q) := cell_below hb3 (by simp)
        have k2 : w3.cell? ⟨w1.heap.size, 2, none⟩ = some (.int .i64 xs[n].l) := cell_below hb3 (by simp)
        have k3 : w3.cell? ⟨w1.heap.size, 3, none⟩ = some (.int .i64 xs[n].t) := cell_below hb3 (by simp)
        have k4 : w3.cell? ⟨w1.heap.size, 4, none⟩ = some (.int .i64 xs[n].r) := cell_below hb3 (by simp)
        have kf : w3.frozen? ⟨w1.heap.size, 3, none⟩ = false := by rw [hb3.frozen (by simp)]; simp
        obtain ⟨b2, o2, hA, _, _, _, d3, _⟩ := (hx.below hb4).ten_at k hk
        obtain ⟨rfl, rfl⟩ : b1 = b2 ∧ o1 = o2 := by simpa using hA
        have hg : w.heap.size ≤ w1.heap.size := hb1.size
        generalize w1.heap.size = g1 at *
        clear c0 c1 c2 c3 c4 hA hle hck hb3 hb2 hb1
        go_wp2_with fail
        go_still_tail 9, (by kernel_rfl)
        change wpList _ _ _ _ _ w3.drew
        have hmx : (if xs[n].t < xs[k].t then xs[k].t else xs[n].t) = mx xs[n].t xs[k].t := rfl
        rw [hmx]
        clear hmx
        go_wp2_with fail
        have hb5 := (hb4.setCell (p := ⟨g1, 3, none⟩) hg (.int .i64 (mx xs[n].t xs[k].t))).drew
        refine (hw _ (hx.below hb5)).mono ?_
        rintro e w6 ⟨g, d, rfl, hown, hb6⟩
        go_wp2_with fail
        go_ret2
        refine ⟨some ⟨g, 0, none⟩, d, ?_, hown.lower hb5.size, below_then hb5 hb6⟩
        rw [List.length_set]; rfl
      · have hL : wakeL xs bs n = xs := by unfold wakeL; rw [if_neg (by omega), if_neg (by omega)]
        rw [hE, hL]
        rw [h] at hle
        have hw := fun W (h : Sl Ten.enc 5 W A xs) => refWith_any A c xs n xs[n] W h hn (by omega)
        generalize leastV xs bs = q at *
        clear hE hL h1 h hc hlen he
        go_enter Try.func18, Try.ntmps18
        go_wp2_with fail
        refine hck.mono ?_
        rintro e w1 ⟨rfl, hb1⟩
        obtain ⟨b1, o1, rfl, c0, c1, c2, c3, c4⟩ := (hx.below hb1).ten_at n hn
        have hb2 := hb1.alloc hb1.size (.cells #[.int .i64 xs[n].w, .int .i64 xs[n].q, .int .i64 xs[n].l, .int .i64 xs[n].t, .int .i64 xs[n].r] 34)
        go_wp2_with fail
        refine (hle _ (hx.below hb2) (hbs.below hb2)).mono ?_
        rintro e w3 ⟨rfl, hb3⟩
        have hb4 := below_then hb2 hb3
        have k0 : w3.cell? ⟨w1.heap.size, 0, none⟩ = some (.int .i64 xs[n].w) := cell_below hb3 (by simp)
        have k1 : w3.cell? ⟨w1.heap.size, 1, none⟩ = some (.int .i64 xs[n].q) := cell_below hb3 (by simp)
        have k2 : w3.cell? ⟨w1.heap.size, 2, none⟩ = some (.int .i64 xs[n].l) := cell_below hb3 (by simp)
        have k3 : w3.cell? ⟨w1.heap.size, 3, none⟩ = some (.int .i64 xs[n].t) := cell_below hb3 (by simp)
        have k4 : w3.cell? ⟨w1.heap.size, 4, none⟩ = some (.int .i64 xs[n].r) := cell_below hb3 (by simp)
        have hx4 := hx.below hb4
        clear hb2 hb3 hle hck
        go_wp2_with fail
        refine (hw w3 hx4).mono ?_
        rintro e w5 ⟨g, d, rfl, hown, hb5⟩
        go_wp2_with fail
        go_ret2
        rw [List.set_getElem_self] at hown
        exact ⟨some ⟨g, 0, none⟩, d, rfl, hown.lower hb4.size, below_then hb4 hb5⟩

def gapE (xs : List Ten) (i k : Int) : Int := if findE xs i ≠ 0 then findE xs i else findE xs k
def gapV (xs : List Ten) (i k : Int) : Int := if gapE xs i k = 0 then (tenAt xs i).t - (tenAt xs k).t else 0
theorem gap_no {xs : List Ten} {i k : Int} (h : gapE xs i k ≠ 0) : gapV xs i k = 0 := by unfold gapV; rw [if_neg h]
set_option maxHeartbeats 4000000 in
theorem gap_any (A : Option Addr) (c : Nat) (xs : List Ten) (i k : Int) (w : World) (hx : Sl Ten.enc 5 w A xs) (hbig : xs.length ≤ 9223372036854775807) :
    Calls Try.prog 20 #[.slice A xs.length c, .int .i64 i, .int .i64 k] w fun e w' => e = .returned (.tuple #[.int .i64 (gapV xs i k), .int .i64 (gapE xs i k)]) ∧ Below w.heap.size w w' := by
  by_cases hi : findE xs i = 0
  case neg =>
    have hE : gapE xs i k = findE xs i := by unfold gapE; rw [if_pos hi]
    rw [gap_no (by rw [hE]; exact hi), hE]
    have h1 := fun W (h : Sl Ten.enc 5 W A xs) => own_no A c xs i W h hbig hi
    have hq : (findE xs i != 0) = true := by simpa using hi
    by_cases hk : findE xs k = 0
    · rcases findE_cases xs k with ⟨_, he⟩ | ⟨_, _, he⟩ | ⟨hc, h0, h2, _⟩
      · omega
      · omega
      obtain ⟨m, rfl⟩ := Int.eq_ofNat_of_zero_le h0
      have hm : m < xs.length := by omega
      obtain ⟨b, off, rfl, _⟩ := hx.ten_at m hm
      have h3 := fun W (h : Sl Ten.enc 5 W (some ⟨b, off, none⟩) xs) => own_yes b off c xs m W h hm hc
      clear hE hi hk hc
      generalize findE xs i = q at *
      go_enter Try.func20, Try.ntmps20
      go_wp2_with fail
      refine (h1 w hx).mono ?_
      rintro e w1 ⟨rfl, hb1⟩
      go_wp2_with fail
      refine (h3 w1 (hx.below hb1)).mono ?_
      rintro e w2 ⟨g, d, rfl, hown, hb2⟩
      go_wp2_with fail
      go_ret2
      exact ⟨rfl, below_then hb1 hb2⟩
    · have h3 := fun W (h : Sl Ten.enc 5 W A xs) => own_no A c xs k W h hbig hk
      clear hE hi hk
      generalize findE xs i = q at *
      generalize findE xs k = r at *
      go_enter Try.func20, Try.ntmps20
      go_wp2_with fail
      refine (h1 w hx).mono ?_
      rintro e w1 ⟨rfl, hb1⟩
      go_wp2_with fail
      refine (h3 w1 (hx.below hb1)).mono ?_
      rintro e w2 ⟨rfl, hb2⟩
      go_wp2_with fail
      go_ret2
      exact ⟨rfl, below_then hb1 hb2⟩
  case pos =>
    have hE : gapE xs i k = findE xs k := by unfold gapE; rw [if_neg (by simpa using hi)]
    rcases findE_cases xs i with ⟨_, he⟩ | ⟨_, _, he⟩ | ⟨hc, h0, h2, _⟩
    · omega
    · omega
    obtain ⟨n, rfl⟩ := Int.eq_ofNat_of_zero_le h0
    have hn : n < xs.length := by omega
    have hbn := ok_bounds (find_ten hc hn)
    obtain ⟨b, off, rfl, _⟩ := hx.ten_at n hn
    have h1 := fun W (h : Sl Ten.enc 5 W (some ⟨b, off, none⟩) xs) => own_yes b off c xs n W h hn hc
    by_cases hk : findE xs k = 0
    · have hV : gapV xs n k = (tenAt xs n).t - (tenAt xs k).t := by unfold gapV; rw [if_pos (by omega)]
      rw [hE, hk, hV, tenAt_nat hn]
      rcases findE_cases xs k with ⟨_, he⟩ | ⟨_, _, he⟩ | ⟨_, h3, h4, _⟩
      · omega
      · omega
      obtain ⟨m, rfl⟩ := Int.eq_ofNat_of_zero_le h3
      have hm : m < xs.length := by omega
      have hbm := ok_bounds (find_ten hc hm)
      rw [tenAt_nat hm]
      have h3 := fun W (h : Sl Ten.enc 5 W (some ⟨b, off, none⟩) xs) => own_yes b off c xs m W h hm hc
      clear hE hV hi hk hc
      go_enter Try.func20, Try.ntmps20
      go_wp2_with fail
      refine (h1 w hx).mono ?_
      rintro e w1 ⟨g, d, rfl, hown, hb1⟩
      obtain ⟨_, _, _, c3, _, _⟩ := own_cells hown n hn
      go_wp2_with fail
      refine (h3 w1 (hx.below hb1)).mono ?_
      rintro e w2 ⟨g2, d2, rfl, hown2, hb2⟩
      obtain ⟨_, _, _, e3, _, _⟩ := own_cells hown2 m hm
      have k3 := cell_below hb2 c3
      have HB := Lib.hid (below_then hb1 hb2)
      clear hown hown2 hb1 hb2 c3 hx h1 h3
      go_wp2_with fail
      go_quiet (fail)
      go_wp2_with fail
      go_ret2
      exact ⟨rfl, below_drewN HB.out _⟩
    · rw [gap_no (by rw [hE]; exact hk), hE]
      have h3 := fun W (h : Sl Ten.enc 5 W (some ⟨b, off, none⟩) xs) => own_no (some ⟨b, off, none⟩) c xs k W h hbig hk
      have hq : (findE xs k != 0) = true := by simpa using hk
      clear hE hi hk hc
      generalize findE xs k = q at *
      go_enter Try.func20, Try.ntmps20
      go_wp2_with fail
      refine (h1 w hx).mono ?_
      rintro e w1 ⟨g, d, rfl, hown, hb1⟩
      go_wp2_with fail
      refine (h3 w1 (hx.below hb1)).mono ?_
      rintro e w2 ⟨rfl, hb2⟩
      go_wp2_with fail
      go_ret2
      exact ⟨rfl, below_then hb1 hb2⟩
end Go.Proofs.Ytcgddfpfmnpaeaa
