/- Layer 15: fair.Wake. -/
import Derived.Test.YtcgddfpfmnpaeaaN
import Derived.Test.YtcgddfpfmnpaeaaM
namespace Go.Proofs.Ytcgddfpfmnpaeaa
open Go.RowKit

def mx (a b : Int) : Int := if a < b then b else a
def wakeE (xs : List Ten) (bs : List Bool) (i : Int) : Int := if leastE xs bs = 1 then 1 else findE xs i
def wakeL (xs : List Ten) (bs : List Bool) (i : Int) : List Ten :=
  if wakeE xs bs i ≠ 0 then [] else if leastE xs bs = 0 then setTag xs i (mx (tenAt xs i).t (tenAt xs (leastV xs bs)).t) else xs

set_option maxHeartbeats 2000000 in
theorem wake_any (b off c cb : Nat) (A Ab : Option Addr) (xs : List Ten) (bs : List Bool) (i : Int) (w : World) (hA : 0 < xs.length → A = some ⟨b, off, none⟩) (hx : Sl Ten.enc 5 w A xs) (hbs : Sl encB 1 w Ab bs) (hbig : xs.length ≤ 9223372036854775807) :
    Calls Try.prog 12 #[.slice A xs.length c, .int .i64 i, .slice Ab bs.length cb] w (Gives w (wakeL xs bs i) (wakeE xs bs i)) := by
  have hle := fun W (h : Sl Ten.enc 5 W A xs) (h' : Sl encB 1 W Ab bs) => least_any A Ab c cb xs bs W h h' hbig
  by_cases h1 : leastE xs bs = 1
  case pos =>
    have hE : wakeE xs bs i = 1 := by unfold wakeE; rw [if_pos h1]
    have hL : wakeL xs bs i = [] := by unfold wakeL; rw [if_pos (by omega)]
    rw [hE, hL]
    rw [h1] at hle
    generalize leastV xs bs = q at *
    clear h1 hE hL
    go_enter Try.func12, Try.ntmps12
    go_wp2_with fail
    refine (hle w hx hbs).mono ?_
    rintro e w1 ⟨rfl, hb1⟩
    go_wp2_with fail
    go_ret2
    exact gives_no rfl hb1
  case neg =>
    have hE : wakeE xs bs i = findE xs i := by unfold wakeE; rw [if_neg h1]
    have hl05 : leastE xs bs = 0 ∨ leastE xs bs = 5 := by rcases leastE_three xs bs with h | h | h <;> omega
    by_cases hf : findE xs i = 0
    case neg =>
      have hL : wakeL xs bs i = [] := by unfold wakeL; rw [if_pos (by omega)]
      rw [hE, hL]
      have ho := fun W (h : Sl Ten.enc 5 W A xs) => own_no A c xs i W h hbig hf
      have hq : (findE xs i == 0) = false := by simpa using hf
      clear hE hL h1 hf
      generalize findE xs i = r at *
      generalize leastV xs bs = q at *
      rcases hl05 with h | h
      all_goals
        rw [h] at hle
        clear h
        go_enter Try.func12, Try.ntmps12
        go_wp2_with fail
        refine (hle w hx hbs).mono ?_
        rintro e w1 ⟨rfl, hb1⟩
        go_wp2_with fail
        refine (ho w1 (hx.below hb1)).mono ?_
        rintro e w2 ⟨rfl, hb2⟩
        go_wp2_with fail
        go_ret2
        exact gives_no rfl (below_then hb1 hb2)
    case pos =>
      rw [hf] at hE
      rcases findE_cases xs i with ⟨_, he⟩ | ⟨_, _, he⟩ | ⟨hc, h0, h2, _⟩
      · omega
      · omega
      obtain ⟨n, rfl⟩ := Int.eq_ofNat_of_zero_le h0
      have hn : n < xs.length := by omega
      obtain rfl := hA (by omega)
      have ho := fun W (h : Sl Ten.enc 5 W (some ⟨b, off, none⟩) xs) => own_yes b off c xs n W h hn hc
      rcases hl05 with h | h
      · obtain ⟨hx1, k, hk, hbest, hx2, hx3⟩ := least_spec h
        clear hx1 hx2 hx3
        have hL : wakeL xs bs n = xs.set n { xs[n] with t := mx xs[n].t xs[k].t } := by
          unfold wakeL; rw [if_neg (by omega), if_pos h, hbest, setTag, tenAt_nat hn, tenAt_nat hk]; rfl
        rw [hE, hL]
        rw [h, hbest] at hle
        have HS := fun (W : World) (base g cap : Nat) (h : Own Ten.enc 5 34 base W (.slice (some ⟨g, 0, none⟩) xs.length cap) xs) => own_setTag h n hn (mx xs[n].t xs[k].t)
        have HS := Lib.hid HS
        clear hE hL h1 hf h0 h2 h hbest hA
        go_enter Try.func12, Try.ntmps12
        go_wp2_with fail
        refine (hle w hx hbs).mono ?_
        rintro e w1 ⟨rfl, hb1⟩
        go_wp2_with fail
        refine (ho w1 (hx.below hb1)).mono ?_
        rintro e w2 ⟨g, cap, rfl, hown, hb2⟩
        obtain ⟨c0, c1, c2, c3, c4, hfz⟩ := own_cells hown n hn
        obtain ⟨b', o', hA', _, _, _, d3, _⟩ := (hx.below (below_then hb1 hb2)).ten_at k hk
        obtain ⟨rfl, rfl⟩ : b = b' ∧ off = o' := by simpa using hA'
        have f3 := hfz (n * 5 + 3)
        have z0 : (0 : Int) ≤ (k : Int) := by omega
        have z1 : (k : Int) < (xs.length : Int) := by omega
        have hle1 := own_base_le hown hn
        have HO := Lib.hid hown
        clear hfz hA' hx hbs hown hle ho
        go_wp2_with fail
        go_still_tail 13, (by kernel_rfl)
        change wpList _ _ _ _ _ w2.drew
        have hmx : (if xs[n].t < xs[k].t then xs[k].t else xs[n].t) = mx xs[n].t xs[k].t := rfl
        rw [hmx]
        clear hmx
        go_wp2_with fail
        go_ret2
        refine ⟨some ⟨g, 0, none⟩, cap, ?_, ((HS.out _ _ _ _ HO.out).lower hb1.size).below (Below.refl _ _).drew, ((below_then hb1 hb2).setCell (Nat.le_trans hb1.size hle1) _).drew⟩
        rw [List.length_set]; rfl
      · have hL : wakeL xs bs n = xs := by unfold wakeL; rw [if_neg (by omega), if_neg (by omega)]
        rw [hE, hL]
        rw [h] at hle
        generalize leastV xs bs = q at *
        clear hE hL h1 hf h0 h2 h
        go_enter Try.func12, Try.ntmps12
        go_wp2_with fail
        refine (hle w hx hbs).mono ?_
        rintro e w1 ⟨rfl, hb1⟩
        go_wp2_with fail
        refine (ho w1 (hx.below hb1)).mono ?_
        rintro e w2 ⟨g, cap, rfl, hown, hb2⟩
        go_wp2_with fail
        go_ret2
        exact ⟨some ⟨g, 0, none⟩, cap, rfl, hown.lower hb1.size, below_then hb1 hb2⟩
theorem wake_slice (A Ab : Option Addr) (c cb : Nat) (xs : List Ten) (bs : List Bool) (i : Int) (w : World) (hx : Sl Ten.enc 5 w A xs) (hbs : Sl encB 1 w Ab bs) (hbig : xs.length ≤ 9223372036854775807) :
    Calls Try.prog 12 #[.slice A xs.length c, .int .i64 i, .slice Ab bs.length cb] w (Gives w (wakeL xs bs i) (wakeE xs bs i)) := by
  by_cases h0 : 0 < xs.length
  · obtain ⟨b, off, rfl, hc⟩ := hx h0
    exact wake_any b off c cb _ Ab xs bs i w (fun _ => rfl) hx hbs hbig
  · exact wake_any 0 0 c cb A Ab xs bs i w (fun h => absurd h h0) hx hbs hbig
end Go.Proofs.Ytcgddfpfmnpaeaa
