/- Layer 15: the reference's Charge, Refund. -/
import Derived.Test.YtcgddfpfmnpaeaaR1
namespace Go.Proofs.Ytcgddfpfmnpaeaa
open Go.RowKit

set_option maxHeartbeats 4000000 in
theorem refCharge_any (A : Option Addr) (c : Nat) (xs : List Ten) (i u : Int) (w : World) (hx : Sl Ten.enc 5 w A xs) :
    Calls Try.prog 16 #[.slice A xs.length c, .int .i64 i, .int .i64 u] w (Gives w (chargeL xs i u) (chargeE xs i u)) := by
  have ho := refFind_any A c xs i w hx
  by_cases hf : findE xs i = 0
  case neg =>
    have hE : chargeE xs i u = findE xs i := by unfold chargeE; rw [if_pos hf]
    rw [chargeL_no (by rw [hE]; exact hf), hE]
    have hq : (findE xs i == 0) = false := by simpa using hf
    have hq2 : (findE xs i != 0) = true := by simpa using hf
    clear hE hf hx
    generalize findE xs i = q at *
    go_enter Try.func16, Try.ntmps16
    go_wp2_with (go_at_call 30; refine ho.mono ?_; rintro e w1 ⟨rfl, hb1⟩)
    go_ret2
    exact gives_no rfl hb1
  case pos =>
    rw [hf] at ho
    rcases findE_cases xs i with ⟨_, he⟩ | ⟨_, _, he⟩ | ⟨hc, h0, h1, _⟩
    · omega
    · omega
    obtain ⟨n, rfl⟩ := Int.eq_ofNat_of_zero_le h0
    have hn : n < xs.length := by omega
    have hl := (chk_len hc).2
    have hbd := ok_bounds (find_ten hc hn)
    have hcost := fun W => refCost_any xs[n].w u W
    have hco := @cost_ok xs[n].w u hbd.1 hbd.2.1
    have hE : chargeE xs n u = if costE xs[n].w u ≠ 0 then costE xs[n].w u else if maxTag - xs[n].t < costV xs[n].w u then 4 else 0 := by
      unfold chargeE; rw [if_neg (by simpa using hf), tenAt_nat hn]
    have hL : chargeL xs n u = if chargeE xs n u = 0 then xs.set n { xs[n] with t := xs[n].t + costV xs[n].w u } else [] := by
      unfold chargeL setTag; rw [tenAt_nat hn]; rfl
    have z0 : (0 : Int) ≤ (n : Int) := by omega
    clear hf h0 hc
    by_cases hce : costE xs[n].w u = 0
    case neg =>
      rw [if_pos hce] at hE
      rw [chargeL_no (by rw [hE]; exact hce), hE]
      have hq := costE_ne hce
      have hq2 : (costE xs[n].w u != 0) = true := by simpa using hce
      clear hco hE hL hce
      generalize costE xs[n].w u = q at *
      generalize costV xs[n].w u = v at *
      go_enter Try.func16, Try.ntmps16
      go_wp2_with fail
      refine ho.mono ?_
      rintro e w1 ⟨rfl, hb1⟩
      obtain ⟨b1, o1, rfl, c0, c1, c2, c3, c4⟩ := (hx.below hb1).ten_at n hn
      go_wp2_with fail
      refine (hcost _).mono ?_
      rintro e w2 ⟨rfl, rfl⟩
      go_wp2_with fail
      go_ret2
      exact gives_no rfl (hb1.alloc hb1.size _)
    case pos =>
      have hv := hco hce
      rw [if_neg (by simpa using hce)] at hE
      unfold maxTag at hE
      by_cases hl : 1152921504606846976 - xs[n].t < costV xs[n].w u
      · rw [if_pos hl] at hE
        rw [chargeL_no (by omega), hE]
        clear hE hL
        rw [hce] at hcost
        clear hco hce
        generalize costV xs[n].w u = v at *
        have hbad : 1152921504606846976 < xs[n].t + v := by omega
        go_enter Try.func16, Try.ntmps16
        go_wp2_with fail
        refine ho.mono ?_
        rintro e w1 ⟨rfl, hb1⟩
        obtain ⟨b1, o1, rfl, c0, c1, c2, c3, c4⟩ := (hx.below hb1).ten_at n hn
        go_wp2_with fail
        refine (hcost _).mono ?_
        rintro e w2 ⟨rfl, rfl⟩
        go_wp2_with fail
        go_ret2
        exact gives_no rfl (hb1.alloc hb1.size _)
      · rw [if_neg hl] at hE
        rw [hE, if_pos rfl] at hL
        rw [hL, hE]
        clear hE hL
        rw [hce] at hcost
        clear hco hce
        have hw := fun W (h : Sl Ten.enc 5 W A xs) => refWith_any A c xs n { xs[n] with t := xs[n].t + costV xs[n].w u } W h hn (by omega)
        generalize costV xs[n].w u = v at *
        have hgood : xs[n].t + v ≤ 1152921504606846976 := by omega
        go_enter Try.func16, Try.ntmps16
        go_wp2_with fail
        refine ho.mono ?_
        rintro e w1 ⟨rfl, hb1⟩
        obtain ⟨b1, o1, rfl, c0, c1, c2, c3, c4⟩ := (hx.below hb1).ten_at n hn
        go_wp2_with fail
        refine (hcost _).mono ?_
        rintro e w2 ⟨rfl, rfl⟩
        go_wp2_with fail
        have hb2 := hb1.alloc hb1.size (.cells #[.int .i64 xs[n].w, .int .i64 xs[n].q, .int .i64 xs[n].l, .int .i64 (xs[n].t + v), .int .i64 xs[n].r] 34)
        refine (hw _ (hx.below hb2)).mono ?_
        rintro e w3 ⟨g, d, rfl, hown, hb3⟩
        go_wp2_with fail
        go_ret2
        refine ⟨some ⟨g, 0, none⟩, d, ?_, hown.lower hb2.size, below_then hb2 hb3⟩
        rw [List.length_set]; rfl

set_option maxHeartbeats 4000000 in
theorem refRefund_any (A : Option Addr) (c : Nat) (xs : List Ten) (i u : Int) (w : World) (hx : Sl Ten.enc 5 w A xs) :
    Calls Try.prog 17 #[.slice A xs.length c, .int .i64 i, .int .i64 u] w (Gives w (refundL xs i u) (refundE xs i u)) := by
  have ho := refFind_any A c xs i w hx
  by_cases hf : findE xs i = 0
  case neg =>
    have hE : refundE xs i u = findE xs i := by unfold refundE; rw [if_pos hf]
    rw [refundL_no (by rw [hE]; exact hf), hE]
    have hq : (findE xs i == 0) = false := by simpa using hf
    have hq2 : (findE xs i != 0) = true := by simpa using hf
    clear hE hf hx
    generalize findE xs i = q at *
    go_enter Try.func17, Try.ntmps17
    go_wp2_with (go_at_call 30; refine ho.mono ?_; rintro e w1 ⟨rfl, hb1⟩)
    go_ret2
    exact gives_no rfl hb1
  case pos =>
    rw [hf] at ho
    rcases findE_cases xs i with ⟨_, he⟩ | ⟨_, _, he⟩ | ⟨hc, h0, h1, _⟩
    · omega
    · omega
    obtain ⟨n, rfl⟩ := Int.eq_ofNat_of_zero_le h0
    have hn : n < xs.length := by omega
    have hlen := (chk_len hc).2
    have hbd := ok_bounds (find_ten hc hn)
    have hcost := fun W => refCost_any xs[n].w u W
    have hco := @cost_ok xs[n].w u hbd.1 hbd.2.1
    have hE : refundE xs n u = if costE xs[n].w u = 1 then 1 else if costE xs[n].w u = 4 ∨ xs[n].t < costV xs[n].w u then 9 else 0 := by
      unfold refundE; rw [if_neg (by simpa using hf), tenAt_nat hn]
    have hL : refundL xs n u = if refundE xs n u = 0 then xs.set n { xs[n] with t := xs[n].t - costV xs[n].w u } else [] := by
      unfold refundL setTag; rw [tenAt_nat hn]; rfl
    have z0 : (0 : Int) ≤ (n : Int) := by omega
    clear hf h0 hc
    rcases costE_three xs[n].w u with hce | hce | hce
    case inl =>
      have hv := hco hce
      rw [hce, if_neg (by omega)] at hE
      by_cases hl : xs[n].t < costV xs[n].w u
      · rw [if_pos (.inr hl)] at hE
        rw [refundL_no (by omega), hE]
        clear hE hL
        rw [hce] at hcost
        clear hco hce
        generalize costV xs[n].w u = v at *
        go_enter Try.func17, Try.ntmps17
        go_wp2_with fail
        refine ho.mono ?_
        rintro e w1 ⟨rfl, hb1⟩
        obtain ⟨b1, o1, rfl, c0, c1, c2, c3, c4⟩ := (hx.below hb1).ten_at n hn
        go_wp2_with fail
        refine (hcost _).mono ?_
        rintro e w2 ⟨rfl, rfl⟩
        go_wp2_with fail
        go_ret2
        exact gives_no rfl (hb1.alloc hb1.size _)
      · rw [if_neg (by omega)] at hE
        rw [hE, if_pos rfl] at hL
        rw [hL, hE]
        clear hE hL
        rw [hce] at hcost
        clear hco hce
        have hw := fun W (h : Sl Ten.enc 5 W A xs) => refWith_any A c xs n { xs[n] with t := xs[n].t - costV xs[n].w u } W h hn (by omega)
        generalize costV xs[n].w u = v at *
        go_enter Try.func17, Try.ntmps17
        go_wp2_with fail
        refine ho.mono ?_
        rintro e w1 ⟨rfl, hb1⟩
        obtain ⟨b1, o1, rfl, c0, c1, c2, c3, c4⟩ := (hx.below hb1).ten_at n hn
        go_wp2_with fail
        refine (hcost _).mono ?_
        rintro e w2 ⟨rfl, rfl⟩
        go_wp2_with fail
        have hb2 := hb1.alloc hb1.size (.cells #[.int .i64 xs[n].w, .int .i64 xs[n].q, .int .i64 xs[n].l, .int .i64 (xs[n].t - v), .int .i64 xs[n].r] 34)
        refine (hw _ (hx.below hb2)).mono ?_
        rintro e w3 ⟨g, d, rfl, hown, hb3⟩
        go_wp2_with fail
        go_ret2
        refine ⟨some ⟨g, 0, none⟩, d, ?_, hown.lower hb2.size, below_then hb2 hb3⟩
        rw [List.length_set]; rfl
    all_goals
      rw [hce] at hE
      have hE' : refundE xs n u = 1 ∨ refundE xs n u = 9 := by rw [hE]; simp
      rw [refundL_no (by omega), hE]
      rw [hce] at hcost
      clear hco hE hE' hL hce
      generalize costV xs[n].w u = v at *
      go_enter Try.func17, Try.ntmps17
      go_wp2_with fail
      refine ho.mono ?_
      rintro e w1 ⟨rfl, hb1⟩
      obtain ⟨b1, o1, rfl, c0, c1, c2, c3, c4⟩ := (hx.below hb1).ten_at n hn
      go_wp2_with fail
      refine (hcost _).mono ?_
      rintro e w2 ⟨rfl, rfl⟩
      go_wp2_with fail
      go_ret2
      exact gives_no rfl (hb1.alloc hb1.size _)
end Go.Proofs.Ytcgddfpfmnpaeaa
