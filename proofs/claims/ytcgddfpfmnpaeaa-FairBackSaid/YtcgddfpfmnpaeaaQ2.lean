/- Layer 15: FairBack. -/
import Derived.Test.YtcgddfpfmnpaeaaQ1
namespace Go.Proofs.Ytcgddfpfmnpaeaa
open Go.RowKit

set_option maxRecDepth 100000 in
set_option maxHeartbeats 4000000 in
theorem back_easy (A : Option Addr) (c : Nat) (xs : List Ten) (i m n : Int) (w : World) (h : 100 < xs.length ∨ m < 0 ∨ n < 0 ∨ 1073741824 < m ∨ 1073741824 < n) :
    Calls Try.prog 6 #[.slice A xs.length c, .int .i64 i, .int .i64 m, .int .i64 n] w fun e w' => e = .returned (.bool true) ∧ Below w.heap.size w w' := by
  by_cases h1 : 100 < xs.length
  all_goals (try by_cases h2 : m < 0)
  all_goals (try by_cases h3 : n < 0)
  all_goals (try by_cases h4 : 1073741824 < m)
  all_goals (try by_cases h5 : 1073741824 < n)
  all_goals first
    | (exfalso; omega)
    | (go_enter Try.func6, Try.ntmps6
       go_wp2_with (go_at_call 8; refine (live_any _).mono ?_; rintro e w1 ⟨rfl, hb1⟩)
       go_ret
       exact ⟨rfl, hb1⟩)

set_option maxRecDepth 100000 in
set_option maxHeartbeats 4000000 in
theorem back_law (A : Option Addr) (c : Nat) (xs : List Ten) (i m n : Int) (w : World) (hx : Sl Ten.enc 5 w A xs) (hbig : xs.length ≤ 9223372036854775807) (hum : I64 m) (hun : I64 n) :
    Calls Try.prog 6 #[.slice A xs.length c, .int .i64 i, .int .i64 m, .int .i64 n] w fun e w' => e = .returned (.bool true) ∧ Below w.heap.size w w' := by
  by_cases h : 100 < xs.length ∨ m < 0 ∨ n < 0 ∨ 1073741824 < m ∨ 1073741824 < n
  · exact back_easy A c xs i m n w h
  have h1 : xs.length ≤ 100 := by omega
  have h2 : 0 ≤ m := by omega
  have h3 : 0 ≤ n := by omega
  have h4 : m ≤ 1073741824 := by omega
  have h5 : n ≤ 1073741824 := by omega
  have hcm := fun W (h : Sl Ten.enc 5 W A xs) => charge_slice A c xs i m W h hbig hum
  have hcmn := fun W (h : Sl Ten.enc 5 W A xs) => charge_slice A c xs i (m + n) W h hbig (by unfold I64; omega)
  by_cases hE : chargeE xs i m = 0
  case neg =>
    rw [chargeL_no hE] at hcm
    rw [back_no h2 h3 h4 h5 hE] at hcmn
    have hq : (chargeE xs i m == 0) = false := by simpa using hE
    clear hE h hum hun
    generalize chargeE xs i m = q at *
    generalize chargeL xs i (m + n) = ys at *
    go_enter Try.func6, Try.ntmps6
    go_wp2_with fail
    refine (live_any _).mono ?_
    rintro e w1 ⟨rfl, hb1⟩
    go_wp2_with fail
    refine (hcm w1 (hx.below hb1)).mono ?_
    rintro e w2 ⟨A1, c1, rfl, hown, hb2⟩
    go_wp2_with fail
    refine (hcmn w2 ((hx.below hb1).below hb2)).mono ?_
    rintro e w3 ⟨A2, c2, rfl, hown2, hb3⟩
    go_wp2_with fail
    go_ret
    exact ⟨rfl, below_then (below_then hb1 hb2) hb3⟩
  case pos =>
    obtain ⟨e1, e2, e3, e4, e5⟩ := back_yes h2 h3 h4 h5 hE
    have hlen : (chargeL xs i m).length ≤ 9223372036854775807 := by rw [e5]; exact hbig
    have hcn := fun (A1 : Option Addr) (c1 : Nat) W (h : Sl Ten.enc 5 W A1 (chargeL xs i m)) => charge_slice A1 c1 (chargeL xs i m) i n W h hlen hun
    have hrf := fun (A1 : Option Addr) (c1 : Nat) W (h : Sl Ten.enc 5 W A1 (chargeL xs i m)) => refund_slice A1 c1 (chargeL xs i m) i m W h hlen hum
    rw [e1, e2] at hcn
    rw [e3, e4] at hrf
    rw [hE] at hcm
    have hall : (chargeL xs i (m + n)).length ≤ 9223372036854775807 := by
      by_cases h0 : chargeE xs i (m + n) = 0
      · rw [(charge_get h0).1]; exact hbig
      · rw [chargeL_no h0]; simp
    have hs1 := fun (A1 B1 : Option Addr) (c1 d1 : Nat) W h h' => same_ten A1 B1 c1 d1 (chargeL xs i (m + n)) (chargeL xs i (m + n)) W h h' hall
    have hs2 := fun (A1 : Option Addr) (c1 : Nat) W h h' => same_ten A1 A c1 c xs xs W h h' hbig
    rw [show decide (chargeL xs i (m + n) = chargeL xs i (m + n)) = true from by simp] at hs1
    rw [show decide (xs = xs) = true from by simp] at hs2
    clear e1 e2 e3 e4 e5 hE h hum hun hlen hall
    generalize chargeL xs i m = ys at *
    generalize chargeL xs i (m + n) = zs at *
    generalize chargeE xs i (m + n) = q at *
    go_enter Try.func6, Try.ntmps6
    go_wp2_with fail
    refine (live_any _).mono ?_
    rintro e w1 ⟨rfl, hb1⟩
    go_wp2_with fail
    have hx1 := hx.below hb1
    refine (hcm w1 hx1).mono ?_
    rintro e w2 ⟨A1, c1, rfl, hown1, hb2⟩
    obtain ⟨A', c', hv, hsy, _⟩ := hown1.sl Ten.enc_length
    obtain ⟨rfl, rfl⟩ : A1 = A' ∧ c1 = c' := by simpa using hv
    have hx2 := hx1.below hb2
    have hbw2 := below_then hb1 hb2
    clear hown1 hv hx hx1 hcm hb1 hb2
    go_wp2_with fail
    refine (hcmn w2 hx2).mono ?_
    rintro e w3 ⟨A2, c2, rfl, hown2, hb3⟩
    obtain ⟨A', c', hv, hsz, _⟩ := hown2.sl Ten.enc_length
    obtain ⟨rfl, rfl⟩ : A2 = A' ∧ c2 = c' := by simpa using hv
    have hx3 := hx2.below hb3
    have hsy3 := hsy.below hb3
    have hbw3 := below_then hbw2 hb3
    clear hown2 hv hx2 hsy hcmn hbw2 hb3
    go_wp2_with fail
    refine (hcn A1 c1 w3 hsy3).mono ?_
    rintro e w4 ⟨A3, c3, rfl, hown3, hb4⟩
    obtain ⟨A', c', hv, hsz2, _⟩ := hown3.sl Ten.enc_length
    obtain ⟨rfl, rfl⟩ : A3 = A' ∧ c3 = c' := by simpa using hv
    have hx4 := hx3.below hb4
    have hsy4 := hsy3.below hb4
    have hsz4 := hsz.below hb4
    have hbw4 := below_then hbw3 hb4
    clear hown3 hv hx3 hsy3 hsz hcn hbw3 hb4
    go_wp2_with fail
    refine (hrf A1 c1 w4 hsy4).mono ?_
    rintro e w5 ⟨A4, c4, rfl, hown4, hb5⟩
    obtain ⟨A', c', hv, hsx, _⟩ := hown4.sl Ten.enc_length
    obtain ⟨rfl, rfl⟩ : A4 = A' ∧ c4 = c' := by simpa using hv
    have hx5 := hx4.below hb5
    have hsz5 := hsz4.below hb5
    have hsz25 := hsz2.below hb5
    have hbw5 := below_then hbw4 hb5
    clear hown4 hv hx4 hsy4 hsz4 hsz2 hrf hbw4 hb5
    go_wp2_with fail
    refine (hs1 A3 A2 c3 c2 w5 hsz25 hsz5).mono ?_
    rintro e w6 ⟨rfl, n1, rfl⟩
    go_wp2_with fail
    refine (hs2 A4 c4 _ (hsx.drewN n1) (hx5.drewN n1)).mono ?_
    rintro e w6 ⟨rfl, n2, rfl⟩
    have hbw6 : Below w.heap.size w ((w5.drewN n1).drewN n2) := below_drewN (below_drewN hbw5 _) _
    generalize (w5.drewN n1).drewN n2 = w6 at *
    clear hs1 hs2 hsx hsz5 hsz25 hx5 hbw5
    go_wp2_with fail
    go_loopg [18, 19, 20, 21, 22] 8 (fun gg s18 _ _ _ _ wr => ∃ kk : Nat, 1 ≤ kk ∧ kk ≤ 9 ∧ 9 - kk ≤ gg ∧ s18 = .int .i64 kk ∧ Aside (Below w6.heap.size w6 wr))
    case atStart => exact ⟨1, by omega, by omega, by omega, rfl, Below.refl _ _⟩
    case round =>
      obtain ⟨kk, hk1, hkk, hgk, rfl, BW⟩ := hrel
      by_cases hlt : kk ≤ 8
      · obtain ⟨f1, f2, f3, f4, f5⟩ := half_costs (w := kk) (m := m) (by omega) (by omega) h2 h4
        have k1 := fun W => cost_any kk m (by unfold I64; omega) W
        have k2 := fun W => cost_any (2 * kk) m (by unfold I64; omega) W
        rw [f1, f3] at k1
        rw [f2] at k2
        clear f1 f2 f3
        generalize costV (2 * kk) m = v at *
        go_wp2_with fail
        refine (k1 _).mono ?_
        rintro e w7 ⟨rfl, hb7⟩
        go_wp2_with fail
        refine (k2 _).mono ?_
        rintro e w8 ⟨rfl, hb8⟩
        go_wp2_with fail
        go_roundg (9 - (kk + 1))
        case measure => omega
        case rel => exact ⟨kk + 1, by omega, by omega, by omega, by go_num, below_then (below_then BW.out hb7) hb8⟩
      · go_wp2_with fail
        go_ret
        exact ⟨rfl, below_then hbw6 BW.out⟩
end Go.Proofs.Ytcgddfpfmnpaeaa
