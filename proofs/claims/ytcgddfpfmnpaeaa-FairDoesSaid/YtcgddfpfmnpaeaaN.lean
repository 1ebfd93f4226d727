/- Layer 15: slices.Equal, lodge.Same. -/
import Derived.Test.YtcgddfpfmnpaeaaX
namespace Go.Proofs.Ytcgddfpfmnpaeaa
open Go.RowKit

theorem take_eq_step {α : Type} {xs ys : List α} {k : Nat} (h : ∀ j, j < k → ∀ h1 : j < xs.length, ∀ h2 : j < ys.length, xs[j] = ys[j]) (hl : xs.length = ys.length) (hk : k = xs.length) : xs = ys :=
  List.ext_getElem hl (fun i h1 h2 => h i (by omega) h1 h2)

set_option maxHeartbeats 1000000 in
theorem equal_ten (A B : Option Addr) (c d : Nat) (xs ys : List Ten) (w : World) (hx : Sl Ten.enc 5 w A xs) (hy : Sl Ten.enc 5 w B ys) (hbig : xs.length ≤ 9223372036854775807) :
    Calls Try.prog 28 #[.slice A xs.length c, .slice B ys.length d] w fun e w' => e = .returned (.bool (decide (xs = ys))) ∧ ∃ nq, w' = w.drewN nq := by
  by_cases hl : xs.length = ys.length
  case neg =>
    have hd : decide (xs = ys) = false := by rw [decide_eq_false_iff_not]; intro h; exact hl (by rw [h])
    rw [hd]
    have hb : ((xs.length : Int) == (ys.length : Int)) = false := by simp; omega
    clear hd hl
    go_enter Try.func28, Try.ntmps28
    go_wp2_with fail
    go_ret
    exact ⟨rfl, 0, rfl⟩
  case pos =>
    rw [← hl]
    have HL := Lib.hid hl; clear hl
    go_enter Try.func28, Try.ntmps28
    go_wp2_with fail
    go_loopg [5, 13] xs.length (fun gg _ s13 wr => ∃ kk : Nat, kk ≤ xs.length ∧ xs.length - kk ≤ gg ∧ s13 = .int .i64 kk ∧ Aside (∃ nq, wr = w.drewN nq) ∧ Aside (∀ j, j < kk → ∀ h1 : j < xs.length, ∀ h2 : j < ys.length, xs[j] = ys[j]))
    case atStart => exact ⟨0, Nat.zero_le _, by omega, rfl, ⟨0, rfl⟩, fun j hj => absurd hj (Nat.not_lt_zero _)⟩
    case round =>
      obtain ⟨kk, hkk, hgk, rfl, DW, EQ⟩ := hrel
      have BW : Below w.heap.size w wr := by obtain ⟨n0, rfl⟩ := DW.out; exact below_drewN (Below.refl _ _) n0
      by_cases hlt : kk < xs.length
      · have hlt' : kk < ys.length := by rw [← HL.out]; exact hlt
        obtain ⟨b1, o1, rfl, c0, c1, c2, c3, c4⟩ := (hx.below BW).ten_at kk hlt
        obtain ⟨b2, o2, rfl, d0, d1, d2, d3, d4⟩ := (hy.below BW).ten_at kk hlt'
        have z0 : (0 : Int) ≤ (kk : Int) := by omega
        have z1 : (kk : Int) < (xs.length : Int) := by omega
        clear hx hy BW
        by_cases he : xs[kk] = ys[kk]
        · rw [← he] at d0 d1 d2 d3 d4
          have HE := Lib.hid he; clear he
          go_wp2_with fail
          go_quiet (fail)
          go_wp2_with fail
          go_roundg (xs.length - (kk + 1))
          case measure => omega
          case rel =>
            refine ⟨kk + 1, by omega, by omega, by go_num, (show Aside _ from by obtain ⟨n0, h0⟩ := DW.out; exact ⟨n0 + nq, by rw [h0]; simp⟩), (show Aside _ from fun j hj h1 h2 => ?_)⟩
            by_cases e : j = kk
            · subst e; exact HE.out
            · exact EQ.out j (by omega) h1 h2
        · have hn : ∀ W, (binOp .neq 34 (.agg #[.int .i64 xs[kk].w, .int .i64 xs[kk].q, .int .i64 xs[kk].l, .int .i64 xs[kk].t, .int .i64 xs[kk].r]) (.agg #[.int .i64 ys[kk].w, .int .i64 ys[kk].q, .int .i64 ys[kk].l, .int .i64 ys[kk].t, .int .i64 ys[kk].r])).run Try.prog W = .ok (.bool true) W := by
            intro W; rw [neq_run, show decide (xs[kk] = ys[kk]) = false from by rw [decide_eq_false_iff_not]; exact he]; rfl
          have HD := Lib.hid (show decide (xs = ys) = false by rw [decide_eq_false_iff_not]; intro h; exact he (by simp [h]))
          clear he
          go_wp2_with fail
          go_quiet (fail)
          go_wp2_with fail
          go_ret
          refine ⟨ret_bool HD.out.symm, ?_⟩
          obtain ⟨n0, h0⟩ := DW.out
          exact ⟨n0 + nq, by rw [h0]; simp⟩
      · have hkx : kk = xs.length := by omega
        have HD := Lib.hid (show decide (xs = ys) = true by rw [decide_eq_true_eq]; exact take_eq_step EQ.out HL.out hkx)
        go_wp2_with fail
        go_ret
        exact ⟨ret_bool HD.out.symm, DW.out⟩
theorem same_ten (A B : Option Addr) (c d : Nat) (xs ys : List Ten) (w : World) (hx : Sl Ten.enc 5 w A xs) (hy : Sl Ten.enc 5 w B ys) (hbig : xs.length ≤ 9223372036854775807) :
    Calls Try.prog 13 #[.slice A xs.length c, .slice B ys.length d] w fun e w' => e = .returned (.bool (decide (xs = ys))) ∧ ∃ nq, w' = w.drewN nq := by
  have he := equal_ten A B c d xs ys w hx hy hbig
  generalize decide (xs = ys) = q at *
  go_enter Try.func13, Try.ntmps13
  go_wp2_with (go_at_call 28; refine he.mono ?_; rintro e w1 ⟨rfl, nq, rfl⟩)
  go_ret
  exact ⟨rfl, nq, rfl⟩
end Go.Proofs.Ytcgddfpfmnpaeaa
