/- Layer 9: the reference's Same, New. -/
import Derived.Test.YtkckhnblkjgkdaaW7
namespace Go.Proofs.Ytkckhnblkjgkdaa
open Go.RowKit

set_option maxHeartbeats 2000000 in
theorem refSame_fd (A B : Option Addr) (c d : Nat) (xs ys : List Fd) (w : World) (hx : Sl Fd.enc 3 w A xs) (hy : Sl Fd.enc 3 w B ys) (hbig : xs.length ≤ 9223372036854775807) :
    Calls Try.prog 23 #[.slice A xs.length c, .slice B ys.length d] w fun e w' => e = .returned (.bool (decide (xs = ys))) ∧ ∃ nq, w' = w.drewN nq := by
  by_cases hl : xs.length = ys.length
  case neg =>
    have hne : ((xs.length : Int) != (ys.length : Int)) = true := by simp; omega
    have hd : Hid (decide (xs = ys) = false) := by show _ = _; rw [decide_eq_false_iff_not]; rintro rfl; exact hl rfl
    clear hl
    go_enter Try.func23, Try.ntmps23
    go_wp2_with fail
    go_ret
    exact ⟨ret_bool hd.out.symm, 0, rfl⟩
  case pos =>
    obtain ⟨n, hn⟩ : ∃ n, n = xs.length := ⟨_, rfl⟩
    rw [← hl, ← hn]
    have HX := Lib.hid hn.symm
    have HY := Lib.hid (hl.symm.trans hn.symm)
    rw [← hn] at hbig
    clear hl hn
    go_enter Try.func23, Try.ntmps23
    go_wp2_with fail
    go_loopg [5, 13] n (fun gg _ s13 wr => ∃ kk : Nat, kk ≤ n ∧ n - kk ≤ gg ∧ s13 = .int .i64 kk ∧ Aside (∃ nq, wr = w.drewN nq) ∧ Aside (xs.take kk = ys.take kk))
    case atStart => exact ⟨0, Nat.zero_le _, by omega, rfl, ⟨0, rfl⟩, rfl⟩
    case round =>
      obtain ⟨kk, hkk, hg, rfl, ⟨nq, rfl⟩, TK⟩ := hrel
      by_cases hlt : kk < n
      · have h1 : kk < xs.length := by rw [HX.out]; exact hlt
        have h2 : kk < ys.length := by rw [HY.out]; exact hlt
        obtain ⟨b1, o1, rfl, p0, p1, p2⟩ := (hx.drewN nq).fd_at kk h1
        obtain ⟨b2, o2, rfl, t0, t1, t2⟩ := (hy.drewN nq).fd_at kk h2
        have z0 : (0 : Int) ≤ (kk : Int) := by omega
        have z1 : (kk : Int) < (n : Int) := by omega
        have hnr := fun W => neq_run xs[kk] ys[kk] W
        have DN := Lib.hid (drewN_drewN w nq)
        clear hx hy
        generalize w.drewN nq = w7 at *
        by_cases he : xs[kk] = ys[kk]
        · rw [show decide (xs[kk] = ys[kk]) = true from by simpa using he] at hnr
          have HE := Lib.hid he
          clear he
          go_wp2_with fail
          go_quiet (fail)
          go_wp2_with fail
          go_roundg (n - (kk + 1))
          case measure => omega
          case rel =>
            refine ⟨kk + 1, by omega, by omega, by go_num, ⟨_, DN.out _⟩, ?_⟩
            show _ = _
            rw [List.take_succ_eq_append_getElem h1, List.take_succ_eq_append_getElem h2, TK.out, HE.out]
        · rw [show decide (xs[kk] = ys[kk]) = false from by simpa using he] at hnr
          have hd : Hid (decide (xs = ys) = false) := by show _ = _; rw [decide_eq_false_iff_not]; rintro rfl; exact he rfl
          clear he
          go_wp2_with fail
          go_quiet (fail)
          go_wp2_with fail
          go_ret
          exact ⟨ret_bool hd.out.symm, _, DN.out _⟩
      · have hkx : kk = n := by omega
        have hd : Hid (decide (xs = ys) = true) := by
          show _ = _
          rw [decide_eq_true_eq]
          have := TK.out
          rw [List.take_of_length_le (by rw [HX.out]; omega), List.take_of_length_le (by rw [HY.out]; omega)] at this
          exact this
        clear hkx
        go_wp2_with fail
        go_ret
        exact ⟨ret_bool hd.out.symm, nq, rfl⟩

theorem flat_F1 (x : Fd) : flat Fd.enc [x] = x.enc := by simp [flat]
set_option maxHeartbeats 2000000 in
theorem refNew_c (n : Int) (w : World) : Calls Try.prog 24 #[.int .i64 n] w (Gives w (newL n) (newE n)) := by
  unfold newL newE
  by_cases h : n < 0 ∨ 16 < n
  · rw [if_pos h, if_pos h]
    by_cases h1 : n < 0
    · clear h
      go_enter Try.func24, Try.ntmps24
      go_wp2_with fail
      go_ret2
      exact gives_no rfl (Below.refl _ _)
    · have h2 : 16 < n := by omega
      clear h
      go_enter Try.func24, Try.ntmps24
      go_wp2_with fail
      go_ret2
      exact gives_no rfl (Below.refl _ _)
  · rw [if_neg h, if_neg h]
    obtain ⟨k, rfl⟩ := Int.eq_ofNat_of_zero_le (show 0 ≤ n by omega)
    have h1 : (0 : Int) ≤ (k : Int) := by omega
    have h2 : (k : Int) ≤ 16 := by omega
    have hk : k ≤ 16 := by omega
    obtain ⟨i0, hi0, hz0, hz1, hz2⟩ := info_parts info35
    rw [Int.toNat_natCast]
    clear h
    go_enter Try.func24, Try.ntmps24
    go_wp2_with fail
    go_loopg [4, 12] k (fun gg s4 s12 wr => ∃ (kk : Nat) (A2 : Option Addr) (d2 : Nat), kk ≤ k ∧ k - kk ≤ gg ∧ s12 = .int .i64 kk ∧ s4 = .slice A2 kk d2 ∧ Aside (Below w.heap.size w wr) ∧ Aside (Own Fd.enc 3 35 w.heap.size wr (.slice A2 kk d2) (List.replicate kk ⟨false, false, -1⟩)))
    case atStart => exact ⟨0, none, 0, Nat.zero_le _, by omega, rfl, rfl, Below.refl _ _, World.ownsRow_nil w _ 35 3⟩
    case round =>
      obtain ⟨kk, A2, d2, hkk, hg, rfl, rfl, BW, OW⟩ := hrel
      by_cases hlt : kk < k
      · have z1 : (kk : Int) < (k : Int) := by omega
        have hown : Own Fd.enc 3 35 w.heap.size (wr.alloc (.cells #[.bool false, .bool false, .int .i64 (-1)] 35)) (.slice A2 kk d2) (List.replicate kk ⟨false, false, -1⟩) :=
          Own.below OW.out ((Below.refl _ _).alloc (Nat.le_refl _) _)
        unfold Own at hown
        rw [List.length_replicate] at hown
        have HB := Lib.hid (BW.out.alloc BW.out.size (.cells #[.bool false, .bool false, .int .i64 (-1)] 35))
        have hlc := lit_cells wr #[.bool false, .bool false, .int .i64 (-1)] 35
        have HLC := Lib.hid hlc
        have HOB := Lib.hid (own_block hown)
        clear hlc OW
        go_wp2_with (at_builtin; go_must (refine wpList_append_own _ rfl (.tmp 14) (.tmp 16) 22 rfl w.heap.size 35 i0 _ 3 16 Try.underlying22 hi0 hz0 hz1 hz2 rfl (by decide) (.slice A2 kk d2) kk _ rfl hown _ 1 1 [.bool false, .bool false, .int .i64 (-1)] rfl rfl HLC.out (by intro u hu; simp at hu; rcases hu with rfl | rfl <;> rfl) (by unfold maxLen; omega) (by omega) (by have := BW.out.size; simp; omega) ?_); intro v' w2 hown2 hg2 _)
        go_roundg (k - (kk + 1))
        case measure => omega
        case rel =>
          have hown3 : Own Fd.enc 3 35 w.heap.size w2 v' (List.replicate (kk + 1) ⟨false, false, -1⟩) := by
            rw [show List.replicate (kk + 1) (⟨false, false, -1⟩ : Fd) = List.replicate kk ⟨false, false, -1⟩ ++ [⟨false, false, -1⟩] from List.replicate_succ']
            unfold Own; rw [List.length_append, List.length_replicate, flat_append]; exact hown2
          obtain ⟨A3, c3, hv, _, _⟩ := hown3.sl Fd.enc_length
          rw [List.length_replicate] at hv
          subst hv
          exact ⟨kk + 1, A3, c3, by omega, by omega, by go_num, rfl, HB.out.grown hg2 HB.out.size (fun k hk => HOB.out k hk), hown3⟩
      · have hkx : kk = k := by omega
        subst hkx
        go_wp2_with fail
        go_ret2
        refine ⟨A2, d2, by rw [List.length_replicate]; rfl, ?_, BW.out⟩
        rw [List.length_replicate]; exact OW.out
end Go.Proofs.Ytkckhnblkjgkdaa
