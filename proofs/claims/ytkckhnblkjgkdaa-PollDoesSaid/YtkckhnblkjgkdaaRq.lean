/- Layer 9: slices.Repeat, poll.New. -/
import Derived.Test.YtkckhnblkjgkdaaRp
import Derived.Deep.RegionLaw
namespace Go.Proofs.Ytkckhnblkjgkdaa
open Go.RowKit

theorem hilo (n : Nat) (h : n ≤ 16) : hiN 1 n = 0 ∧ loN 1 n = n := by unfold hiN loN K64; omega
theorem size35 : (Try.prog.info? 35).map (·.size) = some 3 := by kernel_rfl
theorem made_row (x : Fd) {n : Nat} {w w1 : World} (hown : w1.ownsRow w.heap.size 35 3 (.slice (some ⟨w.heap.size, 0, none⟩) n n) n (madeCells (Value.agg #[.bool false, .bool false, .int .i64 0]).cells (n * 3)).toList) (hg : w.grownBy w1 none) :
    Hid (w1.heap[w.heap.size]? = some (.cells (flat Fd.enc (partF x n 0)).toArray 35 (0, 0))) ∧ Below w.heap.size w w1 := by
  refine ⟨?_, (Below.refl _ _).grown hg (Nat.le_refl _) (by simp)⟩
  show _ = _
  rw [zeros_flat] at hown
  rw [Row.of_made hown]; unfold partF; simp
set_option maxHeartbeats 2000000 in
theorem repeat_any (b off c : Nat) (x : Fd) (n : Nat) (w : World) (hx : Sl Fd.enc 3 w (some ⟨b, off, none⟩) [x]) (hn : n ≤ 16) :
    Calls Try.prog 35 #[.slice (some ⟨b, off, none⟩) 1 c, .int .i64 n] w fun e w' => ∃ A, e = .returned (.slice A n n) ∧ Own Fd.enc 3 35 w.heap.size w' (.slice A n n) (List.replicate n x) ∧ Below w.heap.size w w' := by
  obtain ⟨i0, hi0, hz0, hz1, hz2⟩ := info_parts info35
  have hm := mul_any 1 n (by omega) (by omega)
  obtain ⟨hh1, hh2⟩ := hilo n hn
  rw [hh1, hh2] at hm
  clear hh1 hh2
  have z0 : (0 : Int) ≤ (n : Int) := by omega
  have z1 : (n : Int) ≤ 9223372036854775807 := by omega
  have cv1 : IntKind.u64.wrap (n : Int) = (n : Int) := by rw [IntKind.wrap_u64]; omega
  have cv2 : IntKind.i64.wrap (n : Int) = (n : Int) := by rw [IntKind.wrap_i64]; omega
  go_enter Try.func35, Try.ntmps35
  obtain ⟨m, hm0, hm1, hm2, hm3⟩ : ∃ m : Nat, m = Nat.min 1 n ∧ m ≤ 1 ∧ m ≤ n ∧ (n = 0 ∨ 1 ≤ m) := ⟨Nat.min 1 n, rfl, Nat.min_le_left _ _, Nat.min_le_right _ _, by rcases Nat.eq_zero_or_pos n with h | h; exact .inl h; right; exact Nat.le_min.2 ⟨Nat.le_refl _, h⟩⟩
  have HM0 := Lib.hid hm0; clear hm0
  go_wp2_with (first
    | (go_at_call 43; refine (hm _).mono ?_; rintro e w1 ⟨rfl, rfl⟩)
    | (at_make; go_must (refine wpList_make_full w rfl _ _ 22 rfl w.heap.size 35 i0 _ 3 Try.underlying22 hi0 hz0 hz1 _ _ _ _ n rfl rfl rfl rfl (by rw [hz2]; omega) (by unfold maxLen; omega) (Nat.le_refl _) ?_); intro w1 hown hg; obtain ⟨hrow, hbw⟩ := made_row x hown hg; have hx1 := hx.below hbw; clear hown hg)
    | (refine wpList_copy_k rfl (.tmp 31) (.tmp 32) 22 22 rfl 35 3 m Try.underlying22 size35 w.heap.size 0 n n ⟨b, off, none⟩ 1 c rfl rfl _ 35 hrow.out HM0.out (flat Fd.enc (List.replicate m x)) (flat_rep_length _ _) (rep_cells hx1 m hm1) (by rw [flat_rep_length, flat_length Fd.enc_length, partF_length (Nat.zero_le _)]; omega) (flat_one Fd.enc_one) w.heap.size w hbw (Nat.le_refl _) ?_; intro w2 hrow2 hbw2))
  go_loopg [8] n (fun gg s8 wr => ∃ kk : Nat, kk ≤ n ∧ n - kk ≤ gg ∧ s8 = .int .i64 kk ∧ Aside (n = 0 ∨ 1 ≤ kk) ∧ Aside (Below w.heap.size w wr) ∧ Aside (Row wr w.heap.size (partF x n kk)))
  case atStart =>
    refine ⟨m, hm2, by omega, rfl, hm3, hbw2, ?_⟩
    show Row _ _ _
    have := hrow2.out
    rw [show (0 : Nat) = 0 * 3 from rfl, partF_splice (by omega), Nat.zero_add] at this
    exact this
  case round =>
    obtain ⟨kk, hkk, hgk, rfl, H1, BW, RW⟩ := hrel
    clear hrow hrow2 hbw hbw2 hx1
    by_cases hlt : kk < n
    · obtain ⟨m2, hq0, hq1, hq2, hq3⟩ : ∃ m2 : Nat, m2 = Nat.min kk (n - kk) ∧ m2 ≤ kk ∧ kk + m2 ≤ n ∧ (n = 0 ∨ 1 ≤ m2) := by
        refine ⟨Nat.min kk (n - kk), rfl, Nat.min_le_left _ _, ?_, ?_⟩
        · have : Nat.min kk (n - kk) ≤ n - kk := Nat.min_le_right kk (n - kk)
          generalize Nat.min kk (n - kk) = q at *
          omega
        · rcases H1.out with h | h
          · exact .inl h
          · right; exact Nat.le_min.2 ⟨h, by omega⟩
      have HQ0 := Lib.hid hq0
      have HQ3 := Lib.hid hq3
      have hrow : Hid (wr.drew.heap[w.heap.size]? = some (.cells (flat Fd.enc (partF x n kk)).toArray 35 (0, 0))) := RW.out
      have hrr : Row wr.drew w.heap.size (partF x n kk) := RW.out
      have hbw : Below w.heap.size w wr.drew := BW.out.drew
      have hne : ¬ n = kk := by omega
      have hfit : kk * 3 + (flat Fd.enc (List.replicate m2 x)).length ≤ (flat Fd.enc (partF x n kk)).length := by rw [flat_rep_length, flat_length Fd.enc_length, partF_length hkk]; omega
      have hnM : n ≤ 1000000 := by omega
      clear hq0 hq3
      go_wp2_with fail
      go_region_law (refine step_copy_k rfl (.tmp 41) (.tmp 44) 22 22 rfl 35 3 m2 Try.underlying22 size35 w.heap.size (kk * 3) (n - kk) (n - kk) ⟨w.heap.size, 0, none⟩ kk n ?hd ?hs (flat Fd.enc (partF x n kk)) 35 hrow.out HQ0.out (flat Fd.enc (List.replicate m2 x)) (flat_rep_length _ _) (row_cells hrr hq1 hkk hnM) hfit (flat_one Fd.enc_one) w.heap.size w ⟨BW.out.os, BW.out.tape, BW.out.output, BW.out.size, BW.out.block⟩ (Nat.le_refl _) ?_
                     case hd => first | kernel_rfl | exact Eq.trans (b := Value.slice (if n = kk then some ⟨w.heap.size, 0, none⟩ else some ⟨w.heap.size, kk * 3, none⟩) (n - kk) (n - kk)) (by kernel_rfl) (by rw [if_neg hne])
                     case hs => kernel_rfl
                     intro w2 hrow2 hbw2)
      go_wp2_with fail
      go_roundg (n - (kk + m2))
      case measure =>
        have := HQ3.out
        omega
      case rel =>
        refine ⟨kk + m2, hq2, by omega, by rw [show IntKind.i64.wrap ((kk : Int) + (m2 : Int)) = ((kk + m2 : Nat) : Int) from by rw [IntKind.wrap_i64]; omega], ?_, hbw2, ?_⟩
        · show _ ∨ _
          rcases H1.out with h | h
          · exact .inl h
          · right; omega
        · show Row _ _ _
          have := hrow2.out
          rw [partF_splice hq2] at this
          exact this
    · have hkx : kk = n := by omega
      have hrow : Row wr w.heap.size (List.replicate n x) := by
        have : Row wr w.heap.size (partF x n kk) := RW.out
        rw [hkx] at this
        unfold partF at this
        simpa using this
      have HO := Lib.hid (hrow.own (base := w.heap.size) (Nat.le_refl _) (by simp; omega))
      clear hkx hrow
      go_wp2_with fail
      go_ret
      refine ⟨some ⟨w.heap.size, 0, none⟩, rfl, ?_, BW.out⟩
      have := HO.out
      rw [List.length_replicate] at this
      exact this

/-- What poll.New answers. -/
def newE (n : Int) : Int := if n < 0 ∨ 16 < n then 1 else 0
def newL (n : Int) : List Fd := if n < 0 ∨ 16 < n then [] else List.replicate n.toNat ⟨false, false, -1⟩
set_option maxHeartbeats 2000000 in
theorem new_any (n : Int) (w : World) : Calls Try.prog 15 #[.int .i64 n] w (Gives w (newL n) (newE n)) := by
  unfold newL newE
  by_cases h : n < 0 ∨ 16 < n
  · rw [if_pos h, if_pos h]
    by_cases h1 : n < 0
    · clear h
      go_enter Try.func15, Try.ntmps15
      go_wp2_with fail
      go_ret2
      exact gives_no rfl (Below.refl _ _)
    · have h2 : 16 < n := by omega
      clear h
      go_enter Try.func15, Try.ntmps15
      go_wp2_with fail
      go_ret2
      exact gives_no rfl (Below.refl _ _)
  · rw [if_neg h, if_neg h]
    obtain ⟨k, rfl⟩ := Int.eq_ofNat_of_zero_le (show 0 ≤ n by omega)
    have h1 : (0 : Int) ≤ (k : Int) := by omega
    have h2 : (k : Int) ≤ 16 := by omega
    have hk : k ≤ 16 := by omega
    clear h
    go_enter Try.func15, Try.ntmps15
    go_wp2_with fail
    refine (shut_below w).mono ?_
    rintro e w1 ⟨rfl, hb1⟩
    go_wp2_with fail
    refine (repeat_any w1.heap.size 0 1 ⟨false, false, -1⟩ k _ (sl_lit_at Fd.enc_length _ _ _ _ _ rfl (by simp [flat, Fd.enc])) hk).mono ?_
    rintro e w2 ⟨A, rfl, hown, hb2⟩
    have HB := Lib.hid (below_then (hb1.alloc hb1.size _) hb2)
    have HO := Lib.hid (hown.lower (hb1.alloc hb1.size (.cells #[.bool false, .bool false, .int .i64 (-1)] 35)).size)
    clear hown hb2 hb1
    go_wp2_with fail
    go_ret2
    rw [Int.toNat_natCast]
    refine ⟨A, k, by rw [List.length_replicate]; rfl, ?_, HB.out⟩
    rw [List.length_replicate]; exact HO.out
end Go.Proofs.Ytkckhnblkjgkdaa
