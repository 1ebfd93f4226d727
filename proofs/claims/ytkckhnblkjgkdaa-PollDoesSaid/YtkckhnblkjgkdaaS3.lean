/- Layer 9: the reference's Waits. -/
import Derived.Test.YtkckhnblkjgkdaaS2
namespace Go.Proofs.Ytkckhnblkjgkdaa
open Go.RowKit

set_option maxHeartbeats 2000000 in
theorem refWaits_c (A : Option Addr) (c : Nat) (xs : List Fd) (w : World) (hx : Sl Fd.enc 3 w A xs) (hcap : xs.length ≤ c) :
    Calls Try.prog 25 #[.slice A xs.length c] w (GivesI w (waitsL xs) (errC xs)) := by
  have hck := refCheck_c A c xs w hx hcap
  cases hc : chk xs
  case false =>
    have hE : waitsL xs = [] := by unfold waitsL; rw [hc]; rfl
    rw [hE, errC_not hc]
    rw [errC_not hc] at hck
    clear hc hE
    go_enter Try.func25, Try.ntmps25
    go_wp2_with fail
    refine hck.mono ?_
    rintro e w1 ⟨rfl, hb1⟩
    go_wp2_with fail
    go_ret2
    exact ⟨none, 0, rfl, Sl.nil _ _ _ _, Nat.le_refl _, hb1⟩
  case true =>
    obtain ⟨i0, hi0, hz0, hz1, hz2⟩ := info_parts info2
    have hl := chk_len hc
    have HCK := Lib.hid hc
    have hE : waitsL xs = wl (xs.take xs.length) := by unfold waitsL; rw [hc, if_pos rfl, List.take_length]
    rw [hE, errC_yes hc]
    rw [errC_yes hc] at hck
    clear hc hE
    go_enter Try.func25, Try.ntmps25
    go_wp2_with fail
    refine hck.mono ?_
    rintro e w1 ⟨rfl, hb1⟩
    have hx1 := hx.below hb1
    clear hx hck
    go_wp2_with fail
    go_loopg [4, 6, 12] xs.length (fun gg s2 _ s13 wr => ∃ (kk : Nat) (A2 : Option Addr) (d2 : Nat), kk ≤ xs.length ∧ xs.length - kk ≤ gg ∧ s13 = .int .i64 kk ∧ s2 = .slice A2 (wl (xs.take kk)).length d2 ∧ Aside (Below w1.heap.size w1 wr) ∧ Aside (Own encI 1 2 w1.heap.size wr (.slice A2 (wl (xs.take kk)).length d2) (wl (xs.take kk))))
    case atStart => exact ⟨0, none, 0, Nat.zero_le _, by omega, rfl, rfl, Below.refl _ _, World.ownsRow_nil w1 _ 2 1⟩
    case round =>
      obtain ⟨kk, A2, d2, hkk, hg, rfl, rfl, BW, OW⟩ := hrel
      by_cases hlt : kk < xs.length
      · obtain ⟨b, off, rfl, c0, c1, c2⟩ := (hx1.below BW.out).fd_at kk hlt
        have z0 : (0 : Int) ≤ (kk : Int) := by omega
        have z1 : (kk : Int) < (xs.length : Int) := by omega
        have ST := Lib.hid (wl_step hlt)
        by_cases hw : xs[kk].w = -1
        · have hwb : decide (0 ≤ xs[kk].w) = false := by rw [hw]; rfl
          have HW := Lib.hid hw
          clear hw hx1
          go_wp2_with fail
          go_roundg (xs.length - (kk + 1))
          case measure => omega
          case rel =>
            have he : wl (xs.take (kk + 1)) = wl (xs.take kk) := by rw [ST.out, if_pos HW.out, List.append_nil]
            refine ⟨kk + 1, A2, d2, by omega, by omega, by go_num, by rw [he], BW.out.alloc BW.out.size _, ?_⟩
            show Own _ _ _ _ _ _ _
            rw [he]
            exact Own.below OW.out ((Below.refl _ _).alloc (Nat.le_refl _) _)
        · have hwb : 0 ≤ xs[kk].w := by have := (odd_facts (odd_no HCK.out hlt)).1; omega
          have HW := Lib.hid hw
          have hlen : (wl (xs.take kk)).length ≤ kk := by
            unfold wl; rw [List.length_map]
            exact Nat.le_trans (List.length_filter_le _ _) (by rw [List.length_take]; omega)
          have hown : Own encI 1 2 w1.heap.size ((wr.alloc (.cells #[.bool xs[kk].o, .bool xs[kk].r, .int .i64 xs[kk].w] 35)).alloc (.cells #[.int .i64 xs[kk].w] 2)) (.slice A2 (wl (xs.take kk)).length d2) (wl (xs.take kk)) :=
            (Own.below OW.out ((Below.refl _ _).alloc (Nat.le_refl _) _)).below ((Below.refl _ _).alloc (Nat.le_refl _) _)
          unfold Own at hown
          have HB := Lib.hid ((BW.out.alloc BW.out.size (.cells #[.bool xs[kk].o, .bool xs[kk].r, .int .i64 xs[kk].w] 35)).alloc (BW.out.alloc BW.out.size (.cells #[.bool xs[kk].o, .bool xs[kk].r, .int .i64 xs[kk].w] 35)).size (.cells #[.int .i64 xs[kk].w] 2))
          have hlc := lit_cells (wr.alloc (.cells #[.bool xs[kk].o, .bool xs[kk].r, .int .i64 xs[kk].w] 35)) #[.int .i64 xs[kk].w] 2
          rw [show (wr.alloc (.cells #[.bool xs[kk].o, .bool xs[kk].r, .int .i64 xs[kk].w] 35)).heap.size = wr.heap.size + 1 from by simp] at hlc
          have HLC := Lib.hid hlc
          have HOB := Lib.hid (own_block hown)
          clear hlc
          clear hw hx1 OW
          go_wp2_with (at_builtin; go_must (refine wpList_append_own _ rfl (.tmp 19) (.tmp 22) 44 rfl w1.heap.size 2 i0 _ 1 8 Try.underlying44 hi0 hz0 hz1 hz2 rfl (by decide) (.slice A2 (wl (xs.take kk)).length d2) (wl (xs.take kk)).length _ rfl hown _ 1 1 [.int .i64 xs[kk].w] rfl rfl HLC.out (by intro u hu; simp at hu; rw [hu]; rfl) (by unfold maxLen; omega) (by omega) (by have := BW.out.size; simp; omega) ?_); intro v' w2 hown2 hg2 _)
          go_roundg (xs.length - (kk + 1))
          case measure => omega
          case rel =>
            have he : wl (xs.take (kk + 1)) = wl (xs.take kk) ++ [xs[kk].w] := by rw [ST.out, if_neg HW.out]
            have hown3 : Own encI 1 2 w1.heap.size w2 v' (wl (xs.take (kk + 1))) := by
              rw [he]; unfold Own; rw [List.length_append, flat_append]; exact hown2
            obtain ⟨A3, c3, rfl, _, _⟩ := hown3.sl encI_length
            refine ⟨kk + 1, A3, c3, by omega, by omega, by go_num, rfl, ?_, hown3⟩
            exact HB.out.grown hg2 HB.out.size (fun k hk => HOB.out k hk)
      · have hkx : kk = xs.length := by omega
        subst hkx
        have hown : Own encI 1 2 w1.heap.size wr (.slice A2 (wl (xs.take xs.length)).length d2) (wl (xs.take xs.length)) := OW.out
        obtain ⟨A', c', hv, hs, hcl⟩ := hown.sl encI_length
        have HS := Lib.hid (And.intro hs hcl)
        have HV := Lib.hid hv
        clear hown hs hcl hv OW
        go_wp2_with fail
        go_ret2
        exact ⟨A', c', by rw [← HV.out]; rfl, HS.out.1, HS.out.2, below_then hb1 BW.out⟩
end Go.Proofs.Ytkckhnblkjgkdaa
