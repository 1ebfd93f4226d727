/- Layer 9: the reference's Check. -/
import Derived.Test.YtkckhnblkjgkdaaS1
namespace Go.Proofs.Ytkckhnblkjgkdaa
open Go.RowKit

theorem fine_step {xs : List Fd} {k : Nat} (hk : k < xs.length) (h : fine xs k) (ho : xs[k].odd = false) (hw : ∀ i, i < k → ∀ hi : i < xs.length, xs[k].w ≠ -1 → xs[i].w ≠ xs[k].w) : fine xs (k + 1) := by
  intro j hj hjl
  by_cases e : j = k
  · subst e
    exact ⟨ho, fun i hi hil hne => hw i hi hil hne⟩
  · exact h j (by omega) hjl
set_option maxHeartbeats 8000000 in
theorem refCheck_c (A : Option Addr) (c : Nat) (xs : List Fd) (w : World) (hx : Sl Fd.enc 3 w A xs) (hcap : xs.length ≤ c) :
    Calls Try.prog 27 #[.slice A xs.length c] w fun e w' => e = .returned (.int .i64 (errC xs)) ∧ Below w.heap.size w w' := by
  by_cases h16 : 16 < xs.length
  · have HE : Hid (errC xs = 1) := by show errC xs = 1; unfold errC chk; rw [if_neg]; simp; intro _; omega
    go_enter Try.func27, Try.ntmps27
    go_wp2_with fail
    go_ret
    exact ⟨ret_int HE.out.symm, Below.refl _ _⟩
  · go_enter Try.func27, Try.ntmps27
    go_wp2_with fail
    go_loopg [3, 4, 6, 12] xs.length (fun gg _ _ _ s12 wr => ∃ kk : Nat, kk ≤ xs.length ∧ xs.length - kk ≤ gg ∧ s12 = .int .i64 kk ∧ Aside (Below w.heap.size w wr) ∧ Aside (fine xs kk))
    case atStart => exact ⟨0, Nat.zero_le _, by omega, rfl, Below.refl _ _, fun j hj => absurd hj (Nat.not_lt_zero _)⟩
    case round =>
      obtain ⟨kk, hkk, hgk, rfl, BW, FI⟩ := hrel
      by_cases hlt : kk < xs.length
      · obtain ⟨b1, o1, rfl, c0, c1, c2⟩ := (hx.below BW.out).fd_at kk hlt
        have z0 : (0 : Int) ≤ (kk : Int) := by omega
        have z1 : (kk : Int) < (xs.length : Int) := by omega
        have z2 : (kk : Int) ≤ (c : Int) := by omega
        have HNO := Lib.hid (@errC_no xs kk hlt)
        have HFS := Lib.hid (@fine_step xs kk hlt FI.out)
        generalize hxx : xs[kk] = x at *
        have HX := Lib.hid hxx
        clear hxx
        have hxs := hx.below BW.out
        have HOD := Lib.hid (show x.odd = (decide (x.w < -1) || ((!x.o && !decide (x = ⟨false, false, -1⟩)) || (x.r && !decide (x.w = -1)))) from rfl)
        have HEQ := Lib.hid (fd_eq_iff x ⟨false, false, -1⟩)
        clear hx
        by_cases hw1 : x.w < -1
        · have HE := Lib.hid (HNO.out (.inl (by rw [HOD.out]; simp [hw1])))
          go_wp2_with fail
          go_ret
          exact ⟨ret_int HE.out.symm, BW.out.alloc BW.out.size _⟩
        · have hwm : -1 ≤ x.w := by omega
          cases ho : x.o
          · rw [ho] at c0
            cases hr : x.r
            · rw [hr] at c1
              by_cases hw : x.w = -1
              · have HODD : Hid (x.odd = false) := by show _ = _; rw [HOD.out, ho, hr, hw]; simp; rw [HEQ.out]; exact ⟨ho, hr, hw⟩
                have HW := Lib.hid hw
                rw [hw] at c2
                clear ho hr hw
                go_wp2_with fail
                have b2 : (wr.alloc (.cells #[.bool false, .bool false, .int .i64 (-1)] 35)).cell? ⟨wr.heap.size, 2, none⟩ = some (.int .i64 (-1)) := by simp
                have BW5 := BW.out.alloc BW.out.size (.cells #[.bool false, .bool false, .int .i64 (-1)] 35)
                have hx5 := hxs.alloc (.cells #[.bool false, .bool false, .int .i64 (-1)] 35)
                generalize wr.alloc (.cells #[.bool false, .bool false, .int .i64 (-1)] 35) = w5 at *
                go_loopg [6, 47] kk (fun g2 _ s47 wq => ∃ mm : Nat, mm ≤ kk ∧ kk - mm ≤ g2 ∧ s47 = .int .i64 mm ∧ Aside (Below w5.heap.size w5 wq) ∧ Aside (∀ i, i < mm → ∀ hi : i < xs.length, x.w ≠ -1 → xs[i].w ≠ x.w))
                case atStart => exact ⟨0, Nat.zero_le _, by omega, rfl, Below.refl _ _, fun j hj => absurd hj (Nat.not_lt_zero _)⟩
                case round =>
                  obtain ⟨mm, hmm, hgm, rfl, BQ, NO⟩ := hrel
                  have e2 := cell_below BQ.out b2
                  by_cases hlt2 : mm < kk
                  · have hmx : mm < xs.length := by omega
                    obtain ⟨b2', o2, hA2, d0, d1, d2⟩ := (hx5.below BQ.out).fd_at mm hmx
                    obtain ⟨rfl, rfl⟩ : b1 = b2' ∧ o1 = o2 := by simpa using hA2
                    have y0 : (0 : Int) ≤ (mm : Int) := by omega
                    have y1 : (mm : Int) < (kk : Int) := by omega
                    have e3 := fun o => cell_alloc e2 o
                    clear hA2 b2 hxs hx5
                    go_wp2_with fail
                    go_roundg (kk - (mm + 1))
                    case measure => omega
                    case rel =>
                      refine ⟨mm + 1, by omega, by omega, by go_num, BQ.out.alloc BQ.out.size _, (show Aside _ from fun j hj hl hne => ?_)⟩
                      by_cases e : j = mm
                      · subst e
                        exact absurd HW.out hne
                      · exact NO.out j (by omega) hl hne
                  · have hmk : mm = kk := by omega
                    have HF := Lib.hid (HFS.out HODD.out (fun i hi hil hne => NO.out i (by omega) hil hne))
                    clear hmk
                    go_wp2_with fail
                    go_roundg (xs.length - (kk + 1))
                    case measure => omega
                    case rel => exact ⟨kk + 1, by omega, by omega, by go_num, below_then BW5 BQ.out, HF.out⟩
              · have HE := Lib.hid (HNO.out (.inl (by rw [HOD.out, ho, hr]; simp; right; intro hq; exact hw (HEQ.out.1 hq).2.2)))
                have hb : (x.w != -1) = true := by simpa using hw
                clear ho hr hw
                go_wp2_with fail
                go_ret
                exact ⟨ret_int HE.out.symm, BW.out.alloc BW.out.size _⟩
            · rw [hr] at c1
              have HE := Lib.hid (HNO.out (.inl (by rw [HOD.out, ho, hr]; simp; right; left; intro hq; have := (HEQ.out.1 hq).2.1; rw [hr] at this; cases this)))
              clear ho hr
              go_wp2_with fail
              go_ret
              exact ⟨ret_int HE.out.symm, BW.out.alloc BW.out.size _⟩
          · rw [ho] at c0
            cases hr : x.r
            · rw [hr] at c1
              have HODD : Hid (x.odd = false) := by show _ = _; rw [HOD.out, ho, hr]; simp; omega
              clear ho hr
              go_wp2_with fail
              have b2 : (wr.alloc (.cells #[.bool true, .bool false, .int .i64 x.w] 35)).cell? ⟨wr.heap.size, 2, none⟩ = some (.int .i64 x.w) := by simp
              have BW5 := BW.out.alloc BW.out.size (.cells #[.bool true, .bool false, .int .i64 x.w] 35)
              have hx5 := hxs.alloc (.cells #[.bool true, .bool false, .int .i64 x.w] 35)
              generalize wr.alloc (.cells #[.bool true, .bool false, .int .i64 x.w] 35) = w5 at *
              go_loopg [6, 47] kk (fun g2 _ s47 wq => ∃ mm : Nat, mm ≤ kk ∧ kk - mm ≤ g2 ∧ s47 = .int .i64 mm ∧ Aside (Below w5.heap.size w5 wq) ∧ Aside (∀ i, i < mm → ∀ hi : i < xs.length, x.w ≠ -1 → xs[i].w ≠ x.w))
              case atStart => exact ⟨0, Nat.zero_le _, by omega, rfl, Below.refl _ _, fun j hj => absurd hj (Nat.not_lt_zero _)⟩
              case round =>
                obtain ⟨mm, hmm, hgm, rfl, BQ, NO⟩ := hrel
                have e2 := cell_below BQ.out b2
                by_cases hlt2 : mm < kk
                · have hmx : mm < xs.length := by omega
                  obtain ⟨b2', o2, hA2, d0, d1, d2⟩ := (hx5.below BQ.out).fd_at mm hmx
                  obtain ⟨rfl, rfl⟩ : b1 = b2' ∧ o1 = o2 := by simpa using hA2
                  have y0 : (0 : Int) ≤ (mm : Int) := by omega
                  have y1 : (mm : Int) < (kk : Int) := by omega
                  have e3 := fun o => cell_alloc e2 o
                  clear hA2 b2 hxs hx5
                  by_cases hneg : x.w = -1
                  · have hz : decide (0 ≤ x.w) = false := by rw [hneg]; rfl
                    have HW := Lib.hid hneg
                    rw [hneg] at e2 e3
                    clear hneg hz
                    go_wp2_with fail
                    go_roundg (kk - (mm + 1))
                    case measure => omega
                    case rel =>
                      refine ⟨mm + 1, by omega, by omega, by go_num, BQ.out.alloc BQ.out.size _, (show Aside _ from fun j hj hl hne => ?_)⟩
                      by_cases e : j = mm
                      · subst e
                        exact absurd HW.out hne
                      · exact NO.out j (by omega) hl hne
                  · have hz : 0 ≤ x.w := by omega
                    by_cases heq : xs[mm].w = x.w
                    · have hb : (xs[mm].w == x.w) = true := by simpa using heq
                      have HE := Lib.hid (HNO.out (.inr ⟨hneg, mm, hlt2, hmx, heq⟩))
                      clear heq hneg
                      go_wp2_with fail
                      go_ret
                      exact ⟨ret_int HE.out.symm, (below_then BW5 BQ.out).alloc (below_then BW5 BQ.out).size _⟩
                    · have hb : (xs[mm].w == x.w) = false := by simpa using heq
                      have HNE := Lib.hid heq
                      clear heq hneg
                      go_wp2_with fail
                      go_roundg (kk - (mm + 1))
                      case measure => omega
                      case rel =>
                        refine ⟨mm + 1, by omega, by omega, by go_num, BQ.out.alloc BQ.out.size _, (show Aside _ from fun j hj hl hne => ?_)⟩
                        by_cases e : j = mm
                        · subst e
                          exact HNE.out
                        · exact NO.out j (by omega) hl hne
                · have hmk : mm = kk := by omega
                  have HF := Lib.hid (HFS.out HODD.out (fun i hi hil hne => NO.out i (by omega) hil hne))
                  clear hmk
                  go_wp2_with fail
                  go_roundg (xs.length - (kk + 1))
                  case measure => omega
                  case rel => exact ⟨kk + 1, by omega, by omega, by go_num, below_then BW5 BQ.out, HF.out⟩
            · rw [hr] at c1
              by_cases hw : x.w = -1
              · have HODD : Hid (x.odd = false) := by show _ = _; rw [HOD.out, ho, hr, hw]; simp
                have HW := Lib.hid hw
                rw [hw] at c2
                clear ho hr hw
                go_wp2_with fail
                have b2 : (wr.alloc (.cells #[.bool true, .bool true, .int .i64 (-1)] 35)).cell? ⟨wr.heap.size, 2, none⟩ = some (.int .i64 (-1)) := by simp
                have BW5 := BW.out.alloc BW.out.size (.cells #[.bool true, .bool true, .int .i64 (-1)] 35)
                have hx5 := hxs.alloc (.cells #[.bool true, .bool true, .int .i64 (-1)] 35)
                generalize wr.alloc (.cells #[.bool true, .bool true, .int .i64 (-1)] 35) = w5 at *
                go_loopg [6, 47] kk (fun g2 _ s47 wq => ∃ mm : Nat, mm ≤ kk ∧ kk - mm ≤ g2 ∧ s47 = .int .i64 mm ∧ Aside (Below w5.heap.size w5 wq) ∧ Aside (∀ i, i < mm → ∀ hi : i < xs.length, x.w ≠ -1 → xs[i].w ≠ x.w))
                case atStart => exact ⟨0, Nat.zero_le _, by omega, rfl, Below.refl _ _, fun j hj => absurd hj (Nat.not_lt_zero _)⟩
                case round =>
                  obtain ⟨mm, hmm, hgm, rfl, BQ, NO⟩ := hrel
                  have e2 := cell_below BQ.out b2
                  by_cases hlt2 : mm < kk
                  · have hmx : mm < xs.length := by omega
                    obtain ⟨b2', o2, hA2, d0, d1, d2⟩ := (hx5.below BQ.out).fd_at mm hmx
                    obtain ⟨rfl, rfl⟩ : b1 = b2' ∧ o1 = o2 := by simpa using hA2
                    have y0 : (0 : Int) ≤ (mm : Int) := by omega
                    have y1 : (mm : Int) < (kk : Int) := by omega
                    have e3 := fun o => cell_alloc e2 o
                    clear hA2 b2 hxs hx5
                    go_wp2_with fail
                    go_roundg (kk - (mm + 1))
                    case measure => omega
                    case rel =>
                      refine ⟨mm + 1, by omega, by omega, by go_num, BQ.out.alloc BQ.out.size _, (show Aside _ from fun j hj hl hne => ?_)⟩
                      by_cases e : j = mm
                      · subst e
                        exact absurd HW.out hne
                      · exact NO.out j (by omega) hl hne
                  · have hmk : mm = kk := by omega
                    have HF := Lib.hid (HFS.out HODD.out (fun i hi hil hne => NO.out i (by omega) hil hne))
                    clear hmk
                    go_wp2_with fail
                    go_roundg (xs.length - (kk + 1))
                    case measure => omega
                    case rel => exact ⟨kk + 1, by omega, by omega, by go_num, below_then BW5 BQ.out, HF.out⟩
              · have HE := Lib.hid (HNO.out (.inl (by rw [HOD.out, ho, hr]; simp; right; exact hw)))
                have hb : (x.w != -1) = true := by simpa using hw
                clear ho hr hw
                go_wp2_with fail
                go_ret
                exact ⟨ret_int HE.out.symm, BW.out.alloc BW.out.size _⟩
      · have hkx : kk = xs.length := by omega
        have HE : Hid (errC xs = 0) := by
          show errC xs = 0
          have hf : fine xs xs.length := by rw [← hkx]; exact FI.out
          unfold errC chk; rw [if_pos]; simp [hf]; omega
        clear hkx
        go_wp2_with fail
        go_ret
        exact ⟨ret_int HE.out.symm, BW.out⟩
end Go.Proofs.Ytkckhnblkjgkdaa
