/- Layer 9: what is done, and undone. -/
import Derived.Test.YtkckhnblkjgkdaaG
import Derived.Test.YtkckhnblkjgkdaaI
namespace Go.Proofs.Ytkckhnblkjgkdaa
open Go.RowKit

theorem odd_no {xs : List Fd} (h : chk xs = true) {n : Nat} (hn : n < xs.length) : xs[n].odd = false := by
  unfold chk at h
  rw [Bool.and_eq_true, decide_eq_true_eq] at h
  exact (h.1 n hn hn).1
theorem odd_facts {x : Fd} (h : x.odd = false) : -1 ≤ x.w ∧ (x.o = false → x = ⟨false, false, -1⟩) ∧ (x.r = true → x.w = -1) := by
  obtain ⟨o, r, w⟩ := x
  simp only [Fd.odd, Bool.or_eq_false_iff, decide_eq_false_iff_not, Bool.and_eq_false_iff, Bool.not_eq_false'] at h
  obtain ⟨h1, h2, h3⟩ := h
  refine ⟨by have h1a : ¬ w < -1 := h1; show -1 ≤ w; omega, fun ho => ?_, fun hr => ?_⟩
  · dsimp only at ho; rw [ho] at h2; simpa [ho] using h2
  · dsimp only at hr; rw [hr] at h3; simpa using h3
theorem inP_set {xs : List Fd} {n : Nat} {x : Fd} (h : chk (xs.set n x) = true) (hn : n < xs.length) : inP (xs.set n x) n = true := by
  unfold inP; rw [h]; simp; exact hn
theorem fdAt_set {xs : List Fd} {n : Nat} {x : Fd} (hn : n < xs.length) : fdAt (xs.set n x) n = x := by
  rw [fdAt_nat (by rw [List.length_set]; exact hn)]; simp
theorem need_set {xs : List Fd} {n : Nat} {x : Fd} (h : chk (xs.set n x) = true) (hn : n < xs.length) (ho : x.o = true) :
    needE (xs.set n x) n = 0 ∧ whoV (xs.set n x) n = x.w ∧ fireL (xs.set n x) n = xs.set n ⟨true, x.w == -1, -1⟩ ∧ shutL (xs.set n x) n = xs.set n ⟨false, false, -1⟩ := by
  have h0 : needE (xs.set n x) n = 0 := by unfold needE; rw [inP_set h hn, fdAt_set hn, ho]; rfl
  refine ⟨h0, ?_, ?_, ?_⟩
  · unfold whoV; rw [if_pos h0, fdAt_set hn]
  · unfold fireL; rw [if_pos h0, fdAt_set hn, Int.toNat_natCast, List.set_set]
  · unfold shutL; rw [if_pos h0, Int.toNat_natCast, List.set_set]
theorem set_id {xs : List Fd} {n : Nat} (hn : n < xs.length) {x : Fd} (h : xs[n] = x) : xs.set n x = xs := by
  subst h; exact List.set_getElem_self hn

/-- Opened, and shut. -/
theorem back_open {xs : List Fd} {n : Nat} (hc : chk xs = true) (hn : n < xs.length) (ho : xs[n].o = false) :
    openL xs n = xs.set n ⟨true, false, -1⟩ ∧ needE (xs.set n ⟨true, false, -1⟩) n = 0 ∧ whoV (xs.set n ⟨true, false, -1⟩) n = -1 ∧ shutL (xs.set n ⟨true, false, -1⟩) n = xs := by
  have hk : chk (xs.set n ⟨true, false, -1⟩) = true := chk_set hc rfl (fun h => absurd rfl h)
  obtain ⟨h1, h2, _, h4⟩ := need_set hk hn rfl
  refine ⟨?_, h1, h2, by rw [h4]; exact set_id hn ((odd_facts (odd_no hc hn)).2.1 ho)⟩
  unfold openL
  have : openE xs n = 0 := by unfold openE inP; rw [hc, fdAt_nat hn, ho]; simp; exact hn
  rw [if_pos this, Int.toNat_natCast]
/-- Armed, and dropped, or fired. -/
theorem arm_facts {xs : List Fd} {n : Nat} {id : Int} (hc : chk xs = true) (hn : n < xs.length) (h : armE xs n id = 0) : 0 ≤ id ∧ xs.any (whoP id) = false ∧ xs[n].w = -1 ∧ xs[n].o = true := by
  unfold armE at h
  by_cases h1 : needE xs n = 1 ∨ id < 0
  · rw [if_pos h1] at h; cases h
  · rw [if_neg h1] at h
    by_cases h2 : needE xs n ≠ 0
    · rw [if_pos h2] at h; cases h
    · rw [if_neg h2] at h
      by_cases h3 : xs.any (whoP id) = true
      · rw [if_pos h3] at h; cases h
      · rw [if_neg h3, fdAt_nat hn] at h
        by_cases h4 : xs[n].w ≠ -1
        · rw [if_pos h4] at h; cases h
        · refine ⟨by omega, by simpa using h3, by omega, ?_⟩
          have : needE xs n = 0 := by omega
          unfold needE inP at this
          rw [hc, fdAt_nat hn] at this
          cases ho : xs[n].o
          · rw [ho] at this
            simp [hn] at this
          · rfl
theorem back_arm {xs : List Fd} {n : Nat} {id : Int} (hc : chk xs = true) (hn : n < xs.length) (h : armE xs n id = 0) (hr : xs[n].r = false) :
    armL xs n id = xs.set n ⟨true, false, id⟩ ∧ dropE (xs.set n ⟨true, false, id⟩) id = 0 ∧ dropL (xs.set n ⟨true, false, id⟩) id = xs ∧
    needE (xs.set n ⟨true, false, id⟩) n = 0 ∧ whoV (xs.set n ⟨true, false, id⟩) n = id ∧ fireL (xs.set n ⟨true, false, id⟩) n = xs := by
  obtain ⟨h1, h2, h3, h4⟩ := arm_facts hc hn h
  have hk : chk (xs.set n ⟨true, false, id⟩) = true := by
    refine chk_set hc ?_ (fun _ => h2)
    have : ¬ id < -1 := by omega
    simp [Fd.odd, this]
  obtain ⟨g1, g2, g3, _⟩ := need_set hk hn rfl
  have hx : xs[n] = ⟨true, false, -1⟩ := by rw [fd_eq_iff]; exact ⟨h4, hr, h3⟩
  have hi : idxOf (whoP id) (xs.set n ⟨true, false, id⟩) = (n : Int) := by
    refine idxOf_hit _ _ n (by rw [List.length_set]; exact hn) (by simp [whoP]) (fun j hj => ?_)
    rw [List.getElem_set_ne (by omega)]
    rw [List.any_eq_false] at h2
    simpa using h2 xs[j] (List.getElem_mem _)
  have hd : dropE (xs.set n ⟨true, false, id⟩) id = 0 := by
    unfold dropE; rw [if_pos hk, hi, if_neg (by omega)]
  refine ⟨?_, hd, ?_, g1, g2, ?_⟩
  · unfold armL; rw [if_pos h, fdAt_nat hn, hr, Int.toNat_natCast]; rfl
  · unfold dropL; rw [if_pos hd, hi, Int.toNat_natCast, List.set_set]; exact set_id hn hx
  · rw [g3]
    have : (id == -1) = false := by simp; omega
    rw [this]; exact set_id hn hx
/-- Fired twice. -/
theorem back_fire {xs : List Fd} {n : Nat} (hc : chk xs = true) (hn : n < xs.length) (h : needE xs n = 0) (hw : xs[n].w = -1) :
    fireL xs n = xs.set n ⟨true, true, -1⟩ ∧ needE (xs.set n ⟨true, true, -1⟩) n = 0 ∧ whoV (xs.set n ⟨true, true, -1⟩) n = -1 ∧ fireL (xs.set n ⟨true, true, -1⟩) n = xs.set n ⟨true, true, -1⟩ := by
  have hk : chk (xs.set n ⟨true, true, -1⟩) = true := chk_set hc (by simp [Fd.odd]) (fun h => absurd rfl h)
  obtain ⟨g1, g2, g3, _⟩ := need_set hk hn rfl
  refine ⟨?_, g1, g2, g3⟩
  unfold fireL; rw [if_pos h, fdAt_nat hn, hw, Int.toNat_natCast]; rfl
theorem whoV_in {xs : List Fd} {n : Nat} (hn : n < xs.length) (h : needE xs n = 0) : whoV xs n = xs[n].w := by
  unfold whoV; rw [if_pos h, fdAt_nat hn]
theorem own_sl {w : World} {base : Nat} {A : Option Addr} {n c : Nat} {r : List Fd} (h : Own Fd.enc 3 35 base w (.slice A n c) r) : Sl Fd.enc 3 w A r := by
  obtain ⟨A', c', hv, hs, _⟩ := h.sl Fd.enc_length
  simp only [Value.slice.injEq] at hv
  rw [hv.1]; exact hs
theorem sl_base {w : World} {A : Option Addr} {xs : List Fd} (h : Sl Fd.enc 3 w A xs) : ∃ b off, 0 < xs.length → A = some ⟨b, off, none⟩ := by
  by_cases h0 : 0 < xs.length
  · obtain ⟨b, off, hA, _⟩ := h h0
    exact ⟨b, off, fun _ => hA⟩
  · exact ⟨0, 0, fun h => absurd h h0⟩

/-! the contracts, the address out of sight -/
section
variable (A : Option Addr) (c : Nat) (xs : List Fd) (i : Int) (w : World)
theorem open_c (hx : Sl Fd.enc 3 w A xs) (hbig : xs.length ≤ 9223372036854775807) : Calls Try.prog 10 #[.slice A xs.length c, .int .i64 i] w (Gives w (openL xs i) (openE xs i)) := by
  obtain ⟨b, off, hA⟩ := sl_base hx
  exact open_slice b off c A xs i w hA hx hbig
theorem shut_c (hx : Sl Fd.enc 3 w A xs) (hbig : xs.length ≤ 9223372036854775807) : Calls Try.prog 11 #[.slice A xs.length c, .int .i64 i] w (GivesV (.int .i64 (whoV xs i)) w (shutL xs i) (needE xs i)) := by
  obtain ⟨b, off, hA⟩ := sl_base hx
  exact shut_slice b off c A xs i w hA hx hbig
theorem fire_c (hx : Sl Fd.enc 3 w A xs) (hbig : xs.length ≤ 9223372036854775807) : Calls Try.prog 13 #[.slice A xs.length c, .int .i64 i] w (GivesV (.int .i64 (whoV xs i)) w (fireL xs i) (needE xs i)) := by
  obtain ⟨b, off, hA⟩ := sl_base hx
  exact fire_slice b off c A xs i w hA hx hbig
theorem arm_c (id : Int) (hx : Sl Fd.enc 3 w A xs) (hbig : xs.length ≤ 9223372036854775807) : Calls Try.prog 12 #[.slice A xs.length c, .int .i64 i, .int .i64 id] w (GivesV (.bool (armV xs i id)) w (armL xs i id) (armE xs i id)) := by
  obtain ⟨b, off, hA⟩ := sl_base hx
  exact arm_slice b off c A xs i id w hA hx hbig
theorem drop_c (id : Int) (hx : Sl Fd.enc 3 w A xs) (hbig : xs.length ≤ 9223372036854775807) : Calls Try.prog 21 #[.slice A xs.length c, .int .i64 id] w (Gives w (dropL xs id) (dropE xs id)) := by
  obtain ⟨b, off, hA⟩ := sl_base hx
  exact drop_slice b off c A xs id w hA hx hbig
theorem same_c (B : Option Addr) (d : Nat) (hx : Sl Fd.enc 3 w A xs) (hy : Sl Fd.enc 3 w B xs) (hbig : xs.length ≤ 9223372036854775807) : Calls Try.prog 28 #[.slice A xs.length c, .slice B xs.length d] w fun e w' => e = .returned (.bool true) ∧ Below w.heap.size w w' := by
  have h := same_fd A B c d xs xs w hx hy hbig
  rw [show decide (xs = xs) = true from by simp] at h
  exact h.mono fun e w' ⟨he, n, hw⟩ => ⟨he, by rw [hw]; exact below_drewN (Below.refl _ _) n⟩
end
end Go.Proofs.Ytkckhnblkjgkdaa
