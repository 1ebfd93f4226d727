/- Layer 15: slices.Index of bools, fair.Least. -/
import Derived.Test.YtcgddfpfmnpaeaaG
namespace Go.Proofs.Ytcgddfpfmnpaeaa
open Go.RowKit

set_option maxHeartbeats 1000000 in
theorem indexBool (A : Option Addr) (c : Nat) (bs : List Bool) (w : World) (hx : Sl encB 1 w A bs) (hbig : bs.length ≤ 9223372036854775807) :
    Calls Try.prog 25 #[.slice A bs.length c, .bool true] w fun e w' => e = .returned (.int .i64 (idxOf id bs)) ∧ w = w' := by
  go_enter Try.func25, Try.ntmps25
  go_wp2
  go_loopg [5, 8] bs.length (fun gg _ s8 wr => ∃ kk : Nat, kk ≤ bs.length ∧ bs.length - kk ≤ gg ∧ s8 = .int .i64 kk ∧ wr = w ∧ Aside (∀ j, (hj : j < kk) → ∀ hl : j < bs.length, id bs[j] = false))
  case atStart => exact ⟨0, Nat.zero_le _, by omega, rfl, rfl, fun j hj => absurd hj (Nat.not_lt_zero _)⟩
  case round =>
    obtain ⟨kk, hkk, hg, rfl, rfl, NO⟩ := hrel
    by_cases hlt : kk < bs.length
    · obtain ⟨b, off, rfl, c0⟩ := hx.bool_at kk hlt
      clear hx
      cases hq : bs[kk] with
      | true =>
        rw [hq] at c0
        have HQ := Lib.hid hq; clear hq
        go_wp2
        go_ret
        refine ⟨?_, rfl⟩
        exact ret_int (idxOf_hit id bs kk hlt HQ.out (fun j hj => NO.out j hj (by omega))).symm
      | false =>
        rw [hq] at c0
        have HQ := Lib.hid hq; clear hq
        go_wp2
        go_roundg (bs.length - (kk + 1))
        case measure => omega
        case rel =>
          refine ⟨kk + 1, by omega, by omega, by go_num, rfl, (show Aside _ from fun j hj hl => ?_)⟩
          by_cases e : j = kk
          · subst e
            exact HQ.out
          · exact NO.out j (by omega) hl
    · have : kk = bs.length := by omega
      go_wp2
      go_ret
      refine ⟨?_, rfl⟩
      exact ret_int (idxOf_miss id bs (fun j hj => NO.out j (by omega) hj)).symm

def betterP (xs : List Ten) (bs : List Bool) (i k : Nat) : Bool := bs.getD i false && decide ((tenAt xs i).t < (tenAt xs k).t)
theorem betterP_false {xs : List Ten} {bs : List Bool} {i k : Nat} (hi : i < bs.length) (h : bs[i] = false) : betterP xs bs i k = false := by unfold betterP; simp [hi, h]
theorem betterP_true {xs : List Ten} {bs : List Bool} {i k : Nat} (hi : i < bs.length) (hx : i < xs.length) (hk : k < xs.length) (h : bs[i] = true) : betterP xs bs i k = decide (xs[i].t < xs[k].t) := by
  unfold betterP; rw [tenAt_nat hx, tenAt_nat hk]; simp [hi, h]

set_option maxHeartbeats 1000000 in
theorem better_any (A Ab : Option Addr) (c cb Bl Bb Bk : Nat) (xs : List Ten) (bs : List Bool) (i k : Nat) (w : World)
    (hl : w.cell? ⟨Bl, 0, none⟩ = some (.slice A xs.length c)) (hb : w.cell? ⟨Bb, 0, none⟩ = some (.slice Ab bs.length cb)) (hk : w.cell? ⟨Bk, 0, none⟩ = some (.int .i64 k))
    (hx : Sl Ten.enc 5 w A xs) (hbs : Sl encB 1 w Ab bs) (hi : i < xs.length) (hib : i < bs.length) (hkl : k < xs.length) :
    Calls Try.prog 26 #[.int .i64 i, .pointer (some ⟨Bb, 0, none⟩), .pointer (some ⟨Bl, 0, none⟩), .pointer (some ⟨Bk, 0, none⟩)] w fun e w' => e = .returned (.bool (betterP xs bs i k)) ∧ ∃ nq, w' = w.drewN nq := by
  obtain ⟨b1, o1, rfl, d0⟩ := hbs.bool_at i hib
  have z0 : (0 : Int) ≤ (i : Int) := by omega
  have z1 : (i : Int) < (bs.length : Int) := by omega
  have z2 : (i : Int) < (xs.length : Int) := by omega
  have z3 : (k : Int) < (xs.length : Int) := by omega
  have z4 : (0 : Int) ≤ (k : Int) := by omega
  cases hq : bs[i] with
  | false =>
    rw [hq] at d0
    have HP := Lib.hid (betterP_false (xs := xs) (k := k) hib hq)
    clear hbs hx hq
    go_enter Try.func26, Try.ntmps26
    go_wp2_with fail
    go_quiet (fail)
    go_wp2
    go_ret
    exact ⟨ret_bool HP.out.symm, _, rfl⟩
  | true =>
    obtain ⟨b, off, rfl, _, _, _, e3, _⟩ := hx.ten_at i hi
    obtain ⟨b', off', hA, _, _, _, f3, _⟩ := hx.ten_at k hkl
    obtain ⟨rfl, rfl⟩ : b = b' ∧ off = off' := by simpa using hA
    rw [hq] at d0
    have HP := Lib.hid (betterP_true (xs := xs) (k := k) hib hi hkl hq)
    clear hbs hx hq hA
    go_enter Try.func26, Try.ntmps26
    go_wp2_with fail
    go_quiet (fail)
    go_wp2
    go_ret
    exact ⟨ret_bool HP.out.symm, _, rfl⟩

/-- The least of the first n that are busy; -1: none. -/
def best (xs : List Ten) (bs : List Bool) : Nat → Int
  | 0 => -1
  | n + 1 => if bs.getD n false = true ∧ (best xs bs n < 0 ∨ (tenAt xs n).t < (tenAt xs (best xs bs n)).t) then (n : Int) else best xs bs n
theorem best_range (xs : List Ten) (bs : List Bool) (n : Nat) : -1 ≤ best xs bs n ∧ best xs bs n < n := by
  induction n with
  | zero => simp [best]
  | succ n ih => rw [best]; split <;> omega
theorem best_none {xs : List Ten} {bs : List Bool} (n : Nat) (h : ∀ j, j < n → bs.getD j false = false) : best xs bs n = -1 := by
  induction n with
  | zero => rfl
  | succ n ih => rw [best, if_neg (by rw [h n (by omega)]; simp), ih (fun j hj => h j (by omega))]
theorem best_first {xs : List Ten} {bs : List Bool} {k : Nat} (h : ∀ j, j < k → bs.getD j false = false) (hk : bs.getD k false = true) : best xs bs (k + 1) = k := by
  rw [best, if_pos ⟨hk, .inl (by rw [best_none k h]; omega)⟩]
theorem best_keeps {xs : List Ten} {bs : List Bool} {m n : Nat} (hmn : m ≤ n) (h : 0 ≤ best xs bs m) : 0 ≤ best xs bs n := by
  induction n with
  | zero => obtain rfl : m = 0 := by omega
            exact h
  | succ n ih =>
    rcases Nat.lt_or_ge n m with hlt | hge
    · obtain rfl : m = n + 1 := by omega
      exact h
    · have := ih hge
      rw [best]; split <;> omega
/-- What the program keeps: the first that is busy, till a lesser one comes. -/
def keptN (xs : List Ten) (bs : List Bool) (k0 n : Nat) : Nat := if best xs bs n < 0 then k0 else (best xs bs n).toNat
theorem keptN_lt {xs : List Ten} {bs : List Bool} {k0 n m : Nat} (hk : k0 < m) (hn : n ≤ m) : keptN xs bs k0 n < m := by
  unfold keptN; have := best_range xs bs n; split <;> omega
theorem keptN_step {xs : List Ten} {bs : List Bool} {k0 : Nat} (h : ∀ j, j < k0 → bs.getD j false = false) (hk : bs.getD k0 false = true) (n : Nat) :
    keptN xs bs k0 (n + 1) = if betterP xs bs n (keptN xs bs k0 n) = true then n else keptN xs bs k0 n := by
  have hr := best_range xs bs n
  by_cases hn : n < k0
  · have h1 := best_none (xs := xs) (n + 1) (fun j hj => h j (by omega))
    have h2 := best_none (xs := xs) n (fun j hj => h j (by omega))
    unfold keptN; rw [h1, h2, betterP, h n hn]; simp
  · by_cases he : n = k0
    · subst he
      have h2 := best_none (xs := xs) n h
      have h1 := best_first (xs := xs) h hk
      unfold keptN; rw [h1, h2, betterP]; simp
    · have h0 : 0 ≤ best xs bs n := best_keeps (m := k0 + 1) (by omega) (by rw [best_first h hk]; omega)
      obtain ⟨b, hb⟩ := Int.eq_ofNat_of_zero_le h0
      unfold keptN
      rw [best, hb, betterP]
      have hnb : ¬ ((b : Int) < 0) := by omega
      simp only [hnb, if_false, false_or, Bool.and_eq_true, decide_eq_true_eq, Int.toNat_natCast]
      split
      · rw [if_neg (by omega)]; simp
      · simp

def leastE (xs : List Ten) (bs : List Bool) : Int := if chk xs = true ∧ bs.length = xs.length then (if 0 ≤ best xs bs xs.length then 0 else 5) else 1
def leastV (xs : List Ten) (bs : List Bool) : Int := if leastE xs bs = 0 then best xs bs xs.length else 0
theorem least_bad {xs : List Ten} {bs : List Bool} (h : chk xs = false ∨ bs.length ≠ xs.length) : leastE xs bs = 1 ∧ leastV xs bs = 0 := by
  have : leastE xs bs = 1 := by
    unfold leastE; rw [if_neg]; rintro ⟨a, b⟩; rcases h with h | h
    · rw [a] at h; cases h
    · exact h b
  exact ⟨this, by unfold leastV; rw [this]; rfl⟩
theorem least_none {xs : List Ten} {bs : List Bool} (h : chk xs = true) (hb : bs.length = xs.length) (hn : best xs bs xs.length < 0) : leastE xs bs = 5 ∧ leastV xs bs = 0 := by
  have : leastE xs bs = 5 := by unfold leastE; rw [if_pos ⟨h, hb⟩, if_neg (by omega)]
  exact ⟨this, by unfold leastV; rw [this]; rfl⟩
theorem least_some {xs : List Ten} {bs : List Bool} (h : chk xs = true) (hb : bs.length = xs.length) (hn : 0 ≤ best xs bs xs.length) : leastE xs bs = 0 ∧ leastV xs bs = best xs bs xs.length := by
  have : leastE xs bs = 0 := by unfold leastE; rw [if_pos ⟨h, hb⟩, if_pos hn]
  exact ⟨this, by unfold leastV; rw [this]; rfl⟩
theorem idxOf_cases (bs : List Bool) : (idxOf id bs = -1 ∧ ∀ j, bs.getD j false = false) ∨ ∃ k, k < bs.length ∧ idxOf id bs = (k : Int) ∧ bs.getD k false = true ∧ ∀ j, j < k → bs.getD j false = false := by
  unfold idxOf
  cases h : bs.findIdx? id with
  | none =>
    refine .inl ⟨rfl, fun j => ?_⟩
    rw [List.findIdx?_eq_none_iff] at h
    rcases Nat.lt_or_ge j bs.length with hj | hj
    · have := h bs[j] (List.getElem_mem hj)
      rw [List.getD_eq_getElem?_getD, List.getElem?_eq_getElem hj]; simpa using this
    · rw [List.getD_eq_getElem?_getD, List.getElem?_eq_none hj]; rfl
  | some k =>
    rw [List.findIdx?_eq_some_iff_getElem] at h
    obtain ⟨hk, hp, hno⟩ := h
    refine .inr ⟨k, hk, rfl, ?_, fun j hj => ?_⟩
    · rw [List.getD_eq_getElem?_getD, List.getElem?_eq_getElem hk]; simpa using hp
    · have := hno j hj
      rw [List.getD_eq_getElem?_getD, List.getElem?_eq_getElem (by omega)]; simpa using this

set_option maxHeartbeats 2000000 in
theorem least_bad_any (A Ab : Option Addr) (c cb : Nat) (xs : List Ten) (bs : List Bool) (w : World) (hx : Sl Ten.enc 5 w A xs)
    (hbig : xs.length ≤ 9223372036854775807) (h : chk xs = false ∨ bs.length ≠ xs.length) :
    Calls Try.prog 10 #[.slice A xs.length c, .slice Ab bs.length cb] w fun e w' => e = .returned (.tuple #[.int .i64 (leastV xs bs), .int .i64 (leastE xs bs)]) ∧ Below w.heap.size w w' := by
  have HE := Lib.hid (least_bad h)
  have hbw : ∀ o1 o2, Below w.heap.size w ((w.alloc o1).alloc o2) := fun o1 o2 => ((Below.refl _ _).alloc (Nat.le_refl _) _).alloc (by simp) _
  have HB := Lib.hid hbw; clear hbw
  cases hc : chk xs
  case false =>
    clear h
    go_enter Try.func10, Try.ntmps10
    go_wp2_with (go_at_call 24; refine (check_no A c xs _ (hx.below (HB.out _ _)) hbig hc).mono ?_; rintro e w1 ⟨rfl, hb1⟩)
    go_ret2
    exact ⟨ret_int2 HE.out.2.symm HE.out.1.symm, (HB.out _ _).trans (hb1.mono (by simp; omega))⟩
  case true =>
    have hne : ((bs.length : Int) == (xs.length : Int)) = false := by
      rcases h with h | h
      · rw [hc] at h; cases h
      · simp; omega
    clear h
    go_enter Try.func10, Try.ntmps10
    go_wp2_with fail
    refine (check_yes A c xs _ (hx.below (HB.out _ _)) hbig hc).mono ?_
    rintro e w1 ⟨rfl, hb1⟩
    have k0 : w1.cell? ⟨w.heap.size, 0, none⟩ = some (.slice A xs.length c) := cell_below hb1 (by simp)
    have k1 : w1.cell? ⟨w.heap.size + 1, 0, none⟩ = some (.slice Ab bs.length cb) := cell_below hb1 (by simp)
    go_wp2_with fail
    go_ret2
    exact ⟨ret_int2 HE.out.2.symm HE.out.1.symm, (HB.out _ _).trans (hb1.mono (by simp; omega))⟩

set_option maxHeartbeats 2000000 in
theorem least_good_any (A Ab : Option Addr) (c cb : Nat) (xs : List Ten) (bs : List Bool) (w : World) (hx : Sl Ten.enc 5 w A xs) (hbs : Sl encB 1 w Ab bs)
    (hc : chk xs = true) (hlen : bs.length = xs.length) :
    Calls Try.prog 10 #[.slice A xs.length c, .slice Ab bs.length cb] w fun e w' => e = .returned (.tuple #[.int .i64 (leastV xs bs), .int .i64 (leastE xs bs)]) ∧ Below w.heap.size w w' := by
  have hl := chk_len hc
  have hbw : ∀ o1 o2, Below w.heap.size w ((w.alloc o1).alloc o2) := fun o1 o2 => ((Below.refl _ _).alloc (Nat.le_refl _) _).alloc (by simp) _
  have HB := Lib.hid hbw; clear hbw
  have HC := Lib.hid hc
  have HL := Lib.hid hlen
  have heq : ((bs.length : Int) == (xs.length : Int)) = true := by simp; omega
  have z1 : bs.length ≤ xs.length := by omega
  have z2 : xs.length ≤ bs.length := by omega
  have hidx := idxOf_cases bs
  clear hlen
  rcases hidx with ⟨he, hno⟩ | ⟨k0, hk0, he, hyes, hno⟩
  · have HE := Lib.hid (least_none HC.out HL.out (by rw [best_none _ (fun j _ => hno j)]; omega))
    have hi := fun W (h : Sl encB 1 W Ab bs) => indexBool Ab cb bs W h (by omega)
    rw [he] at hi
    clear hno he
    go_enter Try.func10, Try.ntmps10
    go_wp2_with fail
    refine (check_yes A c xs _ (hx.below (HB.out _ _)) (by omega) hc).mono ?_
    rintro e w1 ⟨rfl, hb1⟩
    have q0 : w1.cell? ⟨w.heap.size, 0, none⟩ = some (.slice A xs.length c) := cell_below hb1 (by simp)
    have q1 : w1.cell? ⟨w.heap.size + 1, 0, none⟩ = some (.slice Ab bs.length cb) := cell_below hb1 (by simp)
    have hbw1 := (HB.out _ _).trans (hb1.mono (by simp; omega))
    have hbs1 := hbs.below hbw1
    go_wp2_with (go_at_call 25; refine (hi _ hbs1).mono ?_; rintro e w2 ⟨rfl, rfl⟩)
    go_ret2
    exact ⟨ret_int2 HE.out.2.symm HE.out.1.symm, hbw1.alloc hbw1.size _⟩
  · have hi := fun W (h : Sl encB 1 W Ab bs) => indexBool Ab cb bs W h (by omega)
    rw [he] at hi
    have HS := Lib.hid (@keptN_step xs bs k0 hno hyes)
    have hk1 : k0 < xs.length := by omega
    have HB0 := Lib.hid (best_keeps (xs := xs) (bs := bs) (m := k0 + 1) (n := xs.length) (by omega) (by rw [best_first hno hyes]; omega))
    have HE := Lib.hid (least_some HC.out HL.out HB0.out)
    have hst : keptN xs bs k0 0 = k0 := rfl
    have HST := Lib.hid hst; clear hst
    clear hno he hyes
    go_enter Try.func10, Try.ntmps10
    go_wp2_with fail
    refine (check_yes A c xs _ (hx.below (HB.out _ _)) (by omega) hc).mono ?_
    rintro e w1 ⟨rfl, hb1⟩
    have q0 : w1.cell? ⟨w.heap.size, 0, none⟩ = some (.slice A xs.length c) := cell_below hb1 (by simp)
    have q1 : w1.cell? ⟨w.heap.size + 1, 0, none⟩ = some (.slice Ab bs.length cb) := cell_below hb1 (by simp)
    have hs1 : w.heap.size + 2 ≤ w1.heap.size := by have := hb1.size; simp at this; omega
    have hbw1 := (HB.out _ _).trans (hb1.mono (by simp; omega))
    have hbs1 := hbs.below hbw1
    have hx1 := hx.below hbw1
    clear hb1
    have r0 := fun o => cell_alloc q0 o
    have r1 := fun o => cell_alloc q1 o
    go_wp2_with (go_at_call 25; refine (hi _ hbs1).mono ?_; rintro e w2 ⟨rfl, rfl⟩)
    go_loopg [8, 26] xs.length (fun gg _ s26 wr => ∃ kk : Nat, kk ≤ xs.length ∧ xs.length - kk ≤ gg ∧ s26 = .int .i64 kk ∧ Aside (Below w1.heap.size w1 wr) ∧ Aside (w1.heap.size < wr.heap.size) ∧ Aside (wr.cell? ⟨w1.heap.size, 0, none⟩ = some (.int .i64 (keptN xs bs k0 kk))) ∧ Aside (wr.frozen? ⟨w1.heap.size, 0, none⟩ = false))
    case atStart => exact ⟨0, Nat.zero_le _, by omega, rfl, (Below.refl _ _).alloc (Nat.le_refl _) _, by show _ < _; simp, by show _ = _; rw [HST.out]; simp, by show _ = _; simp⟩
    case round =>
      obtain ⟨kk, hkk, hg, rfl, BW, SZ, CK, FZ⟩ := hrel
      clear r0 r1
      have p0 := cell_below BW.out q0
      have p1 := cell_below BW.out q1
      have p2 := CK.out
      have p3 := FZ.out
      by_cases hlt : kk < xs.length
      · have hkl := keptN_lt (xs := xs) (bs := bs) (n := kk) hk1 hkk
        have hbet := better_any A Ab c cb w.heap.size (w.heap.size + 1) w1.heap.size xs bs kk (keptN xs bs k0 kk) wr p0 p1 p2 (hx1.below BW.out) (hbs1.below BW.out) hlt (by omega) hkl
        have HSk := Lib.hid (HS.out kk)
        cases hbp : betterP xs bs kk (keptN xs bs k0 kk)
        all_goals
          rw [hbp] at hbet
          have HBP := Lib.hid hbp; clear hbp
          go_wp2_with (go_at_call 26; refine hbet.mono ?_; rintro e w2 ⟨rfl, nq, rfl⟩)
          go_roundg (xs.length - (kk + 1))
          case measure => omega
        · case rel =>
            refine ⟨kk + 1, by omega, by omega, by go_num, below_drewN BW.out _, SZ.out, ?_, FZ.out⟩
            show _ = _
            rw [HSk.out, HBP.out]
            exact CK.out
        · case rel =>
            refine ⟨kk + 1, by omega, by omega, by go_num, (below_drewN BW.out nq).setCell (Nat.le_refl _) _, ?_, ?_, ?_⟩
            · show _ < _
              rw [size_set]; exact SZ.out
            · show _ = _
              rw [HSk.out, if_pos HBP.out]
              exact cell_set (w := wr.drewN nq) CK.out _
            · show _ = _
              rw [frozen_set]; exact FZ.out
      · have hkx : kk = xs.length := by omega
        subst hkx
        go_wp2
        go_ret2
        refine ⟨?_, hbw1.trans (BW.out.mono hbw1.size)⟩
        refine ret_int2 ?_ HE.out.1.symm
        have h0 := HB0.out
        rw [HE.out.2]
        unfold keptN
        rw [if_neg (by omega)]
        omega

theorem least_any (A Ab : Option Addr) (c cb : Nat) (xs : List Ten) (bs : List Bool) (w : World) (hx : Sl Ten.enc 5 w A xs) (hbs : Sl encB 1 w Ab bs)
    (hbig : xs.length ≤ 9223372036854775807) :
    Calls Try.prog 10 #[.slice A xs.length c, .slice Ab bs.length cb] w fun e w' => e = .returned (.tuple #[.int .i64 (leastV xs bs), .int .i64 (leastE xs bs)]) ∧ Below w.heap.size w w' := by
  by_cases hl : bs.length = xs.length
  · cases hc : chk xs
    · exact least_bad_any A Ab c cb xs bs w hx hbig (.inl hc)
    · exact least_good_any A Ab c cb xs bs w hx hbs hc hl
  · exact least_bad_any A Ab c cb xs bs w hx hbig (.inr hl)
end Go.Proofs.Ytcgddfpfmnpaeaa
