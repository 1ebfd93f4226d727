/- Layer 17: idle.counted, (idle.tally).fits. -/
import Derived.Test.YtdalnaegjclacaaProg
import Derived.Test.YtdalnaegjclacaaAp
namespace Go.Proofs.Ytdalnaegjclacaa
open Go.RowKit

/-- How many are v. -/
def cn (xs : List Int) (v : Int) : Nat := xs.count v
theorem cn_step {xs : List Int} {k : Nat} (h : k < xs.length) (v : Int) : cn (xs.take (k + 1)) v = cn (xs.take k) v + (if xs[k] = v then 1 else 0) := by
  unfold cn
  rw [List.take_succ_eq_append_getElem h, List.count_append]
  by_cases e : xs[k] = v
  · rw [if_pos e, e]; simp
  · rw [if_neg e, List.count_singleton]; simp [e]
theorem cn_le (xs : List Int) (v : Int) : cn xs v ≤ xs.length := List.count_le_length
def all4 (xs : List Int) : Bool := xs.all (fun x => decide (0 ≤ x ∧ x ≤ 3))
theorem all4_at {xs : List Int} (h : all4 xs = true) {k : Nat} (hk : k < xs.length) : 0 ≤ xs[k] ∧ xs[k] ≤ 3 := by
  unfold all4 at h; rw [List.all_eq_true] at h
  simpa using h xs[k] (List.getElem_mem hk)
theorem all4_not {xs : List Int} {k : Nat} (hk : k < xs.length) (h : xs[k] < 0 ∨ 3 < xs[k]) : all4 xs = false := by
  cases hc : all4 xs
  · rfl
  · have := all4_at hc hk; omega
theorem all4_all {xs : List Int} (h : ∀ j, ∀ hj : j < xs.length, 0 ≤ xs[j] ∧ xs[j] ≤ 3) : all4 xs = true := by
  unfold all4; rw [List.all_eq_true]
  intro x hx
  obtain ⟨j, hj, rfl⟩ := List.getElem_of_mem hx
  simpa using h j hj
/-- The tally of the first k. -/
def Tal (w : World) (g : Nat) (xs : List Int) : Prop :=
  w.cell? ⟨g, 0, none⟩ = some (.int .i64 (cn xs 0)) ∧ w.cell? ⟨g, 1, none⟩ = some (.int .i64 (cn xs 1)) ∧ w.cell? ⟨g, 2, none⟩ = some (.int .i64 (cn xs 2)) ∧ w.cell? ⟨g, 3, none⟩ = some (.int .i64 (cn xs 3)) ∧
  w.frozen? ⟨g, 0, none⟩ = false ∧ w.frozen? ⟨g, 1, none⟩ = false ∧ w.frozen? ⟨g, 2, none⟩ = false ∧ w.frozen? ⟨g, 3, none⟩ = false
theorem set_same {w : World} {a : Addr} {u v : Value} (h : w.cell? a = some u) : (w.setCell a v).cell? a = some v := World.cell?_setCell_same w a v h
theorem set_off {w : World} {g i j : Nat} (h : i ≠ j) (v : Value) : (w.setCell ⟨g, i, none⟩ v).cell? ⟨g, j, none⟩ = w.cell? ⟨g, j, none⟩ := World.cell?_setCell_other w _ _ v (fun e => h (by injection e))
theorem Tal.step {w : World} {g : Nat} {xs : List Int} {k : Nat} (hk : k < xs.length) (h : Tal w g (xs.take k)) (q : Nat) (hq : xs[k] = q) (hq3 : q ≤ 3) : Tal (w.setCell ⟨g, q, none⟩ (.int .i64 (cn (xs.take k) q + 1))) g (xs.take (k + 1)) := by
  obtain ⟨c0, c1, c2, c3, f0, f1, f2, f3⟩ := h
  have s := cn_step hk
  unfold Tal
  simp only [frozen_set, f0, f1, f2, f3, and_true]
  rw [s 0, s 1, s 2, s 3, hq]
  have hc : q = 0 ∨ q = 1 ∨ q = 2 ∨ q = 3 := by omega
  rcases hc with rfl | rfl | rfl | rfl
  · refine ⟨?_, ?_, ?_, ?_⟩
    · rw [set_same c0]; simp
    · rw [set_off (by decide), c1]; simp
    · rw [set_off (by decide), c2]; simp
    · rw [set_off (by decide), c3]; simp
  · refine ⟨?_, ?_, ?_, ?_⟩
    · rw [set_off (by decide), c0]; simp
    · rw [set_same c1]; simp
    · rw [set_off (by decide), c2]; simp
    · rw [set_off (by decide), c3]; simp
  · refine ⟨?_, ?_, ?_, ?_⟩
    · rw [set_off (by decide), c0]; simp
    · rw [set_off (by decide), c1]; simp
    · rw [set_same c2]; simp
    · rw [set_off (by decide), c3]; simp
  · refine ⟨?_, ?_, ?_, ?_⟩
    · rw [set_off (by decide), c0]; simp
    · rw [set_off (by decide), c1]; simp
    · rw [set_off (by decide), c2]; simp
    · rw [set_same c3]; simp
theorem Tal.nil {w : World} {g : Nat} {xs : List Int} (h : ∀ j, j < 4 → w.cell? ⟨g, j, none⟩ = some (.int .i64 0)) (f : ∀ j, w.frozen? ⟨g, j, none⟩ = false) : Tal w g (xs.take 0) := by
  have hz : ∀ v, cn (xs.take 0) v = 0 := fun v => by simp [cn]
  unfold Tal
  simp only [hz, f, and_true]
  exact ⟨h 0 (by decide), h 1 (by decide), h 2 (by decide), h 3 (by decide)⟩

theorem set4 {w : World} {g : Nat} {u0 u1 u2 u3 : Value} (t0 : w.cell? ⟨g, 0, none⟩ = some u0) (t1 : w.cell? ⟨g, 1, none⟩ = some u1) (t2 : w.cell? ⟨g, 2, none⟩ = some u2) (t3 : w.cell? ⟨g, 3, none⟩ = some u3) (v0 v1 v2 v3 : Value) :
    ((((w.setCell ⟨g, 0, none⟩ v0).setCell ⟨g, 1, none⟩ v1).setCell ⟨g, 2, none⟩ v2).setCell ⟨g, 3, none⟩ v3).cell? ⟨g, 0, none⟩ = some v0 ∧
    ((((w.setCell ⟨g, 0, none⟩ v0).setCell ⟨g, 1, none⟩ v1).setCell ⟨g, 2, none⟩ v2).setCell ⟨g, 3, none⟩ v3).cell? ⟨g, 1, none⟩ = some v1 ∧
    ((((w.setCell ⟨g, 0, none⟩ v0).setCell ⟨g, 1, none⟩ v1).setCell ⟨g, 2, none⟩ v2).setCell ⟨g, 3, none⟩ v3).cell? ⟨g, 2, none⟩ = some v2 ∧
    ((((w.setCell ⟨g, 0, none⟩ v0).setCell ⟨g, 1, none⟩ v1).setCell ⟨g, 2, none⟩ v2).setCell ⟨g, 3, none⟩ v3).cell? ⟨g, 3, none⟩ = some v3 := by
  refine ⟨?_, ?_, ?_, ?_⟩
  · rw [set_off (by decide), set_off (by decide), set_off (by decide), set_same t0]
  · rw [set_off (by decide), set_off (by decide), set_same (u := u1)]; rw [set_off (by decide), t1]
  · rw [set_off (by decide), set_same (u := u2)]; rw [set_off (by decide), set_off (by decide), t2]
  · rw [set_same (u := u3)]; rw [set_off (by decide), set_off (by decide), set_off (by decide), t3]
/-- What idle.counted hands back. -/
def talV (xs : List Int) : Value := if all4 xs = true then .agg #[.int .i64 (cn xs 0), .int .i64 (cn xs 1), .int .i64 (cn xs 2), .int .i64 (cn xs 3)] else .agg #[.int .i64 0, .int .i64 0, .int .i64 0, .int .i64 0]

set_option maxHeartbeats 2000000 in
theorem counted_any (A B : Option Addr) (c m d : Nat) (xs : List Int) (w : World) (hx : Sl encI 1 w A xs) (hbig : xs.length ≤ 4611686018427387904) :
    Calls Try.prog 66 #[.agg #[.slice A xs.length c, .slice B m d]] w fun e w' => e = .returned (.tuple #[talV xs, .bool (all4 xs)]) ∧ Below w.heap.size w w' := by
  have hx0 := hx.below (((Below.refl _ _).alloc (Nat.le_refl _) (.cells #[.slice A xs.length c, .slice B m d] 41)))
  go_enter Try.func66, Try.ntmps66
  go_wp2_with fail
  have hb0 : ∀ o1 o2, Below w.heap.size w ((w.alloc o1).alloc o2) := fun o1 o2 => ((Below.refl _ _).alloc (Nat.le_refl _) _).alloc (by simp) _
  go_loopg [5, 9] xs.length (fun gg _ s9 wr => ∃ kk : Nat, kk ≤ xs.length ∧ xs.length - kk ≤ gg ∧ s9 = .int .i64 kk ∧ Aside (Below w.heap.size w wr) ∧ Aside (Tal wr (w.heap.size + 1) (xs.take kk)) ∧ Aside (∀ j, j < kk → ∀ hj : j < xs.length, 0 ≤ xs[j] ∧ xs[j] ≤ 3))
  case atStart =>
    refine ⟨0, Nat.zero_le _, by omega, rfl, hb0 _ _, (show Tal _ _ _ from Tal.nil (fun j hj => ?_) (fun j => ?_)), fun j hj => absurd hj (Nat.not_lt_zero _)⟩
    · have h4 : j = 0 ∨ j = 1 ∨ j = 2 ∨ j = 3 := by omega
      rcases h4 with rfl | rfl | rfl | rfl <;> simp
    · simp
  case round =>
    obtain ⟨kk, hkk, hg, rfl, BW, TL, AL⟩ := hrel
    by_cases hlt : kk < xs.length
    · obtain ⟨b, off, rfl, c0⟩ := (hx.below BW.out).int_at kk hlt
      have z0 : (0 : Int) ≤ (kk : Int) := by omega
      have z1 : (kk : Int) < (xs.length : Int) := by omega
      clear hx hx0 hb0
      by_cases hr : 0 ≤ xs[kk] ∧ xs[kk] ≤ 3
      · obtain ⟨t0, t1, t2, t3, f0, f1, f2, f3⟩ := TL.out
        have HR := Lib.hid hr
        have HT := Lib.hid (fun q h1 h2 => Tal.step hlt TL.out q h1 h2)
        have l0 := cn_le (xs.take kk) 0
        have l1 := cn_le (xs.take kk) 1
        have l2 := cn_le (xs.take kk) 2
        have l3 := cn_le (xs.take kk) 3
        rw [List.length_take] at l0 l1 l2 l3
        have hAL : ∀ j, j < kk + 1 → ∀ hj : j < xs.length, 0 ≤ xs[j] ∧ xs[j] ≤ 3 := by
          intro j hj hl
          by_cases e : j = kk
          · subst e; exact hr
          · exact AL.out j (by omega) hl
        have HAL := Lib.hid hAL
        clear hAL TL AL
        have hc : xs[kk] = 0 ∨ xs[kk] = 1 ∨ xs[kk] = 2 ∨ xs[kk] = 3 := by omega
        clear hr
        rcases hc with hc | hc | hc | hc
        all_goals
          rw [hc] at c0
          have HC := Lib.hid hc
          clear hc
          go_wp2_with fail
          go_roundg (xs.length - (kk + 1))
          case measure => omega
          case rel => exact ⟨kk + 1, by omega, by omega, by go_num, BW.out.setCell (Nat.le_succ _) _, HT.out _ HC.out (by decide), HAL.out⟩
      · have HN : Hid (all4 xs = false) := all4_not hlt (by omega)
        obtain ⟨t0, t1, t2, t3, f0, f1, f2, f3⟩ := TL.out
        have hc : xs[kk] < 0 ∨ 0 ≤ xs[kk] ∧ 3 < xs[kk] := by omega
        have HT : Hid (talV xs = .agg #[.int .i64 0, .int .i64 0, .int .i64 0, .int .i64 0]) := by show _ = _; unfold talV; rw [HN.out]; rfl
        clear hr TL AL
        rcases hc with hc | ⟨hc1, hc2⟩
        all_goals
          go_wp2_with fail
          refine bodyPost_ret (v := .tuple #[.agg #[.int .i64 0, .int .i64 0, .int .i64 0, .int .i64 0], .bool false]) ?_ rfl ⟨by rw [HN.out, HT.out], ?_⟩
          · obtain ⟨s0, s1, s2, s3⟩ := set4 t0 t1 t2 t3 (.int .i64 0) (.int .i64 0) (.int .i64 0) (.int .i64 0)
            simp [results, Try.results66, go_sem, s0, s1, s2, s3]
          · exact (((BW.out.setCell (Nat.le_succ _) _).setCell (Nat.le_succ _) _).setCell (Nat.le_succ _) _).setCell (Nat.le_succ _) _
    · have hkx : kk = xs.length := by omega
      have HN : Hid (all4 xs = true) := all4_all (fun j hj => AL.out j (by omega) hj)
      have HT : Hid (talV xs = .agg #[.int .i64 (cn xs 0), .int .i64 (cn xs 1), .int .i64 (cn xs 2), .int .i64 (cn xs 3)]) := by show _ = _; unfold talV; rw [HN.out]; rfl
      have TL2 := TL.out
      rw [hkx, List.take_length] at TL2
      obtain ⟨t0, t1, t2, t3, f0, f1, f2, f3⟩ := TL2
      clear TL AL hkx
      go_wp2_with fail
      refine bodyPost_ret (v := .tuple #[.agg #[.int .i64 (cn xs 0), .int .i64 (cn xs 1), .int .i64 (cn xs 2), .int .i64 (cn xs 3)], .bool true]) ?_ rfl ⟨by rw [HN.out, HT.out], ?_⟩
      · obtain ⟨s0, s1, s2, s3⟩ := set4 t0 t1 t2 t3 (.int .i64 (cn xs 0)) (.int .i64 (cn xs 1)) (.int .i64 (cn xs 2)) (.int .i64 (cn xs 3))
        simp [results, Try.results66, go_sem, s0, s1, s2, s3]
      · exact (((BW.out.setCell (Nat.le_succ _) _).setCell (Nat.le_succ _) _).setCell (Nat.le_succ _) _).setCell (Nat.le_succ _) _

/-- Whether no more spin than may. -/
def fitN (a b c : Nat) : Bool := decide (b ≤ (a + b + c + 1) / 2)
theorem fits_any (n0 n1 n2 n3 : Nat) (w : World) (h0 : n0 ≤ 1000000) (h1 : n1 ≤ 1000000) (h2 : n2 ≤ 1000000) :
    Calls Try.prog 67 #[.agg #[.int .i64 n0, .int .i64 n1, .int .i64 n2, .int .i64 n3]] w fun e w' => e = .returned (.bool (fitN n0 n1 n2)) ∧ Below w.heap.size w w' := by
  have hf : Hid (fitN n0 n1 n2 = decide ((n1 : Int) ≤ ((n0 : Int) + n1 + n2 + 1) / 2)) := by show _ = _; unfold fitN; rw [decide_eq_decide]; omega
  go_enter Try.func67, Try.ntmps67
  go_wp2_with fail
  go_ret
  exact ⟨ret_bool hf.out.symm, (Below.refl _ _).alloc (Nat.le_refl _) _⟩
end Go.Proofs.Ytdalnaegjclacaa
