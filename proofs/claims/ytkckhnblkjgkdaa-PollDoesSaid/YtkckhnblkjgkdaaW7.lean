/- Layer 9: the reference's Same of numbers; who waits, dropped one by one. -/
import Derived.Test.YtkckhnblkjgkdaaW6
namespace Go.Proofs.Ytkckhnblkjgkdaa
open Go.RowKit

set_option maxHeartbeats 2000000 in
theorem same_ints (A B : Option Addr) (c d : Nat) (xs : List Int) (w : World) (hx : Sl encI 1 w A xs) (hy : Sl encI 1 w B xs) (hbig : xs.length ≤ 9223372036854775807) :
    Calls Try.prog 26 #[.slice A xs.length c, .slice B xs.length d] w fun e w' => e = .returned (.bool true) ∧ Below w.heap.size w w' := by
  go_enter Try.func26, Try.ntmps26
  go_wp2_with fail
  go_loopg [5, 13] xs.length (fun gg _ s13 wr => ∃ kk : Nat, kk ≤ xs.length ∧ xs.length - kk ≤ gg ∧ s13 = .int .i64 kk ∧ Aside (∃ nq, wr = w.drewN nq))
  case atStart => exact ⟨0, Nat.zero_le _, by omega, rfl, ⟨0, rfl⟩⟩
  case round =>
    obtain ⟨kk, hkk, hg, rfl, ⟨nq, rfl⟩⟩ := hrel
    by_cases hlt : kk < xs.length
    · obtain ⟨b1, o1, rfl, p0⟩ := (hx.drewN nq).int_at kk hlt
      obtain ⟨b2, o2, rfl, t0⟩ := (hy.drewN nq).int_at kk hlt
      have z0 : (0 : Int) ≤ (kk : Int) := by omega
      have z1 : (kk : Int) < (xs.length : Int) := by omega
      have DN := Lib.hid (drewN_drewN w nq)
      clear hx hy
      generalize w.drewN nq = w7 at *
      go_wp2_with fail
      go_quiet (fail)
      go_wp2_with fail
      go_roundg (xs.length - (kk + 1))
      case measure => omega
      case rel => exact ⟨kk + 1, by omega, by omega, by go_num, ⟨_, DN.out _⟩⟩
    · go_wp2_with fail
      go_ret
      exact ⟨rfl, below_drewN (Below.refl _ _) _⟩

theorem wl_cons {ys : List Fd} {id : Int} {rest : List Int} (h : wl ys = id :: rest) : ∃ pre x post, ys = pre ++ x :: post ∧ (∀ y ∈ pre, y.w = -1) ∧ x.w = id ∧ id ≠ -1 ∧ wl post = rest := by
  induction ys with
  | nil => cases h
  | cons y ys ih =>
    by_cases e : y.w = -1
    · have : wl (y :: ys) = wl ys := by unfold wl; rw [List.filter_cons]; simp [e]
      rw [this] at h
      obtain ⟨pre, x, post, h1, h2, h3, h4, h5⟩ := ih h
      refine ⟨y :: pre, x, post, by rw [h1]; rfl, ?_, h3, h4, h5⟩
      intro z hz
      rcases List.mem_cons.1 hz with rfl | hz
      · exact e
      · exact h2 z hz
    · have : wl (y :: ys) = y.w :: wl ys := by unfold wl; rw [List.filter_cons]; simp [e]
      rw [this] at h
      simp only [List.cons.injEq] at h
      exact ⟨[], y, ys, rfl, by simp, h.1, by rw [← h.1]; exact e, h.2⟩
theorem wl_app (a b : List Fd) : wl (a ++ b) = wl a ++ wl b := by unfold wl; rw [List.filter_append, List.map_append]
theorem wl_none {a : List Fd} (h : ∀ y ∈ a, y.w = -1) : wl a = [] := by
  unfold wl
  rw [List.map_eq_nil_iff, List.filter_eq_nil_iff]
  intro y hy; simp [h y hy]
/-- Who waits first is dropped. -/
theorem drop_first {ys : List Fd} {id : Int} {rest : List Int} (hc : chk ys = true) (h : wl ys = id :: rest) :
    dropE ys id = 0 ∧ chk (dropL ys id) = true ∧ wl (dropL ys id) = rest ∧ (dropL ys id).length = ys.length := by
  obtain ⟨pre, x, post, rfl, h2, h3, h4, h5⟩ := wl_cons h
  have hxl : pre.length < (pre ++ x :: post).length := by simp
  have hx : (pre ++ x :: post)[pre.length] = x := by simp
  have hodd := odd_facts (odd_no hc hxl)
  rw [hx] at hodd
  have hi : idxOf (whoP id) (pre ++ x :: post) = (pre.length : Int) := by
    refine idxOf_hit _ _ _ hxl (by rw [hx]; simp [whoP, h3]) (fun j hj => ?_)
    rw [List.getElem_append_left hj]
    have := h2 pre[j] (List.getElem_mem hj)
    unfold whoP; rw [this]; simp; omega
  have hd : dropE (pre ++ x :: post) id = 0 := by
    unfold dropE; rw [if_pos hc, hi, if_neg (by have := hodd.1; omega)]
  have hL : dropL (pre ++ x :: post) id = (pre ++ x :: post).set pre.length ⟨true, false, -1⟩ := by
    unfold dropL; rw [if_pos hd, hi, Int.toNat_natCast]
  refine ⟨hd, ?_, ?_, ?_⟩
  · rw [hL]; exact chk_set hc rfl (fun h => absurd rfl h)
  · rw [hL, List.set_append_right _ _ (Nat.le_refl _), Nat.sub_self, List.set_cons_zero, wl_app, wl_none h2, List.nil_append]
    have : wl ((⟨true, false, -1⟩ : Fd) :: post) = wl post := by unfold wl; rw [List.filter_cons]; simp
    rw [this, h5]
  · rw [hL, List.length_set]
theorem sl_tail {w : World} {b off c : Nat} {l : List Int} (h : Sl encI 1 w (some ⟨b, off, none⟩) l) (hlc : l.length ≤ c) (k : Nat) : Sl encI 1 w (if c = k then some ⟨b, off, none⟩ else some ⟨b, off + k, none⟩) (l.drop k) := by
  intro h0
  rw [List.length_drop] at h0
  rw [if_neg (by omega)]
  refine ⟨b, off + k, rfl, fun j hj i v hv => ?_⟩
  rw [List.length_drop] at hj
  obtain ⟨b', off', hA, hc⟩ := h (by omega)
  obtain ⟨rfl, rfl⟩ : b = b' ∧ off = off' := by simpa using hA
  have := hc (k + j) (by omega) i v (by rw [List.getElem_drop] at hv; exact hv)
  rw [show off + k + j * 1 + i = off + (k + j) * 1 + i from by omega]
  exact this
end Go.Proofs.Ytkckhnblkjgkdaa
