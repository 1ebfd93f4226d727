/- Layer 9: slices.Clone, poll.own, poll.opened, poll.Open, poll.Shut, poll.Fire. -/
import Derived.Test.YtkckhnblkjgkdaaB
namespace Go.Proofs.Ytkckhnblkjgkdaa
open Go.RowKit

theorem info35 : (Try.prog.info? 35).map (fun i => (i.zero, i.size, i.bytes)) = some (some (.agg #[.bool false, .bool false, .int .i64 0]), 3, 16) := by kernel_rfl
theorem own_empty (w : World) (base : Nat) (e : TypeId) (size : Nat) (hb : base ≤ w.heap.size) : (w.alloc (.cells #[] e)).ownsRow base e size (.slice (some ⟨w.heap.size, 0, none⟩) 0 0) 0 [] :=
  World.ownsRow_made w #[] 0 hb (by decide) (by simp)
set_option maxHeartbeats 1000000 in
theorem clone_fd (b off c : Nat) (xs : List Fd) (w : World) (hx : Sl Fd.enc 3 w (some ⟨b, off, none⟩) xs) (h0 : 0 < xs.length) (hn : xs.length ≤ 1000000) :
    Calls Try.prog 41 #[.slice (some ⟨b, off, none⟩) xs.length c] w fun e w' => ∃ v, e = .returned v ∧ Own Fd.enc 3 35 w.heap.size w' v xs ∧ Below w.heap.size w w' := by
  obtain ⟨i0, hi0, hz0, hz1, hz2⟩ := info_parts info35
  have hnil := fun W => Lib.run_eql_slice_nil (P := Try.prog) W 22 35 (some ⟨b, off, none⟩) xs.length c 0 0 Try.underlying22
  have hne : Hid (∀ j u, (flat Fd.enc xs)[j]? = some u → (w.alloc (.cells #[] 35)).cell? ((⟨b, off, none⟩ : Addr).add j) = some u) := by
    obtain ⟨b', off', hA, hcell⟩ := (hx.alloc (.cells #[] 35)).news Fd.enc_length h0
    obtain ⟨rfl, rfl⟩ : b = b' ∧ off = off' := by simpa using hA
    exact Lib.hid hcell
  go_enter Try.func41, Try.ntmps41
  go_wp2_with (at_builtin; go_must (refine wpList_append_own _ rfl (.tmp 5) (.tmp 6) 22 rfl w.heap.size 35 i0 _ 3 16 Try.underlying22 hi0 hz0 hz1 hz2 rfl (by decide) (.slice (some ⟨w.heap.size, 0, none⟩) 0 0) 0 [] rfl (own_empty w _ 35 3 (Nat.le_refl _)) ⟨b, off, none⟩ xs.length c (flat Fd.enc xs) rfl (flat_length Fd.enc_length) hne.out (flat_one Fd.enc_one) (by unfold maxLen; omega) (by omega) (by simp) ?_); intro v' w1 hown1 hg1 _)
  go_ret
  refine ⟨v', rfl, ?_, ?_⟩
  · unfold Own; simpa using hown1
  · refine ((Below.refl _ _).alloc (Nat.le_refl _) _).grown hg1 (by simp) ?_
    intro k hk
    simp [Value.ownBlock] at hk
    omega

theorem errC_yes {xs : List Fd} (h : chk xs = true) : errC xs = 0 := by unfold errC; rw [if_pos h]
theorem errC_not {xs : List Fd} (h : chk xs = false) : errC xs = 1 := by unfold errC; rw [h]; rfl
theorem chk_len {xs : List Fd} (h : chk xs = true) : xs.length ≤ 16 := by
  unfold chk at h; rw [Bool.and_eq_true] at h; simpa using h.2
theorem own_form {w : World} {v : Value} {base : Nat} {xs : List Fd} (h : Own Fd.enc 3 35 base w v xs) (h0 : 0 < xs.length) : ∃ g cap, v = .slice (some ⟨g, 0, none⟩) xs.length cap ∧ base ≤ g ∧ g < w.heap.size := by
  unfold Own at h
  obtain ⟨g, cap, hv, hb, hg⟩ := h.form h0
  exact ⟨g, cap, hv, hb, hg⟩
theorem own_base_le {w : World} {base g cap : Nat} {xs : List Fd} (h : Own Fd.enc 3 35 base w (.slice (some ⟨g, 0, none⟩) xs.length cap) xs) {i : Nat} (hi : i < xs.length) : base ≤ g := by
  obtain ⟨g', cap', hv, hb, _⟩ := own_form h (by omega)
  simp only [Value.slice.injEq, Option.some.injEq, Addr.mk.injEq, and_true, true_and] at hv
  omega
theorem own_cells {w : World} {base g cap : Nat} {xs : List Fd} (h : Own Fd.enc 3 35 base w (.slice (some ⟨g, 0, none⟩) xs.length cap) xs) (i : Nat) (hi : i < xs.length) :
    w.cell? ⟨g, i * 3, none⟩ = some (.bool xs[i].o) ∧ w.cell? ⟨g, i * 3 + 1, none⟩ = some (.bool xs[i].r) ∧ w.cell? ⟨g, i * 3 + 2, none⟩ = some (.int .i64 xs[i].w) ∧ (∀ j, w.frozen? ⟨g, j, none⟩ = false) := by
  unfold Own at h
  have hc := fun j (hj : j < xs.length * 3) => h.cellAt (n := xs.length) j hj
  have hf := fun j (hj : j < 3) => flat_get (enc := Fd.enc) Fd.enc_length i hi j hj
  refine ⟨?_, ?_, ?_, fun j => h.frozenAt j⟩
  · rw [hc (i * 3) (by omega)]; have := hf 0 (by omega); rw [Nat.add_zero] at this; rw [this]; rfl
  · rw [hc (i * 3 + 1) (by omega), hf 1 (by omega)]; rfl
  · rw [hc (i * 3 + 2) (by omega), hf 2 (by omega)]; rfl
theorem own_setAll {w : World} {base g cap : Nat} {xs : List Fd} (h : Own Fd.enc 3 35 base w (.slice (some ⟨g, 0, none⟩) xs.length cap) xs) (i : Nat) (hi : i < xs.length) (x : Fd) :
    Own Fd.enc 3 35 base (((w.setCell ⟨g, i * 3, none⟩ (.bool x.o)).setCell ⟨g, i * 3 + 1, none⟩ (.bool x.r)).setCell ⟨g, i * 3 + 2, none⟩ (.int .i64 x.w)) (.slice (some ⟨g, 0, none⟩) (xs.set i x).length cap) (xs.set i x) := by
  unfold Own at h ⊢
  have h0 := (h.stored (i * 3 + 0) (.bool x.o)).1
  rw [flat_set Fd.enc_length i hi 0 (by omega) _ { xs[i] with o := x.o } rfl] at h0
  have h1 := (h0.stored (i * 3 + 1) (.bool x.r)).1
  rw [flat_set Fd.enc_length i (by simpa using hi) 1 (by omega) _ { xs[i] with o := x.o, r := x.r } (by simp [Fd.enc])] at h1
  have h2 := (h1.stored (i * 3 + 2) (.int .i64 x.w)).1
  rw [flat_set Fd.enc_length i (by simpa using hi) 2 (by omega) _ x (by simp [Fd.enc])] at h2
  simp only [List.set_set] at h2
  rw [List.length_set]
  exact h2
theorem below_setAll {B : Nat} {w W : World} {g i : Nat} (h : Below B w W) (hg : B ≤ g) (a b c : Value) : Below B w (((W.setCell ⟨g, i * 3, none⟩ a).setCell ⟨g, i * 3 + 1, none⟩ b).setCell ⟨g, i * 3 + 2, none⟩ c) :=
  ((h.setCell hg _).setCell hg _).setCell hg _

/-- Whether a number is one's. -/
def inP (xs : List Fd) (i : Int) : Bool := chk xs && decide (0 ≤ i ∧ i < xs.length)
theorem inP_cases (xs : List Fd) (i : Int) : (chk xs = false ∧ inP xs i = false) ∨ (chk xs = true ∧ (i < 0 ∨ (xs.length : Int) ≤ i) ∧ inP xs i = false) ∨ (∃ n : Nat, i = n ∧ n < xs.length ∧ chk xs = true ∧ inP xs i = true) := by
  unfold inP
  cases h : chk xs
  · exact .inl ⟨rfl, rfl⟩
  · by_cases hi : 0 ≤ i ∧ i < (xs.length : Int)
    · exact .inr (.inr ⟨i.toNat, by omega, by omega, rfl, by simp [hi]⟩)
    · exact .inr (.inl ⟨rfl, by omega, by simp; omega⟩)

set_option maxHeartbeats 1000000 in
theorem ownp_yes (b off c : Nat) (xs : List Fd) (i : Nat) (w : World) (hx : Sl Fd.enc 3 w (some ⟨b, off, none⟩) xs) (hi : i < xs.length) (hc : chk xs = true) :
    Calls Try.prog 29 #[.slice (some ⟨b, off, none⟩) xs.length c, .int .i64 i] w fun e w' => ∃ g cap, e = .returned (.tuple #[.slice (some ⟨g, 0, none⟩) xs.length cap, .pointer (some ⟨g, i * 3, none⟩), .int .i64 0]) ∧ Own Fd.enc 3 35 w.heap.size w' (.slice (some ⟨g, 0, none⟩) xs.length cap) xs ∧ Below w.heap.size w w' := by
  have hl := chk_len hc
  have hck := check_any (some ⟨b, off, none⟩) c xs w hx (by omega)
  rw [errC_yes hc] at hck
  go_enter Try.func29, Try.ntmps29
  go_wp2_with (go_at_call 14; refine hck.mono ?_; rintro e w1 ⟨rfl, hb1⟩)
  refine (clone_fd b off c xs w1 (hx.below hb1) (by omega) (by omega)).mono ?_
  rintro e w2 ⟨v, rfl, hown, hb2⟩
  obtain ⟨g, cap, rfl, hg1, hg2⟩ := own_form hown (by omega)
  have hlt : (i : Int) < (xs.length : Int) := by omega
  have hge : (0 : Int) ≤ (i : Int) := by omega
  go_wp2_with fail
  go_quiet (fail)
  go_wp2
  go_ret3
  refine ⟨g, cap, ?_, ?_, ?_⟩
  · rfl
  · exact (hown.lower hb1.size).below (below_drewN (Below.refl _ _) _)
  · exact below_drewN (below_then hb1 hb2) _

set_option maxHeartbeats 1000000 in
theorem ownp_no (A : Option Addr) (c : Nat) (xs : List Fd) (i : Int) (w : World) (hx : Sl Fd.enc 3 w A xs) (hbig : xs.length ≤ 9223372036854775807) (h : inP xs i = false) :
    Calls Try.prog 29 #[.slice A xs.length c, .int .i64 i] w fun e w' => e = .returned (.tuple #[.slice none 0 0, .pointer none, .int .i64 1]) ∧ Below w.heap.size w w' := by
  have hck := check_any A c xs w hx hbig
  rcases inP_cases xs i with ⟨hc, _⟩ | ⟨hc, hi, _⟩ | ⟨n, _, _, _, he⟩
  · rw [errC_not hc] at hck
    clear hc h
    go_enter Try.func29, Try.ntmps29
    go_wp2_with (go_at_call 14; refine hck.mono ?_; rintro e w1 ⟨rfl, hb1⟩)
    go_ret3
    exact ⟨rfl, hb1⟩
  · rw [errC_yes hc] at hck
    clear hc h
    go_enter Try.func29, Try.ntmps29
    go_wp2_with (go_at_call 14; refine hck.mono ?_; rintro e w1 ⟨rfl, hb1⟩)
    all_goals (go_ret3; exact ⟨rfl, hb1⟩)
  · rw [h] at he; cases he
end Go.Proofs.Ytkckhnblkjgkdaa
