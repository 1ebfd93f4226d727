/- Layer 9: the reference's in, with, waits, Open. -/
import Derived.Test.YtkckhnblkjgkdaaS3
namespace Go.Proofs.Ytkckhnblkjgkdaa
open Go.RowKit

set_option maxHeartbeats 2000000 in
theorem refIn_c (A : Option Addr) (c : Nat) (xs : List Fd) (i : Int) (w : World) (hx : Sl Fd.enc 3 w A xs) (hcap : xs.length ≤ c) :
    Calls Try.prog 36 #[.slice A xs.length c, .int .i64 i] w fun e w' => e = .returned (.bool (inP xs i)) ∧ Below w.heap.size w w' := by
  have hck := refCheck_c A c xs w hx hcap
  rcases inP_cases xs i with ⟨hc, he⟩ | ⟨hc, hi, he⟩ | ⟨n, rfl, hn, hc, he⟩
  · rw [errC_not hc] at hck
    rw [he]; clear hc he
    go_enter Try.func36, Try.ntmps36
    go_wp2_with (go_at_call 27; refine hck.mono ?_; rintro e w1 ⟨rfl, hb1⟩)
    go_ret
    exact ⟨rfl, hb1⟩
  · rw [errC_yes hc] at hck
    rw [he]; clear hc he
    rcases hi with hi | hi
    · have hz : decide (0 ≤ i) = false := by simpa using hi
      clear hi
      go_enter Try.func36, Try.ntmps36
      go_wp2_with (go_at_call 27; refine hck.mono ?_; rintro e w1 ⟨rfl, hb1⟩)
      go_ret
      exact ⟨rfl, hb1⟩
    · have hz : decide (i < (xs.length : Int)) = false := by simpa using hi
      have hz2 : 0 ≤ i := by omega
      clear hi
      go_enter Try.func36, Try.ntmps36
      go_wp2_with (go_at_call 27; refine hck.mono ?_; rintro e w1 ⟨rfl, hb1⟩)
      go_ret
      exact ⟨rfl, hb1⟩
  · rw [errC_yes hc] at hck
    rw [he]; clear hc he
    have hz : (n : Int) < (xs.length : Int) := by omega
    have hz2 : (0 : Int) ≤ (n : Int) := by omega
    go_enter Try.func36, Try.ntmps36
    go_wp2_with (go_at_call 27; refine hck.mono ?_; rintro e w1 ⟨rfl, hb1⟩)
    go_ret
    exact ⟨rfl, hb1⟩

theorem own_nil (w : World) (base : Nat) : w.ownsRow base 35 3 (.slice none 0 0) 0 [] := World.ownsRow_nil w base 35 3
theorem with_mid {w w0 w1 : World} {xs : List Fd} {v' : Value} (hb0 : Below w.heap.size w w0) (hg : w0.grownBy w1 (Value.slice none 0 0).ownBlock) (ho : w1.ownsRow w.heap.size 35 3 v' (0 + xs.length) ([] ++ flat Fd.enc xs)) :
    Below w0.heap.size w0 w1 ∧ Below w.heap.size w w1 ∧ Own Fd.enc 3 35 w.heap.size w1 v' xs := by
  have h1 : Below w0.heap.size w0 w1 := (Below.refl _ _).grown hg (Nat.le_refl _) (fun k hk => by simp [Value.ownBlock] at hk)
  exact ⟨h1, below_then hb0 h1, by unfold Own; simpa using ho⟩
set_option maxHeartbeats 2000000 in
theorem refWith_c (b off c : Nat) (xs : List Fd) (i : Nat) (x : Fd) (w : World) (hx : Sl Fd.enc 3 w (some ⟨b, off, none⟩) xs) (hi : i < xs.length) (hn : xs.length ≤ 1000000) :
    Calls Try.prog 37 #[.slice (some ⟨b, off, none⟩) xs.length c, .int .i64 i, .agg #[.bool x.o, .bool x.r, .int .i64 x.w]] w fun e w' => ∃ g d, e = .returned (.slice (some ⟨g, 0, none⟩) xs.length d) ∧ Own Fd.enc 3 35 w.heap.size w' (.slice (some ⟨g, 0, none⟩) (xs.set i x).length d) (xs.set i x) ∧ Below w.heap.size w w' := by
  obtain ⟨i0, hi0, hz0, hz1, hz2⟩ := info_parts info35
  have hb0 : Below w.heap.size w (w.alloc (.cells #[.bool x.o, .bool x.r, .int .i64 x.w] 35)) := (Below.refl _ _).alloc (Nat.le_refl _) _
  have k0 : (w.alloc (.cells #[.bool x.o, .bool x.r, .int .i64 x.w] 35)).cell? ⟨w.heap.size, 0, none⟩ = some (.bool x.o) := by simp
  have k1 : (w.alloc (.cells #[.bool x.o, .bool x.r, .int .i64 x.w] 35)).cell? ⟨w.heap.size, 1, none⟩ = some (.bool x.r) := by simp
  have k2 : (w.alloc (.cells #[.bool x.o, .bool x.r, .int .i64 x.w] 35)).cell? ⟨w.heap.size, 2, none⟩ = some (.int .i64 x.w) := by simp
  have hx0 := hx.below hb0
  have hne : Hid (∀ j u, (flat Fd.enc xs)[j]? = some u → (w.alloc (.cells #[.bool x.o, .bool x.r, .int .i64 x.w] 35)).cell? ((⟨b, off, none⟩ : Addr).add j) = some u) := by
    obtain ⟨b', off', hA, hcell⟩ := hx0.news Fd.enc_length (by omega)
    obtain ⟨rfl, rfl⟩ : b = b' ∧ off = off' := by simpa using hA
    exact Lib.hid hcell
  have z0 : (i : Int) < (xs.length : Int) := by omega
  have z1 : (0 : Int) ≤ (i : Int) := by omega
  go_enter Try.func37, Try.ntmps37
  go_wp2_with (at_builtin; go_must (refine wpList_append_own _ rfl (.const (.slice none 0 0)) (.tmp 8) 22 rfl w.heap.size 35 i0 _ 3 16 Try.underlying22 hi0 hz0 hz1 hz2 rfl (by decide) (.slice none 0 0) 0 [] rfl (own_nil _ _) ⟨b, off, none⟩ xs.length c (flat Fd.enc xs) rfl (flat_length Fd.enc_length) hne.out (flat_one Fd.enc_one) (by unfold maxLen; omega) (by omega) (by simp) ?_); intro v' w1 hown1 hg1 _; obtain ⟨hbw, hw1, hown⟩ := with_mid hb0 hg1 hown1; have q0 := cell_below hbw k0; have q1 := cell_below hbw k1; have q2 := cell_below hbw k2; obtain ⟨g, d, rfl, hg2, hg3⟩ := own_form hown (by omega); obtain ⟨c0, c1, c2, hfz⟩ := own_cells hown i hi; have f0 := hfz (i * 3); have f1 := hfz (i * 3 + 1); have f2 := hfz (i * 3 + 2); have HO := Lib.hid hown; clear hown hown1 hg1 k0 k1 k2)
  go_ret
  exact ⟨g, d, rfl, by simpa using own_setAll HO.out i hi x, below_setAll hw1 hg2 _ _ _⟩
end Go.Proofs.Ytkckhnblkjgkdaa
