/- Layer 15: slices.Clone. -/
import Derived.Test.YtcgddfpfmnpaeaaA
namespace Go.Proofs.Ytcgddfpfmnpaeaa
open Go.RowKit

theorem info34 : (Try.prog.info? 34).map (fun i => (i.zero, i.size, i.bytes)) = some (some (.agg #[.int .i64 0, .int .i64 0, .int .i64 0, .int .i64 0, .int .i64 0]), 5, 40) := by kernel_rfl
theorem own_empty (w : World) (base : Nat) (e : TypeId) (size : Nat) (hb : base ≤ w.heap.size) : (w.alloc (.cells #[] e)).ownsRow base e size (.slice (some ⟨w.heap.size, 0, none⟩) 0 0) 0 [] :=
  World.ownsRow_made w #[] 0 hb (by decide) (by simp)
set_option maxHeartbeats 1000000 in
theorem clone_ten (b off c : Nat) (xs : List Ten) (w : World) (hx : Sl Ten.enc 5 w (some ⟨b, off, none⟩) xs) (h0 : 0 < xs.length) (hn : xs.length ≤ 1000000) :
    Calls Try.prog 35 #[.slice (some ⟨b, off, none⟩) xs.length c] w fun e w' => ∃ v, e = .returned v ∧ Own Ten.enc 5 34 w.heap.size w' v xs ∧ Below w.heap.size w w' := by
  obtain ⟨i0, hi0, hz0, hz1, hz2⟩ := info_parts info34
  have hnil := fun W => Lib.run_eql_slice_nil (P := Try.prog) W 23 34 (some ⟨b, off, none⟩) xs.length c 0 0 Try.underlying23
  have hne : Hid (∀ j u, (flat Ten.enc xs)[j]? = some u → (w.alloc (.cells #[] 34)).cell? ((⟨b, off, none⟩ : Addr).add j) = some u) := by
    obtain ⟨b', off', hA, hcell⟩ := (hx.alloc (.cells #[] 34)).news Ten.enc_length h0
    obtain ⟨rfl, rfl⟩ : b = b' ∧ off = off' := by simpa using hA
    exact Lib.hid hcell
  go_enter Try.func35, Try.ntmps35
  go_wp2_with (at_builtin; go_must (refine wpList_append_own _ rfl (.tmp 5) (.tmp 6) 23 rfl w.heap.size 34 i0 _ 5 40 Try.underlying23 hi0 hz0 hz1 hz2 rfl (by decide) (.slice (some ⟨w.heap.size, 0, none⟩) 0 0) 0 [] rfl (own_empty w _ 34 5 (Nat.le_refl _)) ⟨b, off, none⟩ xs.length c (flat Ten.enc xs) rfl (flat_length Ten.enc_length) hne.out (flat_one Ten.enc_one) (by unfold maxLen; omega) (by omega) (by simp) ?_); intro v' w1 hown1 hg1 _)
  go_ret
  refine ⟨v', rfl, ?_, ?_⟩
  · unfold Own; simpa using hown1
  · refine ((Below.refl _ _).alloc (Nat.le_refl _) _).grown hg1 (by simp) ?_
    intro k hk
    simp [Value.ownBlock] at hk
    omega
end Go.Proofs.Ytcgddfpfmnpaeaa
