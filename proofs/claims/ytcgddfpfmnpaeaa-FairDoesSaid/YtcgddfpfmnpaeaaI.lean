/- Layer 15: lodge.New. -/
import Derived.Test.YtcgddfpfmnpaeaaH
namespace Go.Proofs.Ytcgddfpfmnpaeaa
open Go.RowKit

def newL (ws qs : List Int) : List Ten := List.zipWith (fun w q => ⟨w, q, 0, 0, 0⟩) ws qs
/-- The first k are laid. -/
def partL (ws qs : List Int) (n k : Nat) : List Ten := (newL ws qs).take k ++ List.replicate (n - k) ⟨0, 0, 0, 0, 0⟩
theorem newL_length {ws qs : List Int} {n : Nat} (h1 : ws.length = n) (h2 : qs.length = n) : (newL ws qs).length = n := by unfold newL; rw [List.length_zipWith, h1, h2]; omega
theorem partL_length {ws qs : List Int} {n k : Nat} (h1 : ws.length = n) (h2 : qs.length = n) (hk : k ≤ n) : (partL ws qs n k).length = n := by
  unfold partL; rw [List.length_append, List.length_take, newL_length h1 h2, List.length_replicate]; omega
theorem partL_all {ws qs : List Int} {n : Nat} (h1 : ws.length = n) (h2 : qs.length = n) : partL ws qs n n = newL ws qs := by
  unfold partL; rw [Nat.sub_self, List.replicate_zero, List.append_nil, List.take_of_length_le (by rw [newL_length h1 h2]; omega)]
theorem partL_step {ws qs : List Int} {n k : Nat} (h1 : ws.length = n) (h2 : qs.length = n) (hk : k < n) : (partL ws qs n k).set k ⟨ws[k]'(by omega), qs[k]'(by omega), 0, 0, 0⟩ = partL ws qs n (k + 1) := by
  have hl := newL_length h1 h2
  unfold partL
  rw [List.set_append_right _ _ (by rw [List.length_take]; omega), List.length_take, hl, show k - min k n = 0 from by omega, show n - k = (n - (k + 1)) + 1 from by omega, List.replicate_succ, List.set_cons_zero,
    List.take_succ_eq_append_getElem (by omega), List.append_assoc]
  congr 1
  simp [newL]
theorem zeros_flat (n : Nat) : (madeCells (Value.agg #[.int .i64 0, .int .i64 0, .int .i64 0, .int .i64 0, .int .i64 0]).cells (n * 5)).toList = flat Ten.enc (List.replicate n ⟨0, 0, 0, 0, 0⟩) := by
  have h1 : (madeCells (Value.agg #[.int .i64 0, .int .i64 0, .int .i64 0, .int .i64 0, .int .i64 0]).cells (n * 5)).toList = List.replicate (n * 5) (.int .i64 0) := by
    unfold madeCells
    rw [List.eq_replicate_iff]
    refine ⟨by simp, fun b hb => ?_⟩
    simp only [Array.toList_map, List.mem_map] at hb
    obtain ⟨a, _, rfl⟩ := hb
    simp only [Value.cells, List.size_toArray, List.length_cons, List.length_nil]
    have : a % (0 + 1 + 1 + 1 + 1 + 1) < 5 := Nat.mod_lt _ (by omega)
    generalize a % (0 + 1 + 1 + 1 + 1 + 1) = m at *
    match m, this with
    | 0, _ => rfl
    | 1, _ => rfl
    | 2, _ => rfl
    | 3, _ => rfl
    | 4, _ => rfl
  rw [h1]
  clear h1
  induction n with
  | zero => rfl
  | succ n ih =>
    rw [List.replicate_succ, flat, List.flatMap_cons, ← flat, ← ih, Nat.succ_mul, Nat.add_comm, ← List.replicate_append_replicate]
    rfl
theorem own_setAll {w : World} {base g cap : Nat} {xs : List Ten} (h : Own Ten.enc 5 34 base w (.slice (some ⟨g, 0, none⟩) xs.length cap) xs) (i : Nat) (hi : i < xs.length) (x : Ten) :
    Own Ten.enc 5 34 base (((((w.setCell ⟨g, i * 5, none⟩ (.int .i64 x.w)).setCell ⟨g, i * 5 + 1, none⟩ (.int .i64 x.q)).setCell ⟨g, i * 5 + 2, none⟩ (.int .i64 x.l)).setCell ⟨g, i * 5 + 3, none⟩ (.int .i64 x.t)).setCell ⟨g, i * 5 + 4, none⟩ (.int .i64 x.r)) (.slice (some ⟨g, 0, none⟩) (xs.set i x).length cap) (xs.set i x) := by
  unfold Own at h ⊢
  have h0 := (h.stored (i * 5 + 0) (.int .i64 x.w)).1
  rw [flat_set Ten.enc_length i hi 0 (by omega) _ { xs[i] with w := x.w } rfl] at h0
  have h1 := (h0.stored (i * 5 + 1) (.int .i64 x.q)).1
  rw [flat_set Ten.enc_length i (by simpa using hi) 1 (by omega) _ { xs[i] with w := x.w, q := x.q } (by simp [Ten.enc])] at h1
  have h2 := (h1.stored (i * 5 + 2) (.int .i64 x.l)).1
  rw [flat_set Ten.enc_length i (by simpa using hi) 2 (by omega) _ { xs[i] with w := x.w, q := x.q, l := x.l } (by simp [Ten.enc])] at h2
  have h3 := (h2.stored (i * 5 + 3) (.int .i64 x.t)).1
  rw [flat_set Ten.enc_length i (by simpa using hi) 3 (by omega) _ { xs[i] with w := x.w, q := x.q, l := x.l, t := x.t } (by simp [Ten.enc])] at h3
  have h4 := (h3.stored (i * 5 + 4) (.int .i64 x.r)).1
  rw [flat_set Ten.enc_length i (by simpa using hi) 4 (by omega) _ x (by simp [Ten.enc])] at h4
  simp only [List.set_set] at h4
  rw [List.length_set]
  exact h4

set_option maxHeartbeats 1000000 in
theorem new_ok (A B : Option Addr) (c d n : Nat) (ws qs : List Int) (w : World) (ha : Sl encI 1 w A ws) (hb : Sl encI 1 w B qs) (hl1 : ws.length = n) (hl2 : qs.length = n) (hn : n ≤ 16) (hc : chk (newL ws qs) = true) :
    Calls Try.prog 9 #[.slice A n c, .slice B n d] w (Gives w (newL ws qs) 0) := by
  obtain ⟨i0, hi0, hz0, hz1, hz2⟩ := info_parts info34
  have HL1 := Lib.hid hl1; clear hl1
  have HL2 := Lib.hid hl2; clear hl2
  have HC := Lib.hid hc; clear hc
  go_enter Try.func9, Try.ntmps9
  go_wp2_with (at_make; go_must (refine wpList_make_full w rfl _ _ 23 rfl w.heap.size 34 i0 _ 5 Try.underlying23 hi0 hz0 hz1 _ _ _ _ n rfl rfl rfl rfl (by rw [hz2]; omega) (by unfold maxLen; omega) (Nat.le_refl _) ?_); intro w1 hown hg)
  go_loopg [7, 24] n (fun gg _ s24 wr => ∃ kk : Nat, kk ≤ n ∧ n - kk ≤ gg ∧ s24 = .int .i64 kk ∧ Aside (Below w.heap.size w wr) ∧ Aside (Own Ten.enc 5 34 w.heap.size wr (.slice (some ⟨w.heap.size, 0, none⟩) (partL ws qs n kk).length n) (partL ws qs n kk)))
  case atStart =>
    refine ⟨0, Nat.zero_le _, by omega, rfl, (Below.refl _ _).grown hg (Nat.le_refl _) (by simp), ?_⟩
    show Own _ _ _ _ _ _ _
    unfold Own
    rw [partL_length HL1.out HL2.out (by omega), partL, List.take_zero, List.nil_append, Nat.sub_zero, ← zeros_flat]
    exact hown
  case round =>
    obtain ⟨kk, hkk, hgk, rfl, BW, OW⟩ := hrel
    clear hg hown
    by_cases hlt : kk < n
    · obtain ⟨b1, o1, rfl, c1⟩ := (ha.below BW.out).int_at kk (by rw [HL1.out]; exact hlt)
      obtain ⟨b2, o2, rfl, c2⟩ := (hb.below BW.out).int_at kk (by rw [HL2.out]; exact hlt)
      have hown : Own Ten.enc 5 34 w.heap.size wr (.slice (some ⟨w.heap.size, 0, none⟩) (partL ws qs n kk).length n) (partL ws qs n kk) := OW.out
      obtain ⟨d0, d1, d2, d3, d4, hfz⟩ := own_cells hown kk (by rw [partL_length HL1.out HL2.out hkk]; exact hlt)
      have z0 : (0 : Int) ≤ (kk : Int) := by omega
      have z1 : (kk : Int) < (n : Int) := by omega
      have f0 := hfz (kk * 5)
      have f1 := hfz (kk * 5 + 1)
      have f2 := hfz (kk * 5 + 2)
      have f3 := hfz (kk * 5 + 3)
      have f4 := hfz (kk * 5 + 4)
      clear hown hfz
      go_wp2_with fail
      go_still_tail 12, (by kernel_rfl)
      change wpList _ _ _ _ _ wr.drew
      go_wp2
      go_roundg (n - (kk + 1))
      case measure => omega
      case rel =>
        have hset := own_setAll OW.out kk (by rw [partL_length HL1.out HL2.out hkk]; exact hlt) ⟨ws[kk]'(by rw [HL1.out]; exact hlt), qs[kk]'(by rw [HL2.out]; exact hlt), 0, 0, 0⟩
        rw [partL_step HL1.out HL2.out hlt] at hset
        refine ⟨kk + 1, by omega, by omega, by go_num, ?_, hset.below (Below.refl _ _).drew⟩
        exact (((((BW.out.setCell (Nat.le_refl _) _).setCell (Nat.le_refl _) _).setCell (Nat.le_refl _) _).setCell (Nat.le_refl _) _).setCell (Nat.le_refl _) _).drew
    · have hkn : kk = n := by omega
      have hown : Own Ten.enc 5 34 w.heap.size wr (.slice (some ⟨w.heap.size, 0, none⟩) n n) (newL ws qs) := by
        have := OW.out
        rw [hkn, partL_length HL1.out HL2.out (Nat.le_refl _), partL_all HL1.out HL2.out] at this
        exact this
      clear hkn OW
      have hsl : Sl Ten.enc 5 wr (some ⟨w.heap.size, 0, none⟩) (newL ws qs) := by
        obtain ⟨A', c', hv, hs, _⟩ := hown.sl Ten.enc_length
        simp only [Value.slice.injEq] at hv
        rw [hv.1]; exact hs
      have hck := check_yes (some ⟨w.heap.size, 0, none⟩) n (newL ws qs) wr hsl (by rw [newL_length HL1.out HL2.out]; omega) HC.out
      rw [newL_length HL1.out HL2.out] at hck
      clear hsl
      have HO := Lib.hid hown; clear hown
      go_wp2_with (go_at_call 24; refine hck.mono ?_; rintro e w2 ⟨rfl, hb2⟩)
      go_ret2
      refine ⟨some ⟨w.heap.size, 0, none⟩, n, ?_, ?_, below_then BW.out hb2⟩
      · rw [newL_length HL1.out HL2.out]; rfl
      · rw [newL_length HL1.out HL2.out]; exact HO.out.below hb2
end Go.Proofs.Ytcgddfpfmnpaeaa
