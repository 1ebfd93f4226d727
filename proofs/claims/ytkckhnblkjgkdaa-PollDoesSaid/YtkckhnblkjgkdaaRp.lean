/- Layer 9: slices.Repeat, poll.New. -/
import Derived.Test.YtkckhnblkjgkdaaCp
import Derived.Test.YtkckhnblkjgkdaaM6
import Derived.Test.YtkckhnblkjgkdaaD
namespace Go.Proofs.Ytkckhnblkjgkdaa
open Go.RowKit

def zFd : Fd := ⟨false, false, 0⟩
theorem zeros_flat (n : Nat) : (madeCells (Value.agg #[.bool false, .bool false, .int .i64 0]).cells (n * 3)).toList = flat Fd.enc (List.replicate n zFd) := by
  have hl : (flat Fd.enc (List.replicate n zFd)).length = n * 3 := by rw [flat_length Fd.enc_length, List.length_replicate]
  have hm : (madeCells (Value.agg #[.bool false, .bool false, .int .i64 0]).cells (n * 3)).toList.length = n * 3 := by unfold madeCells; simp
  apply List.ext_getElem?
  intro j
  rcases Nat.lt_or_ge j (n * 3) with h | h
  · have hf := flat_get (enc := Fd.enc) (xs := List.replicate n zFd) Fd.enc_length (j / 3) (by rw [List.length_replicate]; omega) (j % 3) (by omega)
    rw [show j / 3 * 3 + j % 3 = j from by omega, List.getElem_replicate] at hf
    rw [hf]
    unfold madeCells
    simp only [Array.toList_map, List.getElem?_map]
    have : (Array.range (n * 3)).toList[j]? = some j := by simp [h]
    rw [this]
    simp only [Option.map_some, Value.cells, List.size_toArray, List.length_cons, List.length_nil]
    have hj : j % (0 + 1 + 1 + 1) < 3 := Nat.mod_lt _ (by omega)
    have he : j % 3 = j % (0 + 1 + 1 + 1) := rfl
    rw [he]
    generalize j % (0 + 1 + 1 + 1) = m at *
    match m, hj with
    | 0, _ => rfl
    | 1, _ => rfl
    | 2, _ => rfl
  · rw [List.getElem?_eq_none (by omega), List.getElem?_eq_none (by omega)]
def partF (x : Fd) (n c : Nat) : List Fd := List.replicate c x ++ List.replicate (n - c) zFd
theorem partF_length {x : Fd} {n c : Nat} (h : c ≤ n) : (partF x n c).length = n := by unfold partF; simp; omega
theorem flat_rep_length (x : Fd) (n : Nat) : (flat Fd.enc (List.replicate n x)).length = n * 3 := by rw [flat_length Fd.enc_length, List.length_replicate]
theorem partF_splice {x : Fd} {n c m : Nat} (h : c + m ≤ n) : splice (flat Fd.enc (partF x n c)) (c * 3) (flat Fd.enc (List.replicate m x)) = flat Fd.enc (partF x n (c + m)) := by
  unfold splice partF
  have h1 : List.replicate (n - c) zFd = List.replicate m zFd ++ List.replicate (n - (c + m)) zFd := by rw [List.replicate_append_replicate]; congr 1; omega
  have h2 : List.replicate (c + m) x = List.replicate c x ++ List.replicate m x := by rw [List.replicate_append_replicate]
  rw [h1, h2]
  simp only [flat_append, flat_rep_length, List.append_assoc]
  rw [List.take_append_of_le_length (by rw [flat_rep_length]; omega), List.take_of_length_le (by rw [flat_rep_length]; omega)]
  congr 2
  rw [← List.append_assoc, List.drop_append, List.drop_eq_nil_of_le (by rw [List.length_append, flat_rep_length, flat_rep_length]; omega)]
  rw [List.length_append, flat_rep_length, flat_rep_length, Nat.sub_self]; simp
/-- A row, whole. -/
def Row (w : World) (g : Nat) (xs : List Fd) : Prop := w.heap[g]? = some (.cells (flat Fd.enc xs).toArray 35 (0, 0))
theorem Row.of_made {w : World} {base g n : Nat} {xs : List Value} (h : w.ownsRow base 35 3 (.slice (some ⟨g, 0, none⟩) n n) n xs) : w.heap[g]? = some (.cells xs.toArray 35 (0, 0)) := by
  rcases h.2 with ⟨hv, _⟩ | ⟨g', cap, cur, hv, hb, hg, hc, hm, hs, ht⟩
  · cases hv
  · simp only [Value.slice.injEq, Option.some.injEq, Addr.mk.injEq, and_true, true_and] at hv
    obtain ⟨rfl, rfl⟩ := hv
    rw [List.take_of_length_le (by simpa using Nat.le_of_eq hs)] at ht
    rw [← ht]; exact hg
theorem Row.own {w : World} {base g : Nat} {xs : List Fd} (h : Row w g xs) (hb : base ≤ g) (hn : xs.length ≤ 1000000) : Own Fd.enc 3 35 base w (.slice (some ⟨g, 0, none⟩) xs.length xs.length) xs := by
  unfold Own
  refine ⟨flat_length Fd.enc_length, .inr ⟨g, xs.length, _, rfl, hb, h, Nat.le_refl _, by unfold maxLen; omega, by simp [flat_length Fd.enc_length], ?_⟩⟩
  simp only []
  rw [List.take_of_length_le (by rw [flat_length Fd.enc_length]; omega)]
theorem Row.sl {w : World} {g : Nat} {xs : List Fd} (h : Row w g xs) (hn : xs.length ≤ 1000000) : Sl Fd.enc 3 w (some ⟨g, 0, none⟩) xs := by
  obtain ⟨A, c, hv, hs, _⟩ := (h.own (Nat.zero_le _) hn).sl Fd.enc_length
  simp only [Value.slice.injEq] at hv
  rw [hv.1]; exact hs
theorem Row.below {w w' : World} {g : Nat} {xs : List Fd} (h : Row w g xs) (hb : Below w.heap.size w w') : Row w' g xs := by
  unfold Row at *
  have hlt : g < w.heap.size := (Array.getElem?_eq_some_iff.1 h).1
  rw [hb.block g hlt]; exact h
theorem rep_cells {w : World} {b off : Nat} {x : Fd} (hx : Sl Fd.enc 3 w (some ⟨b, off, none⟩) [x]) (m : Nat) (hm : m ≤ 1) : ∀ j v, (flat Fd.enc (List.replicate m x))[j]? = some v → w.cell? ((⟨b, off, none⟩ : Addr).add j) = some v := by
  intro j v hj
  obtain ⟨b', off', hA, hcell⟩ := hx.news Fd.enc_length (by simp)
  obtain ⟨rfl, rfl⟩ : b = b' ∧ off = off' := by simpa using hA
  rcases Nat.lt_or_ge m 1 with h | h
  · obtain rfl : m = 0 := by omega
    simp [flat] at hj
  · obtain rfl : m = 1 := by omega
    exact hcell j v hj
theorem row_cells {w : World} {g n c m : Nat} {x : Fd} (h : Row w g (partF x n c)) (hm : m ≤ c) (hc : c ≤ n) (hn : n ≤ 1000000) : ∀ j v, (flat Fd.enc (List.replicate m x))[j]? = some v → w.cell? ((⟨g, 0, none⟩ : Addr).add j) = some v := by
  intro j v hj
  have hjl : j < m * 3 := by
    have := (List.getElem?_eq_some_iff.1 hj).1
    rw [flat_rep_length] at this; exact this
  have hs := h.sl (by rw [partF_length hc]; omega)
  obtain ⟨b', off', hA, hcell⟩ := hs.news Fd.enc_length (by rw [partF_length hc]; omega)
  obtain ⟨rfl, rfl⟩ : g = b' ∧ 0 = off' := by simpa using hA
  refine hcell j v ?_
  unfold partF
  rw [flat_append, List.getElem?_append_left (by rw [flat_rep_length]; omega)]
  rw [show c = m + (c - m) from by omega, ← List.replicate_append_replicate, flat_append, List.getElem?_append_left (by rw [flat_rep_length]; omega)]
  exact hj
end Go.Proofs.Ytkckhnblkjgkdaa
