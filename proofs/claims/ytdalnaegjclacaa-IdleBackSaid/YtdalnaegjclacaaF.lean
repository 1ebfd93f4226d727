/- Layer 17: idle.become. -/
import Derived.Test.YtdalnaegjclacaaE
import Derived.Deep.RegionHeld3
namespace Go.Proofs.Ytdalnaegjclacaa
open Go.RowKit

def inI (is st : List Int) (i : Int) : Bool := chkI is st && decide (0 ≤ i ∧ i < (is.length : Int))
theorem inI_cases (is st : List Int) (i : Int) : (chkI is st = false ∧ inI is st i = false) ∨ (chkI is st = true ∧ (i < 0 ∨ (is.length : Int) ≤ i) ∧ inI is st i = false) ∨ (∃ n : Nat, i = n ∧ n < is.length ∧ chkI is st = true ∧ inI is st i = true) := by
  unfold inI
  cases h : chkI is st
  · exact .inl ⟨rfl, rfl⟩
  · by_cases hi : 0 ≤ i ∧ i < (is.length : Int)
    · exact .inr (.inr ⟨i.toNat, by omega, by omega, rfl, by simp [hi]⟩)
    · exact .inr (.inl ⟨rfl, by omega, by simp; omega⟩)
def becE (is st : List Int) (i : Int) (fr : List Int) : Int := if inI is st i = true then (if isAt is i ∈ fr then 0 else 9) else 1
theorem becE_out {is st : List Int} {i : Int} {fr : List Int} (h : inI is st i = false) : becE is st i fr = 1 := by unfold becE; rw [h]; rfl
theorem becE_in {is st : List Int} {n : Nat} {fr : List Int} (h : inI is st n = true) (hn : n < is.length) : becE is st n fr = if is[n] ∈ fr then 0 else 9 := by unfold becE; rw [if_pos h, isAt_nat hn]
def noI : Value := .agg #[.slice none 0 0, .slice none 0 0]

theorem new_cell (w : World) (cs : Array Value) (t : TypeId) (j : Nat) (v : Value) (h : cs[j]? = some v) : (w.alloc (.cells cs t)).cell? ⟨w.heap.size, j, none⟩ = some v := by
  rw [cell_of_row _ w.heap.size _ cs t (0, 0) (heap_alloc_new w _)]; exact h
theorem new_free (w : World) (cs : Array Value) (t : TypeId) (j : Nat) : (w.alloc (.cells cs t)).frozen? ⟨w.heap.size, j, none⟩ = false := by
  have h : (w.alloc (.cells cs t)).heap[w.heap.size]? = some (.cells cs t (0, 0)) := heap_alloc_new w _
  unfold World.frozen?
  simp only [h]
  rw [Bool.and_eq_false_iff]
  right
  simp
theorem size_alloc (w : World) (o : Obj) : (w.alloc o).heap.size = w.heap.size + 1 := by simp
theorem below_new (w : World) (o : Obj) : Below w.heap.size w (w.alloc o) := (Below.refl _ _).alloc (Nat.le_refl _) _
theorem three (w : World) (c1 c2 c3 : Array Value) (t1 t2 t3 : TypeId) {W : World} (hW : ((w.alloc (.cells c1 t1)).alloc (.cells c2 t2)).alloc (.cells c3 t3) = W) :
    Below w.heap.size w W ∧ (∀ j v, c1[j]? = some v → W.cell? ⟨w.heap.size, j, none⟩ = some v) ∧ (∀ j v, c2[j]? = some v → W.cell? ⟨w.heap.size + 1, j, none⟩ = some v) ∧ (∀ j v, c3[j]? = some v → W.cell? ⟨w.heap.size + 1 + 1, j, none⟩ = some v) ∧
    (∀ j, W.frozen? ⟨w.heap.size + 1 + 1, j, none⟩ = false) ∧ W.heap.size = w.heap.size + 1 + 1 + 1 := by
  subst hW
  have b1 := below_new w (.cells c1 t1)
  have b2 := below_new (w.alloc (.cells c1 t1)) (.cells c2 t2)
  have b3 := below_new ((w.alloc (.cells c1 t1)).alloc (.cells c2 t2)) (.cells c3 t3)
  refine ⟨below_then (below_then b1 b2) b3, fun j v h => cell_below b3 (cell_below b2 (new_cell w c1 t1 j v h)), fun j v h => ?_, fun j v h => ?_, fun j => ?_, by simp⟩
  · have := new_cell (w.alloc (.cells c1 t1)) c2 t2 j v h
    rw [size_alloc] at this
    exact cell_below b3 this
  · have := new_cell ((w.alloc (.cells c1 t1)).alloc (.cells c2 t2)) c3 t3 j v h
    rw [size_alloc, size_alloc] at this
    exact this
  · have := new_free ((w.alloc (.cells c1 t1)).alloc (.cells c2 t2)) c3 t3 j
    rw [size_alloc, size_alloc] at this
    exact this
theorem set2 {w : World} {g : Nat} {u0 u1 : Value} (t0 : w.cell? ⟨g, 0, none⟩ = some u0) (t1 : w.cell? ⟨g, 1, none⟩ = some u1) (v0 v1 : Value) :
    ((w.setCell ⟨g, 0, none⟩ v0).setCell ⟨g, 1, none⟩ v1).cell? ⟨g, 0, none⟩ = some v0 ∧ ((w.setCell ⟨g, 0, none⟩ v0).setCell ⟨g, 1, none⟩ v1).cell? ⟨g, 1, none⟩ = some v1 := by
  refine ⟨?_, ?_⟩
  · rw [set_off (by decide), set_same t0]
  · rw [set_same (u := u1)]; rw [set_off (by decide), t1]

set_option maxRecDepth 100000 in
set_option maxHeartbeats 4000000 in
theorem become_no (A B F : Option Addr) (c d f : Nat) (is st fr : List Int) (i what : Int) (w : World) (hx : Sl encI 1 w A is) (hy : Sl encI 1 w B st) (hf : Sl encI 1 w F fr) (hbig : is.length ≤ 4611686018427387904) (hbig2 : st.length ≤ 9223372036854775807) (hfr : fr.length ≤ 100) (hE : becE is st i fr ≠ 0) :
    Calls Try.prog 68 #[.agg #[.slice A is.length c, .slice B st.length d], .int .i64 i, .int .i64 what, .slice F fr.length f] w fun e w' => e = .returned (.tuple #[noI, .bool false, .int .i64 (becE is st i fr)]) ∧ Below w.heap.size w w' := by
  obtain ⟨w0, hw0⟩ : ∃ W, ((w.alloc (.cells #[.slice A is.length c, .slice B st.length d] 41)).alloc (.cells #[.int .i64 i] 3)).alloc (.cells #[.slice none 0 0, .slice none 0 0] 41) = W := ⟨_, rfl⟩
  obtain ⟨hb0, h1, h2, h3, k5, hs0⟩ := three w _ _ _ _ _ _ hw0
  have k0 := h1 0 _ rfl
  have k1 := h1 1 _ rfl
  have k2 := h2 0 _ rfl
  have k3 := h3 0 _ rfl
  have k4 := h3 1 _ rfl
  have hck := check_any A B c d is st _ (hx.below hb0) (hy.below hb0) hbig hbig2
  have hx0 := hx.below hb0
  have hf0 := hf.below hb0
  have hg0 := cell_lt k3
  have HW0 := Lib.hid hw0
  clear hw0 h1 h2 h3 hs0
  have hend : ∀ w1, Below w0.heap.size w0 w1 → Below w.heap.size w ((w1.setCell ⟨w.heap.size + 1 + 1, 0, none⟩ (.slice none 0 0)).setCell ⟨w.heap.size + 1 + 1, 1, none⟩ (.slice none 0 0)) := fun w1 hb =>
    ((below_then hb0 hb).setCell (by simp; omega) _).setCell (by simp; omega) _
  have HEND := Lib.hid hend
  clear hend
  rcases inI_cases is st i with ⟨hc, hi⟩ | ⟨hc, hi, hi2⟩ | ⟨n, rfl, hn, hc, hi⟩
  · rw [becE_out hi]
    rw [errI_not hc] at hck
    clear hE hi hc
    go_enter Try.func68, Try.ntmps68
    go_wp2_with fail
    rw [HW0.out]
    refine hck.mono ?_
    rintro e w1 ⟨rfl, hb1⟩
    have q3 := cell_below hb1 k3
    have q4 := cell_below hb1 k4
    have q5 : ∀ j, w1.frozen? ⟨w.heap.size + 1 + 1, j, none⟩ = false := fun j => (hb1.frozen hg0).trans (k5 j)
    go_wp2_with fail
    obtain ⟨s0, s1⟩ := set2 q3 q4 (.slice none 0 0) (.slice none 0 0)
    exact bodyPost_ret (v := .tuple #[noI, .bool false, .int .i64 1]) (by simp [results, Try.results68, go_sem, s0, s1, noI]) rfl ⟨rfl, HEND.out _ hb1⟩
  · rw [becE_out hi2]
    rw [errI_yes hc] at hck
    clear hE hi2 hc
    by_cases hi0 : i < 0
    · clear hi
      go_enter Try.func68, Try.ntmps68
      go_wp2_with fail
      rw [HW0.out]
      refine hck.mono ?_
      rintro e w1 ⟨rfl, hb1⟩
      have q0 := cell_below hb1 k0
      have q2 := cell_below hb1 k2
      have q3 := cell_below hb1 k3
      have q4 := cell_below hb1 k4
      have q5 : ∀ j, w1.frozen? ⟨w.heap.size + 1 + 1, j, none⟩ = false := fun j => (hb1.frozen hg0).trans (k5 j)
      go_wp2_with fail
      obtain ⟨s0, s1⟩ := set2 q3 q4 (.slice none 0 0) (.slice none 0 0)
      exact bodyPost_ret (v := .tuple #[noI, .bool false, .int .i64 1]) (by simp [results, Try.results68, go_sem, s0, s1, noI]) rfl ⟨rfl, HEND.out _ hb1⟩
    · have hi1 : (is.length : Int) ≤ i := by omega
      have hi3 : 0 ≤ i := by omega
      clear hi hi0
      go_enter Try.func68, Try.ntmps68
      go_wp2_with fail
      rw [HW0.out]
      refine hck.mono ?_
      rintro e w1 ⟨rfl, hb1⟩
      have q0 := cell_below hb1 k0
      have q2 := cell_below hb1 k2
      have q3 := cell_below hb1 k3
      have q4 := cell_below hb1 k4
      have q5 : ∀ j, w1.frozen? ⟨w.heap.size + 1 + 1, j, none⟩ = false := fun j => (hb1.frozen hg0).trans (k5 j)
      go_wp2_with fail
      obtain ⟨s0, s1⟩ := set2 q3 q4 (.slice none 0 0) (.slice none 0 0)
      exact bodyPost_ret (v := .tuple #[noI, .bool false, .int .i64 1]) (by simp [results, Try.results68, go_sem, s0, s1, noI]) rfl ⟨rfl, HEND.out _ hb1⟩
  · have hE2 := becE_in hi hn (fr := fr)
    rw [hE2] at hE ⊢
    have hm : is[n] ∉ fr := by
      intro h; rw [if_pos h] at hE; exact hE rfl
    rw [if_neg hm]
    have hcon := fun W (h : Sl encI 1 W F fr) => contains_int F f fr is[n] W h (by omega)
    rw [show decide (is[n] ∈ fr) = false from by simpa using hm] at hcon
    rw [errI_yes hc] at hck
    have z0 : (0 : Int) ≤ (n : Int) := by omega
    have z1 : (n : Int) < (is.length : Int) := by omega
    clear hE hE2 hm hi hc
    go_enter Try.func68, Try.ntmps68
    go_wp2_with fail
    rw [HW0.out]
    refine hck.mono ?_
    rintro e w1 ⟨rfl, hb1⟩
    have q0 := cell_below hb1 k0
    have q2 := cell_below hb1 k2
    have q3 := cell_below hb1 k3
    have q4 := cell_below hb1 k4
    have q5 : ∀ j, w1.frozen? ⟨w.heap.size + 1 + 1, j, none⟩ = false := fun j => (hb1.frozen hg0).trans (k5 j)
    have hf1 := hf0.below hb1
    obtain ⟨b1, o1, rfl, e0⟩ := (hx0.below hb1).int_at n hn
    go_wp2_with fail
    refine (hcon w1 hf1).mono ?_
    rintro e w2 ⟨rfl, rfl⟩
    go_wp2_with fail
    obtain ⟨s0, s1⟩ := set2 q3 q4 (.slice none 0 0) (.slice none 0 0)
    exact bodyPost_ret (v := .tuple #[noI, .bool false, .int .i64 9]) (by simp [results, Try.results68, go_sem, s0, s1, noI]) rfl ⟨rfl, HEND.out _ hb1⟩
end Go.Proofs.Ytdalnaegjclacaa
