/- Layer 17: the chapter's example. -/
import Derived.Test.YtdalnaegjclacaaK
namespace Go.Proofs.Ytdalnaegjclacaa
open Go.RowKit

def GiS (w : World) (is' st' : List Int) (e : Ending) (w' : World) : Prop := ∃ A c B d, e = .returned (.tuple #[.agg #[.slice A is'.length c, .slice B st'.length d], .int .i64 0]) ∧ Sl encI 1 w' A is' ∧ Sl encI 1 w' B st' ∧ Below w.heap.size w w'
theorem GiV.sl {v : Value} {w w' : World} {is' st' : List Int} {er : Int} {e : Ending} (h : GiV v w is' st' er e w') : ∃ A c B d, e = .returned (.tuple #[v, .agg #[.slice A is'.length c, .slice B st'.length d], .int .i64 er]) ∧ Sl encI 1 w' A is' ∧ Sl encI 1 w' B st' ∧ Below w.heap.size w w' := by
  obtain ⟨A, c, B, d, he, h1, h2, h3⟩ := h
  exact ⟨A, c, B, d, he, h1.sl.1, h2.sl.1, h3⟩
theorem GiD.sl {w w' : World} {is' st' : List Int} {er : Int} {e : Ending} (h : GiD w is' st' er e w') : ∃ A c B d, e = .returned (.tuple #[.agg #[.slice A is'.length c, .slice B st'.length d], .int .i64 er]) ∧ Sl encI 1 w' A is' ∧ Sl encI 1 w' B st' ∧ Below w.heap.size w w' := by
  obtain ⟨A, c, B, d, he, h1, h2, h3⟩ := h
  exact ⟨A, c, B, d, he, h1.sl.1, h2.sl.1, h3⟩
theorem live_new (w : World) : Calls Try.prog 29 #[.int .i64 2] w fun e w' => ∃ A c B d, e = .returned (.tuple #[.agg #[.slice A 2 c, .slice B 0 d], .int .i64 0]) ∧ Sl encI 1 w' A [0, 0] ∧ Sl encI 1 w' B [] ∧ Below w.heap.size w w' :=
  (new_any 2 w).mono fun _ _ h => GiD.sl h
theorem live_spin0 (A B : Option Addr) (c d : Nat) (w : World) (hx : Sl encI 1 w A [0, 0]) (hy : Sl encI 1 w B []) : Calls Try.prog 31 #[.agg #[.slice A 2 c, .slice B 0 d], .int .i64 0] w fun e w' => ∃ A c B d, e = .returned (.tuple #[.bool true, .agg #[.slice A 2 c, .slice B 0 d], .int .i64 0]) ∧ OwI w.heap.size w' (.slice A 2 c) [1, 0] ∧ OwI w.heap.size w' (.slice B 0 d) [] ∧ Below w.heap.size w w' := by
  have h := spin_any A B c d [0, 0] [] 0 w hx hy (by decide) (by decide)
  rw [show spinB [0, 0] [] 0 = true from by decide, show spinIs [0, 0] [] 0 = [1, 0] from by decide, show becSS [0, 0] [] 0 1 [0] = [] from by decide, show becE [0, 0] [] 0 [0] = 0 from by decide] at h
  exact h
theorem live_spin1 (A B : Option Addr) (c d : Nat) (w : World) (hx : Sl encI 1 w A [1, 0]) (hy : Sl encI 1 w B []) : Calls Try.prog 31 #[.agg #[.slice A 2 c, .slice B 0 d], .int .i64 1] w fun e w' => ∃ A c B d, e = .returned (.tuple #[.bool false, .agg #[.slice A 2 c, .slice B 0 d], .int .i64 0]) ∧ OwI w.heap.size w' (.slice A 2 c) [1, 0] ∧ OwI w.heap.size w' (.slice B 0 d) [] ∧ Below w.heap.size w w' := by
  have h := spin_any A B c d [1, 0] [] 1 w hx hy (by decide) (by decide)
  rw [show spinB [1, 0] [] 1 = false from by decide, show spinIs [1, 0] [] 1 = [1, 0] from by decide, show becSS [1, 0] [] 1 1 [0] = [] from by decide, show becE [1, 0] [] 1 [0] = 0 from by decide] at h
  exact h
theorem live_chk (A B : Option Addr) (c d : Nat) (w : World) (hx : Sl encI 1 w A [1, 0]) (hy : Sl encI 1 w B []) : Calls Try.prog 22 #[.agg #[.slice A 2 c, .slice B 0 d]] w fun e w' => e = .returned (.int .i64 0) ∧ Below w.heap.size w w' := by
  have h := check_any A B c d [1, 0] [] w hx hy (by decide) (by decide)
  rw [show errI [1, 0] [] = 0 from by decide] at h
  exact h
set_option maxRecDepth 100000 in
set_option maxHeartbeats 4000000 in
theorem live_any (w : World) : Calls Try.prog 21 #[] w fun e w' => e = .returned (.bool true) ∧ Below w.heap.size w w' := by
  go_enter Try.func21, Try.ntmps21
  go_wp2_with fail
  refine (live_new w).mono ?_
  rintro e w1 ⟨A1, c1, B1, d1, rfl, sA1, sB1, hb1⟩
  have bn := below_new w1 (.cells #[.slice A1 2 c1, .slice B1 0 d1] 41)
  have k0 := new_cell w1 #[.slice A1 2 c1, .slice B1 0 d1] 41 0 _ rfl
  have k1 := new_cell w1 #[.slice A1 2 c1, .slice B1 0 d1] 41 1 (.slice B1 0 d1) rfl
  have kf := new_free w1 #[.slice A1 2 c1, .slice B1 0 d1] 41
  have bw := below_then hb1 bn
  go_wp2_with fail
  refine (live_spin0 A1 B1 c1 d1 _ (sA1.below bn) (sB1.below bn)).mono ?_
  rintro e w2 ⟨A2, c2, B2, d2, rfl, oA2, oB2, hb2⟩
  have hlt : w1.heap.size < (w1.alloc (.cells #[.slice A1 2 c1, .slice B1 0 d1] 41)).heap.size := by rw [size_alloc]; omega
  have q0 := cell_below hb2 k0
  have q1 := cell_below hb2 k1
  have qf := free_below hb2 k0 kf
  obtain ⟨p0, p1⟩ := set2 q0 q1 (.slice A2 2 c2) (.slice B2 0 d2)
  have pf : ∀ j, ((w2.setCell ⟨w1.heap.size, 0, none⟩ (.slice A2 2 c2)).setCell ⟨w1.heap.size, 1, none⟩ (.slice B2 0 d2)).frozen? ⟨w1.heap.size, j, none⟩ = false := fun j => by rw [frozen_set, frozen_set]; exact qf j
  have bw2 := ((below_then bw hb2).setCell (p := ⟨w1.heap.size, 0, none⟩) hb1.size (.slice A2 2 c2)).setCell (p := ⟨w1.heap.size, 1, none⟩) hb1.size (.slice B2 0 d2)
  have sA3 := (far_set oA2 (ne_rng (own_rng oA2) (.inl hlt)) (.slice A2 2 c2) (.slice B2 0 d2)).sl.1
  have sB3 := (far_set oB2 (ne_rng (own_rng oB2) (.inl hlt)) (.slice A2 2 c2) (.slice B2 0 d2)).sl.1
  have hs2 : w1.heap.size < ((w2.setCell ⟨w1.heap.size, 0, none⟩ (.slice A2 2 c2)).setCell ⟨w1.heap.size, 1, none⟩ (.slice B2 0 d2)).heap.size := cell_lt p0
  clear hlt k0 k1 kf bw oA2 oB2
  go_wp2_with fail
  generalize (w2.setCell ⟨w1.heap.size, 0, none⟩ (.slice A2 2 c2)).setCell ⟨w1.heap.size, 1, none⟩ (.slice B2 0 d2) = w3 at *
  refine (live_spin1 A2 B2 c2 d2 _ sA3 sB3).mono ?_
  rintro e w4 ⟨A4, c4, B4, d4, rfl, oA4, oB4, hb4⟩
  have r0 := cell_below hb4 p0
  have r1 := cell_below hb4 p1
  have rf := free_below hb4 p0 pf
  obtain ⟨s0, s1⟩ := set2 r0 r1 (.slice A4 2 c4) (.slice B4 0 d4)
  have bw4 := ((below_then bw2 hb4).setCell (p := ⟨w1.heap.size, 0, none⟩) hb1.size (.slice A4 2 c4)).setCell (p := ⟨w1.heap.size, 1, none⟩) hb1.size (.slice B4 0 d4)
  have sA5 := (far_set oA4 (ne_rng (own_rng oA4) (.inl hs2)) (.slice A4 2 c4) (.slice B4 0 d4)).sl.1
  have sB5 := (far_set oB4 (ne_rng (own_rng oB4) (.inl hs2)) (.slice A4 2 c4) (.slice B4 0 d4)).sl.1
  clear p0 p1 pf bw2 oA4 oB4 q0 q1 qf
  go_wp2_with fail
  refine (live_chk A4 B4 c4 d4 _ sA5 sB5).mono ?_
  rintro e w6 ⟨rfl, hb6⟩
  go_wp2_with fail
  go_ret
  exact ⟨rfl, below_then bw4 hb6⟩
end Go.Proofs.Ytdalnaegjclacaa
