/- Layer 17: idle.Spin. -/
import Derived.Test.YtdalnaegjclacaaI
namespace Go.Proofs.Ytdalnaegjclacaa
open Go.RowKit

/-- What a call hands back that gives a value, and workers of its own. -/
def GiV (v : Value) (w : World) (is' st' : List Int) (er : Int) (e : Ending) (w' : World) : Prop := ∃ A c B d, e = .returned (.tuple #[v, .agg #[.slice A is'.length c, .slice B st'.length d], .int .i64 er]) ∧
  OwI w.heap.size w' (.slice A is'.length c) is' ∧ OwI w.heap.size w' (.slice B st'.length d) st' ∧ Below w.heap.size w w'
theorem giv_no {v : Value} {w w' : World} {er : Int} {e : Ending} (he : e = .returned (.tuple #[v, noI, .int .i64 er])) (hb : Below w.heap.size w w') : GiV v w [] [] er e w' :=
  ⟨none, 0, none, 0, he, World.ownsRow_nil _ _ 3 1, World.ownsRow_nil _ _ 3 1, hb⟩
def spinB (is st : List Int) (i : Int) : Bool := becF is st i 1 [0]
def spinIs (is st : List Int) (i : Int) : List Int := if becE is st i [0] = 0 then (if spinB is st i = true then is.set i.toNat 1 else (is.set i.toNat 1).set i.toNat 0) else []

set_option maxRecDepth 100000 in
set_option maxHeartbeats 4000000 in
theorem spin_any (A B : Option Addr) (c d : Nat) (is st : List Int) (i : Int) (w : World) (hx : Sl encI 1 w A is) (hy : Sl encI 1 w B st) (hbig : is.length ≤ 4611686018427387904) (hbig2 : st.length ≤ 9223372036854775807) :
    Calls Try.prog 31 #[.agg #[.slice A is.length c, .slice B st.length d], .int .i64 i] w (GiV (.bool (spinB is st i)) w (spinIs is st i) (becSS is st i 1 [0]) (becE is st i [0])) := by
  obtain ⟨w0, hw0⟩ : ∃ W, ((w.alloc (.cells #[.slice A is.length c, .slice B st.length d] 41)).alloc (.cells #[.slice none 0 0, .slice none 0 0] 41)).alloc (.cells #[.int .i64 0] 3) = W := ⟨_, rfl⟩
  obtain ⟨hb0, h1, h2, h3, k5, hs0⟩ := three w _ _ _ _ _ _ hw0
  have k3 : w0.cell? ⟨w.heap.size + 1, 0, none⟩ = some (.slice none 0 0) := h2 0 _ rfl
  have k4 : w0.cell? ⟨w.heap.size + 1, 1, none⟩ = some (.slice none 0 0) := h2 1 _ rfl
  have kf : ∀ j, w0.frozen? ⟨w.heap.size + 1, j, none⟩ = false := by
    have := new_free (w.alloc (.cells #[.slice A is.length c, .slice B st.length d] 41)) #[.slice none 0 0, .slice none 0 0] 41
    rw [size_alloc] at this
    have hcc := new_cell (w.alloc (.cells #[.slice A is.length c, .slice B st.length d] 41)) #[.slice none 0 0, .slice none 0 0] 41 0 _ rfl
    rw [size_alloc] at hcc
    rw [← hw0]; exact free_alloc hcc this _
  have hfr : Sl encI 1 w0 (some ⟨w.heap.size + 1 + 1, 0, none⟩) ([0] : List Int) := by
    rw [← hw0]; exact sl_lit_at encI_length _ 3 _ _ _ (by rw [size_alloc, size_alloc]) rfl
  have BC := become_any A B (some ⟨w.heap.size + 1 + 1, 0, none⟩) c d 1 is st [0] i 1 w0 (hx.below hb0) (hy.below hb0) hfr hbig hbig2 (by simp) (by decide)
  have HW0 := Lib.hid hw0
  clear hw0 h1 h2 h3 k5 hs0 hfr
  unfold spinIs
  rcases becE_cases is st i [0] with h | ⟨n, rfl, hn, hc, hm, h⟩
  · rw [if_neg h]
    obtain ⟨e0, e1, e2⟩ := bec_none (is := is) (st := st) (fr := [0]) (i := i) (what := 1) h
    have hsb : spinB is st i = false := e2
    rw [hsb, e1]
    rw [e0, e1, e2] at BC
    have hq : (becE is st i [0] != 0) = true := by simpa using h
    clear e0 e1 e2 hsb h
    generalize becE is st i [0] = er at *
    go_enter Try.func31, Try.ntmps31
    go_wp2_with fail
    rw [HW0.out]
    refine BC.mono ?_
    rintro e w1 ⟨A1, c1, B1, d1, rfl, oI, oS, ap, hb1⟩
    have q3 := cell_below hb1 k3
    have q4 := cell_below hb1 k4
    have qf := free_below hb1 k3 kf
    have p3 := fun o => cell_alloc q3 o
    have p4 := fun o => cell_alloc q4 o
    have pf := fun o => free_alloc q3 qf o
    have HOI := Lib.hid oI
    have HOS := Lib.hid oS
    have hg := (show w.heap.size + 1 < w0.heap.size from cell_lt k3)
    have HB := Lib.hid (below_then hb0 hb1)
    have HB1 := Lib.hid hb1
    clear oI oS ap BC hx hy hb1
    go_wp2_with fail
    obtain ⟨z0, z1⟩ := set2 (p3 (.cells #[.slice A1 0 c1, .slice B1 0 d1] 41)) (p4 (.cells #[.slice A1 0 c1, .slice B1 0 d1] 41)) (.slice none 0 0) (.slice none 0 0)
    exact bodyPost_ret (v := .tuple #[.bool false, noI, .int .i64 er]) (by simp [results, Try.results31, go_sem, z0, z1, noI]) rfl
      (giv_no rfl (((HB.out.alloc HB.out.size _).setCell (Nat.le_succ _) _).setCell (Nat.le_succ _) _))
  · rw [if_pos h, h, Int.toNat_natCast]
    have hI : becIs is st n 1 [0] = is.set n 1 := by unfold becIs; rw [if_pos h, Int.toNat_natCast]
    have hsb : spinB is st n = becF is st n 1 [0] := rfl
    rw [hI, h, ← hsb] at BC
    clear hI hsb h hm
    generalize becSS is st n 1 [0] = l1 at *
    have HLL := Lib.hid (show (is.set n 1).length = is.length from List.length_set)
    cases hft : spinB is st n
    case true =>
      rw [if_pos rfl]
      rw [hft] at BC
      clear hft
      go_enter Try.func31, Try.ntmps31
      go_wp2_with fail
      rw [HW0.out]
      refine BC.mono ?_
      rintro e w1 ⟨A1, c1, B1, d1, rfl, oI, oS, ap, hb1⟩
      have q3 := cell_below hb1 k3
      have q4 := cell_below hb1 k4
      have qf := free_below hb1 k3 kf
      have p3 := fun o => cell_alloc q3 o
      have p4 := fun o => cell_alloc q4 o
      have pf := fun o => free_alloc q3 qf o
      have HOI := Lib.hid oI
      have HAP := Lib.hid ap
      clear ap
      have HOS := Lib.hid oS
      have hg := (show w.heap.size + 1 < w0.heap.size from cell_lt k3)
      have HB := Lib.hid (below_then hb0 hb1)
      have HB1 := Lib.hid hb1
      clear oI oS BC hx hy hb1
      rw [HLL.out]
      go_wp2_with fail
      have e0 : (w1.alloc (.cells #[.slice A1 is.length c1, .slice B1 l1.length d1] 41)).cell? ⟨w1.heap.size, 0, none⟩ = some (.slice A1 is.length c1) := new_cell w1 _ 41 0 _ rfl
      have e1 : (w1.alloc (.cells #[.slice A1 is.length c1, .slice B1 l1.length d1] 41)).cell? ⟨w1.heap.size, 1, none⟩ = some (.slice B1 l1.length d1) := new_cell w1 _ 41 1 _ rfl
      have r3 := p3 (.cells #[.slice A1 is.length c1, .slice B1 l1.length d1] 41)
      have r4 := p4 (.cells #[.slice A1 is.length c1, .slice B1 l1.length d1] 41)
      have rf := pf (.cells #[.slice A1 is.length c1, .slice B1 l1.length d1] 41)
      have hne : w1.heap.size ≠ w.heap.size + 1 := by have := HB1.out.size; omega
      have OI0 := HOI.out
      rw [HLL.out] at OI0
      have OI1 := Own.below OI0 (below_new w1 (.cells #[.slice A1 is.length c1, .slice B1 l1.length d1] 41))
      have OS1 := Own.below HOS.out (below_new w1 (.cells #[.slice A1 is.length c1, .slice B1 l1.length d1] 41))
      have BB := HB.out.alloc HB.out.size (.cells #[.slice A1 is.length c1, .slice B1 l1.length d1] 41)
      clear OI0
      generalize w1.alloc (.cells #[.slice A1 is.length c1, .slice B1 l1.length d1] 41) = w2 at *
      generalize w1.heap.size = g7 at *
      go_region_held3 (fun W => W.cell? ⟨g7, 0, none⟩ = some (.slice A1 is.length c1) ∧ W.cell? ⟨g7, 1, none⟩ = some (.slice B1 l1.length d1)) (first | exact ⟨e0, e1⟩ | exact ⟨set2_far e0 hne, set2_far e1 hne⟩) (fail)
      go_wp2_with fail
      obtain ⟨z0, z1⟩ := set2 r3 r4 (.slice A1 is.length c1) (.slice B1 l1.length d1)
      refine bodyPost_ret (v := .tuple #[.bool true, .agg #[.slice A1 is.length c1, .slice B1 l1.length d1], .int .i64 0]) (by simp [results, Try.results31, go_sem, z0, z1]) rfl ?_
      have OI := Own.below (far_set OI1 (ne_rng (own_rng OI1) (.inl hg)) (.slice A1 is.length c1) (.slice B1 l1.length d1)) (Below.refl _ _).drew
      have OS := Own.below (far_set OS1 (ne_rng (own_rng OS1) (.inl hg)) (.slice A1 is.length c1) (.slice B1 l1.length d1)) (Below.refl _ _).drew
      exact ⟨A1, c1, B1, d1, by rw [HLL.out], by rw [HLL.out]; exact Own.lower OI hb0.size, Own.lower OS hb0.size, ((BB.setCell (Nat.le_succ _) _).setCell (Nat.le_succ _) _).drew⟩
    case false =>
      rw [if_neg (by decide)]
      rw [hft] at BC
      clear hft
      go_enter Try.func31, Try.ntmps31
      go_wp2_with fail
      rw [HW0.out]
      refine BC.mono ?_
      rintro e w1 ⟨A1, c1, B1, d1, rfl, oI, oS, ap, hb1⟩
      have q3 := cell_below hb1 k3
      have q4 := cell_below hb1 k4
      have qf := free_below hb1 k3 kf
      have p3 := fun o => cell_alloc q3 o
      have p4 := fun o => cell_alloc q4 o
      have pf := fun o => free_alloc q3 qf o
      have HOI := Lib.hid oI
      have HAP := Lib.hid ap
      clear ap
      have HOS := Lib.hid oS
      have hg := (show w.heap.size + 1 < w0.heap.size from cell_lt k3)
      have HB := Lib.hid (below_then hb0 hb1)
      have HB1 := Lib.hid hb1
      clear oI oS BC hx hy hb1
      rw [HLL.out]
      have OI0 := HOI.out
      rw [HLL.out] at OI0
      have AP := HAP.out
      rw [HLL.out] at AP
      obtain ⟨gi, cc, hv, hgi1, hgi2⟩ := OwI.form OI0 (by rw [List.length_set]; omega)
      have hA1 : A1 = some ⟨gi, 0, none⟩ := by injection hv
      subst hA1
      obtain ⟨_, u0, uf⟩ := OwI.cells OI0 n (by rw [List.length_set]; exact hn)
      have un := uf n
      have z0' : (0 : Int) ≤ (n : Int) := by omega
      have z1' : (n : Int) < (is.length : Int) := by omega
      have HSET := Lib.hid (OwI.set OI0 n (by rw [List.length_set]; exact hn) 0)
      have hne : w1.heap.size ≠ w.heap.size + 1 := by have := HB1.out.size; omega
      have hgw : w.heap.size ≤ gi := by have := hb0.size; omega
      have uo := fun o => cell_alloc u0 o
      have ufo : ∀ o j, (w1.alloc o).frozen? ⟨gi, j, none⟩ = false := fun o => free_alloc (g := gi) (u := .int .i64 ((is.set n 1)[0]'(by rw [List.length_set]; omega))) (OwI.cells OI0 0 (by rw [List.length_set]; omega)).2.1 uf o
      have uno := fun o => ufo o n
      have HHV := Lib.hid hv
      have HUF := Lib.hid uf
      clear OI0 hv uf HLL ufo
      go_upto_region 6 with fail
      have y3 : (w1.setCell ⟨gi, n, none⟩ (.int .i64 0)).cell? ⟨w.heap.size + 1, 0, none⟩ = some (.slice none 0 0) := by rw [cell_set_other (show w.heap.size + 1 ≠ gi by omega)]; exact q3
      have y4 : (w1.setCell ⟨gi, n, none⟩ (.int .i64 0)).cell? ⟨w.heap.size + 1, 1, none⟩ = some (.slice none 0 0) := by rw [cell_set_other (show w.heap.size + 1 ≠ gi by omega)]; exact q4
      have yf : ∀ j, (w1.setCell ⟨gi, n, none⟩ (.int .i64 0)).frozen? ⟨w.heap.size + 1, j, none⟩ = false := fun j => by rw [frozen_set]; exact qf j
      have s0 := new_cell (w1.setCell ⟨gi, n, none⟩ (.int .i64 0)) #[.slice (some ⟨gi, 0, none⟩) is.length c1, .slice B1 l1.length d1] 41 0 (.slice (some ⟨gi, 0, none⟩) is.length c1) rfl
      have s1 := new_cell (w1.setCell ⟨gi, n, none⟩ (.int .i64 0)) #[.slice (some ⟨gi, 0, none⟩) is.length c1, .slice B1 l1.length d1] 41 1 (.slice B1 l1.length d1) rfl
      rw [size_set] at s0 s1
      have s3 := cell_alloc y3 (.cells #[.slice (some ⟨gi, 0, none⟩) is.length c1, .slice B1 l1.length d1] 41)
      have s4 := cell_alloc y4 (.cells #[.slice (some ⟨gi, 0, none⟩) is.length c1, .slice B1 l1.length d1] 41)
      have sf := free_alloc y3 yf (.cells #[.slice (some ⟨gi, 0, none⟩) is.length c1, .slice B1 l1.length d1] 41)
      have OI2 : OwI w0.heap.size ((w1.setCell ⟨gi, n, none⟩ (.int .i64 0)).alloc (.cells #[.slice (some ⟨gi, 0, none⟩) is.length c1, .slice B1 l1.length d1] 41)) (.slice (some ⟨gi, 0, none⟩) is.length c1) ((is.set n 1).set n 0) := Own.below HSET.out.1 (below_new _ _)
      have OS2 : OwI w0.heap.size ((w1.setCell ⟨gi, n, none⟩ (.int .i64 0)).alloc (.cells #[.slice (some ⟨gi, 0, none⟩) is.length c1, .slice B1 l1.length d1] 41)) (.slice B1 l1.length d1) l1 := Own.below (OwI.far HOS.out HSET.out.2 (by rcases AP with h | h; exact absurd h (by simp [Value.ownBlock]); right; exact fun e => h e.symm)) (below_new _ _)
      have BBs := HB.out.setCell (p := ⟨gi, n, none⟩) hgw (.int .i64 0)
      have BB2 := BBs.alloc BBs.size (.cells #[.slice (some ⟨gi, 0, none⟩) is.length c1, .slice B1 l1.length d1] 41)
      clear HSET u0 un uo uno p3 p4 pf q3 q4 qf y3 y4 yf BBs
      generalize (w1.setCell ⟨gi, n, none⟩ (.int .i64 0)).alloc (.cells #[.slice (some ⟨gi, 0, none⟩) is.length c1, .slice B1 l1.length d1] 41) = w2 at *
      generalize w1.heap.size = g7 at *
      go_region_held3 (fun W => W.cell? ⟨g7, 0, none⟩ = some (.slice (some ⟨gi, 0, none⟩) is.length c1) ∧ W.cell? ⟨g7, 1, none⟩ = some (.slice B1 l1.length d1)) (first | exact ⟨s0, s1⟩ | exact ⟨set2_far s0 hne, set2_far s1 hne⟩) (fail)
      go_wp2_with fail
      obtain ⟨z0, z1⟩ := set2 s3 s4 (.slice (some ⟨gi, 0, none⟩) is.length c1) (.slice B1 l1.length d1)
      refine bodyPost_ret (v := .tuple #[.bool false, .agg #[.slice (some ⟨gi, 0, none⟩) is.length c1, .slice B1 l1.length d1], .int .i64 0]) (by simp [results, Try.results31, go_sem, z0, z1]) rfl ?_
      have OI := Own.below (far_set OI2 (ne_rng (own_rng OI2) (.inl hg)) (.slice (some ⟨gi, 0, none⟩) is.length c1) (.slice B1 l1.length d1)) (Below.refl _ _).drew
      have OS := Own.below (far_set OS2 (ne_rng (own_rng OS2) (.inl hg)) (.slice (some ⟨gi, 0, none⟩) is.length c1) (.slice B1 l1.length d1)) (Below.refl _ _).drew
      have hll : ((is.set n 1).set n 0).length = is.length := by simp
      exact ⟨some ⟨gi, 0, none⟩, c1, B1, d1, by rw [hll], by rw [hll]; exact Own.lower OI hb0.size, Own.lower OS hb0.size, ((BB2.setCell (Nat.le_succ _) _).setCell (Nat.le_succ _) _).drew⟩
end Go.Proofs.Ytdalnaegjclacaa
