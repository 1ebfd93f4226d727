/- Layer 17: idle.Park, Spin. -/
import Derived.Test.YtdalnaegjclacaaH
namespace Go.Proofs.Ytdalnaegjclacaa
open Go.RowKit

def parkE (is st : List Int) (i : Int) : Int := if becE is st i [2] = 0 then (if becF is st i 3 [2] = true then 0 else 9) else becE is st i [2]
def parkIs (is st : List Int) (i : Int) : List Int := if parkE is st i = 0 then becIs is st i 3 [2] else []
def parkSt (is st : List Int) (i : Int) : List Int := if parkE is st i = 0 then becSS is st i 3 [2] else []
theorem gid_no {w w' : World} {er : Int} {e : Ending} (he : e = .returned (.tuple #[noI, .int .i64 er])) (hb : Below w.heap.size w w') : GiD w [] [] er e w' :=
  ⟨none, 0, none, 0, he, World.ownsRow_nil _ _ 3 1, World.ownsRow_nil _ _ 3 1, hb⟩
theorem bec_none {is st fr : List Int} {i what : Int} (h : becE is st i fr ≠ 0) : becIs is st i what fr = [] ∧ becSS is st i what fr = [] ∧ becF is st i what fr = false := by
  unfold becIs becSS becF; rw [if_neg h, if_neg h, if_neg h]; exact ⟨rfl, rfl, rfl⟩

set_option maxRecDepth 100000 in
set_option maxHeartbeats 4000000 in
theorem park_any (A B : Option Addr) (c d : Nat) (is st : List Int) (i : Int) (w : World) (hx : Sl encI 1 w A is) (hy : Sl encI 1 w B st) (hbig : is.length ≤ 4611686018427387904) (hbig2 : st.length ≤ 9223372036854775807) :
    Calls Try.prog 27 #[.agg #[.slice A is.length c, .slice B st.length d], .int .i64 i] w (GiD w (parkIs is st i) (parkSt is st i) (parkE is st i)) := by
  obtain ⟨w0, hw0⟩ : ∃ W, ((w.alloc (.cells #[.slice A is.length c, .slice B st.length d] 41)).alloc (.cells #[.slice none 0 0, .slice none 0 0] 41)).alloc (.cells #[.int .i64 2] 3) = W := ⟨_, rfl⟩
  obtain ⟨hb0, h1, h2, h3, k5, hs0⟩ := three w _ _ _ _ _ _ hw0
  have k3 : w0.cell? ⟨w.heap.size + 1, 0, none⟩ = some (.slice none 0 0) := h2 0 _ rfl
  have k4 : w0.cell? ⟨w.heap.size + 1, 1, none⟩ = some (.slice none 0 0) := h2 1 _ rfl
  have kf : ∀ j, w0.frozen? ⟨w.heap.size + 1, j, none⟩ = false := by
    have := new_free (w.alloc (.cells #[.slice A is.length c, .slice B st.length d] 41)) #[.slice none 0 0, .slice none 0 0] 41
    rw [size_alloc] at this
    have hcc := new_cell (w.alloc (.cells #[.slice A is.length c, .slice B st.length d] 41)) #[.slice none 0 0, .slice none 0 0] 41 0 _ rfl
    rw [size_alloc] at hcc
    rw [← hw0]; exact free_alloc hcc this _
  have hfr : Sl encI 1 w0 (some ⟨w.heap.size + 1 + 1, 0, none⟩) ([2] : List Int) := by
    rw [← hw0]; exact sl_lit_at encI_length _ 3 _ _ _ (by rw [size_alloc, size_alloc]) rfl
  have BC := become_any A B (some ⟨w.heap.size + 1 + 1, 0, none⟩) c d 1 is st [2] i 3 w0 (hx.below hb0) (hy.below hb0) hfr hbig hbig2 (by simp) (by decide)
  have HW0 := Lib.hid hw0
  clear hw0 h1 h2 h3 k5 hs0 hfr
  have hPE : parkE is st i = if becE is st i [2] = 0 then (if becF is st i 3 [2] = true then 0 else 9) else becE is st i [2] := rfl
  have hPI : parkIs is st i = if parkE is st i = 0 then becIs is st i 3 [2] else [] := rfl
  have hPS : parkSt is st i = if parkE is st i = 0 then becSS is st i 3 [2] else [] := rfl
  rw [hPI, hPS, hPE]
  have HNO := Lib.hid (fun h => @bec_none is st [2] i 3 h)
  clear hPE hPI hPS
  generalize becIs is st i 3 [2] = l0 at *
  generalize becSS is st i 3 [2] = l1 at *
  generalize becF is st i 3 [2] = ft at *
  generalize becE is st i [2] = er at *
  by_cases her : er = 0
  · subst her
    cases ft
    case false =>
      rw [if_pos rfl, if_neg (by decide), if_neg (by decide), if_neg (by decide)]
      clear HNO
      go_enter Try.func27, Try.ntmps27
      go_wp2_with fail
      rw [HW0.out]
      refine BC.mono ?_
      rintro e w1 ⟨A1, c1, B1, d1, rfl, oI, oS, ap, hb1⟩
      have q3 := cell_below hb1 k3
      have q4 := cell_below hb1 k4
      have qf := free_below hb1 k3 kf
      have p3 := fun o => cell_alloc q3 o
      have p4 := fun o => cell_alloc q4 o
      have pf := fun o => free_alloc q3 qf o
      have HOI := Lib.hid oI
      have HOS := Lib.hid oS
      have hg := (show w.heap.size + 1 < w0.heap.size from cell_lt k3)
      have HB := Lib.hid (below_then hb0 hb1)
      have HB1 := Lib.hid hb1
      clear oI oS ap BC hx hy hb1
      go_wp2_with fail
      obtain ⟨z0, z1⟩ := set2 (p3 (.cells #[.slice A1 l0.length c1, .slice B1 l1.length d1] 41)) (p4 (.cells #[.slice A1 l0.length c1, .slice B1 l1.length d1] 41)) (.slice none 0 0) (.slice none 0 0)
      exact bodyPost_ret (v := .tuple #[noI, .int .i64 9]) (by simp [results, Try.results27, go_sem, z0, z1, noI]) rfl
        (gid_no rfl (((HB.out.alloc HB.out.size _).setCell (Nat.le_succ _) _).setCell (Nat.le_succ _) _))
    case true =>
      rw [if_pos rfl, if_pos rfl, if_pos rfl, if_pos rfl]
      clear HNO
      go_enter Try.func27, Try.ntmps27
      go_wp2_with fail
      rw [HW0.out]
      refine BC.mono ?_
      rintro e w1 ⟨A1, c1, B1, d1, rfl, oI, oS, ap, hb1⟩
      have q3 := cell_below hb1 k3
      have q4 := cell_below hb1 k4
      have qf := free_below hb1 k3 kf
      have p3 := fun o => cell_alloc q3 o
      have p4 := fun o => cell_alloc q4 o
      have pf := fun o => free_alloc q3 qf o
      have HOI := Lib.hid oI
      have HOS := Lib.hid oS
      have hg := (show w.heap.size + 1 < w0.heap.size from cell_lt k3)
      have HB := Lib.hid (below_then hb0 hb1)
      have HB1 := Lib.hid hb1
      clear oI oS ap BC hx hy hb1
      go_wp2_with fail
      obtain ⟨z0, z1⟩ := set2 (p3 (.cells #[.slice A1 l0.length c1, .slice B1 l1.length d1] 41)) (p4 (.cells #[.slice A1 l0.length c1, .slice B1 l1.length d1] 41)) (.slice A1 l0.length c1) (.slice B1 l1.length d1)
      have OI := far_set (Own.below HOI.out (below_new w1 (.cells #[.slice A1 l0.length c1, .slice B1 l1.length d1] 41))) (ne_rng (own_rng HOI.out) (.inl hg)) (.slice A1 l0.length c1) (.slice B1 l1.length d1)
      have OS := far_set (Own.below HOS.out (below_new w1 (.cells #[.slice A1 l0.length c1, .slice B1 l1.length d1] 41))) (ne_rng (own_rng HOS.out) (.inl hg)) (.slice A1 l0.length c1) (.slice B1 l1.length d1)
      exact bodyPost_ret (v := .tuple #[.agg #[.slice A1 l0.length c1, .slice B1 l1.length d1], .int .i64 0]) (by simp [results, Try.results27, go_sem, z0, z1]) rfl
        ⟨A1, c1, B1, d1, rfl, Own.lower OI hb0.size, Own.lower OS hb0.size, ((HB.out.alloc HB.out.size _).setCell (Nat.le_succ _) _).setCell (Nat.le_succ _) _⟩
  · rw [if_neg her, if_neg her, if_neg her]
    obtain ⟨e0, e1, e2⟩ := HNO.out her
    have hq : (er == 0) = false := by simpa using her
    subst e0 e1 e2
    rw [show (([] : List Int)) = [] from rfl]
    clear HNO her
    go_enter Try.func27, Try.ntmps27
    go_wp2_with fail
    rw [HW0.out]
    refine BC.mono ?_
    rintro e w1 ⟨A1, c1, B1, d1, rfl, oI, oS, ap, hb1⟩
    have q3 := cell_below hb1 k3
    have q4 := cell_below hb1 k4
    have qf := free_below hb1 k3 kf
    have p3 := fun o => cell_alloc q3 o
    have p4 := fun o => cell_alloc q4 o
    have pf := fun o => free_alloc q3 qf o
    have HOI := Lib.hid oI
    have HOS := Lib.hid oS
    have hg := (show w.heap.size + 1 < w0.heap.size from cell_lt k3)
    have HB := Lib.hid (below_then hb0 hb1)
    have HB1 := Lib.hid hb1
    clear oI oS ap BC hx hy hb1
    go_wp2_with fail
    obtain ⟨z0, z1⟩ := set2 (p3 (.cells #[.slice A1 0 c1, .slice B1 0 d1] 41)) (p4 (.cells #[.slice A1 0 c1, .slice B1 0 d1] 41)) (.slice A1 0 c1) (.slice B1 0 d1)
    have OI := far_set (Own.below HOI.out (below_new w1 (.cells #[.slice A1 0 c1, .slice B1 0 d1] 41))) (ne_rng (own_rng HOI.out) (.inl hg)) (.slice A1 0 c1) (.slice B1 0 d1)
    have OS := far_set (Own.below HOS.out (below_new w1 (.cells #[.slice A1 0 c1, .slice B1 0 d1] 41))) (ne_rng (own_rng HOS.out) (.inl hg)) (.slice A1 0 c1) (.slice B1 0 d1)
    exact bodyPost_ret (v := .tuple #[.agg #[.slice A1 0 c1, .slice B1 0 d1], .int .i64 er]) (by simp [results, Try.results27, go_sem, z0, z1]) rfl
      ⟨A1, c1, B1, d1, rfl, Own.lower OI hb0.size, Own.lower OS hb0.size, ((HB.out.alloc HB.out.size _).setCell (Nat.le_succ _) _).setCell (Nat.le_succ _) _⟩
end Go.Proofs.Ytdalnaegjclacaa
