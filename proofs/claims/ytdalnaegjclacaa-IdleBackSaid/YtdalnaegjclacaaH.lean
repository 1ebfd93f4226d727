/- Layer 17: idle.Found, Announce, Park. -/
import Derived.Test.YtdalnaegjclacaaG
namespace Go.Proofs.Ytdalnaegjclacaa
open Go.RowKit

def becIs (is st : List Int) (i what : Int) (fr : List Int) : List Int := if becE is st i fr = 0 then is.set i.toNat what else []
def becSS (is st : List Int) (i what : Int) (fr : List Int) : List Int := if becE is st i fr = 0 then becSt st i what else []
def becF (is st : List Int) (i what : Int) (fr : List Int) : Bool := if becE is st i fr = 0 then fitI (is.set i.toNat what) else false
/-- What idle.become hands back. -/
def BecR (w : World) (is' st' : List Int) (ft : Bool) (er : Int) (e : Ending) (w' : World) : Prop := ∃ A c B d, e = .returned (.tuple #[.agg #[.slice A is'.length c, .slice B st'.length d], .bool ft, .int .i64 er]) ∧
  OwI w.heap.size w' (.slice A is'.length c) is' ∧ OwI w.heap.size w' (.slice B st'.length d) st' ∧ ((Value.slice A is'.length c).ownBlock = none ∨ (Value.slice A is'.length c).ownBlock ≠ (Value.slice B st'.length d).ownBlock) ∧ Below w.heap.size w w'
theorem becE_cases (is st : List Int) (i : Int) (fr : List Int) : becE is st i fr ≠ 0 ∨ ∃ n : Nat, i = n ∧ ∃ h : n < is.length, chkI is st = true ∧ is[n] ∈ fr ∧ becE is st i fr = 0 := by
  rcases inI_cases is st i with ⟨_, hi⟩ | ⟨_, _, hi⟩ | ⟨n, rfl, hn, hc, hi⟩
  · left; rw [becE_out hi]; decide
  · left; rw [becE_out hi]; decide
  · by_cases hm : is[n] ∈ fr
    · exact .inr ⟨n, rfl, hn, hc, hm, by rw [becE_in hi hn, if_pos hm]⟩
    · left; rw [becE_in hi hn, if_neg hm]; decide
theorem become_any (A B F : Option Addr) (c d f : Nat) (is st fr : List Int) (i what : Int) (w : World) (hx : Sl encI 1 w A is) (hy : Sl encI 1 w B st) (hf : Sl encI 1 w F fr) (hbig : is.length ≤ 4611686018427387904) (hbig2 : st.length ≤ 9223372036854775807) (hfr : fr.length ≤ 100) (hwh : what = 0 ∨ what = 1 ∨ what = 2 ∨ what = 3) :
    Calls Try.prog 68 #[.agg #[.slice A is.length c, .slice B st.length d], .int .i64 i, .int .i64 what, .slice F fr.length f] w (BecR w (becIs is st i what fr) (becSS is st i what fr) (becF is st i what fr) (becE is st i fr)) := by
  unfold becIs becSS becF
  rcases becE_cases is st i fr with h | ⟨n, rfl, hn, hc, hm, h⟩
  · rw [if_neg h, if_neg h, if_neg h]
    exact (become_no A B F c d f is st fr i what w hx hy hf hbig hbig2 hfr h).mono fun e w' ⟨he, hb⟩ => ⟨none, 0, none, 0, he, World.ownsRow_nil _ _ 3 1, World.ownsRow_nil _ _ 3 1, .inl rfl, hb⟩
  · rw [if_pos h, if_pos h, if_pos h, h, Int.toNat_natCast]
    exact (become_yes A B F c d f is st fr n what w hx hy hf hc hn hm hfr hwh).mono fun e w' ⟨A', c', B', d', he, h1, h2, h3, h4⟩ => ⟨A', c', B', d', he, h1, h2, h3, h4⟩

/-- What a call hands back that gives workers of its own. -/
def GiD (w : World) (is' st' : List Int) (er : Int) (e : Ending) (w' : World) : Prop := ∃ A c B d, e = .returned (.tuple #[.agg #[.slice A is'.length c, .slice B st'.length d], .int .i64 er]) ∧
  OwI w.heap.size w' (.slice A is'.length c) is' ∧ OwI w.heap.size w' (.slice B st'.length d) st' ∧ Below w.heap.size w w'
theorem free_alloc {w : World} {g : Nat} {u : Value} (hc : w.cell? ⟨g, 0, none⟩ = some u) (hf : ∀ j, w.frozen? ⟨g, j, none⟩ = false) (o : Obj) : ∀ j, (w.alloc o).frozen? ⟨g, j, none⟩ = false := free_below (below_new w o) hc hf

set_option maxRecDepth 100000 in
set_option maxHeartbeats 4000000 in
theorem found_any (A B : Option Addr) (c d : Nat) (is st : List Int) (i : Int) (w : World) (hx : Sl encI 1 w A is) (hy : Sl encI 1 w B st) (hbig : is.length ≤ 4611686018427387904) (hbig2 : st.length ≤ 9223372036854775807) :
    Calls Try.prog 24 #[.agg #[.slice A is.length c, .slice B st.length d], .int .i64 i] w (GiD w (becIs is st i 0 [0, 1, 2]) (becSS is st i 0 [0, 1, 2]) (becE is st i [0, 1, 2])) := by
  obtain ⟨w0, hw0⟩ : ∃ W, ((w.alloc (.cells #[.slice A is.length c, .slice B st.length d] 41)).alloc (.cells #[.slice none 0 0, .slice none 0 0] 41)).alloc (.cells #[.int .i64 0, .int .i64 1, .int .i64 2] 3) = W := ⟨_, rfl⟩
  obtain ⟨hb0, h1, h2, h3, k5, hs0⟩ := three w _ _ _ _ _ _ hw0
  have k3 : w0.cell? ⟨w.heap.size + 1, 0, none⟩ = some (.slice none 0 0) := h2 0 _ rfl
  have k4 : w0.cell? ⟨w.heap.size + 1, 1, none⟩ = some (.slice none 0 0) := h2 1 _ rfl
  have kf : ∀ j, w0.frozen? ⟨w.heap.size + 1, j, none⟩ = false := by
    have := new_free (w.alloc (.cells #[.slice A is.length c, .slice B st.length d] 41)) #[.slice none 0 0, .slice none 0 0] 41
    rw [size_alloc] at this
    have hcc := new_cell (w.alloc (.cells #[.slice A is.length c, .slice B st.length d] 41)) #[.slice none 0 0, .slice none 0 0] 41 0 _ rfl
    rw [size_alloc] at hcc
    rw [← hw0]; exact free_alloc hcc this _
  have hfr : Sl encI 1 w0 (some ⟨w.heap.size + 1 + 1, 0, none⟩) ([0, 1, 2] : List Int) := by
    rw [← hw0]; exact sl_lit_at encI_length _ 3 _ _ _ (by rw [size_alloc, size_alloc]) rfl
  have BC := become_any A B (some ⟨w.heap.size + 1 + 1, 0, none⟩) c d 3 is st [0, 1, 2] i 0 w0 (hx.below hb0) (hy.below hb0) hfr hbig hbig2 (by simp) (by decide)
  have HW0 := Lib.hid hw0
  clear hw0 h1 h2 h3 k5 hs0 hfr
  generalize becIs is st i 0 [0, 1, 2] = l0 at *
  generalize becSS is st i 0 [0, 1, 2] = l1 at *
  generalize becF is st i 0 [0, 1, 2] = ft at *
  generalize becE is st i [0, 1, 2] = er at *
  go_enter Try.func24, Try.ntmps24
  go_wp2_with fail
  rw [HW0.out]
  refine BC.mono ?_
  rintro e w1 ⟨A1, c1, B1, d1, rfl, oI, oS, ap, hb1⟩
  have q3 := cell_below hb1 k3
  have q4 := cell_below hb1 k4
  have qf := free_below hb1 k3 kf
  have p3 := fun o => cell_alloc q3 o
  have p4 := fun o => cell_alloc q4 o
  have pf := fun o => free_alloc q3 qf o
  have HOI := Lib.hid oI
  have HOS := Lib.hid oS
  have hg := (show w.heap.size + 1 < w0.heap.size from cell_lt k3)
  have HB := Lib.hid (below_then hb0 hb1)
  have HB1 := Lib.hid hb1
  clear oI oS ap BC hx hy hb1
  go_wp2_with fail
  obtain ⟨z0, z1⟩ := set2 (p3 (.cells #[.slice A1 l0.length c1, .slice B1 l1.length d1] 41)) (p4 (.cells #[.slice A1 l0.length c1, .slice B1 l1.length d1] 41)) (.slice A1 l0.length c1) (.slice B1 l1.length d1)
  have OI := far_set (Own.below HOI.out (below_new w1 (.cells #[.slice A1 l0.length c1, .slice B1 l1.length d1] 41))) (ne_rng (own_rng HOI.out) (.inl hg)) (.slice A1 l0.length c1) (.slice B1 l1.length d1)
  have OS := far_set (Own.below HOS.out (below_new w1 (.cells #[.slice A1 l0.length c1, .slice B1 l1.length d1] 41))) (ne_rng (own_rng HOS.out) (.inl hg)) (.slice A1 l0.length c1) (.slice B1 l1.length d1)
  exact bodyPost_ret (v := .tuple #[.agg #[.slice A1 l0.length c1, .slice B1 l1.length d1], .int .i64 er]) (by simp [results, Try.results24, go_sem, z0, z1]) rfl
    ⟨A1, c1, B1, d1, rfl, Own.lower OI hb0.size, Own.lower OS hb0.size, ((HB.out.alloc HB.out.size _).setCell (Nat.le_succ _) _).setCell (Nat.le_succ _) _⟩

set_option maxRecDepth 100000 in
set_option maxHeartbeats 4000000 in
theorem announce_any (A B : Option Addr) (c d : Nat) (is st : List Int) (i : Int) (w : World) (hx : Sl encI 1 w A is) (hy : Sl encI 1 w B st) (hbig : is.length ≤ 4611686018427387904) (hbig2 : st.length ≤ 9223372036854775807) :
    Calls Try.prog 23 #[.agg #[.slice A is.length c, .slice B st.length d], .int .i64 i] w (GiD w (becIs is st i 2 [0, 1]) (becSS is st i 2 [0, 1]) (becE is st i [0, 1])) := by
  obtain ⟨w0, hw0⟩ : ∃ W, ((w.alloc (.cells #[.slice A is.length c, .slice B st.length d] 41)).alloc (.cells #[.slice none 0 0, .slice none 0 0] 41)).alloc (.cells #[.int .i64 0, .int .i64 1] 3) = W := ⟨_, rfl⟩
  obtain ⟨hb0, h1, h2, h3, k5, hs0⟩ := three w _ _ _ _ _ _ hw0
  have k3 : w0.cell? ⟨w.heap.size + 1, 0, none⟩ = some (.slice none 0 0) := h2 0 _ rfl
  have k4 : w0.cell? ⟨w.heap.size + 1, 1, none⟩ = some (.slice none 0 0) := h2 1 _ rfl
  have kf : ∀ j, w0.frozen? ⟨w.heap.size + 1, j, none⟩ = false := by
    have := new_free (w.alloc (.cells #[.slice A is.length c, .slice B st.length d] 41)) #[.slice none 0 0, .slice none 0 0] 41
    rw [size_alloc] at this
    have hcc := new_cell (w.alloc (.cells #[.slice A is.length c, .slice B st.length d] 41)) #[.slice none 0 0, .slice none 0 0] 41 0 _ rfl
    rw [size_alloc] at hcc
    rw [← hw0]; exact free_alloc hcc this _
  have hfr : Sl encI 1 w0 (some ⟨w.heap.size + 1 + 1, 0, none⟩) ([0, 1] : List Int) := by
    rw [← hw0]; exact sl_lit_at encI_length _ 3 _ _ _ (by rw [size_alloc, size_alloc]) rfl
  have BC := become_any A B (some ⟨w.heap.size + 1 + 1, 0, none⟩) c d 2 is st [0, 1] i 2 w0 (hx.below hb0) (hy.below hb0) hfr hbig hbig2 (by simp) (by decide)
  have HW0 := Lib.hid hw0
  clear hw0 h1 h2 h3 k5 hs0 hfr
  generalize becIs is st i 2 [0, 1] = l0 at *
  generalize becSS is st i 2 [0, 1] = l1 at *
  generalize becF is st i 2 [0, 1] = ft at *
  generalize becE is st i [0, 1] = er at *
  go_enter Try.func23, Try.ntmps23
  go_wp2_with fail
  rw [HW0.out]
  refine BC.mono ?_
  rintro e w1 ⟨A1, c1, B1, d1, rfl, oI, oS, ap, hb1⟩
  have q3 := cell_below hb1 k3
  have q4 := cell_below hb1 k4
  have qf := free_below hb1 k3 kf
  have p3 := fun o => cell_alloc q3 o
  have p4 := fun o => cell_alloc q4 o
  have pf := fun o => free_alloc q3 qf o
  have HOI := Lib.hid oI
  have HOS := Lib.hid oS
  have hg := (show w.heap.size + 1 < w0.heap.size from cell_lt k3)
  have HB := Lib.hid (below_then hb0 hb1)
  have HB1 := Lib.hid hb1
  clear oI oS ap BC hx hy hb1
  go_wp2_with fail
  obtain ⟨z0, z1⟩ := set2 (p3 (.cells #[.slice A1 l0.length c1, .slice B1 l1.length d1] 41)) (p4 (.cells #[.slice A1 l0.length c1, .slice B1 l1.length d1] 41)) (.slice A1 l0.length c1) (.slice B1 l1.length d1)
  have OI := far_set (Own.below HOI.out (below_new w1 (.cells #[.slice A1 l0.length c1, .slice B1 l1.length d1] 41))) (ne_rng (own_rng HOI.out) (.inl hg)) (.slice A1 l0.length c1) (.slice B1 l1.length d1)
  have OS := far_set (Own.below HOS.out (below_new w1 (.cells #[.slice A1 l0.length c1, .slice B1 l1.length d1] 41))) (ne_rng (own_rng HOS.out) (.inl hg)) (.slice A1 l0.length c1) (.slice B1 l1.length d1)
  exact bodyPost_ret (v := .tuple #[.agg #[.slice A1 l0.length c1, .slice B1 l1.length d1], .int .i64 er]) (by simp [results, Try.results23, go_sem, z0, z1]) rfl
    ⟨A1, c1, B1, d1, rfl, Own.lower OI hb0.size, Own.lower OS hb0.size, ((HB.out.alloc HB.out.size _).setCell (Nat.le_succ _) _).setCell (Nat.le_succ _) _⟩
end Go.Proofs.Ytdalnaegjclacaa
