/- Layer 17: IdleBack, walked. -/
import Derived.Test.YtdalnaegjclacaaM0
namespace Go.Proofs.Ytdalnaegjclacaa
open Go.RowKit

set_option maxRecDepth 100000 in
set_option maxHeartbeats 8000000 in
theorem back_any (A B : Option Addr) (c d : Nat) (is st : List Int) (i : Int) (w : World) (hx : Sl encI 1 w A is) (hy : Sl encI 1 w B st) (hbig2 : st.length ≤ 9223372036854775807) :
    Calls Try.prog 4 #[.agg #[.slice A is.length c, .slice B st.length d], .int .i64 i] w fun e w' => e = .returned (.bool true) ∧ Below w.heap.size w w' := by
  have hb0 := below_new w (.cells #[.slice A is.length c, .slice B st.length d] 41)
  have k0 := new_cell w #[.slice A is.length c, .slice B st.length d] 41 0 (.slice A is.length c) rfl
  have k1 := new_cell w #[.slice A is.length c, .slice B st.length d] 41 1 (.slice B st.length d) rfl
  have LV := live_any (w.alloc (.cells #[.slice A is.length c, .slice B st.length d] 41))
  have hx0 := hx.below hb0
  have hy0 := hy.below hb0
  by_cases h100 : 100 < is.length
  · go_enter Try.func4, Try.ntmps4
    go_wp2_with fail
    refine LV.mono ?_
    rintro e w1 ⟨rfl, hb1⟩
    have q0 := cell_below hb1 k0
    go_wp2_with fail
    go_ret
    exact ⟨rfl, below_then hb0 hb1⟩
  have hl100 : is.length ≤ 100 := by omega
  have hbig : is.length ≤ 4611686018427387904 := by omega
  have CK := fun W h h' => check_any A B c d is st W h h' hbig hbig2
  clear h100
  cases hc : chkI is st
  case false =>
    rw [errI_not hc] at CK
    clear hc
    go_enter Try.func4, Try.ntmps4
    go_wp2_with fail
    refine LV.mono ?_
    rintro e w1 ⟨rfl, hb1⟩
    have q0 := cell_below hb1 k0
    have q1 := cell_below hb1 k1
    go_wp2_with fail
    refine (CK w1 (hx0.below hb1) (hy0.below hb1)).mono ?_
    rintro e w2 ⟨rfl, hb2⟩
    go_wp2_with fail
    go_ret
    exact ⟨rfl, below_then (below_then hb0 hb1) hb2⟩
  rw [errI_yes hc] at CK
  have hst : st.length ≤ 128 := by obtain ⟨_, _, _, _, ps, _⟩ := chkI_parts hc; have := cn_le is 2; have := cn_le is 3; omega
  have AN := fun W h h' => announce_any A B c d is st i W h h' hbig hbig2
  rcases becE_cases is st i [0, 1] with h | ⟨n, rfl, hn, _, hm, h⟩
  · obtain ⟨e0, e1, _⟩ := bec_none (is := is) (st := st) (fr := [0, 1]) (i := i) (what := 2) h
    rw [e0, e1] at AN
    have hq : (becE is st i [0, 1] != 0) = true := by simpa using h
    clear e0 e1 hc h
    generalize becE is st i [0, 1] = er at *
    go_enter Try.func4, Try.ntmps4
    go_wp2_with fail
    refine LV.mono ?_
    rintro e w1 ⟨rfl, hb1⟩
    have q0 := cell_below hb1 k0
    have q1 := cell_below hb1 k1
    have hx1 := hx0.below hb1
    have hy1 := hy0.below hb1
    go_wp2_with fail
    refine (CK w1 hx1 hy1).mono ?_
    rintro e w2 ⟨rfl, hb2⟩
    have r0 := cell_below hb2 q0
    have r1 := cell_below hb2 q1
    go_wp2_with fail
    refine (AN w2 (hx1.below hb2) (hy1.below hb2)).mono ?_
    rintro e w3 ⟨A3, c3, B3, d3, rfl, _, _, hb3⟩
    go_wp2_with fail
    go_ret
    exact ⟨rfl, (below_then (below_then (below_then hb0 hb1) hb2) hb3).alloc (below_then (below_then (below_then hb0 hb1) hb2) hb3).size _⟩
  · have F := back_facts hc hn hm
    obtain ⟨⟨f1, f2, f3⟩, ⟨f4, f5, f6⟩, ⟨f7, f8, f9, f10⟩, FP⟩ := F
    rw [f1, f2, f3] at AN
    have lA : (is.set n 2).length = is.length := List.length_set
    have lB : (is.set n 0).length = is.length := List.length_set
    have lP : (is.set n 3).length = is.length := List.length_set
    have lS : (st ++ [(n : Int)]).length ≤ 200 := by simp; omega
    have FN := fun A' B' c' d' W h h' => found_any A' B' c' d' (is.set n 2) (st ++ [(n : Int)]) n W h h' (by omega) (by omega)
    have WK := fun A' B' c' d' W h h' => wake_any A' B' c' d' (is.set n 2) (st ++ [(n : Int)]) W h h' (by omega) (by omega)
    have PK := fun A' B' c' d' W h h' => park_any A' B' c' d' (is.set n 2) (st ++ [(n : Int)]) n W h h' (by omega) (by omega)
    have FN2 := fun A' B' c' d' W h h' => found_any A' B' c' d' (is.set n 3) (st ++ [(n : Int)]) n W h h' (by omega) (by omega)
    have WK2 := fun A' B' c' d' W h h' => wake_any A' B' c' d' (is.set n 3) (st ++ [(n : Int)]) W h h' (by omega) (by omega)
    have SM := fun A1 B1 A2 B2 c1 d1 c2 d2 W h1 h2 h3 h4 => same_any A1 B1 A2 B2 c1 d1 c2 d2 (is.set n 0) st (is.set n 0) st W h1 h2 h3 h4 (by omega) (by omega)
    rw [show decide (is.set n 0 = is.set n 0 ∧ st = st) = true from by simp] at SM
    have SD : is[n] = 0 → ∀ A1 B1 A2 B2 c1 d1 c2 d2 W, Sl encI 1 W A1 (is.set n 0) → Sl encI 1 W B1 st → Sl encI 1 W A2 is → Sl encI 1 W B2 st → Calls Try.prog 26 #[.agg #[.slice A1 (is.set n 0).length c1, .slice B1 st.length d1], .agg #[.slice A2 is.length c2, .slice B2 st.length d2]] W fun e w' => e = .returned (.bool true) ∧ Below W.heap.size W w' := by
      intro h0 A1 B1 A2 B2 c1 d1 c2 d2 W h1 h2 h3 h4
      have h := same_any A1 B1 A2 B2 c1 d1 c2 d2 (is.set n 0) st is st W h1 h2 h3 h4 (by omega) (by omega)
      have he : is.set n 0 = is := by rw [← h0]; exact List.set_getElem_self hn
      rw [show decide (is.set n 0 = is ∧ st = st) = true from by simp [he]] at h
      exact h
    have HSD := Lib.hid SD
    rw [f4, f5, f6] at FN
    rw [f7, f8, f9, f10] at WK
    rw [lA] at FN WK PK
    rw [lP] at FN2 WK2
    rw [lB] at SM HSD
    have z0 : (0 : Int) ≤ (n : Int) := by omega
    have z1 : (n : Int) < (is.length : Int) := by omega
    have HLA := Lib.hid lA
    have HLB := Lib.hid lB
    have HLP := Lib.hid lP
    clear f1 f2 f3 f4 f5 f6 f7 f8 f9 f10 hc h hm SD lA lB lP
    have h01 : is[n] = 0 ∨ is[n] ≠ 0 := by omega
    have GA : ∀ (w w' : World) (l : List Int) (er : Int) (e : Ending), l.length = is.length → GiD w l st er e w' → ∃ A c B d, e = .returned (.tuple #[.agg #[.slice A is.length c, .slice B st.length d], .int .i64 er]) ∧ Sl encI 1 w' A l ∧ Sl encI 1 w' B st ∧ Below w.heap.size w w' := by
      intro w w' l er e hl h
      obtain ⟨A, c, B, d, he, h1, h2, h3⟩ := GiD.sl h
      rw [hl] at he
      exact ⟨A, c, B, d, he, h1, h2, h3⟩
    have GW : ∀ (w w' : World) (v : Value) (l : List Int) (er : Int) (e : Ending), l.length = is.length → GiV v w l st er e w' → ∃ A c B d, e = .returned (.tuple #[v, .agg #[.slice A is.length c, .slice B st.length d], .int .i64 er]) ∧ Sl encI 1 w' A l ∧ Sl encI 1 w' B st ∧ Below w.heap.size w w' := by
      intro w w' v l er e hl h
      obtain ⟨A, c, B, d, he, h1, h2, h3⟩ := GiV.sl h
      rw [hl] at he
      exact ⟨A, c, B, d, he, h1, h2, h3⟩
    have GS : ∀ (w w' : World) (l : List Int) (er : Int) (e : Ending), l.length = is.length → GiD w l (st ++ [(n : Int)]) er e w' → ∃ A c B m d, e = .returned (.tuple #[.agg #[.slice A is.length c, .slice B m d], .int .i64 er]) ∧ Hid (m = (st ++ [(n : Int)]).length) ∧ Sl encI 1 w' A l ∧ Sl encI 1 w' B (st ++ [(n : Int)]) ∧ Below w.heap.size w w' := by
      intro w w' l er e hl h
      obtain ⟨A, c, B, d, he, h1, h2, h3⟩ := GiD.sl h
      rw [hl] at he
      exact ⟨A, c, B, _, d, he, rfl, h1, h2, h3⟩
    have HGA := Lib.hid GA
    have HGW := Lib.hid GW
    have HGS := Lib.hid GS
    clear GA GW GS
    obtain ⟨mS, hmS⟩ : ∃ m, m = (st ++ [(n : Int)]).length := ⟨_, rfl⟩
    rw [← hmS] at FN WK PK FN2 WK2
    have HMS := Lib.hid hmS
    clear hmS
    go_enter Try.func4, Try.ntmps4
    go_wp2_with fail
    refine LV.mono ?_
    rintro e w1 ⟨rfl, hb1⟩
    have q0 := cell_below hb1 k0
    have q1 := cell_below hb1 k1
    clear hx hy
    have hx := hx0.below hb1
    have hy := hy0.below hb1
    have BB := Lib.hid (below_then hb0 hb1)
    clear hb0 hb1 k0 k1 hx0 hy0 LV
    go_wp2_with fail
    refine (CK w1 hx hy).mono ?_
    rintro e w2 ⟨rfl, hb2⟩
    have q0n := cell_below hb2 q0; clear q0; have q0 := q0n; clear q0n
    have q1n := cell_below hb2 q1; clear q1; have q1 := q1n; clear q1n
    have hxn := hx.below hb2; clear hx; have hx := hxn; clear hxn
    have hyn := hy.below hb2; clear hy; have hy := hyn; clear hyn
    have BW := below_then BB.out hb2
    clear BB
    have BB := Lib.hid BW
    clear BW hb2
    go_wp2_with fail
    refine (AN w2 hx hy).mono ?_
    rintro e w3 hr
    obtain ⟨A3, c3, B3, m3, d3, rfl, hm3, sA, sB, hb3⟩ := HGS.out _ _ _ _ _ HLA.out hr
    have hm4 : m3 = mS := hm3.out.trans HMS.out.symm
    subst hm4
    clear hr hm3
    have q0n := cell_below hb3 q0; clear q0; have q0 := q0n; clear q0n
    have q1n := cell_below hb3 q1; clear q1; have q1 := q1n; clear q1n
    have hxn := hx.below hb3; clear hx; have hx := hxn; clear hxn
    have hyn := hy.below hb3; clear hy; have hy := hyn; clear hyn
    have BW := below_then BB.out hb3
    clear BB
    have BB := Lib.hid BW
    clear BW hb3
    have q0n := cell_alloc q0 (.cells #[.slice A3 is.length c3, .slice B3 m3 d3] 41); clear q0; have q0 := q0n; clear q0n
    have q1n := cell_alloc q1 (.cells #[.slice A3 is.length c3, .slice B3 m3 d3] 41); clear q1; have q1 := q1n; clear q1n
    have hxn := hx.alloc (.cells #[.slice A3 is.length c3, .slice B3 m3 d3] 41); clear hx; have hx := hxn; clear hxn
    have hyn := hy.alloc (.cells #[.slice A3 is.length c3, .slice B3 m3 d3] 41); clear hy; have hy := hyn; clear hyn
    have sAn := sA.alloc (.cells #[.slice A3 is.length c3, .slice B3 m3 d3] 41); clear sA; have sA := sAn; clear sAn
    have sBn := sB.alloc (.cells #[.slice A3 is.length c3, .slice B3 m3 d3] 41); clear sB; have sB := sBn; clear sBn
    have a0 := new_cell w3 #[.slice A3 is.length c3, .slice B3 m3 d3] 41 0 (.slice A3 is.length c3) rfl
    have a1 := new_cell w3 #[.slice A3 is.length c3, .slice B3 m3 d3] 41 1 (.slice B3 m3 d3) rfl
    have BW := BB.out.alloc BB.out.size (.cells #[.slice A3 is.length c3, .slice B3 m3 d3] 41)
    clear BB
    have BB := Lib.hid BW
    clear BW
    go_wp2_with fail
    refine (FN A3 B3 c3 d3 _ sA sB).mono ?_
    rintro e w4 hr
    obtain ⟨A4, c4, B4, d4, rfl, sC, sD, hb4⟩ := HGA.out _ _ _ _ _ HLB.out hr
    clear hr FN
    have q0n := cell_below hb4 q0; clear q0; have q0 := q0n; clear q0n
    have q1n := cell_below hb4 q1; clear q1; have q1 := q1n; clear q1n
    have a0n := cell_below hb4 a0; clear a0; have a0 := a0n; clear a0n
    have a1n := cell_below hb4 a1; clear a1; have a1 := a1n; clear a1n
    have hxn := hx.below hb4; clear hx; have hx := hxn; clear hxn
    have hyn := hy.below hb4; clear hy; have hy := hyn; clear hyn
    have sAn := sA.below hb4; clear sA; have sA := sAn; clear sAn
    have sBn := sB.below hb4; clear sB; have sB := sBn; clear sBn
    have BW := below_then BB.out hb4
    clear BB
    have BB := Lib.hid BW
    clear BW hb4
    have q0n := cell_alloc q0 (.cells #[.slice A4 is.length c4, .slice B4 st.length d4] 41); clear q0; have q0 := q0n; clear q0n
    have q1n := cell_alloc q1 (.cells #[.slice A4 is.length c4, .slice B4 st.length d4] 41); clear q1; have q1 := q1n; clear q1n
    have a0n := cell_alloc a0 (.cells #[.slice A4 is.length c4, .slice B4 st.length d4] 41); clear a0; have a0 := a0n; clear a0n
    have a1n := cell_alloc a1 (.cells #[.slice A4 is.length c4, .slice B4 st.length d4] 41); clear a1; have a1 := a1n; clear a1n
    have hxn := hx.alloc (.cells #[.slice A4 is.length c4, .slice B4 st.length d4] 41); clear hx; have hx := hxn; clear hxn
    have hyn := hy.alloc (.cells #[.slice A4 is.length c4, .slice B4 st.length d4] 41); clear hy; have hy := hyn; clear hyn
    have sAn := sA.alloc (.cells #[.slice A4 is.length c4, .slice B4 st.length d4] 41); clear sA; have sA := sAn; clear sAn
    have sBn := sB.alloc (.cells #[.slice A4 is.length c4, .slice B4 st.length d4] 41); clear sB; have sB := sBn; clear sBn
    have sCn := sC.alloc (.cells #[.slice A4 is.length c4, .slice B4 st.length d4] 41); clear sC; have sC := sCn; clear sCn
    have sDn := sD.alloc (.cells #[.slice A4 is.length c4, .slice B4 st.length d4] 41); clear sD; have sD := sDn; clear sDn
    have b0 := new_cell w4 #[.slice A4 is.length c4, .slice B4 st.length d4] 41 0 (.slice A4 is.length c4) rfl
    have b1 := new_cell w4 #[.slice A4 is.length c4, .slice B4 st.length d4] 41 1 (.slice B4 st.length d4) rfl
    have BW := BB.out.alloc BB.out.size (.cells #[.slice A4 is.length c4, .slice B4 st.length d4] 41)
    clear BB
    have BB := Lib.hid BW
    clear BW
    go_wp2_with fail
    refine (WK A3 B3 c3 d3 _ sA sB).mono ?_
    rintro e w5 hr
    obtain ⟨A5, c5, B5, d5, rfl, sE, sF, hb5⟩ := HGW.out _ _ _ _ _ _ HLB.out hr
    clear hr WK
    have q0n := cell_below hb5 q0; clear q0; have q0 := q0n; clear q0n
    have q1n := cell_below hb5 q1; clear q1; have q1 := q1n; clear q1n
    have a0n := cell_below hb5 a0; clear a0; have a0 := a0n; clear a0n
    have a1n := cell_below hb5 a1; clear a1; have a1 := a1n; clear a1n
    have b0n := cell_below hb5 b0; clear b0; have b0 := b0n; clear b0n
    have b1n := cell_below hb5 b1; clear b1; have b1 := b1n; clear b1n
    have hxn := hx.below hb5; clear hx; have hx := hxn; clear hxn
    have hyn := hy.below hb5; clear hy; have hy := hyn; clear hyn
    have sAn := sA.below hb5; clear sA; have sA := sAn; clear sAn
    have sBn := sB.below hb5; clear sB; have sB := sBn; clear sBn
    have sCn := sC.below hb5; clear sC; have sC := sCn; clear sCn
    have sDn := sD.below hb5; clear sD; have sD := sDn; clear sDn
    have BW := below_then BB.out hb5
    clear BB
    have BB := Lib.hid BW
    clear BW hb5
    have q0n := cell_alloc q0 (.cells #[.slice A5 is.length c5, .slice B5 st.length d5] 41); clear q0; have q0 := q0n; clear q0n
    have q1n := cell_alloc q1 (.cells #[.slice A5 is.length c5, .slice B5 st.length d5] 41); clear q1; have q1 := q1n; clear q1n
    have a0n := cell_alloc a0 (.cells #[.slice A5 is.length c5, .slice B5 st.length d5] 41); clear a0; have a0 := a0n; clear a0n
    have a1n := cell_alloc a1 (.cells #[.slice A5 is.length c5, .slice B5 st.length d5] 41); clear a1; have a1 := a1n; clear a1n
    have b0n := cell_alloc b0 (.cells #[.slice A5 is.length c5, .slice B5 st.length d5] 41); clear b0; have b0 := b0n; clear b0n
    have b1n := cell_alloc b1 (.cells #[.slice A5 is.length c5, .slice B5 st.length d5] 41); clear b1; have b1 := b1n; clear b1n
    have hxn := hx.alloc (.cells #[.slice A5 is.length c5, .slice B5 st.length d5] 41); clear hx; have hx := hxn; clear hxn
    have hyn := hy.alloc (.cells #[.slice A5 is.length c5, .slice B5 st.length d5] 41); clear hy; have hy := hyn; clear hyn
    have sAn := sA.alloc (.cells #[.slice A5 is.length c5, .slice B5 st.length d5] 41); clear sA; have sA := sAn; clear sAn
    have sBn := sB.alloc (.cells #[.slice A5 is.length c5, .slice B5 st.length d5] 41); clear sB; have sB := sBn; clear sBn
    have sCn := sC.alloc (.cells #[.slice A5 is.length c5, .slice B5 st.length d5] 41); clear sC; have sC := sCn; clear sCn
    have sDn := sD.alloc (.cells #[.slice A5 is.length c5, .slice B5 st.length d5] 41); clear sD; have sD := sDn; clear sDn
    have sEn := sE.alloc (.cells #[.slice A5 is.length c5, .slice B5 st.length d5] 41); clear sE; have sE := sEn; clear sEn
    have sFn := sF.alloc (.cells #[.slice A5 is.length c5, .slice B5 st.length d5] 41); clear sF; have sF := sFn; clear sFn
    have v0 := new_cell w5 #[.slice A5 is.length c5, .slice B5 st.length d5] 41 0 (.slice A5 is.length c5) rfl
    have v1 := new_cell w5 #[.slice A5 is.length c5, .slice B5 st.length d5] 41 1 (.slice B5 st.length d5) rfl
    have BW := BB.out.alloc BB.out.size (.cells #[.slice A5 is.length c5, .slice B5 st.length d5] 41)
    clear BB
    have BB := Lib.hid BW
    clear BW
    go_wp2_with fail
    refine (SM A4 B4 A5 B5 c4 d4 c5 d5 _ sC sD sE sF).mono ?_
    rintro e w6 ⟨rfl, hb6⟩
    clear sE sF v0 v1
    have q0n := cell_below hb6 q0; clear q0; have q0 := q0n; clear q0n
    have q1n := cell_below hb6 q1; clear q1; have q1 := q1n; clear q1n
    have a0n := cell_below hb6 a0; clear a0; have a0 := a0n; clear a0n
    have a1n := cell_below hb6 a1; clear a1; have a1 := a1n; clear a1n
    have b0n := cell_below hb6 b0; clear b0; have b0 := b0n; clear b0n
    have b1n := cell_below hb6 b1; clear b1; have b1 := b1n; clear b1n
    have hxn := hx.below hb6; clear hx; have hx := hxn; clear hxn
    have hyn := hy.below hb6; clear hy; have hy := hyn; clear hyn
    have sAn := sA.below hb6; clear sA; have sA := sAn; clear sAn
    have sBn := sB.below hb6; clear sB; have sB := sBn; clear sBn
    have sCn := sC.below hb6; clear sC; have sC := sCn; clear sCn
    have sDn := sD.below hb6; clear sD; have sD := sDn; clear sDn
    have BW := below_then BB.out hb6
    clear BB
    have BB := Lib.hid BW
    clear BW hb6
    obtain ⟨bX, oX, rfl, cX⟩ := hx.int_at n hn
    rcases h01 with h01 | h01
    · have SD := HSD.out h01
      rw [h01] at cX
      clear h01
      go_wp2_with fail
      refine (SD A4 B4 (some ⟨bX, oX, none⟩) B c4 d4 c d _ sC sD hx hy).mono ?_
      rintro e w7 ⟨rfl, hb7⟩
      clear cX SD
      have q0n := cell_below hb7 q0; clear q0; have q0 := q0n; clear q0n
      have q1n := cell_below hb7 q1; clear q1; have q1 := q1n; clear q1n
      have a0n := cell_below hb7 a0; clear a0; have a0 := a0n; clear a0n
      have a1n := cell_below hb7 a1; clear a1; have a1 := a1n; clear a1n
      have b0n := cell_below hb7 b0; clear b0; have b0 := b0n; clear b0n
      have b1n := cell_below hb7 b1; clear b1; have b1 := b1n; clear b1n
      have hxn := hx.below hb7; clear hx; have hx := hxn; clear hxn
      have hyn := hy.below hb7; clear hy; have hy := hyn; clear hyn
      have sAn := sA.below hb7; clear sA; have sA := sAn; clear sAn
      have sBn := sB.below hb7; clear sB; have sB := sBn; clear sBn
      have sCn := sC.below hb7; clear sC; have sC := sCn; clear sCn
      have sDn := sD.below hb7; clear sD; have sD := sDn; clear sDn
      have BW := below_then BB.out hb7
      clear BB
      have BB := Lib.hid BW
      clear BW hb7
      go_wp2_with fail
      refine (PK A3 B3 c3 d3 _ sA sB).mono ?_
      rintro e w8 hr
      rcases FP with ⟨g1, g2, g3⟩ | ⟨g1, g2, g3, g4, g5, g6, g7, g8⟩
      · rw [g1, g2, g3] at hr
        obtain ⟨A8, c8, B8, d8, rfl, _, _, hb8⟩ := GiD.sl hr
        clear hr g1 g2 g3
        go_wp2_with fail
        go_ret
        exact ⟨rfl, (below_then BB.out hb8).alloc (below_then BB.out hb8).size _⟩
      · rw [g1, g2, g3] at hr
        obtain ⟨A8, c8, B8, m8, d8, rfl, hm8, sP, sQ, hb8⟩ := HGS.out _ _ _ _ _ HLP.out hr
        have hm9 : m8 = m3 := hm8.out.trans HMS.out.symm
        subst hm9
        rw [g4, (bec_none (by rw [g4]; decide)).1, (bec_none (by rw [g4]; decide)).2.1] at FN2
        rw [g5, g6, g7, g8] at WK2
        clear hr hm8 g1 g2 g3 g4 g5 g6 g7 g8 PK
        clear hx hy sA sB a0 a1 q0 q1
        have b0n := cell_below hb8 b0; clear b0; have b0 := b0n; clear b0n
        have b1n := cell_below hb8 b1; clear b1; have b1 := b1n; clear b1n
        have sCn := sC.below hb8; clear sC; have sC := sCn; clear sCn
        have sDn := sD.below hb8; clear sD; have sD := sDn; clear sDn
        have BW := below_then BB.out hb8
        clear BB
        have BB := Lib.hid BW
        clear BW hb8
        have b0n := cell_alloc b0 (.cells #[.slice A8 is.length c8, .slice B8 m8 d8] 41); clear b0; have b0 := b0n; clear b0n
        have b1n := cell_alloc b1 (.cells #[.slice A8 is.length c8, .slice B8 m8 d8] 41); clear b1; have b1 := b1n; clear b1n
        have sCn := sC.alloc (.cells #[.slice A8 is.length c8, .slice B8 m8 d8] 41); clear sC; have sC := sCn; clear sCn
        have sDn := sD.alloc (.cells #[.slice A8 is.length c8, .slice B8 m8 d8] 41); clear sD; have sD := sDn; clear sDn
        have sPn := sP.alloc (.cells #[.slice A8 is.length c8, .slice B8 m8 d8] 41); clear sP; have sP := sPn; clear sPn
        have sQn := sQ.alloc (.cells #[.slice A8 is.length c8, .slice B8 m8 d8] 41); clear sQ; have sQ := sQn; clear sQn
        have u0 := new_cell w8 #[.slice A8 is.length c8, .slice B8 m8 d8] 41 0 (.slice A8 is.length c8) rfl
        have u1 := new_cell w8 #[.slice A8 is.length c8, .slice B8 m8 d8] 41 1 (.slice B8 m8 d8) rfl
        have BW := BB.out.alloc BB.out.size (.cells #[.slice A8 is.length c8, .slice B8 m8 d8] 41)
        clear BB
        have BB := Lib.hid BW
        clear BW
        go_wp2_with fail
        refine (FN2 A8 B8 c8 d8 _ sP sQ).mono ?_
        rintro e w9 hr
        obtain ⟨A9, c9, B9, d9, rfl, _, _, hb9⟩ := GiD.sl hr
        clear hr FN2
        have b0n := cell_below hb9 b0; clear b0; have b0 := b0n; clear b0n
        have b1n := cell_below hb9 b1; clear b1; have b1 := b1n; clear b1n
        have u0n := cell_below hb9 u0; clear u0; have u0 := u0n; clear u0n
        have u1n := cell_below hb9 u1; clear u1; have u1 := u1n; clear u1n
        have sCn := sC.below hb9; clear sC; have sC := sCn; clear sCn
        have sDn := sD.below hb9; clear sD; have sD := sDn; clear sDn
        have sPn := sP.below hb9; clear sP; have sP := sPn; clear sPn
        have sQn := sQ.below hb9; clear sQ; have sQ := sQn; clear sQn
        have BW := below_then BB.out hb9
        clear BB
        have BB := Lib.hid BW
        clear BW hb9
        have b0n := cell_alloc b0 (.cells #[.slice A9 0 c9, .slice B9 0 d9] 41); clear b0; have b0 := b0n; clear b0n
        have b1n := cell_alloc b1 (.cells #[.slice A9 0 c9, .slice B9 0 d9] 41); clear b1; have b1 := b1n; clear b1n
        have u0n := cell_alloc u0 (.cells #[.slice A9 0 c9, .slice B9 0 d9] 41); clear u0; have u0 := u0n; clear u0n
        have u1n := cell_alloc u1 (.cells #[.slice A9 0 c9, .slice B9 0 d9] 41); clear u1; have u1 := u1n; clear u1n
        have sCn := sC.alloc (.cells #[.slice A9 0 c9, .slice B9 0 d9] 41); clear sC; have sC := sCn; clear sCn
        have sDn := sD.alloc (.cells #[.slice A9 0 c9, .slice B9 0 d9] 41); clear sD; have sD := sDn; clear sDn
        have sPn := sP.alloc (.cells #[.slice A9 0 c9, .slice B9 0 d9] 41); clear sP; have sP := sPn; clear sPn
        have sQn := sQ.alloc (.cells #[.slice A9 0 c9, .slice B9 0 d9] 41); clear sQ; have sQ := sQn; clear sQn
        have t0 := new_cell w9 #[.slice A9 0 c9, .slice B9 0 d9] 41 0 (.slice A9 0 c9) rfl
        have t1 := new_cell w9 #[.slice A9 0 c9, .slice B9 0 d9] 41 1 (.slice B9 0 d9) rfl
        have BW := BB.out.alloc BB.out.size (.cells #[.slice A9 0 c9, .slice B9 0 d9] 41)
        clear BB
        have BB := Lib.hid BW
        clear BW
        go_wp2_with fail
        refine (WK2 A8 B8 c8 d8 _ sP sQ).mono ?_
        rintro e wa hr
        obtain ⟨Aa, ca, Ba, da, rfl, sG, sH, hba⟩ := HGW.out _ _ _ _ _ _ HLB.out hr
        clear hr WK2
        have b0n := cell_below hba b0; clear b0; have b0 := b0n; clear b0n
        have b1n := cell_below hba b1; clear b1; have b1 := b1n; clear b1n
        have u0n := cell_below hba u0; clear u0; have u0 := u0n; clear u0n
        have u1n := cell_below hba u1; clear u1; have u1 := u1n; clear u1n
        have t0n := cell_below hba t0; clear t0; have t0 := t0n; clear t0n
        have t1n := cell_below hba t1; clear t1; have t1 := t1n; clear t1n
        have sCn := sC.below hba; clear sC; have sC := sCn; clear sCn
        have sDn := sD.below hba; clear sD; have sD := sDn; clear sDn
        have sPn := sP.below hba; clear sP; have sP := sPn; clear sPn
        have sQn := sQ.below hba; clear sQ; have sQ := sQn; clear sQn
        have BW := below_then BB.out hba
        clear BB
        have BB := Lib.hid BW
        clear BW hba
        have b0n := cell_alloc b0 (.cells #[.slice Aa is.length ca, .slice Ba st.length da] 41); clear b0; have b0 := b0n; clear b0n
        have b1n := cell_alloc b1 (.cells #[.slice Aa is.length ca, .slice Ba st.length da] 41); clear b1; have b1 := b1n; clear b1n
        have u0n := cell_alloc u0 (.cells #[.slice Aa is.length ca, .slice Ba st.length da] 41); clear u0; have u0 := u0n; clear u0n
        have u1n := cell_alloc u1 (.cells #[.slice Aa is.length ca, .slice Ba st.length da] 41); clear u1; have u1 := u1n; clear u1n
        have t0n := cell_alloc t0 (.cells #[.slice Aa is.length ca, .slice Ba st.length da] 41); clear t0; have t0 := t0n; clear t0n
        have t1n := cell_alloc t1 (.cells #[.slice Aa is.length ca, .slice Ba st.length da] 41); clear t1; have t1 := t1n; clear t1n
        have sCn := sC.alloc (.cells #[.slice Aa is.length ca, .slice Ba st.length da] 41); clear sC; have sC := sCn; clear sCn
        have sDn := sD.alloc (.cells #[.slice Aa is.length ca, .slice Ba st.length da] 41); clear sD; have sD := sDn; clear sDn
        have sPn := sP.alloc (.cells #[.slice Aa is.length ca, .slice Ba st.length da] 41); clear sP; have sP := sPn; clear sPn
        have sQn := sQ.alloc (.cells #[.slice Aa is.length ca, .slice Ba st.length da] 41); clear sQ; have sQ := sQn; clear sQn
        have sGn := sG.alloc (.cells #[.slice Aa is.length ca, .slice Ba st.length da] 41); clear sG; have sG := sGn; clear sGn
        have sHn := sH.alloc (.cells #[.slice Aa is.length ca, .slice Ba st.length da] 41); clear sH; have sH := sHn; clear sHn
        have s0 := new_cell wa #[.slice Aa is.length ca, .slice Ba st.length da] 41 0 (.slice Aa is.length ca) rfl
        have s1 := new_cell wa #[.slice Aa is.length ca, .slice Ba st.length da] 41 1 (.slice Ba st.length da) rfl
        have BW := BB.out.alloc BB.out.size (.cells #[.slice Aa is.length ca, .slice Ba st.length da] 41)
        clear BB
        have BB := Lib.hid BW
        clear BW
        go_wp2_with fail
        refine (SM Aa Ba A4 B4 ca da c4 d4 _ sG sH sC sD).mono ?_
        rintro e wb ⟨rfl, hbb⟩
        go_wp2_with fail
        go_ret
        exact ⟨rfl, below_then BB.out hbb⟩
    · have hq0 : (is[n] == 0) = false := by simpa using h01
      clear h01
      go_wp2_with fail
      refine (PK A3 B3 c3 d3 _ sA sB).mono ?_
      rintro e w8 hr
      rcases FP with ⟨g1, g2, g3⟩ | ⟨g1, g2, g3, g4, g5, g6, g7, g8⟩
      · rw [g1, g2, g3] at hr
        obtain ⟨A8, c8, B8, d8, rfl, _, _, hb8⟩ := GiD.sl hr
        clear hr g1 g2 g3
        go_wp2_with fail
        go_ret
        exact ⟨rfl, (below_then BB.out hb8).alloc (below_then BB.out hb8).size _⟩
      · rw [g1, g2, g3] at hr
        obtain ⟨A8, c8, B8, m8, d8, rfl, hm8, sP, sQ, hb8⟩ := HGS.out _ _ _ _ _ HLP.out hr
        have hm9 : m8 = m3 := hm8.out.trans HMS.out.symm
        subst hm9
        rw [g4, (bec_none (by rw [g4]; decide)).1, (bec_none (by rw [g4]; decide)).2.1] at FN2
        rw [g5, g6, g7, g8] at WK2
        clear hr hm8 g1 g2 g3 g4 g5 g6 g7 g8 PK
        clear hx hy sA sB a0 a1 q0 q1
        have b0n := cell_below hb8 b0; clear b0; have b0 := b0n; clear b0n
        have b1n := cell_below hb8 b1; clear b1; have b1 := b1n; clear b1n
        have sCn := sC.below hb8; clear sC; have sC := sCn; clear sCn
        have sDn := sD.below hb8; clear sD; have sD := sDn; clear sDn
        have BW := below_then BB.out hb8
        clear BB
        have BB := Lib.hid BW
        clear BW hb8
        have b0n := cell_alloc b0 (.cells #[.slice A8 is.length c8, .slice B8 m8 d8] 41); clear b0; have b0 := b0n; clear b0n
        have b1n := cell_alloc b1 (.cells #[.slice A8 is.length c8, .slice B8 m8 d8] 41); clear b1; have b1 := b1n; clear b1n
        have sCn := sC.alloc (.cells #[.slice A8 is.length c8, .slice B8 m8 d8] 41); clear sC; have sC := sCn; clear sCn
        have sDn := sD.alloc (.cells #[.slice A8 is.length c8, .slice B8 m8 d8] 41); clear sD; have sD := sDn; clear sDn
        have sPn := sP.alloc (.cells #[.slice A8 is.length c8, .slice B8 m8 d8] 41); clear sP; have sP := sPn; clear sPn
        have sQn := sQ.alloc (.cells #[.slice A8 is.length c8, .slice B8 m8 d8] 41); clear sQ; have sQ := sQn; clear sQn
        have u0 := new_cell w8 #[.slice A8 is.length c8, .slice B8 m8 d8] 41 0 (.slice A8 is.length c8) rfl
        have u1 := new_cell w8 #[.slice A8 is.length c8, .slice B8 m8 d8] 41 1 (.slice B8 m8 d8) rfl
        have BW := BB.out.alloc BB.out.size (.cells #[.slice A8 is.length c8, .slice B8 m8 d8] 41)
        clear BB
        have BB := Lib.hid BW
        clear BW
        go_wp2_with fail
        refine (FN2 A8 B8 c8 d8 _ sP sQ).mono ?_
        rintro e w9 hr
        obtain ⟨A9, c9, B9, d9, rfl, _, _, hb9⟩ := GiD.sl hr
        clear hr FN2
        have b0n := cell_below hb9 b0; clear b0; have b0 := b0n; clear b0n
        have b1n := cell_below hb9 b1; clear b1; have b1 := b1n; clear b1n
        have u0n := cell_below hb9 u0; clear u0; have u0 := u0n; clear u0n
        have u1n := cell_below hb9 u1; clear u1; have u1 := u1n; clear u1n
        have sCn := sC.below hb9; clear sC; have sC := sCn; clear sCn
        have sDn := sD.below hb9; clear sD; have sD := sDn; clear sDn
        have sPn := sP.below hb9; clear sP; have sP := sPn; clear sPn
        have sQn := sQ.below hb9; clear sQ; have sQ := sQn; clear sQn
        have BW := below_then BB.out hb9
        clear BB
        have BB := Lib.hid BW
        clear BW hb9
        have b0n := cell_alloc b0 (.cells #[.slice A9 0 c9, .slice B9 0 d9] 41); clear b0; have b0 := b0n; clear b0n
        have b1n := cell_alloc b1 (.cells #[.slice A9 0 c9, .slice B9 0 d9] 41); clear b1; have b1 := b1n; clear b1n
        have u0n := cell_alloc u0 (.cells #[.slice A9 0 c9, .slice B9 0 d9] 41); clear u0; have u0 := u0n; clear u0n
        have u1n := cell_alloc u1 (.cells #[.slice A9 0 c9, .slice B9 0 d9] 41); clear u1; have u1 := u1n; clear u1n
        have sCn := sC.alloc (.cells #[.slice A9 0 c9, .slice B9 0 d9] 41); clear sC; have sC := sCn; clear sCn
        have sDn := sD.alloc (.cells #[.slice A9 0 c9, .slice B9 0 d9] 41); clear sD; have sD := sDn; clear sDn
        have sPn := sP.alloc (.cells #[.slice A9 0 c9, .slice B9 0 d9] 41); clear sP; have sP := sPn; clear sPn
        have sQn := sQ.alloc (.cells #[.slice A9 0 c9, .slice B9 0 d9] 41); clear sQ; have sQ := sQn; clear sQn
        have t0 := new_cell w9 #[.slice A9 0 c9, .slice B9 0 d9] 41 0 (.slice A9 0 c9) rfl
        have t1 := new_cell w9 #[.slice A9 0 c9, .slice B9 0 d9] 41 1 (.slice B9 0 d9) rfl
        have BW := BB.out.alloc BB.out.size (.cells #[.slice A9 0 c9, .slice B9 0 d9] 41)
        clear BB
        have BB := Lib.hid BW
        clear BW
        go_wp2_with fail
        refine (WK2 A8 B8 c8 d8 _ sP sQ).mono ?_
        rintro e wa hr
        obtain ⟨Aa, ca, Ba, da, rfl, sG, sH, hba⟩ := HGW.out _ _ _ _ _ _ HLB.out hr
        clear hr WK2
        have b0n := cell_below hba b0; clear b0; have b0 := b0n; clear b0n
        have b1n := cell_below hba b1; clear b1; have b1 := b1n; clear b1n
        have u0n := cell_below hba u0; clear u0; have u0 := u0n; clear u0n
        have u1n := cell_below hba u1; clear u1; have u1 := u1n; clear u1n
        have t0n := cell_below hba t0; clear t0; have t0 := t0n; clear t0n
        have t1n := cell_below hba t1; clear t1; have t1 := t1n; clear t1n
        have sCn := sC.below hba; clear sC; have sC := sCn; clear sCn
        have sDn := sD.below hba; clear sD; have sD := sDn; clear sDn
        have sPn := sP.below hba; clear sP; have sP := sPn; clear sPn
        have sQn := sQ.below hba; clear sQ; have sQ := sQn; clear sQn
        have BW := below_then BB.out hba
        clear BB
        have BB := Lib.hid BW
        clear BW hba
        have b0n := cell_alloc b0 (.cells #[.slice Aa is.length ca, .slice Ba st.length da] 41); clear b0; have b0 := b0n; clear b0n
        have b1n := cell_alloc b1 (.cells #[.slice Aa is.length ca, .slice Ba st.length da] 41); clear b1; have b1 := b1n; clear b1n
        have u0n := cell_alloc u0 (.cells #[.slice Aa is.length ca, .slice Ba st.length da] 41); clear u0; have u0 := u0n; clear u0n
        have u1n := cell_alloc u1 (.cells #[.slice Aa is.length ca, .slice Ba st.length da] 41); clear u1; have u1 := u1n; clear u1n
        have t0n := cell_alloc t0 (.cells #[.slice Aa is.length ca, .slice Ba st.length da] 41); clear t0; have t0 := t0n; clear t0n
        have t1n := cell_alloc t1 (.cells #[.slice Aa is.length ca, .slice Ba st.length da] 41); clear t1; have t1 := t1n; clear t1n
        have sCn := sC.alloc (.cells #[.slice Aa is.length ca, .slice Ba st.length da] 41); clear sC; have sC := sCn; clear sCn
        have sDn := sD.alloc (.cells #[.slice Aa is.length ca, .slice Ba st.length da] 41); clear sD; have sD := sDn; clear sDn
        have sPn := sP.alloc (.cells #[.slice Aa is.length ca, .slice Ba st.length da] 41); clear sP; have sP := sPn; clear sPn
        have sQn := sQ.alloc (.cells #[.slice Aa is.length ca, .slice Ba st.length da] 41); clear sQ; have sQ := sQn; clear sQn
        have sGn := sG.alloc (.cells #[.slice Aa is.length ca, .slice Ba st.length da] 41); clear sG; have sG := sGn; clear sGn
        have sHn := sH.alloc (.cells #[.slice Aa is.length ca, .slice Ba st.length da] 41); clear sH; have sH := sHn; clear sHn
        have s0 := new_cell wa #[.slice Aa is.length ca, .slice Ba st.length da] 41 0 (.slice Aa is.length ca) rfl
        have s1 := new_cell wa #[.slice Aa is.length ca, .slice Ba st.length da] 41 1 (.slice Ba st.length da) rfl
        have BW := BB.out.alloc BB.out.size (.cells #[.slice Aa is.length ca, .slice Ba st.length da] 41)
        clear BB
        have BB := Lib.hid BW
        clear BW
        go_wp2_with fail
        refine (SM Aa Ba A4 B4 ca da c4 d4 _ sG sH sC sD).mono ?_
        rintro e wb ⟨rfl, hbb⟩
        go_wp2_with fail
        go_ret
        exact ⟨rfl, below_then BB.out hbb⟩
end Go.Proofs.Ytdalnaegjclacaa
