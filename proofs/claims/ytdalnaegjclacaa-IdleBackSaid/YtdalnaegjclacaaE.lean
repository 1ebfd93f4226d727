/- Layer 17: idle.Check, walked. -/
import Derived.Test.YtdalnaegjclacaaD
namespace Go.Proofs.Ytdalnaegjclacaa
open Go.RowKit

theorem mem_take_at {l : List Int} {j k : Nat} (hj : j < k) (hl : j < l.length) : l[j] ∈ l.take k := by
  rw [List.mem_iff_getElem]
  exact ⟨j, by rw [List.length_take]; omega, by rw [List.getElem_take]⟩
set_option maxRecDepth 100000 in
set_option maxHeartbeats 8000000 in
theorem check_any (A B : Option Addr) (c d : Nat) (is st : List Int) (w : World) (hx : Sl encI 1 w A is) (hy : Sl encI 1 w B st) (hbig : is.length ≤ 4611686018427387904) (hbig2 : st.length ≤ 9223372036854775807) :
    Calls Try.prog 22 #[.agg #[.slice A is.length c, .slice B st.length d]] w fun e w' => e = .returned (.int .i64 (errI is st)) ∧ Below w.heap.size w w' := by
  have hb0 : Below w.heap.size w (w.alloc (.cells #[.slice A is.length c, .slice B st.length d] 41)) := (Below.refl _ _).alloc (Nat.le_refl _) _
  have hx0 := hx.below hb0
  have hy0 := hy.below hb0
  have k0 : (w.alloc (.cells #[.slice A is.length c, .slice B st.length d] 41)).cell? ⟨w.heap.size, 0, none⟩ = some (.slice A is.length c) := by simp
  have k1 : (w.alloc (.cells #[.slice A is.length c, .slice B st.length d] 41)).cell? ⟨w.heap.size, 1, none⟩ = some (.slice B st.length d) := by simp
  have hct := counted_any A B c st.length d is _ hx0 hbig
  cases h4 : all4 is
  case false =>
    have HE : Hid (errI is st = 1) := errI_not (chkI_no (fun h => by rw [h4] at h; exact absurd h.1 (by decide)))
    rw [h4] at hct
    have ht : talV is = .agg #[.int .i64 0, .int .i64 0, .int .i64 0, .int .i64 0] := by unfold talV; rw [h4]; rfl
    rw [ht] at hct
    clear h4 ht
    go_enter Try.func22, Try.ntmps22
    go_wp2_with (go_at_call 66; refine hct.mono ?_; rintro e w1 ⟨rfl, hb1⟩)
    go_ret
    exact ⟨ret_int HE.out.symm, (below_then hb0 hb1).alloc (below_then hb0 hb1).size _⟩
  rw [h4] at hct
  have ht : talV is = .agg #[.int .i64 (cn is 0), .int .i64 (cn is 1), .int .i64 (cn is 2), .int .i64 (cn is 3)] := by unfold talV; rw [h4]; rfl
  rw [ht] at hct
  clear ht
  by_cases hl1 : is.length < 1
  · have HE : Hid (errI is st = 1) := errI_not (chkI_no (fun h => by omega))
    clear h4
    go_enter Try.func22, Try.ntmps22
    go_wp2_with (go_at_call 66; refine hct.mono ?_; rintro e w1 ⟨rfl, hb1⟩; have q0 := cell_below hb1 k0; have q1 := cell_below hb1 k1; have p0 := fun o => cell_alloc q0 o; have p1 := fun o => cell_alloc q1 o)
    go_ret
    exact ⟨ret_int HE.out.symm, (below_then hb0 hb1).alloc (below_then hb0 hb1).size _⟩
  by_cases hl2 : 64 < is.length
  · have HE : Hid (errI is st = 1) := errI_not (chkI_no (fun h => by omega))
    clear h4
    go_enter Try.func22, Try.ntmps22
    go_wp2_with (go_at_call 66; refine hct.mono ?_; rintro e w1 ⟨rfl, hb1⟩; have q0 := cell_below hb1 k0; have q1 := cell_below hb1 k1; have p0 := fun o => cell_alloc q0 o; have p1 := fun o => cell_alloc q1 o)
    go_ret
    exact ⟨ret_int HE.out.symm, (below_then hb0 hb1).alloc (below_then hb0 hb1).size _⟩
  have hl1' : 1 ≤ is.length := by omega
  have hl2' : is.length ≤ 64 := by omega
  have n0 := cn_le is 0
  have n1 := cn_le is 1
  have n2 := cn_le is 2
  have n3 := cn_le is 3
  have hft := fun W => fits_any (cn is 0) (cn is 1) (cn is 2) (cn is 3) W (by omega) (by omega) (by omega)
  have H4 := Lib.hid h4
  clear hl1 hl2 h4
  cases hf : fitN (cn is 0) (cn is 1) (cn is 2)
  case false =>
    have HE : Hid (errI is st = 1) := errI_not (chkI_no (fun h => by rw [hf] at h; exact absurd h.2.2.2.1 (by decide)))
    rw [hf] at hft
    clear hf
    go_enter Try.func22, Try.ntmps22
    go_wp2_with fail
    refine hct.mono ?_
    rintro e w1 ⟨rfl, hb1⟩
    have q0 := cell_below hb1 k0
    have q1 := cell_below hb1 k1
    have p0 := fun o => cell_alloc q0 o
    have p1 := fun o => cell_alloc q1 o
    go_wp2_with fail
    refine (hft _).mono ?_
    rintro e w2 ⟨rfl, hb2⟩
    go_wp2_with fail
    go_ret
    exact ⟨ret_int HE.out.symm, below_then ((below_then hb0 hb1).alloc (below_then hb0 hb1).size _) hb2⟩
  have HF := Lib.hid hf
  rw [hf] at hft
  clear hf
  by_cases hs : st.length = cn is 2 + cn is 3
  case neg =>
    have HE : Hid (errI is st = 1) := errI_not (chkI_no (fun h => hs h.2.2.2.2.1))
    have hsb : ((st.length : Int) != ((cn is 2 : Nat) : Int) + ((cn is 3 : Nat) : Int)) = true := by simp; omega
    clear hs
    go_enter Try.func22, Try.ntmps22
    go_wp2_with fail
    refine hct.mono ?_
    rintro e w1 ⟨rfl, hb1⟩
    have q0 := cell_below hb1 k0
    have q1 := cell_below hb1 k1
    have p0 := fun o => cell_alloc q0 o
    have p1 := fun o => cell_alloc q1 o
    go_wp2_with fail
    have b2 : (w1.alloc (.cells #[.int .i64 (cn is 0), .int .i64 (cn is 1), .int .i64 (cn is 2), .int .i64 (cn is 3)] 87)).cell? ⟨w1.heap.size, 2, none⟩ = some (.int .i64 (cn is 2)) := by simp
    have b3 : (w1.alloc (.cells #[.int .i64 (cn is 0), .int .i64 (cn is 1), .int .i64 (cn is 2), .int .i64 (cn is 3)] 87)).cell? ⟨w1.heap.size, 3, none⟩ = some (.int .i64 (cn is 3)) := by simp
    refine (hft _).mono ?_
    rintro e w2 ⟨rfl, hb2⟩
    have r0 := cell_below hb2 (p0 _)
    have r1 := cell_below hb2 (p1 _)
    have r2 := cell_below hb2 b2
    have r3 := cell_below hb2 b3
    go_wp2_with fail
    go_ret
    exact ⟨ret_int HE.out.symm, below_then ((below_then hb0 hb1).alloc (below_then hb0 hb1).size _) hb2⟩
  case pos =>
    have hsb : ((st.length : Int) != ((cn is 2 : Nat) : Int) + ((cn is 3 : Nat) : Int)) = false := by simp; omega
    have HSL := Lib.hid hs
    obtain ⟨i0, hi0, hz0, hz1, hz2⟩ := info_parts info4
    clear hs
    go_enter Try.func22, Try.ntmps22
    go_wp2_with fail
    refine hct.mono ?_
    rintro e w1 ⟨rfl, hb1⟩
    have q0 := cell_below hb1 k0
    have q1 := cell_below hb1 k1
    have p0 := fun o => cell_alloc q0 o
    have p1 := fun o => cell_alloc q1 o
    go_wp2_with fail
    have b2 : (w1.alloc (.cells #[.int .i64 (cn is 0), .int .i64 (cn is 1), .int .i64 (cn is 2), .int .i64 (cn is 3)] 87)).cell? ⟨w1.heap.size, 2, none⟩ = some (.int .i64 (cn is 2)) := by simp
    have b3 : (w1.alloc (.cells #[.int .i64 (cn is 0), .int .i64 (cn is 1), .int .i64 (cn is 2), .int .i64 (cn is 3)] 87)).cell? ⟨w1.heap.size, 3, none⟩ = some (.int .i64 (cn is 3)) := by simp
    refine (hft _).mono ?_
    rintro e w2 ⟨rfl, hb2⟩
    have r0 := cell_below hb2 (p0 _)
    have r1 := cell_below hb2 (p1 _)
    have r2 := cell_below hb2 b2
    have r3 := cell_below hb2 b3
    have B2 := below_then ((below_then hb0 hb1).alloc (below_then hb0 hb1).size (.cells #[.int .i64 (cn is 0), .int .i64 (cn is 1), .int .i64 (cn is 2), .int .i64 (cn is 3)] 87)) hb2
    clear p0 p1 q0 q1 b2 b3 k0 k1 hct hft hb0 hb1 hb2
    have HM2 := Lib.hid (Below.refl w2.heap.size w2)
    go_wp2_with (at_make; go_must (refine wpList_make_full w2 rfl _ _ 60 rfl w2.heap.size 4 i0 _ 1 Try.underlying60 hi0 hz0 hz1 _ _ _ _ is.length rfl rfl rfl rfl (by rw [hz2]; omega) (by unfold maxLen; omega) (Nat.le_refl _) ?_); intro w3 hown3 hg3; have hbm : Below w2.heap.size w2 w3 := HM2.out.grown hg3 (Nat.le_refl _) (by simp); have u0 := cell_below hbm r0; have u1 := cell_below hbm r1)
    have hown : OwB w2.heap.size w3 (.slice (some ⟨w2.heap.size, 0, none⟩) is.length is.length) (List.replicate is.length false) := by
      rw [madeB] at hown3
      show Own encB 1 4 _ _ _ _
      unfold Own
      rw [List.length_replicate]; exact hown3
    have HOW := Lib.hid hown
    have HBM := Lib.hid hbm
    clear hown hown3 hg3 r2 r3 hbm
    have hx2 := hx.below B2
    have hy2 := hy.below B2
    clear hx hy hx0 hy0
    go_loopg [7, 50] st.length (fun gg _ s50 wr => ∃ (kk : Nat) (ms : List Bool), kk ≤ st.length ∧ st.length - kk ≤ gg ∧ s50 = .int .i64 kk ∧ Aside (Below w2.heap.size w2 wr) ∧ Aside (OwB w2.heap.size wr (.slice (some ⟨w2.heap.size, 0, none⟩) is.length is.length) ms) ∧ Aside (Met is st kk ms) ∧ Aside (stOk is st kk))
    case atStart => exact ⟨0, _, Nat.zero_le _, by omega, rfl, HBM.out, HOW.out, Met.start _ _, fun j hj => absurd hj (Nat.not_lt_zero _)⟩
    case round =>
      clear hsb u0 u1
      obtain ⟨kk, ms, hkk, hg, rfl, BW, OW, ME, OK⟩ := hrel
      have s0 := cell_below BW.out r0
      have s1 := cell_below BW.out r1
      have BB := Lib.hid (below_then B2 BW.out)
      by_cases hlt : kk < st.length
      · obtain ⟨b1, o1, rfl, c0⟩ := (hy2.below BW.out).int_at kk hlt
        have z0 : (0 : Int) ≤ (kk : Int) := by omega
        have z1 : (kk : Int) < (st.length : Int) := by omega
        have HNO : ¬ (0 ≤ st[kk] ∧ st[kk] < (is.length : Int) ∧ 2 ≤ isAt is st[kk] ∧ ∀ i, i < kk → ∀ hi : i < st.length, st[i] ≠ st[kk]) → Hid (errI is st = 1) := by
          intro h
          refine errI_not (chkI_no (fun h2 => h (h2.2.2.2.2.2 kk hlt hlt)))
        have HST : (0 ≤ st[kk] ∧ st[kk] < (is.length : Int) ∧ 2 ≤ isAt is st[kk] ∧ ∀ i, i < kk → ∀ hi : i < st.length, st[i] ≠ st[kk]) → stOk is st (kk + 1) := by
          intro h j hj hjl
          by_cases e : j = kk
          · subst e; exact h
          · exact OK.out j (by omega) hjl
        have HN := Lib.hid HNO
        have HS := Lib.hid HST
        clear HNO HST
        by_cases hv0 : st[kk] < 0
        · have HE := HN.out (fun h => by omega)
          go_wp2_with fail
          go_ret
          exact ⟨ret_int HE.out.symm, BB.out⟩
        by_cases hv1 : (is.length : Int) ≤ st[kk]
        · have HE := HN.out (fun h => by omega)
          have hv2 : 0 ≤ st[kk] := by omega
          clear hv0
          go_wp2_with fail
          go_ret
          exact ⟨ret_int HE.out.symm, BB.out⟩
        obtain ⟨v, hv⟩ := Int.eq_ofNat_of_zero_le (show 0 ≤ st[kk] by omega)
        have hvn : v < is.length := by omega
        have hvm : v < ms.length := by rw [(ME.out).1]; exact hvn
        obtain ⟨hgb, m0, fz⟩ := OwB.cells OW.out v hvm
        have hmv := (ME.out).2 v hvm
        obtain ⟨b2, o2, rfl, e0⟩ := (hx2.below BW.out).int_at v hvn
        have f0 := fz v
        have z2 : (0 : Int) ≤ (v : Int) := by omega
        have z3 : (v : Int) < (is.length : Int) := by omega
        have HV := Lib.hid hv
        have HI := Lib.hid (isAt_nat hvn)
        have HMS := Lib.hid (ME.out.step hlt v hv)
        have HOS := Lib.hid (OwB.set OW.out v hvm true)
        rw [hv] at c0
        clear hv0 hv1 fz ME OW
        cases hq : ms[v]
        case true =>
          rw [hq] at m0 hmv
          have HE := HN.out (fun h => by
            have h3 := h.2.2.2
            rw [HV.out] at h3
            have hmem : (v : Int) ∈ st.take kk := by simpa using hmv.symm
            obtain ⟨j, hj, e⟩ := List.getElem_of_mem hmem
            rw [List.length_take] at hj
            rw [List.getElem_take] at e
            exact h3 j (by omega) (by omega) e)
          clear hmv hv hq
          go_wp2_with fail
          go_ret
          exact ⟨ret_int HE.out.symm, BB.out⟩
        case false =>
          rw [hq] at m0 hmv
          by_cases h2 : is[v] < 2
          · have HE := HN.out (fun h => by have h3 := h.2.2.1; rw [HV.out, HI.out] at h3; omega)
            clear hmv hv hq
            go_wp2_with fail
            go_ret
            exact ⟨ret_int HE.out.symm, BB.out⟩
          · have HOK := Lib.hid (HS.out ⟨by omega, by omega, by rw [HV.out, HI.out]; omega, fun j hj hjl e => by
              have hmem : (v : Int) ∉ st.take kk := by simpa using hmv.symm
              rw [HV.out] at e
              exact hmem (by rw [← e]; exact mem_take_at hj hjl)⟩)
            have h2' : 2 ≤ is[v] := by omega
            clear hmv hv hq h2
            go_wp2_with fail
            go_roundg (st.length - (kk + 1))
            case measure => omega
            case rel => exact ⟨kk + 1, _, by omega, by omega, by go_num, BW.out.setCell hgb _, HOS.out, HMS.out, HOK.out⟩
      · have hkx : kk = st.length := by omega
        have HE : Hid (errI is st = 0) := errI_yes (chkI_of H4.out hl1' hl2' HF.out HSL.out (by rw [← hkx]; exact OK.out))
        clear hkx
        go_wp2_with fail
        go_ret
        exact ⟨ret_int HE.out.symm, BB.out⟩
end Go.Proofs.Ytdalnaegjclacaa
