/- Layer 17: idle.Wake, New, Same. -/
import Derived.Test.YtdalnaegjclacaaJ
namespace Go.Proofs.Ytdalnaegjclacaa
open Go.RowKit

theorem two (w : World) (c1 c2 : Array Value) (t1 t2 : TypeId) {W : World} (hW : (w.alloc (.cells c1 t1)).alloc (.cells c2 t2) = W) :
    Below w.heap.size w W ∧ (∀ j v, c1[j]? = some v → W.cell? ⟨w.heap.size, j, none⟩ = some v) ∧ (∀ j v, c2[j]? = some v → W.cell? ⟨w.heap.size + 1, j, none⟩ = some v) ∧ (∀ j, W.frozen? ⟨w.heap.size + 1, j, none⟩ = false) ∧ W.heap.size = w.heap.size + 1 + 1 := by
  subst hW
  have b1 := below_new w (.cells c1 t1)
  have b2 := below_new (w.alloc (.cells c1 t1)) (.cells c2 t2)
  refine ⟨below_then b1 b2, fun j v h => cell_below b2 (new_cell w c1 t1 j v h), fun j v h => ?_, fun j => ?_, by simp⟩
  · have := new_cell (w.alloc (.cells c1 t1)) c2 t2 j v h
    rw [size_alloc] at this
    exact this
  · have := new_free (w.alloc (.cells c1 t1)) c2 t2 j
    rw [size_alloc] at this
    exact this
def wakeE (is st : List Int) : Int := if chkI is st = true then (if st = [] then 5 else 0) else 1
def wakeWho (is st : List Int) : Int := if wakeE is st = 0 then st.getLastD 0 else 0
def wakeIs (is st : List Int) : List Int := if wakeE is st = 0 then is.set (st.getLastD 0).toNat 0 else []
def wakeSt (is st : List Int) : List Int := if wakeE is st = 0 then st.filter (fun x => !(x == st.getLastD 0)) else []
theorem wake_no {is st : List Int} (h : wakeE is st ≠ 0) : wakeWho is st = 0 ∧ wakeIs is st = [] ∧ wakeSt is st = [] := by unfold wakeWho wakeIs wakeSt; rw [if_neg h, if_neg h, if_neg h]; exact ⟨rfl, rfl, rfl⟩
theorem last_at {st : List Int} {m : Nat} (h : st.length = m + 1) : st.getLastD 0 = st[m] := by
  rw [List.getLastD_eq_getLast?, List.getLast?_eq_getElem?, show st.length - 1 = m from by omega, List.getElem?_eq_getElem (by omega)]
  rfl
theorem wake_last {is st : List Int} (hc : chkI is st = true) {m : Nat} (h : st.length = m + 1) : ∃ k : Nat, st[m] = k ∧ ∃ hk : k < is.length, is[k] ∈ ([2, 3] : List Int) ∧ becE is st k [2, 3] = 0 := by
  obtain ⟨p4, _, _, _, _, pk⟩ := chkI_parts hc
  obtain ⟨a1, a2, a3, _⟩ := pk m (by omega) (by omega)
  obtain ⟨k, hk⟩ := Int.eq_ofNat_of_zero_le a1
  have hkn : k < is.length := by omega
  rw [hk, isAt_nat hkn] at a3
  have := all4_at p4 hkn
  have hm : is[k] ∈ ([2, 3] : List Int) := by
    have : is[k] = 2 ∨ is[k] = 3 := by omega
    rcases this with e | e <;> rw [e] <;> decide
  exact ⟨k, hk, hkn, hm, by rw [becE_in (by unfold inI; rw [hc]; simp; exact hkn) hkn, if_pos hm]⟩

set_option maxRecDepth 100000 in
set_option maxHeartbeats 8000000 in
theorem wake_any (A B : Option Addr) (c d : Nat) (is st : List Int) (w : World) (hx : Sl encI 1 w A is) (hy : Sl encI 1 w B st) (hbig : is.length ≤ 4611686018427387904) (hbig2 : st.length ≤ 9223372036854775807) :
    Calls Try.prog 25 #[.agg #[.slice A is.length c, .slice B st.length d]] w (GiV (.int .i64 (wakeWho is st)) w (wakeIs is st) (wakeSt is st) (wakeE is st)) := by
  obtain ⟨w0, hw0⟩ : ∃ W, (w.alloc (.cells #[.slice A is.length c, .slice B st.length d] 41)).alloc (.cells #[.slice none 0 0, .slice none 0 0] 41) = W := ⟨_, rfl⟩
  obtain ⟨hb0, h1, h2, kf, hs0⟩ := two w _ _ _ _ hw0
  have k0 : w0.cell? ⟨w.heap.size, 0, none⟩ = some (.slice A is.length c) := h1 0 _ rfl
  have k1 : w0.cell? ⟨w.heap.size, 1, none⟩ = some (.slice B st.length d) := h1 1 _ rfl
  have k3 : w0.cell? ⟨w.heap.size + 1, 0, none⟩ = some (.slice none 0 0) := h2 0 _ rfl
  have k4 : w0.cell? ⟨w.heap.size + 1, 1, none⟩ = some (.slice none 0 0) := h2 1 _ rfl
  have hck := check_any A B c d is st w0 (hx.below hb0) (hy.below hb0) hbig hbig2
  have HW0 := Lib.hid hw0
  have hg := (show w.heap.size + 1 < w0.heap.size from cell_lt k3)
  clear hw0 h1 h2 hs0
  cases hc : chkI is st
  case false =>
    have hE : wakeE is st = 1 := by unfold wakeE; rw [hc]; rfl
    obtain ⟨e0, e1, e2⟩ := wake_no (is := is) (st := st) (by rw [hE]; decide)
    rw [e0, e1, e2, hE]
    rw [errI_not hc] at hck
    clear hE e0 e1 e2 hc
    go_enter Try.func25, Try.ntmps25
    go_wp2_with fail
    rw [HW0.out]
    refine hck.mono ?_
    rintro e w1 ⟨rfl, hb1⟩
    have q3 := cell_below hb1 k3
    have q4 := cell_below hb1 k4
    have qf := free_below hb1 k3 kf
    go_wp2_with fail
    obtain ⟨z0, z1⟩ := set2 q3 q4 (.slice none 0 0) (.slice none 0 0)
    exact bodyPost_ret (v := .tuple #[.int .i64 0, noI, .int .i64 1]) (by simp [results, Try.results25, go_sem, z0, z1, noI]) rfl (giv_no rfl (((below_then hb0 hb1).setCell (Nat.le_succ _) _).setCell (Nat.le_succ _) _))
  case true =>
    rw [errI_yes hc] at hck
    obtain ⟨_, p1, p2, _, ps, _⟩ := chkI_parts hc
    have hst : st.length ≤ 128 := by have := cn_le is 2; have := cn_le is 3; omega
    clear ps
    by_cases hs : st = []
    case pos =>
      have hE : wakeE is st = 5 := by unfold wakeE; rw [if_pos hc, if_pos hs]
      obtain ⟨e0, e1, e2⟩ := wake_no (is := is) (st := st) (by rw [hE]; decide)
      rw [e0, e1, e2, hE]
      have hqz : ((st.length : Int) == 0) = true := by rw [hs]; rfl
      clear hE e0 e1 e2 hc hs
      go_enter Try.func25, Try.ntmps25
      go_wp2_with fail
      rw [HW0.out]
      refine hck.mono ?_
      rintro e w1 ⟨rfl, hb1⟩
      have q1 := cell_below hb1 k1
      have q3 := cell_below hb1 k3
      have q4 := cell_below hb1 k4
      have qf := free_below hb1 k3 kf
      go_wp2_with fail
      obtain ⟨z0, z1⟩ := set2 q3 q4 (.slice none 0 0) (.slice none 0 0)
      exact bodyPost_ret (v := .tuple #[.int .i64 0, noI, .int .i64 5]) (by simp [results, Try.results25, go_sem, z0, z1, noI]) rfl (giv_no rfl (((below_then hb0 hb1).setCell (Nat.le_succ _) _).setCell (Nat.le_succ _) _))
    case neg =>
      obtain ⟨m, hm⟩ : ∃ m, st.length = m + 1 := ⟨st.length - 1, by have := List.length_pos_iff.2 hs; omega⟩
      obtain ⟨k, hk, hkn, hmem, hbE⟩ := wake_last hc hm
      have hE : wakeE is st = 0 := by unfold wakeE; rw [if_pos hc, if_neg hs]
      have hL := last_at hm
      rw [hk] at hL
      have hwho : wakeWho is st = k := by unfold wakeWho; rw [if_pos hE, hL]
      have hwI : wakeIs is st = is.set k 0 := by unfold wakeIs; rw [if_pos hE, hL, Int.toNat_natCast]
      have hwS : wakeSt is st = becSt st k 0 := by unfold wakeSt; rw [if_pos hE, hL]; rfl
      have hbI : becIs is st k 0 [2, 3] = is.set k 0 := by unfold becIs; rw [if_pos hbE, Int.toNat_natCast]
      have hbS : becSS is st k 0 [2, 3] = becSt st k 0 := by unfold becSS; rw [if_pos hbE]
      rw [hwho, hwI, hwS, hE]
      have HBE := Lib.hid hbE
      have HBI := Lib.hid hbI
      have HBS := Lib.hid hbS
      have hmlt : m < st.length := by omega
      have hk2 : st[m]'hmlt = (k : Int) := hk
      have HK := Lib.hid hk2
      clear hk2
      have HLL := Lib.hid (show (is.set k 0).length = is.length from List.length_set)
      have HM := Lib.hid hm
      have hneq : ((st.length : Int) == 0) = false := by simp; omega
      have hmi : (0 : Int) ≤ (st.length : Int) - 1 := by omega
      have hmt : ((st.length : Int) - 1).toNat = m := by omega
      have hmb : (st.length : Int) - 1 < (st.length : Int) := by omega
      have HMT := Lib.hid hmt
      clear hE hL hwho hwI hwS hbI hbS hbE hc hs hmem hk hm hmt
      go_enter Try.func25, Try.ntmps25
      go_wp2_with fail
      rw [HW0.out]
      refine hck.mono ?_
      rintro e w1 ⟨rfl, hb1⟩
      have q0 := cell_below hb1 k0
      have q1 := cell_below hb1 k1
      have q3 := cell_below hb1 k3
      have q4 := cell_below hb1 k4
      have qf := free_below hb1 k3 kf
      obtain ⟨b2, o2, rfl, cl⟩ := ((hy.below hb0).below hb1).int_at m hmlt
      rw [HK.out] at cl
      have cl2 : w1.cell? ⟨b2, o2 + (st.length - 1), none⟩ = some (.int .i64 k) := by rw [HM.out]; exact cl
      have hfr : Sl encI 1 (w1.alloc (.cells #[.int .i64 2, .int .i64 3] 3)) (some ⟨w1.heap.size, 0, none⟩) ([2, 3] : List Int) := sl_lit encI_length w1 3 _ _ rfl
      have bl := below_new w1 (.cells #[.int .i64 2, .int .i64 3] 3)
      have BC := become_any A (some ⟨b2, o2, none⟩) (some ⟨w1.heap.size, 0, none⟩) c d 2 is st [2, 3] k 0 (w1.alloc (.cells #[.int .i64 2, .int .i64 3] 3)) (((hx.below hb0).below hb1).below bl) (((hy.below hb0).below hb1).below bl) hfr hbig hbig2 (by simp) (by decide)
      rw [HBI.out, HBS.out, HBE.out] at BC
      generalize becSt st k 0 = l1 at *
      generalize becF is st k 0 [2, 3] = ft at *
      go_wp2_with fail
      refine BC.mono ?_
      rintro e w3 ⟨A1, c1, B1, d1, rfl, oI, oS, ap, hb3⟩
      rw [HLL.out] at oI ⊢
      have hb13 := below_then bl hb3
      have y3 := cell_below hb13 q3
      have y4 := cell_below hb13 q4
      have yf := free_below hb13 q3 qf
      have HOI := Lib.hid oI
      have HOS := Lib.hid oS
      have HB := Lib.hid (below_then (below_then hb0 hb1) hb13)
      have hl3 : w0.heap.size ≤ w3.heap.size := Nat.le_trans hb1.size hb13.size
      have hlb : w0.heap.size ≤ (w1.alloc (.cells #[.int .i64 2, .int .i64 3] 3)).heap.size := Nat.le_trans hb1.size bl.size
      clear oI oS ap BC q0 q1 q3 q4 qf hb3 hb13 cl cl2 hck hmi hmb hneq
      go_upto_region 10 with fail
      have s0 := new_cell w3 #[.slice A1 is.length c1, .slice B1 l1.length d1] 41 0 (.slice A1 is.length c1) rfl
      have s1 := new_cell w3 #[.slice A1 is.length c1, .slice B1 l1.length d1] 41 1 (.slice B1 l1.length d1) rfl
      have s3 := cell_alloc y3 (.cells #[.slice A1 is.length c1, .slice B1 l1.length d1] 41)
      have s4 := cell_alloc y4 (.cells #[.slice A1 is.length c1, .slice B1 l1.length d1] 41)
      have sf := free_alloc y3 yf (.cells #[.slice A1 is.length c1, .slice B1 l1.length d1] 41)
      have hne : w3.heap.size ≠ w.heap.size + 1 := by omega
      have OI2 : OwI w0.heap.size (w3.alloc (.cells #[.slice A1 is.length c1, .slice B1 l1.length d1] 41)) (.slice A1 is.length c1) (is.set k 0) := Own.lower (Own.below HOI.out (below_new _ _)) hlb
      have OS2 : OwI w0.heap.size (w3.alloc (.cells #[.slice A1 is.length c1, .slice B1 l1.length d1] 41)) (.slice B1 l1.length d1) l1 := Own.lower (Own.below HOS.out (below_new _ _)) hlb
      have BB2 := HB.out.alloc HB.out.size (.cells #[.slice A1 is.length c1, .slice B1 l1.length d1] 41)
      clear y3 y4 yf
      generalize w3.alloc (.cells #[.slice A1 is.length c1, .slice B1 l1.length d1] 41) = w2 at *
      generalize w3.heap.size = g7 at *
      go_region_held3 (fun W => W.cell? ⟨g7, 0, none⟩ = some (.slice A1 is.length c1) ∧ W.cell? ⟨g7, 1, none⟩ = some (.slice B1 l1.length d1)) (first | exact ⟨s0, s1⟩ | exact ⟨set2_far s0 hne, set2_far s1 hne⟩) (fail)
      go_wp2_with fail
      obtain ⟨z0, z1⟩ := set2 s3 s4 (.slice A1 is.length c1) (.slice B1 l1.length d1)
      refine bodyPost_ret (v := .tuple #[.int .i64 k, .agg #[.slice A1 is.length c1, .slice B1 l1.length d1], .int .i64 0]) (by simp [results, Try.results25, go_sem, z0, z1]) rfl ?_
      have OI := Own.below (far_set OI2 (ne_rng (own_rng OI2) (.inl hg)) (.slice A1 is.length c1) (.slice B1 l1.length d1)) (Below.refl _ _).drew
      have OS := Own.below (far_set OS2 (ne_rng (own_rng OS2) (.inl hg)) (.slice A1 is.length c1) (.slice B1 l1.length d1)) (Below.refl _ _).drew
      exact ⟨A1, c1, B1, d1, by rw [HLL.out], by rw [HLL.out]; exact Own.lower OI hb0.size, Own.lower OS hb0.size, ((BB2.setCell (Nat.le_succ _) _).setCell (Nat.le_succ _) _).drew⟩

def newE (n : Int) : Int := if n < 1 ∨ 64 < n then 1 else 0
def newL (n : Int) : List Int := if n < 1 ∨ 64 < n then [] else List.replicate n.toNat 0
theorem madeI (n : Nat) : (madeCells (Value.int .i64 0).cells (n * 1)).toList = flat encI (List.replicate n 0) := by
  unfold flat encI madeCells
  apply List.ext_getElem
  · simp [List.length_flatMap]
  · intro j h1 h2
    simp [Value.cells, Nat.mod_one]
    simp at h1
    induction n generalizing j with
    | zero => omega
    | succ n ih =>
      cases j with
      | zero => simp [List.replicate_succ]
      | succ j => simp only [List.replicate_succ, List.flatMap_cons, List.cons_append, List.nil_append, List.getElem_cons_succ]; exact ih j (by simp; omega) (by omega)
set_option maxRecDepth 100000 in
set_option maxHeartbeats 2000000 in
theorem new_any (n : Int) (w : World) : Calls Try.prog 29 #[.int .i64 n] w (GiD w (newL n) [] (newE n)) := by
  have k3 := new_cell w #[.slice none 0 0, .slice none 0 0] 41 0 (.slice none 0 0) rfl
  have k4 := new_cell w #[.slice none 0 0, .slice none 0 0] 41 1 (.slice none 0 0) rfl
  have kf := new_free w #[.slice none 0 0, .slice none 0 0] 41
  have hb0 := below_new w (.cells #[.slice none 0 0, .slice none 0 0] 41)
  unfold newL newE
  by_cases h1 : n < 1
  · rw [if_pos (.inl h1), if_pos (.inl h1)]
    go_enter Try.func29, Try.ntmps29
    go_wp2_with fail
    exact bodyPost_ret (v := .tuple #[noI, .int .i64 1]) (by simp [results, Try.results29, go_sem, noI]) rfl (gid_no rfl hb0)
  by_cases h2 : 64 < n
  · rw [if_pos (.inr h2), if_pos (.inr h2)]
    go_enter Try.func29, Try.ntmps29
    go_wp2_with fail
    exact bodyPost_ret (v := .tuple #[noI, .int .i64 1]) (by simp [results, Try.results29, go_sem, noI]) rfl (gid_no rfl hb0)
  · rw [if_neg (by omega), if_neg (by omega)]
    obtain ⟨k, rfl⟩ := Int.eq_ofNat_of_zero_le (show 0 ≤ n by omega)
    obtain ⟨i0, hi0, hz0, hz1, hz2⟩ := info_parts info3
    rw [Int.toNat_natCast]
    have hk : k ≤ 64 := by omega
    have hz : (1 : Int) ≤ (k : Int) := by omega
    have hz3 : (k : Int) ≤ 64 := by omega
    have H0 := Lib.hid hb0
    clear h1 h2 hb0
    go_enter Try.func29, Try.ntmps29
    go_wp2_with (at_make; go_must (refine wpList_make_full (w.alloc (.cells #[.slice none 0 0, .slice none 0 0] 41)) rfl _ _ 39 rfl (w.heap.size + 1) 3 i0 _ 1 Try.underlying39 hi0 hz0 hz1 _ _ _ _ k rfl rfl rfl rfl (by rw [hz2]; omega) (by unfold maxLen; omega) (by rw [size_alloc]; omega) ?_); intro w3 hown3 hg3; have hbm : Below (w.alloc (.cells #[.slice none 0 0, .slice none 0 0] 41)).heap.size (w.alloc (.cells #[.slice none 0 0, .slice none 0 0] 41)) w3 := (Below.refl _ _).grown hg3 (Nat.le_refl _) (by simp); have u0 := cell_below hbm k3; have u1 := cell_below hbm k4; have uf := free_below hbm k3 kf; have HBM := Lib.hid (below_then H0.out hbm); have HO := Lib.hid hown3; clear hown3 hg3 hbm)
    rw [size_alloc] at *
    have hown : OwI (w.heap.size + 1) w3 (.slice (some ⟨w.heap.size + 1, 0, none⟩) k k) (List.replicate k 0) := by
      have := HO.out
      rw [madeI] at this
      show Own encI 1 3 _ _ _ _
      unfold Own
      rw [List.length_replicate]; exact this
    obtain ⟨z0, z1⟩ := set2 u0 u1 (.slice (some ⟨w.heap.size + 1, 0, none⟩) k k) (.slice none 0 0)
    refine bodyPost_ret (v := .tuple #[.agg #[.slice (some ⟨w.heap.size + 1, 0, none⟩) k k, .slice none 0 0], .int .i64 0]) (by simp [results, Try.results29, go_sem, z0, z1]) rfl ?_
    have OI := far_set hown (ne_rng (own_rng hown) (.inl (Nat.lt_succ_self _))) (.slice (some ⟨w.heap.size + 1, 0, none⟩) k k) (.slice none 0 0)
    exact ⟨some ⟨w.heap.size + 1, 0, none⟩, k, none, 0, by rw [List.length_replicate]; rfl, by rw [List.length_replicate]; exact Own.lower OI (Nat.le_succ _), World.ownsRow_nil _ _ 3 1, (HBM.out.setCell (Nat.le_refl _) _).setCell (Nat.le_refl _) _⟩

set_option maxHeartbeats 4000000 in
theorem same_any (A B A' B' : Option Addr) (c d c' d' : Nat) (is st is' st' : List Int) (w : World) (hx : Sl encI 1 w A is) (hy : Sl encI 1 w B st) (hx' : Sl encI 1 w A' is') (hy' : Sl encI 1 w B' st') (hbig : is.length ≤ 9223372036854775807) (hbig2 : st.length ≤ 9223372036854775807) :
    Calls Try.prog 26 #[.agg #[.slice A is.length c, .slice B st.length d], .agg #[.slice A' is'.length c', .slice B' st'.length d']] w fun e w' => e = .returned (.bool (decide (is = is' ∧ st = st'))) ∧ Below w.heap.size w w' := by
  obtain ⟨w0, hw0⟩ : ∃ W, (w.alloc (.cells #[.slice A is.length c, .slice B st.length d] 41)).alloc (.cells #[.slice A' is'.length c', .slice B' st'.length d'] 41) = W := ⟨_, rfl⟩
  obtain ⟨hb0, h1, h2, _, _⟩ := two w _ _ _ _ hw0
  have k0 : w0.cell? ⟨w.heap.size, 0, none⟩ = some (.slice A is.length c) := h1 0 _ rfl
  have k1 : w0.cell? ⟨w.heap.size, 1, none⟩ = some (.slice B st.length d) := h1 1 _ rfl
  have k3 : w0.cell? ⟨w.heap.size + 1, 0, none⟩ = some (.slice A' is'.length c') := h2 0 _ rfl
  have k4 : w0.cell? ⟨w.heap.size + 1, 1, none⟩ = some (.slice B' st'.length d') := h2 1 _ rfl
  have e1 := equal_int A A' c c' is is' w0 (hx.below hb0) (hx'.below hb0) hbig
  have e2 := fun W h h' => equal_int B B' d d' st st' W h h' hbig2
  have hd : Hid (decide (is = is' ∧ st = st') = (decide (is = is') && decide (st = st'))) := by show _ = _; rw [Bool.decide_and]
  have HW0 := Lib.hid hw0
  clear hw0 h1 h2
  by_cases h : is = is'
  · rw [show decide (is = is') = true from by simpa using h] at e1 hd
    clear h
    generalize decide (st = st') = r2 at *
    go_enter Try.func26, Try.ntmps26
    go_wp2_with fail
    rw [HW0.out]
    refine e1.mono ?_
    rintro e w1 ⟨rfl, nq, rfl⟩
    have hbq := below_drewN hb0 nq
    have q1 : (w0.drewN nq).cell? ⟨w.heap.size, 1, none⟩ = some (.slice B st.length d) := k1
    have q4 : (w0.drewN nq).cell? ⟨w.heap.size + 1, 1, none⟩ = some (.slice B' st'.length d') := k4
    have hy1 := hy.below hbq
    have hy2 := hy'.below hbq
    generalize w0.drewN nq = w2 at *
    go_wp2_with fail
    refine (e2 w2 hy1 hy2).mono ?_
    rintro e w3 ⟨rfl, nr, rfl⟩
    go_wp2_with fail
    go_ret
    exact ⟨ret_bool (by rw [hd.out]; simp), below_drewN hbq nr⟩
  · rw [show decide (is = is') = false from by simpa using h] at e1 hd
    clear h
    go_enter Try.func26, Try.ntmps26
    go_wp2_with fail
    rw [HW0.out]
    refine e1.mono ?_
    rintro e w1 ⟨rfl, nq, rfl⟩
    go_wp2_with fail
    go_ret
    exact ⟨ret_bool (by rw [hd.out]; simp), below_drewN hb0 nq⟩
end Go.Proofs.Ytdalnaegjclacaa
