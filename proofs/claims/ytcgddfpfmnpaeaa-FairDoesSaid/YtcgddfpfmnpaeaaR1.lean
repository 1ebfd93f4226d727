/- Layer 15: the reference's in, Check, Find, With. -/
import Derived.Test.YtcgddfpfmnpaeaaO
import Derived.Test.YtcgddfpfmnpaeaaAp
namespace Go.Proofs.Ytcgddfpfmnpaeaa
open Go.RowKit

theorem in_any (n a b : Int) (w : World) : Calls Try.prog 37 #[.int .i64 n, .int .i64 a, .int .i64 b] w fun e w' => e = .returned (.bool (wi n a b)) ∧ w = w' := by
  by_cases h : a ≤ n
  · go_enter Try.func37, Try.ntmps37
    go_wp2
    go_ret
    exact ⟨ret_bool (wi_yes h).symm, rfl⟩
  · go_enter Try.func37, Try.ntmps37
    go_wp2
    go_ret
    exact ⟨ret_bool (wi_no1 h).symm, rfl⟩

theorem ok_ways (x : Ten) : x.ok = true ∧ wi x.w 1 16 = true ∧ wi x.q 0 256 = true ∧ 0 ≤ x.l ∧ x.l ≤ x.q ∧ wi x.t 0 1152921504606846976 = true ∧ wi x.r 0 1099511627776 = true ∨
    x.ok = false ∧ wi x.w 1 16 = false ∨
    x.ok = false ∧ wi x.w 1 16 = true ∧ wi x.q 0 256 = false ∨
    x.ok = false ∧ wi x.w 1 16 = true ∧ wi x.q 0 256 = true ∧ x.l < 0 ∨
    x.ok = false ∧ wi x.w 1 16 = true ∧ wi x.q 0 256 = true ∧ 0 ≤ x.l ∧ x.q < x.l ∨
    x.ok = false ∧ wi x.w 1 16 = true ∧ wi x.q 0 256 = true ∧ 0 ≤ x.l ∧ x.l ≤ x.q ∧ wi x.t 0 1152921504606846976 = false ∨
    x.ok = false ∧ wi x.w 1 16 = true ∧ wi x.q 0 256 = true ∧ 0 ≤ x.l ∧ x.l ≤ x.q ∧ wi x.t 0 1152921504606846976 = true ∧ wi x.r 0 1099511627776 = false := by
  unfold Ten.ok maxTag maxRan
  cases wi x.w 1 16
  · simp
  cases wi x.q 0 256
  · simp
  by_cases h1 : 0 ≤ x.l
  · by_cases h2 : x.l ≤ x.q
    · have : wi x.l 0 x.q = true := by unfold wi; simp [h1, h2]
      rw [this]
      cases wi x.t 0 1152921504606846976
      · simp; omega
      cases wi x.r 0 1099511627776
      · simp; omega
      · simp; omega
    · have : wi x.l 0 x.q = false := by unfold wi; simp; omega
      rw [this]; simp; omega
  · have : wi x.l 0 x.q = false := by unfold wi; simp; omega
    rw [this]; simp; omega

theorem chk_bad_at {xs : List Ten} {k : Nat} (hk : k < xs.length) (h : xs[k].ok = false) : chk xs = false := by
  cases hc : chk xs
  · rfl
  · rw [find_ten hc hk] at h; cases h
theorem chk_all {xs : List Ten} (h1 : 1 ≤ xs.length) (h2 : xs.length ≤ 16) (h : ∀ j, ∀ hj : j < xs.length, xs[j].ok = true) : chk xs = true := by
  unfold chk
  rw [Bool.and_eq_true, decide_eq_true_eq, List.all_eq_true]
  refine ⟨⟨h1, h2⟩, fun x hx => ?_⟩
  obtain ⟨j, hj, rfl⟩ := List.getElem_of_mem hx
  exact h j hj

set_option maxHeartbeats 4000000 in
theorem refCheck_any (A : Option Addr) (c : Nat) (xs : List Ten) (w : World) (hx : Sl Ten.enc 5 w A xs) :
    Calls Try.prog 32 #[.slice A xs.length c] w fun e w' => e = .returned (.int .i64 (err01 (chk xs))) ∧ Below w.heap.size w w' := by
  by_cases h1 : xs.length < 1
  · have HE : Hid (err01 (chk xs) = 1) := by
      show _ = _; have : chk xs = false := by unfold chk; rw [Bool.and_eq_false_iff]; left; simp; omega
      rw [this]; rfl
    go_enter Try.func32, Try.ntmps32
    go_wp2_with fail
    go_ret
    exact ⟨ret_int HE.out.symm, Below.refl _ _⟩
  by_cases h2 : 16 < xs.length
  · have HE : Hid (err01 (chk xs) = 1) := by
      show _ = _; have : chk xs = false := by unfold chk; rw [Bool.and_eq_false_iff]; left; simp; omega
      rw [this]; rfl
    go_enter Try.func32, Try.ntmps32
    go_wp2_with fail
    go_ret
    exact ⟨ret_int HE.out.symm, Below.refl _ _⟩
  have h1' : 1 ≤ xs.length := by omega
  have h2' : xs.length ≤ 16 := by omega
  clear h1 h2
  go_enter Try.func32, Try.ntmps32
  go_wp2_with fail
  go_loopg [4, 15] xs.length (fun gg _ s15 wr => ∃ kk : Nat, kk ≤ xs.length ∧ xs.length - kk ≤ gg ∧ s15 = .int .i64 kk ∧ Aside (Below w.heap.size w wr) ∧ Aside (∀ j, j < kk → ∀ hj : j < xs.length, xs[j].ok = true))
  case atStart => exact ⟨0, Nat.zero_le _, by omega, rfl, Below.refl _ _, fun j hj => absurd hj (Nat.not_lt_zero _)⟩
  case round =>
    obtain ⟨kk, hkk, hgk, rfl, BW, OK⟩ := hrel
    by_cases hlt : kk < xs.length
    · obtain ⟨b1, o1, rfl, c0, c1, c2, c3, c4⟩ := (hx.below BW.out).ten_at kk hlt
      have z0 : (0 : Int) ≤ (kk : Int) := by omega
      have z1 : (kk : Int) < (xs.length : Int) := by omega
      have HB := Lib.hid (@chk_bad_at xs kk hlt)
      clear hx
      have hw := ok_ways xs[kk]
      rcases hw with ⟨ho, d1, d2, d3, d4, d5, d6⟩ | ⟨ho, d1⟩ | ⟨ho, d1, d2⟩ | ⟨ho, d1, d2, d3⟩ | ⟨ho, d1, d2, d3, d4⟩ | ⟨ho, d1, d2, d3, d4, d5⟩ | ⟨ho, d1, d2, d3, d4, d5, d6⟩
      case inl =>
        have HO := Lib.hid ho
        clear ho
        go_wp2_with (go_at_call 37; refine (in_any _ _ _ _).mono ?_; rintro e w' ⟨rfl, rfl⟩)
        go_roundg (xs.length - (kk + 1))
        case measure => omega
        case rel =>
          refine ⟨kk + 1, by omega, by omega, by go_num, BW.out.alloc BW.out.size _, (show Aside _ from fun j hj hl => ?_)⟩
          by_cases e : j = kk
          · subst e; exact HO.out
          · exact OK.out j (by omega) hl
      all_goals
        have HO := Lib.hid (HB.out ho)
        clear ho
        go_wp2_with (go_at_call 37; refine (in_any _ _ _ _).mono ?_; rintro e w' ⟨rfl, rfl⟩)
        go_ret
        exact ⟨ret_int (by rw [HO.out]; rfl), BW.out.alloc BW.out.size _⟩
    · have HE := Lib.hid (chk_all h1' h2' (fun j hj => OK.out j (by omega) hj))
      go_wp2_with fail
      go_ret
      exact ⟨ret_int (by rw [HE.out]; rfl), BW.out⟩
theorem refFind_any (A : Option Addr) (c : Nat) (xs : List Ten) (i : Int) (w : World) (hx : Sl Ten.enc 5 w A xs) :
    Calls Try.prog 30 #[.slice A xs.length c, .int .i64 i] w fun e w' => e = .returned (.int .i64 (findE xs i)) ∧ Below w.heap.size w w' := by
  have hck := refCheck_any A c xs w hx
  rcases findE_cases xs i with ⟨hc, he⟩ | ⟨hc, hi, he⟩ | ⟨hc, h0, h1, he⟩
  · rw [hc] at hck
    rw [he]; clear hc he
    go_enter Try.func30, Try.ntmps30
    go_wp2_with (go_at_call 32; refine hck.mono ?_; rintro e w1 ⟨rfl, hb1⟩)
    go_ret
    exact ⟨rfl, hb1⟩
  · rw [hc] at hck
    rw [he]; clear hc he
    by_cases hi0 : i < 0
    · clear hi
      go_enter Try.func30, Try.ntmps30
      go_wp2_with (go_at_call 32; refine hck.mono ?_; rintro e w1 ⟨rfl, hb1⟩)
      go_ret
      exact ⟨rfl, hb1⟩
    · have hi1 : (xs.length : Int) ≤ i := by omega
      clear hi
      go_enter Try.func30, Try.ntmps30
      go_wp2_with (go_at_call 32; refine hck.mono ?_; rintro e w1 ⟨rfl, hb1⟩)
      go_ret
      exact ⟨rfl, hb1⟩
  · rw [hc] at hck
    rw [he]; clear hc he
    go_enter Try.func30, Try.ntmps30
    go_wp2_with (go_at_call 32; refine hck.mono ?_; rintro e w1 ⟨rfl, hb1⟩)
    go_ret
    exact ⟨rfl, hb1⟩

set_option maxHeartbeats 2000000 in
theorem refWith_any (A : Option Addr) (c : Nat) (xs : List Ten) (i : Nat) (x : Ten) (w : World) (hx : Sl Ten.enc 5 w A xs) (hi : i < xs.length) (hn : xs.length ≤ 16) :
    Calls Try.prog 31 #[.slice A xs.length c, .int .i64 i, x.val] w fun e w' => ∃ g d, e = .returned (.slice (some ⟨g, 0, none⟩) xs.length d) ∧ Own Ten.enc 5 34 w.heap.size w' (.slice (some ⟨g, 0, none⟩) (xs.set i x).length d) (xs.set i x) ∧ Below w.heap.size w w' := by
  obtain ⟨i0, hi0, hz0, hz1, hz2⟩ := info_parts info34
  unfold Ten.val
  have hb0 : Below w.heap.size w (w.alloc (.cells #[.int .i64 x.w, .int .i64 x.q, .int .i64 x.l, .int .i64 x.t, .int .i64 x.r] 34)) := (Below.refl _ _).alloc (Nat.le_refl _) _
  have k0 : (w.alloc (.cells #[.int .i64 x.w, .int .i64 x.q, .int .i64 x.l, .int .i64 x.t, .int .i64 x.r] 34)).cell? ⟨w.heap.size, 0, none⟩ = some (.int .i64 x.w) := by simp
  have k1 : (w.alloc (.cells #[.int .i64 x.w, .int .i64 x.q, .int .i64 x.l, .int .i64 x.t, .int .i64 x.r] 34)).cell? ⟨w.heap.size, 1, none⟩ = some (.int .i64 x.q) := by simp
  have k2 : (w.alloc (.cells #[.int .i64 x.w, .int .i64 x.q, .int .i64 x.l, .int .i64 x.t, .int .i64 x.r] 34)).cell? ⟨w.heap.size, 2, none⟩ = some (.int .i64 x.l) := by simp
  have k3 : (w.alloc (.cells #[.int .i64 x.w, .int .i64 x.q, .int .i64 x.l, .int .i64 x.t, .int .i64 x.r] 34)).cell? ⟨w.heap.size, 3, none⟩ = some (.int .i64 x.t) := by simp
  have k4 : (w.alloc (.cells #[.int .i64 x.w, .int .i64 x.q, .int .i64 x.l, .int .i64 x.t, .int .i64 x.r] 34)).cell? ⟨w.heap.size, 4, none⟩ = some (.int .i64 x.r) := by simp
  have hx0 := hx.below hb0
  have z0 : (i : Int) < (xs.length : Int) := by omega
  have z1 : (0 : Int) ≤ (i : Int) := by omega
  go_enter Try.func31, Try.ntmps31
  go_wp2_with (at_builtin; go_must (refine wpList_append_sl rfl (.const (.slice none 0 0)) (.tmp 8) 23 rfl w.heap.size 34 i0 _ 40 Try.underlying23 hi0 hz0 hz1 hz2 rfl (by decide) Ten.enc_length Ten.enc_one (.slice none 0 0) [] rfl (Own.none_ _ _) A c xs rfl hx0 (by simp only [List.length_nil]; unfold maxLen; omega) (by simp only [List.length_nil]; omega) (by simp) ?_); intro v' w1 hown1 hg1; have hbw : Below (w.alloc (.cells #[.int .i64 x.w, .int .i64 x.q, .int .i64 x.l, .int .i64 x.t, .int .i64 x.r] 34)).heap.size (w.alloc (.cells #[.int .i64 x.w, .int .i64 x.q, .int .i64 x.l, .int .i64 x.t, .int .i64 x.r] 34)) w1 := (Below.refl _ _).grown hg1 (Nat.le_refl _) (fun k hk => by simp [Value.ownBlock] at hk); rw [List.nil_append] at hown1; have hw1 := below_then hb0 hbw; have q0 := cell_below hbw k0; have q1 := cell_below hbw k1; have q2 := cell_below hbw k2; have q3 := cell_below hbw k3; have q4 := cell_below hbw k4; obtain ⟨g, d, rfl, hg2, hg3⟩ := own_form hown1 (by omega); obtain ⟨c0, c1, c2, c3, c4, hfz⟩ := own_cells hown1 i hi; have f0 := hfz (i * 5); have f1 := hfz (i * 5 + 1); have f2 := hfz (i * 5 + 2); have f3 := hfz (i * 5 + 3); have f4 := hfz (i * 5 + 4); have HO := Lib.hid hown1; clear hown1 hg1 k0 k1 k2 k3 k4 hbw hb0)
  go_ret
  exact ⟨g, d, rfl, by simpa using own_setAll HO.out i hi x, ((((hw1.setCell hg2 _).setCell hg2 _).setCell hg2 _).setCell hg2 _).setCell hg2 _⟩
end Go.Proofs.Ytcgddfpfmnpaeaa
