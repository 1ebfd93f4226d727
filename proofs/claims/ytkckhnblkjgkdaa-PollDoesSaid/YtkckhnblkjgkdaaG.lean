/- Layer 9: ravellaw09.live; what the results are. -/
import Derived.Test.YtkckhnblkjgkdaaF
import Derived.Test.YtkckhnblkjgkdaaRq
namespace Go.Proofs.Ytkckhnblkjgkdaa
open Go.RowKit

theorem own_one {w : World} {base n : Nat} {A : Option Addr} {c : Nat} {r : List Fd} (h : Own Fd.enc 3 35 base w (.slice A n c) r) (h0 : 0 < r.length) (hn : r.length = n) : ∃ g, A = some ⟨g, 0, none⟩ ∧ Sl Fd.enc 3 w (some ⟨g, 0, none⟩) r := by
  subst hn
  obtain ⟨g, cap, hv, _⟩ := own_form h h0
  simp only [Value.slice.injEq, true_and] at hv
  obtain ⟨A', c', hv', hs, _⟩ := h.sl Fd.enc_length
  simp only [Value.slice.injEq] at hv'
  obtain ⟨rfl, _⟩ := hv
  refine ⟨g, rfl, ?_⟩
  rw [hv'.1]; exact hs
def One (w : World) (x : Fd) (er : Int) (e : Ending) (w' : World) : Prop :=
  ∃ g c, e = .returned (.tuple #[.slice (some ⟨g, 0, none⟩) 1 c, .int .i64 er]) ∧ Sl Fd.enc 3 w' (some ⟨g, 0, none⟩) [x] ∧ Below w.heap.size w w'
def OneV (v : Value) (w : World) (x : Fd) (er : Int) (e : Ending) (w' : World) : Prop :=
  ∃ g c, e = .returned (.tuple #[v, .slice (some ⟨g, 0, none⟩) 1 c, .int .i64 er]) ∧ Sl Fd.enc 3 w' (some ⟨g, 0, none⟩) [x] ∧ Below w.heap.size w w'
theorem Gives.one {w w' : World} {x : Fd} {er : Int} {e : Ending} (h : Gives w [x] er e w') : One w x er e w' := by
  obtain ⟨A, c, he, ho, hb⟩ := h
  obtain ⟨g, rfl, hs⟩ := own_one ho (by simp) rfl
  exact ⟨g, c, he, hs, hb⟩
theorem GivesV.one {v : Value} {w w' : World} {x : Fd} {er : Int} {e : Ending} (h : GivesV v w [x] er e w') : OneV v w x er e w' := by
  obtain ⟨A, c, he, ho, hb⟩ := h
  obtain ⟨g, rfl, hs⟩ := own_one ho (by simp) rfl
  exact ⟨g, c, he, hs, hb⟩
theorem one_new (w : World) : Calls Try.prog 15 #[.int .i64 1] w (One w ⟨false, false, -1⟩ 0) := (new_any 1 w).mono fun _ _ h => Gives.one h
theorem one_open (g c : Nat) (w : World) (hx : Sl Fd.enc 3 w (some ⟨g, 0, none⟩) [⟨false, false, -1⟩]) : Calls Try.prog 10 #[.slice (some ⟨g, 0, none⟩) 1 c, .int .i64 0] w (One w ⟨true, false, -1⟩ 0) :=
  (open_slice g 0 c _ _ 0 w (fun _ => rfl) hx (by decide)).mono fun _ _ h => Gives.one h
theorem one_fire1 (g c : Nat) (w : World) (hx : Sl Fd.enc 3 w (some ⟨g, 0, none⟩) [⟨true, false, -1⟩]) : Calls Try.prog 13 #[.slice (some ⟨g, 0, none⟩) 1 c, .int .i64 0] w (OneV (.int .i64 (-1)) w ⟨true, true, -1⟩ 0) :=
  (fire_slice g 0 c _ _ 0 w (fun _ => rfl) hx (by decide)).mono fun _ _ h => GivesV.one h
theorem one_fire2 (g c : Nat) (w : World) (hx : Sl Fd.enc 3 w (some ⟨g, 0, none⟩) [⟨true, true, -1⟩]) : Calls Try.prog 13 #[.slice (some ⟨g, 0, none⟩) 1 c, .int .i64 0] w (OneV (.int .i64 (-1)) w ⟨true, true, -1⟩ 0) :=
  (fire_slice g 0 c _ _ 0 w (fun _ => rfl) hx (by decide)).mono fun _ _ h => GivesV.one h
theorem one_arm1 (g c : Nat) (w : World) (hx : Sl Fd.enc 3 w (some ⟨g, 0, none⟩) [⟨true, true, -1⟩]) : Calls Try.prog 12 #[.slice (some ⟨g, 0, none⟩) 1 c, .int .i64 0, .int .i64 5] w (OneV (.bool true) w ⟨true, false, -1⟩ 0) :=
  (arm_slice g 0 c _ _ 0 5 w (fun _ => rfl) hx (by decide)).mono fun _ _ h => GivesV.one h
theorem one_arm2 (g c : Nat) (w : World) (hx : Sl Fd.enc 3 w (some ⟨g, 0, none⟩) [⟨true, false, -1⟩]) : Calls Try.prog 12 #[.slice (some ⟨g, 0, none⟩) 1 c, .int .i64 0, .int .i64 6] w (OneV (.bool false) w ⟨true, false, 6⟩ 0) :=
  (arm_slice g 0 c _ _ 0 6 w (fun _ => rfl) hx (by decide)).mono fun _ _ h => GivesV.one h

set_option maxHeartbeats 2000000 in
theorem live_any (w : World) : Calls Try.prog 9 #[] w fun e w' => e = .returned (.bool true) ∧ Below w.heap.size w w' := by
  go_enter Try.func9, Try.ntmps9
  go_wp2_with fail
  refine (one_new w).mono ?_
  rintro e w1 ⟨g1, c1, rfl, s1, hb1⟩
  go_wp2_with fail
  refine (one_open g1 c1 w1 s1).mono ?_
  rintro e w2 ⟨g2, c2, rfl, s2, hb2⟩
  go_wp2_with fail
  refine (one_fire1 g2 c2 w2 s2).mono ?_
  rintro e w3 ⟨g3, c3, rfl, s3, hb3⟩
  go_wp2_with fail
  refine (one_fire2 g3 c3 w3 s3).mono ?_
  rintro e w4 ⟨g4, c4, rfl, s4, hb4⟩
  go_wp2_with fail
  refine (one_arm1 g4 c4 w4 s4).mono ?_
  rintro e w5 ⟨g5, c5, rfl, s5, hb5⟩
  go_wp2_with fail
  refine (one_arm2 g5 c5 w5 s5).mono ?_
  rintro e w6 ⟨g6, c6, rfl, s6, hb6⟩
  go_wp2_with fail
  go_ret
  exact ⟨rfl, below_then (below_then (below_then (below_then (below_then hb1 hb2) hb3) hb4) hb5) hb6⟩

/-! ### what the results are -/
theorem fine_set {xs : List Fd} {n : Nat} {x : Fd} (h : fine xs xs.length) (hx : x.odd = false) (hw : x.w ≠ -1 → xs.any (whoP x.w) = false) : fine (xs.set n x) (xs.set n x).length := by
  intro j hj hjl
  have hjx : j < xs.length := by simpa using hjl
  obtain ⟨h1, h2⟩ := h j hjx hjx
  have hno : ∀ k, (hk : k < xs.length) → x.w ≠ -1 → xs[k].w ≠ x.w := by
    intro k hk hne he
    have := hw hne
    rw [List.any_eq_false] at this
    exact this xs[k] (List.getElem_mem hk) (by unfold whoP; simpa using he)
  refine ⟨?_, fun i hi hil hne => ?_⟩
  · rw [List.getElem_set]; split
    · exact hx
    · exact h1
  · rw [List.getElem_set] at hne ⊢
    rw [List.getElem_set]
    have hix : i < xs.length := by simpa using hil
    by_cases e1 : n = j
    · subst e1
      rw [if_pos rfl] at hne
      simp only [if_true]
      rw [if_neg (by omega)]
      exact hno i hix hne
    · rw [if_neg e1] at hne ⊢
      by_cases e2 : n = i
      · subst e2
        rw [if_pos rfl]
        intro he
        rw [← he] at hne
        exact hno j hjx hne he.symm
      · rw [if_neg e2]
        exact h2 i hi hix hne
theorem chk_set {xs : List Fd} {n : Nat} {x : Fd} (h : chk xs = true) (hx : x.odd = false) (hw : x.w ≠ -1 → xs.any (whoP x.w) = false) : chk (xs.set n x) = true := by
  unfold chk at *
  rw [Bool.and_eq_true, decide_eq_true_eq, decide_eq_true_eq] at *
  exact ⟨fine_set h.1 hx hw, by rw [List.length_set]; exact h.2⟩
/-- What is asked of a result. -/
def Good (xs : List Fd) (i : Int) (L : List Fd) (er : Int) : Prop :=
  (er ≠ 0 ∧ L = []) ∨ (er = 0 ∧ L.length = xs.length ∧ chk L = true ∧ ∀ k, (h : k < xs.length) → (h' : k < L.length) → (k : Int) ≠ i → L[k] = xs[k])
theorem good_set {xs : List Fd} {n : Nat} {x : Fd} (h : chk xs = true) (hx : x.odd = false) (hw : x.w ≠ -1 → xs.any (whoP x.w) = false) : Good xs n (xs.set n x) 0 := by
  refine .inr ⟨rfl, List.length_set, chk_set h hx hw, fun k h1 h2 hne => ?_⟩
  rw [List.getElem_set_ne (by omega)]
theorem open_good (xs : List Fd) (i : Int) : Good xs i (openL xs i) (openE xs i) := by
  unfold openL
  rcases need_cases xs i with ⟨_, _, h2⟩ | ⟨n, rfl, hn, hc, _, _, _, h2⟩ | ⟨n, rfl, hn, hc, _, _, _, h2⟩
  · rw [h2]; exact .inl ⟨by decide, rfl⟩
  · rw [h2, if_pos rfl, Int.toNat_natCast]; exact good_set hc rfl (fun h => absurd rfl h)
  · rw [h2]; exact .inl ⟨by decide, rfl⟩
theorem shut_good (xs : List Fd) (i : Int) : Good xs i (shutL xs i) (needE xs i) := by
  unfold shutL
  rcases need_cases xs i with ⟨_, h2, _⟩ | ⟨n, rfl, hn, hc, _, _, h2, _⟩ | ⟨n, rfl, hn, hc, _, _, h2, _⟩
  · rw [h2]; exact .inl ⟨by decide, rfl⟩
  · rw [h2]; exact .inl ⟨by decide, rfl⟩
  · rw [h2, if_pos rfl, Int.toNat_natCast]; exact good_set hc rfl (fun h => absurd rfl h)
theorem fire_good (xs : List Fd) (i : Int) : Good xs i (fireL xs i) (needE xs i) := by
  unfold fireL
  rcases need_cases xs i with ⟨_, h2, _⟩ | ⟨n, rfl, hn, hc, _, _, h2, _⟩ | ⟨n, rfl, hn, hc, _, _, h2, _⟩
  · rw [h2]; exact .inl ⟨by decide, rfl⟩
  · rw [h2]; exact .inl ⟨by decide, rfl⟩
  · rw [h2, if_pos rfl, Int.toNat_natCast]; exact good_set hc (by simp [Fd.odd]) (fun h => absurd rfl h)
theorem arm_good_ (xs : List Fd) (i id : Int) : Good xs i (armL xs i id) (armE xs i id) := by
  by_cases h0 : armE xs i id = 0
  · unfold armL
    rw [if_pos h0]
    rw [h0]
    unfold armE at h0
    by_cases h1 : needE xs i = 1 ∨ id < 0
    · rw [if_pos h1] at h0; cases h0
    · rw [if_neg h1] at h0
      by_cases h2 : needE xs i ≠ 0
      · rw [if_pos h2] at h0; cases h0
      · rw [if_neg h2] at h0
        by_cases h3 : xs.any (whoP id) = true
        · rw [if_pos h3] at h0; cases h0
        · rcases need_cases xs i with ⟨_, h4, _⟩ | ⟨n, rfl, hn, hc, _, _, h4, _⟩ | ⟨n, rfl, hn, hc, _, _, h4, _⟩
          · omega
          · omega
          · rw [Int.toNat_natCast]
            split
            · exact good_set hc rfl (fun h => absurd rfl h)
            · refine good_set hc ?_ (fun _ => by simpa using h3)
              have : ¬ id < -1 := by omega
              simp [Fd.odd, this]
  · rw [(arm_no h0).2]; exact .inl ⟨h0, rfl⟩
end Go.Proofs.Ytkckhnblkjgkdaa
