/- Layer 9: poll.Same, poll.Drop, poll.Waits. -/
import Derived.Test.YtkckhnblkjgkdaaE
namespace Go.Proofs.Ytkckhnblkjgkdaa
open Go.RowKit

theorem drewN_drewN (w : World) (m n : Nat) : (w.drewN m).drewN n = w.drewN (m + n) := by simp [World.drewN, Nat.add_assoc]
set_option maxHeartbeats 2000000 in
theorem equal_fd (A B : Option Addr) (c d : Nat) (xs ys : List Fd) (w : World) (hx : Sl Fd.enc 3 w A xs) (hy : Sl Fd.enc 3 w B ys) (hbig : xs.length ≤ 9223372036854775807) :
    Calls Try.prog 42 #[.slice A xs.length c, .slice B ys.length d] w fun e w' => e = .returned (.bool (decide (xs = ys))) ∧ ∃ nq, w' = w.drewN nq := by
  by_cases hl : xs.length = ys.length
  case neg =>
    have hne : ((xs.length : Int) != (ys.length : Int)) = true := by simp; omega
    have hd : Hid (decide (xs = ys) = false) := by show _ = _; rw [decide_eq_false_iff_not]; rintro rfl; exact hl rfl
    clear hl
    go_enter Try.func42, Try.ntmps42
    go_wp2_with fail
    go_ret
    exact ⟨ret_bool hd.out.symm, 0, rfl⟩
  case pos =>
    obtain ⟨n, hn⟩ : ∃ n, n = xs.length := ⟨_, rfl⟩
    rw [← hl, ← hn]
    have HX := Lib.hid hn.symm
    have HY := Lib.hid (hl.symm.trans hn.symm)
    rw [← hn] at hbig
    clear hl hn
    go_enter Try.func42, Try.ntmps42
    go_wp2_with fail
    go_loopg [5, 13] n (fun gg _ s13 wr => ∃ kk : Nat, kk ≤ n ∧ n - kk ≤ gg ∧ s13 = .int .i64 kk ∧ Aside (∃ nq, wr = w.drewN nq) ∧ Aside (xs.take kk = ys.take kk))
    case atStart => exact ⟨0, Nat.zero_le _, by omega, rfl, ⟨0, rfl⟩, rfl⟩
    case round =>
      obtain ⟨kk, hkk, hg, rfl, ⟨nq, rfl⟩, TK⟩ := hrel
      by_cases hlt : kk < n
      · have h1 : kk < xs.length := by rw [HX.out]; exact hlt
        have h2 : kk < ys.length := by rw [HY.out]; exact hlt
        obtain ⟨b1, o1, rfl, p0, p1, p2⟩ := (hx.drewN nq).fd_at kk h1
        obtain ⟨b2, o2, rfl, t0, t1, t2⟩ := (hy.drewN nq).fd_at kk h2
        have z0 : (0 : Int) ≤ (kk : Int) := by omega
        have z1 : (kk : Int) < (n : Int) := by omega
        have hnr := fun W => neq_run xs[kk] ys[kk] W
        have DN := Lib.hid (drewN_drewN w nq)
        clear hx hy
        generalize w.drewN nq = w7 at *
        by_cases he : xs[kk] = ys[kk]
        · rw [show decide (xs[kk] = ys[kk]) = true from by simpa using he] at hnr
          have HE := Lib.hid he
          clear he
          go_wp2_with fail
          go_quiet (fail)
          go_wp2_with fail
          go_roundg (n - (kk + 1))
          case measure => omega
          case rel =>
            refine ⟨kk + 1, by omega, by omega, by go_num, ⟨_, DN.out _⟩, ?_⟩
            show _ = _
            rw [List.take_succ_eq_append_getElem h1, List.take_succ_eq_append_getElem h2, TK.out, HE.out]
        · rw [show decide (xs[kk] = ys[kk]) = false from by simpa using he] at hnr
          have hd : Hid (decide (xs = ys) = false) := by show _ = _; rw [decide_eq_false_iff_not]; rintro rfl; exact he rfl
          clear he
          go_wp2_with fail
          go_quiet (fail)
          go_wp2_with fail
          go_ret
          exact ⟨ret_bool hd.out.symm, _, DN.out _⟩
      · have hkx : kk = n := by omega
        have hd : Hid (decide (xs = ys) = true) := by
          show _ = _
          rw [decide_eq_true_eq]
          have := TK.out
          rw [List.take_of_length_le (by rw [HX.out]; omega), List.take_of_length_le (by rw [HY.out]; omega)] at this
          exact this
        clear hkx
        go_wp2_with fail
        go_ret
        exact ⟨ret_bool hd.out.symm, nq, rfl⟩
theorem same_fd (A B : Option Addr) (c d : Nat) (xs ys : List Fd) (w : World) (hx : Sl Fd.enc 3 w A xs) (hy : Sl Fd.enc 3 w B ys) (hbig : xs.length ≤ 9223372036854775807) :
    Calls Try.prog 28 #[.slice A xs.length c, .slice B ys.length d] w fun e w' => e = .returned (.bool (decide (xs = ys))) ∧ ∃ nq, w' = w.drewN nq := by
  have h := equal_fd A B c d xs ys w hx hy hbig
  clear hx hy hbig
  go_enter Try.func28, Try.ntmps28
  go_wp2_with (go_at_call 42; refine h.mono ?_; rintro e w' ⟨rfl, nq, rfl⟩)
  go_ret
  exact ⟨rfl, nq, rfl⟩

def dropE (xs : List Fd) (id : Int) : Int := if chk xs = true then (if idxOf (whoP id) xs < 0 ∨ id < 0 then 5 else 0) else 1
def dropL (xs : List Fd) (id : Int) : List Fd := if dropE xs id = 0 then xs.set (idxOf (whoP id) xs).toNat ⟨true, false, -1⟩ else []
theorem dropL_no {xs : List Fd} {id : Int} (h : dropE xs id ≠ 0) : dropL xs id = [] := by unfold dropL; rw [if_neg h]
theorem below_al2 {w w' : World} {o : Obj} (h : Below (w.alloc o).heap.size (w.alloc o) w') : Below w.heap.size w w' :=
  below_then ((Below.refl _ _).alloc (Nat.le_refl _) _) h
set_option maxHeartbeats 2000000 in
theorem drop_slice (b off c : Nat) (A : Option Addr) (xs : List Fd) (id : Int) (w : World) (hA : 0 < xs.length → A = some ⟨b, off, none⟩) (hx : Sl Fd.enc 3 w A xs) (hbig : xs.length ≤ 9223372036854775807) :
    Calls Try.prog 21 #[.slice A xs.length c, .int .i64 id] w (Gives w (dropL xs id) (dropE xs id)) := by
  have hck := check_any A c xs (w.alloc (.cells #[.int .i64 id] 2)) (hx.alloc _) hbig
  have hcell : (w.alloc (.cells #[.int .i64 id] 2)).cell? ⟨w.heap.size, 0, none⟩ = some (.int .i64 id) := by simp
  have hx' := hx.alloc (.cells #[.int .i64 id] 2)
  cases hc : chk xs
  case false =>
    have hE : dropE xs id = 1 := by unfold dropE; rw [hc]; rfl
    rw [dropL_no (by rw [hE]; decide), hE]
    rw [errC_not hc] at hck
    clear hc hE hA
    go_enter Try.func21, Try.ntmps21
    go_wp2_with fail
    refine hck.mono ?_
    rintro e w1 ⟨rfl, hb1⟩
    go_wp2_with fail
    go_ret2
    exact gives_no rfl (below_al2 hb1)
  case true =>
    have hl := chk_len hc
    rw [errC_yes hc] at hck
    have hE : dropE xs id = if idxOf (whoP id) xs < 0 ∨ id < 0 then 5 else 0 := by unfold dropE; rw [hc]; rfl
    have hin := fun W (h : Sl Fd.enc 3 W A xs) hB => indexFunc 40 w.heap.size id enters40 (pred40 w.heap.size id) A c xs W h (by omega) hB
    rcases idxOf_cases (whoP id) xs with ⟨h1, _⟩ | ⟨n, hn, h1, _, hp, _⟩
    · rw [h1] at hin hE
      rw [if_pos (.inl (by decide))] at hE
      rw [dropL_no (by rw [hE]; decide), hE]
      clear hE hA hc h1
      go_enter Try.func21, Try.ntmps21
      go_wp2_with fail
      refine hck.mono ?_
      rintro e w1 ⟨rfl, hb1⟩
      have k0 := cell_below hb1 hcell
      have hx1 := hx'.below hb1
      go_wp2_with fail
      refine (hin w1 hx1 k0).mono ?_
      rintro e w2 ⟨rfl, hb2⟩
      go_wp2_with fail
      go_ret2
      exact gives_no rfl (below_al2 (below_then hb1 hb2))
    · have hL : dropL xs id = if dropE xs id = 0 then xs.set n ⟨true, false, -1⟩ else [] := by unfold dropL; rw [h1, Int.toNat_natCast]
      rw [h1] at hin hE
      obtain rfl := hA (by omega)
      by_cases hid : id < 0
      · rw [if_pos (.inr hid)] at hE
        rw [dropL_no (by rw [hE]; decide), hE]
        clear hE hA hc h1 hL hp
        go_enter Try.func21, Try.ntmps21
        go_wp2_with fail
        refine hck.mono ?_
        rintro e w1 ⟨rfl, hb1⟩
        have k0 := cell_below hb1 hcell
        have hx1 := hx'.below hb1
        go_wp2_with fail
        refine (hin w1 hx1 k0).mono ?_
        rintro e w2 ⟨rfl, hb2⟩
        have k1 := cell_below hb2 k0
        go_wp2_with fail
        go_ret2
        exact gives_no rfl (below_al2 (below_then hb1 hb2))
      · rw [if_neg (by omega)] at hE
        rw [hE, if_pos rfl] at hL
        rw [hL, hE]
        have hid0 : 0 ≤ id := by omega
        have hcl := fun W (h : Sl Fd.enc 3 W (some ⟨b, off, none⟩) xs) => clone_fd b off c xs W h (by omega) (by omega)
        have z1 : (n : Int) < (xs.length : Int) := by omega
        clear hE hA hc h1 hL hp hid
        go_enter Try.func21, Try.ntmps21
        go_wp2_with fail
        refine hck.mono ?_
        rintro e w1 ⟨rfl, hb1⟩
        have k0 := cell_below hb1 hcell
        have hx1 := hx'.below hb1
        go_wp2_with fail
        refine (hin w1 hx1 k0).mono ?_
        rintro e w2 ⟨rfl, hb2⟩
        have k1 := cell_below hb2 k0
        have hx2 := hx1.below hb2
        go_wp2_with fail
        refine (hcl w2 hx2).mono ?_
        rintro e w3 ⟨v, rfl, hown, hb3⟩
        obtain ⟨g, cap, rfl, hg1, hg2⟩ := own_form hown (by omega)
        go_wp2_with fail
        refine (open_below w3).mono ?_
        rintro e w4 ⟨rfl, hb4⟩
        have hown4 := hown.below hb4
        obtain ⟨c0, c1, c2, hfz⟩ := own_cells hown4 n hn
        have f0 := hfz (n * 3)
        have f1 := hfz (n * 3 + 1)
        have f2 := hfz (n * 3 + 2)
        have HB := Lib.hid (below_al2 (below_then (below_then (below_then hb1 hb2) hb3) hb4))
        have hs : w.heap.size ≤ g := Nat.le_trans (below_al2 (below_then hb1 hb2)).size hg1
        have HS := Lib.hid ((own_setAll hown4 n hn ⟨true, false, -1⟩).lower (base' := w.heap.size) (below_al2 (below_then hb1 hb2)).size)
        clear hown hown4 hb1 hb2 hb3 hb4 hg1 hg2
        go_wp2_with fail
        go_ret2
        exact gives_set rfl HS.out (below_setAll HB.out hs _ _ _)
end Go.Proofs.Ytkckhnblkjgkdaa
