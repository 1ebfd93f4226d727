/- Layer 9: poll.Arm, poll.Drop. -/
import Derived.Test.YtkckhnblkjgkdaaE
namespace Go.Proofs.Ytkckhnblkjgkdaa
open Go.RowKit

def armE (xs : List Fd) (i id : Int) : Int :=
  if needE xs i = 1 ∨ id < 0 then 1 else if needE xs i ≠ 0 then 5 else if xs.any (whoP id) = true then 6 else if (fdAt xs i).w ≠ -1 then 7 else 0
def armV (xs : List Fd) (i id : Int) : Bool := decide (armE xs i id = 0) && (fdAt xs i).r
def armL (xs : List Fd) (i id : Int) : List Fd := if armE xs i id = 0 then xs.set i.toNat (if (fdAt xs i).r = true then ⟨true, false, -1⟩ else ⟨true, false, id⟩) else []
theorem arm_no {xs : List Fd} {i id : Int} (h : armE xs i id ≠ 0) : armV xs i id = false ∧ armL xs i id = [] := by
  unfold armV armL; rw [if_neg h]; simp [h]
theorem arm_yes {xs : List Fd} {i id : Int} (h : armE xs i id = 0) (r : Bool) (hr : (fdAt xs i).r = r) : armV xs i id = r ∧ armL xs i id = xs.set i.toNat (if r = true then ⟨true, false, -1⟩ else ⟨true, false, id⟩) := by
  unfold armV armL; rw [if_pos h, hr, h]; simp
theorem below_al {w w' : World} {o : Obj} (h : Below (w.alloc o).heap.size (w.alloc o) w') : Below w.heap.size w w' :=
  below_then ((Below.refl _ _).alloc (Nat.le_refl _) _) h

set_option maxHeartbeats 2000000 in
theorem arm_bad (b off c : Nat) (A : Option Addr) (xs : List Fd) (i id : Int) (w : World) (hA : 0 < xs.length → A = some ⟨b, off, none⟩) (hx : Sl Fd.enc 3 w A xs) (hbig : xs.length ≤ 9223372036854775807) (h : needE xs i ≠ 0 ∨ id < 0) :
    Calls Try.prog 12 #[.slice A xs.length c, .int .i64 i, .int .i64 id] w (GivesV (.bool (armV xs i id)) w (armL xs i id) (armE xs i id)) := by
  have hE : armE xs i id = if needE xs i = 1 ∨ id < 0 then 1 else 5 := by
    unfold armE
    by_cases h1 : needE xs i = 1 ∨ id < 0
    · rw [if_pos h1, if_pos h1]
    · rw [if_neg h1, if_neg h1, if_pos]
      rcases h with h | h
      · exact h
      · exact absurd (.inr h) h1
  have hne : armE xs i id ≠ 0 := by rw [hE]; split <;> decide
  rw [(arm_no hne).1, (arm_no hne).2]
  have hcell : (w.alloc (.cells #[.int .i64 id] 2)).cell? ⟨w.heap.size, 0, none⟩ = some (.int .i64 id) := by simp
  have h3 : needE xs i = 1 ∨ needE xs i = 5 ∨ needE xs i = 0 := by
    rcases need_cases xs i with ⟨_, h, _⟩ | ⟨n, _, _, _, _, _, h, _⟩ | ⟨n, _, _, _, _, _, h, _⟩
    · exact .inl h
    · exact .inr (.inl h)
    · exact .inr (.inr h)
  by_cases hn0 : needE xs i = 0
  case neg =>
    have ho := opened_no b off c A xs i (w.alloc (.cells #[.int .i64 id] 2)) hA (hx.alloc _) hbig hn0
    rw [hE]
    clear hE hne hA hx
    rcases h3 with h3 | h3 | h3
    · rw [if_pos (.inl h3)]
      rw [h3] at ho
      clear h h3 hn0
      go_enter Try.func12, Try.ntmps12
      go_wp2_with fail
      refine ho.mono ?_
      rintro e w1 ⟨rfl, hb1⟩
      go_wp2_with fail
      go_ret3
      exact givesV_no rfl (below_al hb1)
    · by_cases hid : id < 0
      · rw [if_pos (.inr hid)]
        rw [h3] at ho
        clear h h3 hn0
        go_enter Try.func12, Try.ntmps12
        go_wp2_with fail
        refine ho.mono ?_
        rintro e w1 ⟨rfl, hb1⟩
        have k0 := cell_below hb1 hcell
        go_wp2_with fail
        go_ret3
        exact givesV_no rfl (below_al hb1)
      · rw [if_neg (by rw [h3]; simp; omega)]
        rw [h3] at ho
        have hid' : 0 ≤ id := by omega
        clear h h3 hn0 hid
        go_enter Try.func12, Try.ntmps12
        go_wp2_with fail
        refine ho.mono ?_
        rintro e w1 ⟨rfl, hb1⟩
        have k0 := cell_below hb1 hcell
        go_wp2_with fail
        go_ret3
        exact givesV_no rfl (below_al hb1)
    · exact absurd h3 hn0
  case pos =>
    have hid : id < 0 := by rcases h with h | h; exact absurd hn0 h; exact h
    rw [hE, if_pos (.inr hid)]
    clear hE hne h h3
    rcases need_cases xs i with ⟨_, h2, _⟩ | ⟨n, rfl, hn, hc, hi, ho, h2, _⟩ | ⟨n, rfl, hn, hc, hi, ho, h2, _⟩
    · omega
    · omega
    · obtain rfl := hA (by omega)
      have hp := opened_yes b off c xs n (w.alloc (.cells #[.int .i64 id] 2)) (hx.alloc _) hn hc ho
      clear h2 hA hc hi hn0 ho
      go_enter Try.func12, Try.ntmps12
      go_wp2_with fail
      refine hp.mono ?_
      rintro e w1 ⟨g, cap, rfl, hown, hb1⟩
      have k0 := cell_below hb1 hcell
      go_wp2_with fail
      go_ret3
      exact givesV_no rfl (below_al hb1)

set_option maxHeartbeats 4000000 in
theorem arm_good (b off c : Nat) (xs : List Fd) (n : Nat) (id : Int) (w : World) (hx : Sl Fd.enc 3 w (some ⟨b, off, none⟩) xs) (hn : n < xs.length) (hc : chk xs = true) (ho : xs[n].o = true) (hneed : needE xs n = 0) (hid : 0 ≤ id) :
    Calls Try.prog 12 #[.slice (some ⟨b, off, none⟩) xs.length c, .int .i64 n, .int .i64 id] w (GivesV (.bool (armV xs n id)) w (armL xs n id) (armE xs n id)) := by
  have hl := chk_len hc
  have hE : armE xs n id = if xs.any (whoP id) = true then 6 else if xs[n].w ≠ -1 then 7 else 0 := by
    unfold armE
    rw [if_neg (by rw [hneed]; simp; omega), if_neg (by rw [hneed]; simp), fdAt_nat hn]
  have hp := opened_yes b off c xs n (w.alloc (.cells #[.int .i64 id] 2)) (hx.alloc _) hn hc ho
  have hcell : (w.alloc (.cells #[.int .i64 id] 2)).cell? ⟨w.heap.size, 0, none⟩ = some (.int .i64 id) := by simp
  have hcon := fun W (h : Sl Fd.enc 3 W (some ⟨b, off, none⟩) xs) hB => containsFd w.heap.size id (some ⟨b, off, none⟩) c xs W h (by omega) hB
  have hx' := hx.alloc (.cells #[.int .i64 id] 2)
  have HY := Lib.hid (fun h => @arm_yes xs n id h)
  have HN := Lib.hid (fun h => @arm_no xs n id h)
  have HFD := Lib.hid (fdAt_nat hn)
  clear hneed hc ho hx
  cases hany : xs.any (whoP id)
  case true =>
    rw [hany] at hcon hE
    rw [if_pos rfl] at hE
    rw [(HN.out (by rw [hE]; decide)).1, (HN.out (by rw [hE]; decide)).2, hE]
    clear hany hE
    go_enter Try.func12, Try.ntmps12
    go_wp2_with fail
    refine hp.mono ?_
    rintro e w1 ⟨g, cap, rfl, hown, hb1⟩
    have k0 := cell_below hb1 hcell
    have hx1 := hx'.below hb1
    go_wp2_with fail
    refine (hcon w1 hx1 k0).mono ?_
    rintro e w2 ⟨rfl, hb2⟩
    go_wp2_with fail
    go_ret3
    exact givesV_no rfl (below_al (below_then hb1 hb2))
  case false =>
    rw [hany] at hcon hE
    rw [if_neg (by decide)] at hE
    clear hany
    by_cases hw : xs[n].w = -1
    case neg =>
      rw [if_pos hw] at hE
      rw [(HN.out (by rw [hE]; decide)).1, (HN.out (by rw [hE]; decide)).2, hE]
      have hwb : (xs[n].w == -1) = false := by simpa using hw
      clear hE hw
      go_enter Try.func12, Try.ntmps12
      go_wp2_with fail
      refine hp.mono ?_
      rintro e w1 ⟨g, cap, rfl, hown, hb1⟩
      have k0 := cell_below hb1 hcell
      have hx1 := hx'.below hb1
      go_wp2_with fail
      refine (hcon w1 hx1 k0).mono ?_
      rintro e w2 ⟨rfl, hb2⟩
      obtain ⟨c0, c1, c2, hfz⟩ := own_cells (hown.below hb2) n hn
      go_wp2_with fail
      go_ret3
      exact givesV_no rfl (below_al (below_then hb1 hb2))
    case pos =>
      rw [if_neg (by simpa using hw)] at hE
      have HW := Lib.hid hw
      clear hw
      cases hr : xs[n].r
      all_goals
        have hyy := HY.out hE xs[n].r (by rw [HFD.out])
        rw [hr] at hyy
        rw [hyy.1, hyy.2, hE, Int.toNat_natCast]
        have HR := Lib.hid hr
        clear hE hyy hr
        go_enter Try.func12, Try.ntmps12
        go_wp2_with fail
        refine hp.mono ?_
        rintro e w1 ⟨g, cap, rfl, hown, hb1⟩
        have k0 := cell_below hb1 hcell
        have hx1 := hx'.below hb1
        go_wp2_with fail
        refine (hcon w1 hx1 k0).mono ?_
        rintro e w2 ⟨rfl, hb2⟩
        have hown2 := hown.below hb2
        obtain ⟨c0, c1, c2, hfz⟩ := own_cells hown2 n hn
        rw [HW.out] at c2
        rw [HR.out] at c1
        go_wp2_with fail
        refine (open_below w2).mono ?_
        rintro e w3 ⟨rfl, hb3⟩
        have hown3 := hown2.below hb3
        have hg := own_base_le hown3 hn
        have hgs : w.heap.size < g := by simp at hg; omega
        have k1 := cell_below hb3 (cell_below hb2 k0)
        clear c0 c1 c2 hfz
        obtain ⟨c0, c1, c2, hfz⟩ := own_cells hown3 n hn
        have f0 := hfz (n * 3)
        have f1 := hfz (n * 3 + 1)
        have f2 := hfz (n * 3 + 2)
        have hneq : ¬ w.heap.size = g := by omega
        have hset := own_setAll hown3 n hn ⟨true, false, -1⟩
        have hset2 := own_setW hset n (by rw [List.length_set]; exact hn) id
        have HB := Lib.hid (below_then (below_then hb1 hb2) hb3)
        rw [List.set_set] at hset2
        have HS := Lib.hid (And.intro hset hset2)
        clear hset hset2 hown2 hown hown3
        go_wp2_with fail
        go_ret3
      · have hs2 : w.heap.size ≤ g := by omega
        refine givesV_set rfl ?_ ((below_setAll (below_al HB.out) hs2 _ _ _).setCell hs2 _)
        have := HS.out.2
        simp only [List.getElem_set_self] at this
        exact this.lower (by simp)
      · have hs2 : w.heap.size ≤ g := by omega
        exact givesV_set rfl (HS.out.1.lower (by simp)) (below_setAll (below_al HB.out) hs2 _ _ _)

theorem arm_slice (b off c : Nat) (A : Option Addr) (xs : List Fd) (i id : Int) (w : World) (hA : 0 < xs.length → A = some ⟨b, off, none⟩) (hx : Sl Fd.enc 3 w A xs) (hbig : xs.length ≤ 9223372036854775807) :
    Calls Try.prog 12 #[.slice A xs.length c, .int .i64 i, .int .i64 id] w (GivesV (.bool (armV xs i id)) w (armL xs i id) (armE xs i id)) := by
  by_cases h : needE xs i ≠ 0 ∨ id < 0
  · exact arm_bad b off c A xs i id w hA hx hbig h
  · rcases need_cases xs i with ⟨_, h2, _⟩ | ⟨n, rfl, hn, hc, hi, ho, h2, _⟩ | ⟨n, rfl, hn, hc, hi, ho, h2, _⟩
    · exact absurd (.inl (by omega)) h
    · exact absurd (.inl (by omega)) h
    · obtain rfl := hA (by omega)
      exact arm_good b off c xs n id w hx hn hc ho h2 (by omega)
end Go.Proofs.Ytkckhnblkjgkdaa
