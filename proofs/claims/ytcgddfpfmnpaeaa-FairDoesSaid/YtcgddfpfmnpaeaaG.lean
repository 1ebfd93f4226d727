/- Layer 15: fair.Charge, fair.Refund, fair.Gap. -/
import Derived.Test.YtcgddfpfmnpaeaaD
import Derived.Test.YtcgddfpfmnpaeaaF
namespace Go.Proofs.Ytcgddfpfmnpaeaa
open Go.RowKit

/-- What a call hands back that gives tenants of its own, and an error's number. -/
def Gives (w : World) (r : List Ten) (er : Int) (e : Ending) (w' : World) : Prop :=
  ∃ A c, e = .returned (.tuple #[.slice A r.length c, .int .i64 er]) ∧ Own Ten.enc 5 34 w.heap.size w' (.slice A r.length c) r ∧ Below w.heap.size w w'
theorem Own.none_ (w : World) (base : Nat) : Own Ten.enc 5 34 base w (.slice none 0 0) [] := World.ownsRow_nil w base 34 5
theorem gives_no {w w' : World} {er : Int} {e : Ending} (he : e = .returned (.tuple #[.slice none 0 0, .int .i64 er])) (hb : Below w.heap.size w w') : Gives w [] er e w' := ⟨none, 0, he, Own.none_ _ _, hb⟩

theorem own_cells {w : World} {base g cap : Nat} {xs : List Ten} (h : Own Ten.enc 5 34 base w (.slice (some ⟨g, 0, none⟩) xs.length cap) xs) (i : Nat) (hi : i < xs.length) :
    w.cell? ⟨g, i * 5, none⟩ = some (.int .i64 xs[i].w) ∧ w.cell? ⟨g, i * 5 + 1, none⟩ = some (.int .i64 xs[i].q) ∧ w.cell? ⟨g, i * 5 + 2, none⟩ = some (.int .i64 xs[i].l) ∧ w.cell? ⟨g, i * 5 + 3, none⟩ = some (.int .i64 xs[i].t) ∧ w.cell? ⟨g, i * 5 + 4, none⟩ = some (.int .i64 xs[i].r) ∧
    (∀ j, w.frozen? ⟨g, j, none⟩ = false) := by
  unfold Own at h
  have hc := fun j (hj : j < xs.length * 5) => h.cellAt (n := xs.length) j hj
  have hf := fun j (hj : j < 5) => flat_get (enc := Ten.enc) Ten.enc_length i hi j hj
  refine ⟨?_, ?_, ?_, ?_, ?_, fun j => h.frozenAt j⟩
  · rw [hc (i * 5) (by omega)]; have := hf 0 (by omega); rw [Nat.add_zero] at this; rw [this]; rfl
  · rw [hc (i * 5 + 1) (by omega), hf 1 (by omega)]; rfl
  · rw [hc (i * 5 + 2) (by omega), hf 2 (by omega)]; rfl
  · rw [hc (i * 5 + 3) (by omega), hf 3 (by omega)]; rfl
  · rw [hc (i * 5 + 4) (by omega), hf 4 (by omega)]; rfl
theorem own_setTag {w : World} {base g cap : Nat} {xs : List Ten} (h : Own Ten.enc 5 34 base w (.slice (some ⟨g, 0, none⟩) xs.length cap) xs) (i : Nat) (hi : i < xs.length) (t : Int) :
    Own Ten.enc 5 34 base (w.setCell ⟨g, i * 5 + 3, none⟩ (.int .i64 t)) (.slice (some ⟨g, 0, none⟩) (xs.set i { xs[i] with t := t }).length cap) (xs.set i { xs[i] with t := t }) := by
  unfold Own at h ⊢
  have := (h.stored (i * 5 + 3) (.int .i64 t)).1
  rw [flat_set Ten.enc_length i hi 3 (by omega) _ { xs[i] with t := t } rfl] at this
  rw [List.length_set]
  exact this

theorem own_base_le {w : World} {base g cap : Nat} {xs : List Ten} (h : Own Ten.enc 5 34 base w (.slice (some ⟨g, 0, none⟩) xs.length cap) xs) {i : Nat} (hi : i < xs.length) : base ≤ g := by
  obtain ⟨g', cap', hv, hb, _⟩ := own_form h (by omega)
  simp only [Value.slice.injEq, Option.some.injEq, Addr.mk.injEq, and_true, true_and] at hv
  omega
def tenAt (xs : List Ten) (i : Int) : Ten := xs.getD i.toNat default
theorem tenAt_nat {xs : List Ten} {i : Nat} (h : i < xs.length) : tenAt xs (i : Int) = xs[i] := by unfold tenAt; simp [h]
def setTag (xs : List Ten) (i : Int) (t : Int) : List Ten := xs.set i.toNat { tenAt xs i with t := t }
def chargeE (xs : List Ten) (i u : Int) : Int :=
  if findE xs i ≠ 0 then findE xs i else if costE (tenAt xs i).w u ≠ 0 then costE (tenAt xs i).w u else if maxTag - (tenAt xs i).t < costV (tenAt xs i).w u then 4 else 0
def chargeL (xs : List Ten) (i u : Int) : List Ten := if chargeE xs i u = 0 then setTag xs i ((tenAt xs i).t + costV (tenAt xs i).w u) else []
theorem chargeL_no {xs : List Ten} {i u : Int} (h : chargeE xs i u ≠ 0) : chargeL xs i u = [] := by unfold chargeL; rw [if_neg h]

theorem costE_ne {w u : Int} (h : costE w u ≠ 0) : (costE w u == 0) = false := by simpa using h
theorem find_ten {xs : List Ten} (hc : chk xs = true) {i : Nat} (hi : i < xs.length) : xs[i].ok = true := by
  unfold chk at hc
  rw [Bool.and_eq_true, List.all_eq_true] at hc
  exact hc.2 _ (List.getElem_mem hi)
theorem ok_bounds {x : Ten} (h : x.ok = true) : 1 ≤ x.w ∧ x.w ≤ 16 ∧ 0 ≤ x.q ∧ x.q ≤ 256 ∧ 0 ≤ x.l ∧ x.l ≤ x.q ∧ 0 ≤ x.t ∧ x.t ≤ 1152921504606846976 ∧ 0 ≤ x.r ∧ x.r ≤ 1099511627776 := by
  unfold Ten.ok wi maxTag maxRan at h
  simp only [Bool.and_eq_true, decide_eq_true_eq] at h
  omega
theorem cost_ok {w u : Int} (h1 : 1 ≤ w) (h2 : w ≤ 16) (h : costE w u = 0) : 0 ≤ costV w u ∧ costV w u ≤ 1152921504606846976 := by
  by_cases hb : w < 1 ∨ 16 < w ∨ u < 0
  · have := cost_bad hb; omega
  · by_cases hf : u * (720720 / w) ≤ 1152921504606846976
    · have := cost_fits h1 h2 (by omega) hf
      have := mul_nonneg_one h1 h2 (u := u) (by omega)
      omega
    · have := cost_large h1 h2 (u := u) (by omega) (by omega); omega

set_option maxHeartbeats 2000000 in
theorem charge_any (b off c : Nat) (A : Option Addr) (xs : List Ten) (i u : Int) (w : World) (hA : 0 < xs.length → A = some ⟨b, off, none⟩) (hx : Sl Ten.enc 5 w A xs) (hbig : xs.length ≤ 9223372036854775807) (hu : I64 u) :
    Calls Try.prog 11 #[.slice A xs.length c, .int .i64 i, .int .i64 u] w (Gives w (chargeL xs i u) (chargeE xs i u)) := by
  by_cases hf : findE xs i = 0
  case neg =>
    have hE : chargeE xs i u = findE xs i := by unfold chargeE; rw [if_pos hf]
    rw [chargeL_no (by rw [hE]; exact hf), hE]
    have ho := own_no A c xs i w hx hbig hf
    have hq : (findE xs i == 0) = false := by simpa using hf
    clear hE hf hA hx hu
    generalize findE xs i = q at *
    go_enter Try.func11, Try.ntmps11
    go_wp2_with (go_at_call 27; refine ho.mono ?_; rintro e w1 ⟨rfl, hb1⟩)
    go_ret2
    exact gives_no rfl hb1
  case pos =>
    have hcs := findE_cases xs i
    rcases hcs with ⟨_, he⟩ | ⟨_, _, he⟩ | ⟨hc, h0, h1, _⟩
    · omega
    · omega
    · obtain ⟨n, rfl⟩ := Int.eq_ofNat_of_zero_le h0
      have hn : n < xs.length := by omega
      obtain rfl := hA (by omega)
      have ho := own_yes b off c xs n w hx hn hc
      have hbd := ok_bounds (find_ten hc hn)
      have hcost := fun W => cost_any xs[n].w u hu W
      have hco := @cost_ok xs[n].w u hbd.1 hbd.2.1
      have hE : chargeE xs n u = if costE xs[n].w u ≠ 0 then costE xs[n].w u else if maxTag - xs[n].t < costV xs[n].w u then 4 else 0 := by
        unfold chargeE; rw [if_neg (by simpa using hf), tenAt_nat hn]
      have hL : chargeL xs n u = if chargeE xs n u = 0 then xs.set n { xs[n] with t := xs[n].t + costV xs[n].w u } else [] := by
        unfold chargeL setTag; rw [tenAt_nat hn]; rfl
      clear hf h0 h1 hx hA
      by_cases hce : costE xs[n].w u = 0
      case neg =>
        rw [if_pos hce] at hE
        rw [chargeL_no (by rw [hE]; exact hce), hE]
        have hq := costE_ne hce
        clear hco hE hL hce
        generalize costE xs[n].w u = q at *
        generalize costV xs[n].w u = v at *
        go_enter Try.func11, Try.ntmps11
        go_wp2_with fail
        refine ho.mono ?_
        rintro e w1 ⟨g, cap, rfl, hown, hb1⟩
        obtain ⟨c0, c1, c2, c3, c4, hfz⟩ := own_cells hown n hn
        go_wp2_with fail
        refine (hcost w1).mono ?_
        rintro e w2 ⟨rfl, hb2⟩
        go_wp2_with fail
        go_ret2
        exact gives_no rfl (below_then hb1 hb2)
      case pos =>
        have hv := hco hce
        rw [if_neg (by simpa using hce)] at hE
        unfold maxTag at hE
        by_cases hl : 1152921504606846976 - xs[n].t < costV xs[n].w u
        · rw [if_pos hl] at hE
          rw [chargeL_no (by omega), hE]
          clear hE hL
          rw [hce] at hcost
          clear hco hce
          generalize costV xs[n].w u = v at *
          go_enter Try.func11, Try.ntmps11
          go_wp2_with fail
          refine ho.mono ?_
          rintro e w1 ⟨g, cap, rfl, hown, hb1⟩
          obtain ⟨c0, c1, c2, c3, c4, hfz⟩ := own_cells hown n hn
          go_wp2_with fail
          refine (hcost w1).mono ?_
          rintro e w2 ⟨rfl, hb2⟩
          have d3 := cell_below hb2 c3
          go_wp2_with fail
          go_ret2
          exact gives_no rfl (below_then hb1 hb2)
        · rw [if_neg hl] at hE
          rw [hE, if_pos rfl] at hL
          rw [hL, hE]
          clear hE hL
          rw [hce] at hcost
          clear hco hce
          have HS := fun (W : World) (base g cap : Nat) (h : Own Ten.enc 5 34 base W (.slice (some ⟨g, 0, none⟩) xs.length cap) xs) => own_setTag h n hn (xs[n].t + costV xs[n].w u)
          have HS := Lib.hid HS
          generalize costV xs[n].w u = v at *
          go_enter Try.func11, Try.ntmps11
          go_wp2_with fail
          refine ho.mono ?_
          rintro e w1 ⟨g, cap, rfl, hown, hb1⟩
          obtain ⟨c0, c1, c2, c3, c4, hfz⟩ := own_cells hown n hn
          go_wp2_with fail
          refine (hcost w1).mono ?_
          rintro e w2 ⟨rfl, hb2⟩
          have hown2 := hown.below hb2
          clear c0 c1 c2 c3 c4 hfz
          obtain ⟨c0, c1, c2, c3, c4, hfz⟩ := own_cells hown2 n hn
          go_wp2_with fail
          go_ret2
          refine ⟨some ⟨g, 0, none⟩, cap, ?_, HS.out _ _ _ _ hown2, (below_then hb1 hb2).setCell (own_base_le hown hn) _⟩
          rw [List.length_set]; rfl

def refundE (xs : List Ten) (i u : Int) : Int :=
  if findE xs i ≠ 0 then findE xs i else if costE (tenAt xs i).w u = 1 then 1 else if costE (tenAt xs i).w u = 4 ∨ (tenAt xs i).t < costV (tenAt xs i).w u then 9 else 0
def refundL (xs : List Ten) (i u : Int) : List Ten := if refundE xs i u = 0 then setTag xs i ((tenAt xs i).t - costV (tenAt xs i).w u) else []
theorem refundL_no {xs : List Ten} {i u : Int} (h : refundE xs i u ≠ 0) : refundL xs i u = [] := by unfold refundL; rw [if_neg h]
theorem costE_three (w u : Int) : costE w u = 0 ∨ costE w u = 1 ∨ costE w u = 4 := by unfold costE; split <;> (try split) <;> omega

set_option maxHeartbeats 2000000 in
theorem refund_any (b off c : Nat) (A : Option Addr) (xs : List Ten) (i u : Int) (w : World) (hA : 0 < xs.length → A = some ⟨b, off, none⟩) (hx : Sl Ten.enc 5 w A xs) (hbig : xs.length ≤ 9223372036854775807) (hu : I64 u) :
    Calls Try.prog 14 #[.slice A xs.length c, .int .i64 i, .int .i64 u] w (Gives w (refundL xs i u) (refundE xs i u)) := by
  by_cases hf : findE xs i = 0
  case neg =>
    have hE : refundE xs i u = findE xs i := by unfold refundE; rw [if_pos hf]
    rw [refundL_no (by rw [hE]; exact hf), hE]
    have ho := own_no A c xs i w hx hbig hf
    have hq : (findE xs i == 0) = false := by simpa using hf
    clear hE hf hA hx hu
    generalize findE xs i = q at *
    go_enter Try.func14, Try.ntmps14
    go_wp2_with (go_at_call 27; refine ho.mono ?_; rintro e w1 ⟨rfl, hb1⟩)
    go_ret2
    exact gives_no rfl hb1
  case pos =>
    have hcs := findE_cases xs i
    rcases hcs with ⟨_, he⟩ | ⟨_, _, he⟩ | ⟨hc, h0, h1, _⟩
    · omega
    · omega
    · obtain ⟨n, rfl⟩ := Int.eq_ofNat_of_zero_le h0
      have hn : n < xs.length := by omega
      obtain rfl := hA (by omega)
      have ho := own_yes b off c xs n w hx hn hc
      have hbd := ok_bounds (find_ten hc hn)
      have hcost := fun W => cost_any xs[n].w u hu W
      have hco := @cost_ok xs[n].w u hbd.1 hbd.2.1
      have hE : refundE xs n u = if costE xs[n].w u = 1 then 1 else if costE xs[n].w u = 4 ∨ xs[n].t < costV xs[n].w u then 9 else 0 := by
        unfold refundE; rw [if_neg (by simpa using hf), tenAt_nat hn]
      have hL : refundL xs n u = if refundE xs n u = 0 then xs.set n { xs[n] with t := xs[n].t - costV xs[n].w u } else [] := by
        unfold refundL setTag; rw [tenAt_nat hn]; rfl
      have HS := fun (W : World) (base g cap : Nat) (h : Own Ten.enc 5 34 base W (.slice (some ⟨g, 0, none⟩) xs.length cap) xs) => own_setTag h n hn (xs[n].t - costV xs[n].w u)
      have HS := Lib.hid HS
      clear hf h0 h1 hx hA
      rcases costE_three xs[n].w u with hce | hce | hce
      case inl =>
        have hv := hco hce
        rw [hce, if_neg (by omega)] at hE
        by_cases hl : xs[n].t < costV xs[n].w u
        · rw [if_pos (.inr hl)] at hE
          rw [refundL_no (by omega), hE]
          clear hE hL
          rw [hce] at hcost
          clear hco hce
          generalize costV xs[n].w u = v at *
          go_enter Try.func14, Try.ntmps14
          go_wp2_with fail
          refine ho.mono ?_
          rintro e w1 ⟨g, cap, rfl, hown, hb1⟩
          obtain ⟨c0, c1, c2, c3, c4, hfz⟩ := own_cells hown n hn
          go_wp2_with fail
          refine (hcost w1).mono ?_
          rintro e w2 ⟨rfl, hb2⟩
          have d3 := cell_below hb2 c3
          go_wp2_with fail
          go_ret2
          exact gives_no rfl (below_then hb1 hb2)
        · rw [if_neg (by omega)] at hE
          rw [hE, if_pos rfl] at hL
          rw [hL, hE]
          clear hE hL
          rw [hce] at hcost
          clear hco hce
          generalize costV xs[n].w u = v at *
          go_enter Try.func14, Try.ntmps14
          go_wp2_with fail
          refine ho.mono ?_
          rintro e w1 ⟨g, cap, rfl, hown, hb1⟩
          obtain ⟨c0, c1, c2, c3, c4, hfz⟩ := own_cells hown n hn
          go_wp2_with fail
          refine (hcost w1).mono ?_
          rintro e w2 ⟨rfl, hb2⟩
          have hown2 := hown.below hb2
          clear c0 c1 c2 c3 c4 hfz
          obtain ⟨c0, c1, c2, c3, c4, hfz⟩ := own_cells hown2 n hn
          go_wp2_with fail
          go_ret2
          refine ⟨some ⟨g, 0, none⟩, cap, ?_, HS.out _ _ _ _ hown2, (below_then hb1 hb2).setCell (own_base_le hown hn) _⟩
          rw [List.length_set]; rfl
      all_goals
        rw [hce] at hE
        have hE' : refundE xs n u = 1 ∨ refundE xs n u = 9 := by rw [hE]; simp
        rw [refundL_no (by omega), hE]
        rw [hce] at hcost
        clear hco hE hE' hL hce
        generalize costV xs[n].w u = v at *
        go_enter Try.func14, Try.ntmps14
        go_wp2_with fail
        refine ho.mono ?_
        rintro e w1 ⟨g, cap, rfl, hown, hb1⟩
        obtain ⟨c0, c1, c2, c3, c4, hfz⟩ := own_cells hown n hn
        go_wp2_with fail
        refine (hcost w1).mono ?_
        rintro e w2 ⟨rfl, hb2⟩
        go_wp2_with fail
        go_ret2
        exact gives_no rfl (below_then hb1 hb2)
end Go.Proofs.Ytcgddfpfmnpaeaa
