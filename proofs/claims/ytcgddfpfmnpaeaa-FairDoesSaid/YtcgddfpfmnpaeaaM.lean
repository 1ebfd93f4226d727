/- Layer 15: FairAlone. -/
import Derived.Test.YtcgddfpfmnpaeaaJ
import Derived.Deep.DeepCutAuto
namespace Go.Proofs.Ytcgddfpfmnpaeaa
open Go.RowKit

theorem charge_bounds {xs : List Ten} {i u : Int} (h : chargeE xs i u = 0) : ∃ n : Nat, ∃ hn : n < xs.length, i = n ∧ 0 ≤ costV xs[n].w u ∧ chargeL xs i u = xs.set n { xs[n] with t := xs[n].t + costV xs[n].w u } := by
  have hf : findE xs i = 0 := by
    by_cases hf : findE xs i = 0
    · exact hf
    · unfold chargeE at h; rw [if_pos hf] at h; exact h
  rcases findE_cases xs i with ⟨_, he⟩ | ⟨_, _, he⟩ | ⟨hc, h0, h1, _⟩
  · omega
  · omega
  · obtain ⟨n, rfl⟩ := Int.eq_ofNat_of_zero_le h0
    have hn : n < xs.length := by omega
    have hbd := ok_bounds (find_ten hc hn)
    have hE := h
    unfold chargeE at hE; rw [if_neg (by simpa using hf), tenAt_nat hn] at hE
    have hce : costE xs[n].w u = 0 := by
      by_cases hce : costE xs[n].w u = 0
      · exact hce
      · rw [if_pos hce] at hE; exact hE
    refine ⟨n, hn, rfl, (cost_ok hbd.1 hbd.2.1 hce).1, ?_⟩
    unfold chargeL setTag; rw [if_pos h, tenAt_nat hn]; rfl
theorem charge_get {xs : List Ten} {i u : Int} (h : chargeE xs i u = 0) : (chargeL xs i u).length = xs.length ∧ ∀ k, (hk : k < xs.length) → ∀ hk' : k < (chargeL xs i u).length, ∃ t', (chargeL xs i u)[k] = { xs[k] with t := t' } ∧ xs[k].t ≤ t' ∧ ((k : Int) ≠ i → t' = xs[k].t) := by
  obtain ⟨n, hn, rfl, hv, hl⟩ := charge_bounds h
  refine ⟨by rw [hl, List.length_set], fun k hk hk' => ?_⟩
  by_cases e : n = k
  · subst e
    exact ⟨xs[n].t + costV xs[n].w u, by simp [hl], by omega, fun hne => absurd rfl hne⟩
  · exact ⟨xs[k].t, by simp [hl, e], Int.le_refl _, fun _ => rfl⟩

theorem best_spec (xs : List Ten) (bs : List Bool) (n : Nat) (h : 0 ≤ best xs bs n) : bs.getD (best xs bs n).toNat false = true ∧ ∀ j, j < n → bs.getD j false = true → (tenAt xs (best xs bs n)).t ≤ (tenAt xs j).t ∧ ((tenAt xs j).t = (tenAt xs (best xs bs n)).t → best xs bs n ≤ j) := by
  induction n with
  | zero => simp [best] at h
  | succ n ih =>
    have hr := best_range xs bs n
    by_cases hc : bs.getD n false = true ∧ (best xs bs n < 0 ∨ (tenAt xs n).t < (tenAt xs (best xs bs n)).t)
    · have hb : best xs bs (n + 1) = n := by rw [best, if_pos hc]
      rw [hb]
      refine ⟨by simpa using hc.1, fun j hj hbj => ?_⟩
      by_cases e : j = n
      · subst e; exact ⟨Int.le_refl _, fun _ => Int.le_refl _⟩
      · by_cases hneg : best xs bs n < 0
        · exfalso
          have : ∀ m, best xs bs m < 0 → ∀ j, j < m → bs.getD j false = false := by
            intro m
            induction m with
            | zero => intro _ j hj; omega
            | succ m ihm =>
              intro hm j hj
              have hrm := best_range xs bs m
              have h2 : ¬ (bs.getD m false = true ∧ (best xs bs m < 0 ∨ (tenAt xs m).t < (tenAt xs (best xs bs m)).t)) := by
                intro h2; rw [best, if_pos h2] at hm; omega
              rw [best, if_neg h2] at hm
              by_cases e : j = m
              · subst e
                cases hb : bs.getD j false with
                | false => rfl
                | true => exact absurd ⟨hb, .inl hm⟩ h2
              · exact ihm hm j (by omega)
          have := this n hneg j (by omega)
          rw [this] at hbj; cases hbj
        · obtain ⟨_, i2⟩ := ih (by omega)
          have := i2 j (by omega) hbj
          have hlt : (tenAt xs n).t < (tenAt xs (best xs bs n)).t := hc.2.resolve_left hneg
          exact ⟨by omega, fun he => by omega⟩
    · have hb : best xs bs (n + 1) = best xs bs n := by rw [best, if_neg hc]
      rw [hb] at h ⊢
      obtain ⟨i1, i2⟩ := ih h
      refine ⟨i1, fun j hj hbj => ?_⟩
      by_cases e : j = n
      · subst e
        have : ¬ (tenAt xs j).t < (tenAt xs (best xs bs j)).t := fun hl => hc ⟨hbj, .inr hl⟩
        exact ⟨by omega, fun _ => by omega⟩
      · exact i2 j (by omega) hbj
theorem least_spec {xs : List Ten} {bs : List Bool} (h : leastE xs bs = 0) : bs.length = xs.length ∧ ∃ k : Nat, ∃ hk : k < xs.length, leastV xs bs = (k : Int) ∧ (∀ h : k < bs.length, bs[k] = true) ∧
    ∀ j, (hj : j < xs.length) → ∀ hb : j < bs.length, bs[j] = true → xs[k].t ≤ xs[j].t ∧ (xs[j].t = xs[k].t → k ≤ j) := by
  have h1 : chk xs = true ∧ bs.length = xs.length := by
    by_cases hh : chk xs = true ∧ bs.length = xs.length
    · exact hh
    · unfold leastE at h; rw [if_neg hh] at h; omega
  have h2 : 0 ≤ best xs bs xs.length := by
    by_cases hh : 0 ≤ best xs bs xs.length
    · exact hh
    · unfold leastE at h; rw [if_pos h1, if_neg hh] at h; omega
  have hr := best_range xs bs xs.length
  obtain ⟨k, hk⟩ := Int.eq_ofNat_of_zero_le h2
  obtain ⟨s1, s2⟩ := best_spec xs bs xs.length h2
  have hkl : k < xs.length := by omega
  refine ⟨h1.2, k, hkl, by rw [(least_some h1.1 h1.2 h2).2, hk], fun hb => ?_, fun j hj hb hbj => ?_⟩
  · rw [hk] at s1; simpa [hb] using s1
  · have := s2 j hj (by simpa [hb] using hbj)
    rw [hk, tenAt_nat hkl, tenAt_nat hj] at this
    exact ⟨this.1, fun he => by have := this.2 he; omega⟩
theorem leastE_three (xs : List Ten) (bs : List Bool) : leastE xs bs = 0 ∨ leastE xs bs = 1 ∨ leastE xs bs = 5 := by unfold leastE; split <;> (try split) <;> omega

set_option maxRecDepth 100000 in
set_option maxHeartbeats 4000000 in
theorem alone_law (A Ab : Option Addr) (c cb : Nat) (xs : List Ten) (bs : List Bool) (i u : Int) (w : World) (hx : Sl Ten.enc 5 w A xs) (hbs : Sl encB 1 w Ab bs) (hu : I64 u) (hbig : xs.length ≤ 9223372036854775807) :
    Calls Try.prog 4 #[.slice A xs.length c, .int .i64 i, .int .i64 u, .slice Ab bs.length cb] w fun e w' => e = .returned (.bool true) ∧ Below w.heap.size w w' := by
  by_cases h1 : 100 < xs.length
  · clear hu
    go_enter Try.func4, Try.ntmps4
    go_wp2_with (go_at_call 8; refine (live_any _).mono ?_; rintro e w1 ⟨rfl, hb1⟩)
    go_ret
    exact ⟨rfl, hb1⟩
  by_cases h2 : 100 < bs.length
  · clear hu
    go_enter Try.func4, Try.ntmps4
    go_wp2_with (go_at_call 8; refine (live_any _).mono ?_; rintro e w1 ⟨rfl, hb1⟩)
    go_ret
    exact ⟨rfl, hb1⟩
  have hch := fun W (h : Sl Ten.enc 5 W A xs) => charge_slice A c xs i u W h hbig hu
  have HG := Lib.hid (@charge_get xs i u)
  clear hu
  go_enter Try.func4, Try.ntmps4
  go_upto_if 37 with (go_at_call 8; refine (live_any _).mono ?_; rintro e w1 ⟨rfl, hb1⟩)
  refine (hch w1 (hx.below hb1)).mono ?_
  rintro e w2 ⟨A1, c1, rfl, hown, hb2⟩
  obtain ⟨A', c', hv, hs, _⟩ := hown.sl Ten.enc_length
  obtain ⟨rfl, rfl⟩ : A1 = A' ∧ c1 = c' := by simpa using hv
  have hbw := below_then hb1 hb2
  have hx2 := hx.below hbw
  clear hown hv hch hb1 hb2
  go_upto_if 37 with fail
  go_cut [10, 11, 12] (fun _ _ _ wr => Aside (Below w2.heap.size w2 wr))
  case first =>
    by_cases hE : chargeE xs i u = 0
    · obtain ⟨hlen, hget⟩ := HG.out hE
      rw [hE, hlen]
      have HGET := Lib.hid hget
      have HLEN := Lib.hid hlen
      clear hE hlen hget HG
      go_wp2_with fail
      go_loopg [12, 45] xs.length (fun gg _ s45 wr => ∃ kk : Nat, kk ≤ xs.length ∧ xs.length - kk ≤ gg ∧ s45 = .int .i64 kk ∧ Aside (Below w2.heap.size w2 wr))
      case atStart => exact ⟨0, Nat.zero_le _, by omega, rfl, Below.refl _ _⟩
      case round =>
        obtain ⟨kk, hkk, hgk, rfl, BW⟩ := hrel
        by_cases hlt : kk < xs.length
        · obtain ⟨b1, o1, rfl, c0, c1, c2, c3, c4⟩ := (hx2.below BW.out).ten_at kk hlt
          obtain ⟨b2, o2, rfl, d0, d1, d2, d3, d4⟩ := (hs.below BW.out).ten_at kk (by rw [HLEN.out]; exact hlt)
          obtain ⟨t', ht, hle, hne⟩ := HGET.out kk hlt (by rw [HLEN.out]; exact hlt)
          rw [ht] at d0 d1 d2 d3 d4
          simp only at d0 d1 d2 d3 d4
          have z0 : (0 : Int) ≤ (kk : Int) := by omega
          have z1 : (kk : Int) < (xs.length : Int) := by omega
          clear ht hx hx2 hs hbs
          by_cases hki : (kk : Int) = i
          · have hb : ((kk : Int) != i) = false := by simp [hki]
            have hb' : decide (t' < xs[kk].t) = false := by simp; omega
            have HK := Lib.hid hki
            clear hki hne
            go_wp2_with fail
            go_quiet (fail)
            go_wp2_with fail
            go_roundg (xs.length - (kk + 1))
            case measure => omega
            case rel => exact ⟨kk + 1, by omega, by omega, by go_num, below_drewN BW.out nq⟩
          · have hb : ((kk : Int) != i) = true := by simp [hki]
            obtain rfl := hne hki
            clear hki hne
            go_wp2_with fail
            go_quiet (fail)
            go_wp2_with fail
            go_roundg (xs.length - (kk + 1))
            case measure => omega
            case rel => exact ⟨kk + 1, by omega, by omega, by go_num, below_drewN BW.out nq⟩
        · go_wp2_with fail
          go_meet
          exact BW.out
    · have hb : (chargeE xs i u == 0) = false := by simpa using hE
      clear hE HG
      go_wp2_with fail
      go_meet
      exact Below.refl _ _
  case rest =>
    have BC := hcut
    clear hcut
    have hle := fun W (h : Sl Ten.enc 5 W A xs) (h' : Sl encB 1 W Ab bs) => least_any A Ab c cb xs bs W h h' hbig
    have HS := Lib.hid (@least_spec xs bs)
    clear hs HG
    by_cases hE : leastE xs bs = 0
    · obtain ⟨hlen, k, hk, hbest, hbusy, hall⟩ := HS.out hE
      rw [hE, hbest] at hle
      have HL := Lib.hid hlen
      have HA := Lib.hid hall
      have HBY := Lib.hid hbusy
      clear hE hbest hlen hall hbusy HS
      go_wp2_with fail
      refine (hle wc (hx2.below BC.out) ((hbs.below hbw).below BC.out)).mono ?_
      rintro e w3 ⟨rfl, hb3⟩
      have hx3 := (hx2.below BC.out).below hb3
      have hbs3 := ((hbs.below hbw).below BC.out).below hb3
      have hbw3 := below_then (below_then hbw BC.out) hb3
      clear hle hx hx2 hbs hb3 BC hbw
      go_wp2_with fail
      go_loopg [15, 121] xs.length (fun gg _ s121 wr => ∃ kk : Nat, kk ≤ xs.length ∧ xs.length - kk ≤ gg ∧ s121 = .int .i64 kk ∧ Aside (Below w3.heap.size w3 wr))
      case atStart => exact ⟨0, Nat.zero_le _, by omega, rfl, Below.refl _ _⟩
      case round =>
        obtain ⟨kk, hkk, hgk, rfl, BW⟩ := hrel
        by_cases hlt : kk < xs.length
        · have hltb : kk < bs.length := by rw [HL.out]; exact hlt
          obtain ⟨b1, o1, rfl, c0, c1, c2, c3, c4⟩ := (hx3.below BW.out).ten_at kk hlt
          obtain ⟨b2, o2, hA2, d0, d1, d2, d3, d4⟩ := (hx3.below BW.out).ten_at k hk
          obtain ⟨rfl, rfl⟩ : b1 = b2 ∧ o1 = o2 := by simpa using hA2
          obtain ⟨b3, o3, rfl, e0⟩ := (hbs3.below BW.out).bool_at kk hltb
          have a3 := fun o => cell_alloc d3 o
          have f0 := fun o => cell_alloc e0 o
          have z0 : (0 : Int) ≤ (kk : Int) := by omega
          have z1 : (kk : Int) < (xs.length : Int) := by omega
          have z2 : (kk : Int) < (bs.length : Int) := by omega
          have z3 : (0 : Int) ≤ (k : Int) := by omega
          have z4 : (k : Int) < (xs.length : Int) := by omega
          have hA := HA.out kk hlt hltb
          clear hx3 hbs3 hA2 d0 d1 d2 d3 d4
          cases hq : bs[kk] with
          | false =>
            rw [hq] at e0 f0
            clear hA hq
            go_wp2_with fail
            go_quiet (fail)
            go_wp2_with fail
            go_roundg (xs.length - (kk + 1))
            case measure => omega
            case rel => exact ⟨kk + 1, by omega, by omega, by go_num, below_drewN (BW.out.alloc BW.out.size _) nq⟩
          | true =>
            rw [hq] at e0 f0
            obtain ⟨l1, l2⟩ := hA hq
            clear hA hq
            have t1 : decide (xs[kk].t < xs[k].t) = false := by simp; exact l1
            by_cases heq : xs[kk].t = xs[k].t
            · have l3 := l2 heq
              have t3 : decide (kk < k) = false := by simp; omega
              rw [heq] at c3
              clear heq t1 l1 l2
              go_wp2_with fail
              go_quiet (fail)
              go_wp2_with fail
              go_roundg (xs.length - (kk + 1))
              case measure => omega
              case rel => exact ⟨kk + 1, by omega, by omega, by go_num, below_drewN (BW.out.alloc BW.out.size _) nq⟩
            · have t2 : (xs[kk].t == xs[k].t) = false := by simp [heq]
              clear heq l2
              go_wp2_with fail
              go_quiet (fail)
              go_wp2_with fail
              go_roundg (xs.length - (kk + 1))
              case measure => omega
              case rel => exact ⟨kk + 1, by omega, by omega, by go_num, below_drewN (BW.out.alloc BW.out.size _) nq⟩
        · have hkb : k < bs.length := by rw [HL.out]; exact hk
          obtain ⟨b3, o3, rfl, e0⟩ := (hbs3.below BW.out).bool_at k hkb
          rw [HBY.out hkb] at e0
          have z2 : (k : Int) < (bs.length : Int) := by omega
          have z3 : (0 : Int) ≤ (k : Int) := by omega
          go_wp2_with fail
          go_ret
          exact ⟨rfl, below_then hbw3 BW.out⟩
    · have hle2 : leastE xs bs = 1 ∨ leastE xs bs = 5 := by rcases leastE_three xs bs with h | h | h <;> omega
      have hbw4 := below_then hbw BC.out
      clear HS hE
      generalize leastV xs bs = q at *
      rcases hle2 with h | h
      all_goals
        rw [h] at hle
        clear h
        go_wp2_with fail
        refine (hle wc (hx2.below BC.out) ((hbs.below hbw).below BC.out)).mono ?_
        rintro e w3 ⟨rfl, hb3⟩
        go_wp2_with fail
        go_ret
        exact ⟨rfl, below_then hbw4 hb3⟩
end Go.Proofs.Ytcgddfpfmnpaeaa
