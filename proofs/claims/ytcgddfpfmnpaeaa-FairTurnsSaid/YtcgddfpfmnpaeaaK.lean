/- Layer 15: FairTurns. -/
import Derived.Test.YtcgddfpfmnpaeaaJ
namespace Go.Proofs.Ytcgddfpfmnpaeaa
open Go.RowKit

def tl (a b : Int) (x y : Nat) : List Ten := [⟨a, 1, 0, x * (720720 / a), 0⟩, ⟨b, 1, 0, y * (720720 / b), 0⟩]
theorem div_mul16 {a : Int} (h1 : 1 ≤ a) (h2 : a ≤ 16) : 720720 / a * a = 720720 := by
  have : a = 1 ∨ a = 2 ∨ a = 3 ∨ a = 4 ∨ a = 5 ∨ a = 6 ∨ a = 7 ∨ a = 8 ∨ a = 9 ∨ a = 10 ∨ a = 11 ∨ a = 12 ∨ a = 13 ∨ a = 14 ∨ a = 15 ∨ a = 16 := by omega
  rcases this with rfl | rfl | rfl | rfl | rfl | rfl | rfl | rfl | rfl | rfl | rfl | rfl | rfl | rfl | rfl | rfl <;> rfl
theorem cross {a b x y : Int} (a1 : 1 ≤ a) (a2 : a ≤ 16) (b1 : 1 ≤ b) (b2 : b ≤ 16) (h : x * (720720 / a) ≤ y * (720720 / b)) : x * b ≤ y * a := by
  have ha := div_mul16 a1 a2
  have hb := div_mul16 b1 b2
  have h1 := Int.mul_le_mul_of_nonneg_right h (show (0 : Int) ≤ a * b from Int.mul_nonneg (by omega) (by omega))
  have e1 : x * (720720 / a) * (a * b) = x * b * (720720 / a * a) := by ac_rfl
  have e2 : y * (720720 / b) * (a * b) = y * a * (720720 / b * b) := by ac_rfl
  rw [e1, e2, ha, hb] at h1
  omega
theorem cross_lt {a b x y : Int} (a1 : 1 ≤ a) (a2 : a ≤ 16) (b1 : 1 ≤ b) (b2 : b ≤ 16) (h : y * (720720 / b) < x * (720720 / a)) : y * a ≤ x * b := cross b1 b2 a1 a2 (Int.le_of_lt h)
theorem tag_le {a : Int} {x : Nat} (h1 : 1 ≤ a) (h2 : a ≤ 16) (hx : x ≤ 256) : 0 ≤ (x : Int) * (720720 / a) ∧ (x : Int) * (720720 / a) ≤ 184504320 := by
  have := one_pos h1 h2
  refine ⟨Int.mul_nonneg (by omega) (by omega), ?_⟩
  have := Int.mul_le_mul (show (x : Int) ≤ 256 from by omega) this.2 (by omega) (by omega)
  omega
theorem tl_chk {a b : Int} {x y : Nat} (a1 : 1 ≤ a) (a2 : a ≤ 16) (b1 : 1 ≤ b) (b2 : b ≤ 16) (hx : x ≤ 256) (hy : y ≤ 256) : chk (tl a b x y) = true := by
  have h1 := tag_le a1 a2 hx
  have h2 := tag_le b1 b2 hy
  have k1 : Ten.ok ⟨a, 1, 0, x * (720720 / a), 0⟩ = true := by
    unfold Ten.ok wi maxTag maxRan; simp only [Bool.and_eq_true, decide_eq_true_eq]; omega
  have k2 : Ten.ok ⟨b, 1, 0, y * (720720 / b), 0⟩ = true := by
    unfold Ten.ok wi maxTag maxRan; simp only [Bool.and_eq_true, decide_eq_true_eq]; omega
  unfold chk tl
  simp [k1, k2]
theorem tl_best {a b : Int} {x y : Nat} : best (tl a b x y) tt (tl a b x y).length = if (y : Int) * (720720 / b) < (x : Int) * (720720 / a) then 1 else 0 := by
  show best (tl a b x y) tt 2 = _
  simp only [best, tt, tenAt, tl]
  simp
theorem tl_least {a b : Int} {x y : Nat} (a1 : 1 ≤ a) (a2 : a ≤ 16) (b1 : 1 ≤ b) (b2 : b ≤ 16) (hx : x ≤ 256) (hy : y ≤ 256) :
    leastE (tl a b x y) tt = 0 ∧ leastV (tl a b x y) tt = if (y : Int) * (720720 / b) < (x : Int) * (720720 / a) then 1 else 0 := by
  have := least_some (xs := tl a b x y) (bs := tt) (tl_chk a1 a2 b1 b2 hx hy) rfl (by rw [tl_best]; split <;> omega)
  rw [tl_best] at this
  exact this
theorem cost_one {a : Int} (a1 : 1 ≤ a) (a2 : a ≤ 16) : costV a 1 = 720720 / a ∧ costE a 1 = 0 := by
  have := one_pos a1 a2
  have h := cost_fits (w := a) (u := 1) a1 a2 (by omega) (by omega)
  rw [Int.one_mul] at h
  exact h
theorem tl_charge0 {a b : Int} {x y : Nat} (a1 : 1 ≤ a) (a2 : a ≤ 16) (b1 : 1 ≤ b) (b2 : b ≤ 16) (hx : x ≤ 256) (hy : y ≤ 256) : chargeE (tl a b x y) 0 1 = 0 ∧ chargeL (tl a b x y) 0 1 = tl a b (x + 1) y := by
  have h1 := tag_le a1 a2 hx
  have h2 := one_pos a1 a2
  have hc := cost_one a1 a2
  have hf : findE (tl a b x y) 0 = 0 := findE_in (tl_chk a1 a2 b1 b2 hx hy) (by omega) (by show (0 : Int) < 2; omega)
  have ht : tenAt (tl a b x y) 0 = ⟨a, 1, 0, x * (720720 / a), 0⟩ := rfl
  have hE : chargeE (tl a b x y) 0 1 = 0 := by
    unfold chargeE; rw [if_neg (by rw [hf]; simp), ht]; simp only [hc.1, hc.2, maxTag]; rw [if_neg (by simp), if_neg (by omega)]
  refine ⟨hE, ?_⟩
  unfold chargeL setTag; rw [if_pos hE, ht]; simp only [hc.1]
  show [(⟨a, 1, 0, _, 0⟩ : Ten), _] = _
  unfold tl
  rw [Int.natCast_add, Int.add_mul]
  simp
theorem tl_charge1 {a b : Int} {x y : Nat} (a1 : 1 ≤ a) (a2 : a ≤ 16) (b1 : 1 ≤ b) (b2 : b ≤ 16) (hx : x ≤ 256) (hy : y ≤ 256) : chargeE (tl a b x y) 1 1 = 0 ∧ chargeL (tl a b x y) 1 1 = tl a b x (y + 1) := by
  have h1 := tag_le b1 b2 hy
  have h2 := one_pos b1 b2
  have hc := cost_one b1 b2
  have hf : findE (tl a b x y) 1 = 0 := findE_in (tl_chk a1 a2 b1 b2 hx hy) (by omega) (by show (1 : Int) < 2; omega)
  have ht : tenAt (tl a b x y) 1 = ⟨b, 1, 0, y * (720720 / b), 0⟩ := rfl
  have hE : chargeE (tl a b x y) 1 1 = 0 := by
    unfold chargeE; rw [if_neg (by rw [hf]; simp), ht]; simp only [hc.1, hc.2, maxTag]; rw [if_neg (by simp), if_neg (by omega)]
  refine ⟨hE, ?_⟩
  unfold chargeL setTag; rw [if_pos hE, ht]; simp only [hc.1]
  show [_, (⟨b, 1, 0, _, 0⟩ : Ten)] = _
  unfold tl
  rw [Int.natCast_add, Int.add_mul]
  simp
theorem tl_zero (a b : Int) : st0 a b = tl a b 0 0 := by unfold st0 newL tl; simp

/-- What the law asks. -/
def Owed (a b : Int) (x y : Nat) : Prop := ((x : Int) - 1) * b ≤ (y : Int) * a ∧ ((y : Int) - 1) * a ≤ (x : Int) * b
theorem owed_zero {a b : Int} (a1 : 1 ≤ a) (b1 : 1 ≤ b) : Owed a b 0 0 := by unfold Owed; constructor <;> simp <;> omega
theorem owed_x {a b : Int} {x y : Nat} (b1 : 1 ≤ b) (h : Owed a b x y) (hl : (x : Int) * b ≤ (y : Int) * a) : Owed a b (x + 1) y := by
  unfold Owed at *
  refine ⟨?_, ?_⟩
  · rw [show (((x + 1 : Nat) : Int) - 1) = (x : Int) from by omega]; exact hl
  · have := h.2
    rw [Int.natCast_add, Int.add_mul (x : Int)]; omega
theorem owed_y {a b : Int} {x y : Nat} (a1 : 1 ≤ a) (h : Owed a b x y) (hl : (y : Int) * a ≤ (x : Int) * b) : Owed a b x (y + 1) := by
  unfold Owed at *
  refine ⟨?_, ?_⟩
  · have := h.1
    rw [Int.natCast_add, Int.add_mul (y : Int)]; omega
  · rw [show (((y + 1 : Nat) : Int) - 1) = (y : Int) from by omega]; exact hl
theorem prod_bd {x b : Int} (h1 : -1 ≤ x) (h2 : x ≤ 256) (b1 : 1 ≤ b) (b2 : b ≤ 16) : -16 ≤ x * b ∧ x * b ≤ 4096 := by
  have k1 := Int.mul_le_mul_of_nonneg_right h2 (show (0 : Int) ≤ b from by omega)
  have k2 := Int.mul_le_mul_of_nonneg_right h1 (show (0 : Int) ≤ b from by omega)
  omega

set_option maxHeartbeats 4000000 in
theorem turns_law (a b : Int) (T : Nat) (w : World) (hT : T ≤ 255) : Calls Try.prog 3 #[.int .i64 a, .int .i64 b, .int .u8 T] w fun e w' => e = .returned (.bool true) ∧ Below w.heap.size w w' := by
  by_cases hab : 1 ≤ a ∧ a ≤ 16 ∧ 1 ≤ b ∧ b ≤ 16
  case neg =>
    by_cases h1 : a < 1
    all_goals (try by_cases h2 : 16 < a)
    all_goals (try by_cases h3 : b < 1)
    all_goals
      go_enter Try.func3, Try.ntmps3
      go_wp2_with (go_at_call 8; refine (live_any _).mono ?_; rintro e w1 ⟨rfl, hb1⟩)
      go_ret
      exact ⟨rfl, hb1⟩
  case pos =>
    obtain ⟨a1, a2, b1, b2⟩ := hab
    have hck : chk (st0 a b) = true := by rw [tl_zero]; exact tl_chk a1 a2 b1 b2 (by omega) (by omega)
    have HO0 := Lib.hid (owed_zero a1 b1)
    go_enter Try.func3, Try.ntmps3
    go_wp2_with (go_at_call 8; refine (live_any _).mono ?_; rintro e w1 ⟨rfl, hb1⟩)
    refine (new_two a b _ _ _ _ _ ?h1 ?h2 hck).mono ?_
    case h1 => exact (sl_lit_at encI_length _ 3 _ _ _ (by simp) rfl).alloc _
    case h2 => exact sl_lit_at encI_length _ 3 _ _ _ (by simp) rfl
    rintro e w2 ⟨A, c, rfl, hown, hb2⟩
    have hbw : Below w.heap.size w w2 := hb1.trans ((((Below.refl _ _).alloc (Nat.le_refl _) _).alloc (by simp) _).trans (hb2.mono (by simp; omega)) |>.mono hb1.size)
    obtain ⟨A', c', hv, hs0, _⟩ := hown.sl Ten.enc_length
    obtain ⟨rfl, rfl⟩ : A = A' ∧ c = c' := by simp only [Value.slice.injEq, true_and] at hv; exact hv
    rw [tl_zero] at hs0
    clear hown hb1 hb2 hv hck
    rw [show (st0 a b).length = 2 from rfl]
    go_wp2_with fail
    go_loopg [8, 10, 11, 45] T (fun gg s8 s10 s11 s45 wr => ∃ x y : Nat, x + y ≤ T ∧ T - (x + y) ≤ gg ∧ s45 = .int .u8 ((x : Int) + (y : Int)) ∧ s10 = .int .i64 x ∧ s11 = .int .i64 y ∧ Aside (Owed a b x y) ∧ Aside (Below w2.heap.size w2 wr) ∧ (∃ A c, s8 = .slice A 2 c ∧ Aside (Sl Ten.enc 5 wr A (tl a b x y))))
    case atStart => exact ⟨0, 0, by omega, by omega, rfl, rfl, rfl, HO0.out, Below.refl _ _, A, c, rfl, hs0⟩
    case round =>
      clear hs0
      obtain ⟨x, y, hxy, hgk, rfl, rfl, rfl, OW, BW, A, c, rfl, HS⟩ := hrel
      by_cases hlt : x + y < T
      · have hle : ∀ W (Ab : Option Addr) (_ : Sl Ten.enc 5 W A (tl a b x y)) (_ : Sl encB 1 W Ab tt), Calls Try.prog 10 #[.slice A 2 c, .slice Ab 2 2] W fun e w' => e = .returned (.tuple #[.int .i64 (leastV (tl a b x y) tt), .int .i64 0]) ∧ Below W.heap.size W w' := by
          intro W Ab h h'
          have := least_any A Ab c 2 (tl a b x y) tt W h h' (by show 2 ≤ _; omega)
          rw [(tl_least a1 a2 b1 b2 (by omega) (by omega)).1] at this
          exact this
        rw [(tl_least a1 a2 b1 b2 (by omega) (by omega)).2] at hle
        by_cases hless : (y : Int) * (720720 / b) < (x : Int) * (720720 / a)
        · rw [if_pos hless] at hle
          have hch : ∀ W (_ : Sl Ten.enc 5 W A (tl a b x y)), Calls Try.prog 11 #[.slice A 2 c, .int .i64 1, .int .i64 1] W (Gives W (tl a b x (y + 1)) 0) := by
            intro W h
            have := charge_slice A c (tl a b x y) 1 1 W h (by show 2 ≤ _; omega) (by unfold I64; omega)
            rw [(tl_charge1 a1 a2 b1 b2 (by omega) (by omega)).1, (tl_charge1 a1 a2 b1 b2 (by omega) (by omega)).2] at this
            exact this
          have hcr := cross_lt a1 a2 b1 b2 hless
          have HOW := Lib.hid (owed_y a1 OW.out hcr)
          have t1 : ((x : Int) - 1) * b ≤ ((y : Int) + 1) * a := by have := HOW.out.1; rwa [Int.natCast_add] at this
          have p1 := prod_bd (x := (x : Int) - 1) (b := b) (by omega) (by omega) b1 b2
          have p2 := prod_bd (x := (y : Int) + 1) (b := a) (by omega) (by omega) a1 a2
          have p3 := prod_bd (x := (x : Int)) (b := b) (by omega) (by omega) b1 b2
          have p4 := prod_bd (x := (y : Int)) (b := a) (by omega) (by omega) a1 a2
          clear hless
          go_wp2_with fail
          refine (hle _ (some ⟨wr.heap.size, 0, none⟩) (HS.out.alloc _) (sl_lit_at encB_length _ 4 _ _ _ rfl rfl)).mono ?_
          rintro e w3 ⟨rfl, hb3⟩
          have hb4 : Below wr.heap.size wr w3 := below_then ((Below.refl _ _).alloc (Nat.le_refl _) _) hb3
          clear hb3
          go_wp2_with fail
          refine (hch _ (HS.out.below hb4)).mono ?_
          rintro e w4 ⟨A', c', rfl, hown, hb5⟩
          obtain ⟨A'', c'', hv, hs, _⟩ := hown.sl Ten.enc_length
          obtain ⟨rfl, rfl⟩ : A' = A'' ∧ c' = c'' := by simpa using hv
          rw [show (tl a b x (y + 1)).length = 2 from rfl]
          clear hown hv
          go_wp2_with fail
          go_roundg (T - (x + (y + 1)))
          case measure => omega
          case rel => exact ⟨x, y + 1, by omega, by omega, by go_num, rfl, by go_num, HOW.out, below_then BW.out (below_then hb4 hb5), A', c', rfl, hs⟩
        · rw [if_neg hless] at hle
          have hch : ∀ W (_ : Sl Ten.enc 5 W A (tl a b x y)), Calls Try.prog 11 #[.slice A 2 c, .int .i64 0, .int .i64 1] W (Gives W (tl a b (x + 1) y) 0) := by
            intro W h
            have := charge_slice A c (tl a b x y) 0 1 W h (by show 2 ≤ _; omega) (by unfold I64; omega)
            rw [(tl_charge0 a1 a2 b1 b2 (by omega) (by omega)).1, (tl_charge0 a1 a2 b1 b2 (by omega) (by omega)).2] at this
            exact this
          have hcr := cross a1 a2 b1 b2 (Int.not_lt.1 hless)
          have HOW := Lib.hid (owed_x b1 OW.out hcr)
          have t2 : ((y : Int) - 1) * a ≤ ((x : Int) + 1) * b := by have := HOW.out.2; rwa [Int.natCast_add] at this
          have p1 := prod_bd (x := (y : Int) - 1) (b := a) (by omega) (by omega) a1 a2
          have p2 := prod_bd (x := (x : Int) + 1) (b := b) (by omega) (by omega) b1 b2
          have p3 := prod_bd (x := (x : Int)) (b := b) (by omega) (by omega) b1 b2
          have p4 := prod_bd (x := (y : Int)) (b := a) (by omega) (by omega) a1 a2
          clear hless
          go_wp2_with fail
          refine (hle _ (some ⟨wr.heap.size, 0, none⟩) (HS.out.alloc _) (sl_lit_at encB_length _ 4 _ _ _ rfl rfl)).mono ?_
          rintro e w3 ⟨rfl, hb3⟩
          have hb4 : Below wr.heap.size wr w3 := below_then ((Below.refl _ _).alloc (Nat.le_refl _) _) hb3
          clear hb3
          go_wp2_with fail
          refine (hch _ (HS.out.below hb4)).mono ?_
          rintro e w4 ⟨A', c', rfl, hown, hb5⟩
          obtain ⟨A'', c'', hv, hs, _⟩ := hown.sl Ten.enc_length
          obtain ⟨rfl, rfl⟩ : A' = A'' ∧ c' = c'' := by simpa using hv
          rw [show (tl a b (x + 1) y).length = 2 from rfl]
          clear hown hv
          go_wp2_with fail
          go_roundg (T - ((x + 1) + y))
          case measure => omega
          case rel => exact ⟨x + 1, y, by omega, by omega, by go_num, by go_num, rfl, HOW.out, below_then BW.out (below_then hb4 hb5), A', c', rfl, hs⟩
      · have hT' : x + y = T := by omega
        go_wp2_with fail
        go_ret
        refine ⟨ret_bool ?_, below_then hbw BW.out⟩
        rw [← hT', Int.natCast_add]
        exact beq_self_eq_true _
end Go.Proofs.Ytcgddfpfmnpaeaa
