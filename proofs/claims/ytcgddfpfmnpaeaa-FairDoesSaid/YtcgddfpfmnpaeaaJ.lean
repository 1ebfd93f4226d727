/- Layer 15: the chapter's example. -/
import Derived.Test.YtcgddfpfmnpaeaaI
namespace Go.Proofs.Ytcgddfpfmnpaeaa
open Go.RowKit

theorem charge_slice (A : Option Addr) (c : Nat) (xs : List Ten) (i u : Int) (w : World) (hx : Sl Ten.enc 5 w A xs) (hbig : xs.length ≤ 9223372036854775807) (hu : I64 u) :
    Calls Try.prog 11 #[.slice A xs.length c, .int .i64 i, .int .i64 u] w (Gives w (chargeL xs i u) (chargeE xs i u)) := by
  by_cases h0 : 0 < xs.length
  · obtain ⟨b, off, rfl, hc⟩ := hx h0
    exact charge_any b off c _ xs i u w (fun _ => rfl) hx hbig hu
  · exact charge_any 0 0 c A xs i u w (fun h => absurd h h0) hx hbig hu
theorem refund_slice (A : Option Addr) (c : Nat) (xs : List Ten) (i u : Int) (w : World) (hx : Sl Ten.enc 5 w A xs) (hbig : xs.length ≤ 9223372036854775807) (hu : I64 u) :
    Calls Try.prog 14 #[.slice A xs.length c, .int .i64 i, .int .i64 u] w (Gives w (refundL xs i u) (refundE xs i u)) := by
  by_cases h0 : 0 < xs.length
  · obtain ⟨b, off, rfl, hc⟩ := hx h0
    exact refund_any b off c _ xs i u w (fun _ => rfl) hx hbig hu
  · exact refund_any 0 0 c A xs i u w (fun h => absurd h h0) hx hbig hu

def tt : List Bool := [true, true]
def st0 (a b : Int) : List Ten := newL [a, b] [1, 1]
def liveSt : Nat → List Ten
  | 0 => st0 1 2
  | n + 1 => chargeL (liveSt n) (leastV (liveSt n) tt) 1
def wants : List Int := [0, 1, 1, 0, 1, 1]
theorem live_facts (k : Nat) (hk : k < 6) : leastE (liveSt k) tt = 0 ∧ leastV (liveSt k) tt = wants.getD k 0 ∧ chargeE (liveSt k) (wants.getD k 0) 1 = 0 ∧ (liveSt k).length = 2 ∧ (liveSt (k + 1)).length = 2 := by
  match k, hk with
  | 0, _ => decide
  | 1, _ => decide
  | 2, _ => decide
  | 3, _ => decide
  | 4, _ => decide
  | 5, _ => decide
theorem live_start : chk (st0 1 2) = true := by decide

theorem new_two (a b : Int) (A B : Option Addr) (c d : Nat) (w : World) (ha : Sl encI 1 w A [a, b]) (hb : Sl encI 1 w B [1, 1]) (hc : chk (st0 a b) = true) :
    Calls Try.prog 9 #[.slice A 2 c, .slice B 2 d] w (Gives w (st0 a b) 0) := new_ok A B c d 2 [a, b] [1, 1] w ha hb rfl rfl (by omega) hc

set_option maxHeartbeats 2000000 in
theorem live_any (w : World) : Calls Try.prog 8 #[] w fun e w' => e = .returned (.bool true) ∧ Below w.heap.size w w' := by
  go_enter Try.func8, Try.ntmps8
  go_wp2_with fail
  refine (new_two 1 2 _ _ _ _ _ ?h1 ?h2 live_start).mono ?_
  case h1 => exact (sl_lit_at encI_length _ 3 _ _ _ (by simp) rfl).alloc _
  case h2 => exact sl_lit_at encI_length _ 3 _ _ _ (by simp) rfl
  rintro e w1 ⟨A, c, rfl, hown, hb1⟩
  have hbw : Below w.heap.size w w1 := (((Below.refl _ _).alloc (Nat.le_refl _) _).alloc (by simp) _).trans (hb1.mono (by simp; omega))
  obtain ⟨A', c', hv, hs0, _⟩ := hown.sl Ten.enc_length
  obtain ⟨rfl, rfl⟩ : A = A' ∧ c = c' := by simp only [Value.slice.injEq, true_and] at hv; exact hv
  clear hown hb1 hv
  go_wp2_with fail
  have hl0 : Sl encI 1 (w1.alloc (.cells #[.int .i64 0, .int .i64 1, .int .i64 1, .int .i64 0, .int .i64 1, .int .i64 1] 3)) (some ⟨w1.heap.size, 0, none⟩) wants := sl_lit_at encI_length _ 3 _ _ _ rfl rfl
  have hs1 := hs0.alloc (.cells #[.int .i64 0, .int .i64 1, .int .i64 1, .int .i64 0, .int .i64 1, .int .i64 1] 3)
  have hb2 : Below w.heap.size w (w1.alloc (.cells #[.int .i64 0, .int .i64 1, .int .i64 1, .int .i64 0, .int .i64 1, .int .i64 1] 3)) := hbw.alloc hbw.size _
  generalize (w1.alloc (.cells #[.int .i64 0, .int .i64 1, .int .i64 1, .int .i64 0, .int .i64 1, .int .i64 1] 3)) = w2 at *
  generalize w1.heap.size = g at *
  clear hs0 hbw
  go_loopg [1, 19] 6 (fun gg s1 s19 wr => ∃ kk : Nat, kk ≤ 6 ∧ 6 - kk ≤ gg ∧ s19 = .int .i64 kk ∧ Aside (Below w2.heap.size w2 wr) ∧ (∃ A c, s1 = .slice A 2 c ∧ Aside (Sl Ten.enc 5 wr A (liveSt kk))))
  case atStart => exact ⟨0, Nat.zero_le _, by omega, rfl, Below.refl _ _, A, c, rfl, hs1⟩
  case round =>
    clear hs1
    obtain ⟨kk, hkk, hgk, rfl, BW, A, c, rfl, HS⟩ := hrel
    by_cases hlt : kk < 6
    · have HF := Lib.hid (live_facts kk hlt)
      obtain ⟨b', off', hA, c0⟩ := (hl0.below BW.out).int_at kk hlt
      obtain ⟨rfl, rfl⟩ : g = b' ∧ 0 = off' := by simpa using hA
      have hle : ∀ W (Ab : Option Addr) (_ : Sl Ten.enc 5 W A (liveSt kk)) (_ : Sl encB 1 W Ab tt), Calls Try.prog 10 #[.slice A 2 c, .slice Ab 2 2] W fun e w' => e = .returned (.tuple #[.int .i64 (wants.getD kk 0), .int .i64 0]) ∧ Below W.heap.size W w' := by
        intro W Ab h h'
        have := least_any A Ab c 2 (liveSt kk) tt W h h' (by rw [HF.out.2.2.2.1]; omega)
        rw [HF.out.1, HF.out.2.1, HF.out.2.2.2.1] at this
        exact this
      have hch := fun W (h : Sl Ten.enc 5 W A (liveSt kk)) => charge_slice A c (liveSt kk) (wants.getD kk 0) 1 W h (by rw [HF.out.2.2.2.1]; omega) (by unfold I64; omega)
      rw [HF.out.2.2.1, HF.out.2.2.2.1] at hch
      have c1 : wr.cell? ⟨g, kk, none⟩ = some (.int .i64 (wants.getD kk 0)) := by rw [Nat.zero_add] at c0; rw [c0]; simp [hlt, wants]
      clear c0 hA
      have h6 : (kk : Int) < 6 := by omega
      have h0 : (0 : Int) ≤ kk := by omega
      generalize wants.getD kk 0 = want at *
      go_wp2_with fail
      refine (hle _ (some ⟨wr.heap.size, 0, none⟩) (HS.out.alloc _) (sl_lit_at encB_length _ 4 _ _ _ rfl rfl)).mono ?_
      rintro e w3 ⟨rfl, hb3⟩
      have hb4 : Below wr.heap.size wr w3 := below_then ((Below.refl _ _).alloc (Nat.le_refl _) _) hb3
      clear hb3
      go_wp2_with fail
      refine (hch _ (HS.out.below hb4)).mono ?_
      rintro e w4 ⟨A', c', rfl, hown, hb5⟩
      obtain ⟨A'', c'', hv, hs, _⟩ := hown.sl Ten.enc_length
      obtain ⟨rfl, rfl⟩ : A' = A'' ∧ c' = c'' := by simpa using hv
      have hcl : chargeL (liveSt kk) want 1 = liveSt (kk + 1) := by rw [liveSt, HF.out.2.1]
      have hlen : (chargeL (liveSt kk) want 1).length = 2 := by rw [hcl]; exact HF.out.2.2.2.2
      have HX : Hid (Sl Ten.enc 5 w4 A' (liveSt (kk + 1))) := by rw [hcl] at hs; exact hs
      rw [hlen]
      clear hown hv hs hlen hcl
      go_wp2_with fail
      go_roundg (6 - (kk + 1))
      case measure => omega
      case rel => exact ⟨kk + 1, by omega, by omega, by go_num, below_then BW.out (below_then hb4 hb5), A', c', rfl, HX.out⟩
    · have hk6 : kk = 6 := by omega
      subst hk6
      go_wp2_with fail
      go_ret
      exact ⟨rfl, below_then hb2 BW.out⟩
end Go.Proofs.Ytcgddfpfmnpaeaa
