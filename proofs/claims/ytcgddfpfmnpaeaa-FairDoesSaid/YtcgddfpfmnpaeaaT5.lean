/- Layer 15: FairDoes, walked. -/
import Derived.Test.YtcgddfpfmnpaeaaR5
namespace Go.Proofs.Ytcgddfpfmnpaeaa
open Go.RowKit

/-- An own row, when one has turned. -/
def Ows (n : Nat) (base : Nat) (w : World) (A : Option Addr) (c : Nat) : Prop := ∃ ys : List Ten, ys.length = n ∧ Own Ten.enc 5 34 base w (.slice A n c) ys
theorem Ows.at_ {n base : Nat} {w : World} {g c : Nat} (h : Ows n base w (some ⟨g, 0, none⟩) c) (m : Nat) (hm : m < n) : base ≤ g ∧ ∃ v, w.cell? ⟨g, m * 5 + 3, none⟩ = some (.int .i64 v) ∧ w.frozen? ⟨g, m * 5 + 3, none⟩ = false ∧ ∀ u, Ows n base (w.setCell ⟨g, m * 5 + 3, none⟩ (.int .i64 u)) (some ⟨g, 0, none⟩) c := by
  obtain ⟨ys, rfl, ho⟩ := h
  obtain ⟨_, _, _, c3, _, hf⟩ := own_cells ho m hm
  exact ⟨own_base_le ho hm, _, c3, hf _, fun u => ⟨ys.set m { ys[m] with t := u }, List.length_set, by have := own_setTag ho m hm u; rw [List.length_set] at this; exact this⟩⟩
theorem Ows.form {n base : Nat} {w : World} {A : Option Addr} {c : Nat} (h : Ows n base w A c) (h0 : 0 < n) : ∃ g, A = some ⟨g, 0, none⟩ := by
  obtain ⟨ys, rfl, ho⟩ := h
  obtain ⟨g, cap, hv, _, _⟩ := own_form ho h0
  simp only [Value.slice.injEq] at hv
  exact ⟨g, hv.1⟩
theorem Ows.below {n base : Nat} {w w' : World} {A : Option Addr} {c : Nat} (h : Ows n base w A c) (hb : Below w.heap.size w w') : Ows n base w' A c := by
  obtain ⟨ys, hl, ho⟩ := h
  exact ⟨ys, hl, Own.below ho hb⟩
theorem chargeL_len (xs : List Ten) (i u : Int) : (chargeL xs i u).length ≤ xs.length := by unfold chargeL setTag; split <;> simp
theorem refundL_len (xs : List Ten) (i u : Int) : (refundL xs i u).length ≤ xs.length := by unfold refundL setTag; split <;> simp
theorem wakeL_len (xs : List Ten) (bs : List Bool) (i : Int) : (wakeL xs bs i).length ≤ xs.length := by unfold wakeL setTag; split <;> (try split) <;> simp
theorem own_sl {w : World} {base : Nat} {A : Option Addr} {n c : Nat} {r : List Ten} (h : Own Ten.enc 5 34 base w (.slice A n c) r) : Sl Ten.enc 5 w A r := by
  obtain ⟨A', c', hv, hs, _⟩ := h.sl Ten.enc_length
  simp only [Value.slice.injEq] at hv
  rw [hv.1]; exact hs

set_option maxRecDepth 100000 in
set_option maxHeartbeats 8000000 in
theorem does_any (A Ab : Option Addr) (c cb : Nat) (xs : List Ten) (bs : List Bool) (i k u wt : Int) (w : World) (hx : Sl Ten.enc 5 w A xs) (hbs : Sl encB 1 w Ab bs) (hu : I64 u) (hbig : xs.length ≤ 9223372036854775807) :
    Calls Try.prog 7 #[.slice A xs.length c, .int .i64 i, .int .i64 k, .int .i64 u, .slice Ab bs.length cb, .int .i64 wt] w fun e w' => e = .returned (.bool true) ∧ Below w.heap.size w w' := by
  by_cases h100 : 100 < xs.length
  · go_enter Try.func7, Try.ntmps7
    go_wp2_with fail
    refine (live_any w).mono ?_
    rintro e w1 ⟨rfl, hb1⟩
    go_wp2_with fail
    go_ret
    exact ⟨rfl, hb1⟩
  by_cases h101 : 100 < bs.length
  · go_enter Try.func7, Try.ntmps7
    go_wp2_with fail
    refine (live_any w).mono ?_
    rintro e w1 ⟨rfl, hb1⟩
    go_wp2_with fail
    go_ret
    exact ⟨rfl, hb1⟩
  · obtain ⟨i0, hi0, hz0, hz1, hz2⟩ := info_parts info34
    have L0 := chargeL_len xs i u
    have L1 := refundL_len xs i u
    have L2 := wakeL_len xs bs i
    have O0 := fun W (h : Sl Ten.enc 5 W A xs) => charge_slice A c xs i u W h hbig hu
    have R0 := fun W (h : Sl Ten.enc 5 W A xs) => refCharge_any A c xs i u W h
    have O1 := fun W (h : Sl Ten.enc 5 W A xs) => refund_slice A c xs i u W h hbig hu
    have R1 := fun W (h : Sl Ten.enc 5 W A xs) => refRefund_any A c xs i u W h
    have O2 := fun W (h : Sl Ten.enc 5 W A xs) (h' : Sl encB 1 W Ab bs) => wake_slice A Ab c cb xs bs i W h h' hbig
    have R2 := fun W (h : Sl Ten.enc 5 W A xs) (h' : Sl encB 1 W Ab bs) => refWake_any A Ab c cb xs bs i W h h' hbig
    have O3 := fun W (h : Sl Ten.enc 5 W A xs) (h' : Sl encB 1 W Ab bs) => least_any A Ab c cb xs bs W h h' hbig
    have R3 := fun W (h : Sl Ten.enc 5 W A xs) (h' : Sl encB 1 W Ab bs) => refLeast_any A Ab c cb xs bs W h h' hbig
    have O4 := fun W (h : Sl Ten.enc 5 W A xs) => gap_any A c xs i k W h hbig
    have R4 := fun W (h : Sl Ten.enc 5 W A xs) => refGap_any A c xs i k W h
    have O5 := fun W => cost_any wt u hu W
    have R5 := fun W => refCost_any wt u W
    have M := fun B d W (h : Sl Ten.enc 5 W A xs) (k : Sl Ten.enc 5 W B xs) => refSame_ten A B c d xs W h k hbig
    have Q0 := fun A' B' c' d' W h1 h2 => refSame_ten A' B' c' d' (chargeL xs i u) W h1 h2 (by omega)
    have Q1 := fun A' B' c' d' W h1 h2 => refSame_ten A' B' c' d' (refundL xs i u) W h1 h2 (by omega)
    have Q2 := fun A' B' c' d' W h1 h2 => refSame_ten A' B' c' d' (wakeL xs bs i) W h1 h2 (by omega)
    have B0 : (chargeL xs i u).length ≤ 100 := by omega
    clear L0 L1 L2 hu
    generalize chargeL xs i u = l0 at *
    generalize chargeE xs i u = e0 at *
    generalize refundL xs i u = l1 at *
    generalize refundE xs i u = e1 at *
    generalize wakeL xs bs i = l2 at *
    generalize wakeE xs bs i = e2 at *
    generalize leastV xs bs = v3 at *
    generalize leastE xs bs = e3 at *
    generalize gapV xs i k = v4 at *
    generalize gapE xs i k = e4 at *
    generalize costV wt u = v5 at *
    generalize costE wt u = e5 at *
    have hbytes : xs.length * 40 ≤ 140737488355328 := by omega
    have hml : xs.length ≤ maxLen := by unfold maxLen; omega
    go_enter Try.func7, Try.ntmps7
    go_wp2_with fail
    refine (live_any w).mono ?_
    rintro e w1 ⟨rfl, hb1⟩
    have hx1 := hx.below hb1
    go_wp2_with (at_builtin; go_must (refine wpList_append_sl rfl (.const (.slice none 0 0)) (.tmp 53) 23 rfl w1.heap.size 34 i0 _ 40 Try.underlying23 hi0 hz0 hz1 hz2 rfl (by decide) Ten.enc_length Ten.enc_one (.slice none 0 0) [] rfl (Own.none_ _ _) A c xs rfl hx1 (by simpa using hml) (by simpa using hbytes) (Nat.le_refl _) ?_); intro v' w2 hown2 hg2)
    have B2 : Below w.heap.size w w2 := hb1.grown hg2 hb1.size (fun k hk => by simp [Value.ownBlock] at hk)
    have hb2 : Below w1.heap.size w1 w2 := (Below.refl _ _).grown hg2 (Nat.le_refl _) (fun k hk => by simp [Value.ownBlock] at hk)
    have hx2 := hx1.below hb2
    have hy2 := hbs.below B2
    rw [List.nil_append] at hown2
    obtain ⟨Aw, dw, rfl, sw2, _⟩ := hown2.sl Ten.enc_length
    have W2 : Below w2.heap.size w2 w2 := Below.refl _ _
    clear hown2 hg2 hb1 hb2 hx1
    go_wp2_with fail
    refine (O0 w2 (hx2.below W2)).mono ?_
    rintro e w3 ⟨A3, c3, rfl, o3, hb3⟩
    have W3 := below_then W2 hb3
    have OW : Ows l0.length w2.heap.size w3 A3 c3 := ⟨l0, rfl, o3⟩
    have SA := own_sl o3
    clear o3
    go_wp2_with fail
    refine (R0 w3 (hx2.below W3)).mono ?_
    rintro e w4 ⟨A4, c4, rfl, o4, hb4⟩
    have W4 := below_then W3 hb4
    have OWn := OW.below hb4; clear OW; have OW := OWn; clear OWn
    have SAn := SA.below hb4; clear SA; have SA := SAn; clear SAn
    have S4 := own_sl o4
    clear o4
    clear hb4 W3
    go_wp2_with fail
    refine (O1 w4 (hx2.below W4)).mono ?_
    rintro e w5 ⟨A5, c5, rfl, o5, hb5⟩
    have W5 := below_then W4 hb5
    have OWn := OW.below hb5; clear OW; have OW := OWn; clear OWn
    have SAn := SA.below hb5; clear SA; have SA := SAn; clear SAn
    have S4n := S4.below hb5; clear S4; have S4 := S4n; clear S4n
    have S5 := own_sl o5
    clear o5
    clear hb5 W4
    go_wp2_with fail
    refine (R1 w5 (hx2.below W5)).mono ?_
    rintro e w6 ⟨A6, c6, rfl, o6, hb6⟩
    have W6 := below_then W5 hb6
    have OWn := OW.below hb6; clear OW; have OW := OWn; clear OWn
    have SAn := SA.below hb6; clear SA; have SA := SAn; clear SAn
    have S4n := S4.below hb6; clear S4; have S4 := S4n; clear S4n
    have S5n := S5.below hb6; clear S5; have S5 := S5n; clear S5n
    have S6 := own_sl o6
    clear o6
    clear hb6 W5
    go_wp2_with fail
    refine (O2 w6 (hx2.below W6) (hy2.below W6)).mono ?_
    rintro e w7 ⟨A7, c7, rfl, o7, hb7⟩
    have W7 := below_then W6 hb7
    have OWn := OW.below hb7; clear OW; have OW := OWn; clear OWn
    have SAn := SA.below hb7; clear SA; have SA := SAn; clear SAn
    have S4n := S4.below hb7; clear S4; have S4 := S4n; clear S4n
    have S5n := S5.below hb7; clear S5; have S5 := S5n; clear S5n
    have S6n := S6.below hb7; clear S6; have S6 := S6n; clear S6n
    have S7 := own_sl o7
    clear o7
    clear hb7 W6
    go_wp2_with fail
    refine (R2 w7 (hx2.below W7) (hy2.below W7)).mono ?_
    rintro e w8 ⟨A8, c8, rfl, o8, hb8⟩
    have W8 := below_then W7 hb8
    have OWn := OW.below hb8; clear OW; have OW := OWn; clear OWn
    have SAn := SA.below hb8; clear SA; have SA := SAn; clear SAn
    have S4n := S4.below hb8; clear S4; have S4 := S4n; clear S4n
    have S5n := S5.below hb8; clear S5; have S5 := S5n; clear S5n
    have S6n := S6.below hb8; clear S6; have S6 := S6n; clear S6n
    have S7n := S7.below hb8; clear S7; have S7 := S7n; clear S7n
    have S8 := own_sl o8
    clear o8
    clear hb8 W7
    go_wp2_with fail
    refine (O3 w8 (hx2.below W8) (hy2.below W8)).mono ?_
    rintro e w9 ⟨rfl, hb9⟩
    have W9 := below_then W8 hb9
    have OWn := OW.below hb9; clear OW; have OW := OWn; clear OWn
    have SAn := SA.below hb9; clear SA; have SA := SAn; clear SAn
    have S4n := S4.below hb9; clear S4; have S4 := S4n; clear S4n
    have S5n := S5.below hb9; clear S5; have S5 := S5n; clear S5n
    have S6n := S6.below hb9; clear S6; have S6 := S6n; clear S6n
    have S7n := S7.below hb9; clear S7; have S7 := S7n; clear S7n
    have S8n := S8.below hb9; clear S8; have S8 := S8n; clear S8n
    clear hb9 W8
    go_wp2_with fail
    refine (R3 w9 (hx2.below W9) (hy2.below W9)).mono ?_
    rintro e w10 ⟨rfl, hb10⟩
    have W10 := below_then W9 hb10
    have OWn := OW.below hb10; clear OW; have OW := OWn; clear OWn
    have SAn := SA.below hb10; clear SA; have SA := SAn; clear SAn
    have S4n := S4.below hb10; clear S4; have S4 := S4n; clear S4n
    have S5n := S5.below hb10; clear S5; have S5 := S5n; clear S5n
    have S6n := S6.below hb10; clear S6; have S6 := S6n; clear S6n
    have S7n := S7.below hb10; clear S7; have S7 := S7n; clear S7n
    have S8n := S8.below hb10; clear S8; have S8 := S8n; clear S8n
    clear hb10 W9
    go_wp2_with fail
    refine (O4 w10 (hx2.below W10)).mono ?_
    rintro e w11 ⟨rfl, hb11⟩
    have W11 := below_then W10 hb11
    have OWn := OW.below hb11; clear OW; have OW := OWn; clear OWn
    have SAn := SA.below hb11; clear SA; have SA := SAn; clear SAn
    have S4n := S4.below hb11; clear S4; have S4 := S4n; clear S4n
    have S5n := S5.below hb11; clear S5; have S5 := S5n; clear S5n
    have S6n := S6.below hb11; clear S6; have S6 := S6n; clear S6n
    have S7n := S7.below hb11; clear S7; have S7 := S7n; clear S7n
    have S8n := S8.below hb11; clear S8; have S8 := S8n; clear S8n
    clear hb11 W10
    go_wp2_with fail
    refine (R4 w11 (hx2.below W11)).mono ?_
    rintro e w12 ⟨rfl, hb12⟩
    have W12 := below_then W11 hb12
    have OWn := OW.below hb12; clear OW; have OW := OWn; clear OWn
    have SAn := SA.below hb12; clear SA; have SA := SAn; clear SAn
    have S4n := S4.below hb12; clear S4; have S4 := S4n; clear S4n
    have S5n := S5.below hb12; clear S5; have S5 := S5n; clear S5n
    have S6n := S6.below hb12; clear S6; have S6 := S6n; clear S6n
    have S7n := S7.below hb12; clear S7; have S7 := S7n; clear S7n
    have S8n := S8.below hb12; clear S8; have S8 := S8n; clear S8n
    clear hb12 W11
    go_wp2_with fail
    refine (O5 w12 ).mono ?_
    rintro e w13 ⟨rfl, hb13⟩
    have W13 := below_then W12 hb13
    have OWn := OW.below hb13; clear OW; have OW := OWn; clear OWn
    have SAn := SA.below hb13; clear SA; have SA := SAn; clear SAn
    have S4n := S4.below hb13; clear S4; have S4 := S4n; clear S4n
    have S5n := S5.below hb13; clear S5; have S5 := S5n; clear S5n
    have S6n := S6.below hb13; clear S6; have S6 := S6n; clear S6n
    have S7n := S7.below hb13; clear S7; have S7 := S7n; clear S7n
    have S8n := S8.below hb13; clear S8; have S8 := S8n; clear S8n
    clear hb13 W12
    go_wp2_with fail
    refine (R5 w13 ).mono ?_
    rintro e w14 ⟨rfl, rfl⟩
    go_wp2_with fail
    refine (Q0 A3 A4 c3 c4 w13 SA S4).mono ?_
    rintro e w15 ⟨rfl, hb15⟩
    have W15 := below_then W13 hb15
    clear SA S4 Q0
    have OWn := OW.below hb15; clear OW; have OW := OWn; clear OWn
    have S5n := S5.below hb15; clear S5; have S5 := S5n; clear S5n
    have S6n := S6.below hb15; clear S6; have S6 := S6n; clear S6n
    have S7n := S7.below hb15; clear S7; have S7 := S7n; clear S7n
    have S8n := S8.below hb15; clear S8; have S8 := S8n; clear S8n
    clear hb15 W13
    go_wp2_with fail
    refine (Q1 A5 A6 c5 c6 w15 S5 S6).mono ?_
    rintro e w16 ⟨rfl, hb16⟩
    have W16 := below_then W15 hb16
    clear S5 S6 Q1
    have OWn := OW.below hb16; clear OW; have OW := OWn; clear OWn
    have S7n := S7.below hb16; clear S7; have S7 := S7n; clear S7n
    have S8n := S8.below hb16; clear S8; have S8 := S8n; clear S8n
    clear hb16 W15
    go_wp2_with fail
    refine (Q2 A7 A8 c7 c8 w16 S7 S8).mono ?_
    rintro e w17 ⟨rfl, hb17⟩
    have W17 := below_then W16 hb17
    clear S7 S8 Q2
    have OWn := OW.below hb17; clear OW; have OW := OWn; clear OWn
    clear hb17 W16
    clear O0 O1 O2 O3 O4 O5 R0 R1 R2 R3 R4 R5
    go_wp2_with fail
    go_loopg [40, 195] l0.length (fun gg _ s195 wr => ∃ mm : Nat, mm ≤ l0.length ∧ l0.length - mm ≤ gg ∧ s195 = .int .i64 mm ∧ Aside (Below w2.heap.size w2 wr) ∧ Aside (Ows l0.length w2.heap.size wr A3 c3))
    case atStart => exact ⟨0, Nat.zero_le _, by omega, rfl, W17, OW⟩
    case round =>
      clear OW W17
      obtain ⟨mm, hmm, hg, rfl, BW, OW⟩ := hrel
      by_cases hlt : mm < l0.length
      · obtain ⟨g, rfl⟩ := Ows.form OW.out (by omega)
        obtain ⟨hgb, v, c2, f2, hset⟩ := Ows.at_ OW.out mm hlt
        have z0 : (0 : Int) ≤ (mm : Int) := by omega
        have z1 : (mm : Int) < (l0.length : Int) := by omega
        have HS := Lib.hid hset
        clear hset OW
        go_wp2_with fail
        go_roundg (l0.length - (mm + 1))
        case measure => omega
        case rel => exact ⟨mm + 1, by omega, by omega, by go_num, BW.out.setCell hgb _, HS.out _⟩
      · have hkx : mm = l0.length := by omega
        clear OW hkx
        have hxz := hx2.below BW.out
        have hwz := sw2.below BW.out
        go_wp2_with fail
        refine (M Aw dw wr hxz hwz).mono ?_
        rintro e wz ⟨rfl, hbz⟩
        go_wp2_with fail
        go_ret
        exact ⟨rfl, below_then (below_then B2 BW.out) hbz⟩
end Go.Proofs.Ytcgddfpfmnpaeaa
