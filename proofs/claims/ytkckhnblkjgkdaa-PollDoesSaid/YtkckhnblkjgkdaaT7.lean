/- Layer 9: PollDoes, walked. -/
import Derived.Test.YtkckhnblkjgkdaaS7
import Derived.Test.YtkckhnblkjgkdaaAp
namespace Go.Proofs.Ytkckhnblkjgkdaa
open Go.RowKit

theorem openL_len (xs : List Fd) (i : Int) : (openL xs i).length ≤ xs.length := by unfold openL; split <;> simp
theorem shutL_len (xs : List Fd) (i : Int) : (shutL xs i).length ≤ xs.length := by unfold shutL; split <;> simp
theorem fireL_len (xs : List Fd) (i : Int) : (fireL xs i).length ≤ xs.length := by unfold fireL; split <;> simp
theorem armL_len (xs : List Fd) (i id : Int) : (armL xs i id).length ≤ xs.length := by unfold armL; split <;> simp
theorem dropL_len (xs : List Fd) (id : Int) : (dropL xs id).length ≤ xs.length := by unfold dropL; split <;> simp
theorem refSame_c (l : List Fd) (h : l.length ≤ 60) : ∀ A' B' c' d' W, Sl Fd.enc 3 W A' l → Sl Fd.enc 3 W B' l → Calls Try.prog 23 #[.slice A' l.length c', .slice B' l.length d'] W fun e w' => e = .returned (.bool true) ∧ Below W.heap.size W w' := by
  intro A' B' c' d' W h1 h2
  have h := refSame_fd A' B' c' d' l l W h1 h2 (by omega)
  rw [show decide (l = l) = true from by simp] at h
  exact h.mono fun e w' ⟨he, n, hw⟩ => ⟨he, by rw [hw]; exact below_drewN (Below.refl _ _) n⟩
/-- An own row, when one has turned. -/
def Ows (n : Nat) (base : Nat) (w : World) (A : Option Addr) (c : Nat) : Prop := ∃ ys : List Fd, ys.length = n ∧ Own Fd.enc 3 35 base w (.slice A n c) ys
theorem Ows.at_ {n base : Nat} {w : World} {g c : Nat} (h : Ows n base w (some ⟨g, 0, none⟩) c) (m : Nat) (hm : m < n) : base ≤ g ∧ ∃ v, w.cell? ⟨g, m * 3 + 2, none⟩ = some (.int .i64 v) ∧ w.frozen? ⟨g, m * 3 + 2, none⟩ = false ∧ ∀ u, Ows n base (w.setCell ⟨g, m * 3 + 2, none⟩ (.int .i64 u)) (some ⟨g, 0, none⟩) c := by
  obtain ⟨ys, rfl, ho⟩ := h
  obtain ⟨_, _, c2, hf⟩ := own_cells ho m hm
  exact ⟨own_base_le ho hm, _, c2, hf _, fun u => ⟨ys.set m { ys[m] with w := u }, List.length_set, by have := own_setW ho m hm u; rw [List.length_set] at this; exact this⟩⟩

theorem Ows.form {n base : Nat} {w : World} {A : Option Addr} {c : Nat} (h : Ows n base w A c) (h0 : 0 < n) : ∃ g, A = some ⟨g, 0, none⟩ := by
  obtain ⟨ys, rfl, ho⟩ := h
  obtain ⟨g, cap, hv, _, _⟩ := own_form ho h0
  simp only [Value.slice.injEq] at hv
  exact ⟨g, hv.1⟩
theorem Ows.below {n base : Nat} {w w' : World} {A : Option Addr} {c : Nat} (h : Ows n base w A c) (hb : Below w.heap.size w w') : Ows n base w' A c := by
  obtain ⟨ys, hl, ho⟩ := h
  exact ⟨ys, hl, Own.below ho hb⟩

set_option maxRecDepth 100000 in
set_option maxHeartbeats 8000000 in
theorem does_any (A : Option Addr) (c : Nat) (xs : List Fd) (i id : Int) (w : World) (hx : Sl Fd.enc 3 w A xs) (hcap : xs.length ≤ c) (hbig : xs.length ≤ 9223372036854775807) :
    Calls Try.prog 5 #[.slice A xs.length c, .int .i64 i, .int .i64 id] w fun e w' => e = .returned (.bool true) ∧ Below w.heap.size w w' := by
  by_cases h60 : 60 < xs.length
  · go_enter Try.func5, Try.ntmps5
    go_wp2_with fail
    refine (live_any w).mono ?_
    rintro e w1 ⟨rfl, hb1⟩
    go_wp2_with fail
    go_ret
    exact ⟨rfl, hb1⟩
  · obtain ⟨i0, hi0, hz0, hz1, hz2⟩ := info_parts info35
    have L0 := openL_len xs i
    have L1 := shutL_len xs i
    have L2 := armL_len xs i id
    have L3 := fireL_len xs i
    have L4 := dropL_len xs id
    have O0 := fun W (h : Sl Fd.enc 3 W A xs) => open_c A c xs i W h hbig
    have R0 := fun W (h : Sl Fd.enc 3 W A xs) => refOpen_c A c xs i W h hcap
    have O1 := fun W (h : Sl Fd.enc 3 W A xs) => shut_c A c xs i W h hbig
    have R1 := fun W (h : Sl Fd.enc 3 W A xs) => refShut_c A c xs i W h hcap
    have O2 := fun W (h : Sl Fd.enc 3 W A xs) => arm_c A c xs i W id h hbig
    have R2 := fun W (h : Sl Fd.enc 3 W A xs) => refArm_c A c xs i id W h hcap hbig
    have O3 := fun W (h : Sl Fd.enc 3 W A xs) => fire_c A c xs i W h hbig
    have R3 := fun W (h : Sl Fd.enc 3 W A xs) => refFire_c A c xs i W h hcap
    have O4 := fun W (h : Sl Fd.enc 3 W A xs) => drop_c A c xs W id h hbig
    have R4 := fun W (h : Sl Fd.enc 3 W A xs) => refDrop_c A c xs id W h hcap hbig
    have M := fun B d W (h : Sl Fd.enc 3 W A xs) (k : Sl Fd.enc 3 W B xs) => refSame_c xs (by omega) A B c d W h k
    have Q0 := refSame_c (openL xs i) (by omega)
    have Q1 := refSame_c (shutL xs i) (by omega)
    have Q2 := refSame_c (armL xs i id) (by omega)
    have Q3 := refSame_c (fireL xs i) (by omega)
    have Q4 := refSame_c (dropL xs id) (by omega)
    have B0 : (openL xs i).length ≤ 60 := by omega
    clear L0 L1 L2 L3 L4
    generalize openL xs i = l0 at *
    generalize openE xs i = e0 at *
    generalize shutL xs i = l1 at *
    generalize fireL xs i = l3 at *
    generalize whoV xs i = v1 at *
    generalize needE xs i = e1 at *
    generalize armL xs i id = l2 at *
    generalize armV xs i id = b2 at *
    generalize armE xs i id = e2 at *
    generalize dropL xs id = l4 at *
    generalize dropE xs id = e4 at *
    have hbytes : xs.length * 16 ≤ 140737488355328 := by omega
    have hml : xs.length ≤ maxLen := by unfold maxLen; omega
    go_enter Try.func5, Try.ntmps5
    go_wp2_with fail
    refine (live_any w).mono ?_
    rintro e w1 ⟨rfl, hb1⟩
    have hx1 := hx.below hb1
    go_wp2_with (at_builtin; go_must (refine wpList_append_sl rfl (.const (.slice none 0 0)) (.tmp 44) 22 rfl w1.heap.size 35 i0 _ 16 Try.underlying22 hi0 hz0 hz1 hz2 rfl (by decide) Fd.enc_length Fd.enc_one (.slice none 0 0) [] rfl (Own.none_ _ _) A c xs rfl hx1 (by simpa using hml) (by simpa using hbytes) (Nat.le_refl _) ?_); intro v' w2 hown2 hg2)
    have B2 : Below w.heap.size w w2 := hb1.grown hg2 hb1.size (fun k hk => by simp [Value.ownBlock] at hk)
    have hb2 : Below w1.heap.size w1 w2 := (Below.refl _ _).grown hg2 (Nat.le_refl _) (fun k hk => by simp [Value.ownBlock] at hk)
    have hx2 := hx1.below hb2
    rw [List.nil_append] at hown2
    obtain ⟨Aw, dw, rfl, sw2, _⟩ := hown2.sl Fd.enc_length
    have W2 : Below w2.heap.size w2 w2 := Below.refl _ _
    clear hown2 hg2 hb1 hb2 hx1
    go_wp2_with fail
    refine (O0 w2 (hx2.below W2)).mono ?_
    rintro e w3 ⟨A3, c3, rfl, o3, hb3⟩
    have W3 := below_then W2 hb3
    have OW : Ows l0.length w2.heap.size w3 A3 c3 := ⟨l0, rfl, o3⟩
    have SA := own_sl o3
    clear o3
    go_wp2_with fail
    refine (R0 w3 (hx2.below W3)).mono ?_
    rintro e w4 ⟨A4, c4, rfl, o4, hb4⟩
    have W4 := below_then W3 hb4
    have OWn := OW.below hb4; clear OW; have OW := OWn; clear OWn
    have SAn := SA.below hb4; clear SA; have SA := SAn; clear SAn
    have S4 := own_sl o4
    clear o4 hb4 W3
    go_wp2_with fail
    refine (O1 w4 (hx2.below W4)).mono ?_
    rintro e w5 ⟨A5, c5, rfl, o5, hb5⟩
    have W5 := below_then W4 hb5
    have OWn := OW.below hb5; clear OW; have OW := OWn; clear OWn
    have SAn := SA.below hb5; clear SA; have SA := SAn; clear SAn
    have S4n := S4.below hb5; clear S4; have S4 := S4n; clear S4n
    have S5 := own_sl o5
    clear o5 hb5 W4
    go_wp2_with fail
    refine (R1 w5 (hx2.below W5)).mono ?_
    rintro e w6 ⟨A6, c6, rfl, o6, hb6⟩
    have W6 := below_then W5 hb6
    have OWn := OW.below hb6; clear OW; have OW := OWn; clear OWn
    have SAn := SA.below hb6; clear SA; have SA := SAn; clear SAn
    have S4n := S4.below hb6; clear S4; have S4 := S4n; clear S4n
    have S5n := S5.below hb6; clear S5; have S5 := S5n; clear S5n
    have S6 := own_sl o6
    clear o6 hb6 W5
    go_wp2_with fail
    refine (O2 w6 (hx2.below W6)).mono ?_
    rintro e w7 ⟨A7, c7, rfl, o7, hb7⟩
    have W7 := below_then W6 hb7
    have OWn := OW.below hb7; clear OW; have OW := OWn; clear OWn
    have SAn := SA.below hb7; clear SA; have SA := SAn; clear SAn
    have S4n := S4.below hb7; clear S4; have S4 := S4n; clear S4n
    have S5n := S5.below hb7; clear S5; have S5 := S5n; clear S5n
    have S6n := S6.below hb7; clear S6; have S6 := S6n; clear S6n
    have S7 := own_sl o7
    clear o7 hb7 W6
    go_wp2_with fail
    refine (R2 w7 (hx2.below W7)).mono ?_
    rintro e w8 ⟨A8, c8, rfl, o8, hb8⟩
    have W8 := below_then W7 hb8
    have OWn := OW.below hb8; clear OW; have OW := OWn; clear OWn
    have SAn := SA.below hb8; clear SA; have SA := SAn; clear SAn
    have S4n := S4.below hb8; clear S4; have S4 := S4n; clear S4n
    have S5n := S5.below hb8; clear S5; have S5 := S5n; clear S5n
    have S6n := S6.below hb8; clear S6; have S6 := S6n; clear S6n
    have S7n := S7.below hb8; clear S7; have S7 := S7n; clear S7n
    have S8 := own_sl o8
    clear o8 hb8 W7
    go_wp2_with fail
    refine (O3 w8 (hx2.below W8)).mono ?_
    rintro e w9 ⟨A9, c9, rfl, o9, hb9⟩
    have W9 := below_then W8 hb9
    have OWn := OW.below hb9; clear OW; have OW := OWn; clear OWn
    have SAn := SA.below hb9; clear SA; have SA := SAn; clear SAn
    have S4n := S4.below hb9; clear S4; have S4 := S4n; clear S4n
    have S5n := S5.below hb9; clear S5; have S5 := S5n; clear S5n
    have S6n := S6.below hb9; clear S6; have S6 := S6n; clear S6n
    have S7n := S7.below hb9; clear S7; have S7 := S7n; clear S7n
    have S8n := S8.below hb9; clear S8; have S8 := S8n; clear S8n
    have S9 := own_sl o9
    clear o9 hb9 W8
    go_wp2_with fail
    refine (R3 w9 (hx2.below W9)).mono ?_
    rintro e w10 ⟨A10, c10, rfl, o10, hb10⟩
    have W10 := below_then W9 hb10
    have OWn := OW.below hb10; clear OW; have OW := OWn; clear OWn
    have SAn := SA.below hb10; clear SA; have SA := SAn; clear SAn
    have S4n := S4.below hb10; clear S4; have S4 := S4n; clear S4n
    have S5n := S5.below hb10; clear S5; have S5 := S5n; clear S5n
    have S6n := S6.below hb10; clear S6; have S6 := S6n; clear S6n
    have S7n := S7.below hb10; clear S7; have S7 := S7n; clear S7n
    have S8n := S8.below hb10; clear S8; have S8 := S8n; clear S8n
    have S9n := S9.below hb10; clear S9; have S9 := S9n; clear S9n
    have S10 := own_sl o10
    clear o10 hb10 W9
    go_wp2_with fail
    refine (O4 w10 (hx2.below W10)).mono ?_
    rintro e w11 ⟨A11, c11, rfl, o11, hb11⟩
    have W11 := below_then W10 hb11
    have OWn := OW.below hb11; clear OW; have OW := OWn; clear OWn
    have SAn := SA.below hb11; clear SA; have SA := SAn; clear SAn
    have S4n := S4.below hb11; clear S4; have S4 := S4n; clear S4n
    have S5n := S5.below hb11; clear S5; have S5 := S5n; clear S5n
    have S6n := S6.below hb11; clear S6; have S6 := S6n; clear S6n
    have S7n := S7.below hb11; clear S7; have S7 := S7n; clear S7n
    have S8n := S8.below hb11; clear S8; have S8 := S8n; clear S8n
    have S9n := S9.below hb11; clear S9; have S9 := S9n; clear S9n
    have S10n := S10.below hb11; clear S10; have S10 := S10n; clear S10n
    have S11 := own_sl o11
    clear o11 hb11 W10
    go_wp2_with fail
    refine (R4 w11 (hx2.below W11)).mono ?_
    rintro e w12 ⟨A12, c12, rfl, o12, hb12⟩
    have W12 := below_then W11 hb12
    have OWn := OW.below hb12; clear OW; have OW := OWn; clear OWn
    have SAn := SA.below hb12; clear SA; have SA := SAn; clear SAn
    have S4n := S4.below hb12; clear S4; have S4 := S4n; clear S4n
    have S5n := S5.below hb12; clear S5; have S5 := S5n; clear S5n
    have S6n := S6.below hb12; clear S6; have S6 := S6n; clear S6n
    have S7n := S7.below hb12; clear S7; have S7 := S7n; clear S7n
    have S8n := S8.below hb12; clear S8; have S8 := S8n; clear S8n
    have S9n := S9.below hb12; clear S9; have S9 := S9n; clear S9n
    have S10n := S10.below hb12; clear S10; have S10 := S10n; clear S10n
    have S11n := S11.below hb12; clear S11; have S11 := S11n; clear S11n
    have S12 := own_sl o12
    clear o12 hb12 W11
    go_wp2_with fail
    refine (Q0 A3 A4 c3 c4 w12 SA S4).mono ?_
    rintro e w13 ⟨rfl, hb13⟩
    have W13 := below_then W12 hb13
    have OWn := OW.below hb13; clear OW; have OW := OWn; clear OWn
    clear SA S4 Q0
    have S5n := S5.below hb13; clear S5; have S5 := S5n; clear S5n
    have S6n := S6.below hb13; clear S6; have S6 := S6n; clear S6n
    have S7n := S7.below hb13; clear S7; have S7 := S7n; clear S7n
    have S8n := S8.below hb13; clear S8; have S8 := S8n; clear S8n
    have S9n := S9.below hb13; clear S9; have S9 := S9n; clear S9n
    have S10n := S10.below hb13; clear S10; have S10 := S10n; clear S10n
    have S11n := S11.below hb13; clear S11; have S11 := S11n; clear S11n
    have S12n := S12.below hb13; clear S12; have S12 := S12n; clear S12n
    clear hb13 W12
    go_wp2_with fail
    refine (Q1 A5 A6 c5 c6 w13 S5 S6).mono ?_
    rintro e w14 ⟨rfl, hb14⟩
    have W14 := below_then W13 hb14
    have OWn := OW.below hb14; clear OW; have OW := OWn; clear OWn
    clear S5 S6 Q1
    have S7n := S7.below hb14; clear S7; have S7 := S7n; clear S7n
    have S8n := S8.below hb14; clear S8; have S8 := S8n; clear S8n
    have S9n := S9.below hb14; clear S9; have S9 := S9n; clear S9n
    have S10n := S10.below hb14; clear S10; have S10 := S10n; clear S10n
    have S11n := S11.below hb14; clear S11; have S11 := S11n; clear S11n
    have S12n := S12.below hb14; clear S12; have S12 := S12n; clear S12n
    clear hb14 W13
    go_wp2_with fail
    refine (Q2 A7 A8 c7 c8 w14 S7 S8).mono ?_
    rintro e w15 ⟨rfl, hb15⟩
    have W15 := below_then W14 hb15
    have OWn := OW.below hb15; clear OW; have OW := OWn; clear OWn
    clear S7 S8 Q2
    have S9n := S9.below hb15; clear S9; have S9 := S9n; clear S9n
    have S10n := S10.below hb15; clear S10; have S10 := S10n; clear S10n
    have S11n := S11.below hb15; clear S11; have S11 := S11n; clear S11n
    have S12n := S12.below hb15; clear S12; have S12 := S12n; clear S12n
    clear hb15 W14
    go_wp2_with fail
    refine (Q3 A9 A10 c9 c10 w15 S9 S10).mono ?_
    rintro e w16 ⟨rfl, hb16⟩
    have W16 := below_then W15 hb16
    have OWn := OW.below hb16; clear OW; have OW := OWn; clear OWn
    clear S9 S10 Q3
    have S11n := S11.below hb16; clear S11; have S11 := S11n; clear S11n
    have S12n := S12.below hb16; clear S12; have S12 := S12n; clear S12n
    clear hb16 W15
    go_wp2_with fail
    refine (Q4 A11 A12 c11 c12 w16 S11 S12).mono ?_
    rintro e w17 ⟨rfl, hb17⟩
    have W17 := below_then W16 hb17
    have OWn := OW.below hb17; clear OW; have OW := OWn; clear OWn
    clear S11 S12 Q4
    clear hb17 W16
    clear O0 O1 O2 O3 O4 R0 R1 R2 R3 R4
    go_wp2_with fail
    go_loopg [36, 179] l0.length (fun gg _ s179 wr => ∃ mm : Nat, mm ≤ l0.length ∧ l0.length - mm ≤ gg ∧ s179 = .int .i64 mm ∧ Aside (Below w2.heap.size w2 wr) ∧ Aside (Ows l0.length w2.heap.size wr A3 c3))
    case atStart => exact ⟨0, Nat.zero_le _, by omega, rfl, W17, OW⟩
    case round =>
      clear OW W17
      obtain ⟨mm, hmm, hg, rfl, BW, OW⟩ := hrel
      by_cases hlt : mm < l0.length
      · obtain ⟨g, rfl⟩ := Ows.form OW.out (by omega)
        obtain ⟨hgb, v, c2, f2, hset⟩ := Ows.at_ OW.out mm hlt
        have z0 : (0 : Int) ≤ (mm : Int) := by omega
        have z1 : (mm : Int) < (l0.length : Int) := by omega
        have HS := Lib.hid hset
        clear hset OW
        go_wp2_with fail
        go_roundg (l0.length - (mm + 1))
        case measure => omega
        case rel => exact ⟨mm + 1, by omega, by omega, by go_num, BW.out.setCell hgb _, HS.out _⟩
      · have hkx : mm = l0.length := by omega
        clear OW hkx
        have hxz := hx2.below BW.out
        have hwz := sw2.below BW.out
        go_wp2_with fail
        refine (M Aw dw wr hxz hwz).mono ?_
        rintro e wz ⟨rfl, hbz⟩
        go_wp2_with fail
        go_ret
        exact ⟨rfl, below_then (below_then B2 BW.out) hbz⟩
end Go.Proofs.Ytkckhnblkjgkdaa
