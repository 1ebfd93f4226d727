/- Layer 9: PollApart, walked. -/
import Derived.Test.YtkckhnblkjgkdaaG
namespace Go.Proofs.Ytkckhnblkjgkdaa
open Go.RowKit

theorem own_sl {w : World} {base : Nat} {A : Option Addr} {n c : Nat} {r : List Fd} (h : Own Fd.enc 3 35 base w (.slice A n c) r) : Sl Fd.enc 3 w A r := by
  obtain ⟨A', c', hv, hs, _⟩ := h.sl Fd.enc_length
  simp only [Value.slice.injEq] at hv
  rw [hv.1]; exact hs

set_option maxRecDepth 100000 in
set_option maxHeartbeats 8000000 in
theorem apart_any (b off c : Nat) (A : Option Addr) (xs : List Fd) (i id : Int) (w : World) (hA : 0 < xs.length → A = some ⟨b, off, none⟩) (hx : Sl Fd.enc 3 w A xs) (hbig : xs.length ≤ 9223372036854775807) :
    Calls Try.prog 3 #[.slice A xs.length c, .int .i64 i, .int .i64 id] w fun e w' => e = .returned (.bool true) ∧ Below w.heap.size w w' := by
  have C0 := fun W (h : Sl Fd.enc 3 W A xs) => open_slice b off c A xs i W hA h hbig
  have C1 := fun W (h : Sl Fd.enc 3 W A xs) => shut_slice b off c A xs i W hA h hbig
  have C2 := fun W (h : Sl Fd.enc 3 W A xs) => arm_slice b off c A xs i id W hA h hbig
  have C3 := fun W (h : Sl Fd.enc 3 W A xs) => fire_slice b off c A xs i W hA h hbig
  have G0 := Lib.hid (open_good xs i)
  have G1 := Lib.hid (shut_good xs i)
  have G2 := Lib.hid (arm_good_ xs i id)
  have G3 := Lib.hid (fire_good xs i)
  generalize openL xs i = L0 at *
  generalize shutL xs i = L1 at *
  generalize armL xs i id = L2 at *
  generalize fireL xs i = L3 at *
  generalize openE xs i = e0 at *
  obtain ⟨e1, he1⟩ : ∃ q, q = needE xs i := ⟨_, rfl⟩
  obtain ⟨e3, he3⟩ : ∃ q, q = needE xs i := ⟨_, rfl⟩
  rw [← he1] at C1 G1
  rw [← he3] at C3 G3
  generalize armE xs i id = e2 at *
  generalize armV xs i id = v2 at *
  generalize whoV xs i = v1 at *
  clear he1 he3 hA
  by_cases h60 : 60 < xs.length
  · clear G0 G1 G2 G3 C0 C1 C2 C3
    go_enter Try.func3, Try.ntmps3
    go_wp2_with fail
    refine (live_any w).mono ?_
    rintro e w1 ⟨rfl, hb1⟩
    go_wp2_with fail
    go_ret
    exact ⟨rfl, hb1⟩
  · go_enter Try.func3, Try.ntmps3
    go_wp2_with fail
    refine (live_any w).mono ?_
    rintro e w1 ⟨rfl, hb1⟩
    have hx1 := hx.below hb1
    go_wp2_with fail
    refine (C0 w1 hx1).mono ?_
    rintro e w2 ⟨A0, c0, rfl, own0, hb2⟩
    have hx2 := hx1.below hb2
    go_wp2_with fail
    refine (C1 w2 hx2).mono ?_
    rintro e w3 ⟨A1, c1, rfl, own1, hb3⟩
    have hx3 := hx2.below hb3
    go_wp2_with fail
    refine (C2 w3 hx3).mono ?_
    rintro e w4 ⟨A2, c2, rfl, own2, hb4⟩
    have hx4 := hx3.below hb4
    go_wp2_with fail
    refine (C3 w4 hx4).mono ?_
    rintro e w5 ⟨A3, c3, rfl, own3, hb5⟩
    have hx5 := (hx4.below hb5).alloc (.cells #[.slice A0 L0.length c0, .slice A1 L1.length c1, .slice A2 L2.length c2, .slice A3 L3.length c3] 22)
    have S0 := (((own_sl own0).below hb3).below hb4).below hb5
    have S1 := ((own_sl own1).below hb4).below hb5
    have S2 := (own_sl own2).below hb5
    have S3 := own_sl own3
    have HB := Lib.hid (below_then (below_then (below_then (below_then hb1 hb2) hb3) hb4) hb5)
    have HW0 := Lib.hid ((Below.refl w5.heap.size w5).alloc (Nat.le_refl _) (.cells #[.slice A0 L0.length c0, .slice A1 L1.length c1, .slice A2 L2.length c2, .slice A3 L3.length c3] 22))
    have r0 : (w5.alloc (.cells #[.slice A0 L0.length c0, .slice A1 L1.length c1, .slice A2 L2.length c2, .slice A3 L3.length c3] 22)).cell? ⟨w5.heap.size, 0, none⟩ = some (.slice A0 L0.length c0) := by simp
    have r1 : (w5.alloc (.cells #[.slice A0 L0.length c0, .slice A1 L1.length c1, .slice A2 L2.length c2, .slice A3 L3.length c3] 22)).cell? ⟨w5.heap.size, 1, none⟩ = some (.slice A1 L1.length c1) := by simp
    have r2 : (w5.alloc (.cells #[.slice A0 L0.length c0, .slice A1 L1.length c1, .slice A2 L2.length c2, .slice A3 L3.length c3] 22)).cell? ⟨w5.heap.size, 2, none⟩ = some (.slice A2 L2.length c2) := by simp
    have r3 : (w5.alloc (.cells #[.slice A0 L0.length c0, .slice A1 L1.length c1, .slice A2 L2.length c2, .slice A3 L3.length c3] 22)).cell? ⟨w5.heap.size, 3, none⟩ = some (.slice A3 L3.length c3) := by simp
    clear own0 own1 own2 own3 hb1 hb2 hb3 hb4 hb5 hx hx1 hx2 hx3 hx4 C0 C1 C2 C3
    go_wp2_with fail
    generalize w5.alloc (.cells #[.slice A0 L0.length c0, .slice A1 L1.length c1, .slice A2 L2.length c2, .slice A3 L3.length c3] 22) = W0 at *
    go_loopg [64] 4 (fun gg s64 wr => ∃ kk : Nat, kk ≤ 4 ∧ 4 - kk ≤ gg ∧ s64 = .int .i64 kk ∧ Aside (Below W0.heap.size W0 wr))
    case atStart => exact ⟨0, Nat.zero_le _, by omega, rfl, Below.refl _ _⟩
    case round =>
      obtain ⟨kk, hkk, hg, rfl, BW⟩ := hrel
      have hkc : kk = 0 ∨ kk = 1 ∨ kk = 2 ∨ kk = 3 ∨ kk = 4 := by omega
      rcases hkc with rfl | rfl | rfl | rfl | rfl
      case inr.inr.inr.inr =>
        go_wp2_with fail
        go_ret
        exact ⟨rfl, below_then (HB.out.trans (HW0.out.mono HB.out.size)) BW.out⟩
      case inl =>
        have q0 := cell_below BW.out r0
        have SS := S0.below (below_then HW0.out BW.out)
        have GG := G0
        clear r0 r1 r2 r3 S0 S1 S2 S3 G0 G1 G2 G3
        by_cases he : e0 = 0
        case neg =>
          have hL : L0 = [] := by
            rcases GG.out with h | h
            · exact h.2
            · exact absurd h.1 he
          have hq : (e0 == 0) = false := by simpa using he
          subst hL
          clear he GG
          go_wp2_with fail
          go_roundg (4 - (0 + 1))
          case measure => omega
          case rel => exact ⟨0 + 1, by omega, by omega, rfl, BW.out.alloc BW.out.size _⟩
        case pos =>
          have hG := GG.out
          have hL : L0.length = xs.length := by
            rcases hG with h | h
            · exact absurd he h.1
            · exact h.2.1
          have hCK : errC L0 = 0 := by
            rcases hG with h | h
            · exact absurd he h.1
            · exact errC_yes h.2.2.1
          have hEQ : ∀ k, (h : k < xs.length) → (h' : k < L0.length) → (k : Int) ≠ i → L0[k] = xs[k] := by
            rcases hG with h | h
            · exact absurd he h.1
            · exact h.2.2.2
          have HEQ := Lib.hid hEQ
          have HL := Lib.hid hL
          have hck := fun W (hw : Sl Fd.enc 3 W A0 L0) => check_any A0 c0 L0 W hw (by omega)
          rw [hCK] at hck
          rw [hL] at q0 hck
          have SW := SS.alloc (.cells #[.int .i64 e0, .int .i64 e1, .int .i64 e2, .int .i64 e3] 24)
          have XW := (hx5.below BW.out).alloc (.cells #[.int .i64 e0, .int .i64 e1, .int .i64 e2, .int .i64 e3] 24)
          have BW2 := BW.out.alloc BW.out.size (.cells #[.int .i64 e0, .int .i64 e1, .int .i64 e2, .int .i64 e3] 24)
          have hec : ∀ o, (wr.alloc (.cells #[.int .i64 e0, .int .i64 e1, .int .i64 e2, .int .i64 e3] o)).cell? ⟨wr.heap.size, 0, none⟩ = some (.int .i64 0) := by
            intro o; rw [← he]; simp
          have hq : (e0 == 0) = true := by simpa using he
          clear hG GG SS hEQ hCK hL he
          go_wp2_with fail
          refine (hck _ SW).mono ?_
          rintro e w6 ⟨rfl, hb6⟩
          have SX := SW.below hb6
          have XX := XW.below hb6
          have B6 := below_then BW2 hb6
          clear SW XW BW2 hb6 hck q0 hx5
          go_wp2_with fail
          go_loopg [22, 94] xs.length (fun g2 _ s94 wq => ∃ mm : Nat, mm ≤ xs.length ∧ xs.length - mm ≤ g2 ∧ s94 = .int .i64 mm ∧ Aside (∃ nq, wq = w6.drewN nq))
          case atStart => exact ⟨0, Nat.zero_le _, by omega, rfl, 0, rfl⟩
          case round =>
            obtain ⟨mm, hmm, hgm, rfl, ⟨nq, rfl⟩⟩ := hrel
            by_cases hlt : mm < xs.length
            · have hlt2 : mm < L0.length := by rw [HL.out]; exact hlt
              obtain ⟨b1, o1, hA1, p0, p1, p2⟩ := (SX.drewN nq).fd_at mm hlt2
              obtain ⟨b2, o2, hA2, t0, t1, t2⟩ := (XX.drewN nq).fd_at mm hlt
              subst hA1 hA2
              have z0 : (0 : Int) ≤ (mm : Int) := by omega
              have z1 : (mm : Int) < (xs.length : Int) := by omega
              have hnr := fun W => neq_run xs[mm] xs[mm] W
              have hdx : decide (xs[mm] = xs[mm]) = true := by simp
              rw [hdx] at hnr
              by_cases hi : (mm : Int) = i
              · have hib : ((mm : Int) != i) = false := by simpa using hi
                clear hi hnr
                generalize hw7 : w6.drewN nq = w7 at *
                have BQ : ∀ nr, ∃ nq2, w7.drewN nr = w6.drewN nq2 := fun nr => ⟨nq + nr, by rw [← hw7]; simp [World.drewN, Nat.add_assoc]⟩
                have HBQ := Lib.hid BQ
                clear hw7 BQ
                go_wp2_with fail
                go_quiet (fail)
                go_wp2_with fail
                go_roundg (xs.length - (mm + 1))
                case measure => omega
                case rel => exact ⟨mm + 1, by omega, by omega, by go_num, HBQ.out _⟩
              · have hib : ((mm : Int) != i) = true := by simpa using hi
                rw [HEQ.out mm hlt hlt2 hi] at p0 p1 p2
                clear hi
                generalize hw7 : w6.drewN nq = w7 at *
                have BQ : ∀ nr, ∃ nq2, w7.drewN nr = w6.drewN nq2 := fun nr => ⟨nq + nr, by rw [← hw7]; simp [World.drewN, Nat.add_assoc]⟩
                have HBQ := Lib.hid BQ
                clear hw7 BQ
                go_wp2_with fail
                go_quiet (fail)
                go_wp2_with fail
                go_roundg (xs.length - (mm + 1))
                case measure => omega
                case rel => exact ⟨mm + 1, by omega, by omega, by go_num, HBQ.out _⟩
            · have hmx : mm = xs.length := by omega
              clear hlt
              go_wp2_with fail
              go_roundg (4 - (0 + 1))
              case measure => omega
              case rel => exact ⟨0 + 1, by omega, by omega, rfl, below_drewN B6 _⟩
      case inr.inl =>
        have q0 := cell_below BW.out r1
        have SS := S1.below (below_then HW0.out BW.out)
        have GG := G1
        clear r0 r1 r2 r3 S0 S1 S2 S3 G0 G1 G2 G3
        by_cases he : e1 = 0
        case neg =>
          have hL : L1 = [] := by
            rcases GG.out with h | h
            · exact h.2
            · exact absurd h.1 he
          have hq : (e1 == 0) = false := by simpa using he
          subst hL
          clear he GG
          go_wp2_with fail
          go_roundg (4 - (1 + 1))
          case measure => omega
          case rel => exact ⟨1 + 1, by omega, by omega, rfl, BW.out.alloc BW.out.size _⟩
        case pos =>
          have hG := GG.out
          have hL : L1.length = xs.length := by
            rcases hG with h | h
            · exact absurd he h.1
            · exact h.2.1
          have hCK : errC L1 = 0 := by
            rcases hG with h | h
            · exact absurd he h.1
            · exact errC_yes h.2.2.1
          have hEQ : ∀ k, (h : k < xs.length) → (h' : k < L1.length) → (k : Int) ≠ i → L1[k] = xs[k] := by
            rcases hG with h | h
            · exact absurd he h.1
            · exact h.2.2.2
          have HEQ := Lib.hid hEQ
          have HL := Lib.hid hL
          have hck := fun W (hw : Sl Fd.enc 3 W A1 L1) => check_any A1 c1 L1 W hw (by omega)
          rw [hCK] at hck
          rw [hL] at q0 hck
          have SW := SS.alloc (.cells #[.int .i64 e0, .int .i64 e1, .int .i64 e2, .int .i64 e3] 24)
          have XW := (hx5.below BW.out).alloc (.cells #[.int .i64 e0, .int .i64 e1, .int .i64 e2, .int .i64 e3] 24)
          have BW2 := BW.out.alloc BW.out.size (.cells #[.int .i64 e0, .int .i64 e1, .int .i64 e2, .int .i64 e3] 24)
          have hec : ∀ o, (wr.alloc (.cells #[.int .i64 e0, .int .i64 e1, .int .i64 e2, .int .i64 e3] o)).cell? ⟨wr.heap.size, 1, none⟩ = some (.int .i64 0) := by
            intro o; rw [← he]; simp
          have hq : (e1 == 0) = true := by simpa using he
          clear hG GG SS hEQ hCK hL he
          go_wp2_with fail
          refine (hck _ SW).mono ?_
          rintro e w6 ⟨rfl, hb6⟩
          have SX := SW.below hb6
          have XX := XW.below hb6
          have B6 := below_then BW2 hb6
          clear SW XW BW2 hb6 hck q0 hx5
          go_wp2_with fail
          go_loopg [22, 94] xs.length (fun g2 _ s94 wq => ∃ mm : Nat, mm ≤ xs.length ∧ xs.length - mm ≤ g2 ∧ s94 = .int .i64 mm ∧ Aside (∃ nq, wq = w6.drewN nq))
          case atStart => exact ⟨0, Nat.zero_le _, by omega, rfl, 0, rfl⟩
          case round =>
            obtain ⟨mm, hmm, hgm, rfl, ⟨nq, rfl⟩⟩ := hrel
            by_cases hlt : mm < xs.length
            · have hlt2 : mm < L1.length := by rw [HL.out]; exact hlt
              obtain ⟨b1, o1, hA1, p0, p1, p2⟩ := (SX.drewN nq).fd_at mm hlt2
              obtain ⟨b2, o2, hA2, t0, t1, t2⟩ := (XX.drewN nq).fd_at mm hlt
              subst hA1 hA2
              have z0 : (0 : Int) ≤ (mm : Int) := by omega
              have z1 : (mm : Int) < (xs.length : Int) := by omega
              have hnr := fun W => neq_run xs[mm] xs[mm] W
              have hdx : decide (xs[mm] = xs[mm]) = true := by simp
              rw [hdx] at hnr
              by_cases hi : (mm : Int) = i
              · have hib : ((mm : Int) != i) = false := by simpa using hi
                clear hi hnr
                generalize hw7 : w6.drewN nq = w7 at *
                have BQ : ∀ nr, ∃ nq2, w7.drewN nr = w6.drewN nq2 := fun nr => ⟨nq + nr, by rw [← hw7]; simp [World.drewN, Nat.add_assoc]⟩
                have HBQ := Lib.hid BQ
                clear hw7 BQ
                go_wp2_with fail
                go_quiet (fail)
                go_wp2_with fail
                go_roundg (xs.length - (mm + 1))
                case measure => omega
                case rel => exact ⟨mm + 1, by omega, by omega, by go_num, HBQ.out _⟩
              · have hib : ((mm : Int) != i) = true := by simpa using hi
                rw [HEQ.out mm hlt hlt2 hi] at p0 p1 p2
                clear hi
                generalize hw7 : w6.drewN nq = w7 at *
                have BQ : ∀ nr, ∃ nq2, w7.drewN nr = w6.drewN nq2 := fun nr => ⟨nq + nr, by rw [← hw7]; simp [World.drewN, Nat.add_assoc]⟩
                have HBQ := Lib.hid BQ
                clear hw7 BQ
                go_wp2_with fail
                go_quiet (fail)
                go_wp2_with fail
                go_roundg (xs.length - (mm + 1))
                case measure => omega
                case rel => exact ⟨mm + 1, by omega, by omega, by go_num, HBQ.out _⟩
            · have hmx : mm = xs.length := by omega
              clear hlt
              go_wp2_with fail
              go_roundg (4 - (1 + 1))
              case measure => omega
              case rel => exact ⟨1 + 1, by omega, by omega, rfl, below_drewN B6 _⟩
      case inr.inr.inl =>
        have q0 := cell_below BW.out r2
        have SS := S2.below (below_then HW0.out BW.out)
        have GG := G2
        clear r0 r1 r2 r3 S0 S1 S2 S3 G0 G1 G2 G3
        by_cases he : e2 = 0
        case neg =>
          have hL : L2 = [] := by
            rcases GG.out with h | h
            · exact h.2
            · exact absurd h.1 he
          have hq : (e2 == 0) = false := by simpa using he
          subst hL
          clear he GG
          go_wp2_with fail
          go_roundg (4 - (2 + 1))
          case measure => omega
          case rel => exact ⟨2 + 1, by omega, by omega, rfl, BW.out.alloc BW.out.size _⟩
        case pos =>
          have hG := GG.out
          have hL : L2.length = xs.length := by
            rcases hG with h | h
            · exact absurd he h.1
            · exact h.2.1
          have hCK : errC L2 = 0 := by
            rcases hG with h | h
            · exact absurd he h.1
            · exact errC_yes h.2.2.1
          have hEQ : ∀ k, (h : k < xs.length) → (h' : k < L2.length) → (k : Int) ≠ i → L2[k] = xs[k] := by
            rcases hG with h | h
            · exact absurd he h.1
            · exact h.2.2.2
          have HEQ := Lib.hid hEQ
          have HL := Lib.hid hL
          have hck := fun W (hw : Sl Fd.enc 3 W A2 L2) => check_any A2 c2 L2 W hw (by omega)
          rw [hCK] at hck
          rw [hL] at q0 hck
          have SW := SS.alloc (.cells #[.int .i64 e0, .int .i64 e1, .int .i64 e2, .int .i64 e3] 24)
          have XW := (hx5.below BW.out).alloc (.cells #[.int .i64 e0, .int .i64 e1, .int .i64 e2, .int .i64 e3] 24)
          have BW2 := BW.out.alloc BW.out.size (.cells #[.int .i64 e0, .int .i64 e1, .int .i64 e2, .int .i64 e3] 24)
          have hec : ∀ o, (wr.alloc (.cells #[.int .i64 e0, .int .i64 e1, .int .i64 e2, .int .i64 e3] o)).cell? ⟨wr.heap.size, 2, none⟩ = some (.int .i64 0) := by
            intro o; rw [← he]; simp
          have hq : (e2 == 0) = true := by simpa using he
          clear hG GG SS hEQ hCK hL he
          go_wp2_with fail
          refine (hck _ SW).mono ?_
          rintro e w6 ⟨rfl, hb6⟩
          have SX := SW.below hb6
          have XX := XW.below hb6
          have B6 := below_then BW2 hb6
          clear SW XW BW2 hb6 hck q0 hx5
          go_wp2_with fail
          go_loopg [22, 94] xs.length (fun g2 _ s94 wq => ∃ mm : Nat, mm ≤ xs.length ∧ xs.length - mm ≤ g2 ∧ s94 = .int .i64 mm ∧ Aside (∃ nq, wq = w6.drewN nq))
          case atStart => exact ⟨0, Nat.zero_le _, by omega, rfl, 0, rfl⟩
          case round =>
            obtain ⟨mm, hmm, hgm, rfl, ⟨nq, rfl⟩⟩ := hrel
            by_cases hlt : mm < xs.length
            · have hlt2 : mm < L2.length := by rw [HL.out]; exact hlt
              obtain ⟨b1, o1, hA1, p0, p1, p2⟩ := (SX.drewN nq).fd_at mm hlt2
              obtain ⟨b2, o2, hA2, t0, t1, t2⟩ := (XX.drewN nq).fd_at mm hlt
              subst hA1 hA2
              have z0 : (0 : Int) ≤ (mm : Int) := by omega
              have z1 : (mm : Int) < (xs.length : Int) := by omega
              have hnr := fun W => neq_run xs[mm] xs[mm] W
              have hdx : decide (xs[mm] = xs[mm]) = true := by simp
              rw [hdx] at hnr
              by_cases hi : (mm : Int) = i
              · have hib : ((mm : Int) != i) = false := by simpa using hi
                clear hi hnr
                generalize hw7 : w6.drewN nq = w7 at *
                have BQ : ∀ nr, ∃ nq2, w7.drewN nr = w6.drewN nq2 := fun nr => ⟨nq + nr, by rw [← hw7]; simp [World.drewN, Nat.add_assoc]⟩
                have HBQ := Lib.hid BQ
                clear hw7 BQ
                go_wp2_with fail
                go_quiet (fail)
                go_wp2_with fail
                go_roundg (xs.length - (mm + 1))
                case measure => omega
                case rel => exact ⟨mm + 1, by omega, by omega, by go_num, HBQ.out _⟩
              · have hib : ((mm : Int) != i) = true := by simpa using hi
                rw [HEQ.out mm hlt hlt2 hi] at p0 p1 p2
                clear hi
                generalize hw7 : w6.drewN nq = w7 at *
                have BQ : ∀ nr, ∃ nq2, w7.drewN nr = w6.drewN nq2 := fun nr => ⟨nq + nr, by rw [← hw7]; simp [World.drewN, Nat.add_assoc]⟩
                have HBQ := Lib.hid BQ
                clear hw7 BQ
                go_wp2_with fail
                go_quiet (fail)
                go_wp2_with fail
                go_roundg (xs.length - (mm + 1))
                case measure => omega
                case rel => exact ⟨mm + 1, by omega, by omega, by go_num, HBQ.out _⟩
            · have hmx : mm = xs.length := by omega
              clear hlt
              go_wp2_with fail
              go_roundg (4 - (2 + 1))
              case measure => omega
              case rel => exact ⟨2 + 1, by omega, by omega, rfl, below_drewN B6 _⟩
      case inr.inr.inr.inl =>
        have q0 := cell_below BW.out r3
        have SS := S3.below (below_then HW0.out BW.out)
        have GG := G3
        clear r0 r1 r2 r3 S0 S1 S2 S3 G0 G1 G2 G3
        by_cases he : e3 = 0
        case neg =>
          have hL : L3 = [] := by
            rcases GG.out with h | h
            · exact h.2
            · exact absurd h.1 he
          have hq : (e3 == 0) = false := by simpa using he
          subst hL
          clear he GG
          go_wp2_with fail
          go_roundg (4 - (3 + 1))
          case measure => omega
          case rel => exact ⟨3 + 1, by omega, by omega, rfl, BW.out.alloc BW.out.size _⟩
        case pos =>
          have hG := GG.out
          have hL : L3.length = xs.length := by
            rcases hG with h | h
            · exact absurd he h.1
            · exact h.2.1
          have hCK : errC L3 = 0 := by
            rcases hG with h | h
            · exact absurd he h.1
            · exact errC_yes h.2.2.1
          have hEQ : ∀ k, (h : k < xs.length) → (h' : k < L3.length) → (k : Int) ≠ i → L3[k] = xs[k] := by
            rcases hG with h | h
            · exact absurd he h.1
            · exact h.2.2.2
          have HEQ := Lib.hid hEQ
          have HL := Lib.hid hL
          have hck := fun W (hw : Sl Fd.enc 3 W A3 L3) => check_any A3 c3 L3 W hw (by omega)
          rw [hCK] at hck
          rw [hL] at q0 hck
          have SW := SS.alloc (.cells #[.int .i64 e0, .int .i64 e1, .int .i64 e2, .int .i64 e3] 24)
          have XW := (hx5.below BW.out).alloc (.cells #[.int .i64 e0, .int .i64 e1, .int .i64 e2, .int .i64 e3] 24)
          have BW2 := BW.out.alloc BW.out.size (.cells #[.int .i64 e0, .int .i64 e1, .int .i64 e2, .int .i64 e3] 24)
          have hec : ∀ o, (wr.alloc (.cells #[.int .i64 e0, .int .i64 e1, .int .i64 e2, .int .i64 e3] o)).cell? ⟨wr.heap.size, 3, none⟩ = some (.int .i64 0) := by
            intro o; rw [← he]; simp
          have hq : (e3 == 0) = true := by simpa using he
          clear hG GG SS hEQ hCK hL he
          go_wp2_with fail
          refine (hck _ SW).mono ?_
          rintro e w6 ⟨rfl, hb6⟩
          have SX := SW.below hb6
          have XX := XW.below hb6
          have B6 := below_then BW2 hb6
          clear SW XW BW2 hb6 hck q0 hx5
          go_wp2_with fail
          go_loopg [22, 94] xs.length (fun g2 _ s94 wq => ∃ mm : Nat, mm ≤ xs.length ∧ xs.length - mm ≤ g2 ∧ s94 = .int .i64 mm ∧ Aside (∃ nq, wq = w6.drewN nq))
          case atStart => exact ⟨0, Nat.zero_le _, by omega, rfl, 0, rfl⟩
          case round =>
            obtain ⟨mm, hmm, hgm, rfl, ⟨nq, rfl⟩⟩ := hrel
            by_cases hlt : mm < xs.length
            · have hlt2 : mm < L3.length := by rw [HL.out]; exact hlt
              obtain ⟨b1, o1, hA1, p0, p1, p2⟩ := (SX.drewN nq).fd_at mm hlt2
              obtain ⟨b2, o2, hA2, t0, t1, t2⟩ := (XX.drewN nq).fd_at mm hlt
              subst hA1 hA2
              have z0 : (0 : Int) ≤ (mm : Int) := by omega
              have z1 : (mm : Int) < (xs.length : Int) := by omega
              have hnr := fun W => neq_run xs[mm] xs[mm] W
              have hdx : decide (xs[mm] = xs[mm]) = true := by simp
              rw [hdx] at hnr
              by_cases hi : (mm : Int) = i
              · have hib : ((mm : Int) != i) = false := by simpa using hi
                clear hi hnr
                generalize hw7 : w6.drewN nq = w7 at *
                have BQ : ∀ nr, ∃ nq2, w7.drewN nr = w6.drewN nq2 := fun nr => ⟨nq + nr, by rw [← hw7]; simp [World.drewN, Nat.add_assoc]⟩
                have HBQ := Lib.hid BQ
                clear hw7 BQ
                go_wp2_with fail
                go_quiet (fail)
                go_wp2_with fail
                go_roundg (xs.length - (mm + 1))
                case measure => omega
                case rel => exact ⟨mm + 1, by omega, by omega, by go_num, HBQ.out _⟩
              · have hib : ((mm : Int) != i) = true := by simpa using hi
                rw [HEQ.out mm hlt hlt2 hi] at p0 p1 p2
                clear hi
                generalize hw7 : w6.drewN nq = w7 at *
                have BQ : ∀ nr, ∃ nq2, w7.drewN nr = w6.drewN nq2 := fun nr => ⟨nq + nr, by rw [← hw7]; simp [World.drewN, Nat.add_assoc]⟩
                have HBQ := Lib.hid BQ
                clear hw7 BQ
                go_wp2_with fail
                go_quiet (fail)
                go_wp2_with fail
                go_roundg (xs.length - (mm + 1))
                case measure => omega
                case rel => exact ⟨mm + 1, by omega, by omega, by go_num, HBQ.out _⟩
            · have hmx : mm = xs.length := by omega
              clear hlt
              go_wp2_with fail
              go_roundg (4 - (3 + 1))
              case measure => omega
              case rel => exact ⟨3 + 1, by omega, by omega, rfl, below_drewN B6 _⟩
end Go.Proofs.Ytkckhnblkjgkdaa
