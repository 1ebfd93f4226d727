/- Layer 9: poll.Check. -/
import Derived.Test.YtkckhnblkjgkdaaA
import Derived.Deep.DeepCutAuto
import Derived.Deep.RegionWith
namespace Go.Proofs.Ytkckhnblkjgkdaa
open Go.RowKit

/-- What poll.Check answers. -/
def errC (xs : List Fd) : Int := if chk xs then 0 else 1
/-- The region that reckons 'odd', at a box that holds x. -/
theorem odd_cases (x : Fd) : (x.w < -1 ∧ x.odd = true) ∨ (-1 ≤ x.w ∧ x.o = true ∧ x.odd = (x.r && !decide (x.w = -1))) ∨ (-1 ≤ x.w ∧ x.o = false ∧ x.odd = !decide (x = ⟨false, false, -1⟩)) := by
  by_cases h1 : x.w < -1
  · exact .inl ⟨h1, by simp [Fd.odd, h1]⟩
  · cases ho : x.o
    · refine .inr (.inr ⟨by omega, rfl, ?_⟩)
      unfold Fd.odd
      by_cases he : x = ⟨false, false, -1⟩
      · subst he; rfl
      · simp [ho, he]
    · refine .inr (.inl ⟨by omega, rfl, ?_⟩)
      unfold Fd.odd
      simp [ho]; omega

theorem errC_no {xs : List Fd} {k : Nat} (hk : k < xs.length) (h : xs[k].odd = true ∨ (xs[k].w ≠ -1 ∧ ∃ i, i < k ∧ ∃ hi : i < xs.length, xs[i].w = xs[k].w)) : errC xs = 1 := by
  unfold errC chk
  rw [if_neg]
  rw [Bool.and_eq_true, decide_eq_true_eq]
  rintro ⟨hf, _⟩
  obtain ⟨f1, f2⟩ := hf k hk hk
  rcases h with h | ⟨hw, i, hi, hil, he⟩
  · rw [h] at f1; cases f1
  · exact f2 i hi hil hw he

set_option maxHeartbeats 2000000 in
theorem check_any (A : Option Addr) (c : Nat) (xs : List Fd) (w : World) (hx : Sl Fd.enc 3 w A xs) (hbig : xs.length ≤ 9223372036854775807) :
    Calls Try.prog 14 #[.slice A xs.length c] w fun e w' => e = .returned (.int .i64 (errC xs)) ∧ Below w.heap.size w w' := by
  have hmm := @run_makeMap Try.prog
  go_enter Try.func14, Try.ntmps14
  go_wp2_with fail
  go_loopg [10] xs.length (fun gg s10 wr => ∃ kk : Nat, kk ≤ xs.length ∧ xs.length - kk ≤ gg ∧ s10 = .int .i64 kk ∧ Aside (Below w.heap.size w wr) ∧ Aside (IsMap Value.bool wr w.heap.size (metM xs kk)) ∧ Aside (fine xs kk))
  case atStart =>
    exact ⟨0, Nat.zero_le _, by omega, rfl, (Below.refl _ _).alloc (Nat.le_refl _) _, IsMap.made _ _, fun j hj => absurd hj (Nat.not_lt_zero _)⟩
  case round =>
    obtain ⟨kk, hkk, hgk, rfl, BW, MP, FI⟩ := hrel
    clear hmm
    by_cases hlt : kk < xs.length
    · obtain ⟨b1, o1, rfl, c0, c1, c2⟩ := (hx.below BW.out).fd_at kk hlt
      have z0 : (0 : Int) ≤ (kk : Int) := by omega
      have z1 : (kk : Int) < (xs.length : Int) := by omega
      have hco := odd_cases xs[kk]
      go_upto_region 5 with fail
      have b0 : (wr.alloc (Obj.cells #[Value.bool xs[kk].o, Value.bool xs[kk].r, Value.int IntKind.i64 xs[kk].w] 35)).cell? ⟨wr.heap.size, 0, none⟩ = some (.bool xs[kk].o) := by simp
      have b1' : (wr.alloc (Obj.cells #[Value.bool xs[kk].o, Value.bool xs[kk].r, Value.int IntKind.i64 xs[kk].w] 35)).cell? ⟨wr.heap.size, 1, none⟩ = some (.bool xs[kk].r) := by simp
      have b2 : (wr.alloc (Obj.cells #[Value.bool xs[kk].o, Value.bool xs[kk].r, Value.int IntKind.i64 xs[kk].w] 35)).cell? ⟨wr.heap.size, 2, none⟩ = some (.int .i64 xs[kk].w) := by simp
      have hbw : Below w.heap.size w (wr.alloc (Obj.cells #[Value.bool xs[kk].o, Value.bool xs[kk].r, Value.int IntKind.i64 xs[kk].w] 35)) := BW.out.alloc BW.out.size _
      have hmp : IsMap Value.bool (wr.alloc (Obj.cells #[Value.bool xs[kk].o, Value.bool xs[kk].r, Value.int IntKind.i64 xs[kk].w] 35)) w.heap.size (metM xs kk) := MP.out.below ((Below.refl _ _).alloc (Nat.le_refl _) _)
      clear MP BW c0 c1 c2
      generalize wr.alloc (Obj.cells #[Value.bool xs[kk].o, Value.bool xs[kk].r, Value.int IntKind.i64 xs[kk].w] 35) = w5 at *
      generalize wr.heap.size = g5 at *
      have BW := Lib.hid hbw
      have MP := Lib.hid hmp
      have HN := fun W => neq_run xs[kk] ⟨false, false, -1⟩ W
      clear hbw hmp hx
      generalize hxx : xs[kk] = x at *
      have HX := Lib.hid hxx
      clear hxx
      go_cut [6] (fun s6 wc => s6 = .bool x.odd ∧ Aside (Below w5.heap.size w5 wc))
      case first =>
        rcases hco with ⟨h1, h2⟩ | ⟨h1, h2, h3⟩ | ⟨h1, h2, h3⟩
        · have H2 := Lib.hid h2
          clear h2 HN
          go_quiet (fail)
          go_wp2_with fail
          go_meet
          exact ⟨by rw [H2.out], below_drewN (Below.refl _ _) _⟩
        · have H3 := Lib.hid h3
          rw [h2] at b0
          clear h3 h2 HN
          cases hr : x.r
          · rw [hr] at b1'
            have HR := Lib.hid hr
            clear hr
            go_quiet (fail)
            go_wp2_with fail
            go_meet
            exact ⟨by rw [H3.out, HR.out]; simp <;> omega, below_drewN (Below.refl _ _) _⟩
          · rw [hr] at b1'
            have HR := Lib.hid hr
            clear hr
            by_cases hw : x.w = -1
            · have hb : (x.w != -1) = false := by simp [hw]
              have HW := Lib.hid hw
              clear hw
              go_quiet (fail)
              go_wp2_with fail
              go_meet
              exact ⟨by rw [H3.out, HR.out, HW.out]; simp, below_drewN (Below.refl _ _) _⟩
            · have hb : (x.w != -1) = true := by simp [hw]
              have HW := Lib.hid hw
              clear hw
              go_quiet (fail)
              go_wp2_with fail
              go_meet
              exact ⟨by rw [H3.out, HR.out]; simp [HW.out], below_drewN (Below.refl _ _) _⟩
        · have H3 := Lib.hid h3
          rw [h2] at b0 HN
          have h1' : decide (x.w < -1) = false := by simp; exact h1
          by_cases he : x = ⟨false, false, -1⟩
          · subst he
            have hg5 : g5 < w5.heap.size := cell_lt b2
            clear h3 h2 HN
            have k0 := cell_regrown b0
            have k1 := cell_regrown b1'
            have k2 := cell_regrown b2
            have cS : ∀ d os, Calls Try.prog 32 #[] (Go.Sort.grow (redrawn w5 d) os) fun e w'' => e = .returned (.agg #[.bool false, .bool false, .int .i64 (-1)]) ∧ ∃ p : Regrown, w'' = Go.Sort.grow (redrawn w5 p.d) p.os := fun d os => Calls.regrown_of (shut_below _)
            clear b0 b1' b2
            refine wp_region_quiet_below (by kernel_rfl) (by kernel_rfl) ?_
            repeat (first | go_big_quiet_step (exact cS _ _) | quiet_step (exact cS _ _))
            refine wpQuiet_nil ?_
            intro _ hw'
            obtain ⟨pq, rfl⟩ := hw'
            have hbq := below_regrown w5 pq.d pq.os
            generalize Go.Sort.grow (redrawn w5 pq.d) pq.os = wq at *
            go_wp2_with fail
            go_meet
            exact ⟨rfl, hbq⟩
          · have hn : ∀ W, (binOp .neq 35 (.agg #[.bool false, .bool x.r, .int .i64 x.w]) (.agg #[.bool false, .bool false, .int .i64 (-1)])).run Try.prog W = .ok (.bool true) W := by
              intro W; rw [HN W, show decide (x = ⟨false, false, -1⟩) = false from by rw [decide_eq_false_iff_not]; exact he]; rfl
            have HE := Lib.hid he
            have hg5 : g5 < w5.heap.size := cell_lt b2
            clear h3 h2 HN he
            have k0 := cell_regrown b0
            have k1 := cell_regrown b1'
            have k2 := cell_regrown b2
            have cS : ∀ d os, Calls Try.prog 32 #[] (Go.Sort.grow (redrawn w5 d) os) fun e w'' => e = .returned (.agg #[.bool false, .bool false, .int .i64 (-1)]) ∧ ∃ p : Regrown, w'' = Go.Sort.grow (redrawn w5 p.d) p.os := fun d os => Calls.regrown_of (shut_below _)
            clear b0 b1' b2
            refine wp_region_quiet_below (by kernel_rfl) (by kernel_rfl) ?_
            repeat (first | go_big_quiet_step (exact cS _ _) | quiet_step (exact cS _ _))
            refine wpQuiet_nil ?_
            intro _ hw'
            obtain ⟨pq, rfl⟩ := hw'
            have hbq := below_regrown w5 pq.d pq.os
            generalize Go.Sort.grow (redrawn w5 pq.d) pq.os = wq at *
            go_wp2_with fail
            go_meet
            exact ⟨by rw [H3.out]; simp [HE.out], hbq⟩
      case rest =>
        obtain ⟨rfl, BC⟩ := hcut
        have e2 := cell_below BC.out b2
        have hbc := below_then BW.out BC.out
        have him := MP.out.below BC.out
        have hbig' : kk < xs.length := hlt
        clear b0 b1' b2 HN hco
        cases hod : x.odd
        case true =>
          have HE := Lib.hid (errC_no hlt (.inl (by rw [HX.out]; exact hod)))
          clear hod
          go_wp2_with fail
          go_ret
          exact ⟨ret_int HE.out.symm, hbc⟩
        case false =>
          have hz : (zeroValue 4).run Try.prog wc = .ok (Value.bool false) wc := by kernel_rfl
          have hlk := run_lookup_im (enc := Value.bool) (P := Try.prog) Try.underlying59 Try.underlying2 hz him x.w
          obtain ⟨w6, hrun, him6, hgr6, hsz6, hcell6, hfro6⟩ := run_update_im (enc := Value.bool) (P := Try.prog) Try.underlying59 Try.underlying2 him x.w (x.w != -1)
          have hml := met_look xs kk hkk x.w
          have HO := Lib.hid hod
          have HM6 := Lib.hid him6
          have HG6 := Lib.hid hgr6
          clear hod hz him him6 hgr6 hsz6 hcell6 hfro6
          cases hq : (mlook x.w (metM xs kk)).getD false
          case true =>
            rw [hq] at hlk hml
            obtain ⟨hw, i, hi, hil, hiw⟩ := hml.1 rfl
            have HE := Lib.hid (errC_no hlt (.inr ⟨by rw [HX.out]; exact hw, i, hi, hil, by rw [HX.out]; exact hiw⟩))
            clear hml hw hiw hq hrun
            go_wp2_with fail
            go_ret
            exact ⟨ret_int HE.out.symm, hbc⟩
          case false =>
            rw [hq] at hlk hml
            have HF : Hid (fine xs (kk + 1)) := by
              intro j hj hjl
              by_cases e : j = kk
              · subst e
                refine ⟨by rw [HX.out]; exact HO.out, fun i hi hil hne heq => ?_⟩
                rw [HX.out] at hne heq
                have := hml.2 ⟨hne, i, hi, hil, heq⟩
                cases this
              · exact FI.out j (by omega) hjl
            have HMS : Hid (metM xs (kk + 1) = mput x.w (x.w != -1) (metM xs kk)) := by
              show metM xs (kk + 1) = _
              rw [metM, dif_pos hlt, HX.out]
              congr 1
            clear hml hq
            go_wp2_with fail
            go_roundg (xs.length - (kk + 1))
            case measure => omega
            case rel =>
              refine ⟨kk + 1, by omega, by omega, by go_num, ?_, ?_, HF.out⟩
              · exact hbc.grown HG6.out hbc.size (fun k hk => by simp at hk; omega)
              · show IsMap _ _ _ _
                rw [HMS.out]; exact HM6.out
    · have hkx : kk = xs.length := by omega
      have HF : Hid (fine xs xs.length) := by rw [← hkx]; exact FI.out
      have hb := BW.out
      clear hkx
      by_cases h16 : 16 < xs.length
      · have HE : Hid (errC xs = 1) := by show errC xs = 1; unfold errC chk; rw [if_neg]; simp; intro _; omega
        go_wp2_with fail
        go_ret
        exact ⟨ret_int HE.out.symm, hb⟩
      · have HE : Hid (errC xs = 0) := by
          show errC xs = 0
          have hf : fine xs xs.length := HF.out
          unfold errC chk; rw [if_pos]; simp [hf]; omega
        go_wp2_with fail
        go_ret
        exact ⟨ret_int HE.out.symm, hb⟩
end Go.Proofs.Ytkckhnblkjgkdaa
