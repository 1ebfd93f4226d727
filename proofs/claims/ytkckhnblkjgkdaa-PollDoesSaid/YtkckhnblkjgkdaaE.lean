/- Layer 9: slices.IndexFunc, slices.ContainsFunc, poll.Fire, poll.Drop, poll.Arm. -/
import Derived.Test.YtkckhnblkjgkdaaD
namespace Go.Proofs.Ytkckhnblkjgkdaa
open Go.RowKit

def idxOf {α : Type} (p : α → Bool) (xs : List α) : Int := match xs.findIdx? p with | some i => (i : Int) | none => -1
theorem idxOf_hit {α : Type} (p : α → Bool) (xs : List α) (k : Nat) (hk : k < xs.length) (h : p xs[k] = true) (hno : ∀ j, (hj : j < k) → p (xs[j]'(by omega)) = false) : idxOf p xs = (k : Int) := by
  unfold idxOf
  have : xs.findIdx? p = some k := by
    rw [List.findIdx?_eq_some_iff_getElem]
    exact ⟨hk, h, fun j hj => by simpa using hno j hj⟩
  rw [this]
theorem idxOf_miss {α : Type} (p : α → Bool) (xs : List α) (hno : ∀ j, (hj : j < xs.length) → p xs[j] = false) : idxOf p xs = -1 := by
  unfold idxOf
  have : xs.findIdx? p = none := by
    rw [List.findIdx?_eq_none_iff]
    intro x hx
    obtain ⟨j, hj, rfl⟩ := List.getElem_of_mem hx
    simpa using hno j hj
  rw [this]
theorem idxOf_cases {α : Type} (p : α → Bool) (xs : List α) : (idxOf p xs = -1 ∧ xs.any p = false) ∨ ∃ k, ∃ h : k < xs.length, idxOf p xs = (k : Int) ∧ xs.any p = true ∧ p xs[k] = true ∧ ∀ j, (hj : j < k) → p (xs[j]'(by omega)) = false := by
  unfold idxOf
  cases h : xs.findIdx? p with
  | none =>
    rw [List.findIdx?_eq_none_iff] at h
    refine .inl ⟨rfl, ?_⟩
    rw [List.any_eq_false]
    intro x hx; simpa using h x hx
  | some k =>
    rw [List.findIdx?_eq_some_iff_getElem] at h
    obtain ⟨hk, hp, hno⟩ := h
    refine .inr ⟨k, hk, rfl, ?_, hp, fun j hj => by simpa using hno j hj⟩
    rw [List.any_eq_true]; exact ⟨_, List.getElem_mem hk, hp⟩
def whoP (id : Int) (x : Fd) : Bool := x.w == id
def Fd.val (x : Fd) : Value := .agg #[.bool x.o, .bool x.r, .int .i64 x.w]

theorem enters34 : ∀ args w, (callFunc 34 args).run Try.prog w = .ok (.enter 34 args) w := enters_of Try.func34 (by kernel_rfl) rfl
theorem enters40 : ∀ args w, (callFunc 40 args).run Try.prog w = .ok (.enter 40 args) w := enters_of Try.func40 (by kernel_rfl) rfl
/-- What a closure over a number does. -/
def PredC (g B : Nat) (id : Int) : Prop := ∀ (W : World) (x : Fd), W.cell? ⟨B, 0, none⟩ = some (.int .i64 id) →
  Calls Try.prog g #[.agg #[.bool x.o, .bool x.r, .int .i64 x.w], .pointer (some ⟨B, 0, none⟩)] W fun e w' => e = .returned (.bool (whoP id x)) ∧ Below W.heap.size W w'
set_option maxHeartbeats 1000000 in
theorem pred34 (B : Nat) (id : Int) : PredC 34 B id := by
  intro W x hc
  have hd := cell_alloc hc
  go_enter Try.func34, Try.ntmps34
  go_wp2_with fail
  go_ret
  exact ⟨rfl, (Below.refl _ _).alloc (Nat.le_refl _) _⟩
set_option maxHeartbeats 1000000 in
theorem pred40 (B : Nat) (id : Int) : PredC 40 B id := by
  intro W x hc
  have hd := cell_alloc hc
  go_enter Try.func40, Try.ntmps40
  go_wp2_with fail
  go_ret
  exact ⟨rfl, (Below.refl _ _).alloc (Nat.le_refl _) _⟩

set_option maxHeartbeats 1000000 in
theorem indexFunc (g B : Nat) (id : Int) (eg : ∀ args w, (callFunc g args).run Try.prog w = .ok (.enter g args) w) (hp : PredC g B id) (A : Option Addr) (c : Nat) (xs : List Fd) (w : World) (hx : Sl Fd.enc 3 w A xs) (hbig : xs.length ≤ 9223372036854775807) (hB : w.cell? ⟨B, 0, none⟩ = some (.int .i64 id)) :
    Calls Try.prog 39 #[.slice A xs.length c, .func (.func g) #[] #[.pointer (some ⟨B, 0, none⟩)]] w fun e w' => e = .returned (.int .i64 (idxOf (whoP id) xs)) ∧ Below w.heap.size w w' := by
  go_enter Try.func39, Try.ntmps39
  go_wp2
  go_loopg [5, 8] xs.length (fun gg _ s8 wr => ∃ kk : Nat, kk ≤ xs.length ∧ xs.length - kk ≤ gg ∧ s8 = .int .i64 kk ∧ Aside (Below w.heap.size w wr) ∧ Aside (∀ j, (hj : j < kk) → ∀ hl : j < xs.length, whoP id xs[j] = false))
  case atStart => exact ⟨0, Nat.zero_le _, by omega, rfl, Below.refl _ w, fun j hj => absurd hj (Nat.not_lt_zero _)⟩
  case round =>
    obtain ⟨kk, hkk, hg, rfl, BW, NO⟩ := hrel
    by_cases hlt : kk < xs.length
    · obtain ⟨b, off, rfl, c0, c1, c2⟩ := (hx.below BW.out).fd_at kk hlt
      have hcall := hp wr xs[kk] (cell_below BW.out hB)
      clear hx hp hB
      cases hq : whoP id xs[kk] with
      | true =>
        rw [hq] at hcall
        have HQ := Lib.hid hq; clear hq
        go_wp2_with (go_at_fn g; refine hcall.mono ?_; rintro e w' ⟨rfl, hb'⟩)
        go_ret
        refine ⟨?_, BW.out.trans (hb'.mono BW.out.size)⟩
        exact ret_int (idxOf_hit (whoP id) xs kk hlt HQ.out (fun j hj => NO.out j hj (by omega))).symm
      | false =>
        rw [hq] at hcall
        have HQ := Lib.hid hq; clear hq
        go_wp2_with (go_at_fn g; refine hcall.mono ?_; rintro e w' ⟨rfl, hb'⟩)
        go_roundg (xs.length - (kk + 1))
        case measure => omega
        case rel =>
          refine ⟨kk + 1, by omega, by omega, by go_num, BW.out.trans (hb'.mono BW.out.size), (show Aside _ from fun j hj hl => ?_)⟩
          by_cases e : j = kk
          · subst e
            exact HQ.out
          · exact NO.out j (by omega) hl
    · have : kk = xs.length := by omega
      go_wp2
      go_ret
      refine ⟨?_, BW.out⟩
      exact ret_int (idxOf_miss (whoP id) xs (fun j hj => NO.out j (by omega) hj)).symm
theorem idxOf_nonneg {α : Type} (p : α → Bool) (xs : List α) : decide (idxOf p xs ≥ 0) = xs.any p := by
  rcases idxOf_cases p xs with ⟨h, h2⟩ | ⟨k, _, h, h2, _⟩
  · rw [h, h2]; rfl
  · rw [h, h2]; simp
set_option maxHeartbeats 1000000 in
theorem containsFd (B : Nat) (id : Int) (A : Option Addr) (c : Nat) (xs : List Fd) (w : World) (hx : Sl Fd.enc 3 w A xs) (hbig : xs.length ≤ 9223372036854775807) (hB : w.cell? ⟨B, 0, none⟩ = some (.int .i64 id)) :
    Calls Try.prog 33 #[.slice A xs.length c, .func (.func 34) #[] #[.pointer (some ⟨B, 0, none⟩)]] w fun e w' => e = .returned (.bool (xs.any (whoP id))) ∧ Below w.heap.size w w' := by
  go_enter Try.func33, Try.ntmps33
  go_wp2_with (go_at_call 39; refine (indexFunc 34 B id enters34 (pred34 B id) A c xs _ hx hbig hB).mono ?_; rintro e w' ⟨rfl, hb'⟩)
  go_ret
  exact ⟨ret_bool (idxOf_nonneg (whoP id) xs), hb'⟩

set_option maxHeartbeats 2000000 in
theorem fire_slice (b off c : Nat) (A : Option Addr) (xs : List Fd) (i : Int) (w : World) (hA : 0 < xs.length → A = some ⟨b, off, none⟩) (hx : Sl Fd.enc 3 w A xs) (hbig : xs.length ≤ 9223372036854775807) :
    Calls Try.prog 13 #[.slice A xs.length c, .int .i64 i] w (GivesV (.int .i64 (whoV xs i)) w (fireL xs i) (needE xs i)) := by
  unfold fireL whoV
  by_cases hne : needE xs i = 0
  case neg =>
    have ho := opened_no b off c A xs i w hA hx hbig hne
    have hq : (needE xs i == 0) = false := by simpa using hne
    rw [if_neg hne, if_neg hne]; clear hne hA
    generalize needE xs i = q at *
    go_enter Try.func13, Try.ntmps13
    go_wp2_with (go_at_call 31; refine ho.mono ?_; rintro e w1 ⟨rfl, hb1⟩)
    go_ret3
    exact givesV_no rfl hb1
  case pos =>
    rcases need_cases xs i with ⟨_, h2, _⟩ | ⟨n, rfl, hn, hc, hi, ho, h2, _⟩ | ⟨n, rfl, hn, hc, hi, ho, h2, _⟩
    · omega
    · omega
    · obtain rfl := hA (by omega)
      have hp := opened_yes b off c xs n w hx hn hc ho
      rw [if_pos h2, if_pos h2, fdAt_nat hn, Int.toNat_natCast, h2]; clear h2 hA hc hi hne ho
      go_enter Try.func13, Try.ntmps13
      go_wp2_with fail
      refine hp.mono ?_
      rintro e w1 ⟨g, cap, rfl, hown, hb1⟩
      obtain ⟨c0, c1, c2, hfz⟩ := own_cells hown n hn
      go_wp2_with fail
      refine (open_below w1).mono ?_
      rintro e w2 ⟨rfl, hb2⟩
      have hown2 := hown.below hb2
      have hg := own_base_le hown2 hn
      clear c0 c1 c2 hfz
      obtain ⟨c0, c1, c2, hfz⟩ := own_cells hown2 n hn
      have f0 := hfz (n * 3)
      have f1 := hfz (n * 3 + 1)
      have f2 := hfz (n * 3 + 2)
      have hset := own_setAll hown2 n hn ⟨true, false, -1⟩
      have hset2 := own_setR hset n (by rw [List.length_set]; exact hn) (xs[n].w == -1)
      rw [List.set_set] at hset2
      have HS := Lib.hid hset2
      clear hset hset2 hown2 hown
      go_wp2_with fail
      go_ret3
      refine givesV_set rfl ?_ ((below_setAll (below_then hb1 hb2) hg _ _ _).setCell hg _)
      have := HS.out
      simpa using this
end Go.Proofs.Ytkckhnblkjgkdaa
