/- Layer 15: the tenants as lists; slices.IndexFunc. -/
import Derived.Test.YtcgddfpfmnpaeaaProg
import Derived.Test.YtcgddfpfmnpaeaaWd
namespace Go.Proofs.Ytcgddfpfmnpaeaa
open Go.RowKit

/-- A tenant. -/
structure Ten where
  w : Int
  q : Int
  l : Int
  t : Int
  r : Int
deriving DecidableEq, Inhabited
def Ten.enc (x : Ten) : List Value := [.int .i64 x.w, .int .i64 x.q, .int .i64 x.l, .int .i64 x.t, .int .i64 x.r]
def Ten.val (x : Ten) : Value := .agg #[.int .i64 x.w, .int .i64 x.q, .int .i64 x.l, .int .i64 x.t, .int .i64 x.r]

theorem Ten.enc_length (x : Ten) : x.enc.length = 5 := rfl
theorem Ten.enc_one (x : Ten) : ∀ u ∈ x.enc, u.oneCell' = true := by intro u hu; simp [Ten.enc] at hu; rcases hu with rfl | rfl | rfl | rfl | rfl <;> rfl
theorem Sl.ten_at {w : World} {A : Option Addr} {xs : List Ten} (h : Sl Ten.enc 5 w A xs) (i : Nat) (hi : i < xs.length) : ∃ b off, A = some ⟨b, off, none⟩ ∧
    w.cell? ⟨b, off + i * 5, none⟩ = some (.int .i64 xs[i].w) ∧ w.cell? ⟨b, off + i * 5 + 1, none⟩ = some (.int .i64 xs[i].q) ∧ w.cell? ⟨b, off + i * 5 + 2, none⟩ = some (.int .i64 xs[i].l) ∧
    w.cell? ⟨b, off + i * 5 + 3, none⟩ = some (.int .i64 xs[i].t) ∧ w.cell? ⟨b, off + i * 5 + 4, none⟩ = some (.int .i64 xs[i].r) := by
  obtain ⟨b, off, hA, hc⟩ := h (by omega)
  exact ⟨b, off, hA, hc i hi 0 _ rfl, hc i hi 1 _ rfl, hc i hi 2 _ rfl, hc i hi 3 _ rfl, hc i hi 4 _ rfl⟩

/-- What is asked of a predicate. -/
def PredB (g : Nat) (p : Ten → Bool) : Prop :=
  ∀ (W : World) (x : Ten), Calls Try.prog g #[x.val] W fun e w' => e = .returned (.bool (p x)) ∧ Below W.heap.size W w'

def idxOf {α : Type} (p : α → Bool) (xs : List α) : Int := match xs.findIdx? p with | some i => (i : Int) | none => -1

theorem idxOf_hit {α : Type} (p : α → Bool) (xs : List α) (k : Nat) (hk : k < xs.length) (h : p xs[k] = true) (hno : ∀ j, (hj : j < k) → p (xs[j]'(by omega)) = false) : idxOf p xs = (k : Int) := by
  unfold idxOf
  have : xs.findIdx? p = some k := by
    rw [List.findIdx?_eq_some_iff_getElem]
    exact ⟨hk, h, fun j hj => by simp [hno j hj]⟩
  rw [this]
theorem idxOf_miss {α : Type} (p : α → Bool) (xs : List α) (hno : ∀ j, (hj : j < xs.length) → p xs[j] = false) : idxOf p xs = -1 := by
  unfold idxOf
  have : xs.findIdx? p = none := by
    rw [List.findIdx?_eq_none_iff]
    intro x hx
    obtain ⟨j, hj, rfl⟩ := List.getElem_of_mem hx
    exact hno j hj
  rw [this]

set_option maxHeartbeats 1000000 in
theorem indexFunc (g : Nat) (p : Ten → Bool) (eg : ∀ args w, (callFunc g args).run Try.prog w = .ok (.enter g args) w) (hp : PredB g p) (A : Option Addr) (c : Nat) (xs : List Ten) (w : World) (hx : Sl Ten.enc 5 w A xs) (hbig : xs.length ≤ 9223372036854775807) :
    Calls Try.prog 38 #[.slice A xs.length c, .func (.func g) #[] #[]] w fun e w' => e = .returned (.int .i64 (idxOf p xs)) ∧ Below w.heap.size w w' := by
  go_enter Try.func38, Try.ntmps38
  go_wp2
  go_loopg [5, 8] xs.length (fun gg _ s8 wr => ∃ kk : Nat, kk ≤ xs.length ∧ xs.length - kk ≤ gg ∧ s8 = .int .i64 kk ∧ Aside (Below w.heap.size w wr) ∧ Aside (∀ j, (hj : j < kk) → ∀ hl : j < xs.length, p xs[j] = false))
  case atStart => exact ⟨0, Nat.zero_le _, by omega, rfl, Below.refl _ w, fun j hj => absurd hj (Nat.not_lt_zero _)⟩
  case round =>
    obtain ⟨kk, hkk, hg, rfl, BW, NO⟩ := hrel
    by_cases hlt : kk < xs.length
    · obtain ⟨b, off, rfl, c0, c1, c2, c3, c4⟩ := (hx.below BW.out).ten_at kk hlt
      have hcall := hp wr xs[kk]
      clear hx hp
      cases hq : p xs[kk] with
      | true =>
        rw [hq] at hcall
        have HQ := Lib.hid hq; clear hq
        go_wp2_with (go_at_fn g; refine hcall.mono ?_; rintro e w' ⟨rfl, hb'⟩)
        go_ret
        refine ⟨?_, BW.out.trans (hb'.mono BW.out.size)⟩
        exact ret_int (idxOf_hit p xs kk hlt HQ.out (fun j hj => NO.out j hj (by omega))).symm
      | false =>
        rw [hq] at hcall
        have HQ := Lib.hid hq; clear hq
        go_wp2_with (go_at_fn g; refine hcall.mono ?_; rintro e w' ⟨rfl, hb'⟩)
        go_roundg (xs.length - (kk + 1))
        case measure => omega
        case rel =>
          refine ⟨kk + 1, by omega, by omega, by go_num, BW.out.trans (hb'.mono BW.out.size), (show Aside _ from fun j hj hl => ?_)⟩
          by_cases e : j = kk
          · subst e
            exact HQ.out
          · exact NO.out j (by omega) hl
    · have : kk = xs.length := by omega
      go_wp2
      go_ret
      refine ⟨?_, BW.out⟩
      exact ret_int (idxOf_miss p xs (fun j hj => NO.out j (by omega) hj)).symm
end Go.Proofs.Ytcgddfpfmnpaeaa
