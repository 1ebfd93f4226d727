/- Layer 9: descriptors as lists; poll.shut, poll.open, poll.Check. -/
import Derived.Test.YtkckhnblkjgkdaaProg
import Derived.Test.YtkckhnblkjgkdaaMp
import Derived.Deep.RegionHeld3
import Derived.Lib.QuietBelow
namespace Go.Proofs.Ytkckhnblkjgkdaa
open Go.RowKit

/-- A descriptor. -/
structure Fd where
  o : Bool
  r : Bool
  w : Int
deriving DecidableEq, Inhabited
def Fd.enc (x : Fd) : List Value := [.bool x.o, .bool x.r, .int .i64 x.w]
theorem Fd.enc_length (x : Fd) : x.enc.length = 3 := rfl
theorem Fd.enc_one (x : Fd) : ∀ u ∈ x.enc, u.oneCell' = true := by intro u hu; simp [Fd.enc] at hu; rcases hu with rfl | rfl | rfl <;> rfl
theorem Sl.fd_at {w : World} {A : Option Addr} {xs : List Fd} (h : Sl Fd.enc 3 w A xs) (i : Nat) (hi : i < xs.length) : ∃ b off, A = some ⟨b, off, none⟩ ∧
    w.cell? ⟨b, off + i * 3, none⟩ = some (.bool xs[i].o) ∧ w.cell? ⟨b, off + i * 3 + 1, none⟩ = some (.bool xs[i].r) ∧ w.cell? ⟨b, off + i * 3 + 2, none⟩ = some (.int .i64 xs[i].w) := by
  obtain ⟨b, off, hA, hc⟩ := h.at_ i hi
  exact ⟨b, off, hA, hc 0 _ rfl, hc 1 _ rfl, hc 2 _ rfl⟩

theorem shut_any (w : World) : Calls Try.prog 32 #[] w fun e w' => e = .returned (.agg #[.bool false, .bool false, .int .i64 (-1)]) ∧ w' = w.alloc (.cells #[.bool false, .bool false, .int .i64 (-1)] 35) := by
  go_enter Try.func32, Try.ntmps32
  go_wp2_with fail
  exact bodyPost_ret (v := .agg #[.bool false, .bool false, .int .i64 (-1)]) (by simp [results, Try.results32, go_sem]) rfl ⟨rfl, rfl⟩
theorem open_any (w : World) : Calls Try.prog 30 #[] w fun e w' => e = .returned (.agg #[.bool true, .bool false, .int .i64 (-1)]) ∧ w' = w.alloc (.cells #[.bool true, .bool false, .int .i64 (-1)] 35) := by
  go_enter Try.func30, Try.ntmps30
  go_wp2_with fail
  exact bodyPost_ret (v := .agg #[.bool true, .bool false, .int .i64 (-1)]) (by simp [results, Try.results30, go_sem]) rfl ⟨rfl, rfl⟩

theorem fd_eq_iff (x y : Fd) : x = y ↔ x.o = y.o ∧ x.r = y.r ∧ x.w = y.w := by
  obtain ⟨a, b, c⟩ := x
  obtain ⟨a', b', c'⟩ := y
  simp only [Fd.mk.injEq]
theorem neq_run (x y : Fd) (W : World) : (binOp .neq 35 (.agg #[.bool x.o, .bool x.r, .int .i64 x.w]) (.agg #[.bool y.o, .bool y.r, .int .i64 y.w])).run Try.prog W = .ok (.bool (!decide (x = y))) W := by
  have hi := fd_eq_iff x y
  by_cases h1 : x.o = y.o
  · by_cases h2 : x.r = y.r
    · by_cases h3 : x.w = y.w
      · have : decide (x = y) = true := by rw [decide_eq_true_eq, hi]; exact ⟨h1, h2, h3⟩
        rw [this]; simp [go_sem, h1, h2, h3]
      · have : decide (x = y) = false := by rw [decide_eq_false_iff_not, hi]; simp [h3]
        rw [this]; simp [go_sem, h1, h2, h3]
    · have : decide (x = y) = false := by rw [decide_eq_false_iff_not, hi]; simp [h2]
      rw [this]; simp [go_sem, h1, h2]
  · have : decide (x = y) = false := by rw [decide_eq_false_iff_not, hi]; simp [h1]
    rw [this]; simp [go_sem, h1]

/-- One that may not be. -/
def Fd.odd (x : Fd) : Bool := decide (x.w < -1) || ((!x.o && !decide (x = ⟨false, false, -1⟩)) || (x.r && !decide (x.w = -1)))
/-- Whether the first k may be: none is odd, and nobody waits twice. -/
def fine (xs : List Fd) (k : Nat) : Prop := ∀ j, j < k → ∀ hj : j < xs.length, xs[j].odd = false ∧ ∀ i, i < j → ∀ hi : i < xs.length, xs[j].w ≠ -1 → xs[i].w ≠ xs[j].w
instance (xs : List Fd) (k : Nat) : Decidable (fine xs k) := by unfold fine; infer_instance
def chk (xs : List Fd) : Bool := decide (fine xs xs.length) && decide (xs.length ≤ 16)
/-- What the map holds behind k rounds. -/
def metM (xs : List Fd) : Nat → List (Int × Bool)
  | 0 => []
  | k + 1 => if h : k < xs.length then mput xs[k].w (!decide (xs[k].w = -1)) (metM xs k) else metM xs k
theorem mlook_put {β : Type} (k q : Int) (v : β) : ∀ (m : List (Int × β)), mlook q (mput k v m) = if q = k then some v else mlook q m
  | [] => by
    by_cases h : q = k
    · subst h; simp [mlook, mput, findAt]
    · simp [mlook, mput, findAt, h, Ne.symm h]
  | p :: r => by
    have ih := mlook_put k q v r
    unfold mlook at *
    unfold mput
    by_cases hp : p.1 = k
    · rw [if_pos hp]
      unfold findAt
      by_cases hq : q = k
      · subst hq; simp
      · simp only [if_neg hq]
        rw [if_neg (Ne.symm hq), if_neg (by rw [hp]; exact Ne.symm hq)]
    · rw [if_neg hp]
      unfold findAt
      by_cases hq : p.1 = q
      · rw [if_pos hq, if_pos hq]
        have : q ≠ k := by rw [← hq]; exact hp
        simp [this]
      · rw [if_neg hq, if_neg hq, findAt_shift, findAt_shift]
        rw [Option.map_map, Option.map_map]
        exact ih
theorem met_look (xs : List Fd) (k : Nat) (hk : k ≤ xs.length) (q : Int) : ((mlook q (metM xs k)).getD false = true) ↔ (q ≠ -1 ∧ ∃ i, i < k ∧ ∃ hi : i < xs.length, xs[i].w = q) := by
  induction k with
  | zero => simp [metM, mlook, findAt]
  | succ k ih =>
    have hkl : k < xs.length := by omega
    rw [metM, dif_pos hkl, mlook_put]
    by_cases hq : q = xs[k].w
    · subst hq
      simp only [if_true, Option.getD_some, Bool.not_eq_true', decide_eq_false_iff_not]
      constructor
      · intro h; exact ⟨h, k, by omega, hkl, rfl⟩
      · intro h; exact h.1
    · rw [if_neg hq, ih (by omega)]
      constructor
      · rintro ⟨h1, i, hi, hi2, h2⟩; exact ⟨h1, i, by omega, hi2, h2⟩
      · rintro ⟨h1, i, hi, hi2, h2⟩
        refine ⟨h1, i, ?_, hi2, h2⟩
        rcases Nat.lt_or_ge i k with h | h
        · exact h
        · have : i = k := by omega
          subst this; exact absurd h2.symm hq
theorem shut_below (w : World) : Calls Try.prog 32 #[] w fun e w' => e = .returned (.agg #[.bool false, .bool false, .int .i64 (-1)]) ∧ Below w.heap.size w w' :=
  (shut_any w).mono fun _ _ ⟨he, hw⟩ => ⟨he, by rw [hw]; exact (Below.refl _ _).alloc (Nat.le_refl _) _⟩
theorem open_below (w : World) : Calls Try.prog 30 #[] w fun e w' => e = .returned (.agg #[.bool true, .bool false, .int .i64 (-1)]) ∧ Below w.heap.size w w' :=
  (open_any w).mono fun _ _ ⟨he, hw⟩ => ⟨he, by rw [hw]; exact (Below.refl _ _).alloc (Nat.le_refl _) _⟩
end Go.Proofs.Ytkckhnblkjgkdaa
