/- Layer 15: lodge.within, lodge.odd, slices.ContainsFunc, lodge.Check. -/
import Derived.Test.YtcgddfpfmnpaeaaA
namespace Go.Proofs.Ytcgddfpfmnpaeaa
open Go.RowKit

def wi (n a b : Int) : Bool := decide (a ≤ n ∧ n ≤ b)
theorem wi_no1 {n a b : Int} (h : n < a) : wi n a b = false := by simp [wi]; omega
theorem wi_yes {n a b : Int} (h : a ≤ n) : wi n a b = decide (n ≤ b) := by simp [wi, h]
def maxTag : Int := 1152921504606846976
def maxRan : Int := 1099511627776
def Ten.ok (x : Ten) : Bool := wi x.w 1 16 && (wi x.q 0 256 && (wi x.l 0 x.q && (wi x.t 0 maxTag && wi x.r 0 maxRan)))
def chk (xs : List Ten) : Bool := decide (1 ≤ xs.length ∧ xs.length ≤ 16) && xs.all Ten.ok

theorem within_int (n a b : Int) (w : World) : Calls Try.prog 39 #[.int .i64 n, .int .i64 a, .int .i64 b] w fun e w' => e = .returned (.bool (wi n a b)) ∧ w = w' := by
  by_cases h : a ≤ n
  · go_enter Try.func39, Try.ntmps39
    go_wp2
    go_ret
    exact ⟨ret_bool (wi_yes h).symm, rfl⟩
  · go_enter Try.func39, Try.ntmps39
    go_wp2
    go_ret
    exact ⟨ret_bool (wi_no1 h).symm, rfl⟩
theorem within_int64 (n a b : Int) (w : World) : Calls Try.prog 40 #[.int .i64 n, .int .i64 a, .int .i64 b] w fun e w' => e = .returned (.bool (wi n a b)) ∧ w = w' := by
  by_cases h : a ≤ n
  · go_enter Try.func40, Try.ntmps40
    go_wp2
    go_ret
    exact ⟨ret_bool (wi_yes h).symm, rfl⟩
  · go_enter Try.func40, Try.ntmps40
    go_wp2
    go_ret
    exact ⟨ret_bool (wi_no1 h).symm, rfl⟩

set_option maxHeartbeats 1000000 in
theorem odd_any : PredB 34 (fun x => !x.ok) := by
  intro W x
  unfold Ten.val
  go_enter Try.func34, Try.ntmps34
  go_wp2_with (first | (go_at_call 39; refine (within_int _ _ _ _).mono ?_; rintro e w' ⟨rfl, rfl⟩) | (go_at_call 40; refine (within_int64 _ _ _ _).mono ?_; rintro e w' ⟨rfl, rfl⟩))
  all_goals (go_ret; refine ⟨ret_bool ?_, (Below.refl _ _).alloc (Nat.le_refl _) _⟩)
  all_goals simp_all [Ten.ok, maxTag, maxRan]

theorem idxOf_nonneg {α : Type} (p : α → Bool) (xs : List α) : decide (idxOf p xs ≥ 0) = xs.any p := by
  unfold idxOf
  cases h : xs.findIdx? p with
  | none =>
    rw [List.findIdx?_eq_none_iff] at h
    simp only [ge_iff_le]
    symm
    rw [show decide ((0 : Int) ≤ -1) = false from rfl, List.any_eq_false]
    intro x hx
    simpa using h x hx
  | some i =>
    rw [List.findIdx?_eq_some_iff_getElem] at h
    obtain ⟨hi, hp, _⟩ := h
    have : decide ((i : Int) ≥ 0) = true := by simp
    rw [this]
    symm
    rw [List.any_eq_true]
    exact ⟨_, List.getElem_mem hi, hp⟩

set_option maxHeartbeats 1000000 in
theorem containsFunc (g : Nat) (p : Ten → Bool) (eg : ∀ args w, (callFunc g args).run Try.prog w = .ok (.enter g args) w) (hp : PredB g p) (A : Option Addr) (c : Nat) (xs : List Ten) (w : World) (hx : Sl Ten.enc 5 w A xs) (hbig : xs.length ≤ 9223372036854775807) :
    Calls Try.prog 33 #[.slice A xs.length c, .func (.func g) #[] #[]] w fun e w' => e = .returned (.bool (xs.any p)) ∧ Below w.heap.size w w' := by
  go_enter Try.func33, Try.ntmps33
  go_wp2_with (go_at_call 38; refine (indexFunc g p eg hp A c xs _ hx hbig).mono ?_; rintro e w' ⟨rfl, hb'⟩)
  go_ret
  exact ⟨ret_bool (idxOf_nonneg p xs), hb'⟩

theorem enters34 : ∀ args w, (callFunc 34 args).run Try.prog w = .ok (.enter 34 args) w := enters_of Try.func34 (by kernel_rfl) rfl

theorem any_odd (xs : List Ten) : xs.any (fun x => !x.ok) = !(xs.all Ten.ok) := by
  induction xs with
  | nil => rfl
  | cons a l ih => rw [List.any_cons, List.all_cons, ih]; cases a.ok <;> simp
theorem chk_eq (xs : List Ten) : chk xs = (decide (1 ≤ (xs.length : Int) ∧ (xs.length : Int) ≤ 16) && !(xs.any fun x => !x.ok)) := by
  rw [any_odd, chk, Bool.not_not]
  congr 1
  rw [decide_eq_decide]
  omega
def err01 (b : Bool) : Int := if b then 0 else 1
set_option maxHeartbeats 1000000 in
theorem check_any (A : Option Addr) (c : Nat) (xs : List Ten) (w : World) (hx : Sl Ten.enc 5 w A xs) (hbig : xs.length ≤ 9223372036854775807) :
    Calls Try.prog 24 #[.slice A xs.length c] w fun e w' => e = .returned (.int .i64 (err01 (chk xs))) ∧ Below w.heap.size w w' := by
  go_enter Try.func24, Try.ntmps24
  go_wp2_with (go_at_call 33; refine (containsFunc 34 _ enters34 odd_any A c xs _ hx hbig).mono ?_; rintro e w' ⟨rfl, hb'⟩)
  all_goals (go_ret; refine ⟨ret_int ?_, by first | exact hb' | exact Below.refl _ _⟩; rw [chk_eq, err01])
  · rw [if_neg]
    simp; intro _ _
    have hq : xs.any (fun x => !x.ok) = true := by
      rcases ‹(_ ∨ _) ∨ (xs.any fun x => !x.ok) = true› with h | h
      · omega
      · exact h
    simpa using hq
  · have hq := ‹_ ∧ (xs.any fun x => !x.ok) = false›.2
    rw [if_pos]
    rw [hq]; simp; omega
  · rw [if_neg]; simp; omega
  · rw [if_neg]; simp; omega
theorem check_yes (A : Option Addr) (c : Nat) (xs : List Ten) (w : World) (hx : Sl Ten.enc 5 w A xs) (hbig : xs.length ≤ 9223372036854775807) (h : chk xs = true) :
    Calls Try.prog 24 #[.slice A xs.length c] w fun e w' => e = .returned (.int .i64 0) ∧ Below w.heap.size w w' := by
  have := check_any A c xs w hx hbig; rw [h] at this; exact this
theorem check_no (A : Option Addr) (c : Nat) (xs : List Ten) (w : World) (hx : Sl Ten.enc 5 w A xs) (hbig : xs.length ≤ 9223372036854775807) (h : chk xs = false) :
    Calls Try.prog 24 #[.slice A xs.length c] w fun e w' => e = .returned (.int .i64 1) ∧ Below w.heap.size w w' := by
  have := check_any A c xs w hx hbig; rw [h] at this; exact this
end Go.Proofs.Ytcgddfpfmnpaeaa
