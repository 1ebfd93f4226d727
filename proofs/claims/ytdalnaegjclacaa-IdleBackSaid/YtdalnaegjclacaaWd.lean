/- Words: slices that read as lists, rows of the call's own that hold lists. -/
import Derived.Below
import Derived.Deep.Draws
import Derived.Deep.AppendLies
import Derived.OwnWalk
import Derived.Laws.MakeOwn
import Derived.Laws.OwnMore
import Derived.Deep.OwnRows
import Derived.Tactics
import Derived.Laws.Slices
import Derived.WalkKit
import Derived.KernelRfl
import Derived.RowKit3
import Derived.Deep.LoopGhost
import Derived.Deep.QuietTactic
import Derived.BigQuiet
import Derived.WideLaws
import Derived.Deep.DeepCutAuto
import Derived.Deep.CutBlock
import Derived.Laws.Rows
import Derived.Lib.Hide
import Derived.Lib.SliceRun
import Derived.IntWalk
import Derived.Shelf.Abstract
import Derived.Deep.DeepMust
import Derived.Deep.DeepFit
import Derived.StillTailTactics
namespace Go.Proofs.Ytdalnaegjclacaa
open Go.RowKit

theorem ret_int {k : IntKind} {a b : Int} (h : a = b) : Ending.returned (.int k a) = .returned (.int k b) := by rw [h]
theorem ret_bool {a b : Bool} (h : a = b) : Ending.returned (.bool a) = .returned (.bool b) := by rw [h]

/-! ### the world -/
theorem cell_lt {w : World} {a : Addr} {v : Value} (h : w.cell? a = some v) : a.block < w.heap.size := World.block_lt_of_cell? w a h
theorem cell_below {w w1 : World} (h : Below w.heap.size w w1) {a : Addr} {v : Value} (hc : w.cell? a = some v) : w1.cell? a = some v := (h.cell (cell_lt hc)).trans hc
theorem cell_alloc {w : World} {a : Addr} {v : Value} (hc : w.cell? a = some v) (o : Obj) : (w.alloc o).cell? a = some v := cell_below ((Below.refl _ _).alloc (Nat.le_refl _) _) hc
theorem cell_set {w : World} {a : Addr} {u : Value} (h : w.cell? a = some u) (v : Value) : (w.setCell a v).cell? a = some v := World.cell?_setCell_same w a v h
theorem cell_set_other {w : World} {a b : Addr} (h : b.block ≠ a.block) (v : Value) : (w.setCell a v).cell? b = w.cell? b := World.cell?_setCell_other w a b v (fun e => h (by rw [e]))
theorem frozen_set (w : World) (a b : Addr) (v : Value) : (w.setCell a v).frozen? b = w.frozen? b := World.frozen?_setCell w a b v
theorem size_set (w : World) (a : Addr) (v : Value) : (w.setCell a v).heap.size = w.heap.size := by simp [World.setCell]
theorem below_drewN {B : Nat} {w W : World} (h : Below B w W) (n : Nat) : Below B w (W.drewN n) := ⟨h.os, h.tape, h.output, h.size, h.block⟩
/-- One call behind another one. -/
theorem below_then {w0 w1 w2 : World} (h : Below w0.heap.size w0 w1) (k : Below w1.heap.size w1 w2) : Below w0.heap.size w0 w2 := h.trans (k.mono h.size)

/-! ### ints, bools -/
def encI (x : Int) : List Value := [.int .i64 x]
def encB (b : Bool) : List Value := [.bool b]
theorem encI_length (x : Int) : (encI x).length = 1 := rfl
theorem encB_length (x : Bool) : (encB x).length = 1 := rfl
theorem encI_one (x : Int) : ∀ u ∈ encI x, u.oneCell' = true := by intro u hu; simp [encI] at hu; rw [hu]; rfl
theorem encB_one (x : Bool) : ∀ u ∈ encB x, u.oneCell' = true := by intro u hu; simp [encB] at hu; rw [hu]; rfl

/-! ### lists in cells -/
/-- What the cells from A on hold: elements, each of k cells. -/
def Sl {α : Type} (enc : α → List Value) (k : Nat) (w : World) (A : Option Addr) (xs : List α) : Prop :=
  0 < xs.length → ∃ b off, A = some ⟨b, off, none⟩ ∧ ∀ j, (h : j < xs.length) → ∀ i v, (enc xs[j])[i]? = some v → w.cell? ⟨b, off + j * k + i, none⟩ = some v

section
variable {α : Type} {enc : α → List Value} {k : Nat} {w w' : World} {A : Option Addr} {xs : List α}

theorem Sl.below (h : Sl enc k w A xs) (hb : Below w.heap.size w w') : Sl enc k w' A xs := by
  intro h0
  obtain ⟨b, off, hA, hc⟩ := h h0
  exact ⟨b, off, hA, fun j hj i v hv => cell_below hb (hc j hj i v hv)⟩
theorem Sl.nil (enc : α → List Value) (k : Nat) (w : World) (A : Option Addr) : Sl enc k w A [] := fun h => absurd h (by simp)
theorem Sl.at_ (h : Sl enc k w A xs) (j : Nat) (hj : j < xs.length) : ∃ b off, A = some ⟨b, off, none⟩ ∧ ∀ i v, (enc xs[j])[i]? = some v → w.cell? ⟨b, off + j * k + i, none⟩ = some v := by
  obtain ⟨b, off, hA, hc⟩ := h (by omega)
  exact ⟨b, off, hA, hc j hj⟩
theorem Sl.drewN (h : Sl enc k w A xs) (n : Nat) : Sl enc k (w.drewN n) A xs := h.below (below_drewN (Below.refl _ _) n)
theorem Sl.alloc (h : Sl enc k w A xs) (o : Obj) : Sl enc k (w.alloc o) A xs := h.below ((Below.refl _ _).alloc (Nat.le_refl _) _)

/-- The cells' row, whole. -/
def flat (enc : α → List Value) (xs : List α) : List Value := xs.flatMap enc
theorem flat_length (hk : ∀ x, (enc x).length = k) : (flat enc xs).length = xs.length * k := by
  unfold flat
  induction xs with
  | nil => simp
  | cons a l ih => rw [List.flatMap_cons, List.length_append, ih, hk, List.length_cons, Nat.succ_mul]; omega
theorem flat_get (hk : ∀ x, (enc x).length = k) (j : Nat) (hj : j < xs.length) (i : Nat) (hi : i < k) : (flat enc xs)[j * k + i]? = (enc xs[j])[i]? := by
  unfold flat
  induction xs generalizing j with
  | nil => simp at hj
  | cons a l ih =>
    rw [List.flatMap_cons]
    cases j with
    | zero => rw [Nat.zero_mul, Nat.zero_add, List.getElem?_append_left (by rw [hk]; exact hi)]; rfl
    | succ j =>
      rw [List.getElem?_append_right (by rw [hk, Nat.succ_mul]; omega), hk, show (j + 1) * k + i - k = j * k + i from by rw [Nat.succ_mul]; omega]
      rw [ih j (by simpa using hj)]
      rfl
theorem flat_append (xs ys : List α) : flat enc (xs ++ ys) = flat enc xs ++ flat enc ys := by unfold flat; rw [List.flatMap_append]
theorem add_plain (b o j : Nat) : (⟨b, o, none⟩ : Addr).add j = ⟨b, o + j, none⟩ := by unfold Addr.add; split <;> simp_all
theorem Sl.news (hk : ∀ x, (enc x).length = k) (h : Sl enc k w A xs) (h0 : 0 < xs.length) : ∃ b off, A = some ⟨b, off, none⟩ ∧ ∀ j u, (flat enc xs)[j]? = some u → w.cell? ((⟨b, off, none⟩ : Addr).add j) = some u := by
  obtain ⟨b, off, hA, hc⟩ := h h0
  refine ⟨b, off, hA, fun j u hu => ?_⟩
  have hj : j < xs.length * k := by
    rw [← flat_length hk]
    exact (List.getElem?_eq_some_iff.1 hu).1
  have hk0 : 0 < k := by
    rcases Nat.eq_zero_or_pos k with e | e
    · rw [e] at hj; simp at hj
    · exact e
  have hq : j / k < xs.length := (Nat.div_lt_iff_lt_mul hk0).2 hj
  have hr : j % k < k := Nat.mod_lt _ hk0
  have hjj : j / k * k + j % k = j := Nat.div_add_mod' j k
  have hg := flat_get hk (j / k) hq (j % k) hr
  rw [hjj, hu] at hg
  have := hc (j / k) hq (j % k) u hg.symm
  rw [add_plain, show off + j = off + j / k * k + j % k from by omega]
  exact this
theorem flat_set (hk : ∀ x, (enc x).length = k) (j : Nat) (hj : j < xs.length) (i : Nat) (hi : i < k) (u : Value) (x' : α) (he : enc x' = (enc xs[j]).set i u) : (flat enc xs).set (j * k + i) u = flat enc (xs.set j x') := by
  unfold flat
  induction xs generalizing j with
  | nil => simp at hj
  | cons a l ih =>
    cases j with
    | zero =>
      rw [List.set_cons_zero, List.flatMap_cons, List.flatMap_cons, Nat.zero_mul, Nat.zero_add, List.set_append_left _ _ (by rw [hk]; exact hi), he]
      rfl
    | succ j =>
      rw [List.set_cons_succ, List.flatMap_cons, List.flatMap_cons, List.set_append_right _ _ (by rw [hk, Nat.succ_mul]; omega), hk, show (j + 1) * k + i - k = j * k + i from by rw [Nat.succ_mul]; omega,
        ih j (by simpa using hj) (by simpa using he)]
theorem flat_one (h1 : ∀ x, ∀ u ∈ enc x, u.oneCell' = true) : ∀ u ∈ flat enc xs, u.oneCell' = true := by
  intro u hu
  unfold flat at hu
  rw [List.mem_flatMap] at hu
  obtain ⟨x, _, hx⟩ := hu
  exact h1 x u hx

theorem Sl.bool_at {w : World} {A : Option Addr} {bs : List Bool} (h : Sl encB 1 w A bs) (i : Nat) (hi : i < bs.length) : ∃ b off, A = some ⟨b, off, none⟩ ∧ w.cell? ⟨b, off + i, none⟩ = some (.bool bs[i]) := by
  obtain ⟨b, off, hA, hc⟩ := h.at_ i hi
  refine ⟨b, off, hA, ?_⟩
  have := hc 0 _ rfl
  rw [Nat.mul_one, Nat.add_zero] at this
  exact this
theorem Sl.int_at {w : World} {A : Option Addr} {bs : List Int} (h : Sl encI 1 w A bs) (i : Nat) (hi : i < bs.length) : ∃ b off, A = some ⟨b, off, none⟩ ∧ w.cell? ⟨b, off + i, none⟩ = some (.int .i64 bs[i]) := by
  obtain ⟨b, off, hA, hc⟩ := h.at_ i hi
  refine ⟨b, off, hA, ?_⟩
  have := hc 0 _ rfl
  rw [Nat.mul_one, Nat.add_zero] at this
  exact this

/-! ### a row of the call's own -/
def Own (enc : α → List Value) (k : Nat) (e : TypeId) (base : Nat) (w : World) (v : Value) (xs : List α) : Prop := w.ownsRow base e k v xs.length (flat enc xs)
theorem own_below {base n size : Nat} {e : TypeId} {v : Value} {ys : List Value} (h : w.ownsRow base e size v n ys) (hb : Below w.heap.size w w') : w'.ownsRow base e size v n ys :=
  h.kept (row := none) ⟨hb.os, hb.tape, hb.output, hb.size, fun i hi _ => hb.block i hi⟩ (by cases v.ownBlock <;> simp)
theorem Own.below {e base : Nat} {v : Value} (h : Own enc k e base w v xs) (hb : Below w.heap.size w w') : Own enc k e base w' v xs := own_below h hb
theorem own_base {w : World} {base base' : Nat} {e : TypeId} {size n : Nat} {v : Value} {ys : List Value} (h : w.ownsRow base e size v n ys) (hb : base' ≤ base) : w.ownsRow base' e size v n ys := by
  refine ⟨h.1, ?_⟩
  rcases h.2 with h2 | ⟨g, cap, cur, hv, hg, r⟩
  · exact .inl h2
  · exact .inr ⟨g, cap, cur, hv, Nat.le_trans hb hg, r⟩
theorem Own.lower {e base base' : Nat} {v : Value} (h : Own enc k e base w v xs) (hb : base' ≤ base) : Own enc k e base' w v xs := own_base h hb
theorem Own.sl (hk : ∀ x, (enc x).length = k) {e base : Nat} {v : Value} (h : Own enc k e base w v xs) : ∃ A c, v = .slice A xs.length c ∧ Sl enc k w A xs ∧ xs.length ≤ c := by
  unfold Own at h
  rcases h.2 with ⟨hv, hn⟩ | ⟨g, cap, cur, hv, hb, hg, hc, hm, hs, ht⟩
  · exact ⟨none, 0, by rw [hn]; exact hv, fun h0 => absurd h0 (by omega), by omega⟩
  · refine ⟨some ⟨g, 0, none⟩, cap, hv, fun h0 => ⟨g, 0, rfl, fun j hj i u hu => ?_⟩, hc⟩
    have hi : i < k := by
      have := (List.getElem?_eq_some_iff.1 hu).1
      rw [hk] at this
      exact this
    have hf := flat_get hk j hj i hi
    rw [hu] at hf
    have hcell := h.cells (g := g) (by rw [hv]; rfl) (j * k + i) u hf
    rw [add_plain] at hcell
    rw [show 0 + j * k + i = 0 + (j * k + i) from by omega]
    exact hcell
/-- A literal. -/
theorem sl_lit (hk : ∀ x, (enc x).length = k) (w : World) (e : TypeId) (cs : Array Value) (xs : List α) (h : cs.toList = flat enc xs) : Sl enc k (w.alloc (.cells cs e)) (some ⟨w.heap.size, 0, none⟩) xs := by
  intro _
  refine ⟨w.heap.size, 0, rfl, fun j hj i v hv => ?_⟩
  have hi : i < k := by
    have := (List.getElem?_eq_some_iff.1 hv).1
    rw [hk] at this
    exact this
  have hf := flat_get hk j hj i hi
  rw [hv, ← h] at hf
  rw [cell_of_row _ w.heap.size _ cs e (0, 0) (heap_alloc_new w _), show 0 + j * k + i = j * k + i from by omega]
  simpa using hf
theorem sl_lit_at (hk : ∀ x, (enc x).length = k) (w : World) (e : TypeId) (cs : Array Value) (xs : List α) (b : Nat) (hb : b = w.heap.size) (h : cs.toList = flat enc xs) : Sl enc k (w.alloc (.cells cs e)) (some ⟨b, 0, none⟩) xs := by
  subst hb
  exact sl_lit hk w e cs xs h
end
end Go.Proofs.Ytdalnaegjclacaa
