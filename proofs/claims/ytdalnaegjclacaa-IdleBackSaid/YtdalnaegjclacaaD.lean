/- Layer 17: idle.Check. -/
import Derived.Test.YtdalnaegjclacaaC
namespace Go.Proofs.Ytdalnaegjclacaa
open Go.RowKit

theorem info4 : (Try.prog.info? 4).map (fun i => (i.zero, i.size, i.bytes)) = some (some (.bool false), 1, 1) := by kernel_rfl
/-! own rows of bools -/
abbrev OwB (base : Nat) (w : World) (v : Value) (xs : List Bool) : Prop := Own encB 1 4 base w v xs
theorem OwB.form {w : World} {v : Value} {base : Nat} {xs : List Bool} (h : OwB base w v xs) (h0 : 0 < xs.length) : ∃ g cap, v = .slice (some ⟨g, 0, none⟩) xs.length cap ∧ base ≤ g ∧ g < w.heap.size := by
  have h' : Own encB 1 4 base w v xs := h
  unfold Own at h'
  obtain ⟨g, cap, hv, hb, hg⟩ := h'.form h0
  exact ⟨g, cap, hv, hb, hg⟩
theorem OwB.sl {w : World} {base : Nat} {A : Option Addr} {n c : Nat} {xs : List Bool} (h : OwB base w (.slice A n c) xs) : Sl encB 1 w A xs ∧ n = xs.length ∧ xs.length ≤ c := by
  obtain ⟨A', c', hv, hs, hl⟩ := Own.sl encB_length h
  simp only [Value.slice.injEq] at hv
  obtain ⟨rfl, rfl, rfl⟩ := hv
  exact ⟨hs, rfl, hl⟩
theorem OwB.cells {w : World} {base g n cap : Nat} {xs : List Bool} (h : OwB base w (.slice (some ⟨g, 0, none⟩) n cap) xs) (i : Nat) (hi : i < xs.length) :
    base ≤ g ∧ w.cell? ⟨g, i, none⟩ = some (.bool xs[i]) ∧ (∀ j, w.frozen? ⟨g, j, none⟩ = false) := by
  obtain ⟨_, hn, _⟩ := h.sl
  subst hn
  obtain ⟨g', cap', hv, hb, _⟩ := h.form (by omega)
  have h' : Own encB 1 4 base w (.slice (some ⟨g, 0, none⟩) xs.length cap) xs := h
  unfold Own at h'
  have hc := fun j (hj : j < xs.length * 1) => h'.cellAt (n := xs.length) j hj
  have hf := fun j (hj : j < 1) => flat_get (enc := encB) encB_length i hi j hj
  refine ⟨?_, ?_, fun j => h'.frozenAt j⟩
  · simp only [Value.slice.injEq, Option.some.injEq, Addr.mk.injEq, and_true, true_and] at hv; omega
  · rw [hc i (by omega)]; have := hf 0 (by omega); rw [Nat.mul_one, Nat.add_zero] at this; rw [this]; rfl
theorem OwB.set {w : World} {base g n cap : Nat} {xs : List Bool} (h : OwB base w (.slice (some ⟨g, 0, none⟩) n cap) xs) (i : Nat) (hi : i < xs.length) (v : Bool) :
    OwB base (w.setCell ⟨g, i, none⟩ (.bool v)) (.slice (some ⟨g, 0, none⟩) n cap) (xs.set i v) := by
  obtain ⟨_, hn, _⟩ := h.sl
  subst hn
  have h' : Own encB 1 4 base w (.slice (some ⟨g, 0, none⟩) xs.length cap) xs := h
  unfold Own at h'
  obtain ⟨h2, h3⟩ := h'.stored i (.bool v)
  have hs := flat_set (enc := encB) encB_length i hi 0 (by omega) (.bool v) v (by simp [encB])
  rw [Nat.mul_one, Nat.add_zero] at hs
  rw [hs] at h2
  show Own encB 1 4 base _ _ _
  unfold Own; rw [List.length_set]; exact h2
theorem madeB (n : Nat) : (madeCells (Value.bool false).cells (n * 1)).toList = flat encB (List.replicate n false) := by
  unfold flat encB madeCells
  apply List.ext_getElem
  · simp [List.length_flatMap]
  · intro j h1 h2
    simp [Value.cells, Nat.mod_one]
    simp at h1
    induction n generalizing j with
    | zero => omega
    | succ n ih =>
      cases j with
      | zero => simp [List.replicate_succ]
      | succ j => simp only [List.replicate_succ, List.flatMap_cons, List.cons_append, List.nil_append, List.getElem_cons_succ]; exact ih j (by simp; omega) (by omega)

/-! what a stack may be -/
def isAt (is : List Int) (v : Int) : Int := is.getD v.toNat 0
theorem isAt_nat {is : List Int} {k : Nat} (h : k < is.length) : isAt is (k : Int) = is[k] := by unfold isAt; simp [h]
def stOk (is st : List Int) (k : Nat) : Prop := ∀ j, j < k → ∀ hj : j < st.length, 0 ≤ st[j] ∧ st[j] < (is.length : Int) ∧ 2 ≤ isAt is st[j] ∧ ∀ i, i < j → ∀ hi : i < st.length, st[i] ≠ st[j]
instance (is st : List Int) (k : Nat) : Decidable (stOk is st k) := by unfold stOk; infer_instance
def chkI (is st : List Int) : Bool := all4 is && (decide (1 ≤ is.length ∧ is.length ≤ 64) && (fitN (cn is 0) (cn is 1) (cn is 2) && (decide (st.length = cn is 2 + cn is 3) && decide (stOk is st st.length))))
def errI (is st : List Int) : Int := if chkI is st then 0 else 1
theorem errI_yes {is st : List Int} (h : chkI is st = true) : errI is st = 0 := by unfold errI; rw [if_pos h]
theorem errI_not {is st : List Int} (h : chkI is st = false) : errI is st = 1 := by unfold errI; rw [h]; rfl
theorem chkI_parts {is st : List Int} (h : chkI is st = true) : all4 is = true ∧ 1 ≤ is.length ∧ is.length ≤ 64 ∧ fitN (cn is 0) (cn is 1) (cn is 2) = true ∧ st.length = cn is 2 + cn is 3 ∧ stOk is st st.length := by
  unfold chkI at h
  simp only [Bool.and_eq_true, decide_eq_true_eq] at h
  exact ⟨h.1, h.2.1.1, h.2.1.2, h.2.2.1, h.2.2.2.1, h.2.2.2.2⟩
theorem chkI_of {is st : List Int} (h1 : all4 is = true) (h2 : 1 ≤ is.length) (h3 : is.length ≤ 64) (h4 : fitN (cn is 0) (cn is 1) (cn is 2) = true) (h5 : st.length = cn is 2 + cn is 3) (h6 : stOk is st st.length) : chkI is st = true := by
  unfold chkI
  simp only [Bool.and_eq_true, decide_eq_true_eq]
  exact ⟨h1, ⟨h2, h3⟩, h4, h5, h6⟩
theorem chkI_no {is st : List Int} (h : ¬ (all4 is = true ∧ 1 ≤ is.length ∧ is.length ≤ 64 ∧ fitN (cn is 0) (cn is 1) (cn is 2) = true ∧ st.length = cn is 2 + cn is 3 ∧ stOk is st st.length)) : chkI is st = false := by
  cases hc : chkI is st
  · rfl
  · exact absurd (chkI_parts hc) h

/-- Whom one has met of the first k. -/
def Met (is st : List Int) (k : Nat) (ms : List Bool) : Prop := ms.length = is.length ∧ ∀ v, (hv : v < ms.length) → ms[v] = decide ((v : Int) ∈ st.take k)
theorem Met.start (is st : List Int) : Met is st 0 (List.replicate is.length false) := ⟨List.length_replicate, fun v hv => by simp⟩
theorem Met.step {is st : List Int} {k : Nat} {ms : List Bool} (h : Met is st k ms) (hk : k < st.length) (q : Nat) (hq : st[k] = q) : Met is st (k + 1) (ms.set q true) := by
  obtain ⟨h1, h2⟩ := h
  refine ⟨by rw [List.length_set]; exact h1, fun v hv => ?_⟩
  rw [List.length_set] at hv
  rw [List.take_succ_eq_append_getElem hk, List.getElem_set, hq]
  by_cases e : q = v
  · subst e; simp
  · rw [if_neg e, h2 v hv, decide_eq_decide]
    simp; omega
end Go.Proofs.Ytdalnaegjclacaa
