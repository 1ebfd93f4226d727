/- Layer 17: what IdleBack asks of the numbers. -/
import Derived.Test.YtdalnaegjclacaaL0
namespace Go.Proofs.Ytdalnaegjclacaa
open Go.RowKit

theorem cn_set {is : List Int} {n : Nat} (h : n < is.length) (v u : Int) : cn (is.set n v) u + (if is[n] = u then 1 else 0) = cn is u + (if v = u then 1 else 0) := by
  unfold cn
  induction is generalizing n with
  | nil => simp at h
  | cons a l ih =>
    cases n with
    | zero =>
      simp only [List.set_cons_zero, List.count_cons, List.getElem_cons_zero, beq_iff_eq]
      omega
    | succ n =>
      simp only [List.set_cons_succ, List.count_cons, List.getElem_cons_succ, beq_iff_eq]
      have := ih (n := n) (by simpa using h)
      omega
theorem isAt_set {is : List Int} {n k : Nat} (hk : k < is.length) (v : Int) : isAt (is.set n v) (k : Int) = if n = k then v else isAt is (k : Int) := by
  rw [isAt_nat (by rw [List.length_set]; exact hk), List.getElem_set, isAt_nat hk]
theorem fitN_iff (a b c : Nat) : fitN a b c = true ↔ b ≤ (a + b + c + 1) / 2 := by unfold fitN; rw [decide_eq_true_eq]
theorem not_in_stack {is st : List Int} (hc : chkI is st = true) {n : Nat} (hn : n < is.length) (h : is[n] < 2) : ∀ j, ∀ hj : j < st.length, st[j] ≠ (n : Int) := by
  intro j hj e
  obtain ⟨_, _, _, _, _, pk⟩ := chkI_parts hc
  obtain ⟨_, _, h3, _⟩ := pk j hj hj
  rw [e, isAt_nat hn] at h3
  omega
theorem filter_out {st : List Int} {n : Nat} (h : ∀ j, ∀ hj : j < st.length, st[j] ≠ (n : Int)) : (st ++ [(n : Int)]).filter (fun x => !(x == (n : Int))) = st := by
  rw [List.filter_append]
  have h1 : st.filter (fun x => !(x == (n : Int))) = st := by
    rw [List.filter_eq_self]
    intro x hx
    obtain ⟨j, hj, rfl⟩ := List.getElem_of_mem hx
    simpa using h j hj
  rw [h1]; simp
/-- One more on the stack, that is about to park, or parks. -/
theorem chk_push {is st : List Int} (hc : chkI is st = true) {n : Nat} (hn : n < is.length) (h01 : is[n] = 0 ∨ is[n] = 1) (v : Int) (hv : v = 2 ∨ v = 3) (hf : fitI (is.set n v) = true) : chkI (is.set n v) (st ++ [(n : Int)]) = true := by
  obtain ⟨p4, p1, p2, pf, ps, pk⟩ := chkI_parts hc
  have hno := not_in_stack hc hn (by omega)
  refine chkI_of (all4_set p4 n v (by omega)) (by rw [List.length_set]; exact p1) (by rw [List.length_set]; exact p2) hf ?_ ?_
  · have c2 := cn_set hn v 2
    have c3 := cn_set hn v 3
    rw [List.length_append, List.length_singleton, ps]
    rcases h01 with e | e <;> rcases hv with e2 | e2 <;> rw [e, e2] at c2 c3 <;> simp at c2 c3 <;> rw [e2] <;> omega
  · intro j hj hjl
    rw [List.length_append, List.length_singleton] at hjl
    by_cases e : j = st.length
    · subst e
      have hl : (st ++ [(n : Int)])[st.length]'(by simp) = (n : Int) := by simp
      refine ⟨by rw [hl]; omega, by rw [hl, List.length_set]; omega, ?_, fun i hi hil => ?_⟩
      · rw [hl, isAt_set hn, if_pos rfl]; omega
      · rw [hl, List.getElem_append_left (by omega)]; exact hno i (by omega)
    · have hjs : j < st.length := by omega
      obtain ⟨a1, a2, a3, a4⟩ := pk j hjs hjs
      have hl : (st ++ [(n : Int)])[j]'(by simp; omega) = st[j] := List.getElem_append_left hjs
      obtain ⟨k, hk⟩ := Int.eq_ofNat_of_zero_le a1
      have hkn : k < is.length := by omega
      refine ⟨by rw [hl]; exact a1, by rw [hl, List.length_set]; exact a2, ?_, fun i hi hil => ?_⟩
      · rw [hl, hk, isAt_set hkn]
        split
        · omega
        · rw [← hk]; exact a3
      · rw [hl, List.getElem_append_left (by omega)]; exact a4 i hi (by omega)
theorem fit_ann {is st : List Int} (hc : chkI is st = true) {n : Nat} (hn : n < is.length) (h01 : is[n] = 0 ∨ is[n] = 1) : fitI (is.set n 2) = true := by
  obtain ⟨_, _, _, pf, _, _⟩ := chkI_parts hc
  unfold fitI
  rw [fitN_iff] at pf ⊢
  have c0 := cn_set hn 2 0
  have c1 := cn_set hn 2 1
  have c2 := cn_set hn 2 2
  rcases h01 with e | e <;> rw [e] at c0 c1 c2 <;> simp at c0 c1 c2 <;> omega

/-- What is done to one that is awake, or spins. -/
structure BackF (is st : List Int) (n : Nat) : Prop where
  ann : becE is st n [0, 1] = 0 ∧ becIs is st n 2 [0, 1] = is.set n 2 ∧ becSS is st n 2 [0, 1] = st ++ [(n : Int)]
  fnd : becE (is.set n 2) (st ++ [(n : Int)]) n [0, 1, 2] = 0 ∧ becIs (is.set n 2) (st ++ [(n : Int)]) n 0 [0, 1, 2] = is.set n 0 ∧ becSS (is.set n 2) (st ++ [(n : Int)]) n 0 [0, 1, 2] = st
  wak : wakeE (is.set n 2) (st ++ [(n : Int)]) = 0 ∧ wakeWho (is.set n 2) (st ++ [(n : Int)]) = n ∧ wakeIs (is.set n 2) (st ++ [(n : Int)]) = is.set n 0 ∧ wakeSt (is.set n 2) (st ++ [(n : Int)]) = st
  prk : (parkE (is.set n 2) (st ++ [(n : Int)]) n = 9 ∧ parkIs (is.set n 2) (st ++ [(n : Int)]) n = [] ∧ parkSt (is.set n 2) (st ++ [(n : Int)]) n = []) ∨
    (parkE (is.set n 2) (st ++ [(n : Int)]) n = 0 ∧ parkIs (is.set n 2) (st ++ [(n : Int)]) n = is.set n 3 ∧ parkSt (is.set n 2) (st ++ [(n : Int)]) n = st ++ [(n : Int)] ∧
      (becE (is.set n 3) (st ++ [(n : Int)]) n [0, 1, 2] = 9) ∧
      wakeE (is.set n 3) (st ++ [(n : Int)]) = 0 ∧ wakeWho (is.set n 3) (st ++ [(n : Int)]) = n ∧ wakeIs (is.set n 3) (st ++ [(n : Int)]) = is.set n 0 ∧ wakeSt (is.set n 3) (st ++ [(n : Int)]) = st)
theorem inI_of {is st : List Int} {n : Nat} (hc : chkI is st = true) (hn : n < is.length) : inI is st n = true := by unfold inI; rw [hc]; simp; exact hn
theorem wake_push {is st : List Int} {n : Nat} {v : Int} (hc : chkI (is.set n v) (st ++ [(n : Int)]) = true) (hno : ∀ j, ∀ hj : j < st.length, st[j] ≠ (n : Int)) :
    wakeE (is.set n v) (st ++ [(n : Int)]) = 0 ∧ wakeWho (is.set n v) (st ++ [(n : Int)]) = n ∧ wakeIs (is.set n v) (st ++ [(n : Int)]) = is.set n 0 ∧ wakeSt (is.set n v) (st ++ [(n : Int)]) = st := by
  have h0 : wakeE (is.set n v) (st ++ [(n : Int)]) = 0 := by unfold wakeE; rw [if_pos hc, if_neg (by simp)]
  have hl : (st ++ [(n : Int)]).getLastD 0 = (n : Int) := by simp
  refine ⟨h0, ?_, ?_, ?_⟩
  · unfold wakeWho; rw [if_pos h0, hl]
  · unfold wakeIs; rw [if_pos h0, hl, Int.toNat_natCast, List.set_set]
  · unfold wakeSt; rw [if_pos h0, hl]; exact filter_out hno
theorem back_facts {is st : List Int} (hc : chkI is st = true) {n : Nat} (hn : n < is.length) (h01 : is[n] ∈ ([0, 1] : List Int)) : BackF is st n := by
  have h01' : is[n] = 0 ∨ is[n] = 1 := by simpa using h01
  have hno := not_in_stack hc hn (by omega)
  have hA := chk_push hc hn h01' 2 (.inl rfl) (fit_ann hc hn h01')
  have hlA : n < (is.set n 2).length := by rw [List.length_set]; exact hn
  have hgA : (is.set n 2)[n] = 2 := by simp
  have e1 : becE is st n [0, 1] = 0 := by rw [becE_in (inI_of hc hn) hn, if_pos h01]
  have e2 : becE (is.set n 2) (st ++ [(n : Int)]) n [0, 1, 2] = 0 := by rw [becE_in (inI_of hA hlA) hlA, hgA]; rfl
  have e3 : becE (is.set n 2) (st ++ [(n : Int)]) n [2] = 0 := by rw [becE_in (inI_of hA hlA) hlA, hgA]; rfl
  refine ⟨⟨e1, ?_, ?_⟩, ⟨e2, ?_, ?_⟩, wake_push hA hno, ?_⟩
  · unfold becIs; rw [if_pos e1, Int.toNat_natCast]
  · unfold becSS; rw [if_pos e1]; rfl
  · unfold becIs; rw [if_pos e2, Int.toNat_natCast, List.set_set]
  · unfold becSS; rw [if_pos e2]; exact filter_out hno
  · have hF : becF (is.set n 2) (st ++ [(n : Int)]) n 3 [2] = fitI (is.set n 3) := by unfold becF; rw [if_pos e3, Int.toNat_natCast, List.set_set]
    have hPE : parkE (is.set n 2) (st ++ [(n : Int)]) n = if fitI (is.set n 3) = true then 0 else 9 := by unfold parkE; rw [if_pos e3, hF]
    cases hf : fitI (is.set n 3)
    · left
      rw [hf, if_neg (by decide)] at hPE
      refine ⟨hPE, ?_, ?_⟩
      · unfold parkIs; rw [if_neg (by rw [hPE]; decide)]
      · unfold parkSt; rw [if_neg (by rw [hPE]; decide)]
    · right
      rw [hf, if_pos rfl] at hPE
      have hP := chk_push hc hn h01' 3 (.inr rfl) hf
      have hlP : n < (is.set n 3).length := by rw [List.length_set]; exact hn
      have hgP : (is.set n 3)[n] = 3 := by simp
      refine ⟨hPE, ?_, ?_, ?_, wake_push hP hno⟩
      · unfold parkIs; rw [if_pos hPE]; unfold becIs; rw [if_pos e3, Int.toNat_natCast, List.set_set]
      · unfold parkSt; rw [if_pos hPE]; unfold becSS; rw [if_pos e3]; rfl
      · rw [becE_in (inI_of hP hlP) hlP, hgP]; rfl
end Go.Proofs.Ytdalnaegjclacaa
