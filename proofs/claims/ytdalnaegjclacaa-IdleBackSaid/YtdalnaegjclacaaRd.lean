/- Words: a struct of two slices of ints, read. -/
import Derived.Test.YtdalnaegjclacaaOp
import Derived.Test.YtdalnaegjclacaaProg
import Derived.Lib.SmallJoins
namespace Go.Proofs.Ytdalnaegjclacaa
open Go.RowKit Go.ChangeShapes Go.WideShapes

section
variable {H : Type} {encH : TypeId × Value → H} {P : Program} {w : World} {base : Nat} {spare : Nat → Bool} {held : Bool}
/-- A slice in a cell, its elements read one by one. -/
theorem cell_sl {α : Type} (enc : α → List Value) (k : Nat) (hk0 : 0 < k) (hk : ∀ x, (enc x).length = k) (good : α → Prop) {t e : TypeId} {v : Value} {fuel : Nat} {y : DataW H × List MemPlace} (ht : P.underlying t = some (.slice e)) (hC : P.cellsOf e = k)
    (hread : ∀ (n : Nat) (cs : List Value) (y : DataW H × List MemPlace), DataW.trod encH P w base spare held n e cs = some y → ∃ x, cs = enc x ∧ good x) (hf : DataW.trod encH P w base spare held fuel t [v] = some y) :
    ∃ (A : Option Addr) (c : Nat) (xs : List α), v = .slice A xs.length c ∧ Sl enc k w A xs ∧ xs.length ≤ c ∧ c ≤ 9223372036854775807 ∧ (∀ x ∈ xs, good x) := by
  obtain ⟨a0, l0, c0, hv0⟩ := Go.Joins.slice_form ht hf
  obtain rfl : v = .slice a0 l0 c0 := by simpa using hv0
  rcases Deep.open_slice ht hf with ⟨hcs, _⟩ | ⟨a, len, cap, m, n, D, Pl, hcs, _, hlc, hcm, hm, hxx, hi⟩
  · refine ⟨none, 0, [], ?_, Sl.nil _ _ _ _, by simp, by omega, by simp⟩
    simpa [Value.cells] using hcs
  · have hlm : len ≤ m := by rw [hm]; split <;> omega
    rw [hC] at hi
    have key : ∀ i, i < len → ∃ x, good x ∧ ∀ j u, (enc x)[j]? = some u → w.cell? (a.add (i * k + j)) = some u := by
      intro i hil
      obtain ⟨cs', hc', htr⟩ := hi i (by omega)
      obtain ⟨x, rfl, hg⟩ := hread _ _ _ htr
      obtain ⟨_, hl, hcell⟩ := World.cells?_some hc'
      refine ⟨x, hg, fun j u hu => ?_⟩
      have hj : j < k := by
        have := (List.getElem?_eq_some_iff.1 hu).1
        rw [hk] at this; exact this
      have := hcell j hj
      rw [hu] at this
      have hadd : (a.add (i * k)).add j = a.add (i * k + j) := by
        unfold Addr.add
        by_cases h1 : i * k = 0 <;> by_cases h2 : j = 0 <;> simp [h1, h2, Nat.add_assoc]
      rw [hadd] at this
      exact this
    have hex : ∃ xs : List α, xs.length = len ∧ (∀ x ∈ xs, good x) ∧ ∀ i, (hil : i < xs.length) → ∀ j u, (enc xs[i])[j]? = some u → w.cell? (a.add (i * k + j)) = some u := by
      clear hcs hi hlm hm hlc hxx
      induction len with
      | zero => exact ⟨[], rfl, by simp, fun i hi => absurd hi (by simp)⟩
      | succ l ih =>
        obtain ⟨xs, hxl, hxg, hxc⟩ := ih (fun i hi => key i (by omega))
        obtain ⟨x, hg, hc⟩ := key l (by omega)
        refine ⟨xs ++ [x], by simp [hxl], fun y hy => ?_, fun i hil j u hu => ?_⟩
        · rcases List.mem_append.1 hy with h | h
          · exact hxg y h
          · rw [List.mem_singleton.1 h]; exact hg
        · by_cases hi : i < xs.length
          · rw [List.getElem_append_left hi] at hu
            exact hxc i hi j u hu
          · have hil' : i = xs.length := by simp at hil; omega
            subst hil'
            simp at hu
            rw [hxl]
            exact hc j u hu
    obtain ⟨xs, hxl, hxg, hxc⟩ := hex
    refine ⟨some a, cap, xs, ?_, ?_, by omega, by unfold maxLen at hcm; omega, hxg⟩
    · rw [hxl]; simpa [Value.cells] using hcs
    · intro h0
      have h00 : 0 < (enc xs[0]).length := by rw [hk]; exact hk0
      have hc0 := hxc 0 h0 0 _ (List.getElem?_eq_getElem h00)
      have ha : a.add (0 * k + 0) = a := by simp [Addr.add]
      rw [ha] at hc0
      have hpl := plain_addr hc0
      refine ⟨a.block, a.off, by rw [← hpl], fun j hj i u hu => ?_⟩
      have := hxc j hj i u hu
      rw [hpl, add_plain] at this
      rw [Nat.add_assoc]
      exact this


theorem cells41 : Try.prog.cellsOf 41 = 2 := by kernel_rfl
theorem read_i (n : Nat) (cs : List Value) (y : DataW H × List MemPlace) (h : DataW.trod encH Try.prog w base spare held n 3 cs = some y) : ∃ x, cs = encI x ∧ (Lit.int .i64 x).wf = true := by
  obtain ⟨x, h1, _, h3⟩ := DataW.trod_int Try.underlying3 h
  exact ⟨x, h1, h3⟩
set_option maxRecDepth 100000 in
theorem open_idle {r : Reach} {b0 : Nat} {v : Value} {d : DataW H} {p : List MemPlace} (hv : Value.okWide Try.prog w r b0 41 v) (h : DataW.Trod encH Try.prog w base spare held 41 v d p) :
    ∃ (A : Option Addr) (c : Nat) (is : List Int) (B : Option Addr) (d : Nat) (st : List Int), v = .agg #[.slice A is.length c, .slice B st.length d] ∧ Sl encI 1 w A is ∧ Sl encI 1 w B st ∧ is.length ≤ c ∧ c ≤ 9223372036854775807 ∧ st.length ≤ d ∧ d ≤ 9223372036854775807 := by
  obtain ⟨v0, v1, y0, y1, m, rfl, _, _, h0, h1⟩ := Go.Joins.open_agg2 Try.underlying41 (by kernel_rfl) cells41 hv h
  obtain ⟨A, c, is, rfl, hx, hc, hm, _⟩ := cell_sl encI 1 (by omega) encI_length (fun x => (Lit.int .i64 x).wf = true) Try.underlying39 (by kernel_rfl) (fun n cs y => read_i n cs y) h0
  obtain ⟨B, d, st, rfl, hy, hd, hn, _⟩ := cell_sl encI 1 (by omega) encI_length (fun x => (Lit.int .i64 x).wf = true) Try.underlying39 (by kernel_rfl) (fun n cs y => read_i n cs y) h1
  exact ⟨A, c, is, B, d, st, rfl, hx, hy, hc, hm, hd, hn⟩
end
end Go.Proofs.Ytdalnaegjclacaa
