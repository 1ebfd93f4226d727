/- Words: arguments opened to lists; what a law's row asks behind the call. -/
import Derived.Test.YtdalnaegjclacaaWd
import Derived.Carry
import Derived.ProofKit
import Derived.OpenShut
import Derived.Deep.Slices
import Derived.ChangeArms
namespace Go.Proofs.Ytdalnaegjclacaa
open Go.RowKit Go.ChangeShapes Go.WideShapes

section
variable {H : Type} {encH : TypeId × Value → H} {P : Program} {w : World} {base : Nat} {spare : Nat → Bool} {held : Bool}

theorem plain_addr {w : World} {a : Addr} {v : Value} (h : w.cell? a = some v) : a = ⟨a.block, a.off, none⟩ := by
  obtain ⟨b, o, s⟩ := a
  cases s with
  | none => rfl
  | some s =>
    exfalso
    unfold World.cell? at h
    split at h <;> simp at h

/-- A slice, its elements read one by one. -/
theorem open_sl {α : Type} (enc : α → List Value) (k : Nat) (hk0 : 0 < k) (hk : ∀ x, (enc x).length = k) (good : α → Prop) {t e : TypeId} {v : Value} {d : DataW H} {ps : List MemPlace} (ht : P.underlying t = some (.slice e)) (hC : P.cellsOf e = k)
    (hread : ∀ (n : Nat) (cs : List Value) (y : DataW H × List MemPlace), DataW.trod encH P w base spare held n e cs = some y → ∃ x, cs = enc x ∧ good x) {r : Reach} {b0 : Nat} (hv : Value.okWide P w r b0 t v) (h : DataW.Trod encH P w base spare held t v d ps) :
    ∃ (A : Option Addr) (c : Nat) (xs : List α), v = .slice A xs.length c ∧ Sl enc k w A xs ∧ xs.length ≤ c ∧ c ≤ 9223372036854775807 ∧ (∀ x ∈ xs, good x) := by
  obtain ⟨a0, l0, c0, rfl⟩ := okWide_slice ht hv
  obtain ⟨fuel, hf⟩ := h
  rcases Deep.open_slice ht hf with ⟨hcs, _⟩ | ⟨a, len, cap, m, n, D, Pl, hcs, _, hlc, hcm, hm, hxx, hi⟩
  · refine ⟨none, 0, [], ?_, Sl.nil _ _ _ _, by simp, by omega, by simp⟩
    simpa [Value.cells] using hcs
  · have hlm : len ≤ m := by rw [hm]; split <;> omega
    rw [hC] at hi
    have key : ∀ i, i < len → ∃ x, good x ∧ ∀ j u, (enc x)[j]? = some u → w.cell? (a.add (i * k + j)) = some u := by
      intro i hil
      obtain ⟨cs', hc', htr⟩ := hi i (by omega)
      obtain ⟨x, rfl, hg⟩ := hread _ _ _ htr
      obtain ⟨_, hl, hcell⟩ := World.cells?_some hc'
      refine ⟨x, hg, fun j u hu => ?_⟩
      have hj : j < k := by
        have := (List.getElem?_eq_some_iff.1 hu).1
        rw [hk] at this; exact this
      have := hcell j hj
      rw [hu] at this
      have hadd : (a.add (i * k)).add j = a.add (i * k + j) := by
        unfold Addr.add
        by_cases h1 : i * k = 0 <;> by_cases h2 : j = 0 <;> simp [h1, h2, Nat.add_assoc]
      rw [hadd] at this
      exact this
    have hex : ∃ xs : List α, xs.length = len ∧ (∀ x ∈ xs, good x) ∧ ∀ i, (hil : i < xs.length) → ∀ j u, (enc xs[i])[j]? = some u → w.cell? (a.add (i * k + j)) = some u := by
      clear hcs hi hlm hm hlc hxx
      induction len with
      | zero => exact ⟨[], rfl, by simp, fun i hi => absurd hi (by simp)⟩
      | succ l ih =>
        obtain ⟨xs, hxl, hxg, hxc⟩ := ih (fun i hi => key i (by omega))
        obtain ⟨x, hg, hc⟩ := key l (by omega)
        refine ⟨xs ++ [x], by simp [hxl], fun y hy => ?_, fun i hil j u hu => ?_⟩
        · rcases List.mem_append.1 hy with h | h
          · exact hxg y h
          · rw [List.mem_singleton.1 h]; exact hg
        · by_cases hi : i < xs.length
          · rw [List.getElem_append_left hi] at hu
            exact hxc i hi j u hu
          · have hil' : i = xs.length := by simp at hil; omega
            subst hil'
            simp at hu
            rw [hxl]
            exact hc j u hu
    obtain ⟨xs, hxl, hxg, hxc⟩ := hex
    refine ⟨some a, cap, xs, ?_, ?_, by omega, by unfold maxLen at hcm; omega, hxg⟩
    · rw [hxl]; simpa [Value.cells] using hcs
    · intro h0
      have h00 : 0 < (enc xs[0]).length := by rw [hk]; exact hk0
      have hc0 := hxc 0 h0 0 _ (List.getElem?_eq_getElem h00)
      have ha : a.add (0 * k + 0) = a := by simp [Addr.add]
      rw [ha] at hc0
      have hpl := plain_addr hc0
      refine ⟨a.block, a.off, by rw [← hpl], fun j hj i u hu => ?_⟩
      have := hxc j hj i u hu
      rw [hpl, add_plain] at this
      rw [Nat.add_assoc]
      exact this

theorem read_int {k : IntKind} {e : TypeId} (he : P.underlying e = some (.int k)) (n : Nat) (cs : List Value) (y : DataW H × List MemPlace) (h : DataW.trod encH P w base spare held n e cs = some y) : ∃ x, cs = [.int k x] ∧ (Lit.int k x).wf = true := by
  obtain ⟨x, h1, _, h3⟩ := DataW.trod_int he h
  exact ⟨x, h1, h3⟩
theorem read_bool {e : TypeId} (he : P.underlying e = some .bool) (n : Nat) (cs : List Value) (y : DataW H × List MemPlace) (h : DataW.trod encH P w base spare held n e cs = some y) : ∃ x, cs = [.bool x] ∧ True := by
  obtain ⟨x, h1, _⟩ := DataW.trod_bool he h
  exact ⟨x, h1, trivial⟩

/-- What a law's row asks behind the call, where below the heap's old size nothing has turned. -/
theorem law_post {f : Func} {s : ChangeSpec} {W W' : World} {args : Array Value} {v : Value} {ds gs : List (DataW H)} {before pa pv : List MemPlace}
    (hW : DataW.Whole encH P f.params.toList s.vars false W args.toList ds gs before)
    (hres : DataW.TrodAll encH P W' W.heap.size (fun _ => false) false f.resultTypes.toList (v.resultList f.resultTypes.size) (s.fn H (ds ++ gs)).results [])
    (hargs : DataW.TrodAll encH P W' 0 (fun b => decide (b < W.heap.size)) true f.params.toList args.toList (s.fn H (ds ++ gs)).args pa)
    (hvars : DataW.TrodVars encH P W' (fun b => decide (b < W.heap.size)) s.vars (s.fn H (ds ++ gs)).vars pv)
    (hps : before = pa ++ pv) (hb : Below W.heap.size W W') : s.post encH P f false true false false W args v W' := by
  refine ⟨ds, gs, before, [], pa, pv, hW, hres, hargs, hvars, World.keptBut_mono (fun p hp => ⟨hp, ?_⟩) (hb.frame (· ∈ before)), fun h => nomatch h⟩
  rw [hps, List.mem_append] at hp
  exact .inr hp
end
end Go.Proofs.Ytdalnaegjclacaa
