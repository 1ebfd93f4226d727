/- Words: a map of the call's own, keyed by int64, as a list of pairs. -/
import Derived.Test.YtkckhnblkjgkdaaWd
import Derived.MapKept
import Derived.Laws.IdiomRangeMap
import Derived.Maps.OwnOps
import Derived.Carry
namespace Go.Proofs.Ytkckhnblkjgkdaa
open Go.RowKit

section
variable {β : Type}
def findAt (k : Int) : List (Int × β) → Nat → Option (Nat × β)
  | [], _ => none
  | p :: r, i => if p.1 = k then some (i, p.2) else findAt k r (i + 1)
def mlook (k : Int) (m : List (Int × β)) : Option β := (findAt k m 0).map (·.2)
def mput (k : Int) (v : β) : List (Int × β) → List (Int × β)
  | [] => [(k, v)]
  | p :: r => if p.1 = k then (k, v) :: r else p :: mput k v r
def mdel (k : Int) : List (Int × β) → List (Int × β)
  | [] => []
  | p :: r => if p.1 = k then r else p :: mdel k r

/-- Block b of w is the map m. -/
def IsMap (enc : β → Value) (w : World) (b : Nat) (m : List (Int × β)) : Prop :=
  ∃ es clock, w.heap[b]? = some (.map es clock) ∧ es.toList.map (fun e => (e.key, e.val)) = m.map (fun p => (Value.int .i64 p.1, enc p.2)) ∧ (es.toList.map (·.born)).Nodup ∧ ∀ e ∈ es.toList, e.born < clock

theorem findAt_shift (k : Int) (m : List (Int × β)) : ∀ i, findAt k m (i + 1) = (findAt k m i).map (fun x => (x.1 + 1, x.2)) := by
  induction m with
  | nil => intro i; rfl
  | cons p r ih =>
    intro i
    unfold findAt
    split
    · rfl
    · exact ih (i + 1)
theorem findNow_int (enc : β → Value) (k : Int) : ∀ (l : List MapEntry) (m : List (Int × β)) (i : Nat), l.map (fun e => (e.key, e.val)) = m.map (fun p => (Value.int .i64 p.1, enc p.2)) →
    Instr.findNow (.int .i64) (.int .i64 k) l i = some ((findAt k m i).map fun x => (x.1, enc x.2)) := by
  intro l
  induction l with
  | nil =>
    intro m i h
    cases m with
    | nil => rfl
    | cons p r => simp at h
  | cons e l ih =>
    intro m i h
    cases m with
    | nil => simp at h
    | cons p r =>
      simp only [List.map_cons, List.cons.injEq, Prod.mk.injEq] at h
      obtain ⟨⟨h1, h2⟩, h3⟩ := h
      unfold Instr.findNow findAt
      rw [h1]
      simp only [Instr.sameNow, if_true]
      by_cases hk : p.1 = k
      · rw [if_pos hk]
        have : (k == p.1) = true := by simp [hk]
        rw [this]
        simp [h2]
      · rw [if_neg hk]
        have : (k == p.1) = false := by simp; exact fun h => hk h.symm
        rw [this]
        exact ih r (i + 1) h3

variable {enc : β → Value} {P : Program} {w w' : World} {b : Nat} {m : List (Int × β)}
theorem IsMap.kept {row : Option Nat} (h : IsMap enc w b m) (hg : w.grownBy w' row) (hne : some b ≠ row) : IsMap enc w' b m := by
  obtain ⟨es, clock, hb, h1, h2, h3⟩ := h
  exact ⟨es, clock, by rw [hg.block b (Array.getElem?_eq_some_iff.1 hb).1 hne]; exact hb, h1, h2, h3⟩
theorem IsMap.below (h : IsMap enc w b m) (hb : Below w.heap.size w w') : IsMap enc w' b m :=
  h.kept (row := none) ⟨hb.os, hb.tape, hb.output, hb.size, fun i hi _ => hb.block i hi⟩ (by simp)
theorem IsMap.lt (h : IsMap enc w b m) : b < w.heap.size := by
  obtain ⟨es, clock, hb, _⟩ := h
  exact (Array.getElem?_eq_some_iff.1 hb).1
theorem IsMap.made (enc : β → Value) (w : World) : IsMap enc (w.alloc (.map #[] 0)) w.heap.size ([] : List (Int × β)) :=
  ⟨#[], 0, Go.heap_alloc_new w _, rfl, by simp, by simp⟩
theorem run_checkKey_int (e : Bool) (k : TypeId) (hk : P.underlying k = some (.int .i64)) (x : Int) (w : World) : (Instr.checkKey e 10000 k (.int .i64 x)).run P w = .ok () w := by
  exact MapKept.run_checkKey hk (by simp [MapKept.IsKey]) e 9999
theorem run_findKey_int (k : TypeId) (hk : P.underlying k = some (.int .i64)) (x : Int) (es : List MapEntry) (h : es.map (fun e => (e.key, e.val)) = m.map (fun p => (Value.int .i64 p.1, enc p.2))) (w : World) :
    (Instr.findKey k (.int .i64 x) es).run P w = .ok ((findAt x m 0).map fun y => (y.1, enc y.2)) w := by
  simp [Instr.findKey, run_underlying hk, findNow_int enc x es m 0 h]
theorem run_lookup_im {t k e : TypeId} (ht : P.underlying t = some (.map k e)) (hk : P.underlying k = some (.int .i64)) {z : β} (hz : (zeroValue e).run P w = .ok (enc z) w) (h : IsMap enc w b m) (x : Int) :
    (Instr.lookup t (.map (some b)) (.int .i64 x) false).run P w = .ok (enc ((mlook x m).getD z)) w := by
  obtain ⟨es, clock, hb, h1, _⟩ := h
  have hf := run_findKey_int (P := P) k hk x es.toList h1 w
  have hg := MapKept.run_getObj_map (P := P) hb
  have hc := fun e => run_checkKey_int (P := P) e k hk x w
  unfold Instr.lookup mlook
  cases hfa : findAt x m 0 with
  | none =>
    rw [hfa] at hf
    simp [run_underlying ht, hg, hc, hf, hz]
  | some y =>
    rw [hfa] at hf
    simp [run_underlying ht, hg, hc, hf]
theorem run_lookupOk_im {t k e : TypeId} (ht : P.underlying t = some (.map k e)) (hk : P.underlying k = some (.int .i64)) {z : β} (hz : (zeroValue e).run P w = .ok (enc z) w) (h : IsMap enc w b m) (x : Int) :
    (Instr.lookup t (.map (some b)) (.int .i64 x) true).run P w = .ok (.tuple #[enc ((mlook x m).getD z), .bool (mlook x m).isSome]) w := by
  obtain ⟨es, clock, hb, h1, _⟩ := h
  have hf := run_findKey_int (P := P) k hk x es.toList h1 w
  have hg := MapKept.run_getObj_map (P := P) hb
  have hc := fun e => run_checkKey_int (P := P) e k hk x w
  unfold Instr.lookup mlook
  cases hfa : findAt x m 0 with
  | none =>
    rw [hfa] at hf
    simp [run_underlying ht, hg, hc, hf, hz]
  | some y =>
    rw [hfa] at hf
    simp [run_underlying ht, hg, hc, hf]
theorem findAt_put (k : Int) (v : β) : ∀ (m : List (Int × β)) (i : Nat) (y : β), findAt k m 0 = some (i, y) → mput k v m = m.set i (k, v) ∧ i < m.length ∧ ∃ p, m[i]? = some p ∧ p.1 = k
  | [], _, _, h => by simp [findAt] at h
  | p :: r, i, y, h => by
    unfold findAt at h
    split at h
    · rename_i hp
      simp only [Option.some.injEq, Prod.mk.injEq] at h
      obtain ⟨rfl, rfl⟩ := h
      exact ⟨by simp [mput, hp], by simp, p, rfl, hp⟩
    · rename_i hp
      rw [findAt_shift] at h
      cases hr : findAt k r 0 with
      | none => rw [hr] at h; simp at h
      | some q =>
        rw [hr] at h
        simp only [Option.map_some, Option.some.injEq, Prod.mk.injEq] at h
        obtain ⟨rfl, rfl⟩ := h
        obtain ⟨e1, e2, e3⟩ := findAt_put k v r q.1 q.2 hr
        exact ⟨by simp [mput, hp, e1], by simp; omega, by simpa using e3⟩
theorem findAt_push (k : Int) (v : β) : ∀ (m : List (Int × β)), findAt k m 0 = none → mput k v m = m ++ [(k, v)]
  | [], _ => rfl
  | p :: r, h => by
    unfold findAt at h
    split at h
    · cases h
    · rename_i hp
      rw [findAt_shift] at h
      have := findAt_push k v r (by simpa using h)
      simp [mput, hp, this]
theorem run_update_im {t k e : TypeId} (ht : P.underlying t = some (.map k e)) (hk : P.underlying k = some (.int .i64)) (h : IsMap enc w b m) (x : Int) (v : β) :
    ∃ w', (Instr.mapUpdate t (.map (some b)) (.int .i64 x) (enc v)).run P w = .ok () w' ∧ IsMap enc w' b (mput x v m) ∧ w.grownBy w' (some b) ∧ w'.heap.size = w.heap.size ∧ (∀ a, w'.cell? a = w.cell? a) ∧ (∀ a, w'.frozen? a = w.frozen? a) := by
  obtain ⟨es, clock, hb, h1, h2, h3⟩ := h
  have hf := run_findKey_int (P := P) k hk x es.toList h1 w
  have hg := MapKept.run_getObj_map (P := P) hb
  have hc := fun e => run_checkKey_int (P := P) e k hk x w
  have hs := fun o => MapKept.run_setObj_map (P := P) o hb
  have hlt : b < w.heap.size := (Array.getElem?_eq_some_iff.1 hb).1
  have hcell : ∀ o : Obj, (match o with | .cells .. => False | _ => True) → ∀ a, ({ w with heap := w.heap.setIfInBounds b o } : World).cell? a = w.cell? a := by
    intro o ho a
    by_cases ha : a.block = b
    · cases o <;> simp_all [World.cell?]
    · simp [World.cell?, Ne.symm ha]
  have hfro : ∀ o : Obj, (match o with | .cells .. => False | _ => True) → ∀ a, ({ w with heap := w.heap.setIfInBounds b o } : World).frozen? a = w.frozen? a := by
    intro o ho a
    by_cases ha : a.block = b
    · cases o <;> simp_all [World.frozen?]
    · simp [World.frozen?, Ne.symm ha]
  have hgr : ∀ o : Obj, w.grownBy ({ w with heap := w.heap.setIfInBounds b o }) (some b) := fun o => ⟨rfl, rfl, rfl, by simp, fun i _ hne => by
    have : b ≠ i := fun e => hne (by rw [e])
    simp [this]⟩
  cases hfa : findAt x m 0 with
  | none =>
    rw [hfa] at hf
    refine ⟨_, by simp [Instr.mapUpdate, run_underlying ht, hg, hc, hf, hs]; rfl, ?_, hgr _, by simp, hcell _ trivial, hfro _ trivial⟩
    refine ⟨es.push { key := .int .i64 x, val := enc v, born := clock }, clock + 1, by simp [hlt], ?_, ?_, ?_⟩
    · rw [findAt_push x v m hfa]; simp [h1]
    · simp only [Array.toList_push, List.map_append, List.map_cons, List.map_nil]
      rw [List.nodup_append]
      refine ⟨h2, by simp, fun a ha c hc' => ?_⟩
      obtain ⟨e', he', rfl⟩ := List.mem_map.1 ha
      have := h3 e' he'
      simp at hc'
      omega
    · intro e' he'
      simp at he'
      rcases he' with he' | he'
      · have := h3 e' (by simpa using he'); omega
      · rw [he']; simp
  | some y =>
    obtain ⟨i, y⟩ := y
    rw [hfa] at hf
    obtain ⟨e1, e2, p, hp, hpk⟩ := findAt_put x v m i y hfa
    have hlen : es.toList.length = m.length := by have := congrArg List.length h1; simpa using this
    have hkey : ∃ en, es[i]? = some en ∧ en.key = .int .i64 x := by
      have hi : i < es.toList.length := by omega
      refine ⟨es[i]'(by simpa using hi), by simp at hi; simp [hi], ?_⟩
      have := congrArg (fun l => l[i]?) h1
      simp only [List.getElem?_map, hp] at this
      have hi' : i < es.size := by simpa using hi
      simp [hi', hpk] at this
      exact this.1
    obtain ⟨en, hen, henk⟩ := hkey
    have hst : (Instr.keyThatStays (.int .i64 x) (.int .i64 x)).run P w = .ok (.int .i64 x) w := by
      unfold Instr.keyThatStays
      rw [show (10000 : Nat) = 9999 + 1 from rfl]
      simp [Instr.sameBits]
    refine ⟨_, by simp [Instr.mapUpdate, run_underlying ht, hg, hc, hf, hs, hen, henk, hst]; rfl, ?_, hgr _, by simp, hcell _ trivial, hfro _ trivial⟩
    refine ⟨es.modify i fun e => { e with key := .int .i64 x, val := enc v }, clock, by simp [hlt], ?_, ?_, ?_⟩
    · rw [e1]
      apply List.ext_getElem?
      intro j
      have hj := congrArg (fun l => l[j]?) h1
      simp only [List.getElem?_map, Array.getElem?_toList] at hj ⊢
      rw [Array.getElem?_modify, List.getElem?_set]
      by_cases hij : i = j
      · subst hij
        simp [e2, hen]
      · simp only [if_neg hij]; exact hj
    · have : (es.modify i fun e => { e with key := .int .i64 x, val := enc v }).toList.map (·.born) = es.toList.map (·.born) := by
        apply List.ext_getElem?
        intro j
        simp only [List.getElem?_map, Array.getElem?_toList, Array.getElem?_modify]
        by_cases hij : i = j
        · subst hij; simp [hen]
        · simp [hij]
      rw [this]; exact h2
    · intro e' he'
      obtain ⟨j, hj⟩ := List.mem_iff_getElem?.1 he'
      rw [Array.getElem?_toList, Array.getElem?_modify] at hj
      by_cases hij : i = j
      · subst hij
        simp [hen] at hj
        rw [← hj]
        exact h3 en (by rw [List.mem_iff_getElem?]; exact ⟨i, by simpa using hen⟩)
      · rw [if_neg hij] at hj
        exact h3 e' (by rw [List.mem_iff_getElem?]; exact ⟨j, by simpa using hj⟩)
end
end Go.Proofs.Ytkckhnblkjgkdaa
