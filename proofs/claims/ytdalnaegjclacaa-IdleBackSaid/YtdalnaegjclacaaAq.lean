/- Words: append of a slice that came in, and where the new row lies. -/
import Derived.Test.YtdalnaegjclacaaAp
import Derived.Maps.AppendAt
namespace Go.Proofs.Ytdalnaegjclacaa
open Go.RowKit

section
variable {α : Type} {enc : α → List Value} {k : Nat} {P : Program} {w : World}
/-- The same, and where the new row lies. -/
theorem wpList_append_at {ops : Array Oper} {rest : List Oper} {o : Oper} {a : Act} {Q : Exit → Act → World → Prop} (hgd : o.guard = none) (s x : Operand) (t : TypeId)
    (ho : o.op = .call { callee := .builtin .append, args := #[s, x], argTypes := #[t, t] })
    (base : Nat) (e : TypeId) (i : TypeInfo) (z : Value) (bytes : Nat) (ht : P.underlying t = some (.slice e)) (hi : P.info? e = some i) (hz : i.zero = some z)
    (hsize : i.size = k) (hby : i.bytes = bytes) (hzs : z.cells.size = k) (hsz : 0 < k) (hk : ∀ x, (enc x).length = k) (h1 : ∀ x, ∀ u ∈ enc x, u.oneCell' = true)
    (v : Value) (ys : List α) (hs : a.eval s = v) (hown : Own enc k e base w v ys)
    (A : Option Addr) (c : Nat) (xs : List α) (hx : a.eval x = .slice A xs.length c) (hsl : Sl enc k w A xs)
    (h63 : ys.length + xs.length ≤ maxLen) (hbytes : (ys.length + xs.length) * bytes ≤ 140737488355328) (hbase : base ≤ w.heap.size)
    (h : ∀ v' w', Own enc k e base w' v' (ys ++ xs) → w.grownBy w' v.ownBlock → (v'.ownBlock = v.ownBlock ∨ v'.ownBlock = some w.heap.size) → wpList P ops Q rest (a.put o.dst v') w') : wpList P ops Q (o :: rest) a w := by
  refine wpList_plain hgd fun K hK => ?_
  cases A with
  | none =>
    have hx0 : xs = [] := by
      cases xs with
      | nil => rfl
      | cons y l => obtain ⟨b, off, hA, _⟩ := hsl (by simp); cases hA
    subst hx0
    have hrun := run_append_nilc (P := P) (w := w) base t o.type e i k ht hi v ys.length (flat enc ys) hown c
    unfold Oper.wp
    simp only [List.length_nil] at hx
    simp [execOp, ho, resolve, invoke, builtin, hs, hx, hrun, Result.andThen]
    exact hK _ _ (h _ _ (by simpa using hown) (World.grownBy.refl w _) (.inl rfl))
  | some ad =>
    have hnews : ∀ j u, (flat enc xs)[j]? = some u → w.cell? (ad.add j) = some u := by
      intro j u hu
      by_cases h0 : 0 < xs.length
      · obtain ⟨b, off, hA, hc⟩ := hsl.news hk h0
        obtain rfl : ad = ⟨b, off, none⟩ := by simpa using hA
        exact hc j u hu
      · obtain rfl : xs = [] := List.eq_nil_of_length_eq_zero (by omega)
        simp [flat] at hu
    obtain ⟨v', w', hrun, h2, h3, _, h5⟩ := run_append_own_at (P := P) (w := w) base t o.type e i z k bytes ht hi hz hsize hby hzs hsz v ys.length (flat enc ys) hown ad xs.length c (flat enc xs) (flat_length hk) hnews (flat_one h1) h63 hbytes hbase
    unfold Oper.wp
    simp [execOp, ho, resolve, invoke, builtin, hs, hx, hrun, Result.andThen]
    exact hK _ _ (h v' w' (by unfold Own; rw [List.length_append, flat_append]; exact h2) h3 h5)
end
end Go.Proofs.Ytdalnaegjclacaa
