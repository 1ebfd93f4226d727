/- Layer 15: a tenant, read. -/
import Derived.Test.YtcgddfpfmnpaeaaA
import Derived.Test.YtcgddfpfmnpaeaaOp
import Derived.Test.YtcgddfpfmnpaeaaE
namespace Go.Proofs.Ytcgddfpfmnpaeaa
open Go.RowKit Go.ChangeShapes Go.WideShapes

def Ten.fits (x : Ten) : Prop := I64 x.w ∧ I64 x.q ∧ I64 x.l ∧ I64 x.t ∧ I64 x.r
theorem cells34 : Try.prog.cellsOf 34 = 5 := by kernel_rfl
section
variable {H : Type} {encH : TypeId × Value → H} {w : World} {base : Nat} {spare : Nat → Bool} {held : Bool}
theorem read_ten (n : Nat) (cs : List Value) (y : DataW H × List MemPlace) (h : DataW.trod encH Try.prog w base spare held n 34 cs = some y) : ∃ x : Ten, cs = x.enc ∧ x.fits := by
  obtain ⟨xs, m, _, _, hlen, hl, hf⟩ := DataW.trod_struct Try.underlying34 h
  rw [cells34] at hlen
  have c3 : Try.prog.cellsOf 3 = 1 := by kernel_rfl
  have c2 : Try.prog.cellsOf 2 = 1 := by kernel_rfl
  match cs, hlen, xs, hl with
  | [v0, v1, v2, v3, v4], _, [y0, y1, y2, y3, y4], _ =>
    have h0 := hf 0 { name := "Weight", type := 3, offset := 0, embedded := false, tag := "", pkgPath := "", byteOffset := 0 } rfl
    have h1 := hf 1 { name := "Quota", type := 3, offset := 1, embedded := false, tag := "", pkgPath := "", byteOffset := 8 } rfl
    have h2 := hf 2 { name := "Live", type := 3, offset := 2, embedded := false, tag := "", pkgPath := "", byteOffset := 16 } rfl
    have h3 := hf 3 { name := "Tag", type := 2, offset := 3, embedded := false, tag := "", pkgPath := "", byteOffset := 24 } rfl
    have h4 := hf 4 { name := "Ran", type := 2, offset := 4, embedded := false, tag := "", pkgPath := "", byteOffset := 32 } rfl
    dsimp only at h0 h1 h2 h3 h4
    rw [c3] at h0 h1 h2
    rw [c2] at h3 h4
    simp only [List.drop_succ_cons, List.drop_zero, List.take_succ_cons, List.take_zero, List.getElem?_cons_zero, List.getElem?_cons_succ] at h0 h1 h2 h3 h4
    obtain ⟨x0, e0, _, g0⟩ := DataW.trod_int Try.underlying3 h0
    obtain ⟨x1, e1, _, g1⟩ := DataW.trod_int Try.underlying3 h1
    obtain ⟨x2, e2, _, g2⟩ := DataW.trod_int Try.underlying3 h2
    obtain ⟨x3, e3, _, g3⟩ := DataW.trod_int Try.underlying2 h3
    obtain ⟨x4, e4, _, g4⟩ := DataW.trod_int Try.underlying2 h4
    refine ⟨⟨x0, x1, x2, x3, x4⟩, ?_, bounds_i64 g0, bounds_i64 g1, bounds_i64 g2, bounds_i64 g3, bounds_i64 g4⟩
    simp only [List.cons.injEq, and_true] at e0 e1 e2 e3 e4
    rw [e0, e1, e2, e3, e4]; rfl
end
end Go.Proofs.Ytcgddfpfmnpaeaa
