/- Layer 9: a descriptor, read. -/
import Derived.Test.YtkckhnblkjgkdaaA
import Derived.Test.YtkckhnblkjgkdaaOp
import Derived.Test.YtkckhnblkjgkdaaM6
namespace Go.Proofs.Ytkckhnblkjgkdaa
open Go.RowKit Go.ChangeShapes Go.WideShapes

theorem cells35 : Try.prog.cellsOf 35 = 3 := by kernel_rfl
def Fd.fits (x : Fd) : Prop := I64 x.w
section
variable {H : Type} {encH : TypeId × Value → H} {w : World} {base : Nat} {spare : Nat → Bool} {held : Bool}
theorem read_fd (n : Nat) (cs : List Value) (y : DataW H × List MemPlace) (h : DataW.trod encH Try.prog w base spare held n 35 cs = some y) : ∃ x : Fd, cs = x.enc ∧ x.fits := by
  obtain ⟨xs, m, _, _, hlen, hl, hf⟩ := DataW.trod_struct Try.underlying35 h
  rw [cells35] at hlen
  have c4 : Try.prog.cellsOf 4 = 1 := by kernel_rfl
  have c2 : Try.prog.cellsOf 2 = 1 := by kernel_rfl
  match cs, hlen, xs, hl with
  | [v0, v1, v2], _, [y0, y1, y2], _ =>
    have h0 := hf 0 { name := "Open", type := 4, offset := 0, embedded := false, tag := "", pkgPath := "", byteOffset := 0 } rfl
    have h1 := hf 1 { name := "Ready", type := 4, offset := 1, embedded := false, tag := "", pkgPath := "", byteOffset := 1 } rfl
    have h2 := hf 2 { name := "Who", type := 2, offset := 2, embedded := false, tag := "", pkgPath := "", byteOffset := 8 } rfl
    dsimp only at h0 h1 h2
    rw [c4] at h0 h1
    rw [c2] at h2
    simp only [List.drop_succ_cons, List.drop_zero, List.take_succ_cons, List.take_zero, List.getElem?_cons_zero, List.getElem?_cons_succ] at h0 h1 h2
    obtain ⟨x0, e0, _⟩ := DataW.trod_bool Try.underlying4 h0
    obtain ⟨x1, e1, _⟩ := DataW.trod_bool Try.underlying4 h1
    obtain ⟨x2, e2, _, g2⟩ := DataW.trod_int Try.underlying2 h2
    refine ⟨⟨x0, x1, x2⟩, ?_, bounds_i64 g2⟩
    simp only [List.cons.injEq, and_true] at e0 e1 e2
    rw [e0, e1, e2]; rfl
end
end Go.Proofs.Ytkckhnblkjgkdaa
