/-
  No cell of these rows narrows 'for every input' (looked for: loops, veiled, ifaces, maps, wideKeys, modest, calm, conditions, laid).
  DERIVED. THE GIVEN ROWS OF THIS SEAT. 4 by the template 'for every input the law returns true; each argument reads behind the call as it read before'; 0 by the template 'total and deterministic' (their statements: YtdalnaegjclacaaTotals.lean).
  GIVEN WITH THE SEED: the statements are not yours to turn. If you find one false, say at which input.
  Laid BY PROGRAM, IN A SANDBOX (cutbox-rows.mjs): the forced cells as the released guide's own fill.sh prints them over the translation 6db323d29f4fcd65… (all of the seat's roots in one cut). By AI agents, Wed Nov 11 2026. No macro, syntax, notation, axiom, sorry.
-/
import Derived.Test.YtdalnaegjclacaaChecked
import GoSem.Claim
import GoSem.ClaimJoined
import GoSem.ClaimMapViews
import Derived.JoinedTies
import Derived.KernelRfl
namespace Go.Proofs.Ytdalnaegjclacaa
/- THE CELL 'sum', in the pinned program and in every row, IS THE sha256 OF THE DUMP (.gsa) THAT YtdalnaegjclacaaProg.lean LOADS. Nothing in Lean hashes anything: it is a label: what it is worth is what the hold of that sum in a sandbox is worth. -/
noncomputable def Try.pinned : Pinned := { name := "ytdalnaegjclacaa", sum := "6db323d29f4fcd654c10d1bd9ad35fcd533cd8f73a8fe0d779a4cf8670bf86c1", checked := Try.checked }
namespace Rows
def none {H : Type} : Left H := { results := [], args := [] }

/-- 'ravellaw11.JoinsDoes': WHATEVER THE INPUT: true; the input reads as it did. -/
def joinsDoesSpec : ChangeSpec := { name := "joinsDoes", fn := fun _ => fun
  | [d1, d2, d3, d4] => { results := [.lit (.bool true)], args := [d1, d2, d3, d4] }
  | _ => none }
def joinsDoesRow : OpenClaim := { program := "ytdalnaegjclacaa", sum := "6db323d29f4fcd654c10d1bd9ad35fcd533cd8f73a8fe0d779a4cf8670bf86c1", func := "ravel/ravellaw11.JoinsDoes", spec := "joinsDoes", unfollowed := true, recurses := true, apart := false }
def JoinsDoesSaid : Prop := joinsDoesRow.holds Try.pinned (OpenSpec.ofChange joinsDoesSpec)

/-- ITS FALSE NEIGHBOUR: 'it returns false'. Refute it at one input. -/
def joinsDoesWrong : ChangeSpec := { name := "joinsDoes", fn := fun _ => fun
  | [d1, d2, d3, d4] => { results := [.lit (.bool false)], args := [d1, d2, d3, d4] }
  | _ => none }
def JoinsDoesWrongFalsely : Prop := joinsDoesRow.holds Try.pinned (OpenSpec.ofChange joinsDoesWrong)

/-- 'ravellaw17.IdleBack': WHATEVER THE INPUT: true; the input reads as it did. -/
def idleBackSpec : ChangeSpec := { name := "idleBack", fn := fun _ => fun
  | [d1, d2] => { results := [.lit (.bool true)], args := [d1, d2] }
  | _ => none }
def idleBackRow : OpenClaim := { program := "ytdalnaegjclacaa", sum := "6db323d29f4fcd654c10d1bd9ad35fcd533cd8f73a8fe0d779a4cf8670bf86c1", func := "ravel/ravellaw17.IdleBack", spec := "idleBack", unfollowed := true, recurses := true, apart := false }
def IdleBackSaid : Prop := idleBackRow.holds Try.pinned (OpenSpec.ofChange idleBackSpec)

/-- ITS FALSE NEIGHBOUR: 'it returns false'. Refute it at one input. -/
def idleBackWrong : ChangeSpec := { name := "idleBack", fn := fun _ => fun
  | [d1, d2] => { results := [.lit (.bool false)], args := [d1, d2] }
  | _ => none }
def IdleBackWrongFalsely : Prop := idleBackRow.holds Try.pinned (OpenSpec.ofChange idleBackWrong)

/-- 'ravellaw17.IdleDoes': WHATEVER THE INPUT: true; the input reads as it did. -/
def idleDoesSpec : ChangeSpec := { name := "idleDoes", fn := fun _ => fun
  | [d1, d2, d3, d4, d5] => { results := [.lit (.bool true)], args := [d1, d2, d3, d4, d5] }
  | _ => none }
def idleDoesRow : OpenClaim := { program := "ytdalnaegjclacaa", sum := "6db323d29f4fcd654c10d1bd9ad35fcd533cd8f73a8fe0d779a4cf8670bf86c1", func := "ravel/ravellaw17.IdleDoes", spec := "idleDoes", unfollowed := true, recurses := true, apart := false }
def IdleDoesSaid : Prop := idleDoesRow.holds Try.pinned (OpenSpec.ofChange idleDoesSpec)

/-- ITS FALSE NEIGHBOUR: 'it returns false'. Refute it at one input. -/
def idleDoesWrong : ChangeSpec := { name := "idleDoes", fn := fun _ => fun
  | [d1, d2, d3, d4, d5] => { results := [.lit (.bool false)], args := [d1, d2, d3, d4, d5] }
  | _ => none }
def IdleDoesWrongFalsely : Prop := idleDoesRow.holds Try.pinned (OpenSpec.ofChange idleDoesWrong)

/-- 'ravellaw16.PickDoes': WHATEVER THE INPUT: true; the input reads as it did. -/
def pickDoesSpec : ChangeSpec := { name := "pickDoes", fn := fun _ => fun
  | [d1, d2, d3, d4, d5, d6] => { results := [.lit (.bool true)], args := [d1, d2, d3, d4, d5, d6] }
  | _ => none }
def pickDoesRow : OpenClaim := { program := "ytdalnaegjclacaa", sum := "6db323d29f4fcd654c10d1bd9ad35fcd533cd8f73a8fe0d779a4cf8670bf86c1", func := "ravel/ravellaw16.PickDoes", spec := "pickDoes", unfollowed := true, recurses := true, apart := false }
def PickDoesSaid : Prop := pickDoesRow.holds Try.pinned (OpenSpec.ofChange pickDoesSpec)

/-- ITS FALSE NEIGHBOUR: 'it returns false'. Refute it at one input. -/
def pickDoesWrong : ChangeSpec := { name := "pickDoes", fn := fun _ => fun
  | [d1, d2, d3, d4, d5, d6] => { results := [.lit (.bool false)], args := [d1, d2, d3, d4, d5, d6] }
  | _ => none }
def PickDoesWrongFalsely : Prop := pickDoesRow.holds Try.pinned (OpenSpec.ofChange pickDoesWrong)

/- THE SECOND FORM. 'bulk': how many values and letters a reading holds, each counted each time it is reached (what is shared counts as often as it is met; a slice's spare places count too). A statement '..UptoSaid' is the law's where the arguments, and the package variables that the reading takes, are together of bulk at most 1048576: NARROWER than '..Said'. Prove '..Said' where nothing that the law and all that it calls make is longer than what came in: it says more and counts as full. Else prove '..UptoSaid'. A law counts once. -/
mutual
def uptoBulk {H : Type} : DataW H → Nat
  | .lit (.string bytes) => bytes.length + 1
  | .lit _ => 1
  | .nil => 1
  | .ptr d => uptoBulk d + 1
  | .slice elems spare => uptoBulkAll elems + uptoBulkAll spare + 1
  | .agg parts => uptoBulkAll parts + 1
  | .iface _ d => uptoBulk d + 1
  | .map entries => uptoBulkEntries entries + 1
  | .held _ => 1
def uptoBulkAll {H : Type} : List (DataW H) → Nat
  | [] => 0
  | d :: r => uptoBulk d + uptoBulkAll r
def uptoBulkEntries {H : Type} : List (Lit × DataW H) → Nat
  | [] => 0
  | x :: r => uptoBulkEntry x + uptoBulkEntries r
def uptoBulkEntry {H : Type} : Lit × DataW H → Nat
  | (.string bytes, d) => bytes.length + uptoBulk d + 1
  | (_, d) => uptoBulk d + 1
 end
def uptoSmall : (H : Type) → List (DataW H) → Bool := fun _ ds => decide (uptoBulkAll ds ≤ 1048576)
def OpenSpec.upto (s : _root_.Go.ChangeSpec) : _root_.Go.OpenSpec := { _root_.Go.OpenSpec.ofChange s with cond := some uptoSmall }

/-- 'ravellaw11.JoinsDoes', WHERE WHAT IT READS IS OF BULK AT MOST 1048576: true; the input reads as it did. -/
def joinsDoesUptoRow : OpenClaim := { program := "ytdalnaegjclacaa", sum := "6db323d29f4fcd654c10d1bd9ad35fcd533cd8f73a8fe0d779a4cf8670bf86c1", func := "ravel/ravellaw11.JoinsDoes", spec := "joinsDoes", unfollowed := true, recurses := true, apart := false, narrowed := true }
def JoinsDoesUptoSaid : Prop := joinsDoesUptoRow.holds Try.pinned (OpenSpec.upto joinsDoesSpec)

/-- 'ravellaw17.IdleBack', WHERE WHAT IT READS IS OF BULK AT MOST 1048576: true; the input reads as it did. -/
def idleBackUptoRow : OpenClaim := { program := "ytdalnaegjclacaa", sum := "6db323d29f4fcd654c10d1bd9ad35fcd533cd8f73a8fe0d779a4cf8670bf86c1", func := "ravel/ravellaw17.IdleBack", spec := "idleBack", unfollowed := true, recurses := true, apart := false, narrowed := true }
def IdleBackUptoSaid : Prop := idleBackUptoRow.holds Try.pinned (OpenSpec.upto idleBackSpec)

/-- 'ravellaw17.IdleDoes', WHERE WHAT IT READS IS OF BULK AT MOST 1048576: true; the input reads as it did. -/
def idleDoesUptoRow : OpenClaim := { program := "ytdalnaegjclacaa", sum := "6db323d29f4fcd654c10d1bd9ad35fcd533cd8f73a8fe0d779a4cf8670bf86c1", func := "ravel/ravellaw17.IdleDoes", spec := "idleDoes", unfollowed := true, recurses := true, apart := false, narrowed := true }
def IdleDoesUptoSaid : Prop := idleDoesUptoRow.holds Try.pinned (OpenSpec.upto idleDoesSpec)

/-- 'ravellaw16.PickDoes', WHERE WHAT IT READS IS OF BULK AT MOST 1048576: true; the input reads as it did. -/
def pickDoesUptoRow : OpenClaim := { program := "ytdalnaegjclacaa", sum := "6db323d29f4fcd654c10d1bd9ad35fcd533cd8f73a8fe0d779a4cf8670bf86c1", func := "ravel/ravellaw16.PickDoes", spec := "pickDoes", unfollowed := true, recurses := true, apart := false, narrowed := true }
def PickDoesUptoSaid : Prop := pickDoesUptoRow.holds Try.pinned (OpenSpec.upto pickDoesSpec)

end Rows
end Go.Proofs.Ytdalnaegjclacaa
