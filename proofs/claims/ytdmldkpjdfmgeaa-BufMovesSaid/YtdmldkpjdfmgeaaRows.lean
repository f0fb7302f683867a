/-
  No cell of these rows narrows 'for every input' (looked for: loops, veiled, ifaces, maps, wideKeys, modest, calm, conditions, laid).
  DERIVED. THE GIVEN ROWS OF THIS SEAT. 3 by the template 'for every input the law returns true; each argument reads behind the call as it read before'; 0 by the template 'total and deterministic' (their statements: YtdmldkpjdfmgeaaTotals.lean).
  GIVEN WITH THE SEED: the statements are not yours to turn. If you find one false, say at which input.
  Laid BY PROGRAM, IN A SANDBOX (cutbox-rows.mjs): the forced cells as the released guide's own fill.sh prints them over the translation c2903e39367ae715… (all of the seat's roots in one cut). By AI agents, Wed Nov 11 2026. No macro, syntax, notation, axiom, sorry.
-/
import Derived.Test.YtdmldkpjdfmgeaaChecked
import GoSem.Claim
import GoSem.ClaimJoined
import GoSem.ClaimMapViews
import Derived.JoinedTies
import Derived.KernelRfl
namespace Go.Proofs.Ytdmldkpjdfmgeaa
/- THE CELL 'sum', in the pinned program and in every row, IS THE sha256 OF THE DUMP (.gsa) THAT YtdmldkpjdfmgeaaProg.lean LOADS. Nothing in Lean hashes anything: it is a label: what it is worth is what the hold of that sum in a sandbox is worth. -/
noncomputable def Try.pinned : Pinned := { name := "ytdmldkpjdfmgeaa", sum := "c2903e39367ae715fa53d0d83167cfea6fd9a411bbd792764be04febced614c6", checked := Try.checked }
namespace Rows
def none {H : Type} : Left H := { results := [], args := [] }

/-- 'emendatorlaw13.BufEmpty': WHATEVER THE INPUT: true; the input reads as it did. -/
def bufEmptySpec : ChangeSpec := { name := "bufEmpty", fn := fun _ => fun
  | [d] => { results := [.lit (.bool true)], args := [d] }
  | _ => none }
def bufEmptyRow : OpenClaim := { program := "ytdmldkpjdfmgeaa", sum := "c2903e39367ae715fa53d0d83167cfea6fd9a411bbd792764be04febced614c6", func := "emendator/emendatorlaw13.BufEmpty", spec := "bufEmpty", inPlace := ["slices.overlaps[string]", "slices.overlaps[int]", "maps.clone"], unfollowed := true, recurses := true, apart := false }
def BufEmptySaid : Prop := bufEmptyRow.holds Try.pinned (OpenSpec.ofChange bufEmptySpec)

/-- ITS FALSE NEIGHBOUR: 'it returns false'. Refute it at one input. -/
def bufEmptyWrong : ChangeSpec := { name := "bufEmpty", fn := fun _ => fun
  | [d] => { results := [.lit (.bool false)], args := [d] }
  | _ => none }
def BufEmptyWrongFalsely : Prop := bufEmptyRow.holds Try.pinned (OpenSpec.ofChange bufEmptyWrong)

/-- 'emendatorlaw13.BufMarks': WHATEVER THE INPUT: true; the input reads as it did. -/
def bufMarksSpec : ChangeSpec := { name := "bufMarks", fn := fun _ => fun
  | [d1, d2, d3] => { results := [.lit (.bool true)], args := [d1, d2, d3] }
  | _ => none }
def bufMarksRow : OpenClaim := { program := "ytdmldkpjdfmgeaa", sum := "c2903e39367ae715fa53d0d83167cfea6fd9a411bbd792764be04febced614c6", func := "emendator/emendatorlaw13.BufMarks", spec := "bufMarks", inPlace := ["slices.overlaps[string]", "slices.overlaps[int]", "maps.clone"], unfollowed := true, recurses := true, apart := false }
def BufMarksSaid : Prop := bufMarksRow.holds Try.pinned (OpenSpec.ofChange bufMarksSpec)

/-- ITS FALSE NEIGHBOUR: 'it returns false'. Refute it at one input. -/
def bufMarksWrong : ChangeSpec := { name := "bufMarks", fn := fun _ => fun
  | [d1, d2, d3] => { results := [.lit (.bool false)], args := [d1, d2, d3] }
  | _ => none }
def BufMarksWrongFalsely : Prop := bufMarksRow.holds Try.pinned (OpenSpec.ofChange bufMarksWrong)

/-- 'emendatorlaw13.BufMoves': WHATEVER THE INPUT: true; the input reads as it did. -/
def bufMovesSpec : ChangeSpec := { name := "bufMoves", fn := fun _ => fun
  | [d1, d2, d3, d4] => { results := [.lit (.bool true)], args := [d1, d2, d3, d4] }
  | _ => none }
def bufMovesRow : OpenClaim := { program := "ytdmldkpjdfmgeaa", sum := "c2903e39367ae715fa53d0d83167cfea6fd9a411bbd792764be04febced614c6", func := "emendator/emendatorlaw13.BufMoves", spec := "bufMoves", inPlace := ["slices.overlaps[string]", "slices.overlaps[int]", "maps.clone"], unfollowed := true, recurses := true, apart := false }
def BufMovesSaid : Prop := bufMovesRow.holds Try.pinned (OpenSpec.ofChange bufMovesSpec)

/-- ITS FALSE NEIGHBOUR: 'it returns false'. Refute it at one input. -/
def bufMovesWrong : ChangeSpec := { name := "bufMoves", fn := fun _ => fun
  | [d1, d2, d3, d4] => { results := [.lit (.bool false)], args := [d1, d2, d3, d4] }
  | _ => none }
def BufMovesWrongFalsely : Prop := bufMovesRow.holds Try.pinned (OpenSpec.ofChange bufMovesWrong)

/- THE SECOND FORM. 'bulk': how many values and letters a reading holds, each counted each time it is reached (what is shared counts as often as it is met; a slice's spare places count too). A statement '..UptoSaid' is the law's where the arguments, and the package variables that the reading takes, are together of bulk at most 1048576: NARROWER than '..Said'. Prove '..Said' where nothing that the law and all that it calls make is longer than what came in: it says more and counts as full. Else prove '..UptoSaid'. A law counts once. -/
mutual
def uptoBulk {H : Type} : DataW H → Nat
  | .lit (.string bytes) => bytes.length + 1
  | .lit _ => 1
  | .nil => 1
  | .ptr d => uptoBulk d + 1
  | .slice elems spare => uptoBulkAll elems + uptoBulkAll spare + 1
  | .agg parts => uptoBulkAll parts + 1
  | .iface _ d => uptoBulk d + 1
  | .map entries => uptoBulkEntries entries + 1
  | .held _ => 1
def uptoBulkAll {H : Type} : List (DataW H) → Nat
  | [] => 0
  | d :: r => uptoBulk d + uptoBulkAll r
def uptoBulkEntries {H : Type} : List (Lit × DataW H) → Nat
  | [] => 0
  | x :: r => uptoBulkEntry x + uptoBulkEntries r
def uptoBulkEntry {H : Type} : Lit × DataW H → Nat
  | (.string bytes, d) => bytes.length + uptoBulk d + 1
  | (_, d) => uptoBulk d + 1
 end
def uptoSmall : (H : Type) → List (DataW H) → Bool := fun _ ds => decide (uptoBulkAll ds ≤ 1048576)
def OpenSpec.upto (s : _root_.Go.ChangeSpec) : _root_.Go.OpenSpec := { _root_.Go.OpenSpec.ofChange s with cond := some uptoSmall }

/-- 'emendatorlaw13.BufEmpty', WHERE WHAT IT READS IS OF BULK AT MOST 1048576: true; the input reads as it did. -/
def bufEmptyUptoRow : OpenClaim := { program := "ytdmldkpjdfmgeaa", sum := "c2903e39367ae715fa53d0d83167cfea6fd9a411bbd792764be04febced614c6", func := "emendator/emendatorlaw13.BufEmpty", spec := "bufEmpty", inPlace := ["slices.overlaps[string]", "slices.overlaps[int]", "maps.clone"], unfollowed := true, recurses := true, apart := false, narrowed := true }
def BufEmptyUptoSaid : Prop := bufEmptyUptoRow.holds Try.pinned (OpenSpec.upto bufEmptySpec)

/-- 'emendatorlaw13.BufMarks', WHERE WHAT IT READS IS OF BULK AT MOST 1048576: true; the input reads as it did. -/
def bufMarksUptoRow : OpenClaim := { program := "ytdmldkpjdfmgeaa", sum := "c2903e39367ae715fa53d0d83167cfea6fd9a411bbd792764be04febced614c6", func := "emendator/emendatorlaw13.BufMarks", spec := "bufMarks", inPlace := ["slices.overlaps[string]", "slices.overlaps[int]", "maps.clone"], unfollowed := true, recurses := true, apart := false, narrowed := true }
def BufMarksUptoSaid : Prop := bufMarksUptoRow.holds Try.pinned (OpenSpec.upto bufMarksSpec)

/-- 'emendatorlaw13.BufMoves', WHERE WHAT IT READS IS OF BULK AT MOST 1048576: true; the input reads as it did. -/
def bufMovesUptoRow : OpenClaim := { program := "ytdmldkpjdfmgeaa", sum := "c2903e39367ae715fa53d0d83167cfea6fd9a411bbd792764be04febced614c6", func := "emendator/emendatorlaw13.BufMoves", spec := "bufMoves", inPlace := ["slices.overlaps[string]", "slices.overlaps[int]", "maps.clone"], unfollowed := true, recurses := true, apart := false, narrowed := true }
def BufMovesUptoSaid : Prop := bufMovesUptoRow.holds Try.pinned (OpenSpec.upto bufMovesSpec)

end Rows
end Go.Proofs.Ytdmldkpjdfmgeaa
