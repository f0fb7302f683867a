/-
  NARROWER THAN 'FOR EVERY INPUT', by the rows' own cells (each row's printed sentence says how): AddrOffs: laid · AddrSplits: laid · AddrMarks: laid.
  DERIVED. THE GIVEN ROWS OF THIS SEAT. 3 by the template 'for every input the law returns true; each argument reads behind the call as it read before'; 0 by the template 'total and deterministic' (their statements: YtiddfimaenjdcaaGreatDoorTotals.lean).
  GIVEN WITH THE SEED: the statements are not yours to turn. If you find one false, say at which input.
  Laid BY PROGRAM, IN A SANDBOX (cutbox-rows.mjs): the forced cells as the released guide's own fill.sh prints them over the translation 902627dcc411828f… (all of the seat's roots in one cut). By AI agents, Wed Nov 11 2026. No macro, syntax, notation, axiom, sorry.
-/
import Derived.Test.YtiddfimaenjdcaaGreatDoorChecked
import GoSem.PinnedTables
import GoSem.Claim
import GoSem.ClaimJoined
import GoSem.ClaimMapViews
import Derived.JoinedTies
import Derived.KernelRfl
namespace Go.Proofs.YtiddfimaenjdcaaGreatDoor
/- THE CELL 'sum', in the pinned program and in every row, IS THE sha256 OF THE DUMP (.gsa) THAT YtiddfimaenjdcaaGreatDoorProg.lean LOADS. Nothing in Lean hashes anything: it is a label: what it is worth is what the hold of that sum in a sandbox is worth. -/
noncomputable def Tryz.pinned : Pinned := { name := "ytiddfimaenjdcaagreatdoor", sum := "902627dcc411828fe78b2acb855101aa3f6500ec90d0467a00dd8ddc45aed652", checked := Tryz.checked }
namespace Rows
def none {H : Type} : Left H := { results := [], args := [] }

/- WHAT THE LISTED PACKAGE-LEVEL VARIABLES READ AS WHEN THE CALL BEGINS. Each datum BY PROGRAM (the guide's laid-datum.mjs) off the statement by which the dump's own 'gosem.cut.vars' lays the variable. In a bare row this is a premise. The card (YtiddfimaenjdcaaGreatDoorCards.lean) ties it to the program's text. -/
def laid_unicode_utf8_acceptRanges {H : Type} : DataW H := .agg [.agg [.lit (.int .u8 128), .lit (.int .u8 191)], .agg [.lit (.int .u8 160), .lit (.int .u8 191)], .agg [.lit (.int .u8 128), .lit (.int .u8 159)], .agg [.lit (.int .u8 144), .lit (.int .u8 191)], .agg [.lit (.int .u8 128), .lit (.int .u8 143)], .agg [.lit (.int .u8 0), .lit (.int .u8 0)], .agg [.lit (.int .u8 0), .lit (.int .u8 0)], .agg [.lit (.int .u8 0), .lit (.int .u8 0)], .agg [.lit (.int .u8 0), .lit (.int .u8 0)], .agg [.lit (.int .u8 0), .lit (.int .u8 0)], .agg [.lit (.int .u8 0), .lit (.int .u8 0)], .agg [.lit (.int .u8 0), .lit (.int .u8 0)], .agg [.lit (.int .u8 0), .lit (.int .u8 0)], .agg [.lit (.int .u8 0), .lit (.int .u8 0)], .agg [.lit (.int .u8 0), .lit (.int .u8 0)], .agg [.lit (.int .u8 0), .lit (.int .u8 0)]]
/-- One of Go's own tables, pinned by name: the form's constant. -/
def laid_unicode_utf8_first : DataW Unit := Go.Pinned.utf8First

/-- 'emendatorlaw14.AddrOffs': WHATEVER THE INPUT: true; the input reads as it did. -/
def addrOffsSpec : ChangeSpec := { name := "addrOffs", fn := fun _ => fun
  | [d1, d2, d3] => { results := [.lit (.bool true)], args := [d1, d2, d3] }
  | _ => none }
def addrOffsRow : OpenClaim := { program := "ytiddfimaenjdcaagreatdoor", sum := "902627dcc411828fe78b2acb855101aa3f6500ec90d0467a00dd8ddc45aed652", func := "emendator/emendatorlaw14.AddrOffs", spec := "addrOffs", inPlace := ["slices.overlaps[string]", "slices.overlaps[int]", "maps.clone", "internal/bytealg.IndexByteString", "internal/bytealg.IndexString", "internal/abi.NoEscape"], unfollowed := true, recurses := true, named := ["unicode/utf8.first", "unicode/utf8.acceptRanges", "internal/bytealg.MaxLen"], apart := false, laid := [("unicode/utf8.acceptRanges", laid_unicode_utf8_acceptRanges), ("unicode/utf8.first", laid_unicode_utf8_first)] }
def AddrOffsSaid : Prop := addrOffsRow.holds Tryz.pinned (OpenSpec.ofChange addrOffsSpec)

/-- ITS FALSE NEIGHBOUR: 'it returns false'. Refute it at one input. -/
def addrOffsWrong : ChangeSpec := { name := "addrOffs", fn := fun _ => fun
  | [d1, d2, d3] => { results := [.lit (.bool false)], args := [d1, d2, d3] }
  | _ => none }
def AddrOffsWrongFalsely : Prop := addrOffsRow.holds Tryz.pinned (OpenSpec.ofChange addrOffsWrong)

/-- 'emendatorlaw14.AddrSplits': WHATEVER THE INPUT: true; the input reads as it did. -/
def addrSplitsSpec : ChangeSpec := { name := "addrSplits", fn := fun _ => fun
  | [d1, d2] => { results := [.lit (.bool true)], args := [d1, d2] }
  | _ => none }
def addrSplitsRow : OpenClaim := { program := "ytiddfimaenjdcaagreatdoor", sum := "902627dcc411828fe78b2acb855101aa3f6500ec90d0467a00dd8ddc45aed652", func := "emendator/emendatorlaw14.AddrSplits", spec := "addrSplits", inPlace := ["internal/bytealg.IndexByteString", "internal/bytealg.IndexString", "internal/abi.NoEscape", "slices.overlaps[string]", "slices.overlaps[int]", "maps.clone"], unfollowed := true, recurses := true, named := ["unicode/utf8.first", "unicode/utf8.acceptRanges", "internal/bytealg.MaxLen"], apart := false, laid := [("unicode/utf8.acceptRanges", laid_unicode_utf8_acceptRanges), ("unicode/utf8.first", laid_unicode_utf8_first)] }
def AddrSplitsSaid : Prop := addrSplitsRow.holds Tryz.pinned (OpenSpec.ofChange addrSplitsSpec)

/-- ITS FALSE NEIGHBOUR: 'it returns false'. Refute it at one input. -/
def addrSplitsWrong : ChangeSpec := { name := "addrSplits", fn := fun _ => fun
  | [d1, d2] => { results := [.lit (.bool false)], args := [d1, d2] }
  | _ => none }
def AddrSplitsWrongFalsely : Prop := addrSplitsRow.holds Tryz.pinned (OpenSpec.ofChange addrSplitsWrong)

/-- 'emendatorlaw14.AddrMarks': WHATEVER THE INPUT: true; the input reads as it did. -/
def addrMarksSpec : ChangeSpec := { name := "addrMarks", fn := fun _ => fun
  | [d1, d2, d3] => { results := [.lit (.bool true)], args := [d1, d2, d3] }
  | _ => none }
def addrMarksRow : OpenClaim := { program := "ytiddfimaenjdcaagreatdoor", sum := "902627dcc411828fe78b2acb855101aa3f6500ec90d0467a00dd8ddc45aed652", func := "emendator/emendatorlaw14.AddrMarks", spec := "addrMarks", inPlace := ["slices.overlaps[string]", "slices.overlaps[int]", "maps.clone", "internal/bytealg.IndexByteString", "internal/bytealg.IndexString", "internal/abi.NoEscape"], unfollowed := true, recurses := true, named := ["unicode/utf8.first", "unicode/utf8.acceptRanges", "internal/bytealg.MaxLen"], apart := false, laid := [("unicode/utf8.acceptRanges", laid_unicode_utf8_acceptRanges), ("unicode/utf8.first", laid_unicode_utf8_first)] }
def AddrMarksSaid : Prop := addrMarksRow.holds Tryz.pinned (OpenSpec.ofChange addrMarksSpec)

/-- ITS FALSE NEIGHBOUR: 'it returns false'. Refute it at one input. -/
def addrMarksWrong : ChangeSpec := { name := "addrMarks", fn := fun _ => fun
  | [d1, d2, d3] => { results := [.lit (.bool false)], args := [d1, d2, d3] }
  | _ => none }
def AddrMarksWrongFalsely : Prop := addrMarksRow.holds Tryz.pinned (OpenSpec.ofChange addrMarksWrong)

/- THE SECOND FORM. 'bulk': how many values and letters a reading holds, each counted each time it is reached (what is shared counts as often as it is met; a slice's spare places count too). A statement '..UptoSaid' is the law's where the arguments, and the package variables that the reading takes, are together of bulk at most 1048576: NARROWER than '..Said'. Prove '..Said' where nothing that the law and all that it calls make is longer than what came in: it says more and counts as full. Else prove '..UptoSaid'. A law counts once. -/
mutual
def uptoBulk {H : Type} : DataW H → Nat
  | .lit (.string bytes) => bytes.length + 1
  | .lit _ => 1
  | .nil => 1
  | .ptr d => uptoBulk d + 1
  | .slice elems spare => uptoBulkAll elems + uptoBulkAll spare + 1
  | .agg parts => uptoBulkAll parts + 1
  | .iface _ d => uptoBulk d + 1
  | .map entries => uptoBulkEntries entries + 1
  | .held _ => 1
def uptoBulkAll {H : Type} : List (DataW H) → Nat
  | [] => 0
  | d :: r => uptoBulk d + uptoBulkAll r
def uptoBulkEntries {H : Type} : List (Lit × DataW H) → Nat
  | [] => 0
  | x :: r => uptoBulkEntry x + uptoBulkEntries r
def uptoBulkEntry {H : Type} : Lit × DataW H → Nat
  | (.string bytes, d) => bytes.length + uptoBulk d + 1
  | (_, d) => uptoBulk d + 1
 end
def uptoSmall : (H : Type) → List (DataW H) → Bool := fun _ ds => decide (uptoBulkAll ds ≤ 1048576)
def OpenSpec.upto (s : _root_.Go.ChangeSpec) : _root_.Go.OpenSpec := { _root_.Go.OpenSpec.ofChange s with cond := some uptoSmall }

/-- 'emendatorlaw14.AddrOffs', WHERE WHAT IT READS IS OF BULK AT MOST 1048576: true; the input reads as it did. -/
def addrOffsUptoRow : OpenClaim := { program := "ytiddfimaenjdcaagreatdoor", sum := "902627dcc411828fe78b2acb855101aa3f6500ec90d0467a00dd8ddc45aed652", func := "emendator/emendatorlaw14.AddrOffs", spec := "addrOffs", inPlace := ["slices.overlaps[string]", "slices.overlaps[int]", "maps.clone", "internal/bytealg.IndexByteString", "internal/bytealg.IndexString", "internal/abi.NoEscape"], unfollowed := true, recurses := true, named := ["unicode/utf8.first", "unicode/utf8.acceptRanges", "internal/bytealg.MaxLen"], apart := false, laid := [("unicode/utf8.acceptRanges", laid_unicode_utf8_acceptRanges), ("unicode/utf8.first", laid_unicode_utf8_first)], narrowed := true }
def AddrOffsUptoSaid : Prop := addrOffsUptoRow.holds Tryz.pinned (OpenSpec.upto addrOffsSpec)

/-- 'emendatorlaw14.AddrSplits', WHERE WHAT IT READS IS OF BULK AT MOST 1048576: true; the input reads as it did. -/
def addrSplitsUptoRow : OpenClaim := { program := "ytiddfimaenjdcaagreatdoor", sum := "902627dcc411828fe78b2acb855101aa3f6500ec90d0467a00dd8ddc45aed652", func := "emendator/emendatorlaw14.AddrSplits", spec := "addrSplits", inPlace := ["internal/bytealg.IndexByteString", "internal/bytealg.IndexString", "internal/abi.NoEscape", "slices.overlaps[string]", "slices.overlaps[int]", "maps.clone"], unfollowed := true, recurses := true, named := ["unicode/utf8.first", "unicode/utf8.acceptRanges", "internal/bytealg.MaxLen"], apart := false, laid := [("unicode/utf8.acceptRanges", laid_unicode_utf8_acceptRanges), ("unicode/utf8.first", laid_unicode_utf8_first)], narrowed := true }
def AddrSplitsUptoSaid : Prop := addrSplitsUptoRow.holds Tryz.pinned (OpenSpec.upto addrSplitsSpec)

/-- 'emendatorlaw14.AddrMarks', WHERE WHAT IT READS IS OF BULK AT MOST 1048576: true; the input reads as it did. -/
def addrMarksUptoRow : OpenClaim := { program := "ytiddfimaenjdcaagreatdoor", sum := "902627dcc411828fe78b2acb855101aa3f6500ec90d0467a00dd8ddc45aed652", func := "emendator/emendatorlaw14.AddrMarks", spec := "addrMarks", inPlace := ["slices.overlaps[string]", "slices.overlaps[int]", "maps.clone", "internal/bytealg.IndexByteString", "internal/bytealg.IndexString", "internal/abi.NoEscape"], unfollowed := true, recurses := true, named := ["unicode/utf8.first", "unicode/utf8.acceptRanges", "internal/bytealg.MaxLen"], apart := false, laid := [("unicode/utf8.acceptRanges", laid_unicode_utf8_acceptRanges), ("unicode/utf8.first", laid_unicode_utf8_first)], narrowed := true }
def AddrMarksUptoSaid : Prop := addrMarksUptoRow.holds Tryz.pinned (OpenSpec.upto addrMarksSpec)

end Rows
end Go.Proofs.YtiddfimaenjdcaaGreatDoor
