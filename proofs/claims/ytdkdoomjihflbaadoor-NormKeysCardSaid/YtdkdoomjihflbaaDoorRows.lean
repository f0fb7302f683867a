/-
  NARROWER THAN 'FOR EVERY INPUT', by the rows' own cells (each row's printed sentence says how): NormParses: laid · NormKeys: laid · EditJoins: laid · EditShifts: laid.
  DERIVED. THE GIVEN ROWS OF THIS SEAT. 4 by the template 'for every input the law returns true; each argument reads behind the call as it read before'; 0 by the template 'total and deterministic' (their statements: YtdkdoomjihflbaaDoorTotals.lean).
  GIVEN WITH THE SEED: the statements are not yours to turn. If you find one false, say at which input.
  Laid BY PROGRAM, IN A SANDBOX (cutbox-rows.mjs): the forced cells as the released guide's own fill.sh prints them over the translation 78a4d0184c471567… (all of the seat's roots in one cut). By AI agents, Wed Nov 11 2026. No macro, syntax, notation, axiom, sorry.
-/
import Derived.Test.YtdkdoomjihflbaaDoorChecked
import GoSem.PinnedTables
import GoSem.Claim
import GoSem.ClaimJoined
import GoSem.ClaimMapViews
import Derived.JoinedTies
import Derived.KernelRfl
namespace Go.Proofs.YtdkdoomjihflbaaDoor
/- THE CELL 'sum', in the pinned program and in every row, IS THE sha256 OF THE DUMP (.gsa) THAT YtdkdoomjihflbaaDoorProg.lean LOADS. Nothing in Lean hashes anything: it is a label: what it is worth is what the hold of that sum in a sandbox is worth. -/
noncomputable def Tryd.pinned : Pinned := { name := "ytdkdoomjihflbaadoor", sum := "78a4d0184c471567a1e3ae0a1a6a88964243f8c0eb6e57623aac57c2dabbc4f1", checked := Tryd.checked }
namespace Rows
def none {H : Type} : Left H := { results := [], args := [] }

/- WHAT THE LISTED PACKAGE-LEVEL VARIABLES READ AS WHEN THE CALL BEGINS. Each datum BY PROGRAM (the guide's laid-datum.mjs) off the statement by which the dump's own 'gosem.cut.vars' lays the variable. In a bare row this is a premise. The card (YtdkdoomjihflbaaDoorCards.lean) ties it to the program's text. -/
def laid_unicode_utf8_acceptRanges {H : Type} : DataW H := .agg [.agg [.lit (.int .u8 128), .lit (.int .u8 191)], .agg [.lit (.int .u8 160), .lit (.int .u8 191)], .agg [.lit (.int .u8 128), .lit (.int .u8 159)], .agg [.lit (.int .u8 144), .lit (.int .u8 191)], .agg [.lit (.int .u8 128), .lit (.int .u8 143)], .agg [.lit (.int .u8 0), .lit (.int .u8 0)], .agg [.lit (.int .u8 0), .lit (.int .u8 0)], .agg [.lit (.int .u8 0), .lit (.int .u8 0)], .agg [.lit (.int .u8 0), .lit (.int .u8 0)], .agg [.lit (.int .u8 0), .lit (.int .u8 0)], .agg [.lit (.int .u8 0), .lit (.int .u8 0)], .agg [.lit (.int .u8 0), .lit (.int .u8 0)], .agg [.lit (.int .u8 0), .lit (.int .u8 0)], .agg [.lit (.int .u8 0), .lit (.int .u8 0)], .agg [.lit (.int .u8 0), .lit (.int .u8 0)], .agg [.lit (.int .u8 0), .lit (.int .u8 0)]]
/-- One of Go's own tables, pinned by name: the form's constant. -/
def laid_unicode_utf8_first : DataW Unit := Go.Pinned.utf8First

/-- 'emendatorlaw19.NormParses': WHATEVER THE INPUT: true; the input reads as it did. -/
def normParsesSpec : ChangeSpec := { name := "normParses", fn := fun _ => fun
  | [d] => { results := [.lit (.bool true)], args := [d] }
  | _ => none }
def normParsesRow : OpenClaim := { program := "ytdkdoomjihflbaadoor", sum := "78a4d0184c471567a1e3ae0a1a6a88964243f8c0eb6e57623aac57c2dabbc4f1", func := "emendator/emendatorlaw19.NormParses", spec := "normParses", inPlace := ["internal/bytealg.IndexByteString", "internal/bytealg.IndexString"], named := ["unicode/utf8.first", "unicode/utf8.acceptRanges", "internal/bytealg.MaxLen"], apart := false, laid := [("unicode/utf8.acceptRanges", laid_unicode_utf8_acceptRanges), ("unicode/utf8.first", laid_unicode_utf8_first)] }
def NormParsesSaid : Prop := normParsesRow.holds Tryd.pinned (OpenSpec.ofChange normParsesSpec)

/-- ITS FALSE NEIGHBOUR: 'it returns false'. Refute it at one input. -/
def normParsesWrong : ChangeSpec := { name := "normParses", fn := fun _ => fun
  | [d] => { results := [.lit (.bool false)], args := [d] }
  | _ => none }
def NormParsesWrongFalsely : Prop := normParsesRow.holds Tryd.pinned (OpenSpec.ofChange normParsesWrong)

/-- 'emendatorlaw19.NormKeys': WHATEVER THE INPUT: true; the input reads as it did. -/
def normKeysSpec : ChangeSpec := { name := "normKeys", fn := fun _ => fun
  | [d1, d2] => { results := [.lit (.bool true)], args := [d1, d2] }
  | _ => none }
def normKeysRow : OpenClaim := { program := "ytdkdoomjihflbaadoor", sum := "78a4d0184c471567a1e3ae0a1a6a88964243f8c0eb6e57623aac57c2dabbc4f1", func := "emendator/emendatorlaw19.NormKeys", spec := "normKeys", inPlace := ["internal/bytealg.IndexByteString", "internal/bytealg.IndexString"], named := ["unicode/utf8.first", "unicode/utf8.acceptRanges", "internal/bytealg.MaxLen"], apart := false, laid := [("unicode/utf8.acceptRanges", laid_unicode_utf8_acceptRanges), ("unicode/utf8.first", laid_unicode_utf8_first)] }
def NormKeysSaid : Prop := normKeysRow.holds Tryd.pinned (OpenSpec.ofChange normKeysSpec)

/-- ITS FALSE NEIGHBOUR: 'it returns false'. Refute it at one input. -/
def normKeysWrong : ChangeSpec := { name := "normKeys", fn := fun _ => fun
  | [d1, d2] => { results := [.lit (.bool false)], args := [d1, d2] }
  | _ => none }
def NormKeysWrongFalsely : Prop := normKeysRow.holds Tryd.pinned (OpenSpec.ofChange normKeysWrong)

/-- 'emendatorlaw16.EditJoins': WHATEVER THE INPUT: true; the input reads as it did. -/
def editJoinsSpec : ChangeSpec := { name := "editJoins", fn := fun _ => fun
  | [d1, d2, d3, d4, d5] => { results := [.lit (.bool true)], args := [d1, d2, d3, d4, d5] }
  | _ => none }
def editJoinsRow : OpenClaim := { program := "ytdkdoomjihflbaadoor", sum := "78a4d0184c471567a1e3ae0a1a6a88964243f8c0eb6e57623aac57c2dabbc4f1", func := "emendator/emendatorlaw16.EditJoins", spec := "editJoins", inPlace := ["internal/bytealg.IndexByteString", "internal/bytealg.IndexString", "internal/abi.NoEscape", "internal/bytealg.MakeNoZero"], named := ["unicode/utf8.first", "unicode/utf8.acceptRanges", "internal/bytealg.MaxLen"], apart := false, laid := [("unicode/utf8.acceptRanges", laid_unicode_utf8_acceptRanges), ("unicode/utf8.first", laid_unicode_utf8_first)] }
def EditJoinsSaid : Prop := editJoinsRow.holds Tryd.pinned (OpenSpec.ofChange editJoinsSpec)

/-- ITS FALSE NEIGHBOUR: 'it returns false'. Refute it at one input. -/
def editJoinsWrong : ChangeSpec := { name := "editJoins", fn := fun _ => fun
  | [d1, d2, d3, d4, d5] => { results := [.lit (.bool false)], args := [d1, d2, d3, d4, d5] }
  | _ => none }
def EditJoinsWrongFalsely : Prop := editJoinsRow.holds Tryd.pinned (OpenSpec.ofChange editJoinsWrong)

/-- 'emendatorlaw16.EditShifts': WHATEVER THE INPUT: true; the input reads as it did. -/
def editShiftsSpec : ChangeSpec := { name := "editShifts", fn := fun _ => fun
  | [d1, d2] => { results := [.lit (.bool true)], args := [d1, d2] }
  | _ => none }
def editShiftsRow : OpenClaim := { program := "ytdkdoomjihflbaadoor", sum := "78a4d0184c471567a1e3ae0a1a6a88964243f8c0eb6e57623aac57c2dabbc4f1", func := "emendator/emendatorlaw16.EditShifts", spec := "editShifts", inPlace := ["internal/bytealg.IndexByteString", "internal/bytealg.IndexString", "internal/abi.NoEscape", "internal/bytealg.MakeNoZero"], named := ["unicode/utf8.first", "unicode/utf8.acceptRanges", "internal/bytealg.MaxLen"], apart := false, laid := [("unicode/utf8.acceptRanges", laid_unicode_utf8_acceptRanges), ("unicode/utf8.first", laid_unicode_utf8_first)] }
def EditShiftsSaid : Prop := editShiftsRow.holds Tryd.pinned (OpenSpec.ofChange editShiftsSpec)

/-- ITS FALSE NEIGHBOUR: 'it returns false'. Refute it at one input. -/
def editShiftsWrong : ChangeSpec := { name := "editShifts", fn := fun _ => fun
  | [d1, d2] => { results := [.lit (.bool false)], args := [d1, d2] }
  | _ => none }
def EditShiftsWrongFalsely : Prop := editShiftsRow.holds Tryd.pinned (OpenSpec.ofChange editShiftsWrong)

/- THE SECOND FORM. 'bulk': how many values and letters a reading holds, each counted each time it is reached (what is shared counts as often as it is met; a slice's spare places count too). A statement '..UptoSaid' is the law's where the arguments, and the package variables that the reading takes, are together of bulk at most 1048576: NARROWER than '..Said'. Prove '..Said' where nothing that the law and all that it calls make is longer than what came in: it says more and counts as full. Else prove '..UptoSaid'. A law counts once. -/
mutual
def uptoBulk {H : Type} : DataW H → Nat
  | .lit (.string bytes) => bytes.length + 1
  | .lit _ => 1
  | .nil => 1
  | .ptr d => uptoBulk d + 1
  | .slice elems spare => uptoBulkAll elems + uptoBulkAll spare + 1
  | .agg parts => uptoBulkAll parts + 1
  | .iface _ d => uptoBulk d + 1
  | .map entries => uptoBulkEntries entries + 1
  | .held _ => 1
def uptoBulkAll {H : Type} : List (DataW H) → Nat
  | [] => 0
  | d :: r => uptoBulk d + uptoBulkAll r
def uptoBulkEntries {H : Type} : List (Lit × DataW H) → Nat
  | [] => 0
  | x :: r => uptoBulkEntry x + uptoBulkEntries r
def uptoBulkEntry {H : Type} : Lit × DataW H → Nat
  | (.string bytes, d) => bytes.length + uptoBulk d + 1
  | (_, d) => uptoBulk d + 1
 end
def uptoSmall : (H : Type) → List (DataW H) → Bool := fun _ ds => decide (uptoBulkAll ds ≤ 1048576)
def OpenSpec.upto (s : _root_.Go.ChangeSpec) : _root_.Go.OpenSpec := { _root_.Go.OpenSpec.ofChange s with cond := some uptoSmall }

/-- 'emendatorlaw19.NormParses', WHERE WHAT IT READS IS OF BULK AT MOST 1048576: true; the input reads as it did. -/
def normParsesUptoRow : OpenClaim := { program := "ytdkdoomjihflbaadoor", sum := "78a4d0184c471567a1e3ae0a1a6a88964243f8c0eb6e57623aac57c2dabbc4f1", func := "emendator/emendatorlaw19.NormParses", spec := "normParses", inPlace := ["internal/bytealg.IndexByteString", "internal/bytealg.IndexString"], named := ["unicode/utf8.first", "unicode/utf8.acceptRanges", "internal/bytealg.MaxLen"], apart := false, laid := [("unicode/utf8.acceptRanges", laid_unicode_utf8_acceptRanges), ("unicode/utf8.first", laid_unicode_utf8_first)], narrowed := true }
def NormParsesUptoSaid : Prop := normParsesUptoRow.holds Tryd.pinned (OpenSpec.upto normParsesSpec)

/-- 'emendatorlaw19.NormKeys', WHERE WHAT IT READS IS OF BULK AT MOST 1048576: true; the input reads as it did. -/
def normKeysUptoRow : OpenClaim := { program := "ytdkdoomjihflbaadoor", sum := "78a4d0184c471567a1e3ae0a1a6a88964243f8c0eb6e57623aac57c2dabbc4f1", func := "emendator/emendatorlaw19.NormKeys", spec := "normKeys", inPlace := ["internal/bytealg.IndexByteString", "internal/bytealg.IndexString"], named := ["unicode/utf8.first", "unicode/utf8.acceptRanges", "internal/bytealg.MaxLen"], apart := false, laid := [("unicode/utf8.acceptRanges", laid_unicode_utf8_acceptRanges), ("unicode/utf8.first", laid_unicode_utf8_first)], narrowed := true }
def NormKeysUptoSaid : Prop := normKeysUptoRow.holds Tryd.pinned (OpenSpec.upto normKeysSpec)

/-- 'emendatorlaw16.EditJoins', WHERE WHAT IT READS IS OF BULK AT MOST 1048576: true; the input reads as it did. -/
def editJoinsUptoRow : OpenClaim := { program := "ytdkdoomjihflbaadoor", sum := "78a4d0184c471567a1e3ae0a1a6a88964243f8c0eb6e57623aac57c2dabbc4f1", func := "emendator/emendatorlaw16.EditJoins", spec := "editJoins", inPlace := ["internal/bytealg.IndexByteString", "internal/bytealg.IndexString", "internal/abi.NoEscape", "internal/bytealg.MakeNoZero"], named := ["unicode/utf8.first", "unicode/utf8.acceptRanges", "internal/bytealg.MaxLen"], apart := false, laid := [("unicode/utf8.acceptRanges", laid_unicode_utf8_acceptRanges), ("unicode/utf8.first", laid_unicode_utf8_first)], narrowed := true }
def EditJoinsUptoSaid : Prop := editJoinsUptoRow.holds Tryd.pinned (OpenSpec.upto editJoinsSpec)

/-- 'emendatorlaw16.EditShifts', WHERE WHAT IT READS IS OF BULK AT MOST 1048576: true; the input reads as it did. -/
def editShiftsUptoRow : OpenClaim := { program := "ytdkdoomjihflbaadoor", sum := "78a4d0184c471567a1e3ae0a1a6a88964243f8c0eb6e57623aac57c2dabbc4f1", func := "emendator/emendatorlaw16.EditShifts", spec := "editShifts", inPlace := ["internal/bytealg.IndexByteString", "internal/bytealg.IndexString", "internal/abi.NoEscape", "internal/bytealg.MakeNoZero"], named := ["unicode/utf8.first", "unicode/utf8.acceptRanges", "internal/bytealg.MaxLen"], apart := false, laid := [("unicode/utf8.acceptRanges", laid_unicode_utf8_acceptRanges), ("unicode/utf8.first", laid_unicode_utf8_first)], narrowed := true }
def EditShiftsUptoSaid : Prop := editShiftsUptoRow.holds Tryd.pinned (OpenSpec.upto editShiftsSpec)

end Rows
end Go.Proofs.YtdkdoomjihflbaaDoor
