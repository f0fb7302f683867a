/-
  No cell of these rows narrows 'for every input' (looked for: loops, veiled, ifaces, maps, wideKeys, modest, calm, conditions, laid).
  DERIVED. THE GIVEN ROWS OF THIS SEAT. 10 by the template 'for every input the law returns true; each argument reads behind the call as it read before'; 0 by the template 'total and deterministic' (their statements: YtccalibapiiifaaTotals.lean).
  GIVEN WITH THE SEED: the statements are not yours to turn. If you find one false, say at which input.
  Laid BY PROGRAM, IN A SANDBOX (cutbox-rows.mjs): the forced cells as the released guide's own fill.sh prints them over the translation 76bfd0f36f12a2a6… (all of the seat's roots in one cut). By AI agents, Wed Nov 11 2026. No macro, syntax, notation, axiom, sorry.
-/
import Derived.Test.YtccalibapiiifaaChecked
import GoSem.Claim
import GoSem.ClaimJoined
import GoSem.ClaimMapViews
import Derived.JoinedTies
import Derived.KernelRfl
namespace Go.Proofs.Ytccalibapiiifaa
/- THE CELL 'sum', in the pinned program and in every row, IS THE sha256 OF THE DUMP (.gsa) THAT YtccalibapiiifaaProg.lean LOADS. Nothing in Lean hashes anything: it is a label: what it is worth is what the hold of that sum in a sandbox is worth. -/
noncomputable def Try.pinned : Pinned := { name := "ytccalibapiiifaa", sum := "76bfd0f36f12a2a60ff74a9c6b133f7e2f13508a772045ccd53348cd2c9ad1bc", checked := Try.checked }
namespace Rows
def none {H : Type} : Left H := { results := [], args := [] }

/-- 'emendatorlaw10.MarksNames': WHATEVER THE INPUT: true; the input reads as it did. -/
def marksNamesSpec : ChangeSpec := { name := "marksNames", fn := fun _ => fun
  | [d1, d2] => { results := [.lit (.bool true)], args := [d1, d2] }
  | _ => none }
def marksNamesRow : OpenClaim := { program := "ytccalibapiiifaa", sum := "76bfd0f36f12a2a60ff74a9c6b133f7e2f13508a772045ccd53348cd2c9ad1bc", func := "emendator/emendatorlaw10.MarksNames", spec := "marksNames", unfollowed := true, recurses := true, apart := false }
def MarksNamesSaid : Prop := marksNamesRow.holds Try.pinned (OpenSpec.ofChange marksNamesSpec)

/-- ITS FALSE NEIGHBOUR: 'it returns false'. Refute it at one input. -/
def marksNamesWrong : ChangeSpec := { name := "marksNames", fn := fun _ => fun
  | [d1, d2] => { results := [.lit (.bool false)], args := [d1, d2] }
  | _ => none }
def MarksNamesWrongFalsely : Prop := marksNamesRow.holds Try.pinned (OpenSpec.ofChange marksNamesWrong)

/-- 'emendatorlaw10.MarksFollow': WHATEVER THE INPUT: true; the input reads as it did. -/
def marksFollowSpec : ChangeSpec := { name := "marksFollow", fn := fun _ => fun
  | [d1, d2, d3] => { results := [.lit (.bool true)], args := [d1, d2, d3] }
  | _ => none }
def marksFollowRow : OpenClaim := { program := "ytccalibapiiifaa", sum := "76bfd0f36f12a2a60ff74a9c6b133f7e2f13508a772045ccd53348cd2c9ad1bc", func := "emendator/emendatorlaw10.MarksFollow", spec := "marksFollow", unfollowed := true, recurses := true, apart := false }
def MarksFollowSaid : Prop := marksFollowRow.holds Try.pinned (OpenSpec.ofChange marksFollowSpec)

/-- ITS FALSE NEIGHBOUR: 'it returns false'. Refute it at one input. -/
def marksFollowWrong : ChangeSpec := { name := "marksFollow", fn := fun _ => fun
  | [d1, d2, d3] => { results := [.lit (.bool false)], args := [d1, d2, d3] }
  | _ => none }
def MarksFollowWrongFalsely : Prop := marksFollowRow.holds Try.pinned (OpenSpec.ofChange marksFollowWrong)

/-- 'emendatorlaw07.TmplParts': WHATEVER THE INPUT: true; the input reads as it did. -/
def tmplPartsSpec : ChangeSpec := { name := "tmplParts", fn := fun _ => fun
  | [d1, d2, d3] => { results := [.lit (.bool true)], args := [d1, d2, d3] }
  | _ => none }
def tmplPartsRow : OpenClaim := { program := "ytccalibapiiifaa", sum := "76bfd0f36f12a2a60ff74a9c6b133f7e2f13508a772045ccd53348cd2c9ad1bc", func := "emendator/emendatorlaw07.TmplParts", spec := "tmplParts", inPlace := ["internal/bytealg.IndexByteString", "internal/abi.NoEscape"], unfollowed := true, recurses := true, apart := false }
def TmplPartsSaid : Prop := tmplPartsRow.holds Try.pinned (OpenSpec.ofChange tmplPartsSpec)

/-- ITS FALSE NEIGHBOUR: 'it returns false'. Refute it at one input. -/
def tmplPartsWrong : ChangeSpec := { name := "tmplParts", fn := fun _ => fun
  | [d1, d2, d3] => { results := [.lit (.bool false)], args := [d1, d2, d3] }
  | _ => none }
def TmplPartsWrongFalsely : Prop := tmplPartsRow.holds Try.pinned (OpenSpec.ofChange tmplPartsWrong)

/-- 'emendatorlaw07.TmplParses': WHATEVER THE INPUT: true; the input reads as it did. -/
def tmplParsesSpec : ChangeSpec := { name := "tmplParses", fn := fun _ => fun
  | [d1, d2] => { results := [.lit (.bool true)], args := [d1, d2] }
  | _ => none }
def tmplParsesRow : OpenClaim := { program := "ytccalibapiiifaa", sum := "76bfd0f36f12a2a60ff74a9c6b133f7e2f13508a772045ccd53348cd2c9ad1bc", func := "emendator/emendatorlaw07.TmplParses", spec := "tmplParses", inPlace := ["internal/bytealg.IndexByteString", "internal/abi.NoEscape"], unfollowed := true, recurses := true, apart := false }
def TmplParsesSaid : Prop := tmplParsesRow.holds Try.pinned (OpenSpec.ofChange tmplParsesSpec)

/-- ITS FALSE NEIGHBOUR: 'it returns false'. Refute it at one input. -/
def tmplParsesWrong : ChangeSpec := { name := "tmplParses", fn := fun _ => fun
  | [d1, d2] => { results := [.lit (.bool false)], args := [d1, d2] }
  | _ => none }
def TmplParsesWrongFalsely : Prop := tmplParsesRow.holds Try.pinned (OpenSpec.ofChange tmplParsesWrong)

/-- 'emendatorlaw07.TmplPieces': WHATEVER THE INPUT: true; the input reads as it did. -/
def tmplPiecesSpec : ChangeSpec := { name := "tmplPieces", fn := fun _ => fun
  | [d] => { results := [.lit (.bool true)], args := [d] }
  | _ => none }
def tmplPiecesRow : OpenClaim := { program := "ytccalibapiiifaa", sum := "76bfd0f36f12a2a60ff74a9c6b133f7e2f13508a772045ccd53348cd2c9ad1bc", func := "emendator/emendatorlaw07.TmplPieces", spec := "tmplPieces", inPlace := ["internal/bytealg.IndexByteString", "internal/abi.NoEscape"], unfollowed := true, recurses := true, apart := false }
def TmplPiecesSaid : Prop := tmplPiecesRow.holds Try.pinned (OpenSpec.ofChange tmplPiecesSpec)

/-- ITS FALSE NEIGHBOUR: 'it returns false'. Refute it at one input. -/
def tmplPiecesWrong : ChangeSpec := { name := "tmplPieces", fn := fun _ => fun
  | [d] => { results := [.lit (.bool false)], args := [d] }
  | _ => none }
def TmplPiecesWrongFalsely : Prop := tmplPiecesRow.holds Try.pinned (OpenSpec.ofChange tmplPiecesWrong)

/-- 'emendatorlaw07.TmplPlain': WHATEVER THE INPUT: true; the input reads as it did. -/
def tmplPlainSpec : ChangeSpec := { name := "tmplPlain", fn := fun _ => fun
  | [d] => { results := [.lit (.bool true)], args := [d] }
  | _ => none }
def tmplPlainRow : OpenClaim := { program := "ytccalibapiiifaa", sum := "76bfd0f36f12a2a60ff74a9c6b133f7e2f13508a772045ccd53348cd2c9ad1bc", func := "emendator/emendatorlaw07.TmplPlain", spec := "tmplPlain", inPlace := ["internal/bytealg.IndexByteString", "internal/abi.NoEscape"], unfollowed := true, recurses := true, apart := false }
def TmplPlainSaid : Prop := tmplPlainRow.holds Try.pinned (OpenSpec.ofChange tmplPlainSpec)

/-- ITS FALSE NEIGHBOUR: 'it returns false'. Refute it at one input. -/
def tmplPlainWrong : ChangeSpec := { name := "tmplPlain", fn := fun _ => fun
  | [d] => { results := [.lit (.bool false)], args := [d] }
  | _ => none }
def TmplPlainWrongFalsely : Prop := tmplPlainRow.holds Try.pinned (OpenSpec.ofChange tmplPlainWrong)

/-- 'emendatorlaw07.TmplResolves': WHATEVER THE INPUT: true; the input reads as it did. -/
def tmplResolvesSpec : ChangeSpec := { name := "tmplResolves", fn := fun _ => fun
  | [d1, d2] => { results := [.lit (.bool true)], args := [d1, d2] }
  | _ => none }
def tmplResolvesRow : OpenClaim := { program := "ytccalibapiiifaa", sum := "76bfd0f36f12a2a60ff74a9c6b133f7e2f13508a772045ccd53348cd2c9ad1bc", func := "emendator/emendatorlaw07.TmplResolves", spec := "tmplResolves", inPlace := ["internal/bytealg.IndexByteString", "internal/abi.NoEscape"], unfollowed := true, recurses := true, apart := false }
def TmplResolvesSaid : Prop := tmplResolvesRow.holds Try.pinned (OpenSpec.ofChange tmplResolvesSpec)

/-- ITS FALSE NEIGHBOUR: 'it returns false'. Refute it at one input. -/
def tmplResolvesWrong : ChangeSpec := { name := "tmplResolves", fn := fun _ => fun
  | [d1, d2] => { results := [.lit (.bool false)], args := [d1, d2] }
  | _ => none }
def TmplResolvesWrongFalsely : Prop := tmplResolvesRow.holds Try.pinned (OpenSpec.ofChange tmplResolvesWrong)

/-- 'emendatorlaw10.MarksTurn': WHATEVER THE INPUT: true; the input reads as it did. -/
def marksTurnSpec : ChangeSpec := { name := "marksTurn", fn := fun _ => fun
  | [d1, d2, d3, d4] => { results := [.lit (.bool true)], args := [d1, d2, d3, d4] }
  | _ => none }
def marksTurnRow : OpenClaim := { program := "ytccalibapiiifaa", sum := "76bfd0f36f12a2a60ff74a9c6b133f7e2f13508a772045ccd53348cd2c9ad1bc", func := "emendator/emendatorlaw10.MarksTurn", spec := "marksTurn", unfollowed := true, recurses := true, apart := false }
def MarksTurnSaid : Prop := marksTurnRow.holds Try.pinned (OpenSpec.ofChange marksTurnSpec)

/-- ITS FALSE NEIGHBOUR: 'it returns false'. Refute it at one input. -/
def marksTurnWrong : ChangeSpec := { name := "marksTurn", fn := fun _ => fun
  | [d1, d2, d3, d4] => { results := [.lit (.bool false)], args := [d1, d2, d3, d4] }
  | _ => none }
def MarksTurnWrongFalsely : Prop := marksTurnRow.holds Try.pinned (OpenSpec.ofChange marksTurnWrong)

/-- 'emendatorlaw10.MarksDoes': WHATEVER THE INPUT: true; the input reads as it did. -/
def marksDoesSpec : ChangeSpec := { name := "marksDoes", fn := fun _ => fun
  | [d] => { results := [.lit (.bool true)], args := [d] }
  | _ => none }
def marksDoesRow : OpenClaim := { program := "ytccalibapiiifaa", sum := "76bfd0f36f12a2a60ff74a9c6b133f7e2f13508a772045ccd53348cd2c9ad1bc", func := "emendator/emendatorlaw10.MarksDoes", spec := "marksDoes", inPlace := ["maps.clone"], unfollowed := true, recurses := true, apart := false }
def MarksDoesSaid : Prop := marksDoesRow.holds Try.pinned (OpenSpec.ofChange marksDoesSpec)

/-- ITS FALSE NEIGHBOUR: 'it returns false'. Refute it at one input. -/
def marksDoesWrong : ChangeSpec := { name := "marksDoes", fn := fun _ => fun
  | [d] => { results := [.lit (.bool false)], args := [d] }
  | _ => none }
def MarksDoesWrongFalsely : Prop := marksDoesRow.holds Try.pinned (OpenSpec.ofChange marksDoesWrong)

/-- 'emendatorlaw10.MarksCopy': WHATEVER THE INPUT: true; the input reads as it did. -/
def marksCopySpec : ChangeSpec := { name := "marksCopy", fn := fun _ => fun
  | [d1, d2] => { results := [.lit (.bool true)], args := [d1, d2] }
  | _ => none }
def marksCopyRow : OpenClaim := { program := "ytccalibapiiifaa", sum := "76bfd0f36f12a2a60ff74a9c6b133f7e2f13508a772045ccd53348cd2c9ad1bc", func := "emendator/emendatorlaw10.MarksCopy", spec := "marksCopy", inPlace := ["maps.clone"], unfollowed := true, recurses := true, apart := false }
def MarksCopySaid : Prop := marksCopyRow.holds Try.pinned (OpenSpec.ofChange marksCopySpec)

/-- ITS FALSE NEIGHBOUR: 'it returns false'. Refute it at one input. -/
def marksCopyWrong : ChangeSpec := { name := "marksCopy", fn := fun _ => fun
  | [d1, d2] => { results := [.lit (.bool false)], args := [d1, d2] }
  | _ => none }
def MarksCopyWrongFalsely : Prop := marksCopyRow.holds Try.pinned (OpenSpec.ofChange marksCopyWrong)

/- THE SECOND FORM. 'bulk': how many values and letters a reading holds, each counted each time it is reached (what is shared counts as often as it is met; a slice's spare places count too). A statement '..UptoSaid' is the law's where the arguments, and the package variables that the reading takes, are together of bulk at most 1048576: NARROWER than '..Said'. Prove '..Said' where nothing that the law and all that it calls make is longer than what came in: it says more and counts as full. Else prove '..UptoSaid'. A law counts once. -/
mutual
def uptoBulk {H : Type} : DataW H → Nat
  | .lit (.string bytes) => bytes.length + 1
  | .lit _ => 1
  | .nil => 1
  | .ptr d => uptoBulk d + 1
  | .slice elems spare => uptoBulkAll elems + uptoBulkAll spare + 1
  | .agg parts => uptoBulkAll parts + 1
  | .iface _ d => uptoBulk d + 1
  | .map entries => uptoBulkEntries entries + 1
  | .held _ => 1
def uptoBulkAll {H : Type} : List (DataW H) → Nat
  | [] => 0
  | d :: r => uptoBulk d + uptoBulkAll r
def uptoBulkEntries {H : Type} : List (Lit × DataW H) → Nat
  | [] => 0
  | x :: r => uptoBulkEntry x + uptoBulkEntries r
def uptoBulkEntry {H : Type} : Lit × DataW H → Nat
  | (.string bytes, d) => bytes.length + uptoBulk d + 1
  | (_, d) => uptoBulk d + 1
 end
def uptoSmall : (H : Type) → List (DataW H) → Bool := fun _ ds => decide (uptoBulkAll ds ≤ 1048576)
def OpenSpec.upto (s : _root_.Go.ChangeSpec) : _root_.Go.OpenSpec := { _root_.Go.OpenSpec.ofChange s with cond := some uptoSmall }

/-- 'emendatorlaw10.MarksNames', WHERE WHAT IT READS IS OF BULK AT MOST 1048576: true; the input reads as it did. -/
def marksNamesUptoRow : OpenClaim := { program := "ytccalibapiiifaa", sum := "76bfd0f36f12a2a60ff74a9c6b133f7e2f13508a772045ccd53348cd2c9ad1bc", func := "emendator/emendatorlaw10.MarksNames", spec := "marksNames", unfollowed := true, recurses := true, apart := false, narrowed := true }
def MarksNamesUptoSaid : Prop := marksNamesUptoRow.holds Try.pinned (OpenSpec.upto marksNamesSpec)

/-- 'emendatorlaw10.MarksFollow', WHERE WHAT IT READS IS OF BULK AT MOST 1048576: true; the input reads as it did. -/
def marksFollowUptoRow : OpenClaim := { program := "ytccalibapiiifaa", sum := "76bfd0f36f12a2a60ff74a9c6b133f7e2f13508a772045ccd53348cd2c9ad1bc", func := "emendator/emendatorlaw10.MarksFollow", spec := "marksFollow", unfollowed := true, recurses := true, apart := false, narrowed := true }
def MarksFollowUptoSaid : Prop := marksFollowUptoRow.holds Try.pinned (OpenSpec.upto marksFollowSpec)

/-- 'emendatorlaw07.TmplParts', WHERE WHAT IT READS IS OF BULK AT MOST 1048576: true; the input reads as it did. -/
def tmplPartsUptoRow : OpenClaim := { program := "ytccalibapiiifaa", sum := "76bfd0f36f12a2a60ff74a9c6b133f7e2f13508a772045ccd53348cd2c9ad1bc", func := "emendator/emendatorlaw07.TmplParts", spec := "tmplParts", inPlace := ["internal/bytealg.IndexByteString", "internal/abi.NoEscape"], unfollowed := true, recurses := true, apart := false, narrowed := true }
def TmplPartsUptoSaid : Prop := tmplPartsUptoRow.holds Try.pinned (OpenSpec.upto tmplPartsSpec)

/-- 'emendatorlaw07.TmplParses', WHERE WHAT IT READS IS OF BULK AT MOST 1048576: true; the input reads as it did. -/
def tmplParsesUptoRow : OpenClaim := { program := "ytccalibapiiifaa", sum := "76bfd0f36f12a2a60ff74a9c6b133f7e2f13508a772045ccd53348cd2c9ad1bc", func := "emendator/emendatorlaw07.TmplParses", spec := "tmplParses", inPlace := ["internal/bytealg.IndexByteString", "internal/abi.NoEscape"], unfollowed := true, recurses := true, apart := false, narrowed := true }
def TmplParsesUptoSaid : Prop := tmplParsesUptoRow.holds Try.pinned (OpenSpec.upto tmplParsesSpec)

/-- 'emendatorlaw07.TmplPieces', WHERE WHAT IT READS IS OF BULK AT MOST 1048576: true; the input reads as it did. -/
def tmplPiecesUptoRow : OpenClaim := { program := "ytccalibapiiifaa", sum := "76bfd0f36f12a2a60ff74a9c6b133f7e2f13508a772045ccd53348cd2c9ad1bc", func := "emendator/emendatorlaw07.TmplPieces", spec := "tmplPieces", inPlace := ["internal/bytealg.IndexByteString", "internal/abi.NoEscape"], unfollowed := true, recurses := true, apart := false, narrowed := true }
def TmplPiecesUptoSaid : Prop := tmplPiecesUptoRow.holds Try.pinned (OpenSpec.upto tmplPiecesSpec)

/-- 'emendatorlaw07.TmplPlain', WHERE WHAT IT READS IS OF BULK AT MOST 1048576: true; the input reads as it did. -/
def tmplPlainUptoRow : OpenClaim := { program := "ytccalibapiiifaa", sum := "76bfd0f36f12a2a60ff74a9c6b133f7e2f13508a772045ccd53348cd2c9ad1bc", func := "emendator/emendatorlaw07.TmplPlain", spec := "tmplPlain", inPlace := ["internal/bytealg.IndexByteString", "internal/abi.NoEscape"], unfollowed := true, recurses := true, apart := false, narrowed := true }
def TmplPlainUptoSaid : Prop := tmplPlainUptoRow.holds Try.pinned (OpenSpec.upto tmplPlainSpec)

/-- 'emendatorlaw07.TmplResolves', WHERE WHAT IT READS IS OF BULK AT MOST 1048576: true; the input reads as it did. -/
def tmplResolvesUptoRow : OpenClaim := { program := "ytccalibapiiifaa", sum := "76bfd0f36f12a2a60ff74a9c6b133f7e2f13508a772045ccd53348cd2c9ad1bc", func := "emendator/emendatorlaw07.TmplResolves", spec := "tmplResolves", inPlace := ["internal/bytealg.IndexByteString", "internal/abi.NoEscape"], unfollowed := true, recurses := true, apart := false, narrowed := true }
def TmplResolvesUptoSaid : Prop := tmplResolvesUptoRow.holds Try.pinned (OpenSpec.upto tmplResolvesSpec)

/-- 'emendatorlaw10.MarksTurn', WHERE WHAT IT READS IS OF BULK AT MOST 1048576: true; the input reads as it did. -/
def marksTurnUptoRow : OpenClaim := { program := "ytccalibapiiifaa", sum := "76bfd0f36f12a2a60ff74a9c6b133f7e2f13508a772045ccd53348cd2c9ad1bc", func := "emendator/emendatorlaw10.MarksTurn", spec := "marksTurn", unfollowed := true, recurses := true, apart := false, narrowed := true }
def MarksTurnUptoSaid : Prop := marksTurnUptoRow.holds Try.pinned (OpenSpec.upto marksTurnSpec)

/-- 'emendatorlaw10.MarksDoes', WHERE WHAT IT READS IS OF BULK AT MOST 1048576: true; the input reads as it did. -/
def marksDoesUptoRow : OpenClaim := { program := "ytccalibapiiifaa", sum := "76bfd0f36f12a2a60ff74a9c6b133f7e2f13508a772045ccd53348cd2c9ad1bc", func := "emendator/emendatorlaw10.MarksDoes", spec := "marksDoes", inPlace := ["maps.clone"], unfollowed := true, recurses := true, apart := false, narrowed := true }
def MarksDoesUptoSaid : Prop := marksDoesUptoRow.holds Try.pinned (OpenSpec.upto marksDoesSpec)

/-- 'emendatorlaw10.MarksCopy', WHERE WHAT IT READS IS OF BULK AT MOST 1048576: true; the input reads as it did. -/
def marksCopyUptoRow : OpenClaim := { program := "ytccalibapiiifaa", sum := "76bfd0f36f12a2a60ff74a9c6b133f7e2f13508a772045ccd53348cd2c9ad1bc", func := "emendator/emendatorlaw10.MarksCopy", spec := "marksCopy", inPlace := ["maps.clone"], unfollowed := true, recurses := true, apart := false, narrowed := true }
def MarksCopyUptoSaid : Prop := marksCopyUptoRow.holds Try.pinned (OpenSpec.upto marksCopySpec)

end Rows
end Go.Proofs.Ytccalibapiiifaa
