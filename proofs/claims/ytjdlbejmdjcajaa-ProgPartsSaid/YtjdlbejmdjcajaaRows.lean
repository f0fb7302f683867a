/-
  No cell of these rows narrows 'for every input' (looked for: loops, veiled, ifaces, maps, wideKeys, modest, calm, conditions, laid).
  DERIVED. THE GIVEN ROWS OF THIS SEAT. 5 by the template 'for every input the law returns true; each argument reads behind the call as it read before'; 0 by the template 'total and deterministic' (their statements: YtjdlbejmdjcajaaTotals.lean).
  GIVEN WITH THE SEED: the statements are not yours to turn. If you find one false, say at which input.
  Laid BY PROGRAM, IN A SANDBOX (cutbox-rows.mjs): the forced cells as the released guide's own fill.sh prints them over the translation 895a832e75705b47… (all of the seat's roots in one cut). By AI agents, Wed Nov 11 2026. No macro, syntax, notation, axiom, sorry.
-/
import Derived.Test.YtjdlbejmdjcajaaChecked
import GoSem.Claim
import GoSem.ClaimJoined
import GoSem.ClaimMapViews
import Derived.JoinedTies
import Derived.KernelRfl
namespace Go.Proofs.Ytjdlbejmdjcajaa
/- THE CELL 'sum', in the pinned program and in every row, IS THE sha256 OF THE DUMP (.gsa) THAT YtjdlbejmdjcajaaProg.lean LOADS. Nothing in Lean hashes anything: it is a label: what it is worth is what the hold of that sum in a sandbox is worth. -/
noncomputable def Try.pinned : Pinned := { name := "ytjdlbejmdjcajaa", sum := "895a832e75705b473dd3b0244858e593d1d90c22a55f00e6a772e2747f740cdd", checked := Try.checked }
namespace Rows
def none {H : Type} : Left H := { results := [], args := [] }

/-- 'emendatorlaw04.ProgAlt': WHATEVER THE INPUT: true; the input reads as it did. -/
def progAltSpec : ChangeSpec := { name := "progAlt", fn := fun _ => fun
  | [d] => { results := [.lit (.bool true)], args := [d] }
  | _ => none }
def progAltRow : OpenClaim := { program := "ytjdlbejmdjcajaa", sum := "895a832e75705b473dd3b0244858e593d1d90c22a55f00e6a772e2747f740cdd", func := "emendator/emendatorlaw04.ProgAlt", spec := "progAlt", inPlace := ["internal/bytealg.IndexByteString", "internal/bytealg.IndexString"], unfollowed := true, recurses := true, named := ["internal/bytealg.MaxLen"], apart := false }
def ProgAltSaid : Prop := progAltRow.holds Try.pinned (OpenSpec.ofChange progAltSpec)

/-- ITS FALSE NEIGHBOUR: 'it returns false'. Refute it at one input. -/
def progAltWrong : ChangeSpec := { name := "progAlt", fn := fun _ => fun
  | [d] => { results := [.lit (.bool false)], args := [d] }
  | _ => none }
def ProgAltWrongFalsely : Prop := progAltRow.holds Try.pinned (OpenSpec.ofChange progAltWrong)

/-- 'emendatorlaw04.ProgParts': WHATEVER THE INPUT: true; the input reads as it did. -/
def progPartsSpec : ChangeSpec := { name := "progParts", fn := fun _ => fun
  | [d1, d2] => { results := [.lit (.bool true)], args := [d1, d2] }
  | _ => none }
def progPartsRow : OpenClaim := { program := "ytjdlbejmdjcajaa", sum := "895a832e75705b473dd3b0244858e593d1d90c22a55f00e6a772e2747f740cdd", func := "emendator/emendatorlaw04.ProgParts", spec := "progParts", inPlace := ["internal/bytealg.IndexByteString", "internal/bytealg.IndexString"], unfollowed := true, recurses := true, named := ["internal/bytealg.MaxLen"], apart := false }
def ProgPartsSaid : Prop := progPartsRow.holds Try.pinned (OpenSpec.ofChange progPartsSpec)

/-- ITS FALSE NEIGHBOUR: 'it returns false'. Refute it at one input. -/
def progPartsWrong : ChangeSpec := { name := "progParts", fn := fun _ => fun
  | [d1, d2] => { results := [.lit (.bool false)], args := [d1, d2] }
  | _ => none }
def ProgPartsWrongFalsely : Prop := progPartsRow.holds Try.pinned (OpenSpec.ofChange progPartsWrong)

/-- 'emendatorlaw04.ProgLong': WHATEVER THE INPUT: true; the input reads as it did. -/
def progLongSpec : ChangeSpec := { name := "progLong", fn := fun _ => fun
  | [d1, d2] => { results := [.lit (.bool true)], args := [d1, d2] }
  | _ => none }
def progLongRow : OpenClaim := { program := "ytjdlbejmdjcajaa", sum := "895a832e75705b473dd3b0244858e593d1d90c22a55f00e6a772e2747f740cdd", func := "emendator/emendatorlaw04.ProgLong", spec := "progLong", inPlace := ["internal/bytealg.IndexByteString", "internal/bytealg.IndexString"], unfollowed := true, recurses := true, named := ["internal/bytealg.MaxLen"], apart := false }
def ProgLongSaid : Prop := progLongRow.holds Try.pinned (OpenSpec.ofChange progLongSpec)

/-- ITS FALSE NEIGHBOUR: 'it returns false'. Refute it at one input. -/
def progLongWrong : ChangeSpec := { name := "progLong", fn := fun _ => fun
  | [d1, d2] => { results := [.lit (.bool false)], args := [d1, d2] }
  | _ => none }
def ProgLongWrongFalsely : Prop := progLongRow.holds Try.pinned (OpenSpec.ofChange progLongWrong)

/-- 'emendatorlaw04.ProgTimes': WHATEVER THE INPUT: true; the input reads as it did. -/
def progTimesSpec : ChangeSpec := { name := "progTimes", fn := fun _ => fun
  | [d1, d2, d3] => { results := [.lit (.bool true)], args := [d1, d2, d3] }
  | _ => none }
def progTimesRow : OpenClaim := { program := "ytjdlbejmdjcajaa", sum := "895a832e75705b473dd3b0244858e593d1d90c22a55f00e6a772e2747f740cdd", func := "emendator/emendatorlaw04.ProgTimes", spec := "progTimes", inPlace := ["internal/bytealg.IndexByteString", "internal/bytealg.IndexString"], unfollowed := true, recurses := true, named := ["internal/bytealg.MaxLen"], apart := false }
def ProgTimesSaid : Prop := progTimesRow.holds Try.pinned (OpenSpec.ofChange progTimesSpec)

/-- ITS FALSE NEIGHBOUR: 'it returns false'. Refute it at one input. -/
def progTimesWrong : ChangeSpec := { name := "progTimes", fn := fun _ => fun
  | [d1, d2, d3] => { results := [.lit (.bool false)], args := [d1, d2, d3] }
  | _ => none }
def ProgTimesWrongFalsely : Prop := progTimesRow.holds Try.pinned (OpenSpec.ofChange progTimesWrong)

/-- 'emendatorlaw04.ProgSound': WHATEVER THE INPUT: true; the input reads as it did. -/
def progSoundSpec : ChangeSpec := { name := "progSound", fn := fun _ => fun
  | [d1, d2] => { results := [.lit (.bool true)], args := [d1, d2] }
  | _ => none }
def progSoundRow : OpenClaim := { program := "ytjdlbejmdjcajaa", sum := "895a832e75705b473dd3b0244858e593d1d90c22a55f00e6a772e2747f740cdd", func := "emendator/emendatorlaw04.ProgSound", spec := "progSound", inPlace := ["internal/bytealg.IndexByteString", "internal/bytealg.IndexString"], unfollowed := true, recurses := true, named := ["internal/bytealg.MaxLen"], apart := false }
def ProgSoundSaid : Prop := progSoundRow.holds Try.pinned (OpenSpec.ofChange progSoundSpec)

/-- ITS FALSE NEIGHBOUR: 'it returns false'. Refute it at one input. -/
def progSoundWrong : ChangeSpec := { name := "progSound", fn := fun _ => fun
  | [d1, d2] => { results := [.lit (.bool false)], args := [d1, d2] }
  | _ => none }
def ProgSoundWrongFalsely : Prop := progSoundRow.holds Try.pinned (OpenSpec.ofChange progSoundWrong)

/- THE SECOND FORM. 'bulk': how many values and letters a reading holds, each counted each time it is reached (what is shared counts as often as it is met; a slice's spare places count too). A statement '..UptoSaid' is the law's where the arguments, and the package variables that the reading takes, are together of bulk at most 1048576: NARROWER than '..Said'. Prove '..Said' where nothing that the law and all that it calls make is longer than what came in: it says more and counts as full. Else prove '..UptoSaid'. A law counts once. -/
mutual
def uptoBulk {H : Type} : DataW H → Nat
  | .lit (.string bytes) => bytes.length + 1
  | .lit _ => 1
  | .nil => 1
  | .ptr d => uptoBulk d + 1
  | .slice elems spare => uptoBulkAll elems + uptoBulkAll spare + 1
  | .agg parts => uptoBulkAll parts + 1
  | .iface _ d => uptoBulk d + 1
  | .map entries => uptoBulkEntries entries + 1
  | .held _ => 1
def uptoBulkAll {H : Type} : List (DataW H) → Nat
  | [] => 0
  | d :: r => uptoBulk d + uptoBulkAll r
def uptoBulkEntries {H : Type} : List (Lit × DataW H) → Nat
  | [] => 0
  | x :: r => uptoBulkEntry x + uptoBulkEntries r
def uptoBulkEntry {H : Type} : Lit × DataW H → Nat
  | (.string bytes, d) => bytes.length + uptoBulk d + 1
  | (_, d) => uptoBulk d + 1
 end
def uptoSmall : (H : Type) → List (DataW H) → Bool := fun _ ds => decide (uptoBulkAll ds ≤ 1048576)
def OpenSpec.upto (s : _root_.Go.ChangeSpec) : _root_.Go.OpenSpec := { _root_.Go.OpenSpec.ofChange s with cond := some uptoSmall }

/-- 'emendatorlaw04.ProgAlt', WHERE WHAT IT READS IS OF BULK AT MOST 1048576: true; the input reads as it did. -/
def progAltUptoRow : OpenClaim := { program := "ytjdlbejmdjcajaa", sum := "895a832e75705b473dd3b0244858e593d1d90c22a55f00e6a772e2747f740cdd", func := "emendator/emendatorlaw04.ProgAlt", spec := "progAlt", inPlace := ["internal/bytealg.IndexByteString", "internal/bytealg.IndexString"], unfollowed := true, recurses := true, named := ["internal/bytealg.MaxLen"], apart := false, narrowed := true }
def ProgAltUptoSaid : Prop := progAltUptoRow.holds Try.pinned (OpenSpec.upto progAltSpec)

/-- 'emendatorlaw04.ProgParts', WHERE WHAT IT READS IS OF BULK AT MOST 1048576: true; the input reads as it did. -/
def progPartsUptoRow : OpenClaim := { program := "ytjdlbejmdjcajaa", sum := "895a832e75705b473dd3b0244858e593d1d90c22a55f00e6a772e2747f740cdd", func := "emendator/emendatorlaw04.ProgParts", spec := "progParts", inPlace := ["internal/bytealg.IndexByteString", "internal/bytealg.IndexString"], unfollowed := true, recurses := true, named := ["internal/bytealg.MaxLen"], apart := false, narrowed := true }
def ProgPartsUptoSaid : Prop := progPartsUptoRow.holds Try.pinned (OpenSpec.upto progPartsSpec)

/-- 'emendatorlaw04.ProgLong', WHERE WHAT IT READS IS OF BULK AT MOST 1048576: true; the input reads as it did. -/
def progLongUptoRow : OpenClaim := { program := "ytjdlbejmdjcajaa", sum := "895a832e75705b473dd3b0244858e593d1d90c22a55f00e6a772e2747f740cdd", func := "emendator/emendatorlaw04.ProgLong", spec := "progLong", inPlace := ["internal/bytealg.IndexByteString", "internal/bytealg.IndexString"], unfollowed := true, recurses := true, named := ["internal/bytealg.MaxLen"], apart := false, narrowed := true }
def ProgLongUptoSaid : Prop := progLongUptoRow.holds Try.pinned (OpenSpec.upto progLongSpec)

/-- 'emendatorlaw04.ProgTimes', WHERE WHAT IT READS IS OF BULK AT MOST 1048576: true; the input reads as it did. -/
def progTimesUptoRow : OpenClaim := { program := "ytjdlbejmdjcajaa", sum := "895a832e75705b473dd3b0244858e593d1d90c22a55f00e6a772e2747f740cdd", func := "emendator/emendatorlaw04.ProgTimes", spec := "progTimes", inPlace := ["internal/bytealg.IndexByteString", "internal/bytealg.IndexString"], unfollowed := true, recurses := true, named := ["internal/bytealg.MaxLen"], apart := false, narrowed := true }
def ProgTimesUptoSaid : Prop := progTimesUptoRow.holds Try.pinned (OpenSpec.upto progTimesSpec)

/-- 'emendatorlaw04.ProgSound', WHERE WHAT IT READS IS OF BULK AT MOST 1048576: true; the input reads as it did. -/
def progSoundUptoRow : OpenClaim := { program := "ytjdlbejmdjcajaa", sum := "895a832e75705b473dd3b0244858e593d1d90c22a55f00e6a772e2747f740cdd", func := "emendator/emendatorlaw04.ProgSound", spec := "progSound", inPlace := ["internal/bytealg.IndexByteString", "internal/bytealg.IndexString"], unfollowed := true, recurses := true, named := ["internal/bytealg.MaxLen"], apart := false, narrowed := true }
def ProgSoundUptoSaid : Prop := progSoundUptoRow.holds Try.pinned (OpenSpec.upto progSoundSpec)

end Rows
end Go.Proofs.Ytjdlbejmdjcajaa
