/- edit: Join, and the document's Join: both are one function of the texts. -/
import Derived.Test.YtiddfimaenjdcaaGreatDoorProg
import Derived.Test.YtiddfimaenjdcaaGreatDoorShelf
import Derived.Shelf.Strings.SlTrimAscii
import Derived.Tactics
import Derived.WalkKit
import Derived.Below
import Derived.Lib.Hide
import Derived.Deep.QuietTactic
import Derived.BigQuiet
import Derived.Test.YtiddfimaenjdcaaGreatDoorWWords
set_option linter.unusedVariables false
set_option linter.unusedSimpArgs false
namespace Go.Proofs.YtiddfimaenjdcaaGreatDoor
open Go.RowKit Go.Proofs.YtiddfimaenjdcaaGreatDoorW.PrintWords

def blankB (c : UInt8) : Bool := c == 32 || c == 9
def cutL (s : ByteArray) : ByteArray := ⟨(s.data.toList.dropWhile blankB).toArray⟩
def cutR (s : ByteArray) : ByteArray := ⟨(s.data.toList.reverse.dropWhile blankB).reverse.toArray⟩

theorem lays161b : (Tryz.prog.info? (Tryz.lays161_ren.t 116)).map (fun i => (i.zero, i.size)) = some (some (.agg (Array.replicate 256 (.bool false))), 256) := by kernel_rfl


theorem blank_set : (fun x => (⟨#[32, 9]⟩ : ByteArray).data.toList.contains x) = blankB := by
  funext c
  show ([32, 9] : List UInt8).contains c = (c == 32 || c == 9)
  cases h : c == 32 <;> cases h2 : c == 9 <;> simp [List.contains, List.elem, h, h2]

theorem trimL_blank (s : ByteArray) (w : World) : Calls Tryz.prog 32 #[.string s, .string ⟨#[32, 9]⟩] w fun e w' => e = .returned (.string (cutL s)) ∧ Below w.heap.size w w' := by
  have h := Any.strings_TrimLeft_laid Tryz.lays161 lays161b s ⟨#[32, 9]⟩ w (by decide) (ascii_of_all (by decide))
  refine h.mono ?_
  rintro e w' ⟨rfl, hb⟩
  refine ⟨?_, hb⟩
  unfold cutL Lib.trimLeftS
  rw [blank_set]

/-- what Join comes to -/
def joinP (a b : ByteArray) (bold : Bool) : ByteArray :=
  if bold then a ++ b
  else if (cutL b).data.toList = [] then a
  else if a.data.toList = [] ∨ cutR a ≠ a ∨ (cutL b).data.toList.head? = some 41 then a ++ cutL b
  else a ++ ⟨#[32]⟩ ++ cutL b

end Go.Proofs.YtiddfimaenjdcaaGreatDoor
