/- the law's bare; buf's Splice where a line is too long; edit's put: walked. -/
import Derived.Test.YtoejfgmfdjoonaaGreatDoorEeA
import Derived.Test.YtoejfgmfdjoonaaGreatDoorEaP
set_option linter.unusedVariables false
set_option linter.unusedSimpArgs false
namespace Go.Proofs.YtoejfgmfdjoonaaGreatDoor
open Go.RowKit Go.Shelf Go.Maps Go.Proofs.YtoejfgmfdjoonaaGreatDoorW.PrintWords Go.Proofs.YtoejfgmfdjoonaaGreatDoorW.PrintLast

section
variable {N0 : Nat} {w0 : Base} {w w' : World} {B : Nat} {s : Bs}
set_option maxRecDepth 100000 in
set_option maxHeartbeats 1000000 in
theorem bsplice_long (h : Bf N0 w0 w B s) {G : Nat → Prop} {v : Value} {xs : List ByteArray} (hv : Ls w G v xs) {i k : Nat} {a : Int} (ha : a = i + 1) (hi : i + k ≤ s.ls.length) (hl : s.ls.length + xs.length ≤ k + 2000) (hsl : s.ls.length ≤ 1000000) (hlg : isLong xs = true) :
    Calls Tryz.prog 111 #[.pointer (some ⟨B, 0, none⟩), .int .i64 a, .int .i64 k, v] w (BfPost N0 w0 B s (.int .u16 90)) := by
  have HH := Lib.hid h
  obtain ⟨col, T, p1, U, vl, vm, vo, L, h⟩ := h
  have k0 : w.cell? ⟨B, 0, none⟩ = some (.pointer (some ⟨T, 0, none⟩)) := by rw [blk_cell h.box]; rfl
  have HL := Lib.hid (len_is h.tree)
  have hlong : ∀ W, Below w.heap.size w W → Calls Tryz.prog 21 #[v] W fun e w' => e = .returned (.bool true) ∧ Below W.heap.size W w' := fun W hb => by
    have := long_any (hv.step hb.size fun b hlt _ => hb.block b hlt) (by omega)
    rw [hlg] at this
    exact this
  have HLG := Lib.hid hlong
  obtain ⟨Av, cv, hvs, _⟩ := id hv
  subst hvs
  subst ha
  have hi1 : ¬ ((i : Int) + 1 < 1) := by omega
  have hi2 : ¬ ((s.ls.length : Int) + 1 < (i : Int) + 1) := by omega
  have hi3 : ¬ ((s.ls.length : Int) - ((i : Int) + 1) + 1 < k) := by omega
  have hi4 : ¬ ((k : Int) < 0) := by omega
  have hl' : (s.ls.length : Int) - k + xs.length ≤ 2000 := by omega
  clear h hv hlong hlg
  go_enter Tryz.func111, Tryz.ntmps111
  go_wp2_with (first
    | (go_at_call 15; refine HL.out.mono ?_; rintro e wa ⟨rfl, q, rfl⟩)
    | (go_at_call 21; refine (HLG.out _ (below_drewN w q)).mono ?_; rintro e wb ⟨rfl, hb⟩; have HB := Lib.hid (below_then (below_drewN w q) (Nat.le_refl _) hb); clear hb))
  all_goals
    go_ret
    exact ⟨rfl, HH.out.new HB.out⟩

end
end Go.Proofs.YtoejfgmfdjoonaaGreatDoor
