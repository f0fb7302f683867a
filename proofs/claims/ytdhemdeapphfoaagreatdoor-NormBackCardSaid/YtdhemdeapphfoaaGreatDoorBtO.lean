/- The tree's mend, walked: its five ways. -/
import Derived.Test.YtdhemdeapphfoaaGreatDoorBtMx
import Derived.Test.YtdhemdeapphfoaaGreatDoorBtN
import Derived.Test.YtdhemdeapphfoaaGreatDoorBtPx
set_option linter.unusedVariables false
set_option linter.unusedSimpArgs false
namespace Go.Proofs.YtdhemdeapphfoaaGreatDoor
open Go.RowKit Go.Shelf Go.Proofs.YtdhemdeapphfoaaGreatDoorW.PrintWords Go.Proofs.YtdhemdeapphfoaaGreatDoorW.PrintLast

/-- how much the i-th kid has -/
def szk (A : List Bt.Nd) (ks : List Nat) (i : Int) : Nat := if 0 ≤ i ∧ i < ks.length then (Bt.nd A (ks.getD i.toNat 0)).size else 0

/-- mend's own variables -/
structure MendW (W : World) (F : Nat → Prop) (B N cap : Nat) (fv : Value) (L : List NV) (fr : List Nat) (root : Nat) (bytes : Int) (g c bk bt : Nat) (ks : List Nat) : Prop where
  tw : Tw W F B N cap fv L fr root bytes
  row : Rw W 3 (.slice (some ⟨g, 0, none⟩) ks.length c) (cK ks)
  kids : W.cell? ⟨bk, 0, none⟩ = some (.slice (some ⟨g, 0, none⟩) ks.length c)
  tree : W.cell? ⟨bt, 0, none⟩ = some (.pointer (some ⟨B, 0, none⟩))
theorem MendW.drewN {W : World} {F : Nat → Prop} {B N cap : Nat} {fv : Value} {L : List NV} {fr : List Nat} {root : Nat} {bytes : Int} {g c bk bt : Nat} {ks : List Nat} (h : MendW W F B N cap fv L fr root bytes g c bk bt ks) (q : Nat) : MendW (W.drewN q) F B N cap fv L fr root bytes g c bk bt ks :=
  ⟨h.tw.drewN q, h.row.drewN q, h.kids, h.tree⟩

set_option maxRecDepth 100000 in
theorem mendsz {W : World} {F : Nat → Prop} {B N cap : Nat} {fv : Value} {L : List NV} {fr : List Nat} {root : Nat} {bytes : Int} {g c bk bt : Nat} {ks : List Nat} (h : MendW W F B N cap fv L fr root bytes g c bk bt ks)
    (hk : ∀ j ∈ ks, ∃ x, L[j]? = some x ∧ x.ls.length ≤ 1000000000000 ∧ x.ks.length ≤ 1000000000000) (i : Int) (hi : -4611686018427387904 ≤ i ∧ i ≤ 4611686018427387904) :
    Calls Tryz.prog 188 #[.int .i64 i, .pointer (some ⟨bk, 0, none⟩), .pointer (some ⟨bt, 0, none⟩)] W fun e w' => e = .returned (.int .i64 ((szk (pus L) ks i : Nat) : Int)) ∧ ∃ q, w' = W.drewN q := by
  have k0 := h.kids
  have t0 := h.tree
  have b0 := h.tw.c0
  have hfit := h.tw.fit
  have hle := h.tw.le
  unfold maxLen at hfit
  obtain ⟨hl1, hl2, hl3⟩ := h.row.len
  unfold maxLen at hl3
  by_cases h0 : i < 0
  · have hz := Lib.hid (show szk (pus L) ks i = 0 by unfold szk; rw [if_neg (by omega)])
    go_enter Tryz.func188, Tryz.ntmps188
    go_wp2
    go_ret
    exact ⟨by rw [hz.out]; rfl, 0, rfl⟩
  · by_cases h1 : i < ks.length
    · obtain ⟨j, rfl⟩ := Int.eq_ofNat_of_zero_le (show 0 ≤ i by omega)
      have hj : j < ks.length := by omega
      obtain ⟨x, hx, hxl, hxk⟩ := hk ks[j] (List.getElem_mem hj)
      have hz : szk (pus L) ks (j : Int) = x.ls.length + x.ks.length := by
        unfold szk
        rw [if_pos (by omega), show ((j : Int)).toNat = j by simp, List.getD_eq_getElem?_getD, List.getElem?_eq_getElem hj]
        rw [show (some ks[j]).getD 0 = ks[j] from rfl, pus_nd hx]
        rfl
      have HZ := Lib.hid hz
      have kc := h.row.cell (cK_at (List.getElem?_eq_getElem hj))
      have hxL := (List.getElem?_eq_some_iff.1 hx).1
      obtain ⟨q, hq⟩ : ∃ q, q = ks[j] := ⟨_, rfl⟩
      rw [← hq] at kc hxL hx
      have hxL' : (q : Int) < L.length := by omega
      have HX := Lib.hid hx
      have HT := Lib.hid h.tw
      have h0' : ¬ ((j : Int) < 0) := by omega
      clear hx hz hq h hk h0
      go_enter Tryz.func188, Tryz.ntmps188
      go_wp2
      all_goals first | (exfalso; omega) | skip
      go_quiet ((go_at_call 100; exact Calls.quiet_of (size_any (HT.out.drewN _) HX.out hxl hxk)))
      go_wp2
      go_ret
      exact ⟨by rw [HZ.out]; simp, _, rfl⟩
    · have hz := Lib.hid (show szk (pus L) ks i = 0 by unfold szk; rw [if_neg (by omega)])
      have h0' : ¬ i < 0 := by omega
      go_enter Tryz.func188, Tryz.ntmps188
      go_wp2
      all_goals first | (exfalso; omega) | skip
      go_ret
      exact ⟨by rw [hz.out]; rfl, 0, rfl⟩
end Go.Proofs.YtdhemdeapphfoaaGreatDoor
