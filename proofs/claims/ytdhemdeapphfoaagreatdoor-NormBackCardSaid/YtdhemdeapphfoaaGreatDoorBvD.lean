/- buf's Splice, walked (what it does when it does it). -/
import Derived.Test.YtdhemdeapphfoaaGreatDoorBvC
set_option linter.unusedVariables false
set_option linter.unusedSimpArgs false
namespace Go.Proofs.YtdhemdeapphfoaaGreatDoor
open Go.RowKit Go.Shelf Go.Maps Go.Proofs.YtdhemdeapphfoaaGreatDoorW.PrintWords Go.Proofs.YtdhemdeapphfoaaGreatDoorW.PrintLast

def putS (s : Bs) (n : Int) : Bs := { s with cur := min (max n 1) s.ls.length }
def marS (s : Bs) (line m lines : Int) : Bs := { s with mar := splF s.mar line m lines }
def sputs (size k : Nat) (xs : List ByteArray) : List ByteArray := if k = size ∧ xs = [] then [⟨#[]⟩] else xs
def spliceS (s : Bs) (i k : Nat) (xs : List ByteArray) : Bs := putS (marS (changeS s i k xs) (i + 1) k xs.length) s.cur

theorem below_drewN {N : Nat} (w : World) (q : Nat) : Below N w (w.drewN q) := ⟨rfl, rfl, rfl, Nat.le_refl _, fun _ _ => rfl⟩
section
variable {N0 : Nat} {w0 : Base} {w w' : World} {col : Nat → Nat} {B T p1 U : Nat} {s : Bs} {vl vm vo : Value} {L : List DV}
set_option maxRecDepth 100000 in
set_option maxHeartbeats 1000000 in
theorem bsplice_any (h : Bf N0 w0 w B s) {G : Nat → Prop} {v : Value} {xs : List ByteArray} (hv : Ls w G v xs) {i k : Nat} {a : Int} (ha : a = i + 1) (hi : i + k ≤ s.ls.length) (hl : s.ls.length + xs.length ≤ k + 2000) (hsl : s.ls.length ≤ 1000000) (hpos : 0 < s.ls.length) (hlg : isLong xs = false) (hne : ¬ (k < 1 ∧ xs.length < 1)) (hx : ∀ x ∈ xs, x.size ≤ 1000000000) (ho : s.opn.length ≤ 1000000) (hnm : s.nm < maxLen) :
    Calls Tryz.prog 62 #[.pointer (some ⟨B, 0, none⟩), .int .i64 a, .int .i64 k, v] w (BfPost N0 w0 B (spliceS s i k (sputs s.ls.length k xs)) (.int .u16 0)) := by
  obtain ⟨col, T, p1, U, vl, vm, vo, L, h⟩ := h
  have k0 : w.cell? ⟨B, 0, none⟩ = some (.pointer (some ⟨T, 0, none⟩)) := by rw [blk_cell h.box]; rfl
  have HL := Lib.hid (len_is h.tree)
  have hlong : ∀ W, Below w.heap.size w W → Calls Tryz.prog 17 #[v] W fun e w' => e = .returned (.bool false) ∧ Below W.heap.size W w' := fun W hb => by
    have := long_any (hv.step hb.size fun b hlt _ => hb.block b hlt) (by omega)
    rw [hlg] at this
    exact this
  have HLG := Lib.hid hlong
  have hclo : ∀ W, Below w.heap.size w W → Calls Tryz.prog 46 #[v] W (OwnPost W.heap.size W xs) := fun W hb => cloL (hv.step hb.size fun b hlt _ => hb.block b hlt) (by omega)
  have HCLO := Lib.hid hclo
  have HH := Lib.hid (And.intro h hv)
  obtain ⟨Av, cv, hvs, _⟩ := id hv
  subst hvs
  have HX := Lib.hid hx
  subst ha
  have hi1 : ¬ ((i : Int) + 1 < 1) := by omega
  have hi2 : ¬ ((s.ls.length : Int) + 1 < (i : Int) + 1) := by omega
  have hl' : (s.ls.length : Int) - k + xs.length ≤ 2000 := by omega
  clear h hv hlong hclo hlg hx
  go_enter Tryz.func62, Tryz.ntmps62
  go_wp2_with (first
    | (go_at_call 22; refine HL.out.mono ?_; rintro e wa ⟨rfl, q, rfl⟩)
    | (go_at_call 17; refine (HLG.out _ (below_drewN w q)).mono ?_; rintro e wb ⟨rfl, hb⟩; have HB := Lib.hid (below_then (below_drewN w q) (Nat.le_refl _) hb); clear hb))
  all_goals
    refine (HCLO.out _ HB.out).mono ?_
    rintro e w3 ⟨v3, rfl, h31, h32, h33⟩
    obtain ⟨A3, c3, hv3, _⟩ := h31.slice
    rw [cS_len] at hv3
    subst hv3
    have b3 := (HH.out.1.onNew 8 (by decide) HB.out).onNew 8 (by decide) h33
    have o3 := (loc_ls _ _).fresh (col := recol col w.heap.size 8) (i := 8) (n := wb.heap.size) ((Ls.of_rw h31).wide fun b _ hb => h32 b hb)
    have H3 := Lib.hid (And.intro b3 o3)
    clear b3 o3 h31 h32 h33
    go_wp2_with fail
  · obtain rfl : k = 0 := by omega
    have hxne : ¬ (0 = s.ls.length ∧ xs = []) := by
      rintro ⟨e1, e2⟩
      omega
    have HXNE := Lib.hid hxne
    clear hxne
    have hk := change_any H3.out.1 H3.out.2 (i := i) (k := 0) rfl (by omega) (by omega) HX.out ho
    have HCH := Lib.hid hk
    clear hk
    go_at_call 82
    refine HCH.out.mono ?_
    rintro e w5 ⟨rfl, col5, T5, p5, U5, vl5, vm5, vo5, L5, b5⟩
    have k4 : w5.cell? ⟨B, 4, none⟩ = some (.pointer (some ⟨p5, 0, none⟩)) := by rw [blk_cell b5.box]; rfl
    have HM := Lib.hid (splice_mk ((loc_mk _ _ _).open b5.mar) hnm)
    have H5 := Lib.hid b5
    clear b5
    go_wp2_with fail
    go_at_call 83
    refine (HM.out _ _ _).mono ?_
    rintro e w6 ⟨rfl, h61, h62⟩
    have b6 := H5.out.onMarks h62 h61
    have k7 : w6.cell? ⟨B, 7, none⟩ = some (.int .i64 s.cur) := by rw [blk_cell b6.box]; rfl
    have HP := Lib.hid (put_bw b6)
    clear b6 h61 h62 k4 k0
    go_wp2_with fail
    go_at_call 9
    refine (HP.out _).mono ?_
    rintro e w7 ⟨rfl, b7, _⟩
    have H7 := Lib.hid b7
    clear b7
    go_wp2
    go_ret
    refine ⟨rfl, ?_⟩
    have hsp : sputs s.ls.length 0 xs = xs := by
      rw [sputs, if_neg HXNE.out]
    rw [hsp]
    exact ⟨_, _, _, _, _, _, _, _, H7.out⟩
  · obtain rfl : k = s.ls.length := by omega
    have hx0 : xs.length = 0 := by
      have h9 : ((xs.length : Int) == 0) = true := by assumption
      simpa using h9
    obtain rfl : i = 0 := by omega
    have b4 := H3.out.1.onNew 8 (by decide) (below_alloc (Below.refl _ w3) (.cells #[.string ⟨#[]⟩] 9))
    have o4 : Ls (w3.alloc (.cells #[.string ⟨#[]⟩] 9)) (fun b => recol (recol (recol col w.heap.size 8) wb.heap.size 8) w3.heap.size 8 b = 8) (.slice (some ⟨w3.heap.size, 0, none⟩) 1 1) [⟨#[]⟩] := by
      refine ⟨_, 1, rfl, Nat.le_refl _, by decide, fun _ => ⟨w3.heap.size, 0, rfl, recol_new (Nat.le_refl _), by simp, fun j x hj => ?_⟩⟩
      match j, hj with
      | 0, hj =>
        cases hj
        rw [blk_cell (World.alloc_heap_new w3 _)]
        rfl
    have hk := change_any b4 o4 (i := 0) (k := s.ls.length) rfl (by omega) (by simp; omega) (by intro x hx; simp at hx; subst hx; decide) ho
    have HCH := Lib.hid hk
    clear hk b4 o4
    go_at_call 82
    refine HCH.out.mono ?_
    rintro e w5 ⟨rfl, col5, T5, p5, U5, vl5, vm5, vo5, L5, b5⟩
    have k4 : w5.cell? ⟨B, 4, none⟩ = some (.pointer (some ⟨p5, 0, none⟩)) := by rw [blk_cell b5.box]; rfl
    have HM := Lib.hid (splice_mk ((loc_mk _ _ _).open b5.mar) hnm)
    have H5 := Lib.hid b5
    clear b5
    go_wp2_with fail
    go_at_call 83
    refine (HM.out _ _ _).mono ?_
    rintro e w6 ⟨rfl, h61, h62⟩
    have b6 := H5.out.onMarks h62 h61
    have k7 : w6.cell? ⟨B, 7, none⟩ = some (.int .i64 s.cur) := by rw [blk_cell b6.box]; rfl
    have HP := Lib.hid (put_bw b6)
    clear b6 h61 h62 k4 k0
    go_wp2_with fail
    go_at_call 9
    refine (HP.out _).mono ?_
    rintro e w7 ⟨rfl, b7, _⟩
    have H7 := Lib.hid b7
    clear b7
    go_wp2
    go_ret
    refine ⟨rfl, ?_⟩
    have hsp : sputs s.ls.length s.ls.length xs = [⟨#[]⟩] := by
      rw [sputs, if_pos ⟨rfl, List.eq_nil_of_length_eq_zero hx0⟩]
    rw [hsp]
    exact ⟨_, _, _, _, _, _, _, _, H7.out⟩
  · obtain rfl : k = s.ls.length := by omega
    have hxne : ¬ (s.ls.length = s.ls.length ∧ xs = []) := by
      rintro ⟨e1, e2⟩
      have h9 : ((xs.length : Int) == 0) = false := by assumption
      rw [e2] at h9
      cases h9
    have hxe : xs ≠ [] := fun e => hxne ⟨rfl, e⟩
    have HXNE := Lib.hid hxe
    clear hxne hxe
    have hk := change_any H3.out.1 H3.out.2 (i := i) (k := s.ls.length) rfl (by omega) (by omega) HX.out ho
    have HCH := Lib.hid hk
    clear hk
    go_at_call 82
    refine HCH.out.mono ?_
    rintro e w5 ⟨rfl, col5, T5, p5, U5, vl5, vm5, vo5, L5, b5⟩
    have k4 : w5.cell? ⟨B, 4, none⟩ = some (.pointer (some ⟨p5, 0, none⟩)) := by rw [blk_cell b5.box]; rfl
    have HM := Lib.hid (splice_mk ((loc_mk _ _ _).open b5.mar) hnm)
    have H5 := Lib.hid b5
    clear b5
    go_wp2_with fail
    go_at_call 83
    refine (HM.out _ _ _).mono ?_
    rintro e w6 ⟨rfl, h61, h62⟩
    have b6 := H5.out.onMarks h62 h61
    have k7 : w6.cell? ⟨B, 7, none⟩ = some (.int .i64 s.cur) := by rw [blk_cell b6.box]; rfl
    have HP := Lib.hid (put_bw b6)
    clear b6 h61 h62 k4 k0
    go_wp2_with fail
    go_at_call 9
    refine (HP.out _).mono ?_
    rintro e w7 ⟨rfl, b7, _⟩
    have H7 := Lib.hid b7
    clear b7
    go_wp2
    go_ret
    refine ⟨rfl, ?_⟩
    have hsp : sputs s.ls.length s.ls.length xs = xs := by
      unfold sputs; exact if_neg (fun h => HXNE.out h.2)
    rw [hsp]
    exact ⟨_, _, _, _, _, _, _, _, H7.out⟩
  · skip
    have hxne : ¬ (k = s.ls.length ∧ xs = []) := by
      rintro ⟨e1, e2⟩
      omega
    have HXNE := Lib.hid hxne
    clear hxne
    have hk := change_any H3.out.1 H3.out.2 (i := i) (k := k) rfl (by omega) (by omega) HX.out ho
    have HCH := Lib.hid hk
    clear hk
    go_at_call 82
    refine HCH.out.mono ?_
    rintro e w5 ⟨rfl, col5, T5, p5, U5, vl5, vm5, vo5, L5, b5⟩
    have k4 : w5.cell? ⟨B, 4, none⟩ = some (.pointer (some ⟨p5, 0, none⟩)) := by rw [blk_cell b5.box]; rfl
    have HM := Lib.hid (splice_mk ((loc_mk _ _ _).open b5.mar) hnm)
    have H5 := Lib.hid b5
    clear b5
    go_wp2_with fail
    go_at_call 83
    refine (HM.out _ _ _).mono ?_
    rintro e w6 ⟨rfl, h61, h62⟩
    have b6 := H5.out.onMarks h62 h61
    have k7 : w6.cell? ⟨B, 7, none⟩ = some (.int .i64 s.cur) := by rw [blk_cell b6.box]; rfl
    have HP := Lib.hid (put_bw b6)
    clear b6 h61 h62 k4 k0
    go_wp2_with fail
    go_at_call 9
    refine (HP.out _).mono ?_
    rintro e w7 ⟨rfl, b7, _⟩
    have H7 := Lib.hid b7
    clear b7
    go_wp2
    go_ret
    refine ⟨rfl, ?_⟩
    have hsp : sputs s.ls.length k xs = xs := by
      rw [sputs, if_neg HXNE.out]
    rw [hsp]
    exact ⟨_, _, _, _, _, _, _, _, H7.out⟩
end
end Go.Proofs.YtdhemdeapphfoaaGreatDoor
