/- The tree's New, Lines and Part, walked. -/
import Derived.Test.YtdhemdeapphfoaaGreatDoorBtX
set_option linter.unusedVariables false
set_option linter.unusedSimpArgs false
namespace Go.Proofs.YtdhemdeapphfoaaGreatDoor
open Go.RowKit Go.Shelf Go.Proofs.YtdhemdeapphfoaaGreatDoorW.PrintWords Go.Proofs.YtdhemdeapphfoaaGreatDoorW.PrintLast

def NewPost (w : World) (xs : List ByteArray) (e : Ending) (w' : World) : Prop :=
  ∃ B, e = .returned (.pointer (some ⟨B, 0, none⟩)) ∧ w.heap.size ≤ B ∧ TreeIs w' (fun b => w.heap.size ≤ b) B xs ∧ Chg (fun b => w.heap.size ≤ b) w w'

theorem tree_empty (w : World) {F : Nat → Prop} (hF : ∀ b, w.heap.size ≤ b → F b) :
    TreeIs ((w.alloc (.cells #[.slice none 0 0, .slice none 0 0, .int .i64 0] 100)).alloc (.cells #[.slice (some ⟨w.heap.size, 0, none⟩) 1 1, .slice none 0 0, .int .i64 0, .int .i64 0] 74)) F (w.heap.size + 1) [] := by
  refine ⟨[Bt.Nd.z], [], 0, 0, ⟨0, [], [0]⟩, ⟨w.heap.size, 1, .slice none 0 0, 0, [⟨.slice none 0 0, .slice none 0 0, [], [], 0⟩], ?_, rfl⟩, ⟨⟨rfl, rfl⟩, rfl, rfl, List.Perm.refl _, fun h => absurd rfl h, by simp⟩⟩
  have one : ∀ (k : Nat) (x : NV), [(⟨.slice none 0 0, .slice none 0 0, [], [], 0⟩ : NV)][k]? = some x → x = ⟨.slice none 0 0, .slice none 0 0, [], [], 0⟩ := fun k x h => by
    cases k with
    | zero => simpa using h.symm
    | succ k => simp at h
  exact {
    box := by
      rw [new_at _ _ (by simp) _]
      rfl
    row := ⟨[], by
      rw [Below.heap_alloc _ _ _ (by simp), heap_alloc_new]
      rfl, by simp [flat, NV.cells]⟩
    le := Nat.le_refl _
    fit := by unfold maxLen; omega
    free := Rw.nil _ _
    lines := fun k x h => by rw [one k x h]; exact Rw.nil _ _
    kids := fun k x h => by rw [one k x h]; exact Rw.nil _ _
    apartL := fun i j x y b h1 _ h3 _ => by rw [one i x h1] at h3; cases h3
    apartK := fun i j x y b h1 _ h3 _ => by rw [one i x h1] at h3; cases h3
    apartF := fun i x b h1 h3 => by rw [one i x h1] at h3; cases h3
    footB := hF _ (by omega)
    footN := hF _ (Nat.le_refl _)
    footF := fun b h => by cases h
    footL := fun k x b h1 h3 => by rw [one k x h1] at h3; cases h3
    footK := fun k x b h1 h3 => by rw [one k x h1] at h3; cases h3 }

theorem insAt_take {xs : List ByteArray} {k : Nat} {x : ByteArray} (h : xs[k]? = some x) : Bt.insAt (xs.take k) k x = xs.take (k + 1) := by
  obtain ⟨hk, rfl⟩ := List.getElem?_eq_some_iff.1 h
  unfold Bt.insAt
  rw [List.take_of_length_le (by rw [List.length_take]; omega), List.drop_of_length_le (by rw [List.length_take]; omega), List.take_succ_eq_append_getElem hk]

set_option maxRecDepth 100000 in
set_option maxHeartbeats 1000000 in
theorem New_any {w : World} {xs : List ByteArray} {v : Value} (hv : Ls w (fun _ => True) v xs) (hb : xs.length + 2 ≤ 1000000000) (hx : ∀ x ∈ xs, x.size ≤ 1000000000) :
    Calls Tryz.prog 18 #[v] w (NewPost w xs) := by
  obtain ⟨A, c, rfl, hlc, hcm, hA⟩ := hv
  unfold maxLen at hcm
  have HA := Lib.hid hA
  have HX := Lib.hid hx
  have HT0 := Lib.hid (tree_empty w (F := fun b => w.heap.size ≤ b) (fun _ h => h))
  clear hA hx
  have hmk : ∀ W : World, (Instr.makeSlice 71 (.int .i64 1) (.int .i64 1)).run Tryz.prog W = .ok (.slice (some ⟨W.heap.size, 0, none⟩) 1 1) (W.alloc (.cells #[.slice none 0 0, .slice none 0 0, .int .i64 0] 100)) := fun _ => by kernel_rfl
  go_enter Tryz.func18, Tryz.ntmps18
  go_wp2
  go_loopw [11] (fun v11 wr => ∃ k : Nat, v11 = .int .i64 k ∧ k ≤ xs.length ∧ TreeIs wr (fun b => w.heap.size ≤ b) (w.heap.size + 1) (xs.take k) ∧ Chg (fun b => w.heap.size ≤ b) w wr) (fun v11 _ => xs.length - (intOf v11).toNat)
  case atStart => exact ⟨0, rfl, Nat.zero_le _, HT0.out, ((Chg.refl _ w).alloc _).alloc _⟩
  case round =>
    obtain ⟨k, rfl, hk, ht, hc⟩ := hrel
    have HTk := Lib.hid ht
    have HCk := Lib.hid hc
    clear ht hc HT0
    by_cases hlt : k < xs.length
    · have hlt' : (k : Int) < xs.length := by omega
      obtain ⟨b, o, rfl, _, hbl, hcell⟩ := HA.out (by omega)
      have hkx := List.getElem?_eq_getElem hlt
      obtain ⟨x, hxe⟩ : ∃ x, x = xs[k] := ⟨_, rfl⟩
      rw [← hxe] at hkx
      have hkc := (World.cell?_of_block (w := w) (a := ⟨b, o + k, none⟩) (HCk.out.block b hbl (by omega))).trans (hcell k x hkx)
      have htk : (xs.take k).length = k := by rw [List.length_take]; omega
      have hins := Insert_any HTk.out (i := k) (line := x) (by rw [htk]; omega) (by rw [htk]; omega) (fun b hb => Nat.le_trans HCk.out.size hb) (HX.out x (List.mem_of_getElem? hkx))
      rw [insAt_take hkx] at hins
      have HINS := Lib.hid hins
      clear hins hxe hkx hcell hbl htk
      go_wp2_with fail
      go_at_call 31
      refine HINS.out.mono ?_
      rintro e w2 ⟨rfl, ht2, hc2⟩
      have HT2 := Lib.hid ht2
      have HC2 := Lib.hid (HCk.out.trans hc2)
      clear ht2 hc2 hkc
      go_wp2
      go_roundw
      case rel => first | exact ⟨k + 1, by go_num, by omega, HT2.out, HC2.out⟩ | ((repeat apply Exists.intro); exact ⟨⟨k + 1, by go_num, by omega, HT2.out, HC2.out⟩, rfl⟩)
      case measure => simp [intOf]; omega
    · obtain rfl : k = xs.length := by omega
      have hT4 := HTk.out
      rw [List.take_length] at hT4
      have HT4 := Lib.hid hT4
      clear hT4 HTk
      go_wp2
      go_ret
      exact ⟨_, rfl, by omega, HT4.out, HCk.out⟩
end Go.Proofs.YtdhemdeapphfoaaGreatDoor
