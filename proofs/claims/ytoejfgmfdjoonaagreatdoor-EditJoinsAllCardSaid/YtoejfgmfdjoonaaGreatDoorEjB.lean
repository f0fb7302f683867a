/- the law's bare, walked. -/
import Derived.Test.YtoejfgmfdjoonaaGreatDoorEaP
import Derived.Laws.DeepStrings4
set_option linter.unusedVariables false
set_option linter.unusedSimpArgs false
namespace Go.Proofs.YtoejfgmfdjoonaaGreatDoor
open Go.RowKit Go.Proofs.YtoejfgmfdjoonaaGreatDoorW.PrintWords

theorem bareL_snoc_t {l : List UInt8} {c : UInt8} (h : blankB c = false) : bareL (l ++ [c]) = bareL l ++ [c] := by simp [bareL, List.filter_append, h]
theorem bareL_snoc_f {l : List UInt8} {c : UInt8} (h : blankB c = true) : bareL (l ++ [c]) = bareL l := by simp [bareL, List.filter_append, h]
def bareN (s : ByteArray) (j : Nat) : ByteArray := ⟨(bareL (s.data.toList.take j)).toArray⟩
theorem take_byte (s : ByteArray) (j : Nat) (h : j < s.size) : s.data.toList.take (j + 1) = s.data.toList.take j ++ [s[j]] := by
  have := byte_at s j h
  obtain ⟨h1, h2⟩ := List.getElem?_eq_some_iff.1 this
  rw [List.take_succ_eq_append_getElem h1, h2]
theorem ext_one (s : ByteArray) (j : Nat) (h : j < s.size) : (s.extract j (j + 1)).data.toList = [s[j]] := by
  have := byte_at s j h
  obtain ⟨h1, h2⟩ := List.getElem?_eq_some_iff.1 this
  have hs : s.size = s.data.toList.length := by simp
  have e : (s.extract j (j + 1)).data.toList = (s.data.toList.drop j).take 1 := by
    simp [ByteArray.data_extract, Array.toList_extract, List.extract]
  rw [e, List.drop_eq_getElem_cons h1, h2]
  rfl
theorem bareN_skip {s : ByteArray} {j : Nat} (h : j < s.size) (hb : blankB s[j] = true) : bareN s (j + 1) = bareN s j := by
  unfold bareN
  rw [take_byte s j h, bareL_snoc_f hb]
theorem bareN_keep {s : ByteArray} {j : Nat} (h : j < s.size) (hb : blankB s[j] = false) : bareN s (j + 1) = bareN s j ++ s.extract j (j + 1) := by
  apply ba_ext
  unfold bareN
  rw [take_byte s j h, bareL_snoc_t hb]
  have h2 := ext_one s j h
  simp only [ByteArray.data_append, Array.toList_append, h2]
theorem bareN_all (s : ByteArray) : bareN s s.size = bareB s := by
  unfold bareN bareB
  rw [List.take_of_length_le (by simp)]

theorem bareN_size (s : ByteArray) (j : Nat) : (bareN s j).size ≤ s.size := by
  have h1 : (bareN s j).size = (bareL (s.data.toList.take j)).length := by simp only [bareN, ByteArray.size, List.size_toArray]
  have h2 : (bareL (s.data.toList.take j)).length ≤ (s.data.toList.take j).length := List.length_filter_le _ _
  have h3 : s.data.toList.length = s.size := by simp only [ByteArray.size, Array.length_toList]
  rw [List.length_take] at h2
  omega

set_option maxRecDepth 100000 in
set_option maxHeartbeats 1000000 in
theorem bare_any (s : ByteArray) (hs : s.size ≤ 100000000) (w : World) : Calls Tryz.prog 16 #[.string s] w fun e w' => e = .returned (.string (bareB s)) ∧ w' = w := by
  go_enter Tryz.func16, Tryz.ntmps16
  go_wp2
  go_loop [3, 4] (fun v3 v4 => ∃ j : Nat, v3 = .string (bareN s j) ∧ v4 = .int .i64 j ∧ j ≤ s.size) (fun _ v4 => s.size - (intOf v4).toNat)
  case atStart => exact ⟨0, by simp [bareN, bareL], rfl, Nat.zero_le _⟩
  case round =>
    obtain ⟨j, rfl, rfl, hj⟩ := hrel
    by_cases hlt : j < s.size
    · have hlt' : (j : Int) < s.size := by omega
      have hlt2 : (j : Int) + 1 ≤ s.size := by omega
      have hsz := Nat.le_trans (bareN_size s j) hs
      have hse : (s.extract j (j + 1)).size ≤ 1 := by simp; omega
      have hbi := blank_int s[j]
      have H1 := Lib.hid (bareN_skip hlt)
      have H2 := Lib.hid (bareN_keep hlt)
      cases h32 : ((s[j].toNat : Int) == 32) <;> cases h9 : ((s[j].toNat : Int) == 9)
      all_goals
        rw [h32, h9] at hbi
        simp only [Bool.or_false, Bool.or_true, Bool.or_self, Bool.false_or, Bool.true_or] at hbi
        first | (have HE := Lib.hid (H1.out hbi.symm)) | (have HE := Lib.hid (H2.out hbi.symm))
        clear hbi H1 H2
        have g32 := congrArg not h32
        have g9 := congrArg not h9
        simp only [Bool.not_false, Bool.not_true] at g32 g9
        change ((s[j].toNat : Int) != 32) = _ at g32
        change ((s[j].toNat : Int) != 9) = _ at g9
        go_wp2
        go_round
        case rel => exact ⟨j + 1, by rw [HE.out], by go_num, by omega⟩
        case measure => simp [intOf]; omega
    · obtain rfl : j = s.size := by omega
      have hlt' : ¬ (s.size : Int) < s.size := by omega
      go_wp2
      go_ret
      refine ⟨?_, rfl⟩
      show Ending.returned (.string (bareN s s.size)) = _
      rw [bareN_all]
end Go.Proofs.YtoejfgmfdjoonaaGreatDoor
