/- edit: Shift, back; the document's Shift, less: one function of the texts. -/
import Derived.Test.YtdkdoomjihflbaaDoorEdJ3
namespace Go.Proofs.YtdkdoomjihflbaaDoor
open Go.RowKit Go.Proofs.YtdkdoomjihflbaaDoorW.PrintWords

/-- how many blanks lead, eight at most -/
def lead (l : List UInt8) : Nat := min (l.takeWhile (· == 32)).length 8
/-- a line without a shift -/
def backB (s : ByteArray) : ByteArray := if s.data.toList.head? = some 9 then s.extract 1 s.size else s.extract (lead s.data.toList) s.size

theorem lead_le (l : List UInt8) : lead l ≤ l.length := by
  unfold lead
  have := (List.takeWhile_sublist (p := fun x : UInt8 => x == 32) (l := l)).length_le
  omega

theorem backB_size (s : ByteArray) : (backB s).size ≤ s.size := by
  unfold backB
  split <;> simp

theorem trim_lead (l : List UInt8) : l.length - (l.dropWhile (· == 32)).length = (l.takeWhile (· == 32)).length := by
  have h := List.takeWhile_append_dropWhile (p := fun x : UInt8 => x == 32) (l := l)
  have := congrArg List.length h
  rw [List.length_append] at this
  omega

theorem ext_list {a b : ByteArray} (h : a.data.toList = b.data.toList) : a = b := by
  cases a; cases b
  rename_i x y
  have : x = y := Array.toList_inj.1 h
  rw [this]

theorem extract_list (s : ByteArray) (k : Nat) : (s.extract k s.size).data.toList = s.data.toList.drop k := by
  rw [ByteArray.data_extract, Array.toList_extract]
  have : s.size = s.data.toList.length := Array.length_toList.symm
  rw [this]
  simp only [List.extract]
  exact List.take_of_length_le (by simp)

set_option maxRecDepth 100000 in
theorem back_any (s : ByteArray) (hs : s.size ≤ 1000000) (w : World) :
    Calls Tryd.prog 22 #[.string s] w fun e w' => e = .returned (.string (backB s)) ∧ w = w' := by
  have HC : Hid (∀ w, Calls Tryd.prog 26 #[.string s, .string ⟨#[9]⟩] w fun e w' => e = .returned (.tuple #[.string ⟨(Lib.trimPrefix s.data.toList [9]).toArray⟩, .bool (Lib.hasPrefix s.data.toList [9])]) ∧ w' = w) := fun w => Tryd.strings_CutPrefix s ⟨#[9]⟩ w
  have HT : Hid (∀ w, Calls Tryd.prog 18 #[.string s, .string ⟨#[32]⟩] w fun e w' => e = .returned (.string ⟨(Lib.trimLeftB s.data.toList 32).toArray⟩) ∧ w' = w) := fun w => Tryd.strings_TrimLeft_one s 32 (by decide) w
  by_cases h9 : s.data.toList.head? = some 9
  · obtain ⟨xs, hx⟩ : ∃ xs, s.data.toList = 9 :: xs := by
      cases e : s.data.toList with
      | nil => rw [e] at h9; cases h9
      | cons x xs => rw [e] at h9; simp at h9; subst h9; exact ⟨xs, rfl⟩
    have hp : Lib.hasPrefix s.data.toList [9] = true := by rw [hx]; rfl
    have ht : (⟨(Lib.trimPrefix s.data.toList [9]).toArray⟩ : ByteArray) = backB s := by
      unfold Lib.trimPrefix backB
      rw [if_pos hp, if_pos h9]
      exact ext_list (by rw [extract_list]; show s.data.toList.drop 1 = _; rfl)
    rw [hp, ht] at HC
    obtain ⟨r, hr⟩ : ∃ r, backB s = r := ⟨_, rfl⟩
    rw [hr] at HC ⊢
    clear hx hp ht hr h9 HT
    go_enter Tryd.func22, Tryd.ntmps22
    go_wp2_with (first
      | (go_at_call 26; (with_reducible refine (HC.out _).mono ?_); rintro e w1 ⟨rfl, rfl⟩)
      | go_in)
    go_ret
    exact ⟨rfl, rfl⟩
  · have hp : Lib.hasPrefix s.data.toList [9] = false := by
      cases e : s.data.toList with
      | nil => rfl
      | cons x xs =>
        rw [e] at h9
        simp at h9
        show (([9] : List UInt8).isPrefixOf (x :: xs)) = false
        simp [List.isPrefixOf]
        exact fun h => h9 h.symm
    have ht : (⟨(Lib.trimPrefix s.data.toList [9]).toArray⟩ : ByteArray) = s := by
      unfold Lib.trimPrefix
      rw [if_neg (by rw [hp]; simp)]
    rw [hp, ht] at HC
    obtain ⟨t, htr⟩ : ∃ t : ByteArray, ⟨(Lib.trimLeftB s.data.toList 32).toArray⟩ = t := ⟨_, rfl⟩
    rw [htr] at HT
    obtain ⟨m, hm⟩ : ∃ m : Nat, (s.data.toList.takeWhile (· == 32)).length = m := ⟨_, rfl⟩
    have hsz : s.data.toList.length = s.size := Array.length_toList
    have htz : t.size = (s.data.toList.dropWhile (· == 32)).length := by
      rw [← htr]
      show (Lib.trimLeftB s.data.toList 32).toArray.size = _
      simp [Lib.trimLeftB]
    have hsum := trim_lead s.data.toList
    have hle : (s.data.toList.dropWhile (· == 32)).length ≤ s.data.toList.length := (List.dropWhile_sublist _).length_le
    have hd : (s.size : Int) - (t.size : Int) = (m : Int) := by omega
    have hb : backB s = s.extract (min m 8) s.size := by
      unfold backB lead
      rw [if_neg h9, hm]
    have hmle : m ≤ s.size := by omega
    rw [hb]
    clear hp ht htr hm hsz htz hsum hle hb h9
    go_enter Tryd.func22, Tryd.ntmps22
    have hmin : (min (m : Int) 8).toNat = min m 8 := by omega
    have HM := Lib.hid hmin
    clear hmin
    go_wp2_with (first
      | (go_at_call 26; (with_reducible refine (HC.out _).mono ?_); rintro e w1 ⟨rfl, rfl⟩)
      | (go_at_call 18; (with_reducible refine (HT.out _).mono ?_); rintro e w1 ⟨rfl, rfl⟩)
      | go_in)
    go_ret
    refine ⟨?_, rfl⟩
    show Ending.returned (Value.string (s.extract (min (m : Int) 8).toNat s.size)) = _
    rw [HM.out]

end Go.Proofs.YtdkdoomjihflbaaDoor
