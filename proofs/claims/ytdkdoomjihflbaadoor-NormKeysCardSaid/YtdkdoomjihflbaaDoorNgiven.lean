/- strings.Cut at the byte 27, in the printer's form. -/
import Derived.Test.YtdkdoomjihflbaaDoorNT2
import Derived.Test.YtdkdoomjihflbaaDoorNmP
namespace Go.Proofs.YtdkdoomjihflbaaDoor.NT
open Go.RowKit Go.Proofs.YtdkdoomjihflbaaDoorW.PrintWords

theorem index27 (l : List UInt8) : Lib.indexByte l 27 = if l.dropWhile notE = [] then -1 else ((l.takeWhile notE).length : Int) := by
  induction l with
  | nil => rfl
  | cons x xs ih =>
    unfold Lib.indexByte
    by_cases hx : x = 27
    · subst hx
      have h2 : notE 27 = false := by decide
      rw [List.dropWhile_cons_of_neg (by simp [h2]), List.takeWhile_cons_of_neg (by simp [h2])]
      simp
    · have h1 : (x == 27) = false := by simpa using hx
      have h2 : notE x = true := by simp [notE, hx]
      rw [h1, List.dropWhile_cons_of_pos h2, List.takeWhile_cons_of_pos h2, ih, if_neg (by simp), List.length_cons]
      by_cases hd : xs.dropWhile notE = []
      · rw [if_pos hd, if_pos hd]
        rfl
      · rw [if_neg hd, if_neg hd]
        have : ¬ ((((List.takeWhile notE xs).length : Int) == -1) = true) := by simp
        rw [if_neg this]
        omega

def cut27 (l : List UInt8) : ByteArray × ByteArray × Bool := (ofL (l.takeWhile notE), ofL ((l.dropWhile notE).drop 1), !(l.dropWhile notE).isEmpty)
def strings_Cut.f (a0 a1 : ByteArray) : Option (ByteArray × ByteArray × Bool) := if a1 = ⟨#[27]⟩ ∧ a0.size ≤ 1000000 then some (cut27 a0.data.toList) else none

theorem take_len (p : UInt8 → Bool) (l : List UInt8) : l.take (l.takeWhile p).length = l.takeWhile p := by
  have h := List.takeWhile_append_dropWhile (p := p) (l := l)
  generalize l.takeWhile p = a at h ⊢
  generalize l.dropWhile p = b at h
  rw [← h]
  simp
theorem drop_len (p : UInt8 → Bool) (l : List UInt8) : l.drop (l.takeWhile p).length = l.dropWhile p := by
  have h := List.takeWhile_append_dropWhile (p := p) (l := l)
  generalize l.takeWhile p = a at h ⊢
  generalize l.dropWhile p = b at h ⊢
  rw [← h]
  simp
theorem extract_take (s : ByteArray) (k : Nat) : (s.extract 0 k).data.toList = s.data.toList.take k := by
  rw [ByteArray.data_extract, Array.toList_extract]
  simp

set_option maxRecDepth 100000 in
theorem slCut27 (s : ByteArray) (hs : s.size ≤ 1000000) (w : World) :
    Calls Tryd.prog 44 #[.string s, .string ⟨#[27]⟩] w fun e w' => e = .returned (.tuple #[.string (cut27 s.data.toList).1, .string (cut27 s.data.toList).2.1, .bool (cut27 s.data.toList).2.2]) ∧ Drawn0 w w' := by
  have HI : Hid (∀ w, Calls Tryd.prog 57 #[.string s, .string ⟨#[27]⟩] w fun e w' => e = .returned (.int .i64 (if s.data.toList.dropWhile notE = [] then -1 else ((s.data.toList.takeWhile notE).length : Int))) ∧ w' = w) := by
    intro w
    rw [← index27]
    exact Tryd.stringslite_Index_one s 27 w
  have hsz : s.data.toList.length = s.size := Array.length_toList
  have hsum := congrArg List.length (List.takeWhile_append_dropWhile (p := notE) (l := s.data.toList))
  rw [List.length_append] at hsum
  by_cases hd : s.data.toList.dropWhile notE = []
  · rw [if_pos hd] at HI
    have htw : s.data.toList.takeWhile notE = s.data.toList := by
      have h := List.takeWhile_append_dropWhile (p := notE) (l := s.data.toList)
      rw [hd, List.append_nil] at h
      exact h
    have e1 : (cut27 s.data.toList) = (s, ⟨#[]⟩, false) := by
      unfold cut27
      rw [hd, htw]
      rfl
    rw [e1]
    clear e1 htw hd hsum hsz
    go_enter Tryd.func44, Tryd.ntmps44
    go_wp2_with (first
      | (go_at_call 57; (with_reducible refine (HI.out _).mono ?_); rintro e w1 ⟨rfl, rfl⟩)
      | go_in)
    go_ret3
    exact ⟨rfl, Drawn0.refl _⟩
  · rw [if_neg hd] at HI
    obtain ⟨m, hm⟩ : ∃ m, (s.data.toList.takeWhile notE).length = m := ⟨_, rfl⟩
    have hdl : 0 < (s.data.toList.dropWhile notE).length := List.length_pos_iff.2 hd
    have hms : m + 1 ≤ s.size := by omega
    have e1 : (cut27 s.data.toList) = (s.extract 0 m, s.extract (m + 1) s.size, true) := by
      unfold cut27
      refine Prod.ext ?_ (Prod.ext ?_ ?_)
      · exact ext_list (by rw [extract_take, ← hm, take_len]; rfl)
      · refine ext_list ?_
        rw [extract_list, ← hm, ← List.drop_drop, drop_len]
        rfl
      · simpa using hd
    rw [e1]
    rw [hm] at HI
    clear e1 hd hm hsum hsz hdl
    go_enter Tryd.func44, Tryd.ntmps44
    go_wp2_with (first
      | (go_at_call 57; (with_reducible refine (HI.out _).mono ?_); rintro e w1 ⟨rfl, rfl⟩)
      | go_in)
    repeat (go_quiet (fail))
    go_wp2
    go_ret3
    first | exact ⟨rfl, ⟨⟨_, rfl⟩⟩⟩ | exact ⟨rfl, Drawn0.refl _⟩

set_option maxRecDepth 100000 in
theorem strings_Cut.calls (a0 a1 : ByteArray) (r1 r2 : ByteArray) (r3 : Bool) (w : World) (h : strings_Cut.f a0 a1 = some (r1, r2, r3)) :
    Calls Tryd.prog 27 #[.string a0, .string a1] w fun e w' => e = .returned (.tuple #[.string r1, .string r2, .bool r3]) ∧ Drawn0 w w' := by
  unfold strings_Cut.f at h
  split at h
  · rename_i hc
    obtain ⟨rfl, hs⟩ := hc
    injection h with h
    have HC : Hid (∀ w, Calls Tryd.prog 44 #[.string a0, .string ⟨#[27]⟩] w fun e w' => e = .returned (.tuple #[.string r1, .string r2, .bool r3]) ∧ Drawn0 w w') := by
      intro w
      have := slCut27 a0 hs w
      rw [h] at this
      exact this
    clear h
    go_enter Tryd.func27, Tryd.ntmps27
    go_wp2_with (first
      | (go_at_call 44; (with_reducible refine (HC.out _).mono ?_); rintro e w1 ⟨rfl, hq⟩)
      | go_in)
    go_ret3
    exact ⟨rfl, hq⟩
  · cases h

end Go.Proofs.YtdkdoomjihflbaaDoor.NT
