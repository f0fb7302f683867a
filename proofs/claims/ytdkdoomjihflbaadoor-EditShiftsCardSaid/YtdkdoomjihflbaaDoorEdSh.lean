/- edit.Shift and the document's Shift, walked: one function of the text. -/
import Derived.Test.YtdkdoomjihflbaaDoorEdL
namespace Go.Proofs.YtdkdoomjihflbaaDoor
open Go.RowKit Go.Proofs.YtdkdoomjihflbaaDoorW.PrintWords

def iterB : Nat → ByteArray → ByteArray
  | 0, s => s
  | t + 1, s => iterB t (backB s)

def tabs (t : Nat) (s : ByteArray) : ByteArray := ⟨(List.replicate t 9).toArray⟩ ++ s

def shiftT (times : Int) : Nat := (min (max times 0) 200).toNat
def shiftP (s : ByteArray) (times : Int) (left : Bool) : ByteArray := if s.toList.isEmpty = true then s else if left then iterB (shiftT times) s else tabs (shiftT times) s

theorem iterB_fix {s : ByteArray} (h : backB s = s) : ∀ t, iterB t s = s
  | 0 => rfl
  | t + 1 => by unfold iterB; rw [h]; exact iterB_fix h t

theorem iterB_size : ∀ t (s : ByteArray), (iterB t s).size ≤ s.size
  | 0, s => Nat.le_refl _
  | t + 1, s => by unfold iterB; exact Nat.le_trans (iterB_size t _) (backB_size s)

theorem backB_empty {s : ByteArray} (h : s.toList.isEmpty = true) : backB s = s := by
  rw [emp_iff] at h
  refine ext_list ?_
  have h0 : s.size = 0 := by show s.data.size = 0; rw [← Array.length_toList, h]; rfl
  have := backB_size s
  have h1 : (backB s).data.toList.length = 0 := by
    rw [Array.length_toList]
    show (backB s).size = 0
    omega
  rw [h, List.eq_nil_of_length_eq_zero h1]

theorem tabs_zero (s : ByteArray) : tabs 0 s = s := by
  unfold tabs
  exact ext_list (by simp)

theorem tabs_succ (t : Nat) (s : ByteArray) : (⟨#[9]⟩ : ByteArray) ++ tabs t s = tabs (t + 1) s := by
  unfold tabs
  exact ext_list (by simp [List.replicate_succ])

theorem repeat9 (t : Nat) : (⟨(Lib.repeatL (⟨#[9]⟩ : ByteArray).data.toList t).toArray⟩ : ByteArray) = ⟨(List.replicate t 9).toArray⟩ := by
  have : Lib.repeatL ([9] : List UInt8) t = List.replicate t 9 := by
    induction t with
    | zero => rfl
    | succ t ih => rw [Lib.repeatL, ih, List.replicate_succ]; rfl
  show (⟨(Lib.repeatL ([9] : List UInt8) t).toArray⟩ : ByteArray) = _
  rw [this]

set_option maxRecDepth 100000 in
theorem shift_any (s : ByteArray) (times : Int) (left : Bool) (hs : s.size ≤ 1000000) (w : World) :
    Calls Tryd.prog 14 #[.string s, .int .i64 times, .bool left] w fun e w' => e = .returned (.string (shiftP s times left)) ∧ Below w.heap.size w w' := by
  obtain ⟨T, hT⟩ : ∃ T, shiftT times = T := ⟨_, rfl⟩
  have hTi : min (max times 0) 200 = (T : Int) := by rw [← hT]; unfold shiftT; omega
  have hTb : T ≤ 200 := by rw [← hT]; unfold shiftT; omega
  have hP : shiftP s times left = if s.toList.isEmpty = true then s else if left then iterB T s else tabs T s := by unfold shiftP; rw [hT]
  rw [hP]
  clear hP hT
  by_cases he : s.toList.isEmpty = true
  · rw [if_pos he]
    go_enter Tryd.func14, Tryd.ntmps14
    go_wp2
    go_ret
    exact ⟨rfl, Below.refl _ _⟩
  · have hef : s.toList.isEmpty = false := by simpa using he
    rw [if_neg he]
    clear he
    cases left with
    | false =>
      have HR : Hid (∀ w, Calls Tryd.prog 21 #[.string ⟨#[9]⟩, .int .i64 T] w fun e w' => e = .returned (.string ⟨(List.replicate T 9).toArray⟩) ∧ Below w.heap.size w w') := by
        intro w
        have := Tryd.strings_Repeat ⟨#[9]⟩ T w (by omega) (by show 1 * T ≤ _; omega)
        rwa [repeat9] at this
      have hR : (⟨(List.replicate T 9).toArray⟩ : ByteArray).size ≤ 200 := by show (List.replicate T (9 : UInt8)).toArray.size ≤ 200; simpa using hTb
      show Calls _ _ _ _ fun e w' => e = .returned (.string (⟨(List.replicate T 9).toArray⟩ ++ s)) ∧ _
      obtain ⟨r, hr⟩ : ∃ r : ByteArray, ⟨(List.replicate T 9).toArray⟩ = r := ⟨_, rfl⟩
      rw [hr] at HR hR ⊢
      clear hr
      go_enter Tryd.func14, Tryd.ntmps14
      go_wp2_with (first
        | (go_at_call 21; (with_reducible refine (HR.out _).mono ?_); rintro e w1 ⟨rfl, hb1⟩; have HB1 := Lib.hid hb1; clear hb1)
        | go_in)
      go_ret
      exact ⟨rfl, HB1.out⟩
    | true =>
      go_enter Tryd.func14, Tryd.ntmps14
      go_wp2
      go_loopw [0, 22] (fun v0 v22 wr => ∃ (i : Nat) (s1 : ByteArray), v22 = .int .i64 i ∧ i ≤ T ∧ v0 = .string s1 ∧ iterB (T - i) s1 = iterB T s ∧ s1.size ≤ s.size ∧ wr = w) (fun _ v22 _ => T - (intOf v22).toNat)
      case atStart => exact ⟨0, s, rfl, by omega, rfl, rfl, Nat.le_refl _, rfl⟩
      case round =>
        obtain ⟨i, s1, rfl, hi, rfl, hit, hsz, rfl⟩ := hrel
        have HI := Lib.hid hit
        clear hit
        by_cases hiT : i < T
        · have HN : Hid (iterB (T - (i + 1)) (backB s1) = iterB T s) := by
            rw [← HI.out, show T - i = (T - (i + 1)) + 1 by omega]
            rfl
          have HZ := Lib.hid (Nat.le_trans (backB_size s1) hsz)
          go_wp2_with (first
            | (go_at_call 22; (with_reducible refine (back_any s1 (by omega) _).mono ?_); rintro e w1 ⟨rfl, rfl⟩)
            | go_in)
          all_goals first
            | exact ⟨⟨i + 1, _, by first | rfl | (congr 1; omega), by omega, rfl, HN.out, HZ.out, trivial⟩, by simp [intOf]; omega⟩
            | (go_roundw
               case rel => exact ⟨i + 1, _, by first | rfl | (congr 1; omega), by omega, rfl, HN.out, HZ.out, by first | rfl | trivial⟩
               case measure => simp [intOf]; omega)
        · obtain rfl : i = T := by omega
          have hfin : s1 = iterB i s := by rw [← HI.out, Nat.sub_self]; rfl
          have HF := Lib.hid hfin
          clear hfin
          go_wp2
          go_ret
          exact ⟨congrArg Ending.returned (congrArg Value.string HF.out), Below.refl _ _⟩

end Go.Proofs.YtdkdoomjihflbaaDoor
