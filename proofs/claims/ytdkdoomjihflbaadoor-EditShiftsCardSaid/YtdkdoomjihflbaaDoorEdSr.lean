/- The document's Shift, walked. -/
import Derived.Test.YtdkdoomjihflbaaDoorEdSh
namespace Go.Proofs.YtdkdoomjihflbaaDoor
open Go.RowKit Go.Proofs.YtdkdoomjihflbaaDoorW.PrintWords

theorem tabs_size (t : Nat) (s : ByteArray) : (tabs t s).size = t + s.size := by
  unfold tabs
  rw [ByteArray.size_append]
  show (List.replicate t (9 : UInt8)).toArray.size + s.size = t + s.size
  simp

theorem tabs_ne {t : Nat} {s : ByteArray} (h : s.toList.isEmpty = false) : (tabs t s).toList.isEmpty = false ∧ ¬ (tabs t s).toList = [] := by
  have hs : 0 < s.size := by
    refine pos_of_ne ?_
    intro e
    rw [e] at h
    cases h
  have h1 : ¬ (tabs t s).data.toList = [] := by
    intro e
    have h0 : (tabs t s).size = 0 := by show (tabs t s).data.size = 0; rw [← Array.length_toList, e]; rfl
    rw [tabs_size] at h0
    omega
  exact ⟨by rw [emp_iff']; exact h1, by rw [ByteArray.toList_eq]; exact h1⟩

set_option maxRecDepth 100000 in
theorem refShift_any (s : ByteArray) (times : Int) (left : Bool) (hs : s.size ≤ 1000000) (hw : (Lit.int .i64 times).wf = true) (w : World) :
    Calls Tryd.prog 15 #[.string s, .int .i64 times, .bool left] w fun e w' => e = .returned (.string (shiftP s times left)) ∧ Below w.heap.size w w' := by
  obtain ⟨T, hT⟩ : ∃ T, shiftT times = T := ⟨_, rfl⟩
  have hTb : T ≤ 200 := by rw [← hT]; unfold shiftT; omega
  have hTl : ∀ i : Nat, ((i : Int) < min times 200) ↔ i < T := by intro i; rw [← hT]; unfold shiftT; omega
  have HTl := Lib.hid hTl
  have hP : shiftP s times left = if s.toList.isEmpty = true then s else if left then iterB T s else tabs T s := by unfold shiftP; rw [hT]
  rw [hP]
  clear hP hT hTl
  obtain ⟨m, hm⟩ : ∃ m, min times 200 = m := ⟨_, rfl⟩
  rw [hm] at HTl
  cases left with
  | false =>
    by_cases he : s.toList.isEmpty = true
    · rw [if_pos he]
      have hne : s.toList = [] := by simpa using he
      go_enter Tryd.func15, Tryd.ntmps15
      go_wp2
      go_loopw [0, 7] (fun v0 v7 wr => v0 = .string s ∧ v7 = .int .i64 0 ∧ wr = w) (fun _ _ _ => 0)
      case atStart => exact ⟨rfl, rfl, rfl⟩
      case round =>
        obtain ⟨rfl, rfl, rfl⟩ := hrel
        go_wp2
        all_goals first
          | (go_ret
             exact ⟨rfl, Below.refl _ _⟩)
          | (exfalso
             simp_all
             done)
    · have hef : s.toList.isEmpty = false := by simpa using he
      rw [if_neg he]
      clear he
      have HE : Hid (∀ t, (tabs t s).toList.isEmpty = false ∧ ¬ (tabs t s).toList = []) := fun t => tabs_ne hef
      go_enter Tryd.func15, Tryd.ntmps15
      go_wp2
      go_loopw [0, 7] (fun v0 v7 wr => ∃ i : Nat, v7 = .int .i64 i ∧ i ≤ T ∧ v0 = .string (tabs i s) ∧ wr = w) (fun _ v7 _ => T - (intOf v7).toNat)
      case atStart => exact ⟨0, rfl, by omega, by rw [tabs_zero], rfl⟩
      case round =>
        obtain ⟨i, rfl, hi, rfl, rfl⟩ := hrel
        obtain ⟨u, hu⟩ : ∃ u, tabs i s = u := ⟨_, rfl⟩
        have hz := tabs_size i s
        obtain ⟨hn1, hn2⟩ := HE.out i
        have HU : Hid (⟨#[9]⟩ ++ u = tabs (i + 1) s) := by
          show _ = _
          rw [← hu]
          exact tabs_succ i s
        rw [hu] at hz hn1 hn2
        rw [hu]
        by_cases hiT : i < T
        · have hlt := (HTl.out i).2 hiT
          clear hu
          go_wp2
          all_goals first
            | exact ⟨⟨i + 1, by first | rfl | (congr 1; omega), by omega, by rw [← HU.out], trivial⟩, by simp [intOf]; omega⟩
            | (go_roundw
               case rel => exact ⟨i + 1, by first | rfl | (congr 1; omega), by omega, by rw [← HU.out], by first | rfl | trivial⟩
               case measure => simp [intOf]; omega)
            | (exfalso
               simp_all
               done)
        · have hlt : ¬ (i : Int) < m := fun h => hiT ((HTl.out i).1 h)
          obtain rfl : i = T := by omega
          have HUU := Lib.hid hu
          clear hu
          go_wp2
          all_goals first
            | (go_ret
               refine ⟨congrArg Ending.returned (congrArg Value.string HUU.out.symm), Below.refl _ _⟩)
            | (exfalso
               simp_all
               done)
  | true =>
    have hfin : (if s.toList.isEmpty = true then s else if true = true then iterB T s else tabs T s) = iterB T s := by
      split
      · rename_i he
        exact (iterB_fix (backB_empty he) T).symm
      · rfl
    rw [hfin]
    clear hfin
    obtain ⟨z, hz⟩ : ∃ z, iterB T s = z := ⟨_, rfl⟩
    have HZ := Lib.hid hz
    rw [hz]
    clear hz
    go_enter Tryd.func15, Tryd.ntmps15
    go_wp2
    go_loopw [0, 7, 8, 9] (fun v0 v7 _ _ wr => ∃ (i : Nat) (s1 : ByteArray), v7 = .int .i64 i ∧ i ≤ T ∧ v0 = .string s1 ∧ iterB (T - i) s1 = z ∧ s1.size ≤ s.size ∧ wr = w) (fun _ v7 _ _ _ => T - (intOf v7).toNat)
    case atStart => exact ⟨0, s, rfl, by omega, rfl, HZ.out, Nat.le_refl _, rfl⟩
    case round =>
      obtain ⟨i, s1, rfl, hi, rfl, hit, hsz, rfl⟩ := hrel
      have HI := Lib.hid hit
      clear hit
      by_cases hiT : i < T
      · have hlt := (HTl.out i).2 hiT
        by_cases he : s1.toList.isEmpty = true
        · have hne : s1.toList = [] := by simpa using he
          have hr : s1 = z := by rw [← HI.out]; exact (iterB_fix (backB_empty he) _).symm
          have HR := Lib.hid hr
          clear hr
          go_wp2
          all_goals first
            | (go_ret
               refine ⟨congrArg Ending.returned (congrArg Value.string HR.out), Below.refl _ _⟩)
            | (exfalso
               simp_all
               done)
        · have hef : s1.toList.isEmpty = false := by simpa using he
          have hne : ¬ s1.toList = [] := by simpa using he
          clear he
          by_cases hF : lessF s1 = true
          · have HL : Hid (∀ w, Calls Tryd.prog 23 #[.string s1] w fun e w' => e = .returned (.tuple #[.string (backB s1), .bool true]) ∧ w = w') := by
              intro w
              have := less_any s1 (by omega) w
              rwa [hF] at this
            have HN : Hid (iterB (T - (i + 1)) (backB s1) = z) := by
              rw [← HI.out, show T - i = (T - (i + 1)) + 1 by omega]
              rfl
            have HS := Lib.hid (Nat.le_trans (backB_size s1) hsz)
            clear hF
            go_wp2_with (first
              | (go_at_call 23; (with_reducible refine (HL.out _).mono ?_); rintro e w1 ⟨rfl, rfl⟩)
              | go_in)
            all_goals first
              | exact ⟨⟨i + 1, _, by first | rfl | (congr 1; omega), by omega, rfl, HN.out, HS.out, trivial⟩, by simp [intOf]; omega⟩
              | (go_roundw
                 case rel => exact ⟨i + 1, _, by first | rfl | (congr 1; omega), by omega, rfl, HN.out, HS.out, by first | rfl | trivial⟩
                 case measure => simp [intOf]; omega)
              | (exfalso
                 simp_all
                 done)
          · have hF2 : lessF s1 = false := by simpa using hF
            have HL : Hid (∀ w, Calls Tryd.prog 23 #[.string s1] w fun e w' => e = .returned (.tuple #[.string s1, .bool false]) ∧ w = w') := by
              intro w
              have := less_any s1 (by omega) w
              rwa [hF2, back_same s1 hF2] at this
            have hr : s1 = z := by rw [← HI.out]; exact (iterB_fix (back_same s1 hF2) _).symm
            have HR := Lib.hid hr
            clear hr hF hF2
            go_wp2_with (first
              | (go_at_call 23; (with_reducible refine (HL.out _).mono ?_); rintro e w1 ⟨rfl, rfl⟩)
              | go_in)
            all_goals first
              | (go_ret
                 refine ⟨congrArg Ending.returned (congrArg Value.string HR.out), Below.refl _ _⟩)
              | (exfalso
                 simp_all
                 done)
      · have hlt : ¬ (i : Int) < m := fun h => hiT ((HTl.out i).1 h)
        obtain rfl : i = T := by omega
        have hr : s1 = z := by rw [← HI.out, Nat.sub_self]; rfl
        have HR := Lib.hid hr
        clear hr
        go_wp2
        all_goals first
          | (go_ret
             refine ⟨congrArg Ending.returned (congrArg Value.string HR.out), Below.refl _ _⟩)
          | (exfalso
             simp_all
             done)

end Go.Proofs.YtdkdoomjihflbaaDoor
