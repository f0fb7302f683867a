/- The law EditShifts, walked. -/
import Derived.Test.YtdkdoomjihflbaaDoorEdK
namespace Go.Proofs.YtdkdoomjihflbaaDoor
open Go.RowKit Go.Proofs.YtdkdoomjihflbaaDoorW.PrintWords

theorem tabs_list (t : Nat) (s : ByteArray) : (tabs t s).data.toList = List.replicate t 9 ++ s.data.toList := by
  unfold tabs
  simp

theorem back_tabs (k : Nat) (s : ByteArray) : backB (tabs (k + 1) s) = tabs k s := by
  unfold backB
  rw [if_pos (by rw [tabs_list]; simp [List.replicate_succ])]
  refine ext_list ?_
  rw [extract_list, tabs_list, tabs_list]
  simp [List.replicate_succ]

theorem iter_tabs (s : ByteArray) : ∀ k, iterB k (tabs k s) = s
  | 0 => tabs_zero s
  | k + 1 => by unfold iterB; rw [back_tabs]; exact iter_tabs s k

theorem bounds_u8 {x : Int} (h : (Lit.int .u8 x).wf = true) : 0 ≤ x ∧ x ≤ 255 := by
  simpa [Lit.wf, IntKind.min, IntKind.max, IntKind.signed, IntKind.bits] using h

theorem shiftT_of (n : Nat) (h : n ≤ 200) : shiftT (n : Int) = n := by unfold shiftT; omega

set_option maxRecDepth 100000 in
theorem shifts_walk (s : ByteArray) (_ws : s.size ≤ 140737488351232) (x : Int) (wx : (Lit.int .u8 x).wf = true) (w : World) :
    Calls Tryd.prog 6 #[.string s, .int .u8 x] w fun e w' => e = .returned (.bool true) ∧ Below w.heap.size w w' := by
  by_cases h1 : 500 < s.size
  · have h' : (500 : Int) < (s.size : Int) := by omega
    go_enter Tryd.func6, Tryd.ntmps6
    go_wp2_with (first
      | (go_at_call 11; (with_reducible refine (known16_any _).mono ?_); rintro e w1 ⟨rfl, hb⟩)
      | go_in)
    go_ret
    exact ⟨rfl, hb⟩
  · have hs : s.size ≤ 500 := by omega
    have hxb := bounds_u8 wx
    obtain ⟨n, hn⟩ : ∃ n : Nat, x.tmod 200 = (n : Int) := ⟨(x.tmod 200).toNat, by have := Int.tmod_nonneg 200 hxb.1; omega⟩
    have hn2 : n < 200 := by have := Int.tmod_lt_of_pos x (show (0 : Int) < 200 by omega); omega
    clear h1
    have HZ : Hid (∀ w, Calls Tryd.prog 14 #[.string s, .int .i64 0, .bool true] w fun e w' => e = .returned (.string s) ∧ Below w.heap.size w w') := by
      intro w
      have := shift_any s 0 true (by omega) w
      have e : shiftP s 0 true = s := by unfold shiftP; split <;> rfl
      rwa [e] at this
    by_cases he : s.toList.isEmpty = true
    · have hne : s.toList = [] := by simpa using he
      have H1 : Hid (∀ w b, Calls Tryd.prog 14 #[.string s, .int .i64 n, .bool b] w fun e w' => e = .returned (.string s) ∧ Below w.heap.size w w') := by
        intro w b
        have := shift_any s n b (by omega) w
        have e : shiftP s n b = s := by unfold shiftP; rw [if_pos he]
        rwa [e] at this
      go_enter Tryd.func6, Tryd.ntmps6
      go_wp2_with (first
        | (go_at_call 11; (with_reducible refine (known16_any _).mono ?_); rintro e w0 ⟨rfl, hb0⟩; have HB0 := Lib.hid hb0; clear hb0)
        | (go_at_call 14; (with_reducible refine (H1.out _ false).mono ?_); rintro e w1 ⟨rfl, hb1⟩; have HB1 := Lib.hid (below_then HB0.out HB0.out.size hb1); clear hb1)
        | (go_at_call 14; (with_reducible refine (H1.out _ true).mono ?_); rintro e w2 ⟨rfl, hb2⟩; have HB2 := Lib.hid (below_then HB1.out HB1.out.size hb2); clear hb2)
        | (go_at_call 14; (with_reducible refine (HZ.out _).mono ?_); rintro e w3 ⟨rfl, hb3⟩; have HB3 := Lib.hid (below_then HB2.out HB2.out.size hb3); clear hb3)
        | go_in)
      all_goals first
        | (go_ret
           exact ⟨rfl, HB3.out⟩)
        | (exfalso
           simp_all
           done)
    · have hef : s.toList.isEmpty = false := by simpa using he
      have hne : ¬ s.toList = [] := by simpa using he
      have h0 := pos_of_ne hne
      obtain ⟨u, hu⟩ : ∃ u, tabs n s = u := ⟨_, rfl⟩
      have hus : u.size = n + s.size := by rw [← hu, tabs_size]
      have huz : ¬ (u.toList = []) := by rw [← hu]; exact (tabs_ne hef).2
      have hue : u.toList.isEmpty = false := by rw [← hu]; exact (tabs_ne hef).1
      have H1 : Hid (∀ w, Calls Tryd.prog 14 #[.string s, .int .i64 n, .bool false] w fun e w' => e = .returned (.string u) ∧ Below w.heap.size w w') := by
        intro w
        have := shift_any s n false (by omega) w
        have e : shiftP s n false = u := by unfold shiftP; rw [if_neg he, shiftT_of n (by omega), ← hu]; rfl
        rwa [e] at this
      have H2 : Hid (∀ w, Calls Tryd.prog 14 #[.string u, .int .i64 n, .bool true] w fun e w' => e = .returned (.string s) ∧ Below w.heap.size w w') := by
        intro w
        have := shift_any u n true (by omega) w
        have e : shiftP u n true = s := by
          unfold shiftP
          rw [if_neg (by rw [hue]; simp), shiftT_of n (by omega), ← hu]
          exact iter_tabs s n
        rwa [e] at this
      have hlen : (u.size : Int) = (s.size : Int) + (n : Int) := by omega
      clear hu he
      go_enter Tryd.func6, Tryd.ntmps6
      go_wp2_with (first
        | (go_at_call 11; (with_reducible refine (known16_any _).mono ?_); rintro e w0 ⟨rfl, hb0⟩; have HB0 := Lib.hid hb0; clear hb0)
        | (go_at_call 14; (with_reducible refine (H1.out _).mono ?_); rintro e w1 ⟨rfl, hb1⟩; have HB1 := Lib.hid (below_then HB0.out HB0.out.size hb1); clear hb1)
        | (go_at_call 14; (with_reducible refine (H2.out _).mono ?_); rintro e w2 ⟨rfl, hb2⟩; have HB2 := Lib.hid (below_then HB1.out HB1.out.size hb2); clear hb2)
        | (go_at_call 14; (with_reducible refine (HZ.out _).mono ?_); rintro e w3 ⟨rfl, hb3⟩; have HB3 := Lib.hid (below_then HB2.out HB2.out.size hb3); clear hb3)
        | go_in)
      all_goals first
        | (go_ret
           exact ⟨rfl, HB3.out⟩)
        | (exfalso
           simp_all
           done)

end Go.Proofs.YtdkdoomjihflbaaDoor
