/- The laws EditJoins and EditShifts, walked. -/
import Derived.Test.YtdkdoomjihflbaaDoorEdSr
namespace Go.Proofs.YtdkdoomjihflbaaDoor
open Go.RowKit Go.Proofs.YtdkdoomjihflbaaDoorW.PrintWords

theorem kn1 : joinP ⟨#[97]⟩ ⟨#[32, 32, 98]⟩ false = ⟨#[97, 32, 98]⟩ := by decide +kernel
theorem kn2 : joinP ⟨#[97]⟩ ⟨#[32, 32, 98]⟩ true = ⟨#[97, 32, 32, 98]⟩ := by decide +kernel
theorem kn3 : shiftP ⟨#[120]⟩ 2 false = ⟨#[9, 9, 120]⟩ := by decide +kernel
theorem kn4 : shiftP ⟨#[9, 9, 120]⟩ 9 true = ⟨#[120]⟩ := by decide +kernel

set_option maxRecDepth 100000 in
theorem known16_any (w : World) : Calls Tryd.prog 11 #[] w fun e w' => e = .returned (.bool true) ∧ Below w.heap.size w w' := by
  have K1 : Hid (∀ w, Calls Tryd.prog 12 #[.string ⟨#[97]⟩, .string ⟨#[32, 32, 98]⟩, .bool false] w fun e w' => e = .returned (.string ⟨#[97, 32, 98]⟩) ∧ Below w.heap.size w w') := by
    intro w; have := join_any ⟨#[97]⟩ ⟨#[32, 32, 98]⟩ false (by decide) (by decide) w; rwa [kn1] at this
  have K2 : Hid (∀ w, Calls Tryd.prog 12 #[.string ⟨#[97]⟩, .string ⟨#[32, 32, 98]⟩, .bool true] w fun e w' => e = .returned (.string ⟨#[97, 32, 32, 98]⟩) ∧ Below w.heap.size w w') := by
    intro w; have := join_any ⟨#[97]⟩ ⟨#[32, 32, 98]⟩ true (by decide) (by decide) w; rwa [kn2] at this
  have K3 : Hid (∀ w, Calls Tryd.prog 14 #[.string ⟨#[120]⟩, .int .i64 2, .bool false] w fun e w' => e = .returned (.string ⟨#[9, 9, 120]⟩) ∧ Below w.heap.size w w') := by
    intro w; have := shift_any ⟨#[120]⟩ 2 false (by decide) w; rwa [kn3] at this
  have K4 : Hid (∀ w, Calls Tryd.prog 14 #[.string ⟨#[9, 9, 120]⟩, .int .i64 9, .bool true] w fun e w' => e = .returned (.string ⟨#[120]⟩) ∧ Below w.heap.size w w') := by
    intro w; have := shift_any ⟨#[9, 9, 120]⟩ 9 true (by decide) w; rwa [kn4] at this
  go_enter Tryd.func11, Tryd.ntmps11
  go_wp2_with (first
    | (go_at_call 12; (with_reducible refine (K1.out _).mono ?_); rintro e w1 ⟨rfl, hb1⟩; have HB1 := Lib.hid hb1; clear hb1)
    | (go_at_call 12; (with_reducible refine (K2.out _).mono ?_); rintro e w2 ⟨rfl, hb2⟩; have HB2 := Lib.hid (below_then HB1.out HB1.out.size hb2); clear hb2)
    | (go_at_call 14; (with_reducible refine (K3.out _).mono ?_); rintro e w3 ⟨rfl, hb3⟩; have HB3 := Lib.hid (below_then HB2.out HB2.out.size hb3); clear hb3)
    | (go_at_call 14; (with_reducible refine (K4.out _).mono ?_); rintro e w4 ⟨rfl, hb4⟩; have HB4 := Lib.hid (below_then HB3.out HB3.out.size hb4); clear hb4)
    | go_in)
  go_ret
  exact ⟨rfl, HB4.out⟩

set_option maxRecDepth 100000 in
theorem joins_walk (a : ByteArray) (_wa : a.size ≤ 140737488351232) (b : ByteArray) (_wb : b.size ≤ 140737488351232) (bold : Bool) (times : Int) (wt : (Lit.int .i64 times).wf = true) (back : Bool) (w : World) :
    Calls Tryd.prog 5 #[.string a, .string b, .bool bold, .int .i64 times, .bool back] w fun e w' => e = .returned (.bool true) ∧ Below w.heap.size w w' := by
  by_cases h1 : 500 < a.size ∨ 500 < b.size
  · rcases h1 with h | h
    all_goals
      have h' : (500 : Int) < ((ByteArray.size _ : Nat) : Int) := Int.ofNat_lt.2 h
      go_enter Tryd.func5, Tryd.ntmps5
      go_wp2_with (first
        | (go_at_call 11; (with_reducible refine (known16_any _).mono ?_); rintro e w1 ⟨rfl, hb⟩)
        | go_in)
      all_goals
        go_ret
        exact ⟨rfl, hb⟩
  · have ha : a.size ≤ 500 := by omega
    have hb : b.size ≤ 500 := by omega
    clear h1
    obtain ⟨j, hj⟩ : ∃ j, joinP a b bold = j := ⟨_, rfl⟩
    obtain ⟨t, ht⟩ : ∃ t, shiftP a times back = t := ⟨_, rfl⟩
    have HJ : Hid (∀ w, Calls Tryd.prog 12 #[.string a, .string b, .bool bold] w fun e w' => e = .returned (.string j) ∧ Below w.heap.size w w') := by rw [← hj]; exact fun w => join_any a b bold (by omega) (by omega) w
    have HJ2 : Hid (∀ w, Calls Tryd.prog 13 #[.string a, .string b, .bool bold] w fun e w' => e = .returned (.string j) ∧ Below w.heap.size w w') := by rw [← hj]; exact fun w => refJoin_any a b bold (by omega) (by omega) w
    have HS : Hid (∀ w, Calls Tryd.prog 14 #[.string a, .int .i64 times, .bool back] w fun e w' => e = .returned (.string t) ∧ Below w.heap.size w w') := by rw [← ht]; exact fun w => shift_any a times back (by omega) w
    have HS2 : Hid (∀ w, Calls Tryd.prog 15 #[.string a, .int .i64 times, .bool back] w fun e w' => e = .returned (.string t) ∧ Below w.heap.size w w') := by rw [← ht]; exact fun w => refShift_any a times back (by omega) wt w
    clear hj ht
    go_enter Tryd.func5, Tryd.ntmps5
    go_wp2_with (first
      | (go_at_call 11; (with_reducible refine (known16_any _).mono ?_); rintro e w0 ⟨rfl, hb0⟩; have HB0 := Lib.hid hb0; clear hb0)
      | (go_at_call 12; (with_reducible refine (HJ.out _).mono ?_); rintro e w1 ⟨rfl, hb1⟩; have HB1 := Lib.hid (below_then HB0.out HB0.out.size hb1); clear hb1)
      | (go_at_call 13; (with_reducible refine (HJ2.out _).mono ?_); rintro e w2 ⟨rfl, hb2⟩; have HB2 := Lib.hid (below_then HB1.out HB1.out.size hb2); clear hb2)
      | (go_at_call 14; (with_reducible refine (HS.out _).mono ?_); rintro e w3 ⟨rfl, hb3⟩; have HB3 := Lib.hid (below_then HB2.out HB2.out.size hb3); clear hb3)
      | (go_at_call 15; (with_reducible refine (HS2.out _).mono ?_); rintro e w4 ⟨rfl, hb4⟩; have HB4 := Lib.hid (below_then HB3.out HB3.out.size hb4); clear hb4)
      | go_in)
    go_ret
    exact ⟨rfl, HB4.out⟩

end Go.Proofs.YtdkdoomjihflbaaDoor
