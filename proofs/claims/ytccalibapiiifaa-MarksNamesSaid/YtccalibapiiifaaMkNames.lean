/- The law MarksNames, walked: small letters are names, nothing else is; a mark that was never set is none. -/
import Derived.Test.YtccalibapiiifaaMk4
namespace Go.Proofs.Ytccalibapiiifaa
open Go.RowKit Go.Maps

def NamesFacts (a v c n g : Int) : Prop := setC a v = c ∧ setF (fun _ => 0) a v a = n ∧ (if setF (fun _ => 0) a v a = 0 then (100 : Int) else 0) = g

theorem names_out {a v : Int} (h : a < 97 ∨ 122 < a) : NamesFacts a v 100 0 100 := by
  have e : setC a v = 100 := by unfold setC; rw [if_pos h]
  refine ⟨e, ?_, ?_⟩ <;> simp [setF, e]

theorem names_line {a v : Int} (h : ¬ (a < 97 ∨ 122 < a)) (h2 : v < 1 ∨ 2147483647 < v) : NamesFacts a v 1 0 100 := by
  have e : setC a v = 1 := by unfold setC; rw [if_neg h, if_pos h2]
  refine ⟨e, ?_, ?_⟩ <;> simp [setF, e]

theorem names_fine {a v : Int} (h : ¬ (a < 97 ∨ 122 < a)) (h2 : ¬ (v < 1 ∨ 2147483647 < v)) : NamesFacts a v 0 v 0 := by
  have e : setC a v = 0 := by unfold setC; rw [if_neg h, if_neg h2]
  have hv : v ≠ 0 := by omega
  refine ⟨e, ?_, ?_⟩ <;> simp [setF, e, hv]

set_option maxRecDepth 100000 in
set_option maxHeartbeats 400000 in
theorem names_walk (a v : Int) (h0 : 0 ≤ a) (h1 : a ≤ 255) (w : World) :
    Calls Try.prog 3 #[.int .u8 a, .int .i64 v] w fun e w' => e = .returned (.bool true) ∧ Below w.heap.size w w' := by
  have hcase : (a < 97 ∧ NamesFacts a v 100 0 100) ∨ (122 < a ∧ NamesFacts a v 100 0 100) ∨ (97 ≤ a ∧ a ≤ 122 ∧ v < 1 ∧ NamesFacts a v 1 0 100) ∨ (97 ≤ a ∧ a ≤ 122 ∧ 2147483647 < v ∧ NamesFacts a v 1 0 100) ∨ (97 ≤ a ∧ a ≤ 122 ∧ 1 ≤ v ∧ v ≤ 2147483647 ∧ NamesFacts a v 0 v 0) := by
    rcases Int.lt_or_le a 97 with h | h
    · exact .inl ⟨h, names_out (.inl h)⟩
    rcases Int.lt_or_le 122 a with h' | h'
    · exact .inr (.inl ⟨h', names_out (.inr h')⟩)
    rcases Int.lt_or_le v 1 with k | k
    · exact .inr (.inr (.inl ⟨h, h', k, names_line (by omega) (.inl k)⟩))
    rcases Int.lt_or_le 2147483647 v with k' | k'
    · exact .inr (.inr (.inr (.inl ⟨h, h', k', names_line (by omega) (.inr k')⟩)))
    · exact .inr (.inr (.inr (.inr ⟨h, h', k, k', names_fine (by omega) (by omega)⟩)))
  have ha : 0 ≤ a ∧ a ≤ 255 := ⟨h0, h1⟩
  rcases hcase with ⟨h, HF⟩ | ⟨h, HF⟩ | ⟨h, h', h'', HF⟩ | ⟨h, h', h'', HF⟩ | ⟨h, h', h'', h''', HF⟩
  all_goals
    obtain ⟨hc, hn, hg⟩ := HF
    have HC := Lib.hid hc
    have HN := Lib.hid hn
    have HG := Lib.hid hg
    clear hc hn hg
    go_enter Try.func3, Try.ntmps3
    go_wp2_with (first
      | (go_at_call 13; (with_reducible refine (new_held w.heap.size w _ (Below.refl _ _) (Nat.le_refl _)).mono ?_); rintro e w1 ⟨rfl, H1⟩)
      | (go_at_call 14; (with_reducible refine (known_any _).mono ?_); rintro e w2 ⟨rfl, hb2⟩; have H2 := H1.later hb2)
      | (go_at_call 15; (with_reducible refine (get_held H2 a 0 100 ha.1 ha.2 rfl rfl).mono ?_); rintro e w3 ⟨rfl, rfl⟩; have H3 := H2; clear H2)
      | (go_at_call 16; (with_reducible refine (set_held H3 a v _ ha.1 ha.2 (by decide) HC.out).mono ?_); rintro e w4 ⟨rfl, H4⟩)
      | (go_at_call 15; (with_reducible refine (get_held H4 a _ _ ha.1 ha.2 HN.out HG.out).mono ?_); rintro e w5 ⟨rfl, rfl⟩)
      | go_in)
    go_ret
    exact ⟨rfl, H4.below⟩

/-- as the row asks it -/
theorem names_row (a : Int) (ha : (Lit.int .u8 a).wf = true) (v : Int) (_hv : (Lit.int .i64 v).wf = true) (w : World) :
    Calls Try.prog 3 #[.int .u8 a, .int .i64 v] w fun e w' => e = .returned (.bool true) ∧ Below w.heap.size w w' :=
  names_walk a v (bounds_u8 ha).1 (bounds_u8 ha).2 w

end Go.Proofs.Ytccalibapiiifaa
