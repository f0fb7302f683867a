/- tmpl: escaped and meant. -/
import Derived.Test.YtccalibapiiifaaTpar
namespace Go.Proofs.Ytccalibapiiifaa.T
open Go.RowKit Go.Proofs.YtccalibapiiifaaW.PrintWords Go.Proofs.YtccalibapiiifaaW.PrintLast Go.Proofs.YtccalibapiiifaaW.PrintMore

def emp : ByteArray := ⟨#[]⟩
/-- what a byte behind a backslash says; none: it is text -/
def escP (c : Int) : Option S42 :=
  if 48 ≤ c ∧ c ≤ 57 then some ⟨2, emp, c - 48, 0⟩ else if c = 114 then some ⟨3, emp, 0, 0⟩ else if c = 117 ∨ c = 108 ∨ c = 85 ∨ c = 76 then some ⟨4, emp, 0, c⟩
  else if c = 101 ∨ c = 69 then some ⟨4, emp, 0, 69⟩ else none
def meantP (c : Int) : Int := if c = 110 then 0 else if c = 116 then 9 else c

theorem ret_eq {k : IntKind} {a b : Int} (h : a = b) : Ending.returned (.int k a) = .returned (.int k b) := by rw [h]

theorem meant_any (c : Int) (w : World) : Calls Try.prog 40 #[.int .u8 c] w fun e w' => e = .returned (.int .u8 (meantP c)) ∧ w = w' := by
  by_cases h1 : c = 110
  · subst h1
    go_enter Try.func40, Try.ntmps40
    go_wp2
    go_ret
    exact ⟨rfl, rfl⟩
  · by_cases h2 : c = 116
    · subst h2
      go_enter Try.func40, Try.ntmps40
      go_wp2
      go_ret
      exact ⟨rfl, rfl⟩
    · have d1 : (c == 110) = false := by simpa using h1
      have d2 : (c == 116) = false := by simpa using h2
      have e : Hid (c = meantP c) := by show c = meantP c; unfold meantP; rw [if_neg h1, if_neg h2]
      clear h1 h2
      go_enter Try.func40, Try.ntmps40
      go_wp2
      go_ret
      exact ⟨ret_eq e.out, rfl⟩

def EscPost (c : Int) (w : World) (e : Ending) (w' : World) : Prop :=
  Below w.heap.size w w' ∧ match escP c with
    | some p => e = .returned (.tuple #[.agg (tm p).toArray, .bool true])
    | none => e = .returned (.tuple #[.agg (tm z42).toArray, .bool false])

theorem idx_of (c : Int) (h0 : 0 ≤ c) (h1 : c ≤ 255) : ∃ i : Int, Lib.indexByte [117, 108, 85, 76] c.toNat.toUInt8 = i ∧ ((c = 117 ∨ c = 108 ∨ c = 85 ∨ c = 76) ↔ 0 ≤ i) := by
  refine ⟨_, rfl, ?_⟩
  have : ∀ n : Nat, n < 256 → ((n = 117 ∨ n = 108 ∨ n = 85 ∨ n = 76) ↔ 0 ≤ Lib.indexByte [117, 108, 85, 76] n.toUInt8) := by decide +kernel
  have h := this c.toNat (by omega)
  rw [← h]
  omega

theorem indexb (c i : Int) (h : Hid (Lib.indexByte [117, 108, 85, 76] c.toNat.toUInt8 = i)) (w : World) :
    Calls Try.prog 50 #[.string ⟨#[117, 108, 85, 76]⟩, .int .u8 c] w fun e w' => e = .returned (.int .i64 i) ∧ w = w' := by
  refine (Try.strings_IndexByte _ c w).mono ?_
  rintro e w' ⟨rfl, rfl⟩
  exact ⟨ret_eq h.out, rfl⟩

set_option maxRecDepth 100000 in
set_option maxHeartbeats 400000 in
theorem escaped_any (c : Int) (h0 : 0 ≤ c) (h1 : c ≤ 255) (w : World) : Calls Try.prog 39 #[.int .u8 c] w (EscPost c w) := by
  obtain ⟨i, hi, hii⟩ := idx_of c h0 h1
  have HI : Hid (Lib.indexByte [117, 108, 85, 76] c.toNat.toUInt8 = i) := hi
  have hcase : ∃ r, escP c = r ∧ ((48 ≤ c ∧ c ≤ 57 ∧ r = some ⟨2, emp, c - 48, 0⟩) ∨ ((c < 48 ∨ 57 < c) ∧ (
      ((c == 114) = true ∧ r = some ⟨3, emp, 0, 0⟩) ∨ ((c == 114) = false ∧ ((0 ≤ i ∧ r = some ⟨4, emp, 0, c⟩) ∨ (i < 0 ∧ (
        ((c == 101) = true ∧ r = some ⟨4, emp, 0, 69⟩) ∨ ((c == 101) = false ∧ (((c == 69) = true ∧ r = some ⟨4, emp, 0, 69⟩) ∨ ((c == 69) = false ∧ r = none)))))))))) := by
    refine ⟨_, rfl, ?_⟩
    unfold escP
    by_cases c1 : 48 ≤ c ∧ c ≤ 57
    · exact .inl ⟨c1.1, c1.2, by rw [if_pos c1]⟩
    refine .inr ⟨by omega, ?_⟩
    rw [if_neg c1]
    by_cases c2 : c = 114
    · exact .inl ⟨by simpa using c2, by rw [if_pos c2]⟩
    refine .inr ⟨by simpa using c2, ?_⟩
    rw [if_neg c2]
    by_cases c3 : c = 117 ∨ c = 108 ∨ c = 85 ∨ c = 76
    · exact .inl ⟨hii.1 c3, by rw [if_pos c3]⟩
    refine .inr ⟨by have : ¬ 0 ≤ i := fun h => c3 (hii.2 h); omega, ?_⟩
    rw [if_neg c3]
    by_cases c4 : c = 101
    · exact .inl ⟨by simpa using c4, by rw [if_pos (.inl c4)]⟩
    refine .inr ⟨by simpa using c4, ?_⟩
    by_cases c5 : c = 69
    · exact .inl ⟨by simpa using c5, by rw [if_pos (.inr c5)]⟩
    · exact .inr ⟨by simpa using c5, by rw [if_neg (by omega)]⟩
  clear hi hii
  obtain ⟨r, hr, hcase⟩ := hcase
  have HR := Lib.hid hr
  clear hr
  rcases hcase with ⟨a1, a2, hr⟩ | ⟨a1 | a1, ⟨a2, hr⟩ | ⟨a2, ⟨a3, hr⟩ | ⟨a3, ⟨a4, hr⟩ | ⟨a4, ⟨a5, hr⟩ | ⟨a5, hr⟩⟩⟩⟩⟩
  all_goals
    have HRR := Lib.hid hr
    clear hr
    go_enter Try.func39, Try.ntmps39
    go_wp2_with (first
      | (go_at_call 50; (with_reducible refine (indexb c i HI _).mono ?_); rintro e w' ⟨rfl, rfl⟩)
      | go_in)
    refine bodyPost_ret (v := .tuple #[.agg (tm (r.getD z42)).toArray, .bool r.isSome]) ?_ rfl ?_
    · rw [HRR.out]
      simp [results, Try.results39, go_sem, tm, z42, emp]
    · unfold EscPost
      rw [HR.out, HRR.out]
      exact ⟨by (repeat (first | exact Below.refl _ _ | apply below_alloc | (refine Below.setCell ?_ (by simp) _))), rfl⟩

end Go.Proofs.Ytccalibapiiifaa.T
