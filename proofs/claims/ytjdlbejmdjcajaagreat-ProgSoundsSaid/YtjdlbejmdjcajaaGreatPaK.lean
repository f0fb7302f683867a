/- kinds of bytes: Small; asks, Of and control at a mode's letter: walked. -/
import Derived.Test.YtjdlbejmdjcajaaGreatPaC
set_option linter.unusedVariables false
set_option linter.unusedSimpArgs false
namespace Go.Proofs.YtjdlbejmdjcajaaGreat
open Go.RowKit Go.Shelf Go.Maps Go.Proofs.YtjdlbejmdjcajaaGreatW.PrintWords Go.Proofs.YtjdlbejmdjcajaaGreatW.PrintLast

theorem pbetween (x lo hi : Int) (w : World) : Calls Tryz.prog 100 #[.int .u8 x, .int .u8 lo, .int .u8 hi] w fun e w' => e = .returned (.bool (decide (lo ≤ x) && decide (x ≤ hi))) ∧ w' = w := by
  go_enter Tryz.func100, Tryz.ntmps100
  cases h1 : decide (lo ≤ x) <;> cases h2 : decide (x ≤ hi)
  all_goals
    go_wp2
    go_ret
    exact ⟨by simp [h1, h2], rfl⟩
def pbet (lo hi x : Int) : Bool := decide (lo ≤ x) && decide (x ≤ hi)
theorem pgreat (x : Int) (w : World) : Calls Tryz.prog 82 #[.int .u8 x] w fun e w' => e = .returned (.bool (pbet 65 90 x)) ∧ w' = w := by
  have HB := Lib.hid (pbetween x 65 90)
  unfold pbet
  obtain ⟨q, hq⟩ : ∃ q, (decide ((65 : Int) ≤ x) && decide (x ≤ 90)) = q := ⟨_, rfl⟩
  rw [hq] at HB ⊢
  go_enter Tryz.func82, Tryz.ntmps82
  go_wp2_with (go_at_call 100; refine (HB.out _).mono ?_; rintro e w1 ⟨rfl, rfl⟩)
  go_ret
  exact ⟨rfl, rfl⟩
def psmall (x : Int) : Int := if pbet 65 90 x then x + 32 else x
theorem pSmall (x : Int) (w : World) : Calls Tryz.prog 91 #[.int .u8 x] w fun e w' => e = .returned (.int .u8 (psmall x)) ∧ w' = w := by
  have HB := Lib.hid (pgreat x)
  unfold psmall
  cases hq : pbet 65 90 x
  all_goals
    rw [hq] at HB
    go_enter Tryz.func91, Tryz.ntmps91
  · go_wp2_with (go_at_call 82; refine (HB.out _).mono ?_; rintro e w1 ⟨rfl, rfl⟩)
    go_ret
    exact ⟨rfl, rfl⟩
  · have : 65 ≤ x ∧ x ≤ 90 := by simpa [pbet] using hq
    have iw1 : IntKind.u8.wrap (x + 32) = x + 32 := by
      rw [IntKind.wrap_u8]
      omega
    go_wp2_with (go_at_call 82; refine (HB.out _).mono ?_; rintro e w1 ⟨rfl, rfl⟩)
    go_ret
    exact ⟨rfl, rfl⟩
/-- a mode's letter -/
def isMode (d : Int) : Prop := d = 118 ∨ d = 109 ∨ d = 77 ∨ d = 86
theorem asks_mode {d : Int} (h : isMode d) (w : World) : Calls Tryz.prog 81 #[.int .u8 d] w fun e w' => e = .returned .nilFunc ∧ w' = w := by
  have HB := Lib.hid (pSmall d)
  rcases h with rfl | rfl | rfl | rfl
  · rw [show psmall 118 = 118 from by decide] at HB
    go_enter Tryz.func81, Tryz.ntmps81
    go_wp2_with (go_at_call 91; refine (HB.out _).mono ?_; rintro e w1 ⟨rfl, rfl⟩)
    go_ret
    exact ⟨rfl, rfl⟩
  · rw [show psmall 109 = 109 from by decide] at HB
    go_enter Tryz.func81, Tryz.ntmps81
    go_wp2_with (go_at_call 91; refine (HB.out _).mono ?_; rintro e w1 ⟨rfl, rfl⟩)
    go_ret
    exact ⟨rfl, rfl⟩
  · rw [show psmall 77 = 109 from by decide] at HB
    go_enter Tryz.func81, Tryz.ntmps81
    go_wp2_with (go_at_call 91; refine (HB.out _).mono ?_; rintro e w1 ⟨rfl, rfl⟩)
    go_ret
    exact ⟨rfl, rfl⟩
  · rw [show psmall 86 = 118 from by decide] at HB
    go_enter Tryz.func81, Tryz.ntmps81
    go_wp2_with (go_at_call 91; refine (HB.out _).mono ?_; rintro e w1 ⟨rfl, rfl⟩)
    go_ret
    exact ⟨rfl, rfl⟩
theorem fnil (w : World) : (binOp .eql 132 .nilFunc .nilFunc).run Tryz.prog w = .ok (.bool true) w := by kernel_rfl
set_option maxRecDepth 100000 in
theorem of_mode {d : Int} (h : isMode d) (w : World) : Calls Tryz.prog 69 #[.int .u8 d] w fun e w' => e = .returned (.tuple #[.agg #[.int .u64 0, .int .u64 0, .int .u64 0, .int .u64 0], .bool false]) ∧ Below w.heap.size w w' := by
  have HA := Lib.hid (asks_mode h)
  have hf := fnil
  clear h
  go_enter Tryz.func69, Tryz.ntmps69
  go_wp2_with (go_at_call 81; refine (HA.out _).mono ?_; rintro e w1 ⟨rfl, rfl⟩)
  refine bodyPost_ret (by simp [results, Tryz.results69, go_sem]; try rfl) rfl ?_
  exact ⟨rfl, (Below.refl _ w).alloc (Nat.le_refl _) _⟩
theorem control_mode {d : UInt8} (h : isMode (d.toNat : Int)) (w : World) : Calls Tryz.prog 68 #[.int .u8 (d.toNat : Int)] w fun e w' => e = .returned (.tuple #[.int .u8 0, .bool false]) ∧ w' = w := by
  have hi := Tryz.strings_IndexByte ⟨#[101, 116, 114, 98]⟩ (d.toNat : Int) w
  rw [show ((d.toNat : Int).toNat.toUInt8) = d by simp] at hi
  have hd : Lib.indexByte [101, 116, 114, 98] d = -1 := by
    have : d = 118 ∨ d = 109 ∨ d = 77 ∨ d = 86 := by
      rcases h with h | h | h | h
      · exact .inl (UInt8.toNat_inj.1 (by simpa using Int.ofNat.inj h))
      · exact .inr (.inl (UInt8.toNat_inj.1 (by simpa using Int.ofNat.inj h)))
      · exact .inr (.inr (.inl (UInt8.toNat_inj.1 (by simpa using Int.ofNat.inj h))))
      · exact .inr (.inr (.inr (UInt8.toNat_inj.1 (by simpa using Int.ofNat.inj h))))
    rcases this with rfl | rfl | rfl | rfl <;> decide
  rw [show (⟨#[101, 116, 114, 98]⟩ : ByteArray).data.toList = [101, 116, 114, 98] from rfl, hd] at hi
  have HI := Lib.hid hi
  clear hi hd h
  go_enter Tryz.func68, Tryz.ntmps68
  go_wp2_with (go_at_call 72; refine HI.out.mono ?_; rintro e w1 ⟨rfl, rfl⟩)
  go_ret2
  exact ⟨rfl, rfl⟩
end Go.Proofs.YtjdlbejmdjcajaaGreat
