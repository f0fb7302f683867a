/- may an instruction be: the program's and the document's answer: walked. -/
import Derived.Test.YtjdlbejmdjcajaaGreatSnA
set_option linter.unusedVariables false
set_option linter.unusedSimpArgs false
namespace Go.Proofs.YtjdlbejmdjcajaaGreat
open Go.RowKit Go.Shelf Go.Maps Go.Proofs.YtjdlbejmdjcajaaGreatW.PrintWords Go.Proofs.YtjdlbejmdjcajaaGreatW.PrintLast

def within' (x n : Int) : Bool := decide (0 ≤ x) && decide (x < n)
def fineI (n r : Int) (z : Pp.In) : Bool :=
  if z.op = 4 then within' z.x n && within' z.y n
  else if z.op = 5 then within' z.x n
  else if z.op = 6 then within' z.x 22
  else if z.op = 7 then within' z.x 10
  else if z.op = 12 ∨ z.op = 13 then within' z.x r
  else decide (1 ≤ z.op) && decide (z.op ≤ 14)
theorem within_p (x n : Int) (w : World) : Calls Tryz.prog 28 #[.int .i64 x, .int .i64 n] w fun e w' => e = .returned (.bool (within' x n)) ∧ w' = w := by
  unfold within'
  by_cases h1 : 0 ≤ x
  · go_enter Tryz.func28, Tryz.ntmps28
    go_wp2
    go_ret
    exact ⟨by simp [h1], rfl⟩
  · have q1 : decide (0 ≤ x) = false := decide_eq_false h1
    have q2 : x < 0 := by omega
    go_enter Tryz.func28, Tryz.ntmps28
    go_wp2
    go_ret
    exact ⟨by simp [q1], rfl⟩
set_option maxRecDepth 100000 in
set_option maxHeartbeats 4000000 in
theorem fine_p (A : Option Addr) (m c : Nat) (r : Int) (f : Bool) (z : Pp.In) (w : World) : Calls Tryz.prog 14 #[.agg #[.slice A m c, .int .i64 r, .bool f], inV z] w fun e w' => e = .returned (.bool (fineI (m : Int) r z)) ∧ Below w.heap.size w w' := by
  unfold inV inC fineI
  have HX := Lib.hid (within_p z.x (m : Int))
  have HY := Lib.hid (within_p z.y (m : Int))
  have H22 := Lib.hid (within_p z.x 22)
  have H10 := Lib.hid (within_p z.x 10)
  have HRR := Lib.hid (within_p z.x r)
  have HB := Lib.hid (below_alloc (below_alloc (Below.refl w.heap.size w) (.cells #[.slice A m c, .int .i64 r, .bool f] 24)) (.cells #[.int .u8 z.op, .int .u8 z.c, .int .u64 z.s0, .int .u64 z.s1, .int .u64 z.s2, .int .u64 z.s3, .int .i64 z.x, .int .i64 z.y] 47))
  obtain ⟨op, hop⟩ : ∃ op, z.op = op := ⟨_, rfl⟩
  rw [hop] at HB ⊢
  clear hop
  by_cases h4 : op = 4
  · subst h4
    rw [if_pos rfl]
    obtain ⟨bx, hbx⟩ : ∃ bx, within' z.x (m : Int) = bx := ⟨_, rfl⟩
    obtain ⟨byy, hby⟩ : ∃ byy, within' z.y (m : Int) = byy := ⟨_, rfl⟩
    rw [hbx] at HX ⊢
    rw [hby] at HY ⊢
    clear hbx hby
    cases bx with
    | false =>
      go_enter Tryz.func14, Tryz.ntmps14
      go_wp2_with fail
      refine (HX.out _).mono ?_
      rintro e w1 ⟨rfl, rfl⟩
      go_wp2
      go_ret
      exact ⟨rfl, HB.out⟩
    | true =>
      go_enter Tryz.func14, Tryz.ntmps14
      go_wp2_with fail
      refine (HX.out _).mono ?_
      rintro e w1 ⟨rfl, rfl⟩
      go_wp2_with fail
      refine (HY.out _).mono ?_
      rintro e w1 ⟨rfl, rfl⟩
      go_wp2
      go_ret
      exact ⟨by simp, HB.out⟩
  by_cases h5 : op = 5
  · subst h5
    clear h4
    simp only [show ¬ ((5 : Int) = 4) by decide, if_false, if_true]
    go_enter Tryz.func14, Tryz.ntmps14
    go_wp2_with fail
    refine (HX.out _).mono ?_
    rintro e w1 ⟨rfl, rfl⟩
    go_wp2
    go_ret
    exact ⟨rfl, HB.out⟩
  by_cases h6 : op = 6
  · subst h6
    clear h4 h5
    simp only [show ¬ ((6 : Int) = 4) by decide, show ¬ ((6 : Int) = 5) by decide, if_false, if_true]
    go_enter Tryz.func14, Tryz.ntmps14
    go_wp2_with fail
    refine (H22.out _).mono ?_
    rintro e w1 ⟨rfl, rfl⟩
    go_wp2
    go_ret
    exact ⟨rfl, HB.out⟩
  by_cases h7 : op = 7
  · subst h7
    clear h4 h5 h6
    simp only [show ¬ ((7 : Int) = 4) by decide, show ¬ ((7 : Int) = 5) by decide, show ¬ ((7 : Int) = 6) by decide, if_false, if_true]
    go_enter Tryz.func14, Tryz.ntmps14
    go_wp2_with fail
    refine (H10.out _).mono ?_
    rintro e w1 ⟨rfl, rfl⟩
    go_wp2
    go_ret
    exact ⟨rfl, HB.out⟩
  by_cases h12 : op = 12
  · subst h12
    clear h4 h5 h6 h7
    simp only [show ¬ ((12 : Int) = 4) by decide, show ¬ ((12 : Int) = 5) by decide, show ¬ ((12 : Int) = 6) by decide, show ¬ ((12 : Int) = 7) by decide, if_false, true_or, or_true, if_true]
    go_enter Tryz.func14, Tryz.ntmps14
    go_wp2_with fail
    refine (HRR.out _).mono ?_
    rintro e w1 ⟨rfl, rfl⟩
    go_wp2
    go_ret
    exact ⟨rfl, HB.out⟩
  by_cases h13 : op = 13
  · subst h13
    clear h4 h5 h6 h7 h12
    simp only [show ¬ ((13 : Int) = 4) by decide, show ¬ ((13 : Int) = 5) by decide, show ¬ ((13 : Int) = 6) by decide, show ¬ ((13 : Int) = 7) by decide, if_false, true_or, or_true, if_true]
    go_enter Tryz.func14, Tryz.ntmps14
    go_wp2_with fail
    refine (HRR.out _).mono ?_
    rintro e w1 ⟨rfl, rfl⟩
    go_wp2
    go_ret
    exact ⟨rfl, HB.out⟩
  have b4 : (op == 4) = false := beq_eq_false_iff_ne.2 h4
  have b5 : (op == 5) = false := beq_eq_false_iff_ne.2 h5
  have b6 : (op == 6) = false := beq_eq_false_iff_ne.2 h6
  have b7 : (op == 7) = false := beq_eq_false_iff_ne.2 h7
  have b12 : (op == 12) = false := beq_eq_false_iff_ne.2 h12
  have b13 : (op == 13) = false := beq_eq_false_iff_ne.2 h13
  rw [if_neg h4, if_neg h5, if_neg h6, if_neg h7, if_neg (by omega)]
  clear h4 h5 h6 h7 h12 h13
  by_cases q1 : 1 ≤ op
  · go_enter Tryz.func14, Tryz.ntmps14
    go_wp2
    go_ret
    exact ⟨by simp [q1], HB.out⟩
  · have q2 : decide (1 ≤ op) = false := decide_eq_false q1
    have q3 : op < 1 := by omega
    go_enter Tryz.func14, Tryz.ntmps14
    go_wp2
    go_ret
    exact ⟨by simp [q2], HB.out⟩
theorem within_r (x n : Int) (w : World) : Calls Tryz.prog 29 #[.int .i64 x, .int .i64 n] w fun e w' => e = .returned (.bool (within' x n)) ∧ w' = w := by
  unfold within'
  by_cases h1 : 0 ≤ x
  · go_enter Tryz.func29, Tryz.ntmps29
    go_wp2
    go_ret
    exact ⟨by simp [h1], rfl⟩
  · have q1 : decide (0 ≤ x) = false := decide_eq_false h1
    have q2 : x < 0 := by omega
    go_enter Tryz.func29, Tryz.ntmps29
    go_wp2
    go_ret
    exact ⟨by simp [q1], rfl⟩
set_option maxRecDepth 100000 in
set_option maxHeartbeats 4000000 in
theorem fine_r (A : Option Addr) (m c : Nat) (r : Int) (f : Bool) (z : Pp.In) (w : World) : Calls Tryz.prog 15 #[.agg #[.slice A m c, .int .i64 r, .bool f], inV z] w fun e w' => e = .returned (.bool (fineI (m : Int) r z)) ∧ Below w.heap.size w w' := by
  unfold inV inC fineI
  have HX := Lib.hid (within_r z.x (m : Int))
  have HY := Lib.hid (within_r z.y (m : Int))
  have H22 := Lib.hid (within_r z.x 22)
  have H10 := Lib.hid (within_r z.x 10)
  have HRR := Lib.hid (within_r z.x r)
  have HB := Lib.hid (below_alloc (below_alloc (Below.refl w.heap.size w) (.cells #[.slice A m c, .int .i64 r, .bool f] 24)) (.cells #[.int .u8 z.op, .int .u8 z.c, .int .u64 z.s0, .int .u64 z.s1, .int .u64 z.s2, .int .u64 z.s3, .int .i64 z.x, .int .i64 z.y] 47))
  obtain ⟨op, hop⟩ : ∃ op, z.op = op := ⟨_, rfl⟩
  rw [hop] at HB ⊢
  clear hop
  by_cases h4 : op = 4
  · subst h4
    rw [if_pos rfl]
    obtain ⟨bx, hbx⟩ : ∃ bx, within' z.x (m : Int) = bx := ⟨_, rfl⟩
    obtain ⟨byy, hby⟩ : ∃ byy, within' z.y (m : Int) = byy := ⟨_, rfl⟩
    rw [hbx] at HX ⊢
    rw [hby] at HY ⊢
    clear hbx hby
    cases bx with
    | false =>
      go_enter Tryz.func15, Tryz.ntmps15
      go_wp2_with fail
      refine (HX.out _).mono ?_
      rintro e w1 ⟨rfl, rfl⟩
      go_wp2
      go_ret
      exact ⟨rfl, HB.out⟩
    | true =>
      go_enter Tryz.func15, Tryz.ntmps15
      go_wp2_with fail
      refine (HX.out _).mono ?_
      rintro e w1 ⟨rfl, rfl⟩
      go_wp2_with fail
      refine (HY.out _).mono ?_
      rintro e w1 ⟨rfl, rfl⟩
      go_wp2
      go_ret
      exact ⟨by simp, HB.out⟩
  by_cases h5 : op = 5
  · subst h5
    clear h4
    simp only [show ¬ ((5 : Int) = 4) by decide, if_false, if_true]
    go_enter Tryz.func15, Tryz.ntmps15
    go_wp2_with fail
    refine (HX.out _).mono ?_
    rintro e w1 ⟨rfl, rfl⟩
    go_wp2
    go_ret
    exact ⟨rfl, HB.out⟩
  by_cases h6 : op = 6
  · subst h6
    clear h4 h5
    simp only [show ¬ ((6 : Int) = 4) by decide, show ¬ ((6 : Int) = 5) by decide, if_false, if_true]
    go_enter Tryz.func15, Tryz.ntmps15
    go_wp2_with fail
    refine (H22.out _).mono ?_
    rintro e w1 ⟨rfl, rfl⟩
    go_wp2
    go_ret
    exact ⟨rfl, HB.out⟩
  by_cases h7 : op = 7
  · subst h7
    clear h4 h5 h6
    simp only [show ¬ ((7 : Int) = 4) by decide, show ¬ ((7 : Int) = 5) by decide, show ¬ ((7 : Int) = 6) by decide, if_false, if_true]
    go_enter Tryz.func15, Tryz.ntmps15
    go_wp2_with fail
    refine (H10.out _).mono ?_
    rintro e w1 ⟨rfl, rfl⟩
    go_wp2
    go_ret
    exact ⟨rfl, HB.out⟩
  by_cases h12 : op = 12
  · subst h12
    clear h4 h5 h6 h7
    simp only [show ¬ ((12 : Int) = 4) by decide, show ¬ ((12 : Int) = 5) by decide, show ¬ ((12 : Int) = 6) by decide, show ¬ ((12 : Int) = 7) by decide, if_false, true_or, or_true, if_true]
    go_enter Tryz.func15, Tryz.ntmps15
    go_wp2_with fail
    refine (HRR.out _).mono ?_
    rintro e w1 ⟨rfl, rfl⟩
    go_wp2
    go_ret
    exact ⟨rfl, HB.out⟩
  by_cases h13 : op = 13
  · subst h13
    clear h4 h5 h6 h7 h12
    simp only [show ¬ ((13 : Int) = 4) by decide, show ¬ ((13 : Int) = 5) by decide, show ¬ ((13 : Int) = 6) by decide, show ¬ ((13 : Int) = 7) by decide, if_false, true_or, or_true, if_true]
    go_enter Tryz.func15, Tryz.ntmps15
    go_wp2_with fail
    refine (HRR.out _).mono ?_
    rintro e w1 ⟨rfl, rfl⟩
    go_wp2
    go_ret
    exact ⟨rfl, HB.out⟩
  have b4 : (op == 4) = false := beq_eq_false_iff_ne.2 h4
  have b5 : (op == 5) = false := beq_eq_false_iff_ne.2 h5
  have b6 : (op == 6) = false := beq_eq_false_iff_ne.2 h6
  have b7 : (op == 7) = false := beq_eq_false_iff_ne.2 h7
  have b12 : (op == 12) = false := beq_eq_false_iff_ne.2 h12
  have b13 : (op == 13) = false := beq_eq_false_iff_ne.2 h13
  rw [if_neg h4, if_neg h5, if_neg h6, if_neg h7, if_neg (by omega)]
  clear h4 h5 h6 h7 h12 h13
  by_cases q1 : 1 ≤ op
  · go_enter Tryz.func15, Tryz.ntmps15
    go_wp2
    go_ret
    exact ⟨by simp [q1], HB.out⟩
  · have q2 : decide (1 ≤ op) = false := decide_eq_false q1
    have q3 : op < 1 := by omega
    go_enter Tryz.func15, Tryz.ntmps15
    go_wp2
    go_ret
    exact ⟨by simp [q2], HB.out⟩
end Go.Proofs.YtjdlbejmdjcajaaGreat
