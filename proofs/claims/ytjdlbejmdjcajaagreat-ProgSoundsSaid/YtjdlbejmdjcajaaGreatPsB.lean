/- pat.Sound's parts: kids, fine: walked. -/
import Derived.Test.YtjdlbejmdjcajaaGreatPsA
set_option linter.unusedVariables false
set_option linter.unusedSimpArgs false
namespace Go.Proofs.YtjdlbejmdjcajaaGreat
open Go.RowKit Go.Shelf Go.Maps Go.Proofs.YtjdlbejmdjcajaaGreatW.PrintWords Go.Proofs.YtjdlbejmdjcajaaGreatW.PrintLast

set_option maxRecDepth 100000 in
set_option maxHeartbeats 1000000 in
theorem kids_any (d : Pp.Nd) (ks : List Int) (A : Option Addr) (c : Nat) (w : World) : Calls Tryz.prog 40 #[ndV d (.slice A ks.length c)] w fun e w' => e = .returned (.bool (Pp.kidsP d ks)) ∧ Below w.heap.size w w' := by
  unfold ndV Pp.kidsP
  obtain ⟨n, hn⟩ : ∃ n, ks.length = n := ⟨_, rfl⟩
  rw [hn]
  clear hn
  have hal := below_alloc (Below.refl w.heap.size w) (.cells #[.int .u8 d.op, .int .u8 d.c, .int .u64 d.s0, .int .u64 d.s1, .int .u64 d.s2, .int .u64 d.s3, .int .i64 d.mn, .int .i64 d.mx, .bool d.lz, .int .i64 d.n, .slice A n c] 35)
  have HAL := Lib.hid hal
  clear hal
  obtain ⟨op, hop⟩ : ∃ op, d.op = op := ⟨_, rfl⟩
  rw [hop] at HAL ⊢
  clear hop
  by_cases h7 : op = 7
  · subst h7
    have hb : decide (n = 1) = ((n : Int) == 1) := by rw [Bool.eq_iff_iff]; simp; omega
    simp only [true_or, if_true]
    rw [hb]
    clear hb
    go_enter Tryz.func40, Tryz.ntmps40
    go_wp2
    go_ret
    exact ⟨rfl, HAL.out⟩
  by_cases h8 : op = 8
  · subst h8
    have hb : decide (n = 1) = ((n : Int) == 1) := by rw [Bool.eq_iff_iff]; simp; omega
    simp only [or_true, if_true]
    rw [hb]
    clear hb
    go_enter Tryz.func40, Tryz.ntmps40
    go_wp2
    go_ret
    exact ⟨rfl, HAL.out⟩
  have b7 : (op == 7) = false := beq_eq_false_iff_ne.2 h7
  have b8 : (op == 8) = false := beq_eq_false_iff_ne.2 h8
  rw [if_neg (by omega)]
  by_cases h5 : op = 5
  · subst h5
    have hb : decide (1 < n) = decide ((1 : Int) < (n : Int)) := by rw [Bool.eq_iff_iff]; simp; omega
    simp only [true_or, if_true]
    rw [hb]
    clear hb h7 h8
    go_enter Tryz.func40, Tryz.ntmps40
    go_wp2
    go_ret
    exact ⟨rfl, HAL.out⟩
  by_cases h6 : op = 6
  · subst h6
    have hb : decide (1 < n) = decide ((1 : Int) < (n : Int)) := by rw [Bool.eq_iff_iff]; simp; omega
    simp only [or_true, if_true]
    rw [hb]
    clear hb h7 h8
    go_enter Tryz.func40, Tryz.ntmps40
    go_wp2
    go_ret
    exact ⟨rfl, HAL.out⟩
  have b5 : (op == 5) = false := beq_eq_false_iff_ne.2 h5
  have b6 : (op == 6) = false := beq_eq_false_iff_ne.2 h6
  rw [if_neg (by omega)]
  have hb : decide (n = 0) = ((n : Int) == 0) := by rw [Bool.eq_iff_iff]; simp
  rw [hb]
  clear hb h7 h8 h5 h6
  cases q0 : ((n : Int) == 0)
  · go_enter Tryz.func40, Tryz.ntmps40
    go_wp2
    go_ret
    exact ⟨by simp, HAL.out⟩
  · by_cases q1 : 1 ≤ op
    · go_enter Tryz.func40, Tryz.ntmps40
      go_wp2
      go_ret
      exact ⟨by simp [q1], HAL.out⟩
    · go_enter Tryz.func40, Tryz.ntmps40
      go_wp2
      go_ret
      exact ⟨by simp [q1]; omega, HAL.out⟩
set_option maxRecDepth 100000 in
set_option maxHeartbeats 1000000 in
theorem fine_any (d : Pp.Nd) (kv : Value) (Wk : Nat) (g : Int) (w : World) (hk : kv.oneCell' = true) (hg : w.cell? ⟨Wk, 2, none⟩ = some (.int .i64 g)) (hlt : Wk < w.heap.size) : Calls Tryz.prog 41 #[.pointer (some ⟨Wk, 0, none⟩), ndV d kv] w fun e w' => e = .returned (.bool (Pp.fineP g d)) ∧ Below w.heap.size w w' := by
  unfold ndV Pp.fineP
  have hal := below_alloc (Below.refl w.heap.size w) (.cells #[.int .u8 d.op, .int .u8 d.c, .int .u64 d.s0, .int .u64 d.s1, .int .u64 d.s2, .int .u64 d.s3, .int .i64 d.mn, .int .i64 d.mx, .bool d.lz, .int .i64 d.n, kv] 35)
  have hg1 := (World.cell?_of_block (a := ⟨Wk, 2, none⟩) (hal.block Wk hlt)).trans hg
  have HAL := Lib.hid hal
  have HALD := Lib.hid hal.drew
  clear hal
  obtain ⟨op, hop⟩ : ∃ op, d.op = op := ⟨_, rfl⟩
  rw [hop] at HAL HALD hg1 ⊢
  clear hop
  by_cases h8 : op = 8
  · subst h8
    simp only [true_or, if_true]
    by_cases q1 : 1 ≤ d.n
    · go_enter Tryz.func41, Tryz.ntmps41
      go_wp2
      go_region
      go_wp2
      go_ret
      exact ⟨by simp [q1] <;> omega, by first | exact HAL.out | exact HALD.out⟩
    · have q2 : decide (1 ≤ d.n) = false := decide_eq_false q1
      have q3 : d.n < 1 := by omega
      go_enter Tryz.func41, Tryz.ntmps41
      go_wp2
      go_region
      go_wp2
      go_ret
      exact ⟨by simp [q1] <;> omega, by first | exact HAL.out | exact HALD.out⟩
  by_cases h9 : op = 9
  · subst h9
    simp only [or_true, if_true]
    by_cases q1 : 1 ≤ d.n
    · go_enter Tryz.func41, Tryz.ntmps41
      go_wp2
      go_region
      go_wp2
      go_ret
      exact ⟨by simp [q1] <;> omega, by first | exact HAL.out | exact HALD.out⟩
    · have q2 : decide (1 ≤ d.n) = false := decide_eq_false q1
      have q3 : d.n < 1 := by omega
      go_enter Tryz.func41, Tryz.ntmps41
      go_wp2
      go_region
      go_wp2
      go_ret
      exact ⟨by simp [q1] <;> omega, by first | exact HAL.out | exact HALD.out⟩
  have b8 : (op == 8) = false := beq_eq_false_iff_ne.2 h8
  have b9 : (op == 9) = false := beq_eq_false_iff_ne.2 h9
  rw [if_neg (by omega)]
  by_cases h7 : op = 7
  · subst h7
    simp only [if_true]
    clear h8 h9
    by_cases m1 : 0 ≤ d.mn
    · by_cases m2 : d.mn ≤ 60
      · by_cases m3 : d.mx ≤ 60
        · by_cases m4 : d.mx < 0
          all_goals
            go_enter Tryz.func41, Tryz.ntmps41
            go_wp2
            go_ret
            exact ⟨by simp [m1, m2, m3, m4] <;> omega, HAL.out⟩
        · go_enter Tryz.func41, Tryz.ntmps41
          go_wp2
          go_ret
          exact ⟨by simp [m1, m2, m3] <;> omega, HAL.out⟩
      · go_enter Tryz.func41, Tryz.ntmps41
        go_wp2
        go_ret
        exact ⟨by simp [m1, m2] <;> omega, HAL.out⟩
    · go_enter Tryz.func41, Tryz.ntmps41
      go_wp2
      go_ret
      exact ⟨by simp [m1] <;> omega, HAL.out⟩
  · have b7 : (op == 7) = false := beq_eq_false_iff_ne.2 h7
    rw [if_neg h7]
    clear h7 h8 h9
    go_enter Tryz.func41, Tryz.ntmps41
    go_wp2
    go_ret
    exact ⟨rfl, HAL.out⟩
end Go.Proofs.YtjdlbejmdjcajaaGreat
