/- patterns: signs, plain, has, literal, fail, peek: walked. -/
import Derived.Test.YtjdlbejmdjcajaaGreatWWords
import Derived.Test.YtjdlbejmdjcajaaGreatWLast
import Derived.Test.YtjdlbejmdjcajaaGreatShelf
import Derived.Test.YtjdlbejmdjcajaaGreatPpA
import Derived.LoopTactic
import Derived.StillTailTactics
import Derived.Deep.RegionLaw
import Derived.Lib.Hide
import Derived.Below
import Derived.WalkSmall
import Derived.WalkKit
import Derived.WalkSpells
import Derived.Laws.DeepStrings4
set_option linter.unusedVariables false
set_option linter.unusedSimpArgs false
namespace Go.Proofs.YtjdlbejmdjcajaaGreat
open Go.RowKit Go.Shelf Go.Maps Go.Proofs.YtjdlbejmdjcajaaGreatW.PrintWords Go.Proofs.YtjdlbejmdjcajaaGreatW.PrintLast

def sgB : ByteArray := ⟨#[94, 36, 46, 42, 91, 126, 43, 61, 63, 123, 40, 41, 124, 60, 62]⟩
/-- the signs that are signs as they stand -/
def plainB (m : Int) : ByteArray := if m = 118 then sgB else if m = 109 then ⟨#[94, 36, 46, 42, 91, 126]⟩ else if m = 77 then ⟨#[94, 36]⟩ else ⟨#[]⟩
def hasB (s : ByteArray) (c : UInt8) : Bool := s.data.toList.contains c
theorem idx_has (l : List UInt8) (c : UInt8) : decide (0 ≤ Lib.indexByte l c) = l.contains c := by
  induction l with
  | nil => rfl
  | cons b l ih =>
    have hge := Lib.indexByte_ge l c
    by_cases hb : b = c
    · subst hb
      simp [Lib.indexByte]
    · have hb' : (b == c) = false := beq_eq_false_iff_ne.2 hb
      have hc' : (c == b) = false := beq_eq_false_iff_ne.2 (fun e => hb e.symm)
      rw [List.contains_cons, hc', Bool.false_or, ← ih]
      simp only [Lib.indexByte, hb']
      by_cases hr : Lib.indexByte l c = -1
      · simp [hr]
      · have h2 : (Lib.indexByte l c == -1) = false := beq_eq_false_iff_ne.2 hr
        simp only [h2]
        have h3 : decide (0 ≤ Lib.indexByte l c) = true := decide_eq_true (by omega)
        rw [h3]
        exact decide_eq_true (by simp; omega)
theorem has_any (s : ByteArray) (c : UInt8) (w : World) : Calls Tryz.prog 54 #[.string s, .int .u8 (c.toNat : Int)] w fun e w' => e = .returned (.bool (hasB s c)) ∧ w' = w := by
  have hi := Tryz.strings_IndexByte s (c.toNat : Int) w
  rw [show ((c.toNat : Int).toNat.toUInt8) = c by simp] at hi
  have hd := idx_has s.data.toList c
  unfold hasB
  obtain ⟨k, hk⟩ : ∃ k, Lib.indexByte s.data.toList c = k := ⟨_, rfl⟩
  rw [hk] at hi hd
  rw [← hd]
  have HI := Lib.hid hi
  clear hi hd hk
  go_enter Tryz.func54, Tryz.ntmps54
  go_wp2_with (go_at_call 72; refine HI.out.mono ?_; rintro e w1 ⟨rfl, rfl⟩)
  go_ret
  exact ⟨by simp, rfl⟩
theorem plain_any (m : Int) (w : World) : Calls Tryz.prog 55 #[.int .u8 m] w fun e w' => e = .returned (.string (plainB m)) ∧ w' = w := by
  unfold plainB
  have e6 : sgB.extract 0 6 = ⟨#[94, 36, 46, 42, 91, 126]⟩ := by decide +kernel
  have e2 : sgB.extract 0 2 = ⟨#[94, 36]⟩ := by decide +kernel
  have ez : sgB.size = 15 := rfl
  unfold sgB at e6 e2 ez ⊢
  by_cases h1 : m = 118
  · subst h1
    go_enter Tryz.func55, Tryz.ntmps55
    go_wp2
    go_ret
    exact ⟨rfl, rfl⟩
  have b1 : (m == 118) = false := beq_eq_false_iff_ne.2 h1
  by_cases h2 : m = 109
  · subst h2
    go_enter Tryz.func55, Tryz.ntmps55
    go_wp2
    go_ret
    exact ⟨by simp [e6], rfl⟩
  have b2 : (m == 109) = false := beq_eq_false_iff_ne.2 h2
  by_cases h3 : m = 77
  · subst h3
    go_enter Tryz.func55, Tryz.ntmps55
    go_wp2
    go_ret
    exact ⟨by simp [e2], rfl⟩
  have b3 : (m == 77) = false := beq_eq_false_iff_ne.2 h3
  rw [if_neg h1, if_neg h2, if_neg h3]
  clear h1 h2 h3
  go_enter Tryz.func55, Tryz.ntmps55
  go_wp2
  go_ret
  exact ⟨rfl, rfl⟩

/-- a node, as a value; a token -/
def ndV (d : Pp.Nd) (kv : Value) : Value := .agg #[.int .u8 d.op, .int .u8 d.c, .int .u64 d.s0, .int .u64 d.s1, .int .u64 d.s2, .int .u64 d.s3, .int .i64 d.mn, .int .i64 d.mx, .bool d.lz, .int .i64 d.n, kv]
def tokV (sign : Int) (d : Pp.Nd) (kv : Value) (nn : Bool) : Value := .agg #[.int .u8 sign, .int .u8 d.op, .int .u8 d.c, .int .u64 d.s0, .int .u64 d.s1, .int .u64 d.s2, .int .u64 d.s3, .int .i64 d.mn, .int .i64 d.mx, .bool d.lz, .int .i64 d.n, kv, .bool nn]
/-- a plain token, as a value -/
def tkV : Pp.Tk → Value
  | .lit c => tokV 0 (Pp.lit c) (.slice none 0 0) false
  | .sign c => tokV c.toNat Pp.nd0 (.slice none 0 0) false
  | .none => tokV 0 Pp.nd0 (.slice none 0 0) true
set_option maxRecDepth 100000 in
theorem literal_any (c : UInt8) (w : World) : Calls Tryz.prog 56 #[.int .u8 (c.toNat : Int)] w fun e w' => e = .returned (tkV (.lit c)) ∧ Below w.heap.size w w' := by
  go_enter Tryz.func56, Tryz.ntmps56
  go_wp2
  refine bodyPost_ret (by simp [results, Tryz.results56, go_sem]; try rfl) rfl ?_
  exact ⟨rfl, (Below.refl _ w).alloc (Nat.le_refl _) _⟩
def faultV (e p : Int) : Value := .iface 64 (.agg #[.int .u16 e, .int .i64 p])
theorem fail_any (n p : Int) (w : World) : Calls Tryz.prog 49 #[.int .u16 n, .int .i64 p] w fun e w' => e = .panicked [{ v := faultV n p, recovered := false }] ∧ w' = w := by
  go_enter Tryz.func49, Tryz.ntmps49
  go_wp2
  exact ⟨rfl, rfl, rfl⟩
end Go.Proofs.YtjdlbejmdjcajaaGreat
