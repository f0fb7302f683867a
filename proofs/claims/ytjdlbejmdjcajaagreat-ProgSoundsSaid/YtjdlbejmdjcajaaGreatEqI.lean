/- instructions compared. -/
import Derived.Test.YtjdlbejmdjcajaaGreatKnB
import Derived.Laws.StructEq
import Derived.Test.YtjdlbejmdjcajaaGreatWEqStruct
set_option linter.unusedVariables false
set_option linter.unusedSimpArgs false
namespace Go.Proofs.YtjdlbejmdjcajaaGreat
open Go.RowKit Go.Shelf Go.Maps Go.Proofs.YtjdlbejmdjcajaaGreatW.PrintWords Go.Proofs.YtjdlbejmdjcajaaGreatW.PrintLast

theorem set_eq (d : Nat) (a0 a1 a2 a3 b0 b1 b2 b3 : Int) (w : World) : (Op.equalIn (d + 2) 32 (.agg #[.int .u64 a0, .int .u64 a1, .int .u64 a2, .int .u64 a3]) (.agg #[.int .u64 b0, .int .u64 b1, .int .u64 b2, .int .u64 b3])).run Tryz.prog w = .ok ((a0 == b0) && ((a1 == b1) && ((a2 == b2) && (a3 == b3)))) w := by
  rw [Op.equalIn]
  simp only [Sem.run_bind, run_underlying Tryz.underlying32, Result.andThen_ok, run_program]
  have hsz : (sizeOf 30).run Tryz.prog w = .ok 1 w := by kernel_rfl
  have hu : Tryz.prog.underlying 30 = some (.int .u64) := Tryz.underlying30
  have hp : ∀ (x0 x1 x2 x3 : Int) (w : World), (part 30 #[Value.int IntKind.u64 x0, Value.int IntKind.u64 x1, Value.int IntKind.u64 x2, Value.int IntKind.u64 x3] 0).run Tryz.prog w = .ok (.int .u64 x0) w ∧ (part 30 #[Value.int IntKind.u64 x0, Value.int IntKind.u64 x1, Value.int IntKind.u64 x2, Value.int IntKind.u64 x3] 1).run Tryz.prog w = .ok (.int .u64 x1) w ∧ (part 30 #[Value.int IntKind.u64 x0, Value.int IntKind.u64 x1, Value.int IntKind.u64 x2, Value.int IntKind.u64 x3] 2).run Tryz.prog w = .ok (.int .u64 x2) w ∧ (part 30 #[Value.int IntKind.u64 x0, Value.int IntKind.u64 x1, Value.int IntKind.u64 x2, Value.int IntKind.u64 x3] 3).run Tryz.prog w = .ok (.int .u64 x3) w := fun _ _ _ _ _ => ⟨by kernel_rfl, by kernel_rfl, by kernel_rfl, by kernel_rfl⟩
  obtain ⟨pa0, pa1, pa2, pa3⟩ := hp a0 a1 a2 a3 w
  obtain ⟨pb0, pb1, pb2, pb3⟩ := hp b0 b1 b2 b3 w
  have he : ∀ (x y : Int), (Op.equalIn (d + 1) 30 (.int .u64 x) (.int .u64 y)).run Tryz.prog w = .ok (x == y) w := fun x y => run_equalIn_int w d _ .u64 .u64 x y hu
  rw [hsz, Result.andThen_ok]
  simp only [Std.Legacy.Range.forIn_eq_forIn_range', Std.Legacy.Range.size, List.range'_succ, List.range'_zero, Nat.sub_zero, Nat.add_sub_cancel, Nat.div_one, List.forIn_cons, List.forIn_nil, Nat.zero_mul, Nat.mul_one, Nat.zero_add, Nat.reduceAdd]
  cases h0 : (a0 == b0) <;> cases h1 : (a1 == b1) <;> cases h2 : (a2 == b2) <;> cases h3 : (a3 == b3) <;> simp [Sem.run_bind, pa0, pa1, pa2, pa3, pb0, pb1, pb2, pb3, he, h0, h1, h2, h3]
/-- two instructions, compared -/
theorem inst_eq (a b : Pp.In) (w : World) : (Op.equalIn 10000 47 (inV a) (inV b)).run Tryz.prog w = .ok ((a.op == b.op) && ((a.c == b.c) && (((a.s0 == b.s0) && ((a.s1 == b.s1) && ((a.s2 == b.s2) && (a.s3 == b.s3)))) && ((a.x == b.x) && (a.y == b.y))))) w := by
  unfold inV inC
  have e8 : ∀ (d : Nat) (x y : Int), (Op.equalIn (d + 1) 5 (.int .u8 x) (.int .u8 y)).run Tryz.prog w = .ok (x == y) w := fun d x y => run_equalIn_int w d _ .u8 .u8 x y Tryz.underlying5
  have e64 : ∀ (d : Nat) (x y : Int), (Op.equalIn (d + 1) 3 (.int .i64 x) (.int .i64 y)).run Tryz.prog w = .ok (x == y) w := fun d x y => run_equalIn_int w d _ .i64 .i64 x y Tryz.underlying3
  refine eqA_of (d := 9999) Tryz.underlying47 (by kernel_rfl) ?_
  refine eqf_cons rfl (by kernel_rfl) (by kernel_rfl) (e8 9998 _ _) ?_
  refine eqf_cons rfl (by kernel_rfl) (by kernel_rfl) (e8 9998 _ _) ?_
  refine eqf_cons rfl (by kernel_rfl) (by kernel_rfl) (set_eq 9997 _ _ _ _ _ _ _ _ w) ?_
  refine eqf_cons rfl (by kernel_rfl) (by kernel_rfl) (e64 9998 _ _) ?_
  exact eqf_last rfl (by kernel_rfl) (by kernel_rfl) (e64 9998 _ _)
theorem inst_neq (a : Pp.In) (w : World) : (binOp .neq 47 (inV a) (inV a)).run Tryz.prog w = .ok (.bool false) w := by
  have h := inst_eq a a w
  unfold inV at h ⊢
  rw [run_neq_struct, h]
  simp [Result.andThen]
end Go.Proofs.YtjdlbejmdjcajaaGreat
