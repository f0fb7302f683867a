/- prog: single, split and its way out: walked. -/
import Derived.Test.YtjdlbejmdjcajaaGreatPcA
set_option linter.unusedVariables false
set_option linter.unusedSimpArgs false
namespace Go.Proofs.YtjdlbejmdjcajaaGreat
open Go.RowKit Go.Shelf Go.Maps Go.Proofs.YtjdlbejmdjcajaaGreatW.PrintWords Go.Proofs.YtjdlbejmdjcajaaGreatW.PrintLast

theorem inst_zero (w : World) : (w.alloc (.cells #[.int .u8 0, .int .u8 0, .int .u64 0, .int .u64 0, .int .u64 0, .int .u64 0, .int .i64 0, .int .i64 0] 47)).heap[w.heap.size]? = some (.cells #[.int .u8 0, .int .u8 0, .int .u64 0, .int .u64 0, .int .u64 0, .int .u64 0, .int .i64 0, .int .i64 0] 47 (0, 0)) := alloc_at w _
set_option maxRecDepth 100000 in
set_option maxHeartbeats 4000000 in
theorem csingle_any (d : Pp.Nd) (kv : Value) (w : World) : Calls Tryz.prog 33 #[ndV d kv] w fun e w' => e = .returned (inV (Pp.singleC d)) ∧ Below w.heap.size w w' := by
  unfold ndV Pp.singleC
  have hal := below_alloc (below_alloc (Below.refl w.heap.size w) (.cells #[.int .u8 d.op, .int .u8 d.c, .int .u64 d.s0, .int .u64 d.s1, .int .u64 d.s2, .int .u64 d.s3, .int .i64 d.mn, .int .i64 d.mx, .bool d.lz, .int .i64 d.n, kv] 35)) (.cells #[.int .u8 0, .int .u8 0, .int .u64 0, .int .u64 0, .int .u64 0, .int .u64 0, .int .i64 0, .int .i64 0] 47)
  have HAL := Lib.hid hal
  clear hal
  obtain ⟨op, hop⟩ : ∃ op, d.op = op := ⟨_, rfl⟩
  rw [hop] at HAL ⊢
  clear hop
  by_cases h2 : op = 2
  · subst h2
    clear HAL 
    go_enter Tryz.func33, Tryz.ntmps33
    go_wp2
    refine bodyPost_ret (v := .agg #[_, _, _, _, _, _, _, _]) (by simp [results, Tryz.results33, go_sem]; first | exact ⟨rfl, rfl, rfl, rfl, rfl, rfl, rfl, rfl⟩ | rfl) rfl ?_
    exact ⟨rfl, below_alloc (below_alloc (Below.refl _ _) _) _⟩
  by_cases h3 : op = 3
  · subst h3
    clear HAL h2
    go_enter Tryz.func33, Tryz.ntmps33
    go_wp2
    refine bodyPost_ret (v := .agg #[_, _, _, _, _, _, _, _]) (by simp [results, Tryz.results33, go_sem]; first | exact ⟨rfl, rfl, rfl, rfl, rfl, rfl, rfl, rfl⟩ | rfl) rfl ?_
    exact ⟨rfl, below_alloc (below_alloc (Below.refl _ _) _) _⟩
  by_cases h4 : op = 4
  · subst h4
    clear HAL h2 h3
    go_enter Tryz.func33, Tryz.ntmps33
    go_wp2
    refine bodyPost_ret (v := .agg #[_, _, _, _, _, _, _, _]) (by simp [results, Tryz.results33, go_sem]; first | exact ⟨rfl, rfl, rfl, rfl, rfl, rfl, rfl, rfl⟩ | rfl) rfl ?_
    exact ⟨rfl, below_alloc (below_alloc (Below.refl _ _) _) _⟩
  by_cases h9 : op = 9
  · subst h9
    clear HAL h2 h3 h4
    go_enter Tryz.func33, Tryz.ntmps33
    go_wp2
    refine bodyPost_ret (v := .agg #[_, _, _, _, _, _, _, _]) (by simp [results, Tryz.results33, go_sem]; first | exact ⟨rfl, rfl, rfl, rfl, rfl, rfl, rfl, rfl⟩ | rfl) rfl ?_
    exact ⟨rfl, below_alloc (below_alloc (Below.refl _ _) _) _⟩
  by_cases h14 : op = 14
  · subst h14
    clear HAL h2 h3 h4 h9
    go_enter Tryz.func33, Tryz.ntmps33
    go_wp2
    refine bodyPost_ret (v := .agg #[_, _, _, _, _, _, _, _]) (by simp [results, Tryz.results33, go_sem]; first | exact ⟨rfl, rfl, rfl, rfl, rfl, rfl, rfl, rfl⟩ | rfl) rfl ?_
    exact ⟨rfl, below_alloc (below_alloc (Below.refl _ _) _) _⟩
  by_cases h15 : op = 15
  · subst h15
    clear HAL h2 h3 h4 h9 h14
    go_enter Tryz.func33, Tryz.ntmps33
    go_wp2
    refine bodyPost_ret (v := .agg #[_, _, _, _, _, _, _, _]) (by simp [results, Tryz.results33, go_sem]; first | exact ⟨rfl, rfl, rfl, rfl, rfl, rfl, rfl, rfl⟩ | rfl) rfl ?_
    exact ⟨rfl, below_alloc (below_alloc (Below.refl _ _) _) _⟩
  by_cases h10 : op = 10
  · subst h10
    clear HAL h2 h3 h4 h9 h14 h15
    go_enter Tryz.func33, Tryz.ntmps33
    go_wp2
    refine bodyPost_ret (v := .agg #[_, _, _, _, _, _, _, _]) (by simp [results, Tryz.results33, go_sem]; first | exact ⟨rfl, rfl, rfl, rfl, rfl, rfl, rfl, rfl⟩ | rfl) rfl ?_
    exact ⟨rfl, below_alloc (below_alloc (Below.refl _ _) _) _⟩
  by_cases h11 : op = 11
  · subst h11
    clear HAL h2 h3 h4 h9 h14 h15 h10
    go_enter Tryz.func33, Tryz.ntmps33
    go_wp2
    refine bodyPost_ret (v := .agg #[_, _, _, _, _, _, _, _]) (by simp [results, Tryz.results33, go_sem]; first | exact ⟨rfl, rfl, rfl, rfl, rfl, rfl, rfl, rfl⟩ | rfl) rfl ?_
    exact ⟨rfl, below_alloc (below_alloc (Below.refl _ _) _) _⟩
  by_cases h12 : op = 12
  · subst h12
    clear HAL h2 h3 h4 h9 h14 h15 h10 h11
    go_enter Tryz.func33, Tryz.ntmps33
    go_wp2
    refine bodyPost_ret (v := .agg #[_, _, _, _, _, _, _, _]) (by simp [results, Tryz.results33, go_sem]; first | exact ⟨rfl, rfl, rfl, rfl, rfl, rfl, rfl, rfl⟩ | rfl) rfl ?_
    exact ⟨rfl, below_alloc (below_alloc (Below.refl _ _) _) _⟩
  have b2 : (op == 2) = false := beq_eq_false_iff_ne.2 h2
  have b3 : (op == 3) = false := beq_eq_false_iff_ne.2 h3
  have b4 : (op == 4) = false := beq_eq_false_iff_ne.2 h4
  have b9 : (op == 9) = false := beq_eq_false_iff_ne.2 h9
  have b14 : (op == 14) = false := beq_eq_false_iff_ne.2 h14
  have b15 : (op == 15) = false := beq_eq_false_iff_ne.2 h15
  have b10 : (op == 10) = false := beq_eq_false_iff_ne.2 h10
  have b11 : (op == 11) = false := beq_eq_false_iff_ne.2 h11
  have b12 : (op == 12) = false := beq_eq_false_iff_ne.2 h12
  simp only [if_neg h2, if_neg h3, if_neg h4, if_neg h9, if_neg h14, if_neg h15, if_neg h10, if_neg h11, if_neg h12]
  clear HAL h2 h3 h4 h9 h14 h15 h10 h11 h12
  go_enter Tryz.func33, Tryz.ntmps33
  go_wp2
  refine bodyPost_ret (v := .agg #[_, _, _, _, _, _, _, _]) (by simp [results, Tryz.results33, go_sem]; first | exact ⟨rfl, rfl, rfl, rfl, rfl, rfl, rfl, rfl⟩ | rfl) rfl ?_
  exact ⟨rfl, below_alloc (below_alloc (Below.refl _ _) _) _⟩
end Go.Proofs.YtjdlbejmdjcajaaGreat
