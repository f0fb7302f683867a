/- prog: Compile's deferred closure: walked. -/
import Derived.Test.YtjdlbejmdjcajaaGreatPcG
import Derived.Test.YtjdlbejmdjcajaaGreatPsE
import Derived.Defers
import Derived.Recover
set_option linter.unusedVariables false
set_option linter.unusedSimpArgs false
namespace Go.Proofs.YtjdlbejmdjcajaaGreat
open Go.RowKit Go.Shelf Go.Maps Go.Proofs.YtjdlbejmdjcajaaGreatW.PrintWords Go.Proofs.YtjdlbejmdjcajaaGreatW.PrintLast

set_option maxRecDepth 100000 in
theorem comp_idle (p q : Addr) (w : World) : CallsD Tryz.prog 17 #[.pointer (some p), .pointer (some q)] .returning w fun e u' w' => e = .returned (.tuple #[]) ∧ u' = .returning ∧ w' = w := by
  refine callsD_of_wpS Tryz.func17 rfl fun c₀ cs hu => ?_
  apply wpS_seq
  apply wpS_region
  simp [wpOpsS, go_sem, recoverD, hu, Tryz.ntmps17, Exit.thenS]
  refine wpS_of_wp ?_
  generalize hQ : (fun e a' w' => bodyPostS Tryz.prog Tryz.f17 c₀ cs (fun e u' w' => e = Ending.returned (Value.tuple #[]) ∧ u' = FrameMode.returning ∧ w' = w) e a' (c₀ :: cs) w') = Q
  have hn : ∀ w, (binOp .eql 20 .nilIface .nilIface).run Tryz.prog w = .ok (.bool true) w := fun _ => by kernel_rfl
  rw [show (#[Value.pointer (some p), Value.pointer (some q)] ++ (Array.replicate 10 undef).setIfInBounds 3 Value.nilIface : Array Value) = #[Value.pointer (some p), Value.pointer (some q), undef, undef, undef, Value.nilIface, undef, undef, undef, undef, undef, undef] from rfl]
  go_wp2
  subst hQ
  cases c₀
  simp_all [bodyPostS, results, Tryz.results17, Exit.thenS]
/-- the closure where too many were laid -/
theorem comp_catch (P E : Nat) {a0 a1 a2 b0 : Value} {T1 T2 : TypeId} (w : World) (hP : w.heap[P]? = some (.cells #[a0, a1, a2] T1 (0, 0))) (hE : w.heap[E]? = some (.cells #[b0] T2 (0, 0))) (hPE : P ≠ E) :
    CallsD Tryz.prog 17 #[.pointer (some ⟨P, 0, none⟩), .pointer (some ⟨E, 0, none⟩)] (.panicking longP) w fun e u' w' => e = .returned (.tuple #[]) ∧ u' = .panicking [{ v := .iface 53 (.agg #[]), recovered := true }] ∧
      w' = (((((w.alloc (.cells #[] 53)).setCell ⟨P, 0, none⟩ (.slice none 0 0)).setCell ⟨P, 1, none⟩ (.int .i64 0)).setCell ⟨P, 2, none⟩ (.bool false)).setCell ⟨E, 0, none⟩ (.int .u16 33)) := by
  refine callsD_of_wpS Tryz.func17 rfl fun c₀ cs hu => ?_
  apply wpS_seq
  apply wpS_region
  unfold longP at hu
  simp [wpOpsS, go_sem, recoverD, hu, Tryz.ntmps17, Exit.thenS]
  refine wpS_of_wp ?_
  generalize hQ : (fun e a' w' => bodyPostS Tryz.prog Tryz.f17 c₀ cs (fun e u' w' => e = Ending.returned (Value.tuple #[]) ∧ u' = FrameMode.panicking [{ v := Value.iface 53 (Value.agg #[]), recovered := true }] ∧ w' = ((((w.alloc (Obj.cells #[] 53)).setCell { block := P, off := 0 } (Value.slice none 0 0)).setCell { block := P, off := 1 } (Value.int IntKind.i64 0)).setCell { block := P, off := 2 } (Value.bool false)).setCell { block := E, off := 0 } (Value.int IntKind.u16 33)) e a' ({ fn := c₀.fn, tmps := c₀.tmps, todo := c₀.todo, defers := c₀.defers, mode := FrameMode.panicking [{ v := Value.iface 53 (Value.agg #[]), recovered := true }], kind := c₀.kind, roundOf := c₀.roundOf } :: cs) w') = Q
  have hn : ∀ w, (binOp .eql 20 (.iface 53 (.agg #[])) .nilIface).run Tryz.prog w = .ok (.bool false) w := fun _ => by kernel_rfl
  have hta : ∀ w, (Instr.typeAssert (.iface 53 (.agg #[])) 20 53 true).run Tryz.prog w = .ok (.tuple #[.agg #[], .bool true]) w := fun _ => by kernel_rfl
  rw [show (#[Value.pointer (some ⟨P, 0, none⟩), Value.pointer (some ⟨E, 0, none⟩)] ++ (Array.replicate 10 undef).setIfInBounds 3 (Value.iface 53 (Value.agg #[])) : Array Value) = #[Value.pointer (some ⟨P, 0, none⟩), Value.pointer (some ⟨E, 0, none⟩), undef, undef, undef, Value.iface 53 (Value.agg #[]), undef, undef, undef, undef, undef, undef] from rfl]
  have hal := below_alloc (Below.refl w.heap.size w) (.cells #[] 53)
  have hP2 := (hal.block P (blk_lt hP)).trans hP
  have hE2 := (hal.block E (blk_lt hE)).trans hE
  obtain ⟨p0, p1, p2⟩ : (w.alloc (.cells #[] 53)).cell? ⟨P, 0, none⟩ = some a0 ∧ (w.alloc (.cells #[] 53)).cell? ⟨P, 1, none⟩ = some a1 ∧ (w.alloc (.cells #[] 53)).cell? ⟨P, 2, none⟩ = some a2 := by
    refine ⟨?_, ?_, ?_⟩ <;> (rw [blk_cell hP2]; rfl)
  have q0 : (w.alloc (.cells #[] 53)).cell? ⟨E, 0, none⟩ = some b0 := by rw [blk_cell hE2]; rfl
  have fp := fun i => blk_frozen hP2 i
  have fq := fun i => blk_frozen hE2 i
  clear hal hP2 hE2 hP hE
  go_wp2
  subst hQ
  cases c₀
  simp_all [bodyPostS, results, Tryz.results17, Exit.thenS]
end Go.Proofs.YtjdlbejmdjcajaaGreat
