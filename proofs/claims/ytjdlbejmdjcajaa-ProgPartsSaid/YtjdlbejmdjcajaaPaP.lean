/- pat's Parse: walked, where it ends well. -/
import Derived.Test.YtjdlbejmdjcajaaPaA
import Derived.Defers
import Derived.Recover
set_option linter.unusedVariables false
set_option linter.unusedSimpArgs false
namespace Go.Proofs.Ytjdlbejmdjcajaa
open Go.RowKit Go.Shelf Go.Maps Go.Proofs.YtjdlbejmdjcajaaW.PrintWords Go.Proofs.YtjdlbejmdjcajaaW.PrintLast

set_option maxRecDepth 100000 in
theorem parse_idle (p q r : Addr) (w : World) : CallsD Try.prog 15 #[.pointer (some p), .pointer (some q), .pointer (some r)] .returning w fun e u' w' => e = .returned (.tuple #[]) ∧ u' = .returning ∧ w' = w := by
  refine callsD_of_wpS Try.func15 rfl fun c₀ cs hu => ?_
  apply wpS_seq
  apply wpS_region
  simp [wpOpsS, go_sem, recoverD, hu, Try.ntmps15, Exit.thenS]
  refine wpS_of_wp ?_
  generalize hQ : (fun e a' w' => bodyPostS Try.prog Try.f15 c₀ cs (fun e u' w' => e = Ending.returned (Value.tuple #[]) ∧ u' = FrameMode.returning ∧ w' = w) e a' (c₀ :: cs) w') = Q
  have hn : ∀ w, (binOp .eql 20 .nilIface .nilIface).run Try.prog w = .ok (.bool true) w := fun _ => by kernel_rfl
  rw [show (#[Value.pointer (some p), Value.pointer (some q), Value.pointer (some r)] ++ (Array.replicate 14 undef).setIfInBounds 3 Value.nilIface : Array Value) = #[Value.pointer (some p), Value.pointer (some q), Value.pointer (some r), undef, undef, undef, Value.nilIface, undef, undef, undef, undef, undef, undef, undef, undef, undef, undef] from rfl]
  go_wp2
  subst hQ
  cases c₀
  simp_all [bodyPostS, results, Try.results15, Exit.thenS]
theorem clip_any (A : Option Addr) (n c : Nat) (hc : n ≤ c) (w : World) : Calls Try.prog 17 #[.slice A n c] w fun e w' => e = .returned (.slice A n n) ∧ w' = w := by
  go_enter Try.func17, Try.ntmps17
  go_wp2
  go_ret
  exact ⟨rfl, rfl⟩
end Go.Proofs.Ytjdlbejmdjcajaa
