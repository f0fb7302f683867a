/- pat's Parse: walked, where it ends well. -/
import Derived.Test.YtjdlbejmdjcajaaGreatPaA
import Derived.Defers
import Derived.Recover
set_option linter.unusedVariables false
set_option linter.unusedSimpArgs false
namespace Go.Proofs.YtjdlbejmdjcajaaGreat
open Go.RowKit Go.Shelf Go.Maps Go.Proofs.YtjdlbejmdjcajaaGreatW.PrintWords Go.Proofs.YtjdlbejmdjcajaaGreatW.PrintLast

set_option maxRecDepth 100000 in
theorem parse_idle (p q r : Addr) (w : World) : CallsD Tryz.prog 24 #[.pointer (some p), .pointer (some q), .pointer (some r)] .returning w fun e u' w' => e = .returned (.tuple #[]) ∧ u' = .returning ∧ w' = w := by
  refine callsD_of_wpS Tryz.func24 rfl fun c₀ cs hu => ?_
  apply wpS_seq
  apply wpS_region
  simp [wpOpsS, go_sem, recoverD, hu, Tryz.ntmps24, Exit.thenS]
  refine wpS_of_wp ?_
  generalize hQ : (fun e a' w' => bodyPostS Tryz.prog Tryz.f24 c₀ cs (fun e u' w' => e = Ending.returned (Value.tuple #[]) ∧ u' = FrameMode.returning ∧ w' = w) e a' (c₀ :: cs) w') = Q
  have hn : ∀ w, (binOp .eql 20 .nilIface .nilIface).run Tryz.prog w = .ok (.bool true) w := fun _ => by kernel_rfl
  rw [show (#[Value.pointer (some p), Value.pointer (some q), Value.pointer (some r)] ++ (Array.replicate 14 undef).setIfInBounds 3 Value.nilIface : Array Value) = #[Value.pointer (some p), Value.pointer (some q), Value.pointer (some r), undef, undef, undef, Value.nilIface, undef, undef, undef, undef, undef, undef, undef, undef, undef, undef] from rfl]
  go_wp2
  subst hQ
  cases c₀
  simp_all [bodyPostS, results, Tryz.results24, Exit.thenS]
theorem clip_any (A : Option Addr) (n c : Nat) (hc : n ≤ c) (w : World) : Calls Tryz.prog 26 #[.slice A n c] w fun e w' => e = .returned (.slice A n n) ∧ w' = w := by
  go_enter Tryz.func26, Tryz.ntmps26
  go_wp2
  go_ret
  exact ⟨rfl, rfl⟩
end Go.Proofs.YtjdlbejmdjcajaaGreat
