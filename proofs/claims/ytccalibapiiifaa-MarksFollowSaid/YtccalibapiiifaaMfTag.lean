/- tagged, as a list. -/
import Derived.Test.YtccalibapiiifaaPMarksFollowx1
import Derived.Test.YtccalibapiiifaaMfPure
namespace Go.Proofs.Ytccalibapiiifaa
open Go.RowKit Go.Proofs.YtccalibapiiifaaW.PrintWords Go.Proofs.YtccalibapiiifaaW.PrintLast Go.Proofs.YtccalibapiiifaaW.PrintMore

theorem tags_loop (n : Nat) (hn : n ≤ 1000) : ∀ d i k, d + i = n → d < k → PMarksFollow.emendatorlaw10_tagged.l0 k n (tags i) i = some (tags n) := by
  intro d
  induction d with
  | zero =>
    intro i k h hk
    obtain ⟨k, rfl⟩ : ∃ m, k = m + 1 := ⟨k - 1, by omega⟩
    simp only [PMarksFollow.emendatorlaw10_tagged.l0]
    rw [if_neg (by omega), show i = n by omega]
  | succ d ih =>
    intro i k h hk
    obtain ⟨k, rfl⟩ : ∃ m, k = m + 1 := ⟨k - 1, by omega⟩
    simp only [PMarksFollow.emendatorlaw10_tagged.l0]
    rw [if_pos (by omega), if_pos (by rw [tags_length]; omega), ← tags_succ, show wrap64 ((i : Int) + 1) = ((i + 1 : Nat) : Int) by unfold wrap64; omega]
    exact ih (i + 1) k (by omega) (by omega)

theorem tagged_is (n : Nat) (hn : n ≤ 1000) : PMarksFollow.emendatorlaw10_tagged.f (n + 1) n = some (tags n) := by
  unfold PMarksFollow.emendatorlaw10_tagged.f
  exact tags_loop n hn n 0 (n + 1) (by omega) (by omega)

theorem tagged_calls (n : Nat) (hn : n ≤ 1000) (w : World) :
    Calls Try.prog 17 #[.int .i64 n] w fun e w' => ∃ A c, e = .returned (.slice A n c) ∧ n ≤ c ∧ (Kd.int .i64).C w' A n (tags n) ∧ Below w.heap.size w w' := by
  refine (PMarksFollow.emendatorlaw10_tagged.calls _ _ _ w (tagged_is n hn)).mono ?_
  rintro e w' ⟨v, rfl, hr, hb⟩
  obtain ⟨A, c, rfl, hc, hC⟩ := Kd.R_reads hr
  rw [tags_length] at hc hC
  rw [tags_length]
  exact ⟨A, c, rfl, hc, hC, hb⟩

end Go.Proofs.Ytccalibapiiifaa
