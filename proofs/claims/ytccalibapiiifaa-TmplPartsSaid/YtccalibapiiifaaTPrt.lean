/- Two replacements, a group between: their pieces, the group, their pieces. -/
import Derived.Test.YtccalibapiiifaaTPcs
namespace Go.Proofs.Ytccalibapiiifaa.T
open Go.RowKit Go.Proofs.YtccalibapiiifaaW.PrintWords Go.Proofs.YtccalibapiiifaaW.PrintLast Go.Proofs.YtccalibapiiifaaW.PrintMore

/-- does a text end with a backslash alone? -/
def opn : Bool → List UInt8 → Bool
  | b, [] => b
  | b, c :: r => opn (c == 92 && !b) r

theorem opn_snoc (b : Bool) (l : List UInt8) (c : UInt8) : opn b (l ++ [c]) = (c == 92 && !opn b l) := by
  induction l generalizing b with
  | nil => rfl
  | cons d r ih => exact ih _

theorem prs_parts (d : UInt8) (p : S42) (hp : escP d.toNat = some p) (t : List UInt8) : ∀ (l : List UInt8) (tx : List Int), opn false l = false → prs (l ++ 92 :: d :: t) tx = prs l tx ++ [p] ++ prs t []
  | [], tx, _ => by
    rw [List.nil_append, prs_some (by decide) hp]
    simp [prs]
  | c :: r, tx, h => by
    by_cases h38 : c.toNat = 38
    · have hc : c = 38 := UInt8.toNat_inj.1 h38
      have h' : opn false r = false := by subst hc; exact h
      rw [List.cons_append, prs_amp h38, prs_amp h38, prs_parts d p hp t r [] h']
      simp
    · by_cases h92 : c.toNat = 92
      · have hc : c = 92 := UInt8.toNat_inj.1 h92
        subst hc
        match r, h with
        | [], h => simp [opn] at h
        | e :: r', h =>
          have h' : opn false r' = false := by
            simp only [opn] at h
            simpa using h
          rw [List.cons_append, List.cons_append]
          rcases he : escP (e.toNat : Int) with _ | q
          · rw [prs_none h92 he, prs_none h92 he, prs_parts d p hp t r' _ h']
          · rw [prs_some h92 he, prs_some h92 he, prs_parts d p hp t r' [] h']
            simp
      · have hne : (c == 92) = false := by
          have : c ≠ 92 := fun e => h92 (by rw [e]; rfl)
          simpa using this
        have h' : opn false r = false := by
          simp only [opn, hne, Bool.false_and] at h
          exact h
        rw [List.cons_append, prs_plain h38 (.inl h92), prs_plain h38 (.inl h92), prs_parts d p hp t r _ h']

end Go.Proofs.Ytccalibapiiifaa.T
