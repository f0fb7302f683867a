/- What the pieces of a replacement are: texts are not empty, no two stand one behind the other. -/
import Derived.Test.YtccalibapiiifaaPlib
namespace Go.Proofs.Ytccalibapiiifaa.T
open Go.RowKit Go.Proofs.YtccalibapiiifaaW.PrintWords Go.Proofs.YtccalibapiiifaaW.PrintLast Go.Proofs.YtccalibapiiifaaW.PrintMore

def Shape (x : S42) : Prop :=
  (∃ t : ByteArray, x = ⟨1, t, 0, 0⟩ ∧ t.data.toList ≠ []) ∨ (∃ n : Int, x = ⟨2, emp, n, 0⟩ ∧ 0 ≤ n ∧ n ≤ 9) ∨ x = ⟨3, emp, 0, 0⟩ ∨
  x = ⟨4, emp, 0, 117⟩ ∨ x = ⟨4, emp, 0, 108⟩ ∨ x = ⟨4, emp, 0, 85⟩ ∨ x = ⟨4, emp, 0, 76⟩ ∨ x = ⟨4, emp, 0, 69⟩

/-- all are as they should be; none that is a text stands behind one (b: a text stands ahead of all) -/
def Fine : Bool → List S42 → Prop
  | _, [] => True
  | b, x :: r => Shape x ∧ (b = true → x.f0 ≠ 1) ∧ Fine (x.f0 == 1) r

theorem Fine.weak : ∀ {l : List S42} {b : Bool}, Fine b l → Fine false l
  | [], _, _ => trivial
  | _ :: _, _, h => ⟨h.1, fun e => by simp at e, h.2.2⟩

theorem shape_esc {c : Int} {p : S42} (h : escP c = some p) : Shape p ∧ p.f0 ≠ 1 := by
  unfold escP at h
  split at h
  · injection h with h; subst h; exact ⟨.inr (.inl ⟨c - 48, rfl, by omega, by omega⟩), by simp⟩
  · split at h
    · injection h with h; subst h; exact ⟨.inr (.inr (.inl rfl)), by simp⟩
    · split at h
      · rename_i hc
        injection h with h
        subst h
        refine ⟨.inr (.inr (.inr ?_)), by simp⟩
        rcases hc with rfl | rfl | rfl | rfl
        · exact .inl rfl
        · exact .inr (.inl rfl)
        · exact .inr (.inr (.inl rfl))
        · exact .inr (.inr (.inr (.inl rfl)))
      · split at h
        · injection h with h; subst h; exact ⟨.inr (.inr (.inr (.inr (.inr (.inr (.inr rfl)))))), by simp⟩
        · cases h

theorem fine_flush (tx : List Int) (l : List S42) (h : Fine true l) : Fine false (flush tx ++ l) := by
  unfold flush
  split
  · exact h.weak
  · rename_i h0
    refine ⟨.inl ⟨strOfNums tx, rfl, ?_⟩, fun e => by simp at e, by simpa using h⟩
    rw [strOfNums_data]
    intro e
    apply h0
    have := congrArg List.length e
    simpa using this

theorem fine_one {p : S42} {l : List S42} (hp : Shape p) (h1 : p.f0 ≠ 1) (h : Fine false l) : Fine true (p :: l) :=
  ⟨hp, fun _ => h1, by
    have : (p.f0 == 1) = false := by simpa using h1
    rw [this]
    exact h⟩

theorem fine_prs : ∀ (l : List UInt8) (tx : List Int), Fine false (prs l tx)
  | [], tx => by
    have := fine_flush tx [] trivial
    simpa [prs] using this
  | c :: r, tx => by
    rw [prs.eq_def]
    simp only
    split
    · exact fine_flush tx _ (fine_one (.inr (.inl ⟨0, rfl, by omega, by omega⟩)) (by decide) (fine_prs r []))
    · split
      · match r with
        | [] =>
          have := fine_flush (tx ++ [92]) [] trivial
          simpa using this
        | d :: r' =>
          simp only
          split
          · rename_i p hp
            exact fine_flush tx _ (fine_one (shape_esc hp).1 (shape_esc hp).2 (fine_prs r' []))
          · exact fine_prs r' _
      · exact fine_prs r _

theorem len_prs : ∀ (l : List UInt8) (tx : List Int), (prs l tx).length ≤ l.length + (flush tx).length
  | [], tx => by simp [prs]
  | c :: r, tx => by
    rw [prs.eq_def]
    simp only
    have hf := flush_le tx
    split
    · have := len_prs r []
      simp [flush] at this ⊢
      simp [flush] at hf
      omega
    · split
      · match r with
        | [] =>
          simp [flush]
        | d :: r' =>
          simp only
          split
          · have := len_prs r' []
            simp [flush] at this ⊢
            omega
          · have := len_prs r' (tx ++ [meantP ↑d.toNat])
            have h1 := flush_le (tx ++ [meantP ↑d.toNat])
            simp
            omega
      · have := len_prs r (tx ++ [(c.toNat : Int)])
        have h1 := flush_le (tx ++ [(c.toNat : Int)])
        simp
        omega

theorem Fine.at : ∀ {l : List S42} {b : Bool} (i : Nat) (h : i < l.length), Fine b l → Shape l[i] ∧ (∀ j (hj : j < l.length), j + 1 = i → l[j].f0 = 1 → l[i].f0 ≠ 1)
  | x :: r, b, 0, _, hf => ⟨hf.1, fun j hj e => by omega⟩
  | x :: r, b, i + 1, h, hf => by
    have ih := Fine.at i (by simpa using h) hf.2.2
    refine ⟨ih.1, ?_⟩
    intro j hj e h1
    match j, hj with
    | 0, _ =>
      obtain rfl : i = 0 := by omega
      match r, h, hf with
      | y :: r', _, hf => exact hf.2.2.2.1 (by simpa using h1)
    | j + 1, hj => exact ih.2 j (by simpa using hj) (by omega) h1

end Go.Proofs.Ytccalibapiiifaa.T
