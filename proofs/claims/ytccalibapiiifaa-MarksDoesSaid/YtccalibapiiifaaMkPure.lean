/- marks: All, plain: of lists of marks, sorted by their names, there is one. -/
import Derived.Test.YtccalibapiiifaaMk4
namespace Go.Proofs.Ytccalibapiiifaa

abbrev MK := Int × Int
/-- only small letters are names -/
def Letters (f : Int → Int) : Prop := ∀ x, f x ≠ 0 → 97 ≤ x ∧ x ≤ 122
/-- all marks, by their names -/
def marksL (f : Int → Int) : List MK := ((List.range 26).map fun (i : Nat) => ((97 + (i : Int), f (97 + (i : Int))) : MK)).filter fun p => decide (p.2 ≠ 0)

theorem marksL_mem {f : Int → Int} (hL : Letters f) (p : MK) : p ∈ marksL f ↔ p.2 ≠ 0 ∧ f p.1 = p.2 := by
  unfold marksL
  simp only [List.mem_filter, List.mem_map, List.mem_range, decide_eq_true_eq]
  constructor
  · rintro ⟨⟨i, hi, rfl⟩, h⟩
    exact ⟨h, rfl⟩
  · rintro ⟨h0, h1⟩
    have h2 := hL p.1 (by rw [h1]; exact h0)
    refine ⟨⟨(p.1 - 97).toNat, by omega, ?_⟩, h0⟩
    have : (97 + ((p.1 - 97).toNat : Int)) = p.1 := by omega
    rw [this, h1]

theorem marksL_lt (f : Int → Int) : (marksL f).Pairwise (fun x y => x.1 < y.1) := by
  unfold marksL
  refine List.Pairwise.filter _ ?_
  rw [List.pairwise_map]
  refine List.pairwise_lt_range.imp ?_
  intro a b h
  show 97 + (a : Int) < 97 + (b : Int)
  omega

theorem marksL_len (f : Int → Int) : (marksL f).length ≤ 26 := by
  unfold marksL
  refine Nat.le_trans (List.length_filter_le _ _) ?_
  simp

theorem mk_uniq : ∀ (a b : List MK), a.Pairwise (fun x y => x.1 < y.1) → b.Pairwise (fun x y => x.1 < y.1) → (∀ p, p ∈ a ↔ p ∈ b) → a = b := by
  intro a
  induction a with
  | nil =>
    intro b _ _ h
    cases b with
    | nil => rfl
    | cons y ys => exact absurd ((h y).2 (by simp)) (by simp)
  | cons x xs ih =>
    intro b ha hb h
    cases b with
    | nil => exact absurd ((h x).1 (by simp)) (by simp)
    | cons y ys =>
      rw [List.pairwise_cons] at ha hb
      have hxy : x = y := by
        have h1 := (h x).1 (by simp)
        have h2 := (h y).2 (by simp)
        rcases List.mem_cons.1 h1 with e | h1
        · exact e
        rcases List.mem_cons.1 h2 with e | h2
        · exact e.symm
        have := hb.1 x h1
        have := ha.1 y h2
        omega
      subst hxy
      congr 1
      refine ih ys ha.2 hb.2 fun p => ?_
      constructor
      · intro hp
        rcases List.mem_cons.1 ((h p).1 (List.mem_cons_of_mem _ hp)) with e | h1
        · subst e
          have := ha.1 _ hp
          omega
        · exact h1
      · intro hp
        rcases List.mem_cons.1 ((h p).2 (List.mem_cons_of_mem _ hp)) with e | h1
        · subst e
          have := hb.1 _ hp
          omega
        · exact h1

theorem sorted_marks {f : Int → Int} (hL : Letters f) (xs ys : List MK) (hm : ∀ p, p ∈ xs ↔ p.2 ≠ 0 ∧ f p.1 = p.2) (hn : (xs.map Prod.fst).Nodup) (hp : ys.Perm xs)
    (hs : ∀ i j (hi : i < ys.length) (hj : j < ys.length), i < j → ¬ ys[j].1 < ys[i].1) : ys = marksL f := by
  refine mk_uniq ys (marksL f) ?_ (marksL_lt f) ?_
  · have hn2 : (ys.map Prod.fst).Nodup := (hp.map Prod.fst).nodup_iff.2 hn
    rw [List.pairwise_iff_getElem]
    intro i j hi hj hij
    have h1 := hs i j hi hj hij
    have h2 : ys[i].1 ≠ ys[j].1 := by
      rw [List.Nodup, List.pairwise_iff_getElem] at hn2
      have := hn2 i j (by simpa using hi) (by simpa using hj) hij
      simpa using this
    omega
  · intro p
    rw [hp.mem_iff, hm, marksL_mem hL]

end Go.Proofs.Ytccalibapiiifaa
