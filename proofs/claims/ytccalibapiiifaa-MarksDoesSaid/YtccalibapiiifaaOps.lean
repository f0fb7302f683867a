/- The argument []Op, opened. -/
import Derived.Test.YtccalibapiiifaaProg
import Derived.Test.YtccalibapiiifaaWWords
import Derived.Deep.Slices
import Derived.WideShapes
namespace Go.Proofs.Ytccalibapiiifaa
open Go.RowKit Go.ChangeShapes Go.WideShapes

/-- element i's fields, cell for cell -/
def OpsCells (w : World) (ad : Addr) (i : Nat) (x0 : Int) (x1 : Int) (x2 : Int) (x3 : Int) (x4 : Int) : Prop :=
  w.cell? (ad.add (i * 5)) = some (.int .u8 x0) ∧ w.cell? ⟨(ad.add (i * 5)).block, (ad.add (i * 5)).off + 1, none⟩ = some (.int .u8 x1) ∧ w.cell? ⟨(ad.add (i * 5)).block, (ad.add (i * 5)).off + 2, none⟩ = some (.int .i64 x2) ∧ w.cell? ⟨(ad.add (i * 5)).block, (ad.add (i * 5)).off + 3, none⟩ = some (.int .i64 x3) ∧ w.cell? ⟨(ad.add (i * 5)).block, (ad.add (i * 5)).off + 4, none⟩ = some (.int .i64 x4)
def OpsAt (w : World) (A : Option Addr) (n : Nat) : Prop := ∀ i : Nat, i < n → ∃ (ad : Addr) (x0 : Int) (x1 : Int) (x2 : Int) (x3 : Int) (x4 : Int), A = some ad ∧ ad.block < w.heap.size ∧ (Lit.int .u8 x0).wf = true ∧ (Lit.int .u8 x1).wf = true ∧ (Lit.int .i64 x2).wf = true ∧ (Lit.int .i64 x3).wf = true ∧ (Lit.int .i64 x4).wf = true ∧ OpsCells w ad i x0 x1 x2 x3 x4
theorem OpsAt.below {w w' : World} {A : Option Addr} {n : Nat} (h : OpsAt w A n) (hb : Below w.heap.size w w') : OpsAt w' A n := by
  intro i hi
  obtain ⟨ad, x0, x1, x2, x3, x4, e, hl, f0, f1, f2, f3, f4, hc⟩ := h i hi
  unfold OpsCells at hc
  obtain ⟨c0, c1, c2, c3, c4⟩ := hc
  refine ⟨ad, x0, x1, x2, x3, x4, e, Nat.lt_of_lt_of_le hl hb.size, f0, f1, f2, f3, f4, ?_, ?_, ?_, ?_, ?_⟩
  · rw [World.cell?_of_block (w := w) (hb.block _ (by first | exact hl | simpa [Addr.add] using hl | (unfold Addr.add; split <;> exact hl)))]; exact c0
  · rw [World.cell?_of_block (w := w) (hb.block _ (by first | exact hl | simpa [Addr.add] using hl | (unfold Addr.add; split <;> exact hl)))]; exact c1
  · rw [World.cell?_of_block (w := w) (hb.block _ (by first | exact hl | simpa [Addr.add] using hl | (unfold Addr.add; split <;> exact hl)))]; exact c2
  · rw [World.cell?_of_block (w := w) (hb.block _ (by first | exact hl | simpa [Addr.add] using hl | (unfold Addr.add; split <;> exact hl)))]; exact c3
  · rw [World.cell?_of_block (w := w) (hb.block _ (by first | exact hl | simpa [Addr.add] using hl | (unfold Addr.add; split <;> exact hl)))]; exact c4
set_option maxRecDepth 100000 in
theorem ops_open {H : Type} {enc : TypeId × Value → H} {W : World} {b : Nat} {v : Value} {d : DataW H} {p : List MemPlace} (_hv : Value.okWide Try.prog W .any b 31 v)
    (h : DataW.Trod enc Try.prog W 0 (fun _ => true) true 31 v d p) : ∃ A len cap, v = .slice A len cap ∧ len ≤ cap ∧ OpsAt W A len := by
  obtain ⟨a, len, cap, rfl⟩ := okWide_slice Try.underlying31 _hv
  obtain ⟨fuel, h⟩ := h
  rcases Go.Deep.open_slice Try.underlying31 h with ⟨hc, _⟩ | ⟨a, len', cap', m, q, D, Pl, hc, _, hl, hm, hmm, _, hx⟩
  · simp [Value.cells] at hc
    obtain ⟨rfl, rfl, rfl⟩ := hc
    exact ⟨none, 0, 0, rfl, Nat.le_refl _, fun i hi => absurd hi (Nat.not_lt_zero _)⟩
  · simp [Value.cells] at hc
    obtain ⟨rfl, rfl, rfl⟩ := hc
    refine ⟨some a, len, cap, rfl, hl, fun i hi => ?_⟩
    have hmm' : m = cap := by simpa using hmm
    obtain ⟨cs, h1, h2⟩ := hx i (by omega)
    obtain ⟨ys, _, _, _, hlen, _, hf⟩ := Go.DataW.trod_struct Try.underlying35 h2
    obtain ⟨_, _, hcell⟩ := World.cells?_some h1
    have esz : Try.prog.cellsOf 35 = 5 := by kernel_rfl
    have es3 : Try.prog.cellsOf 3 = 1 := by kernel_rfl
    have es5 : Try.prog.cellsOf 5 = 1 := by kernel_rfl
    rw [esz] at hlen hcell
    obtain ⟨u0, u1, u2, u3, u4, rfl⟩ : ∃ u0 u1 u2 u3 u4, cs = [u0, u1, u2, u3, u4] := by
      match cs, hlen with
      | [u0, u1, u2, u3, u4], _ => exact ⟨u0, u1, u2, u3, u4, rfl⟩
    have g0 := hf 0 _ rfl
    simp [es5] at g0
    obtain ⟨y0, hy0⟩ : ∃ y, ys[0]? = some y := by
      have hz : ys.length = 5 := by assumption
      exact ⟨_, List.getElem?_eq_getElem (by omega)⟩
    rw [hy0] at g0
    obtain ⟨x0, e0, _, f0⟩ := Go.DataW.trod_int Try.underlying5 g0
    simp at e0
    have g1 := hf 1 _ rfl
    simp [es5] at g1
    obtain ⟨y1, hy1⟩ : ∃ y, ys[1]? = some y := by
      have hz : ys.length = 5 := by assumption
      exact ⟨_, List.getElem?_eq_getElem (by omega)⟩
    rw [hy1] at g1
    obtain ⟨x1, e1, _, f1⟩ := Go.DataW.trod_int Try.underlying5 g1
    simp at e1
    have g2 := hf 2 _ rfl
    simp [es3] at g2
    obtain ⟨y2, hy2⟩ : ∃ y, ys[2]? = some y := by
      have hz : ys.length = 5 := by assumption
      exact ⟨_, List.getElem?_eq_getElem (by omega)⟩
    rw [hy2] at g2
    obtain ⟨x2, e2, _, f2⟩ := Go.DataW.trod_int Try.underlying3 g2
    simp at e2
    have g3 := hf 3 _ rfl
    simp [es3] at g3
    obtain ⟨y3, hy3⟩ : ∃ y, ys[3]? = some y := by
      have hz : ys.length = 5 := by assumption
      exact ⟨_, List.getElem?_eq_getElem (by omega)⟩
    rw [hy3] at g3
    obtain ⟨x3, e3, _, f3⟩ := Go.DataW.trod_int Try.underlying3 g3
    simp at e3
    have g4 := hf 4 _ rfl
    simp [es3] at g4
    obtain ⟨y4, hy4⟩ : ∃ y, ys[4]? = some y := by
      have hz : ys.length = 5 := by assumption
      exact ⟨_, List.getElem?_eq_getElem (by omega)⟩
    rw [hy4] at g4
    obtain ⟨x4, e4, _, f4⟩ := Go.DataW.trod_int Try.underlying3 g4
    simp at e4
    refine ⟨a, x0, x1, x2, x3, x4, rfl, ?_, f0, f1, f2, f3, f4, ?_⟩
    · have c := hcell 0 (by omega)
      have hbl := World.block_lt_of_cell? W _ (by simpa using c)
      have e : ∀ (x : Addr) (k : Nat), (x.add k).block = x.block := fun x k => by unfold Addr.add; split <;> rfl
      simpa [e] using hbl
    · unfold OpsCells
      refine ⟨?_, ?_, ?_, ?_, ?_⟩
      · have c := hcell 0 (by omega)
        rw [Go.Deep.add_add] at c; simpa [esz, e0] using c
      · have c := hcell 1 (by omega)
        rw [Go.Deep.add_add] at c; rw [← Go.Proofs.YtccalibapiiifaaW.PrintWords.add_field _ _ 1 (by omega)]; simpa [esz, e1] using c
      · have c := hcell 2 (by omega)
        rw [Go.Deep.add_add] at c; rw [← Go.Proofs.YtccalibapiiifaaW.PrintWords.add_field _ _ 2 (by omega)]; simpa [esz, e2] using c
      · have c := hcell 3 (by omega)
        rw [Go.Deep.add_add] at c; rw [← Go.Proofs.YtccalibapiiifaaW.PrintWords.add_field _ _ 3 (by omega)]; simpa [esz, e3] using c
      · have c := hcell 4 (by omega)
        rw [Go.Deep.add_add] at c; rw [← Go.Proofs.YtccalibapiiifaaW.PrintWords.add_field _ _ 4 (by omega)]; simpa [esz, e4] using c

end Go.Proofs.Ytccalibapiiifaa
