
import Derived.Shelf.Spec.SlicesGrow
import Derived.Test.YtdhemdeapphfoaaGreatDoorProg
import Derived.Test.YtdhemdeapphfoaaGreatDoorBuA
import Derived.Test.YtdhemdeapphfoaaGreatDoorBvMx
set_option linter.unusedVariables false
set_option linter.unusedSimpArgs false

/- The library's slices.Grow at strings, laid at this program (its numbers by name). -/
namespace Go.Proofs
open Go.Shelf
end Go.Proofs

/- slices.Concat of rows of lines. -/
set_option linter.unusedVariables false
set_option linter.unusedSimpArgs false
namespace Go.Proofs.YtdhemdeapphfoaaGreatDoor
open Go.RowKit Go.Shelf Go.Proofs.YtdhemdeapphfoaaGreatDoorW.PrintWords Go.Proofs.YtdhemdeapphfoaaGreatDoorW.PrintLast

theorem Ls.src {P : Program} {w : World} {G : Nat → Prop} {t e' : TypeId} {v : Value} {xs : List ByteArray} (h : Ls w G v xs) (ht : P.underlying t = some (.slice e')) : Src P 1 t v xs.length (cS xs) w := by
  obtain ⟨A, c, rfl, h1, h2, h3⟩ := h
  by_cases h0 : 0 < xs.length
  · obtain ⟨b, o, rfl, _, _, hc⟩ := h3 h0
    refine Src.ofSlice _ ht ⟨b, o, none⟩ xs.length c (cS xs) (by simp [cS]) (fun j u hu => ?_) cS_one
    rw [Addr.add_lit]
    simp only [cS, List.getElem?_map, Option.map_eq_some_iff] at hu
    obtain ⟨x, hx, rfl⟩ := hu
    exact hc j x hx
  · have hx : xs = [] := List.eq_nil_of_length_eq_zero (by omega)
    subst hx
    cases A with
    | none => exact Src.ofNil _ ht c
    | some a => exact Src.ofSlice _ ht a 0 c [] rfl (fun j u hu => by simp at hu) (by simp)

end Go.Proofs.YtdhemdeapphfoaaGreatDoor

/- buf's Move, walked. -/
set_option linter.unusedVariables false
set_option linter.unusedSimpArgs false
namespace Go.Proofs.YtdhemdeapphfoaaGreatDoor
open Go.RowKit Go.Shelf Go.Maps Go.Proofs.YtdhemdeapphfoaaGreatDoorW.PrintWords Go.Proofs.YtdhemdeapphfoaaGreatDoorW.PrintLast

section
variable {N0 : Nat} {w0 : Base} {w w' : World} {col : Nat → Nat} {B T p1 U : Nat} {s : Bs} {vl vm vo : Value} {L : List DV}
end
end Go.Proofs.YtdhemdeapphfoaaGreatDoor

/- buf's Move where it does nothing; Commit of nothing; Undo at the first state. -/
set_option linter.unusedVariables false
set_option linter.unusedSimpArgs false
namespace Go.Proofs.YtdhemdeapphfoaaGreatDoor
open Go.RowKit Go.Shelf Go.Maps Go.Proofs.YtdhemdeapphfoaaGreatDoorW.PrintWords Go.Proofs.YtdhemdeapphfoaaGreatDoorW.PrintLast

section
variable {N0 : Nat} {w0 : Base} {w w' : World} {col : Nat → Nat} {B T p1 U : Nat} {s : Bs} {vl vm vo : Value} {L : List DV}
end
end Go.Proofs.YtdhemdeapphfoaaGreatDoor

/- The law BufMoves: lines that are moved are all there; undone, they are as they were; what is refused changes nothing. -/
set_option linter.unusedVariables false
set_option linter.unusedSimpArgs false
namespace Go.Proofs.YtdhemdeapphfoaaGreatDoor
open Go.RowKit Go.Shelf Go.Maps Go.Proofs.YtdhemdeapphfoaaGreatDoorW.PrintWords Go.Proofs.YtdhemdeapphfoaaGreatDoorW.PrintLast

/-- lines out of lines -/
theorem Ls.sub {w : World} {G : Nat → Prop} {g o n c : Nat} {xs : List ByteArray} (h : Ls w G (.slice (some ⟨g, o, none⟩) n c) xs) {i m : Nat} (hj : i + m ≤ n) : Ls w G (.slice (some ⟨g, o + i, none⟩) m (c - i)) ((xs.drop i).take m) := by
  obtain ⟨A, c', e, h1, h2, h3⟩ := h
  injection e with e1 e2 e3
  subst e1 e2 e3
  refine ⟨some ⟨g, o + i, none⟩, c - i, ?_, ?_, by unfold maxLen at *; omega, fun h0 => ?_⟩
  · rw [List.length_take, List.length_drop, Nat.min_eq_left (by omega)]
  · rw [List.length_take, List.length_drop]; omega
  · obtain ⟨b, o', e, hg, hb, hc⟩ := h3 (by rw [List.length_take, List.length_drop] at h0; omega)
    injection e with e
    injection e with e1 e2 _
    subst e1 e2
    refine ⟨g, o + i, rfl, hg, hb, fun k x hm => ?_⟩
    have hm1 : k < m := by
      obtain ⟨h9, _⟩ := List.getElem?_eq_some_iff.1 hm
      rw [List.length_take] at h9
      omega
    rw [List.getElem?_take_of_lt hm1, List.getElem?_drop] at hm
    rw [Nat.add_assoc]
    exact hc _ x hm
theorem Ls.kept {w w' : World} {G : Nat → Prop} {v : Value} {xs : List ByteArray} (h : Ls w G v xs) (hs : ∀ b, b < w.heap.size → G b → b < w'.heap.size ∧ w'.heap[b]? = w.heap[b]?) : Ls w' G v xs := by
  obtain ⟨A, c, hv, h1, h2, h3⟩ := h
  refine ⟨A, c, hv, h1, h2, fun h0 => ?_⟩
  obtain ⟨b, o, ha, hg, hl, hc⟩ := h3 h0
  exact ⟨b, o, ha, hg, (hs b hl hg).1, fun j x hx => (World.cell?_of_block (w := w) (a := ⟨b, o + j, none⟩) (hs b hl hg).2).trans (hc j x hx)⟩
section
variable {N0 : Nat} {w0 : Base} {w w' : World} {B : Nat} {s : Bs}
theorem Bf.lines (h : Bf N0 w0 w B s) (hl : s.ls.length ≤ 1000000000) : ∃ T, w.cell? ⟨B, 0, none⟩ = some (.pointer (some ⟨T, 0, none⟩)) ∧ Calls Tryz.prog 12 #[.pointer (some ⟨T, 0, none⟩)] w (OwnPost w.heap.size w s.ls) := by
  obtain ⟨T, k, F, t⟩ := h.len
  exact ⟨T, k, Lines_any t hl⟩
/-- blocks that are new are kept from here on -/
theorem Bf.guard (h : Bf N0 w0 w B s) (hb : Below w.heap.size w w') : Bf N0 ⟨w0.w, fun b => w0.P b ∨ (w.heap.size ≤ b ∧ b < w'.heap.size), w'⟩ w' B s := by
  obtain ⟨col, T, p1, U, vl, vm, vo, L, h⟩ := h
  have k := h.onNew 7 (by decide) hb
  refine ⟨_, T, p1, U, vl, vm, vo, L, { k with prot := ?_, below := k.below }⟩
  intro b hp
  rcases hp with hp | ⟨h1, h2⟩
  · obtain ⟨a1, a2, _⟩ := k.prot b hp
    exact ⟨a1, a2, rfl⟩
  · exact ⟨h2, recol_new h1, rfl⟩
theorem Bf.prot (h : Bf N0 w0 w B s) : ∀ b, w0.P b → b < w.heap.size ∧ w.heap[b]? = w0.z.heap[b]? := fun b hb => by
  obtain ⟨col, T, p1, U, vl, vm, vo, L, h⟩ := h
  exact ⟨(h.prot b hb).1, (h.prot b hb).2.2⟩
end


theorem bounds64 {x : Int} (h : (Lit.int .i64 x).wf = true) : -9223372036854775808 ≤ x ∧ x ≤ 9223372036854775807 := by
  simpa [Lit.wf, IntKind.min, IntKind.max, IntKind.signed, IntKind.bits] using h

theorem rem_nat (x : Int) {m : Int} (hm : 0 < m) : ∃ a : Nat, max x 0 % m = (a : Int) ∧ (a : Int) < m :=
  ⟨(max x 0 % m).toNat, (Int.toNat_of_nonneg (Int.emod_nonneg _ (by omega))).symm, by rw [Int.toNat_of_nonneg (Int.emod_nonneg _ (by omega))]; exact Int.emod_lt_of_pos _ hm⟩

end Go.Proofs.YtdhemdeapphfoaaGreatDoor
namespace Go.Proofs.YtdhemdeapphfoaaGreatDoor
open Go.RowKit Go.Shelf Go.Maps
end Go.Proofs.YtdhemdeapphfoaaGreatDoor
