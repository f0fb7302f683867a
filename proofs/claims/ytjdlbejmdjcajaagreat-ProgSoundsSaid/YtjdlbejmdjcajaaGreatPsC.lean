/- pat.Sound: single: walked. -/
import Derived.Test.YtjdlbejmdjcajaaGreatPsB
import Derived.Test.YtjdlbejmdjcajaaGreatPpB
set_option linter.unusedVariables false
set_option linter.unusedSimpArgs false
namespace Go.Proofs.YtjdlbejmdjcajaaGreat
open Go.RowKit Go.Shelf Go.Maps Go.Proofs.YtjdlbejmdjcajaaGreatW.PrintWords Go.Proofs.YtjdlbejmdjcajaaGreatW.PrintLast

theorem sfar {w : World} {B b i j : Nat} {x y : Value} (h : w.cell? ⟨b, i, none⟩ = some y) (hne : b ≠ B) : (w.setCell ⟨B, j, none⟩ x).cell? ⟨b, i, none⟩ = some y := by
  rw [World.cell?_setCell_other _ _ _ _ (by intro e; injection e with e1; exact hne e1.symm)]
  exact h
/-- one node's cells, at k of the row -/
theorem NsI.node {w : World} {F : Nat → Prop} {v : Value} {L : List Pp.Nk} (h : NsI w F v L) {k : Int} {x : Pp.Nk} (hx : Pp.nodeAt L k = some x) :
    ∃ (b o c m : Nat) (A : Option Addr) (n cp : Nat), v = .slice (some ⟨b, o, none⟩) L.length c ∧ L.length ≤ c ∧ F b ∧ b < w.heap.size ∧ k = (m : Int) ∧ m < L.length ∧ IsI w F (.slice A n cp) x.2 ∧ n = x.2.length ∧ ∀ (i : Nat) (u : Value), (ndC (x.1, .slice A n cp))[i]? = some u → w.cell? ⟨b, o + m * 11 + i, none⟩ = some u := by
  unfold Pp.nodeAt at hx
  by_cases hk : k < 0
  · rw [if_pos hk] at hx; cases hx
  rw [if_neg hk] at hx
  have hl := (List.getElem?_eq_some_iff.1 hx).1
  obtain ⟨A, c, h1, h2, h3, h4⟩ := h
  obtain ⟨b, o, e, hF, hlt, hc⟩ := h4 (by omega)
  subst e
  obtain ⟨kv, hk1, hi⟩ := hc _ _ hx
  obtain ⟨A2, c2, e2, g2, g3, g4⟩ := id hk1
  subst e2
  exact ⟨b, o, c, k.toNat, A2, x.2.length, c2, h1, h2, hF, hlt, (Int.toNat_of_nonneg (Int.not_lt.1 hk)).symm, hl, hk1, rfl, hi⟩
set_option maxRecDepth 100000 in
set_option maxHeartbeats 1000000 in
theorem single_any (d : Pp.Nd) (kv : Value) (Wk : Nat) (w : World) (hk : kv.oneCell' = true) (h5 : d.op ≠ 5) (L : List Pp.Nk) (ks : List Int) : Calls Tryz.prog 42 #[.pointer (some ⟨Wk, 0, none⟩), ndV d kv] w fun e w' => e = .returned (.bool (Pp.singleP L (d, ks))) ∧ Below w.heap.size w w' := by
  unfold ndV Pp.singleP
  simp only [if_neg h5]
  have hal := below_alloc (below_alloc (Below.refl w.heap.size w) (.cells #[.pointer (some ⟨Wk, 0, none⟩)] 75)) (.cells #[.int .u8 d.op, .int .u8 d.c, .int .u64 d.s0, .int .u64 d.s1, .int .u64 d.s2, .int .u64 d.s3, .int .i64 d.mn, .int .i64 d.mx, .bool d.lz, .int .i64 d.n, kv] 35)
  have HAL := Lib.hid hal
  clear hal
  obtain ⟨op, hop⟩ : ∃ op, d.op = op := ⟨_, rfl⟩
  rw [hop] at HAL h5 ⊢
  clear hop
  by_cases q : op = 2 ∨ op = 3 ∨ op = 4 ∨ op = 8 ∨ op = 9 ∨ op = 1
  · rw [if_pos q]
    rcases q with rfl | rfl | rfl | rfl | rfl | rfl
    all_goals
      clear h5
      go_enter Tryz.func42, Tryz.ntmps42
      go_wp2
      go_ret
      exact ⟨rfl, HAL.out⟩
  · rw [if_neg q]
    have b1 : (op == 2) = false := beq_eq_false_iff_ne.2 (by omega)
    have b2 : (op == 3) = false := beq_eq_false_iff_ne.2 (by omega)
    have b3 : (op == 4) = false := beq_eq_false_iff_ne.2 (by omega)
    have b4 : (op == 8) = false := beq_eq_false_iff_ne.2 (by omega)
    have b5 : (op == 9) = false := beq_eq_false_iff_ne.2 (by omega)
    have b6 : (op == 1) = false := beq_eq_false_iff_ne.2 (by omega)
    have b7 : (op == 5) = false := beq_eq_false_iff_ne.2 h5
    clear q h5
    go_enter Tryz.func42, Tryz.ntmps42
    go_wp2
    go_ret
    exact ⟨rfl, HAL.out⟩
/-- a walk in memory -/
structure WkM (w : World) (Wk Sb : Nat) (v : Value) (root g cs : Int) (L : List Pp.Nk) (sn : List Bool) : Prop where
  box : w.heap[Wk]? = some (.cells #[v, .int .i64 root, .int .i64 g, .int .u8 cs, .slice (some ⟨Sb, 0, none⟩) L.length L.length, .pointer none, .slice none 0 0] 82 (0, 0))
  seen : w.heap[Sb]? = some (.cells (sn.map Value.bool).toArray 4 (0, 0))
  len : sn.length = L.length
  ne : Wk ≠ Sb
  ns : NsI w (fun b => b ≠ Sb) v L
theorem NsI.slice {w : World} {F : Nat → Prop} {v : Value} {L : List Pp.Nk} (h : NsI w F v L) : ∃ A c, v = .slice A L.length c ∧ L.length ≤ c := by
  obtain ⟨A, c, h1, h2, _⟩ := h
  exact ⟨A, c, h1, h2⟩
theorem WkM.far {w w' : World} {Wk Sb : Nat} {v : Value} {root g cs : Int} {L : List Pp.Nk} {sn : List Bool} (h : WkM w Wk Sb v root g cs L sn) (hb : Below w.heap.size w w') : WkM w' Wk Sb v root g cs L sn :=
  ⟨(hb.block _ (blk_lt h.box)).trans h.box, (hb.block _ (blk_lt h.seen)).trans h.seen, h.len, h.ne, h.ns.step hb.size fun b hF hl => ⟨hb.block b hl, hF⟩⟩
theorem WkM.cells {w : World} {Wk Sb : Nat} {v : Value} {root g cs : Int} {L : List Pp.Nk} {sn : List Bool} (h : WkM w Wk Sb v root g cs L sn) : w.cell? ⟨Wk, 0, none⟩ = some v ∧ w.cell? ⟨Wk, 2, none⟩ = some (.int .i64 g) ∧ w.cell? ⟨Wk, 4, none⟩ = some (.slice (some ⟨Sb, 0, none⟩) L.length L.length) := by
  refine ⟨?_, ?_, ?_⟩ <;> (rw [blk_cell h.box]; rfl)
theorem WkM.bit {w : World} {Wk Sb : Nat} {v : Value} {root g cs : Int} {L : List Pp.Nk} {sn : List Bool} (h : WkM w Wk Sb v root g cs L sn) {m : Nat} (hm : m < L.length) : w.cell? ⟨Sb, m, none⟩ = some (.bool (sn.getD m true)) := by
  rw [blk_cell h.seen]
  have : m < sn.length := by rw [h.len]; exact hm
  simp [this]
theorem WkM.mark {w : World} {Wk Sb : Nat} {v : Value} {root g cs : Int} {L : List Pp.Nk} {sn : List Bool} (h : WkM w Wk Sb v root g cs L sn) (m : Nat) : WkM (w.setCell ⟨Sb, m, none⟩ (.bool true)) Wk Sb v root g cs L (sn.set m true) := by
  refine ⟨(Below.heap_setCell w ⟨Sb, m, none⟩ _ Wk h.ne).trans h.box, ?_, by simpa using h.len, h.ne, h.ns.step (by simp [World.setCell]) fun b hF _ => ⟨Below.heap_setCell w ⟨Sb, m, none⟩ _ b hF, hF⟩⟩
  have h9 := blk_set h.seen m (.bool true)
  have e : (sn.map Value.bool).toArray.setIfInBounds m (.bool true) = ((sn.set m true).map Value.bool).toArray := by
    apply Array.ext'
    simp [Array.toList_setIfInBounds, List.map_set]
  rw [e] at h9
  exact h9
theorem node_cells {w : World} {B : Nat} {d : Pp.Nd} {kv : Value} {T : TypeId} (h : w.heap[B]? = some (.cells #[.int .u8 d.op, .int .u8 d.c, .int .u64 d.s0, .int .u64 d.s1, .int .u64 d.s2, .int .u64 d.s3, .int .i64 d.mn, .int .i64 d.mx, .bool d.lz, .int .i64 d.n, kv] T (0, 0))) : w.cell? ⟨B, 0, none⟩ = some (.int .u8 d.op) ∧ w.cell? ⟨B, 1, none⟩ = some (.int .u8 d.c) ∧ w.cell? ⟨B, 2, none⟩ = some (.int .u64 d.s0) ∧ w.cell? ⟨B, 3, none⟩ = some (.int .u64 d.s1) ∧ w.cell? ⟨B, 4, none⟩ = some (.int .u64 d.s2) ∧ w.cell? ⟨B, 5, none⟩ = some (.int .u64 d.s3) ∧ w.cell? ⟨B, 6, none⟩ = some (.int .i64 d.mn) ∧ w.cell? ⟨B, 7, none⟩ = some (.int .i64 d.mx) ∧ w.cell? ⟨B, 8, none⟩ = some (.bool d.lz) ∧ w.cell? ⟨B, 9, none⟩ = some (.int .i64 d.n) ∧ w.cell? ⟨B, 10, none⟩ = some (kv) := by
  refine ⟨?_, ?_, ?_, ?_, ?_, ?_, ?_, ?_, ?_, ?_, ?_⟩ <;> (rw [blk_cell h]; rfl)
end Go.Proofs.YtjdlbejmdjcajaaGreat
