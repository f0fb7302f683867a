/- buf's Put and change, walked. -/
import Derived.Test.YtiddfimaenjdcaaGreatDoorBvAx
set_option linter.unusedVariables false
set_option linter.unusedSimpArgs false
namespace Go.Proofs.YtiddfimaenjdcaaGreatDoor
open Go.RowKit Go.Shelf Go.Maps Go.Proofs.YtiddfimaenjdcaaGreatDoorW.PrintWords Go.Proofs.YtiddfimaenjdcaaGreatDoorW.PrintLast

section
variable {N0 : Nat} {w0 : Base} {w w' : World} {col : Nat → Nat} {B T p1 U : Nat} {s : Bs} {vl vm vo : Value} {L : List DV}
theorem Bw.drewN (h : Bw N0 w0 w col B s T p1 U vl vm vo L) (n : Nat) : Bw N0 w0 (w.drewN n) col B s T p1 U vl vm vo L where
  box := h.box
  cB := h.cB
  tree := (loc_tree _ _).step h.tree (Nat.le_refl _) fun _ _ _ => rfl
  mar := (loc_mk _ _ _).step h.mar (Nat.le_refl _) fun _ _ _ => rfl
  smk := (loc_sm _ _ _ _).step h.smk (Nat.le_refl _) fun _ _ _ => rfl
  undo := (loc_ut _ _ _).step h.undo (Nat.le_refl _) fun _ _ _ => rfl
  opr := (loc_or _ _).step h.opr (Nat.le_refl _) fun _ _ _ => rfl
  ope := (loc_oe _ _).step h.ope (Nat.le_refl _) fun _ _ _ => rfl
  sls := (loc_ls _ _).step h.sls (Nat.le_refl _) fun _ _ _ => rfl
  new := h.new
  prot := h.prot
  below := ⟨h.below.os, h.below.tape, h.below.output, h.below.size, h.below.block⟩
  le := h.le
theorem Bw.hB (h : Bw N0 w0 w col B s T p1 U vl vm vo L) : N0 ≤ B := by
  rcases Nat.lt_or_ge B N0 with hlt | hge
  · have := h.new B hlt
    rw [h.cB] at this
    cases this
  · exact hge
/-- the cursor -/
theorem Bw.setCur (h : Bw N0 w0 w col B s T p1 U vl vm vo L) (c : Int) : Bw N0 w0 (w.setCell ⟨B, 7, none⟩ (.int .i64 c)) col B { s with cur := c } T p1 U vl vm vo L :=
  h.onBox (by simp [World.setCell]) ((Below.refl N0 w).setCell (p := ⟨B, 7, none⟩) h.hB _) (fun b hb => Below.heap_setCell _ _ _ _ hb) (by rw [blk_set h.box]; rfl) h.tree h.mar h.smk h.undo h.opr h.ope h.sls
/-- the open changes -/
theorem Bw.setOpn (h : Bw N0 w0 w col B s T p1 U vl vm vo L) {v : Value} {L' : List DV} {ds : List Dl} (h5 : Or w (fun b => col b = 5) v L') (h8 : Oe w (fun b => col b = 8) L' ds) : Bw N0 w0 (w.setCell ⟨B, 6, none⟩ v) col B { s with opn := ds } T p1 U vl vm v L' :=
  h.onBox (by simp [World.setCell]) ((Below.refl N0 w).setCell (p := ⟨B, 6, none⟩) h.hB _) (fun b hb => Below.heap_setCell _ _ _ _ hb) (by rw [blk_set h.box]; rfl) h.tree h.mar h.smk h.undo h5 h8 h.sls

/-- a change more is open -/
theorem Bw.onOpn (h : Bw N0 w0 w col B s T p1 U vl vm vo L) (hc : Chg (fun b => col b = 5 ∨ w.heap.size ≤ b) w w') {v : Value} {L' : List DV} {ds : List Dl} (h5 : Or w' (fun b => col b = 5 ∨ w.heap.size ≤ b) v L') (h8 : Oe w (fun b => col b = 8) L' ds) :
    Bw N0 w0 (w'.setCell ⟨B, 6, none⟩ v) (recol col w.heap.size 5) B { s with opn := ds } T p1 U vl vm v L' := by
  have hcB := h.cB' 5
  have go : ∀ {X : World → (Nat → Prop) → Prop}, Loc X → ∀ {j : Nat}, 0 ≠ j → X w' (fun b => recol col w.heap.size 5 b = j) → X (w'.setCell ⟨B, 6, none⟩ v) (fun b => recol col w.heap.size 5 b = j) := fun hX _ hj hx =>
    hX.step hx (Nat.le_of_eq (by simp [World.setCell])) fun b _ he => Below.heap_setCell _ _ _ _ fun e => by
      rw [e, hcB] at he
      exact hj he
  exact {
    box := by rw [blk_set ((h.box' (by decide) hc).trans h.box)]; rfl
    cB := hcB
    tree := go (loc_tree _ _) (by decide) ((loc_tree _ _).other h.tree (by decide) hc)
    mar := go (loc_mk _ _ _) (by decide) ((loc_mk _ _ _).other h.mar (by decide) hc)
    smk := go (loc_sm _ _ _ _) (by decide) ((loc_sm _ _ _ _).other h.smk (by decide) hc)
    undo := go (loc_ut _ _ _) (by decide) ((loc_ut _ _ _).other h.undo (by decide) hc)
    opr := go (loc_or _ _) (by decide) ((loc_or v L').own (w := w) h5)
    ope := go (loc_oe _ _) (by decide) ((loc_oe _ _).other h8 (by decide) hc)
    sls := go (loc_ls _ _) (by decide) ((loc_ls _ _).other h.sls (by decide) hc)
    new := h.new' 5
    prot := fun b hp => by
      obtain ⟨h1, h2, h3⟩ := h.prot' (by decide) hc b hp
      refine ⟨by simpa [World.setCell] using h1, h2, (Below.heap_setCell _ _ _ _ fun e => ?_).trans h3⟩
      rw [e, hcB] at h2
      cases h2
    below := (h.below' (by decide) hc).setCell (p := ⟨B, 6, none⟩) h.hB v
    le := Nat.le_trans h.le (Nat.le_trans hc.size (Nat.le_of_eq (by simp [World.setCell]))) }

def changeS (s : Bs) (i k : Nat) (xs : List ByteArray) : Bs := { s with ls := Bt.splice s.ls i k xs, opn := s.opn ++ [⟨i, (s.ls.drop i).take k, xs⟩] }

end
end Go.Proofs.YtiddfimaenjdcaaGreatDoor
