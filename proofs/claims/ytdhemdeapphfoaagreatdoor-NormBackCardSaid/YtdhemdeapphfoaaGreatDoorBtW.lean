/- A tree in memory: its box, its nodes, their rows. -/
import Derived.Test.YtdhemdeapphfoaaGreatDoorBtDel
import Derived.Test.YtdhemdeapphfoaaGreatDoorBtPx
set_option linter.unusedVariables false
set_option linter.unusedSimpArgs false
namespace Go.Proofs.YtdhemdeapphfoaaGreatDoor
open Go.RowKit Go.Shelf Go.Proofs.YtdhemdeapphfoaaGreatDoorW.PrintWords Go.Proofs.YtdhemdeapphfoaaGreatDoorW.PrintLast

structure NV where
  vl : Value
  vk : Value
  ls : List ByteArray
  ks : List Nat
  ct : Int

def NV.cells (x : NV) : List Value := [x.vl, x.vk, .int .i64 x.ct]
def NV.pu (x : NV) : Bt.Nd := ⟨x.ls, x.ks, x.ct⟩
def pus (L : List NV) : List Bt.Nd := L.map NV.pu
def flat (L : List NV) : List Value := L.flatMap NV.cells
def kI (ks : List Nat) : List Int := ks.map Int.ofNat
def cK (ks : List Nat) : List Value := cI (kI ks)

theorem flat_length (L : List NV) : (flat L).length = L.length * 3 := by
  induction L with
  | nil => rfl
  | cons x L ih =>
    rw [flat, List.flatMap_cons, List.length_append, ← flat, ih]
    simp [NV.cells]
    omega
theorem flat_split {L : List NV} {k : Nat} {x : NV} (h : L[k]? = some x) : flat L = flat (L.take k) ++ (x.cells ++ flat (L.drop (k + 1))) ∧ (flat (L.take k)).length = k * 3 := by
  obtain ⟨hk, rfl⟩ := List.getElem?_eq_some_iff.1 h
  refine ⟨?_, by rw [flat_length, List.length_take, Nat.min_eq_left (Nat.le_of_lt hk)]⟩
  have e : L = L.take k ++ L[k] :: L.drop (k + 1) := by rw [← List.drop_eq_getElem_cons hk, List.take_append_drop]
  have e2 := congrArg (List.flatMap NV.cells) e
  rw [List.flatMap_append, List.flatMap_cons] at e2
  exact e2
theorem flat_at {L : List NV} {k j : Nat} {x : NV} (h : L[k]? = some x) (hj : j < 3) : (flat L)[k * 3 + j]? = x.cells[j]? := by
  obtain ⟨h1, h2⟩ := flat_split h
  rw [h1, List.getElem?_append_right (by omega), h2, Nat.add_sub_cancel_left, List.getElem?_append_left (by simpa [NV.cells] using hj)]
theorem flat_set {L : List NV} {k j : Nat} {x y : NV} {v : Value} (h : L[k]? = some x) (hj : j < 3) (hy : y.cells = x.cells.set j v) : (flat L).set (k * 3 + j) v = flat (L.set k y) := by
  obtain ⟨h1, h2⟩ := flat_split h
  have hk := (List.getElem?_eq_some_iff.1 h).1
  have h3 : (L.set k y)[k]? = some y := by simp [hk]
  obtain ⟨h4, _⟩ := flat_split h3
  rw [h4, h1, List.set_append_right _ _ (by omega), h2, Nat.add_sub_cancel_left, List.set_append_left _ _ (by simpa [NV.cells] using hj), ← hy, List.take_set_of_le (Nat.le_refl k), List.drop_set_of_lt (Nat.lt_succ_self k)]

/-- F: blocks that are the tree's, and all that are made from now on -/
structure Tw (w : World) (F : Nat → Prop) (B N cap : Nat) (fv : Value) (L : List NV) (fr : List Nat) (root : Nat) (bytes : Int) : Prop where
  box : w.heap[B]? = some (.cells #[.slice (some ⟨N, 0, none⟩) L.length cap, fv, .int .i64 root, .int .i64 bytes] 74 (0, 0))
  row : ∃ rest, w.heap[N]? = some (.cells (flat L ++ rest).toArray 100 (0, 0)) ∧ cap * 3 ≤ (flat L ++ rest).length
  le : L.length ≤ cap
  fit : cap ≤ maxLen
  free : Rw w 3 fv (cK fr)
  lines : ∀ (k : Nat) (x : NV), L[k]? = some x → Rw w 9 x.vl (cS x.ls)
  kids : ∀ (k : Nat) (x : NV), L[k]? = some x → Rw w 3 x.vk (cK x.ks)
  apartL : ∀ (i j : Nat) (x y : NV) (b : Nat), L[i]? = some x → L[j]? = some y → x.vl.ownBlock = some b → y.vl.ownBlock = some b → i = j
  apartK : ∀ (i j : Nat) (x y : NV) (b : Nat), L[i]? = some x → L[j]? = some y → x.vk.ownBlock = some b → y.vk.ownBlock = some b → i = j
  apartF : ∀ (i : Nat) (x : NV) (b : Nat), L[i]? = some x → x.vk.ownBlock = some b → fv.ownBlock ≠ some b
  footB : F B
  footN : F N
  footF : ∀ b, fv.ownBlock = some b → F b
  footL : ∀ (k : Nat) (x : NV) (b : Nat), L[k]? = some x → x.vl.ownBlock = some b → F b
  footK : ∀ (k : Nat) (x : NV) (b : Nat), L[k]? = some x → x.vk.ownBlock = some b → F b

section
variable {w w' : World} {F : Nat → Prop} {B N cap : Nat} {fv : Value} {L : List NV} {fr : List Nat} {root : Nat} {bytes : Int}
theorem Tw.c0 (h : Tw w F B N cap fv L fr root bytes) : w.cell? ⟨B, 0, none⟩ = some (.slice (some ⟨N, 0, none⟩) L.length cap) := by rw [blk_cell h.box]; rfl
theorem Tw.c1 (h : Tw w F B N cap fv L fr root bytes) : w.cell? ⟨B, 1, none⟩ = some fv := by rw [blk_cell h.box]; rfl
theorem Tw.c2 (h : Tw w F B N cap fv L fr root bytes) : w.cell? ⟨B, 2, none⟩ = some (.int .i64 root) := by rw [blk_cell h.box]; rfl
theorem Tw.c3 (h : Tw w F B N cap fv L fr root bytes) : w.cell? ⟨B, 3, none⟩ = some (.int .i64 bytes) := by rw [blk_cell h.box]; rfl
theorem Tw.zB (h : Tw w F B N cap fv L fr root bytes) (j : Nat) : w.frozen? ⟨B, j, none⟩ = false := blk_frozen h.box j
theorem Tw.zN (h : Tw w F B N cap fv L fr root bytes) (j : Nat) : w.frozen? ⟨N, j, none⟩ = false := by
  obtain ⟨rest, hr, _⟩ := h.row
  exact blk_frozen hr j
theorem Tw.cell (h : Tw w F B N cap fv L fr root bytes) {k j : Nat} {x : NV} (hx : L[k]? = some x) (hj : j < 3) : w.cell? ⟨N, k * 3 + j, none⟩ = x.cells[j]? := by
  obtain ⟨rest, hr, _⟩ := h.row
  have hk := (List.getElem?_eq_some_iff.1 hx).1
  rw [blk_cell hr, List.getElem?_toArray, List.getElem?_append_left (by rw [flat_length]; omega), flat_at hx hj]
theorem Tw.n0 (h : Tw w F B N cap fv L fr root bytes) {k : Nat} {x : NV} (hx : L[k]? = some x) : w.cell? ⟨N, k * 3, none⟩ = some x.vl := h.cell (j := 0) hx (by omega)
theorem Tw.n1 (h : Tw w F B N cap fv L fr root bytes) {k : Nat} {x : NV} (hx : L[k]? = some x) : w.cell? ⟨N, k * 3 + 1, none⟩ = some x.vk := h.cell (j := 1) hx (by omega)
theorem Tw.n2 (h : Tw w F B N cap fv L fr root bytes) {k : Nat} {x : NV} (hx : L[k]? = some x) : w.cell? ⟨N, k * 3 + 2, none⟩ = some (.int .i64 x.ct) := h.cell (j := 2) hx (by omega)
theorem Tw.BN (h : Tw w F B N cap fv L fr root bytes) : B ≠ N := by
  intro e
  obtain ⟨rest, hr, _⟩ := h.row
  have hb := h.box
  rw [e, hr] at hb
  injection hb with hb
  injection hb with _ hb _
  exact absurd hb (by decide)
end
end Go.Proofs.YtdhemdeapphfoaaGreatDoor
