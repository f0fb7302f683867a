/- the document's marks: an array of lines, walked. -/
import Derived.Test.YtccalibapiiifaaMc
namespace Go.Proofs.Ytccalibapiiifaa
open Go.RowKit Go.Maps Go.Proofs.YtccalibapiiifaaW.PrintWords Go.Proofs.YtccalibapiiifaaW.PrintLast Go.Proofs.YtccalibapiiifaaW.PrintMore

/-- the lines of the letters, cell for cell -/
def cellsR (f : Int → Int) : Array Value := ((List.range 26).map fun (i : Nat) => Value.int .i64 (f (97 + (i : Int)))).toArray
theorem cellsR_size (f : Int → Int) : (cellsR f).size = 26 := by simp [cellsR]
theorem cellsR_get (f : Int → Int) {k : Nat} (hk : k < 26) : (cellsR f)[k]? = some (.int .i64 (f (97 + (k : Int)))) := by simp [cellsR, hk]
theorem cellsR_set (f : Int → Int) {k : Nat} (hk : k < 26) (v : Int) : (cellsR f).setIfInBounds k (.int .i64 v) = cellsR (fun y => if y = 97 + (k : Int) then v else f y) := by
  apply Array.ext'
  apply List.ext_getElem?
  intro i
  simp only [cellsR, Array.toList_setIfInBounds, List.getElem?_set, List.getElem?_map, List.length_map, List.length_range]
  by_cases h : k = i
  · subst h
    simp [hk]
  · rw [if_neg h]
    by_cases hi : i < 26
    · have : ¬ (97 + (i : Int) = 97 + (k : Int)) := by omega
      simp only [List.getElem?_range hi, Option.map_some, if_neg this]
    · rw [List.getElem?_eq_none (show (List.range 26).length ≤ i by simp; omega)]
      rfl
theorem cellsR_congr {f g : Int → Int} (h : ∀ x, 97 ≤ x → x ≤ 122 → f x = g x) : cellsR f = cellsR g := by
  unfold cellsR
  congr 1
  refine List.map_congr_left fun i hi => ?_
  rw [List.mem_range] at hi
  rw [h (97 + (i : Int)) (by omega) (by omega)]

theorem boxOn2 {w w' : World} {g mb2 : Nat} {o : Obj} (hx : w.heap[g]? = some o) (hg : w.grownBy w' (some mb2)) (hne : g ≠ mb2) : w'.heap[g]? = some o := by
  rw [hg.block g (blk_lt hx) (by simpa using hne)]
  exact hx

def RefAt (w : World) (r : Nat) (f : Int → Int) : Prop := w.heap[r]? = some (.cells (cellsR f) 86 (0, 0))
theorem RefAt.cell {w : World} {r : Nat} {f : Int → Int} (h : RefAt w r f) {k : Nat} (hk : k < 26) : w.cell? ⟨r, k, none⟩ = some (.int .i64 (f (97 + (k : Int)))) := (blk_cell h k).trans (cellsR_get f hk)
theorem RefAt.frozen {w : World} {r : Nat} {f : Int → Int} (h : RefAt w r f) (k : Nat) : w.frozen? ⟨r, k, none⟩ = false := blk_frozen h k
theorem RefAt.put {w : World} {r : Nat} {f : Int → Int} (h : RefAt w r f) {k : Nat} (hk : k < 26) (v : Int) : RefAt (w.setCell ⟨r, k, none⟩ (.int .i64 v)) r (fun y => if y = 97 + (k : Int) then v else f y) := by
  unfold RefAt at *
  rw [blk_set h k _, cellsR_set f hk]
theorem RefAt.lt {w : World} {r : Nat} {f : Int → Int} (h : RefAt w r f) : r < w.heap.size := blk_lt h
theorem RefAt.on {w w' : World} {r mb : Nat} {f : Int → Int} (h : RefAt w r f) (hg : w.grownBy w' (some mb)) (hne : r ≠ mb) : RefAt w' r f := boxOn2 h hg hne
theorem RefAt.below {w w' : World} {r : Nat} {f : Int → Int} (h : RefAt w r f) (hb : Below w.heap.size w w') : RefAt w' r f := (hb.block _ h.lt).trans h
theorem RefAt.congr {w : World} {r : Nat} {f g : Int → Int} (h : RefAt w r f) (e : ∀ x, 97 ≤ x → x ≤ 122 → f x = g x) : RefAt w r g := by
  unfold RefAt at *
  rw [← cellsR_congr e]
  exact h
theorem set_grown (w : World) (r k : Nat) (v : Value) : w.grownBy (w.setCell ⟨r, k, none⟩ v) (some r) :=
  ⟨rfl, rfl, rfl, by simp [World.setCell], fun i _ hr => Below.heap_setCell w ⟨r, k, none⟩ v i (by simpa using hr)⟩

set_option maxRecDepth 100000 in
theorem refNew (w : World) : Calls Try.prog 27 #[] w fun e w' => e = .returned (.pointer (some ⟨w.heap.size, 0, none⟩)) ∧ RefAt w' w.heap.size (fun _ => 0) ∧ Below w.heap.size w w' := by
  go_enter Try.func27, Try.ntmps27
  go_wp2
  go_ret
  exact ⟨rfl, (heap_alloc_new w _).trans rfl, below_alloc (Below.refl _ _) _⟩

set_option maxRecDepth 100000 in
theorem refGet {w : World} {r : Nat} {f : Int → Int} (h : RefAt w r f) (x : Int) (h0 : 0 ≤ x) (h1 : x ≤ 255) (hL : Letters f) :
    Calls Try.prog 30 #[.pointer (some ⟨r, 0, none⟩), .int .u8 x] w fun e w' => e = .returned (.tuple #[.int .i64 (f x), .int .i64 (if f x = 0 then 100 else 0)]) ∧ w = w' := by
  by_cases hx : 97 ≤ x ∧ x ≤ 122
  · have hc := h.cell (k := (x - 97).toNat) (by omega)
    rw [show 97 + ((x - 97).toNat : Int) = x by omega] at hc
    obtain ⟨v, hv⟩ : ∃ v, f x = v := ⟨_, rfl⟩
    rw [hv] at hc ⊢
    have hx1 := hx.1
    have hx2 := hx.2
    clear hx hv
    by_cases hv0 : v = 0
    · subst hv0
      go_enter Try.func30, Try.ntmps30
      go_wp2
      go_ret2
      exact ⟨rfl, rfl⟩
    · rw [if_neg hv0]
      have hv1 : (v == 0) = false := by simpa using hv0
      have nx1 : ¬ x < 97 := by omega
      have nx2 : ¬ 122 < x := by omega
      clear hv0
      go_enter Try.func30, Try.ntmps30
      go_wp2
      go_ret2
      exact ⟨rfl, rfl⟩
  · have hz : f x = 0 := by
      by_cases e : f x = 0
      · exact e
      · exact absurd (hL x e) hx
    rw [hz]
    clear hz
    by_cases h97 : x < 97
    · go_enter Try.func30, Try.ntmps30
      go_wp2
      go_ret2
      exact ⟨rfl, rfl⟩
    · have h122 : 122 < x := by omega
      go_enter Try.func30, Try.ntmps30
      go_wp2
      go_ret2
      exact ⟨rfl, rfl⟩

set_option maxRecDepth 100000 in
theorem refSet {w : World} {r : Nat} {f : Int → Int} (h : RefAt w r f) (x v : Int) (h0 : 0 ≤ x) (h1 : x ≤ 255) :
    Calls Try.prog 32 #[.pointer (some ⟨r, 0, none⟩), .int .u8 x, .int .i64 v] w fun e w' => e = .returned (.int .i64 (setC x v)) ∧ RefAt w' r (setF f x v) ∧ w.grownBy w' (some r) := by
  have hno : setC x v ≠ 0 → RefAt w r (setF f x v) := fun e => h.congr (fun y _ _ => by unfold setF; rw [if_neg (fun c => e c.1)])
  have hyes : setC x v = 0 → RefAt (w.setCell ⟨r, (x - 97).toNat, none⟩ (.int .i64 v)) r (setF f x v) := fun e => by
    have hx : 97 ≤ x ∧ x ≤ 122 := by
      unfold setC at e
      split at e
      · cases e
      · omega
    refine (h.put (k := (x - 97).toNat) (by omega) v).congr (fun y _ _ => ?_)
    unfold setF
    rw [show 97 + ((x - 97).toNat : Int) = x by omega]
    simp [e]
  have HN := Lib.hid hno
  have HY := Lib.hid hyes
  clear hno hyes
  unfold setC at HN HY ⊢
  by_cases h97 : x < 97
  · rw [if_pos (.inl h97)] at HN HY ⊢
    go_enter Try.func32, Try.ntmps32
    go_wp2
    go_ret
    exact ⟨rfl, HN.out (by decide), grown_refl _ _⟩
  by_cases h122 : 122 < x
  · rw [if_pos (.inr h122)] at HN HY ⊢
    go_enter Try.func32, Try.ntmps32
    go_wp2
    go_ret
    exact ⟨rfl, HN.out (by decide), grown_refl _ _⟩
  rw [if_neg (by omega)] at HN HY ⊢
  by_cases hv1 : v < 1
  · rw [if_pos (.inl hv1)] at HN HY ⊢
    go_enter Try.func32, Try.ntmps32
    go_wp2
    go_ret
    exact ⟨rfl, HN.out (by decide), grown_refl _ _⟩
  by_cases hv2 : 2147483647 < v
  · rw [if_pos (.inr hv2)] at HN HY ⊢
    go_enter Try.func32, Try.ntmps32
    go_wp2
    go_ret
    exact ⟨rfl, HN.out (by decide), grown_refl _ _⟩
  rw [if_neg (by omega)] at HN HY ⊢
  have hc := h.cell (k := (x - 97).toNat) (by omega)
  have hz := h.frozen (x - 97).toNat
  go_enter Try.func32, Try.ntmps32
  go_wp2
  go_ret
  exact ⟨rfl, HY.out trivial, set_grown _ _ _ _⟩

end Go.Proofs.Ytccalibapiiifaa
