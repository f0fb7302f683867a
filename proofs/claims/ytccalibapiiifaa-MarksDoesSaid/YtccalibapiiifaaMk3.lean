/- marks: Splice. -/
import Derived.Test.YtccalibapiiifaaMk2
import Derived.Lib.Hide
import Derived.Deep.QuietTactic
import Derived.BigQuiet
namespace Go.Proofs.Ytccalibapiiifaa
open Go.RowKit Go.Maps

theorem ret_int {k : IntKind} {a b : Int} (h : a = b) : Ending.returned (.int k a) = .returned (.int k b) := by rw [h]

/-- where a line goes when lines are put in the place of n from one on -/
def splG (line n lines i : Int) : Int :=
  if wrap64 (i - line) < 0 ∨ wrap64 (i - line) < min n lines then i else if wrap64 (i - line) < n then 0 else wrap64 (wrap64 (i - n) + lines)

theorem spliceFn_any (i line n lines : Int) (b1 b2 b3 : Nat) (w : World) (c1 : w.cell? ⟨b1, 0, none⟩ = some (.int .i64 line)) (c2 : w.cell? ⟨b2, 0, none⟩ = some (.int .i64 n)) (c3 : w.cell? ⟨b3, 0, none⟩ = some (.int .i64 lines)) :
    Calls Try.prog 36 #[.int .i64 i, .pointer (some ⟨b1, 0, none⟩), .pointer (some ⟨b2, 0, none⟩), .pointer (some ⟨b3, 0, none⟩)] w fun e w' => e = .returned (.int .i64 (splG line n lines i)) ∧ w = w' := by
  go_enter Try.func36, Try.ntmps36
  go_wp2
  all_goals
    go_ret
    refine ⟨ret_int ?_, rfl⟩
    unfold splG
    first
      | rw [if_pos (by omega)]
      | rw [if_neg (by omega), if_pos (by omega)]
      | rw [if_neg (by omega), if_neg (by omega)]

def SplicePost (mb n : Nat) (f : Int → Int) (line m lines : Int) (w : World) (e : Ending) (w' : World) : Prop :=
  e = .returned (.tuple #[]) ∧ w.grownBy w' (some mb) ∧
    MapOf w' mb n (if line < 1 ∨ m < 0 ∨ lines < 0 ∨ 2147483647 < line ∨ 2147483647 < m ∨ 2147483647 < lines then f else fun x => if f x = 0 then 0 else splG line m lines (f x))

theorem MapOf.lt {w : World} {b n : Nat} {f : Int → Int} (h : MapOf w b n f) : b < w.heap.size := by
  obtain ⟨D, hown, _⟩ := h
  exact hown.lt

theorem MapOf.grown {w w' : World} {b n : Nat} {f : Int → Int} {row : Option Nat} (h : MapOf w b n f) (hg : w.grownBy w' row) (hr : row ≠ some b) : MapOf w' b n f := by
  obtain ⟨D, hown, hD⟩ := h
  exact ⟨D, hown.kept hg (by simpa using fun e => hr e.symm), hD⟩

/-- the three boxed numbers -/
abbrev box3 (w : World) (x y z : Int) : World := ((w.alloc (.cells #[.int .i64 x] 3)).alloc (.cells #[.int .i64 y] 3)).alloc (.cells #[.int .i64 z] 3)

def EachPost (mb n : Nat) (f : Int → Int) (g : Int → Int) (w : World) (w' : World) : Prop :=
  w.grownBy w' (some mb) ∧ MapOf w' mb n (fun x => if f x = 0 then 0 else g (f x))

theorem grown_alloc (w : World) (o : Obj) (row : Option Nat) : w.grownBy (w.alloc o) row := World.grownBy_alloc w o row

theorem splG_wf (line n lines i : Int) (hi : (Lit.int .i64 i).wf = true) : (Lit.int .i64 (splG line n lines i)).wf = true := by
  unfold splG
  split
  · exact hi
  · split
    · decide
    · exact wrap64_wf _

theorem each_splice (b mb n : Nat) (f : Int → Int) (line m lines : Int) (w : World) (c0 : w.cell? ⟨b, 0, none⟩ = some (.map (some mb))) (hbm : b ≠ mb) (hm : MapOf w mb n f) (hn : n < maxLen) :
    Calls Try.prog 35 #[.pointer (some ⟨b, 0, none⟩), .func (.func 36) #[] #[.pointer (some ⟨w.heap.size, 0, none⟩), .pointer (some ⟨w.heap.size + 1, 0, none⟩), .pointer (some ⟨w.heap.size + 2, 0, none⟩)]]
      (box3 w line m lines) fun e w' => e = .returned (.tuple #[]) ∧ EachPost mb n f (splG line m lines) w w' := by
  obtain ⟨D, hown, hD⟩ := hm
  have hb : b < w.heap.size := by
    cases Nat.lt_or_ge b w.heap.size with
    | inl h => exact h
    | inr h => simp [World.cell?, Array.getElem?_eq_none h] at c0
  have hmb := hown.lt
  have hcells : ∀ w', (box3 w line m lines).grownBy w' (some mb) → w'.cell? ⟨w.heap.size, 0, none⟩ = some (.int .i64 line) ∧ w'.cell? ⟨w.heap.size + 1, 0, none⟩ = some (.int .i64 m) ∧ w'.cell? ⟨w.heap.size + 2, 0, none⟩ = some (.int .i64 lines) := by
    intro w' hg
    refine ⟨?_, ?_, ?_⟩
    · rw [World.cell?_of_block (w := box3 w line m lines) (hg.block _ (by simp [box3]; omega) (by simp; omega))]
      go_simp
    · rw [World.cell?_of_block (w := box3 w line m lines) (hg.block _ (by simp [box3]) (by simp; omega))]
      go_simp
    · rw [World.cell?_of_block (w := box3 w line m lines) (hg.block _ (by simp [box3]) (by simp; omega))]
      go_simp
  have hgw : w.grownBy (box3 w line m lines) none := ((grown_alloc w _ none).trans (grown_alloc _ _ none)).trans (grown_alloc _ _ none)
  have c1 : (box3 w line m lines).cell? ⟨b, 0, none⟩ = some (.map (some mb)) := by
    rw [World.cell?_of_block (w := w) (hgw.block b hb (by simp))]
    exact c0
  refine (each_any b mb n f (splG line m lines) _ _ _ c1 hbm D (hown.kept hgw (by simp)) hD hn (fun i hi => splG_wf line m lines i hi)
    (enter_run Try.func36 (by kernel_rfl) rfl) (fun i w' hg => ?_)).mono ?_
  · obtain ⟨k1, k2, k3⟩ := hcells w' hg
    exact spliceFn_any i line m lines _ _ _ w' k1 k2 k3
  · rintro e w' ⟨he, D', hown', hD', hg'⟩
    exact ⟨he, (hgw.but (some mb)).trans hg', D', hown', hD'⟩

theorem splice_any (b mb n : Nat) (f : Int → Int) (line m lines : Int) (w : World) (c0 : w.cell? ⟨b, 0, none⟩ = some (.map (some mb))) (hbm : b ≠ mb)
    (hm : MapOf w mb n f) (hn : n < maxLen) :
    Calls Try.prog 18 #[.pointer (some ⟨b, 0, none⟩), .int .i64 line, .int .i64 m, .int .i64 lines] w (SplicePost mb n f line m lines w) := by
  have HM : Hid (MapOf w mb n f) := hm
  clear hm
  go_enter Try.func18, Try.ntmps18
  go_wp2_with (first
    | (go_at_call 35; (refine (each_splice b mb n f line m lines w c0 hbm HM.out hn).mono ?_); rintro e w' ⟨rfl, hpost⟩; have HP := Lib.hid hpost; clear hpost)
    | go_in)
  all_goals go_end0
  all_goals first
    | exact ⟨rfl, HP.out.1, by rw [if_neg (by omega)]; exact HP.out.2⟩
    | exact ⟨rfl, ((grown_alloc w _ _).trans (grown_alloc _ _ _)).trans (grown_alloc _ _ _), by
        rw [if_pos (by omega)]
        exact ((HM.out.grown (grown_alloc w _ none) (by simp)).grown (grown_alloc _ _ none) (by simp)).grown (grown_alloc _ _ none) (by simp)⟩

end Go.Proofs.Ytccalibapiiifaa
