/- marks: Move. -/
import Derived.Test.YtdhemdeapphfoaaGreatDoorMp
set_option linter.unusedVariables false
set_option linter.unusedSimpArgs false
namespace Go.Proofs.YtdhemdeapphfoaaGreatDoor
open Go.RowKit Go.Maps

/-- where a line goes when the lines from one to another go behind a third -/
def movG (p q b n i : Int) : Int :=
  if p ≤ i ∧ i ≤ q ∧ b < p then wrap64 (wrap64 (wrap64 (i - p) + b) + 1)
  else if p ≤ i ∧ i ≤ q then wrap64 (wrap64 (i - q) + b)
  else if b < i ∧ i < p then wrap64 (i + n)
  else if q < i ∧ i ≤ b then wrap64 (i - n) else i

theorem moveFn_any (i p q b n : Int) (b1 b2 b3 b4 : Nat) (w : World) (c1 : w.cell? ⟨b1, 0, none⟩ = some (.int .i64 p)) (c2 : w.cell? ⟨b2, 0, none⟩ = some (.int .i64 q)) (c3 : w.cell? ⟨b3, 0, none⟩ = some (.int .i64 b)) (c4 : w.cell? ⟨b4, 0, none⟩ = some (.int .i64 n)) :
    Calls Tryz.prog 179 #[.int .i64 i, .pointer (some ⟨b1, 0, none⟩), .pointer (some ⟨b2, 0, none⟩), .pointer (some ⟨b3, 0, none⟩), .pointer (some ⟨b4, 0, none⟩)] w fun e w' => e = .returned (.int .i64 (movG p q b n i)) ∧ w = w' := by
  go_enter Tryz.func179, Tryz.ntmps179
  go_wp2
  all_goals
    go_ret
    refine ⟨ret_int ?_, rfl⟩
    unfold movG
    first
      | rw [if_pos (by omega)]
      | rw [if_neg (by omega), if_pos (by omega)]
      | rw [if_neg (by omega), if_neg (by omega), if_pos (by omega)]
      | rw [if_neg (by omega), if_neg (by omega), if_neg (by omega), if_pos (by omega)]
      | rw [if_neg (by omega), if_neg (by omega), if_neg (by omega), if_neg (by omega)]

theorem movG_wf (p q b n i : Int) (hi : (Lit.int .i64 i).wf = true) : (Lit.int .i64 (movG p q b n i)).wf = true := by
  unfold movG
  repeat' split
  all_goals first | exact hi | exact wrap64_wf _

def movOff (p q b : Int) : Prop := p < 1 ∨ q < p ∨ b < 0 ∨ 2147483647 < q ∨ 2147483647 < b ∨ (p - 1 ≤ b ∧ b ≤ q)
instance (p q b : Int) : Decidable (movOff p q b) := by unfold movOff; infer_instance

def MkMovePost (mb n : Nat) (f : Int → Int) (p q b : Int) (w : World) (e : Ending) (w' : World) : Prop :=
  e = .returned (.tuple #[]) ∧ w.grownBy w' (some mb) ∧
    MapOf w' mb n (if movOff p q b then f else fun x => if f x = 0 then 0 else movG p q b (q - p + 1) (f x))

/-- the four boxed numbers -/
abbrev box4 (w : World) (x y z u : Int) : World := (box3 w x y z).alloc (.cells #[.int .i64 u] 3)

theorem each_move (b mb n : Nat) (f : Int → Int) (p q c d : Int) (w : World) (c0 : w.cell? ⟨b, 0, none⟩ = some (.map (some mb))) (hbm : b ≠ mb) (hm : MapOf w mb n f) (hn : n < maxLen) :
    Calls Tryz.prog 125 #[.pointer (some ⟨b, 0, none⟩), .func (.func 179) #[] #[.pointer (some ⟨w.heap.size, 0, none⟩), .pointer (some ⟨w.heap.size + 1, 0, none⟩), .pointer (some ⟨w.heap.size + 2, 0, none⟩), .pointer (some ⟨w.heap.size + 3, 0, none⟩)]]
      (box4 w p q c d) fun e w' => e = .returned (.tuple #[]) ∧ EachPost mb n f (movG p q c d) w w' := by
  obtain ⟨D, hown, hD⟩ := hm
  have hb : b < w.heap.size := by
    cases Nat.lt_or_ge b w.heap.size with
    | inl h => exact h
    | inr h => simp [World.cell?, Array.getElem?_eq_none h] at c0
  have hmb := hown.lt
  have hcells : ∀ w', (box4 w p q c d).grownBy w' (some mb) → w'.cell? ⟨w.heap.size, 0, none⟩ = some (.int .i64 p) ∧ w'.cell? ⟨w.heap.size + 1, 0, none⟩ = some (.int .i64 q) ∧ w'.cell? ⟨w.heap.size + 2, 0, none⟩ = some (.int .i64 c) ∧ w'.cell? ⟨w.heap.size + 3, 0, none⟩ = some (.int .i64 d) := by
    intro w' hg
    refine ⟨?_, ?_, ?_, ?_⟩
    · rw [World.cell?_of_block (w := box4 w p q c d) (hg.block _ (by simp [box4, box3]; omega) (by simp; omega))]
      go_simp
    · rw [World.cell?_of_block (w := box4 w p q c d) (hg.block _ (by simp [box4, box3]) (by simp; omega))]
      go_simp
    · rw [World.cell?_of_block (w := box4 w p q c d) (hg.block _ (by simp [box4, box3]) (by simp; omega))]
      go_simp
    · rw [World.cell?_of_block (w := box4 w p q c d) (hg.block _ (by simp [box4, box3]) (by simp; omega))]
      go_simp
  have hgw : w.grownBy (box4 w p q c d) none := (((grown_alloc w _ none).trans (grown_alloc _ _ none)).trans (grown_alloc _ _ none)).trans (grown_alloc _ _ none)
  have c1 : (box4 w p q c d).cell? ⟨b, 0, none⟩ = some (.map (some mb)) := by
    rw [World.cell?_of_block (w := w) (hgw.block b hb (by simp))]
    exact c0
  refine (each_any b mb n f (movG p q c d) _ _ _ c1 hbm D (hown.kept hgw (by simp)) hD hn (fun i hi => movG_wf p q c d i hi)
    (enter_run Tryz.func179 (by kernel_rfl) rfl) (fun i w' hg => ?_)).mono ?_
  · obtain ⟨k1, k2, k3, k4⟩ := hcells w' hg
    exact moveFn_any i p q c d _ _ _ _ w' k1 k2 k3 k4
  · rintro e w' ⟨he, D', hown', hD', hg'⟩
    exact ⟨he, (hgw.but (some mb)).trans hg', D', hown', hD'⟩

theorem move_any (b mb n : Nat) (f : Int → Int) (p q c : Int) (w : World) (c0 : w.cell? ⟨b, 0, none⟩ = some (.map (some mb))) (hbm : b ≠ mb)
    (hm : MapOf w mb n f) (hn : n < maxLen) :
    Calls Tryz.prog 166 #[.pointer (some ⟨b, 0, none⟩), .int .i64 p, .int .i64 q, .int .i64 c] w (MkMovePost mb n f p q c w) := by
  have HM : Hid (MapOf w mb n f) := hm
  clear hm
  have hp1 : Hid (¬ p < 1 → ¬ 2147483647 < q → ¬ q < p → wrap64 (p - 1) = p - 1 ∧ wrap64 (wrap64 (q - p) + 1) = q - p + 1) := by
    intro h1 h2 h3
    constructor <;> (unfold wrap64; omega)
  go_enter Tryz.func166, Tryz.ntmps166
  go_wp2_with (first
    | (go_at_call 125; (refine (each_move b mb n f p q c _ w c0 hbm HM.out hn).mono ?_); rintro e w' ⟨rfl, hpost⟩; have HP := Lib.hid hpost; clear hpost)
    | go_in)
  all_goals go_end0
  all_goals first
    | exact ⟨rfl, HP.out.1, by rw [if_neg (by unfold movOff; omega)]; exact HP.out.2⟩
    | exact ⟨rfl, ((grown_alloc w _ _).trans (grown_alloc _ _ _)).trans (grown_alloc _ _ _), by
        rw [if_pos (by unfold movOff; omega)]
        exact ((HM.out.grown (grown_alloc w _ none) (by simp)).grown (grown_alloc _ _ none) (by simp)).grown (grown_alloc _ _ none) (by simp)⟩

def movF (f : Int → Int) (p q c : Int) : Int → Int := fun x => if movOff p q c then f x else if f x = 0 then 0 else movG p q c (q - p + 1) (f x)

theorem move_held {B : Nat} {w0 w : World} {p mb n : Nat} {f : Int → Int} (h : Held B w0 w p mb n f) (x y z : Int) (hn : n < maxLen) :
    Calls Tryz.prog 166 #[.pointer (some ⟨p, 0, none⟩), .int .i64 x, .int .i64 y, .int .i64 z] w fun e w' => e = .returned (.tuple #[]) ∧ Held B w0 w' p mb n (movF f x y z) ∧ w.grownBy w' (some mb) := by
  refine (move_any p mb n f x y z w h.cell h.ne h.map hn).mono ?_
  rintro e w' ⟨rfl, hg, hm⟩
  refine ⟨rfl, h.grown hg (hm.congr (fun y _ _ => ?_)), hg⟩
  unfold movF
  split <;> rfl

theorem splice_held2 {B : Nat} {w0 w : World} {p mb n : Nat} {f : Int → Int} (h : Held B w0 w p mb n f) (line m lines : Int) (hn : n < maxLen) :
    Calls Tryz.prog 83 #[.pointer (some ⟨p, 0, none⟩), .int .i64 line, .int .i64 m, .int .i64 lines] w fun e w' => e = .returned (.tuple #[]) ∧ Held B w0 w' p mb n (splF f line m lines) ∧ w.grownBy w' (some mb) := by
  refine (splice_any p mb n f line m lines w h.cell h.ne h.map hn).mono ?_
  rintro e w' ⟨rfl, hg, hm⟩
  refine ⟨rfl, h.grown hg (hm.congr (fun y _ _ => ?_)), hg⟩
  unfold splF
  split <;> rfl

end Go.Proofs.YtdhemdeapphfoaaGreatDoor
