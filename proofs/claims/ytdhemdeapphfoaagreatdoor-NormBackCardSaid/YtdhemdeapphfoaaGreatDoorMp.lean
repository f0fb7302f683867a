/- marks, for texts that hold them: contracts over one word on the world, and Copy. -/
import Derived.Test.YtdhemdeapphfoaaGreatDoorMkA
import Derived.Test.YtdhemdeapphfoaaGreatDoorBtPa
set_option linter.unusedVariables false
set_option linter.unusedSimpArgs false
namespace Go.Proofs.YtdhemdeapphfoaaGreatDoor
open Go.RowKit Go.Maps Go.Proofs.YtdhemdeapphfoaaGreatDoorW.PrintWords Go.Proofs.YtdhemdeapphfoaaGreatDoorW.PrintLast

theorem MapOf.new (w : World) (o : Obj) : MapOf ((w.alloc (.map #[] 0)).alloc o) w.heap.size 0 (fun _ => 0) := by
  refine ⟨.map [], ((World.ownsMap_made _ _ _ _).kept (World.grownBy_alloc _ o none) (by simp)), ?_⟩
  intro x h0 h1
  exact ⟨rfl, rfl⟩

theorem MapOf.congr {w : World} {b n : Nat} {f g : Int → Int} (h : MapOf w b n f) (e : ∀ x, 0 ≤ x → x ≤ 255 → f x = g x) : MapOf w b n g := by
  obtain ⟨D, hown, hD⟩ := h
  refine ⟨D, hown, ?_⟩
  intro x h0 h1
  rw [← e x h0 h1]
  exact hD x h0 h1

theorem MapOf.mono {w : World} {b n m : Nat} {f : Int → Int} (h : MapOf w b n f) (e : n ≤ m) : MapOf w b m f := by
  obtain ⟨D, ⟨es, clock, h1, h2, h3, h4⟩, hD⟩ := h
  exact ⟨D, ⟨es, clock, h1, h2, Nat.le_trans h3 e, h4⟩, hD⟩

/-- MARKS AT p, THEIR MAP IN BLOCK mb, BOTH FROM B ON: they read as f; below B nothing has turned since w0. -/
structure Held (B : Nat) (w0 w : World) (p mb n : Nat) (f : Int → Int) : Prop where
  below : Below B w0 w
  hp : B ≤ p
  hm : B ≤ mb
  ne : p ≠ mb
  cell : w.cell? ⟨p, 0, none⟩ = some (.map (some mb))
  map : MapOf w mb n f

theorem Held.plt {B : Nat} {w0 w : World} {p mb n : Nat} {f : Int → Int} (h : Held B w0 w p mb n f) : p < w.heap.size := by
  cases Nat.lt_or_ge p w.heap.size with
  | inl h => exact h
  | inr g => have := h.cell; simp [World.cell?, Array.getElem?_eq_none g] at this

theorem Held.grown {B : Nat} {w0 w w' : World} {p mb n m : Nat} {f g : Int → Int} (h : Held B w0 w p mb n f) (hg : w.grownBy w' (some mb)) (hm : MapOf w' mb m g) : Held B w0 w' p mb m g :=
  ⟨h.below.grown hg (Nat.le_trans h.hp (Nat.le_of_lt h.plt)) (fun k hk => by cases hk; exact h.hm), h.hp, h.hm, h.ne,
    by rw [World.cell?_of_block (w := w) (hg.block _ h.plt (by simpa using h.ne))]; exact h.cell, hm⟩

def setC (x v : Int) : Int := if x < 97 ∨ 122 < x then 100 else if v < 1 ∨ 2147483647 < v then 1 else 0
def setF (f : Int → Int) (x v : Int) : Int → Int := fun y => if setC x v = 0 ∧ y = x then v else f y
def splF (f : Int → Int) (line m lines : Int) : Int → Int := fun x =>
  if line < 1 ∨ m < 0 ∨ lines < 0 ∨ 2147483647 < line ∨ 2147483647 < m ∨ 2147483647 < lines then f x else if f x = 0 then 0 else splG line m lines (f x)

theorem set_held {B : Nat} {w0 w : World} {p mb n : Nat} {f : Int → Int} (h : Held B w0 w p mb n f) (x v c : Int) (h0 : 0 ≤ x) (h1 : x ≤ 255) (hn : n < maxLen) (hc : setC x v = c) :
    Calls Tryz.prog 148 #[.pointer (some ⟨p, 0, none⟩), .int .u8 x, .int .i64 v] w fun e w' => e = .returned (.int .u16 c) ∧ Held B w0 w' p mb (n + 1) (setF f x v) := by
  refine (set_any p mb n f x v w h.cell h.map h0 h1 hn).mono ?_
  intro e w' hp
  subst hc
  unfold SetPost at hp
  unfold setF setC
  split at hp
  · rename_i c
    obtain ⟨rfl, rfl⟩ := hp
    rw [if_pos c]
    exact ⟨rfl, h.grown ⟨rfl, rfl, rfl, Nat.le_refl _, fun _ _ _ => rfl⟩ ((h.map.mono (Nat.le_succ n)).congr (fun y _ _ => by simp))⟩
  · rename_i c
    rw [if_neg c]
    split at hp
    · rename_i d
      obtain ⟨rfl, rfl⟩ := hp
      rw [if_pos d]
      exact ⟨rfl, h.grown ⟨rfl, rfl, rfl, Nat.le_refl _, fun _ _ _ => rfl⟩ ((h.map.mono (Nat.le_succ n)).congr (fun y _ _ => by simp))⟩
    · rename_i d
      rw [if_neg d]
      obtain ⟨rfl, hm, ht⟩ := hp
      exact ⟨rfl, h.grown ht.grown (hm.congr (fun y _ _ => by simp))⟩

theorem splice_held {B : Nat} {w0 w : World} {p mb n : Nat} {f : Int → Int} (h : Held B w0 w p mb n f) (line m lines : Int) (hn : n < maxLen) :
    Calls Tryz.prog 83 #[.pointer (some ⟨p, 0, none⟩), .int .i64 line, .int .i64 m, .int .i64 lines] w fun e w' => e = .returned (.tuple #[]) ∧ Held B w0 w' p mb n (splF f line m lines) := by
  refine (splice_any p mb n f line m lines w h.cell h.ne h.map hn).mono ?_
  rintro e w' ⟨rfl, hg, hm⟩
  refine ⟨rfl, h.grown hg (hm.congr (fun y _ _ => ?_))⟩
  unfold splF
  split <;> rfl

theorem new_held (B : Nat) (w0 w : World) (hb : Below B w0 w) (hB : B ≤ w.heap.size) :
    Calls Tryz.prog 19 #[] w fun e w' => e = .returned (.pointer (some ⟨w.heap.size + 1, 0, none⟩)) ∧ Held B w0 w' (w.heap.size + 1) w.heap.size 0 (fun _ => 0) := by
  refine (new_any w).mono ?_
  rintro e w' ⟨rfl, rfl⟩
  refine ⟨rfl, (hb.alloc hB _).alloc (by simp; omega) _, by omega, hB, by omega, ?_, MapOf.new w _⟩
  go_simp

theorem Held.later {B : Nat} {w0 w w' : World} {p mb n : Nat} {f : Int → Int} (h : Held B w0 w p mb n f) (hb : Below w.heap.size w w') : Held B w0 w' p mb n f :=
  h.grown ⟨hb.os, hb.tape, hb.output, hb.size, fun k hk _ => hb.block k hk⟩ (by
    obtain ⟨D, hown, hD⟩ := h.map
    exact ⟨D, hown.kept (row := none) ⟨hb.os, hb.tape, hb.output, hb.size, fun k hk _ => hb.block k hk⟩ (by simp), hD⟩)

/-! ### Copy -/
theorem grown_refl (w : World) (r : Option Nat) : w.grownBy w r := ⟨rfl, rfl, rfl, Nat.le_refl _, fun _ _ _ => rfl⟩

set_option maxRecDepth 100000 in
theorem copy_held {B : Nat} {w0 w : World} {p mb n : Nat} {f : Int → Int} (h : Held B w0 w p mb n f) :
    Calls Tryz.prog 32 #[.pointer (some ⟨p, 0, none⟩)] w fun e w' => ∃ p2 mb2, e = .returned (.pointer (some ⟨p2, 0, none⟩)) ∧ Held B w0 w' p2 mb2 n f ∧ Held B w0 w' p mb n f ∧ Below w.heap.size w w' ∧ w.heap.size ≤ mb2 ∧ w.heap.size ≤ p2 := by
  obtain ⟨D, hown, hD⟩ := h.map
  have HD : Hid (Reads D f) := hD
  have hB : B ≤ w.heap.size := Nat.le_trans h.hp (Nat.le_of_lt h.plt)
  have HC : Hid (Calls Tryz.prog 51 #[.map (some mb)] w fun e w' => e = .returned (.map (some w.heap.size)) ∧ w'.ownsMap Tryz.prog 5 (plainElem Tryz.prog 3) w.heap.size n D ∧ w'.ownsMap Tryz.prog 5 (plainElem Tryz.prog 3) mb n D ∧ Below w.heap.size w w') :=
    Go.Proofs.AnyW.maps_Clone_owns Tryz.cloneMk 5 (plainElem Tryz.prog 3) mb n D w hown
  have hc := h.cell
  clear hD hown
  go_enter Tryz.func32, Tryz.ntmps32
  go_wp2_with (first
    | (go_at_call 51; (with_reducible refine HC.out.mono ?_); rintro e w1 ⟨rfl, ho1, ho2, hb1⟩; have HO1 := Lib.hid ho1; have HB1 := Lib.hid hb1; clear ho1 ho2 hb1)
    | go_in)
  go_ret
  have hlt := HO1.out.lt
  have hb2 : Below w.heap.size w (w1.alloc (.cells #[.map (some w.heap.size)] 93)) := below_alloc HB1.out _
  refine ⟨w1.heap.size, w.heap.size, rfl, ⟨below_then h.below hB hb2, by omega, hB, by omega, ?_, D, ?_, HD.out⟩, h.later hb2, hb2, Nat.le_refl _, by omega⟩
  · exact (blk_cell (heap_alloc_new w1 _) 0).trans rfl
  · exact HO1.out.kept (World.grownBy_alloc w1 _ none) (by simp)

/-- another map turns: this one stays -/
theorem Held.other {B : Nat} {w0 w w' : World} {p mb n mb2 : Nat} {f : Int → Int} (h : Held B w0 w p mb n f) (hg : w.grownBy w' (some mb2)) (hB : B ≤ mb2) (h1 : p ≠ mb2) (h2 : mb ≠ mb2) : Held B w0 w' p mb n f := by
  have hsz : B ≤ w.heap.size := Nat.le_trans h.hp (Nat.le_of_lt h.plt)
  obtain ⟨D, hown, hD⟩ := h.map
  exact ⟨h.below.grown hg hsz (fun k hk => by cases hk; exact hB), h.hp, h.hm, h.ne, by rw [World.cell?_of_block (w := w) (hg.block _ h.plt (by simpa using h1))]; exact h.cell, D, hown.kept hg (by simpa using h2), hD⟩

theorem set_held2 {B : Nat} {w0 w : World} {p mb n : Nat} {f : Int → Int} (h : Held B w0 w p mb n f) (x v : Int) (h0 : 0 ≤ x) (h1 : x ≤ 255) (hn : n < maxLen) :
    Calls Tryz.prog 148 #[.pointer (some ⟨p, 0, none⟩), .int .u8 x, .int .i64 v] w fun e w' => e = .returned (.int .u16 (setC x v)) ∧ Held B w0 w' p mb (n + 1) (setF f x v) ∧ w.grownBy w' (some mb) := by
  refine (set_any p mb n f x v w h.cell h.map h0 h1 hn).mono ?_
  intro e w' hp
  unfold SetPost at hp
  unfold setF setC
  split at hp
  · rename_i c
    obtain ⟨rfl, rfl⟩ := hp
    rw [if_pos c]
    exact ⟨rfl, h.grown (grown_refl _ _) ((h.map.mono (Nat.le_succ n)).congr (fun y _ _ => by simp)), grown_refl _ _⟩
  · rename_i c
    rw [if_neg c]
    split at hp
    · rename_i d
      obtain ⟨rfl, rfl⟩ := hp
      rw [if_pos d]
      exact ⟨rfl, h.grown (grown_refl _ _) ((h.map.mono (Nat.le_succ n)).congr (fun y _ _ => by simp)), grown_refl _ _⟩
    · rename_i d
      rw [if_neg d]
      obtain ⟨rfl, hm, ht⟩ := hp
      exact ⟨rfl, h.grown ht.grown (hm.congr (fun y _ _ => by simp)), ht.grown⟩


end Go.Proofs.YtdhemdeapphfoaaGreatDoor
