/- marks: contracts over one word on the world; the chapter's example 'known'. -/
import Derived.Test.YtccalibapiiifaaMk3
namespace Go.Proofs.Ytccalibapiiifaa
open Go.RowKit Go.Maps

theorem MapOf.new (w : World) (o : Obj) : MapOf ((w.alloc (.map #[] 0)).alloc o) w.heap.size 0 (fun _ => 0) := by
  refine ⟨.map [], ((World.ownsMap_made _ _ _ _).kept (World.grownBy_alloc _ o none) (by simp)), ?_⟩
  intro x h0 h1
  exact ⟨rfl, rfl⟩

theorem MapOf.congr {w : World} {b n : Nat} {f g : Int → Int} (h : MapOf w b n f) (e : ∀ x, 0 ≤ x → x ≤ 255 → f x = g x) : MapOf w b n g := by
  obtain ⟨D, hown, hD⟩ := h
  refine ⟨D, hown, ?_⟩
  intro x h0 h1
  rw [← e x h0 h1]
  exact hD x h0 h1

theorem MapOf.mono {w : World} {b n m : Nat} {f : Int → Int} (h : MapOf w b n f) (e : n ≤ m) : MapOf w b m f := by
  obtain ⟨D, ⟨es, clock, h1, h2, h3, h4⟩, hD⟩ := h
  exact ⟨D, ⟨es, clock, h1, h2, Nat.le_trans h3 e, h4⟩, hD⟩

/-- MARKS AT p, THEIR MAP IN BLOCK mb, BOTH FROM B ON: they read as f; below B nothing has turned since w0. -/
structure Held (B : Nat) (w0 w : World) (p mb n : Nat) (f : Int → Int) : Prop where
  below : Below B w0 w
  hp : B ≤ p
  hm : B ≤ mb
  ne : p ≠ mb
  cell : w.cell? ⟨p, 0, none⟩ = some (.map (some mb))
  map : MapOf w mb n f

theorem Held.plt {B : Nat} {w0 w : World} {p mb n : Nat} {f : Int → Int} (h : Held B w0 w p mb n f) : p < w.heap.size := by
  cases Nat.lt_or_ge p w.heap.size with
  | inl h => exact h
  | inr g => have := h.cell; simp [World.cell?, Array.getElem?_eq_none g] at this

theorem Held.grown {B : Nat} {w0 w w' : World} {p mb n m : Nat} {f g : Int → Int} (h : Held B w0 w p mb n f) (hg : w.grownBy w' (some mb)) (hm : MapOf w' mb m g) : Held B w0 w' p mb m g :=
  ⟨h.below.grown hg (Nat.le_trans h.hp (Nat.le_of_lt h.plt)) (fun k hk => by cases hk; exact h.hm), h.hp, h.hm, h.ne,
    by rw [World.cell?_of_block (w := w) (hg.block _ h.plt (by simpa using h.ne))]; exact h.cell, hm⟩

def setC (x v : Int) : Int := if x < 97 ∨ 122 < x then 100 else if v < 1 ∨ 2147483647 < v then 1 else 0
def setF (f : Int → Int) (x v : Int) : Int → Int := fun y => if setC x v = 0 ∧ y = x then v else f y
def splF (f : Int → Int) (line m lines : Int) : Int → Int := fun x =>
  if line < 1 ∨ m < 0 ∨ lines < 0 ∨ 2147483647 < line ∨ 2147483647 < m ∨ 2147483647 < lines then f x else if f x = 0 then 0 else splG line m lines (f x)

theorem set_held {B : Nat} {w0 w : World} {p mb n : Nat} {f : Int → Int} (h : Held B w0 w p mb n f) (x v c : Int) (h0 : 0 ≤ x) (h1 : x ≤ 255) (hn : n < maxLen) (hc : setC x v = c) :
    Calls Try.prog 16 #[.pointer (some ⟨p, 0, none⟩), .int .u8 x, .int .i64 v] w fun e w' => e = .returned (.int .u16 c) ∧ Held B w0 w' p mb (n + 1) (setF f x v) := by
  refine (set_any p mb n f x v w h.cell h.map h0 h1 hn).mono ?_
  intro e w' hp
  subst hc
  unfold SetPost at hp
  unfold setF setC
  split at hp
  · rename_i c
    obtain ⟨rfl, rfl⟩ := hp
    rw [if_pos c]
    exact ⟨rfl, h.grown ⟨rfl, rfl, rfl, Nat.le_refl _, fun _ _ _ => rfl⟩ ((h.map.mono (Nat.le_succ n)).congr (fun y _ _ => by simp))⟩
  · rename_i c
    rw [if_neg c]
    split at hp
    · rename_i d
      obtain ⟨rfl, rfl⟩ := hp
      rw [if_pos d]
      exact ⟨rfl, h.grown ⟨rfl, rfl, rfl, Nat.le_refl _, fun _ _ _ => rfl⟩ ((h.map.mono (Nat.le_succ n)).congr (fun y _ _ => by simp))⟩
    · rename_i d
      rw [if_neg d]
      obtain ⟨rfl, hm, ht⟩ := hp
      exact ⟨rfl, h.grown ht.grown (hm.congr (fun y _ _ => by simp))⟩

theorem get_held {B : Nat} {w0 w : World} {p mb n : Nat} {f : Int → Int} (h : Held B w0 w p mb n f) (x v c : Int) (h0 : 0 ≤ x) (h1 : x ≤ 255) (hv : f x = v) (hc : (if f x = 0 then 100 else 0) = c) :
    Calls Try.prog 15 #[.pointer (some ⟨p, 0, none⟩), .int .u8 x] w fun e w' => e = .returned (.tuple #[.int .i64 v, .int .u16 c]) ∧ w = w' := by
  refine (get_any p mb n f x w h.cell h.map h0 h1).mono ?_
  rintro e w' ⟨rfl, rfl⟩
  rw [hc, hv]
  exact ⟨rfl, rfl⟩

theorem splice_held {B : Nat} {w0 w : World} {p mb n : Nat} {f : Int → Int} (h : Held B w0 w p mb n f) (line m lines : Int) (hn : n < maxLen) :
    Calls Try.prog 18 #[.pointer (some ⟨p, 0, none⟩), .int .i64 line, .int .i64 m, .int .i64 lines] w fun e w' => e = .returned (.tuple #[]) ∧ Held B w0 w' p mb n (splF f line m lines) := by
  refine (splice_any p mb n f line m lines w h.cell h.ne h.map hn).mono ?_
  rintro e w' ⟨rfl, hg, hm⟩
  refine ⟨rfl, h.grown hg (hm.congr (fun y _ _ => ?_))⟩
  unfold splF
  split <;> rfl

theorem new_held (B : Nat) (w0 w : World) (hb : Below B w0 w) (hB : B ≤ w.heap.size) :
    Calls Try.prog 13 #[] w fun e w' => e = .returned (.pointer (some ⟨w.heap.size + 1, 0, none⟩)) ∧ Held B w0 w' (w.heap.size + 1) w.heap.size 0 (fun _ => 0) := by
  refine (new_any w).mono ?_
  rintro e w' ⟨rfl, rfl⟩
  refine ⟨rfl, (hb.alloc hB _).alloc (by simp; omega) _, by omega, hB, by omega, ?_, MapOf.new w _⟩
  go_simp

theorem kf1 : splF (setF (fun _ => 0) 97 5) 2 1 3 97 = 7 := by decide +kernel
theorem kf2 : (if splF (setF (fun _ => 0) 97 5) 2 1 3 97 = 0 then (100 : Int) else 0) = 0 := by rw [kf1]; decide
theorem kf3 : splF (splF (setF (fun _ => 0) 97 5) 2 1 3) 7 2 0 97 = 0 := by decide +kernel
theorem kf4 : (if splF (splF (setF (fun _ => 0) 97 5) 2 1 3) 7 2 0 97 = 0 then (100 : Int) else 0) = 100 := by rw [kf3]; decide

set_option maxRecDepth 100000 in
set_option maxHeartbeats 400000 in
theorem known_any (w : World) : Calls Try.prog 14 #[] w fun e w' => e = .returned (.bool true) ∧ Below w.heap.size w w' := by
  go_enter Try.func14, Try.ntmps14
  go_wp2_with (first
    | (go_at_call 13; (with_reducible refine (new_held w.heap.size w _ (Below.refl _ _) (Nat.le_refl _)).mono ?_); rintro e w1 ⟨rfl, H1⟩)
    | (go_at_call 16; (with_reducible refine (set_held H1 97 5 0 (by omega) (by omega) (by decide) (by decide)).mono ?_); rintro e w2 ⟨rfl, H2⟩)
    | (go_at_call 18; (with_reducible refine (splice_held H2 2 1 3 (by decide)).mono ?_); rintro e w3 ⟨rfl, H3⟩)
    | (go_at_call 15; (with_reducible refine (get_held H3 97 7 0 (by omega) (by omega) kf1 kf2).mono ?_); rintro e w4 ⟨rfl, rfl⟩; have H4 := H3)
    | (go_at_call 18; (with_reducible refine (splice_held H4 7 2 0 (by decide)).mono ?_); rintro e w5 ⟨rfl, H5⟩)
    | (go_at_call 15; (with_reducible refine (get_held H5 97 0 100 (by omega) (by omega) kf3 kf4).mono ?_); rintro e w6 ⟨rfl, rfl⟩; have H6 := H5)
    | (go_at_call 16; (with_reducible refine (set_held H6 65 1 100 (by omega) (by omega) (by decide) (by decide)).mono ?_); rintro e w7 ⟨rfl, H7⟩)
    | go_in)
  go_ret
  exact ⟨rfl, H7.below⟩

theorem Held.later {B : Nat} {w0 w w' : World} {p mb n : Nat} {f : Int → Int} (h : Held B w0 w p mb n f) (hb : Below w.heap.size w w') : Held B w0 w' p mb n f :=
  h.grown ⟨hb.os, hb.tape, hb.output, hb.size, fun k hk _ => hb.block k hk⟩ (by
    obtain ⟨D, hown, hD⟩ := h.map
    exact ⟨D, hown.kept (row := none) ⟨hb.os, hb.tape, hb.output, hb.size, fun k hk _ => hb.block k hk⟩ (by simp), hD⟩)

end Go.Proofs.Ytccalibapiiifaa
