/- buf.New, walked. -/
import Derived.Test.YtdhemdeapphfoaaGreatDoorBvD
set_option linter.unusedVariables false
set_option linter.unusedSimpArgs false
namespace Go.Proofs.YtdhemdeapphfoaaGreatDoor
open Go.RowKit Go.Shelf Go.Maps Go.Proofs.YtdhemdeapphfoaaGreatDoorW.PrintWords Go.Proofs.YtdhemdeapphfoaaGreatDoorW.PrintLast

def fullS (xs : List ByteArray) : List ByteArray := if xs = [] then [⟨#[]⟩] else xs
def newS (m : Int) (xs : List ByteArray) : Bs := ⟨xs, 1, fun _ => 0, 0, us0 m, 1, [], xs, 1, fun _ => 0, 0, true⟩
def BNewPost (w : World) (s : Bs) (e : Ending) (w' : World) : Prop := ∃ B, e = .returned (.tuple #[.pointer (some ⟨B, 0, none⟩), .int .u16 0]) ∧ Bf w.heap.size w w' B s

/-- laid together -/
theorem new_bw {w w1 w2 w3 : World} {U T p : Nat} {m : Int} {xs : List ByteArray} (h1 : Ut w1 (fun b => w.heap.size ≤ b) U (us0 m) 1) (b1 : Below w.heap.size w w1) (h2 : TreeIs w2 (fun b => w1.heap.size ≤ b) T xs) (b2 : Below w1.heap.size w1 w2)
    (h3 : Mk w3 (fun b => w2.heap.size ≤ b) p 0 (fun _ => 0)) (b3 : Below w2.heap.size w2 w3) :
    Bf w.heap.size w (w3.alloc (.cells #[.pointer (some ⟨T, 0, none⟩), .slice none 0 0, .pointer none, .int .i64 0, .pointer (some ⟨p, 0, none⟩), .pointer (some ⟨U, 0, none⟩), .slice none 0 0, .int .i64 1] 45)) w3.heap.size
      { newS m xs with sls := [], scur := 0, kept := false } := by
  have b4 : Below w3.heap.size w3 (w3.alloc (.cells #[.pointer (some ⟨T, 0, none⟩), .slice none 0 0, .pointer none, .int .i64 0, .pointer (some ⟨p, 0, none⟩), .pointer (some ⟨U, 0, none⟩), .slice none 0 0, .int .i64 1] 45)) := below_alloc (Below.refl _ w3) _
  have c1 := (loc_ut _ _ _).fresh (col := fun _ => 7) (i := 4) h1
  have c2 := (loc_tree _ _).fresh (col := recol (fun _ => 7) w.heap.size 4) (i := 1) h2
  have c3 := (loc_mk _ _ _).fresh (col := recol (recol (fun _ => 7) w.heap.size 4) w1.heap.size 1) (i := 2) h3
  have d1 := (loc_ut _ _ _).keepNew (i := 0) ((loc_ut _ _ _).keepNew (i := 2) ((loc_ut _ _ _).keepNew (i := 1) c1 b2) b3) b4
  have d2 := (loc_tree _ _).keepNew (i := 0) ((loc_tree _ _).keepNew (i := 2) c2 b3) b4
  have d3 := (loc_mk _ _ _).keepNew (i := 0) c3 b4
  have s1 := b1.size
  have s2 := b2.size
  have s3 := b3.size
  refine ⟨recol (recol (recol (recol (fun _ => 7) w.heap.size 4) w1.heap.size 1) w2.heap.size 2) w3.heap.size 0, T, p, U, .slice none 0 0, .pointer none, .slice none 0 0, [], ?_⟩
  exact {
    box := World.alloc_heap_new w3 _
    cB := recol_new (Nat.le_refl _)
    tree := d2
    mar := d3
    smk := fun h => by cases h
    undo := d1
    opr := ⟨World.ownsRow_nil _ _ _ _, fun b hb => by cases hb⟩
    ope := ⟨rfl, fun k x d hx => by simp at hx⟩
    sls := ⟨none, 0, rfl, Nat.le_refl _, Nat.zero_le _, fun h => absurd h (by simp)⟩
    new := fun b hb => by
      rw [recol_old (by omega), recol_old (by omega), recol_old (by omega), recol_old hb]
    prot := fun b hp => hp.elim
    below := below_then (below_then (below_then b1 s1 b2) (Nat.le_trans s1 s2) b3) (by omega) b4
    le := by rw [World.size_alloc]; omega }

theorem new_mk (w : World) : Calls Tryz.prog 19 #[] w fun e w' => e = .returned (.pointer (some ⟨w.heap.size + 1, 0, none⟩)) ∧ Mk w' (fun b => w.heap.size ≤ b) (w.heap.size + 1) 0 (fun _ => 0) ∧ Below w.heap.size w w' := by
  refine (new_held w.heap.size w w (Below.refl _ _) (Nat.le_refl _)).mono ?_
  rintro e w' ⟨rfl, H⟩
  exact ⟨rfl, ⟨w.heap.size, H.hp, H.hm, H.ne, H.cell, H.map⟩, H.below⟩
theorem chg_below {w w' : World} (h : Chg (fun b => w.heap.size ≤ b) w w') : Below w.heap.size w w' := ⟨h.os, h.tape, h.output, h.size, fun b hb => h.block b hb (by omega)⟩

set_option maxRecDepth 100000 in
set_option maxHeartbeats 1000000 in
theorem bnew_any {w : World} {G : Nat → Prop} {v : Value} {xs : List ByteArray} (hv : Ls w G v xs) {m : Int} (hm1 : 1 ≤ m) (hm2 : m ≤ 200) (hl : xs.length ≤ 2000) (hlg : isLong xs = false) (hx : ∀ x ∈ xs, x.size ≤ 1000000000) :
    Calls Tryz.prog 6 #[v, .int .i64 m] w (BNewPost w (newS m (fullS xs))) := by
  have HU := Lib.hid (undoNew_any w m hm1 hm2)
  have hlong : ∀ W, Below w.heap.size w W → Calls Tryz.prog 17 #[v] W fun e w' => e = .returned (.bool false) ∧ Below W.heap.size W w' := fun W hb => by
    have := long_any (hv.step hb.size fun b hlt _ => hb.block b hlt) (by omega)
    rw [hlg] at this
    exact this
  have HLG := Lib.hid hlong
  have HV := Lib.hid hv
  have HX := Lib.hid hx
  obtain ⟨Av, cv, hvs, _⟩ := id hv
  subst hvs
  clear hv hlong hlg hx hm1 hm2
  have hl' : (xs.length : Int) ≤ 2000 := by omega
  by_cases h0 : xs.length < 1
  · have hxs : xs = [] := List.eq_nil_of_length_eq_zero (by omega)
    subst hxs
    go_enter Tryz.func6, Tryz.ntmps6
    go_wp2_with (first
      | (go_at_call 16; refine HU.out.mono ?_; rintro e wa ⟨U, rfl, _, hu2, hu3⟩; have HU2 := Lib.hid (And.intro hu2 hu3); clear hu2 hu3)
      | (go_at_call 17; refine (HLG.out _ HU2.out.2).mono ?_; rintro e wb ⟨rfl, hb⟩; have HB := Lib.hid hb; clear hb))
    have hL : Ls (wb.alloc (.cells #[.string ⟨#[]⟩] 9)) (fun _ => True) (.slice (some ⟨wb.heap.size, 0, none⟩) 1 1) [⟨#[]⟩] := by
      refine ⟨_, 1, rfl, Nat.le_refl _, by decide, fun _ => ⟨wb.heap.size, 0, rfl, trivial, by simp, fun j x hj => ?_⟩⟩
      match j, hj with
      | 0, hj =>
        cases hj
        rw [blk_cell (World.alloc_heap_new wb _)]
        rfl
    have HU2 := Lib.hid (And.intro ((loc_ut _ _ _).step HU2.out.1 (below_alloc HB.out (.cells #[.string ⟨#[]⟩] 9)).size fun b hb _ => (below_alloc HB.out _).block b hb) (below_then HU2.out.2 HU2.out.2.size (below_alloc HB.out (.cells #[.string ⟨#[]⟩] 9))))
    have ht := New_any hL (by simp) (by intro x hx; simp at hx; subst hx; decide)
    have HT := Lib.hid ht
    clear ht
    go_at_call 18
    refine HT.out.mono ?_
    rintro e w2 ⟨T, rfl, _, ht2, hc2⟩
    have H2 := Lib.hid (And.intro ht2 (chg_below hc2))
    clear ht2 hc2
    go_wp2_with fail
    go_at_call 19
    refine (new_mk w2).mono ?_
    rintro e w3 ⟨rfl, hm1, hm2⟩
    have hbw := new_bw (xs := [⟨#[]⟩]) HU2.out.1 HU2.out.2 H2.out.1 H2.out.2 hm1 hm2
    have hk := keep_any hbw (by simp [newS]; try omega)
    have HK := Lib.hid hk
    clear hk hbw hm1 hm2
    go_wp2_with fail
    go_at_call 20
    refine HK.out.mono ?_
    rintro e w4 ⟨rfl, hb4⟩
    have H4 := Lib.hid hb4
    clear hb4
    go_wp2
    go_ret2
    refine ⟨_, rfl, ?_⟩
    rw [show fullS [] = [⟨#[]⟩] from rfl]
    exact H4.out
  · have hne : ¬ xs.length < 1 := h0
    go_enter Tryz.func6, Tryz.ntmps6
    go_wp2_with (first
      | (go_at_call 16; refine HU.out.mono ?_; rintro e wa ⟨U, rfl, _, hu2, hu3⟩; have HU2 := Lib.hid (And.intro hu2 hu3); clear hu2 hu3)
      | (go_at_call 17; refine (HLG.out _ HU2.out.2).mono ?_; rintro e wb ⟨rfl, hb⟩; have HB := Lib.hid hb; clear hb))
    have hL := (HV.out.step (below_then HU2.out.2 HU2.out.2.size HB.out).size fun b hb _ => (below_then HU2.out.2 HU2.out.2.size HB.out).block b hb).wide (H := fun _ => True) (fun _ _ _ => trivial)
    have HU2 := Lib.hid (And.intro ((loc_ut _ _ _).step HU2.out.1 HB.out.size fun b hb _ => HB.out.block b hb) (below_then HU2.out.2 HU2.out.2.size HB.out))
    have ht := New_any hL (by omega) HX.out
    have HT := Lib.hid ht
    clear ht
    go_at_call 18
    refine HT.out.mono ?_
    rintro e w2 ⟨T, rfl, _, ht2, hc2⟩
    have H2 := Lib.hid (And.intro ht2 (chg_below hc2))
    clear ht2 hc2
    go_wp2_with fail
    go_at_call 19
    refine (new_mk w2).mono ?_
    rintro e w3 ⟨rfl, hm1, hm2⟩
    have hbw := new_bw (xs := xs) HU2.out.1 HU2.out.2 H2.out.1 H2.out.2 hm1 hm2
    have hk := keep_any hbw (by simp [newS]; try omega)
    have HK := Lib.hid hk
    clear hk hbw hm1 hm2
    go_wp2_with fail
    go_at_call 20
    refine HK.out.mono ?_
    rintro e w4 ⟨rfl, hb4⟩
    have H4 := Lib.hid hb4
    clear hb4
    go_wp2
    go_ret2
    refine ⟨_, rfl, ?_⟩
    rw [show fullS xs = xs from if_neg (fun e => hne (by rw [e]; decide))]
    exact H4.out
end Go.Proofs.YtdhemdeapphfoaaGreatDoor
