-- Printed for this claim by gprint.py, a program of mine over the kit's printer; Lean checks it.
import Derived.Test.YtdkdoomjihflbaaDoorNmP
import Derived.Test.YtdkdoomjihflbaaDoorNL0
import Derived.Test.YtdkdoomjihflbaaDoorNL2
namespace Go.Proofs.YtdkdoomjihflbaaDoor.NL
open Go.RowKit Go.Proofs.YtdkdoomjihflbaaDoorW.PrintWords Go.Proofs.YtdkdoomjihflbaaDoorW.PrintLast Go.Proofs.YtdkdoomjihflbaaDoorW.PrintMore
attribute [local go_sem] max2_int min2_int max_two min_two max_three min_three max_four min_four   -- for this text's walks alone
attribute [local go_sem] Go.Proofs.YtdkdoomjihflbaaDoor.wrap_mod
set_option linter.unusedVariables false
set_option linter.unusedSimpArgs false

/-! ### emendatorref19_key: function 17 -/
mutual
def emendatorref19_key.l0 : Nat → ByteArray → Int → Int → Int → ByteArray → ByteArray → Option (Int × ByteArray × ByteArray × Int × Bool)
  | 0, _, _, _, _, _, _ => none
  | k + 1, x0, x1, x8, x125000, x125001, x125002 => if x1 < (x0.size : Int) then (if 0 ≤ x1 then ((emendatorref01_Is.f 100 (bt x0 x1)).bind fun t125 => (if t125 = true then (if x8 > 0 then (emendatorref19_key.j1 k x0 x1 x8 true x125000 x125001 x125002) else (emendatorref19_key.j1 k x0 x1 x8 ((bt x0 x1) != 48) x125000 x125001 x125002)) else (emendatorref19_key.j1 k x0 x1 x8 false x125000 x125001 x125002))) else (none)) else (emendatorref19_key.j1 k x0 x1 x8 false x125000 x125001 x125002)
def emendatorref19_key.j1 : Nat → ByteArray → Int → Int → Bool → Int → ByteArray → ByteArray → Option (Int × ByteArray × ByteArray × Int × Bool)
  | 0, _, _, _, _, _, _, _ => none
  | k + 1, x0, x1, x8, x31, x125000, x125001, x125002 => if x31 = true then (if x8 < 5 then (if 0 ≤ x1 then (if x1 < (x0.size : Int) then (emendatorref19_key.l0 k x0 (wrap64 (x1 + 1)) (wrap64 (x8 + 1)) (wrap64 ((wrap64 (10 * x125000)) + (((bt x0 x1) - 48) % 256))) x125001 x125002) else (none)) else (none)) else (emendatorref19_key.l0 k x0 (wrap64 (x1 + 1)) (wrap64 (x8 + 1)) x125000 x125001 x125002)) else (if x8 > 4 then (emendatorref19_key.j2 k x0 x1 true x125000 x125001 x125002) else (emendatorref19_key.j2 k x0 x1 (decide (x1 ≥ (x0.size : Int))) x125000 x125001 x125002))
def emendatorref19_key.j2 : Nat → ByteArray → Int → Bool → Int → ByteArray → ByteArray → Option (Int × ByteArray × ByteArray × Int × Bool)
  | 0, _, _, _, _, _, _ => none
  | k + 1, x0, x1, x55, x125000, x125001, x125002 => if x55 = true then (some (x125000, x125001, x125002, x1, false)) else (if 0 ≤ x1 then (if x1 < (x0.size : Int) then (if x1 ≤ (wrap64 (x1 + 1)) then (if (wrap64 (x1 + 1)) ≤ (x0.size : Int) then ((emendatorref19_in.f k (⟨#[106, 107, 71, 112, 80, 74, 120, 126, 68]⟩ : ByteArray) (bt x0 x1)).bind fun t126 => (if t126 = true then (some (x125000, x0.extract (x1 : Int).toNat ((wrap64 (x1 + 1)) : Int).toNat, x125002, wrap64 (x1 + 1), true)) else ((emendatorref19_in.f k (⟨#[103, 100, 121, 62, 60]⟩ : ByteArray) (bt x0 x1)).bind fun t127 => (if t127 = true then (if (wrap64 (x1 + 1)) ≥ (x0.size : Int) then (some (x125000, x0.extract (x1 : Int).toNat ((wrap64 (x1 + 1)) : Int).toNat, x125002, wrap64 (x1 + 1), false)) else (if 0 ≤ (wrap64 (x1 + 1)) then (if (wrap64 (x1 + 1)) < (x0.size : Int) then (if (bt x0 (wrap64 (x1 + 1))) = (bt x0 x1) then (if (x0.extract (x1 : Int).toNat ((wrap64 (x1 + 1)) : Int).toNat).size + (x0.extract (x1 : Int).toNat ((wrap64 (x1 + 1)) : Int).toNat).size ≤ 9223372036854775807 then (some (x125000, (x0.extract (x1 : Int).toNat ((wrap64 (x1 + 1)) : Int).toNat) ++ (x0.extract (x1 : Int).toNat ((wrap64 (x1 + 1)) : Int).toNat), x125002, wrap64 ((wrap64 (x1 + 1)) + 1), true)) else (none)) else (some (x125000, x0.extract (x1 : Int).toNat ((wrap64 (x1 + 1)) : Int).toNat, x125002, wrap64 (x1 + 1), false))) else (none)) else (none))) else (if (bt x0 x1) = 34 then (emendatorref19_key.j3 k x0 (wrap64 (x1 + 1)) (bt x0 x1) true x125000 (x0.extract (x1 : Int).toNat ((wrap64 (x1 + 1)) : Int).toNat) x125002) else (emendatorref19_key.j3 k x0 (wrap64 (x1 + 1)) (bt x0 x1) ((bt x0 x1) == 64) x125000 (x0.extract (x1 : Int).toNat ((wrap64 (x1 + 1)) : Int).toNat) x125002)))))) else (none)) else (none)) else (none)) else (none))
def emendatorref19_key.j3 : Nat → ByteArray → Int → Int → Bool → Int → ByteArray → ByteArray → Option (Int × ByteArray × ByteArray × Int × Bool)
  | 0, _, _, _, _, _, _, _ => none
  | k + 1, x0, x1, x9, x102, x125000, x125001, x125002 => if x102 = true then (if x1 ≥ (x0.size : Int) then (some (x125000, x125001, x125002, x1, false)) else (if 0 ≤ x1 then (if x1 ≤ (wrap64 (x1 + 1)) then (if (wrap64 (x1 + 1)) ≤ (x0.size : Int) then (some (x125000, x125001, x0.extract (x1 : Int).toNat ((wrap64 (x1 + 1)) : Int).toNat, wrap64 (x1 + 1), true)) else (none)) else (none)) else (none))) else ((emendatorref19_in.f k (⟨#[65, 73, 111, 79]⟩ : ByteArray) x9).bind fun t128 => (if t128 = true then (emendatorref19_key.l1 k x0 x1 x1 x125000 x125001 x125002) else (some (x125000, x125001, x125002, x1, false))))
def emendatorref19_key.l1 : Nat → ByteArray → Int → Int → Int → ByteArray → ByteArray → Option (Int × ByteArray × ByteArray × Int × Bool)
  | 0, _, _, _, _, _, _ => none
  | k + 1, x0, x1, x10, x125000, x125001, x125002 => if x1 < (x0.size : Int) then (if 0 ≤ x1 then (if (bt x0 x1) = 27 then (if 0 ≤ x10 then (if x10 ≤ x1 then (if x1 ≤ (x0.size : Int) then (some (x125000, x125001, x0.extract (x10 : Int).toNat (x1 : Int).toNat, mn (wrap64 (x1 + 1)) (x0.size : Int), true)) else (none)) else (none)) else (none)) else (emendatorref19_key.l1 k x0 (wrap64 (x1 + 1)) x10 x125000 x125001 x125002)) else (none)) else (if 0 ≤ x10 then (if x10 ≤ x1 then (if x1 ≤ (x0.size : Int) then (some (x125000, x125001, x0.extract (x10 : Int).toNat (x1 : Int).toNat, mn (wrap64 (x1 + 1)) (x0.size : Int), true)) else (none)) else (none)) else (none))
end
def emendatorref19_key.f (k : Nat) (a0 : ByteArray) (a1 : Int) : Option (Int × ByteArray × ByteArray × Int × Bool) := emendatorref19_key.l0 k a0 a1 0 0 (⟨#[]⟩ : ByteArray) (⟨#[]⟩ : ByteArray)
theorem emendatorref19_key.mono_l : ∀ k, (∀ y0 y1 y2 y3 y4 y5, LeO (emendatorref19_key.l0 k y0 y1 y2 y3 y4 y5) (emendatorref19_key.l0 (k + 1) y0 y1 y2 y3 y4 y5)) ∧ (∀ y0 y1 y2 y3 y4 y5 y6, LeO (emendatorref19_key.j1 k y0 y1 y2 y3 y4 y5 y6) (emendatorref19_key.j1 (k + 1) y0 y1 y2 y3 y4 y5 y6)) ∧ (∀ y0 y1 y2 y3 y4 y5, LeO (emendatorref19_key.j2 k y0 y1 y2 y3 y4 y5) (emendatorref19_key.j2 (k + 1) y0 y1 y2 y3 y4 y5)) ∧ (∀ y0 y1 y2 y3 y4 y5 y6, LeO (emendatorref19_key.j3 k y0 y1 y2 y3 y4 y5 y6) (emendatorref19_key.j3 (k + 1) y0 y1 y2 y3 y4 y5 y6)) ∧ (∀ y0 y1 y2 y3 y4 y5, LeO (emendatorref19_key.l1 k y0 y1 y2 y3 y4 y5) (emendatorref19_key.l1 (k + 1) y0 y1 y2 y3 y4 y5))
  | 0 => ⟨fun _ _ _ _ _ _ r h => by simp [emendatorref19_key.l0] at h, fun _ _ _ _ _ _ _ r h => by simp [emendatorref19_key.j1] at h, fun _ _ _ _ _ _ r h => by simp [emendatorref19_key.j2] at h, fun _ _ _ _ _ _ _ r h => by simp [emendatorref19_key.j3] at h, fun _ _ _ _ _ _ r h => by simp [emendatorref19_key.l1] at h⟩
  | k + 1 => by
    obtain ⟨ih0, ih1, ih2, ih3, ih4⟩ := emendatorref19_key.mono_l k
    refine ⟨?_, ?_, ?_, ?_, ?_⟩
    · intro y0 y1 y2 y3 y4 y5
      unfold emendatorref19_key.l0
      repeat' first
      | (with_reducible exact ih0 _ _ _ _ _ _)
      | (with_reducible exact ih1 _ _ _ _ _ _ _)
      | (with_reducible exact ih2 _ _ _ _ _ _)
      | (with_reducible exact ih3 _ _ _ _ _ _ _)
      | (with_reducible exact ih4 _ _ _ _ _ _)
      | (with_reducible exact emendatorref19_in.mono _ _ _)
      | (with_reducible exact LeO.refl _)
      | (with_reducible exact LeO.none _)
      | (with_reducible refine LeO.ite ?_ ?_)
      | (with_reducible refine LeO.bind ?_ (fun _ => ?_))
      | exact ih0 _ _ _ _ _ _
      | exact ih1 _ _ _ _ _ _ _
      | exact ih2 _ _ _ _ _ _
      | exact ih3 _ _ _ _ _ _ _
      | exact ih4 _ _ _ _ _ _
      | exact emendatorref19_in.mono _ _ _
      | exact LeO.none _
      | refine LeO.ite ?_ ?_
      | refine LeO.bind ?_ (fun _ => ?_)
    · intro y0 y1 y2 y3 y4 y5 y6
      unfold emendatorref19_key.j1
      repeat' first
      | (with_reducible exact ih0 _ _ _ _ _ _)
      | (with_reducible exact ih1 _ _ _ _ _ _ _)
      | (with_reducible exact ih2 _ _ _ _ _ _)
      | (with_reducible exact ih3 _ _ _ _ _ _ _)
      | (with_reducible exact ih4 _ _ _ _ _ _)
      | (with_reducible exact emendatorref19_in.mono _ _ _)
      | (with_reducible exact LeO.refl _)
      | (with_reducible exact LeO.none _)
      | (with_reducible refine LeO.ite ?_ ?_)
      | (with_reducible refine LeO.bind ?_ (fun _ => ?_))
      | exact ih0 _ _ _ _ _ _
      | exact ih1 _ _ _ _ _ _ _
      | exact ih2 _ _ _ _ _ _
      | exact ih3 _ _ _ _ _ _ _
      | exact ih4 _ _ _ _ _ _
      | exact emendatorref19_in.mono _ _ _
      | exact LeO.none _
      | refine LeO.ite ?_ ?_
      | refine LeO.bind ?_ (fun _ => ?_)
    · intro y0 y1 y2 y3 y4 y5
      unfold emendatorref19_key.j2
      repeat' first
      | (with_reducible exact ih0 _ _ _ _ _ _)
      | (with_reducible exact ih1 _ _ _ _ _ _ _)
      | (with_reducible exact ih2 _ _ _ _ _ _)
      | (with_reducible exact ih3 _ _ _ _ _ _ _)
      | (with_reducible exact ih4 _ _ _ _ _ _)
      | (with_reducible exact emendatorref19_in.mono _ _ _)
      | (with_reducible exact LeO.refl _)
      | (with_reducible exact LeO.none _)
      | (with_reducible refine LeO.ite ?_ ?_)
      | (with_reducible refine LeO.bind ?_ (fun _ => ?_))
      | exact ih0 _ _ _ _ _ _
      | exact ih1 _ _ _ _ _ _ _
      | exact ih2 _ _ _ _ _ _
      | exact ih3 _ _ _ _ _ _ _
      | exact ih4 _ _ _ _ _ _
      | exact emendatorref19_in.mono _ _ _
      | exact LeO.none _
      | refine LeO.ite ?_ ?_
      | refine LeO.bind ?_ (fun _ => ?_)
    · intro y0 y1 y2 y3 y4 y5 y6
      unfold emendatorref19_key.j3
      repeat' first
      | (with_reducible exact ih0 _ _ _ _ _ _)
      | (with_reducible exact ih1 _ _ _ _ _ _ _)
      | (with_reducible exact ih2 _ _ _ _ _ _)
      | (with_reducible exact ih3 _ _ _ _ _ _ _)
      | (with_reducible exact ih4 _ _ _ _ _ _)
      | (with_reducible exact emendatorref19_in.mono _ _ _)
      | (with_reducible exact LeO.refl _)
      | (with_reducible exact LeO.none _)
      | (with_reducible refine LeO.ite ?_ ?_)
      | (with_reducible refine LeO.bind ?_ (fun _ => ?_))
      | exact ih0 _ _ _ _ _ _
      | exact ih1 _ _ _ _ _ _ _
      | exact ih2 _ _ _ _ _ _
      | exact ih3 _ _ _ _ _ _ _
      | exact ih4 _ _ _ _ _ _
      | exact emendatorref19_in.mono _ _ _
      | exact LeO.none _
      | refine LeO.ite ?_ ?_
      | refine LeO.bind ?_ (fun _ => ?_)
    · intro y0 y1 y2 y3 y4 y5
      unfold emendatorref19_key.l1
      repeat' first
      | (with_reducible exact ih0 _ _ _ _ _ _)
      | (with_reducible exact ih1 _ _ _ _ _ _ _)
      | (with_reducible exact ih2 _ _ _ _ _ _)
      | (with_reducible exact ih3 _ _ _ _ _ _ _)
      | (with_reducible exact ih4 _ _ _ _ _ _)
      | (with_reducible exact emendatorref19_in.mono _ _ _)
      | (with_reducible exact LeO.refl _)
      | (with_reducible exact LeO.none _)
      | (with_reducible refine LeO.ite ?_ ?_)
      | (with_reducible refine LeO.bind ?_ (fun _ => ?_))
      | exact ih0 _ _ _ _ _ _
      | exact ih1 _ _ _ _ _ _ _
      | exact ih2 _ _ _ _ _ _
      | exact ih3 _ _ _ _ _ _ _
      | exact ih4 _ _ _ _ _ _
      | exact emendatorref19_in.mono _ _ _
      | exact LeO.none _
      | refine LeO.ite ?_ ?_
      | refine LeO.bind ?_ (fun _ => ?_)
theorem emendatorref19_key.mono : ∀ a0 a1 k, LeO (emendatorref19_key.f k a0 a1) (emendatorref19_key.f (k + 1) a0 a1) := by
  intro a0 a1 k
  obtain ⟨ih0, ih1, ih2, ih3, ih4⟩ := emendatorref19_key.mono_l k
  unfold emendatorref19_key.f
  repeat' first
      | (with_reducible exact ih0 _ _ _ _ _ _)
      | (with_reducible exact ih1 _ _ _ _ _ _ _)
      | (with_reducible exact ih2 _ _ _ _ _ _)
      | (with_reducible exact ih3 _ _ _ _ _ _ _)
      | (with_reducible exact ih4 _ _ _ _ _ _)
      | (with_reducible exact emendatorref19_in.mono _ _ _)
      | (with_reducible exact LeO.refl _)
      | (with_reducible exact LeO.none _)
      | (with_reducible refine LeO.ite ?_ ?_)
      | (with_reducible refine LeO.bind ?_ (fun _ => ?_))
      | exact ih0 _ _ _ _ _ _
      | exact ih1 _ _ _ _ _ _ _
      | exact ih2 _ _ _ _ _ _
      | exact ih3 _ _ _ _ _ _ _
      | exact ih4 _ _ _ _ _ _
      | exact emendatorref19_in.mono _ _ _
      | exact LeO.none _
      | refine LeO.ite ?_ ?_
      | refine LeO.bind ?_ (fun _ => ?_)
def emendatorref19_key.T5 : Bool × List (List Nat × List Nat) := (true, [([], []), ([0], [0]), ([1], [1]), ([], []), ([], []), ([3, 4], [3, 4]), ([5], [5]), ([6], [6]), ([2, 7], [2, 7]), ([0, 1, 2, 3, 4, 5, 6, 7, 8], []), ([9, 8, 0, 1, 2, 3, 4, 5, 6, 7, 8], [8, 9])])
def emendatorref19_key.B5 : List Nat := [0, 1, 3, 0, 0, 24, 56, 120, 255, 511, 1023]
theorem emendatorref19_key.tab5 : rtab .any (opsOf Tryd.f17 5) = emendatorref19_key.T5 := by kernel_rfl
theorem emendatorref19_key.bits5 : waitsOk emendatorref19_key.T5.2 emendatorref19_key.B5 = true := by kernel_rfl
set_option maxHeartbeats 8000000 in
set_option maxRecDepth 100000 in
theorem emendatorref19_key.calls (k : Nat) (a0 : ByteArray) (a1 : Int) (r1 : Int) (r2 : ByteArray) (r3 : ByteArray) (r4 : Int) (r5 : Bool) (w : World) (h : emendatorref19_key.f k a0 a1 = some (r1, r2, r3, r4, r5)) :
    Calls Tryd.prog 17 #[.string a0, .int .i64 a1] w fun e w' => e = .returned (.tuple #[.agg #[.int .i64 r1, .string r2, .string r3], .int .i64 r4, .bool r5]) ∧ Below w.heap.size w w' := by
  have hu38 := Tryd.underlying38
  have HB := Aside0.mk (Below.refl w.heap.size w)
  have H : (emendatorref19_key.l0 k a0 a1 0 0 (⟨#[]⟩ : ByteArray) (⟨#[]⟩ : ByteArray)) = some (r1, r2, r3, r4, r5) := h
  clear h
  have H' := Aside0.mk H
  clear H
  go_enter Tryd.func17, Tryd.ntmps17
  go_wp2_with (first | ((with_reducible refine gate_dst (N := 4) rfl ?_); (try (refine gate_guard (by rfl) ?_; dsimp only)); refine box_event ?hg (N := 4) ?hd (cs := #[.int .i64 0, .string (⟨#[]⟩ : ByteArray), .string (⟨#[]⟩ : ByteArray)]) (t := 38) ?hr ?_; (case hd => rfl); (case hg => rfl); (case hr => first | (go_simp; done) | (go_simp; rfl)); intro gb123 hg w3 hbox hb; have n0_ := Aside0.mk (below_step (by repeat (first | (with_reducible first | exact HB.out | apply below_alloc | apply pw_below_drewN | apply below_drew1) | exact HB.out)) hb); have n1_ := Aside0.mk (hbox); have n2_ := Aside0.mk ((by rw [hg]; exact (below_size (by repeat (first | (with_reducible first | exact HB.out | apply below_alloc | apply pw_below_drewN | apply below_drew1) | exact HB.out))) : w.heap.size ≤ gb123)); have n3_ := Aside0.mk ((by rw [hg]; exact (below_size (by repeat (first | (with_reducible first | exact HB.out | apply below_alloc | apply pw_below_drewN | apply below_drew1) | exact HB.out))) : w.heap.size ≤ gb123)); clear HB; have HB := n0_; have BK123 := n1_; have GW123 := n2_; have GE123 := n3_; clear n0_ n1_ n2_ n3_; clear hb hbox hg) | ((with_reducible refine gate_dst (N := 7) rfl ?_); (try (refine gate_guard (by rfl) ?_; dsimp only)); refine box_event ?hg (N := 7) ?hd (cs := #[.int .i64 0, .string (⟨#[]⟩ : ByteArray), .string (⟨#[]⟩ : ByteArray)]) (t := 38) ?hr ?_; (case hd => rfl); (case hg => rfl); (case hr => first | (go_simp; done) | (go_simp; rfl)); intro gb124 hg w4 hbox hb; have n0_ := Aside0.mk (blk_below (g := gb123) (o := .cells #[.int .i64 0, .string (⟨#[]⟩ : ByteArray), .string (⟨#[]⟩ : ByteArray)] 38 (0, 0)) (by (with_reducible repeat (first | refine blk_drewN ?_ _ | refine blk_drew ?_ | refine blk_alloc ?_ _)); exact BK123.out) hb); have n1_ := Aside0.mk (below_step (by repeat (first | (with_reducible first | exact HB.out | apply below_alloc | apply pw_below_drewN | apply below_drew1 | refine below_set ?_ GE123.out) | exact HB.out)) hb); have n2_ := Aside0.mk (hbox); have n3_ := Aside0.mk ((by rw [hg]; exact (below_size (by repeat (first | (with_reducible first | exact HB.out | apply below_alloc | apply pw_below_drewN | apply below_drew1 | refine below_set ?_ GE123.out) | exact HB.out))) : w.heap.size ≤ gb124)); have n4_ := Aside0.mk ((by rw [hg]; exact (below_size (by repeat (first | (with_reducible first | exact HB.out | apply below_alloc | apply pw_below_drewN | apply below_drew1 | refine below_set ?_ GE123.out) | exact HB.out))) : w.heap.size ≤ gb124)); have n5_ := Aside0.mk ((by rw [hg]; exact Nat.ne_of_lt (blk_lt (g := gb123) (o := .cells #[.int .i64 0, .string (⟨#[]⟩ : ByteArray), .string (⟨#[]⟩ : ByteArray)] 38 (0, 0)) (by (with_reducible repeat (first | refine blk_drewN ?_ _ | refine blk_drew ?_ | refine blk_alloc ?_ _)); exact BK123.out)) : gb123 ≠ gb124)); have n6_ := Aside0.mk ((by rw [hg]; exact Nat.ne_of_gt (blk_lt (g := gb123) (o := .cells #[.int .i64 0, .string (⟨#[]⟩ : ByteArray), .string (⟨#[]⟩ : ByteArray)] 38 (0, 0)) (by (with_reducible repeat (first | refine blk_drewN ?_ _ | refine blk_drew ?_ | refine blk_alloc ?_ _)); exact BK123.out)) : gb124 ≠ gb123)); clear BK123; clear HB; have BK123 := n0_; have HB := n1_; have BK124 := n2_; have GW124 := n3_; have GE124 := n4_; have NB123_124 := n5_; have NB124_123 := n6_; clear n0_ n1_ n2_ n3_ n4_ n5_ n6_; clear hb hbox hg; have hnb5 := NB124_123.out; have hnc5 := NB123_124.out; have hcz6_0 : w4.cell? ⟨gb124, 0, none⟩ = some (.int .i64 0) := (blk_cell BK124.out 0).trans (by first | rfl | (simp only [*]; first | done | rfl)); have hcz6_1 : w4.cell? ⟨gb124, 1, none⟩ = some (.string (⟨#[]⟩ : ByteArray)) := (blk_cell BK124.out 1).trans (by first | rfl | (simp only [*]; first | done | rfl)); have hcz6_2 : w4.cell? ⟨gb124, 2, none⟩ = some (.string (⟨#[]⟩ : ByteArray)) := (blk_cell BK124.out 2).trans (by first | rfl | (simp only [*]; first | done | rfl)); have hfz6_0 := blk_frozen BK124.out 0; have hfz6_1 := blk_frozen BK124.out 1; have hfz6_2 := blk_frozen BK124.out 2))
  go_loopg [1, 8] k (fun kq v1 v8 w' => ∃ (x1_1 : Int) (x8_1 : Int) (x125000_1 : Int), v1 = .int .i64 x1_1 ∧ v8 = .int .i64 x8_1 ∧ Aside0 (emendatorref19_key.l0 kq a0 x1_1 x8_1 x125000_1 (⟨#[]⟩ : ByteArray) (⟨#[]⟩ : ByteArray) = some (r1, r2, r3, r4, r5)) ∧ Aside0 (kq ≤ k) ∧ Aside0 (w'.heap[gb123]? = some (.cells #[.int .i64 0, .string (⟨#[]⟩ : ByteArray), .string (⟨#[]⟩ : ByteArray)] 38 (0, 0))) ∧ Aside0 (w'.heap[gb124]? = some (.cells #[.int .i64 x125000_1, .string (⟨#[]⟩ : ByteArray), .string (⟨#[]⟩ : ByteArray)] 38 (0, 0))) ∧ Aside0 (Below w.heap.size w w'))
  case atStart => exact ⟨(a1), (0), (0), (by first | rfl | (simp; done) | (simp [*]; done)), (by first | rfl | (simp; done) | (simp [*]; done)), H', ⟨Nat.le_refl _⟩, ⟨by (with_reducible repeat (first | refine blk_drewN ?_ _ | refine blk_drew ?_ | refine blk_alloc ?_ _)); refine blk_far ?_ NB123_124.out _; (with_reducible repeat (first | refine blk_drewN ?_ _ | refine blk_drew ?_ | refine blk_alloc ?_ _)); refine blk_far ?_ NB123_124.out _; (with_reducible repeat (first | refine blk_drewN ?_ _ | refine blk_drew ?_ | refine blk_alloc ?_ _)); refine blk_far ?_ NB123_124.out _; (with_reducible repeat (first | refine blk_drewN ?_ _ | refine blk_drew ?_ | refine blk_alloc ?_ _)); exact BK123.out⟩, ⟨by (with_reducible repeat (first | refine blk_drewN ?_ _ | refine blk_drew ?_ | refine blk_alloc ?_ _)); refine blk_put (cs := #[.int .i64 0, .string (⟨#[]⟩ : ByteArray), .string (⟨#[]⟩ : ByteArray)]) ?_ 2 _ rfl; (with_reducible repeat (first | refine blk_drewN ?_ _ | refine blk_drew ?_ | refine blk_alloc ?_ _)); refine blk_put (cs := #[.int .i64 0, .string (⟨#[]⟩ : ByteArray), .string (⟨#[]⟩ : ByteArray)]) ?_ 1 _ rfl; (with_reducible repeat (first | refine blk_drewN ?_ _ | refine blk_drew ?_ | refine blk_alloc ?_ _)); refine blk_put (cs := #[.int .i64 0, .string (⟨#[]⟩ : ByteArray), .string (⟨#[]⟩ : ByteArray)]) ?_ 0 _ rfl; (with_reducible repeat (first | refine blk_drewN ?_ _ | refine blk_drew ?_ | refine blk_alloc ?_ _)); exact BK124.out⟩, ⟨by repeat (first | (with_reducible first | exact HB.out | apply below_alloc | apply pw_below_drewN | apply below_drew1 | refine below_set ?_ GE123.out | refine below_set ?_ GE124.out) | exact HB.out)⟩⟩
  case round =>
    clear H'
    try clear c1
    try clear p2
    try clear c5
    try clear hcz6_0
    try clear hcz6_1
    try clear hcz6_2
    try clear hfz6_0
    try clear hfz6_1
    try clear hfz6_2
    obtain ⟨x1_1, x8_1, x125000_1, rfl, rfl, HA, HK1, BK123, BK124, HB⟩ := hrel
    cases gk with
    | zero => exact absurd HA.out (by simp [emendatorref19_key.l0])
    | succ k1 =>
      have H := HA.out
      clear HA
      simp only [emendatorref19_key.l0] at H
      have HC7 := Aside0.mk H
      clear H
      go_upto_region 3 with (fail)
      go_cut [31] (fun v31 wc => ∃ (kq : Nat) (x31_6 : Bool), v31 = .bool x31_6 ∧ Aside0 (emendatorref19_key.j1 kq a0 x1_1 x8_1 x31_6 x125000_1 (⟨#[]⟩ : ByteArray) (⟨#[]⟩ : ByteArray) = some (r1, r2, r3, r4, r5)) ∧ Aside0 (kq ≤ k1) ∧ Aside0 (wc.heap[gb123]? = some (.cells #[.int .i64 0, .string (⟨#[]⟩ : ByteArray), .string (⟨#[]⟩ : ByteArray)] 38 (0, 0))) ∧ Aside0 (wc.heap[gb124]? = some (.cells #[.int .i64 x125000_1, .string (⟨#[]⟩ : ByteArray), .string (⟨#[]⟩ : ByteArray)] 38 (0, 0))) ∧ Aside0 (Below w.heap.size w wc))
      case first =>
        have H := HC7.out
        clear HC7
        by_cases c8 : x1_1 < (a0.size : Int)
        · rw [if_pos c8] at H
          have c8b0 : decide (x1_1 < (a0.size : Int)) = true := decide_eq_true c8
          clear c8
          (first | rw [c8b0] | (simp only [i64_w, i32_w]; rw [c8b0]) | skip)
          by_cases c9 : 0 ≤ x1_1
          · rw [if_pos c9] at H
            have c9b0 : decide (0 ≤ x1_1) = true := decide_eq_true c9
            clear c9
            replace H := Option.bind_eq_some_iff.mp H
            obtain ⟨t125, A110, H⟩ := H
            replace H : (if t125 = true then (if x8_1 > 0 then (emendatorref19_key.j1 k1 a0 x1_1 x8_1 true x125000_1 (⟨#[]⟩ : ByteArray) (⟨#[]⟩ : ByteArray)) else (emendatorref19_key.j1 k1 a0 x1_1 x8_1 ((bt a0 x1_1) != 48) x125000_1 (⟨#[]⟩ : ByteArray) (⟨#[]⟩ : ByteArray))) else (emendatorref19_key.j1 k1 a0 x1_1 x8_1 false x125000_1 (⟨#[]⟩ : ByteArray) (⟨#[]⟩ : ByteArray))) = some (r1, r2, r3, r4, r5) := H
            have A11 := Aside0.mk A110
            clear A110
            by_cases c12 : t125 = true
            · subst c12
              have H1 : (if x8_1 > 0 then (emendatorref19_key.j1 k1 a0 x1_1 x8_1 true x125000_1 (⟨#[]⟩ : ByteArray) (⟨#[]⟩ : ByteArray)) else (emendatorref19_key.j1 k1 a0 x1_1 x8_1 ((bt a0 x1_1) != 48) x125000_1 (⟨#[]⟩ : ByteArray) (⟨#[]⟩ : ByteArray))) = some (r1, r2, r3, r4, r5) := by rw [if_pos rfl] at H; exact H
              clear H
              have H := H1
              clear H1
              by_cases c13 : x8_1 > 0
              · rw [if_pos c13] at H
                have c13b0 : decide (0 < x8_1) = true := decide_eq_true c13
                clear c13
                have H' := Aside0.mk H
                clear H
                have p10 : 0 ≤ (x1_1 : Int) := of_decide_eq_true (by first | (with_reducible assumption) | assumption)
                have q10 : x1_1 < (a0.size : Int) := of_decide_eq_true (by first | (with_reducible assumption) | assumption)
                have hx10 := bt_at a0 x1_1
                replace p10 := eq_true p10
                replace q10 := eq_true q10
                go_wp2_with (first | (go_at_call 28; (with_reducible refine (emendatorref01_Is.calls 100 (bt a0 x1_1) true _ A11.out).mono ?_); rintro e w' ⟨rfl, ⟨nd, rfl⟩⟩))
                go_meet
                case rel => exact ⟨_, (true), (by first | rfl | (simp; done) | (simp [*]; done)), H', ⟨by have := HK1.out; first | omega | exact Nat.le_refl _⟩, ⟨by (with_reducible repeat (first | refine blk_drewN ?_ _ | refine blk_drew ?_ | refine blk_alloc ?_ _)); exact BK123.out⟩, ⟨by (with_reducible repeat (first | refine blk_drewN ?_ _ | refine blk_drew ?_ | refine blk_alloc ?_ _)); exact BK124.out⟩, ⟨by repeat (first | (with_reducible first | exact HB.out | apply below_alloc | apply pw_below_drewN | apply below_drew1 | refine below_set ?_ GE123.out | refine below_set ?_ GE124.out) | exact HB.out)⟩⟩
              · rw [if_neg c13] at H
                have c13b0 : decide (0 < x8_1) = false := decide_eq_false c13
                clear c13
                have H' := Aside0.mk H
                clear H
                have p10 : 0 ≤ (x1_1 : Int) := of_decide_eq_true (by first | (with_reducible assumption) | assumption)
                have q10 : x1_1 < (a0.size : Int) := of_decide_eq_true (by first | (with_reducible assumption) | assumption)
                have hx10 := bt_at a0 x1_1
                replace p10 := eq_true p10
                replace q10 := eq_true q10
                go_wp2_with (first | (go_at_call 28; (with_reducible refine (emendatorref01_Is.calls 100 (bt a0 x1_1) true _ A11.out).mono ?_); rintro e w' ⟨rfl, ⟨nd, rfl⟩⟩; have p14 : 0 ≤ (x1_1 : Int) := of_decide_eq_true (by first | (with_reducible assumption) | assumption); have q14 : x1_1 < (a0.size : Int) := of_decide_eq_true (by first | (with_reducible assumption) | assumption); have hx14 := bt_at a0 x1_1; replace p14 := eq_true p14; replace q14 := eq_true q14))
                go_meet
                case rel => exact ⟨_, (((bt a0 x1_1) != 48)), (by first | rfl | (simp; done) | (simp [*]; done)), H', ⟨by have := HK1.out; first | omega | exact Nat.le_refl _⟩, ⟨by (with_reducible repeat (first | refine blk_drewN ?_ _ | refine blk_drew ?_ | refine blk_alloc ?_ _)); exact BK123.out⟩, ⟨by (with_reducible repeat (first | refine blk_drewN ?_ _ | refine blk_drew ?_ | refine blk_alloc ?_ _)); exact BK124.out⟩, ⟨by repeat (first | (with_reducible first | exact HB.out | apply below_alloc | apply pw_below_drewN | apply below_drew1 | refine below_set ?_ GE123.out | refine below_set ?_ GE124.out) | exact HB.out)⟩⟩
            · replace c12 := Bool.eq_false_iff.mpr c12
              subst c12
              have H1 : (emendatorref19_key.j1 k1 a0 x1_1 x8_1 false x125000_1 (⟨#[]⟩ : ByteArray) (⟨#[]⟩ : ByteArray)) = some (r1, r2, r3, r4, r5) := by rw [if_neg (show ¬ (false = true) by decide)] at H; exact H
              clear H
              have H := H1
              clear H1
              have H' := Aside0.mk H
              clear H
              have p10 : 0 ≤ (x1_1 : Int) := of_decide_eq_true (by first | (with_reducible assumption) | assumption)
              have q10 : x1_1 < (a0.size : Int) := of_decide_eq_true (by first | (with_reducible assumption) | assumption)
              have hx10 := bt_at a0 x1_1
              replace p10 := eq_true p10
              replace q10 := eq_true q10
              go_wp2_with (first | (go_at_call 28; (with_reducible refine (emendatorref01_Is.calls 100 (bt a0 x1_1) false _ A11.out).mono ?_); rintro e w' ⟨rfl, ⟨nd, rfl⟩⟩))
              go_meet
              case rel => exact ⟨_, (false), (by first | rfl | (simp; done) | (simp [*]; done)), H', ⟨by have := HK1.out; first | omega | exact Nat.le_refl _⟩, ⟨by (with_reducible repeat (first | refine blk_drewN ?_ _ | refine blk_drew ?_ | refine blk_alloc ?_ _)); exact BK123.out⟩, ⟨by (with_reducible repeat (first | refine blk_drewN ?_ _ | refine blk_drew ?_ | refine blk_alloc ?_ _)); exact BK124.out⟩, ⟨by repeat (first | (with_reducible first | exact HB.out | apply below_alloc | apply pw_below_drewN | apply below_drew1 | refine below_set ?_ GE123.out | refine below_set ?_ GE124.out) | exact HB.out)⟩⟩
          · rw [if_neg c9] at H
            exact absurd H (by simp)
        · rw [if_neg c8] at H
          have c8b0 : decide (x1_1 < (a0.size : Int)) = false := decide_eq_false c8
          clear c8
          (first | rw [c8b0] | (simp only [i64_w, i32_w]; rw [c8b0]) | skip)
          have H' := Aside0.mk H
          clear H
          go_wp2
          go_meet
          case rel => exact ⟨_, (false), (by first | rfl | (simp; done) | (simp [*]; done)), H', ⟨by have := HK1.out; first | omega | exact Nat.le_refl _⟩, ⟨by (with_reducible repeat (first | refine blk_drewN ?_ _ | refine blk_drew ?_ | refine blk_alloc ?_ _)); exact BK123.out⟩, ⟨by (with_reducible repeat (first | refine blk_drewN ?_ _ | refine blk_drew ?_ | refine blk_alloc ?_ _)); exact BK124.out⟩, ⟨by repeat (first | (with_reducible first | exact HB.out | apply below_alloc | apply pw_below_drewN | apply below_drew1 | refine below_set ?_ GE123.out | refine below_set ?_ GE124.out) | exact HB.out)⟩⟩
      case rest =>
        clear HC7
        try clear c1
        try clear p1
        try clear q1
        try clear hx1
        try clear p2
        try clear c5
        try clear c8
        try clear c8b0
        try clear c9
        try clear c9b0
        try clear p10
        try clear q10
        try clear hx10
        try clear c12
        try clear c13
        try clear c13b0
        try clear p14
        try clear q14
        try clear hx14
        try clear hcz6_0
        try clear hcz6_1
        try clear hcz6_2
        try clear hfz6_0
        try clear hfz6_1
        try clear hfz6_2
        try clear p10
        try clear p14
        try clear p2
        try clear q10
        try clear q14
        obtain ⟨kq, x31_6, rfl, HA, HJ6, BK123, BK124, HB⟩ := hcut
        cases kq with
        | zero => exact absurd HA.out (by simp [emendatorref19_key.j1])
        | succ kj6 =>
          have H := HA.out
          clear HA
          simp only [emendatorref19_key.j1] at H
          by_cases c15 : x31_6 = true
          · subst c15
            have H1 : (if x8_1 < 5 then (if 0 ≤ x1_1 then (if x1_1 < (a0.size : Int) then (emendatorref19_key.l0 kj6 a0 (wrap64 (x1_1 + 1)) (wrap64 (x8_1 + 1)) (wrap64 ((wrap64 (10 * x125000_1)) + (((bt a0 x1_1) - 48) % 256))) (⟨#[]⟩ : ByteArray) (⟨#[]⟩ : ByteArray)) else (none)) else (none)) else (emendatorref19_key.l0 kj6 a0 (wrap64 (x1_1 + 1)) (wrap64 (x8_1 + 1)) x125000_1 (⟨#[]⟩ : ByteArray) (⟨#[]⟩ : ByteArray))) = some (r1, r2, r3, r4, r5) := by rw [if_pos rfl] at H; exact H
            clear H
            have H := H1
            clear H1
            by_cases c16 : x8_1 < 5
            · rw [if_pos c16] at H
              have c16b0 : decide (x8_1 < 5) = true := decide_eq_true c16
              clear c16
              by_cases c17 : 0 ≤ x1_1
              · rw [if_pos c17] at H
                have c17b0 : decide (0 ≤ x1_1) = true := decide_eq_true c17
                clear c17
                by_cases c18 : x1_1 < (a0.size : Int)
                · rw [if_pos c18] at H
                  have c18b0 : decide (x1_1 < (a0.size : Int)) = true := decide_eq_true c18
                  clear c18
                  have H' := Aside0.mk H
                  clear H
                  try go_wp2
                  have n0_ := Aside0.mk (blk_drew BK123.out)
                  have n1_ := Aside0.mk (blk_drew BK124.out)
                  have n2_ := Aside0.mk (below_drew1 HB.out)
                  clear BK123
                  clear BK124
                  clear HB
                  have BK123 := n0_
                  have BK124 := n1_
                  have HB := n2_
                  clear n0_ n1_ n2_
                  have p19 : 0 ≤ (x1_1 : Int) := of_decide_eq_true (by first | (with_reducible assumption) | assumption)
                  have q19 : x1_1 < (a0.size : Int) := of_decide_eq_true (by first | (with_reducible assumption) | assumption)
                  have hx19 := bt_at a0 x1_1
                  replace p19 := eq_true p19
                  replace q19 := eq_true q19
                  refine start_ (n := 11) (S := fun w' => w'.cell? ⟨gb124, 0, none⟩ = some (.int .i64 x125000_1) ∧ w'.cell? ⟨gb124, 1, none⟩ = some (.string (⟨#[]⟩ : ByteArray)) ∧ w'.cell? ⟨gb124, 2, none⟩ = some (.string (⟨#[]⟩ : ByteArray))) (ds := [10]) #[false, false, false, false, false, false, false, false, false, false, false] (by kernel_rfl) rfl rfl ⟨(blk_cell BK124.out 0).trans (by first | rfl | (simp only [*]; first | done | rfl)), (blk_cell BK124.out 1).trans (by first | rfl | (simp only [*]; first | done | rfl)), (blk_cell BK124.out 2).trans (by first | rfl | (simp only [*]; first | done | rfl))⟩ (fun hHeld => ?_); refine with_tabW emendatorref19_key.tab5 emendatorref19_key.bits5 (fun HT_ HW_ => ?_)
                  generalize wc.drew = w20 at BK123 BK124 HB hHeld ⊢
                  refine pure_ (i := 0) (N := some 34) (v := ?_) (a' := ?_) #[true, false, false, false, false, false, false, false, false, false, false] rfl rfl (any_of HT_.out (by kernel_rfl)) (fun _ _ _ h => h) (Or.inl ⟨by rfl, ?_⟩) ?_ ?_
                  rotate_left
                  · intro w'
                    go_simp
                    with_reducible rfl
                  rotate_left
                  · simp only [Act.put, List.setIfInBounds_toArray, List.set_cons_zero, List.set_cons_succ, i64_w, i32_w]
                    rfl
                  refine pure_ (i := 3) (N := some 37) (v := ?_) (a' := ?_) #[true, false, false, true, false, false, false, false, false, false, false] rfl rfl (any_of HT_.out (by kernel_rfl)) (fun _ _ _ h => h) (Or.inl ⟨by rfl, ?_⟩) ?_ ?_
                  rotate_left
                  · intro w'
                    go_simp
                    with_reducible rfl
                  rotate_left
                  · simp only [Act.put, List.setIfInBounds_toArray, List.set_cons_zero, List.set_cons_succ, i64_w, i32_w]
                    rfl
                  refine pure_ (i := 4) (N := some 38) (v := ?_) (a' := ?_) #[true, false, false, true, true, false, false, false, false, false, false] rfl rfl (any_of HT_.out (by kernel_rfl)) (fun _ _ _ h => h) (Or.inl ⟨by rfl, ?_⟩) ?_ ?_
                  rotate_left
                  · intro w'
                    go_simp
                    with_reducible rfl
                  rotate_left
                  · simp only [Act.put, List.setIfInBounds_toArray, List.set_cons_zero, List.set_cons_succ, i64_w, i32_w]
                    rfl
                  refine take_ (i := 1) (N := some 35) (v := ?_) (a' := ?_) #[true, true, false, true, true, false, false, false, false, false, false] rfl rfl (take_ofW HT_.out HW_.out (by kernel_rfl)) (fun _ _ _ h => h) (Or.inl ⟨by rfl, ?_⟩) hHeld ?_ ?_
                  rotate_left
                  · rintro w' ⟨s0, s1, s2⟩
                    go_simp
                    with_reducible rfl
                  rotate_left
                  · simp only [Act.put, List.setIfInBounds_toArray, List.set_cons_zero, List.set_cons_succ, i64_w, i32_w]
                    rfl
                  refine pure_ (i := 2) (N := some 36) (v := ?_) (a' := ?_) #[true, true, true, true, true, false, false, false, false, false, false] rfl rfl (any_of HT_.out (by kernel_rfl)) (fun _ _ _ h => h) (Or.inl ⟨by rfl, ?_⟩) ?_ ?_
                  rotate_left
                  · intro w'
                    go_simp
                    with_reducible rfl
                  rotate_left
                  · simp only [Act.put, List.setIfInBounds_toArray, List.set_cons_zero, List.set_cons_succ, i64_w, i32_w]
                    rfl
                  refine take_ (i := 5) (N := some 39) (v := ?_) (a' := ?_) #[true, true, true, true, true, true, false, false, false, false, false] rfl rfl (take_ofW HT_.out HW_.out (by kernel_rfl)) (fun _ _ _ h => h) (Or.inl ⟨by rfl, ?_⟩) hHeld ?_ ?_
                  rotate_left
                  · rintro w' ⟨s0, s1, s2⟩
                    go_simp
                    with_reducible rfl
                  rotate_left
                  · simp only [Act.put, List.setIfInBounds_toArray, List.set_cons_zero, List.set_cons_succ, i64_w, i32_w]
                    rfl
                  refine pure_ (i := 6) (N := some 40) (v := ?_) (a' := ?_) #[true, true, true, true, true, true, true, false, false, false, false] rfl rfl (any_of HT_.out (by kernel_rfl)) (fun _ _ _ h => h) (Or.inl ⟨by rfl, ?_⟩) ?_ ?_
                  rotate_left
                  · intro w'
                    go_simp
                    with_reducible rfl
                  rotate_left
                  · simp only [Act.put, List.setIfInBounds_toArray, List.set_cons_zero, List.set_cons_succ, i64_w, i32_w]
                    rfl
                  refine pure_ (i := 7) (N := some 41) (v := ?_) (a' := ?_) #[true, true, true, true, true, true, true, true, false, false, false] rfl rfl (any_of HT_.out (by kernel_rfl)) (fun _ _ _ h => h) (Or.inl ⟨by rfl, ?_⟩) ?_ ?_
                  rotate_left
                  · intro w'
                    go_simp
                    with_reducible rfl
                  rotate_left
                  · simp only [Act.put, List.setIfInBounds_toArray, List.set_cons_zero, List.set_cons_succ, i64_w, i32_w]
                    rfl
                  refine pure_ (i := 8) (N := some 42) (v := ?_) (a' := ?_) #[true, true, true, true, true, true, true, true, true, false, false] rfl rfl (any_of HT_.out (by kernel_rfl)) (fun _ _ _ h => h) (Or.inl ⟨by rfl, ?_⟩) ?_ ?_
                  rotate_left
                  · intro w'
                    go_simp
                    with_reducible rfl
                  rotate_left
                  · simp only [Act.put, List.setIfInBounds_toArray, List.set_cons_zero, List.set_cons_succ, i64_w, i32_w]
                    rfl
                  refine pure_ (i := 9) (N := some 43) (v := ?_) (a' := ?_) #[true, true, true, true, true, true, true, true, true, true, false] rfl rfl (any_of HT_.out (by kernel_rfl)) (fun _ _ _ h => h) (Or.inl ⟨by rfl, ?_⟩) ?_ ?_
                  rotate_left
                  · intro w'
                    go_simp
                    with_reducible rfl
                  rotate_left
                  · simp only [Act.put, List.setIfInBounds_toArray, List.set_cons_zero, List.set_cons_succ, i64_w, i32_w]
                    rfl
                  refine last_ (i := 10) (N := none) #[true, true, true, true, true, true, true, true, true, true, true] rfl rfl (one_of HT_.out (by kernel_rfl)) (by decide) (fun K hK => ?_)
                  have hs21 : w20.cell? ⟨gb124, 0, none⟩ = some (.int .i64 x125000_1) := (blk_cell BK124.out 0).trans (by first | rfl | (simp only [*]; first | done | rfl))
                  have hfs21 := blk_frozen BK124.out 0
                  have hns21_0 := NB123_124.out
                  have hms21_0 := NB124_123.out
                  refine skip_ (w1 := ?_) (by rfl) rfl ?_ ?_
                  rotate_left
                  · go_simp
                    rfl
                  refine hK.out _ _ ?_
                  clear hK K
                  refine done_ (done_of HT_.out (by kernel_rfl)) ?_
                  try go_wp2
                  go_roundg kj6
                  case measure => have := HK1.out; have := HJ6.out; omega
                  case rel => exact ⟨(wrap64 (x1_1 + 1)), (wrap64 (x8_1 + 1)), (wrap64 ((wrap64 (10 * x125000_1)) + (((bt a0 x1_1) - 48) % 256))), (by first | rfl | (simp; done) | (simp [*]; done)), (by first | rfl | (simp; done) | (simp [*]; done)), H', ⟨by have := HK1.out; have := HJ6.out; omega⟩, ⟨by (with_reducible repeat (first | refine blk_drewN ?_ _ | refine blk_drew ?_ | refine blk_alloc ?_ _)); refine blk_far ?_ NB123_124.out _; (with_reducible repeat (first | refine blk_drewN ?_ _ | refine blk_drew ?_ | refine blk_alloc ?_ _)); exact BK123.out⟩, ⟨by (with_reducible repeat (first | refine blk_drewN ?_ _ | refine blk_drew ?_ | refine blk_alloc ?_ _)); refine blk_put (cs := #[.int .i64 x125000_1, .string (⟨#[]⟩ : ByteArray), .string (⟨#[]⟩ : ByteArray)]) ?_ 0 _ rfl; (with_reducible repeat (first | refine blk_drewN ?_ _ | refine blk_drew ?_ | refine blk_alloc ?_ _)); exact BK124.out⟩, ⟨by repeat (first | (with_reducible first | exact HB.out | apply below_alloc | apply pw_below_drewN | apply below_drew1 | refine below_set ?_ GE123.out | refine below_set ?_ GE124.out) | exact HB.out)⟩⟩
                · rw [if_neg c18] at H
                  exact absurd H (by simp)
              · rw [if_neg c17] at H
                exact absurd H (by simp)
            · rw [if_neg c16] at H
              have c16b0 : decide (x8_1 < 5) = false := decide_eq_false c16
              clear c16
              have H' := Aside0.mk H
              clear H
              go_wp2
              go_roundg kj6
              case measure => have := HK1.out; have := HJ6.out; omega
              case rel => exact ⟨(wrap64 (x1_1 + 1)), (wrap64 (x8_1 + 1)), (x125000_1), (by first | rfl | (simp; done) | (simp [*]; done)), (by first | rfl | (simp; done) | (simp [*]; done)), H', ⟨by have := HK1.out; have := HJ6.out; omega⟩, ⟨by (with_reducible repeat (first | refine blk_drewN ?_ _ | refine blk_drew ?_ | refine blk_alloc ?_ _)); exact BK123.out⟩, ⟨by (with_reducible repeat (first | refine blk_drewN ?_ _ | refine blk_drew ?_ | refine blk_alloc ?_ _)); exact BK124.out⟩, ⟨by repeat (first | (with_reducible first | exact HB.out | apply below_alloc | apply pw_below_drewN | apply below_drew1 | refine below_set ?_ GE123.out | refine below_set ?_ GE124.out) | exact HB.out)⟩⟩
          · replace c15 := Bool.eq_false_iff.mpr c15
            subst c15
            have H1 : (if x8_1 > 4 then (emendatorref19_key.j2 kj6 a0 x1_1 true x125000_1 (⟨#[]⟩ : ByteArray) (⟨#[]⟩ : ByteArray)) else (emendatorref19_key.j2 kj6 a0 x1_1 (decide (x1_1 ≥ (a0.size : Int))) x125000_1 (⟨#[]⟩ : ByteArray) (⟨#[]⟩ : ByteArray))) = some (r1, r2, r3, r4, r5) := by rw [if_neg (show ¬ (false = true) by decide)] at H; exact H
            clear H
            have H := H1
            clear H1
            have HC22 := Aside0.mk H
            clear H
            go_upto_region 8 with (fail)
            go_cut [55] (fun v55 wc => ∃ (kq : Nat) (x55_21 : Bool), v55 = .bool x55_21 ∧ Aside0 (emendatorref19_key.j2 kq a0 x1_1 x55_21 x125000_1 (⟨#[]⟩ : ByteArray) (⟨#[]⟩ : ByteArray) = some (r1, r2, r3, r4, r5)) ∧ Aside0 (kq ≤ kj6) ∧ Aside0 (wc.heap[gb123]? = some (.cells #[.int .i64 0, .string (⟨#[]⟩ : ByteArray), .string (⟨#[]⟩ : ByteArray)] 38 (0, 0))) ∧ Aside0 (wc.heap[gb124]? = some (.cells #[.int .i64 x125000_1, .string (⟨#[]⟩ : ByteArray), .string (⟨#[]⟩ : ByteArray)] 38 (0, 0))) ∧ Aside0 (Below w.heap.size w wc))
            case first =>
              have H := HC22.out
              clear HC22
              by_cases c23 : x8_1 > 4
              · rw [if_pos c23] at H
                have c23b0 : decide (4 < x8_1) = true := decide_eq_true c23
                clear c23
                (first | rw [c23b0] | (simp only [i64_w, i32_w]; rw [c23b0]) | skip)
                have H' := Aside0.mk H
                clear H
                go_wp2
                go_meet
                case rel => exact ⟨_, (true), (by first | rfl | (simp; done) | (simp [*]; done)), H', ⟨by have := HK1.out; have := HJ6.out; first | omega | exact Nat.le_refl _⟩, ⟨by (with_reducible repeat (first | refine blk_drewN ?_ _ | refine blk_drew ?_ | refine blk_alloc ?_ _)); exact BK123.out⟩, ⟨by (with_reducible repeat (first | refine blk_drewN ?_ _ | refine blk_drew ?_ | refine blk_alloc ?_ _)); exact BK124.out⟩, ⟨by repeat (first | (with_reducible first | exact HB.out | apply below_alloc | apply pw_below_drewN | apply below_drew1 | refine below_set ?_ GE123.out | refine below_set ?_ GE124.out) | exact HB.out)⟩⟩
              · rw [if_neg c23] at H
                have c23b0 : decide (4 < x8_1) = false := decide_eq_false c23
                clear c23
                (first | rw [c23b0] | (simp only [i64_w, i32_w]; rw [c23b0]) | skip)
                have H' := Aside0.mk H
                clear H
                go_wp2
                go_meet
                case rel => exact ⟨_, (decide (x1_1 ≥ (a0.size : Int))), (by first | rfl | (simp; done) | (simp [*]; done)), H', ⟨by have := HK1.out; have := HJ6.out; first | omega | exact Nat.le_refl _⟩, ⟨by (with_reducible repeat (first | refine blk_drewN ?_ _ | refine blk_drew ?_ | refine blk_alloc ?_ _)); exact BK123.out⟩, ⟨by (with_reducible repeat (first | refine blk_drewN ?_ _ | refine blk_drew ?_ | refine blk_alloc ?_ _)); exact BK124.out⟩, ⟨by repeat (first | (with_reducible first | exact HB.out | apply below_alloc | apply pw_below_drewN | apply below_drew1 | refine below_set ?_ GE123.out | refine below_set ?_ GE124.out) | exact HB.out)⟩⟩
            case rest =>
              clear HC22
              try clear c1
              try clear p1
              try clear q1
              try clear hx1
              try clear c2
              try clear p2
              try clear c5
              try clear p6
              try clear c8
              try clear c8b0
              try clear c9
              try clear c9b0
              try clear p10
              try clear q10
              try clear hx10
              try clear c12
              try clear c13
              try clear c13b0
              try clear p14
              try clear q14
              try clear hx14
              try clear c15
              try clear c16
              try clear c16b0
              try clear c17
              try clear c17b0
              try clear c18
              try clear c18b0
              try clear p19
              try clear q19
              try clear hx19
              try clear c23
              try clear c23b0
              try clear hcz6_0
              try clear hcz6_1
              try clear hcz6_2
              try clear hfz6_0
              try clear hfz6_1
              try clear hfz6_2
              try clear p1
              try clear p10
              try clear p14
              try clear p19
              try clear p2
              try clear q1
              try clear q10
              try clear q14
              try clear q19
              obtain ⟨kq, x55_21, rfl, HA, HJ21, BK123, BK124, HB⟩ := hcut
              cases kq with
              | zero => exact absurd HA.out (by simp [emendatorref19_key.j2])
              | succ kj21 =>
                have H := HA.out
                clear HA
                simp only [emendatorref19_key.j2] at H
                by_cases c24 : x55_21 = true
                · subst c24
                  have H1 : (some (x125000_1, (⟨#[]⟩ : ByteArray), (⟨#[]⟩ : ByteArray), x1_1, false)) = some (r1, r2, r3, r4, r5) := by rw [if_pos rfl] at H; exact H
                  clear H
                  have H := H1
                  clear H1
                  simp only [Option.some.injEq, Prod.mk.injEq] at H
                  obtain ⟨rfl, rfl, rfl, rfl, rfl⟩ := H
                  have hnb25 := NB124_123.out
                  have hnc25 := NB123_124.out
                  have hcz26_0 : wc.cell? ⟨gb124, 0, none⟩ = some (.int .i64 x125000_1) := (blk_cell BK124.out 0).trans (by first | rfl | (simp only [*]; first | done | rfl))
                  have hcz26_1 : wc.cell? ⟨gb124, 1, none⟩ = some (.string (⟨#[]⟩ : ByteArray)) := (blk_cell BK124.out 1).trans (by first | rfl | (simp only [*]; first | done | rfl))
                  have hcz26_2 : wc.cell? ⟨gb124, 2, none⟩ = some (.string (⟨#[]⟩ : ByteArray)) := (blk_cell BK124.out 2).trans (by first | rfl | (simp only [*]; first | done | rfl))
                  have hfz26_0 := blk_frozen BK124.out 0
                  have hfz26_1 := blk_frozen BK124.out 1
                  have hfz26_2 := blk_frozen BK124.out 2
                  have hcz27_0 : wc.cell? ⟨gb123, 0, none⟩ = some (.int .i64 0) := (blk_cell BK123.out 0).trans (by first | rfl | (simp only [*]; first | done | rfl))
                  have hcz27_1 : wc.cell? ⟨gb123, 1, none⟩ = some (.string (⟨#[]⟩ : ByteArray)) := (blk_cell BK123.out 1).trans (by first | rfl | (simp only [*]; first | done | rfl))
                  have hcz27_2 : wc.cell? ⟨gb123, 2, none⟩ = some (.string (⟨#[]⟩ : ByteArray)) := (blk_cell BK123.out 2).trans (by first | rfl | (simp only [*]; first | done | rfl))
                  have hfz27_0 := blk_frozen BK123.out 0
                  have hfz27_1 := blk_frozen BK123.out 1
                  have hfz27_2 := blk_frozen BK123.out 2
                  go_wp2
                  refine bodyPost_ret (results_ctt rfl _ _ gb123 38 #[.int .i64 x125000_1, .string (⟨#[]⟩ : ByteArray), .string (⟨#[]⟩ : ByteArray)] (0, 0) _ rfl (by (with_reducible repeat (first | refine blk_drewN ?_ _ | refine blk_drew ?_ | refine blk_alloc ?_ _)); refine blk_put (cs := #[.int .i64 x125000_1, .string (⟨#[]⟩ : ByteArray), .string (⟨#[]⟩ : ByteArray)]) ?_ 2 _ rfl; (with_reducible repeat (first | refine blk_drewN ?_ _ | refine blk_drew ?_ | refine blk_alloc ?_ _)); refine blk_put (cs := #[.int .i64 x125000_1, .string (⟨#[]⟩ : ByteArray), .string (⟨#[]⟩ : ByteArray)]) ?_ 1 _ rfl; (with_reducible repeat (first | refine blk_drewN ?_ _ | refine blk_drew ?_ | refine blk_alloc ?_ _)); refine blk_put (cs := #[.int .i64 0, .string (⟨#[]⟩ : ByteArray), .string (⟨#[]⟩ : ByteArray)]) ?_ 0 _ rfl; (with_reducible repeat (first | refine blk_drewN ?_ _ | refine blk_drew ?_ | refine blk_alloc ?_ _)); exact BK123.out) Tryd.underlying38 rfl (by kernel_rfl)) rfl ?_
                  exact ⟨by first | rfl | (simp [errW_none, errW_some] <;> rfl) | (simp [*, errW_none, errW_some] <;> rfl), by repeat (first | (with_reducible first | exact HB.out | apply below_alloc | apply pw_below_drewN | apply below_drew1 | refine below_set ?_ GE123.out | refine below_set ?_ GE124.out) | exact HB.out)⟩
                · replace c24 := Bool.eq_false_iff.mpr c24
                  subst c24
                  have H1 : (if 0 ≤ x1_1 then (if x1_1 < (a0.size : Int) then (if x1_1 ≤ (wrap64 (x1_1 + 1)) then (if (wrap64 (x1_1 + 1)) ≤ (a0.size : Int) then ((emendatorref19_in.f kj21 (⟨#[106, 107, 71, 112, 80, 74, 120, 126, 68]⟩ : ByteArray) (bt a0 x1_1)).bind fun t126 => (if t126 = true then (some (x125000_1, a0.extract (x1_1 : Int).toNat ((wrap64 (x1_1 + 1)) : Int).toNat, (⟨#[]⟩ : ByteArray), wrap64 (x1_1 + 1), true)) else ((emendatorref19_in.f kj21 (⟨#[103, 100, 121, 62, 60]⟩ : ByteArray) (bt a0 x1_1)).bind fun t127 => (if t127 = true then (if (wrap64 (x1_1 + 1)) ≥ (a0.size : Int) then (some (x125000_1, a0.extract (x1_1 : Int).toNat ((wrap64 (x1_1 + 1)) : Int).toNat, (⟨#[]⟩ : ByteArray), wrap64 (x1_1 + 1), false)) else (if 0 ≤ (wrap64 (x1_1 + 1)) then (if (wrap64 (x1_1 + 1)) < (a0.size : Int) then (if (bt a0 (wrap64 (x1_1 + 1))) = (bt a0 x1_1) then (if (a0.extract (x1_1 : Int).toNat ((wrap64 (x1_1 + 1)) : Int).toNat).size + (a0.extract (x1_1 : Int).toNat ((wrap64 (x1_1 + 1)) : Int).toNat).size ≤ 9223372036854775807 then (some (x125000_1, (a0.extract (x1_1 : Int).toNat ((wrap64 (x1_1 + 1)) : Int).toNat) ++ (a0.extract (x1_1 : Int).toNat ((wrap64 (x1_1 + 1)) : Int).toNat), (⟨#[]⟩ : ByteArray), wrap64 ((wrap64 (x1_1 + 1)) + 1), true)) else (none)) else (some (x125000_1, a0.extract (x1_1 : Int).toNat ((wrap64 (x1_1 + 1)) : Int).toNat, (⟨#[]⟩ : ByteArray), wrap64 (x1_1 + 1), false))) else (none)) else (none))) else (if (bt a0 x1_1) = 34 then (emendatorref19_key.j3 kj21 a0 (wrap64 (x1_1 + 1)) (bt a0 x1_1) true x125000_1 (a0.extract (x1_1 : Int).toNat ((wrap64 (x1_1 + 1)) : Int).toNat) (⟨#[]⟩ : ByteArray)) else (emendatorref19_key.j3 kj21 a0 (wrap64 (x1_1 + 1)) (bt a0 x1_1) ((bt a0 x1_1) == 64) x125000_1 (a0.extract (x1_1 : Int).toNat ((wrap64 (x1_1 + 1)) : Int).toNat) (⟨#[]⟩ : ByteArray))))))) else (none)) else (none)) else (none)) else (none)) = some (r1, r2, r3, r4, r5) := by rw [if_neg (show ¬ (false = true) by decide)] at H; exact H
                  clear H
                  have H := H1
                  clear H1
                  by_cases c28 : 0 ≤ x1_1
                  · rw [if_pos c28] at H
                    have c28b0 : decide (0 ≤ x1_1) = true := decide_eq_true c28
                    clear c28
                    by_cases c29 : x1_1 < (a0.size : Int)
                    · rw [if_pos c29] at H
                      have c29b0 : decide (x1_1 < (a0.size : Int)) = true := decide_eq_true c29
                      clear c29
                      have c31b0 := eq_true (of_decide_eq_true (by first | (with_reducible assumption) | assumption) : 0 ≤ x1_1)
                      by_cases c32 : x1_1 ≤ (wrap64 (x1_1 + 1))
                      · rw [if_pos c32] at H
                        have c32b0 := eq_true c32
                        have c32b1 : decide (x1_1 ≤ (wrap64 (x1_1 + 1))) = true := decide_eq_true c32
                        by_cases c33 : (wrap64 (x1_1 + 1)) ≤ (a0.size : Int)
                        · rw [if_pos c33] at H
                          have c33b0 := eq_true c33
                          have c33b1 : decide ((wrap64 (x1_1 + 1)) ≤ (a0.size : Int)) = true := decide_eq_true c33
                          replace H := Option.bind_eq_some_iff.mp H
                          obtain ⟨t126, A340, H⟩ := H
                          replace H : (if t126 = true then (some (x125000_1, a0.extract (x1_1 : Int).toNat ((wrap64 (x1_1 + 1)) : Int).toNat, (⟨#[]⟩ : ByteArray), wrap64 (x1_1 + 1), true)) else ((emendatorref19_in.f kj21 (⟨#[103, 100, 121, 62, 60]⟩ : ByteArray) (bt a0 x1_1)).bind fun t127 => (if t127 = true then (if (wrap64 (x1_1 + 1)) ≥ (a0.size : Int) then (some (x125000_1, a0.extract (x1_1 : Int).toNat ((wrap64 (x1_1 + 1)) : Int).toNat, (⟨#[]⟩ : ByteArray), wrap64 (x1_1 + 1), false)) else (if 0 ≤ (wrap64 (x1_1 + 1)) then (if (wrap64 (x1_1 + 1)) < (a0.size : Int) then (if (bt a0 (wrap64 (x1_1 + 1))) = (bt a0 x1_1) then (if (a0.extract (x1_1 : Int).toNat ((wrap64 (x1_1 + 1)) : Int).toNat).size + (a0.extract (x1_1 : Int).toNat ((wrap64 (x1_1 + 1)) : Int).toNat).size ≤ 9223372036854775807 then (some (x125000_1, (a0.extract (x1_1 : Int).toNat ((wrap64 (x1_1 + 1)) : Int).toNat) ++ (a0.extract (x1_1 : Int).toNat ((wrap64 (x1_1 + 1)) : Int).toNat), (⟨#[]⟩ : ByteArray), wrap64 ((wrap64 (x1_1 + 1)) + 1), true)) else (none)) else (some (x125000_1, a0.extract (x1_1 : Int).toNat ((wrap64 (x1_1 + 1)) : Int).toNat, (⟨#[]⟩ : ByteArray), wrap64 (x1_1 + 1), false))) else (none)) else (none))) else (if (bt a0 x1_1) = 34 then (emendatorref19_key.j3 kj21 a0 (wrap64 (x1_1 + 1)) (bt a0 x1_1) true x125000_1 (a0.extract (x1_1 : Int).toNat ((wrap64 (x1_1 + 1)) : Int).toNat) (⟨#[]⟩ : ByteArray)) else (emendatorref19_key.j3 kj21 a0 (wrap64 (x1_1 + 1)) (bt a0 x1_1) ((bt a0 x1_1) == 64) x125000_1 (a0.extract (x1_1 : Int).toNat ((wrap64 (x1_1 + 1)) : Int).toNat) (⟨#[]⟩ : ByteArray)))))) = some (r1, r2, r3, r4, r5) := H
                          have A34 := Aside0.mk A340
                          clear A340
                          by_cases c35 : t126 = true
                          · subst c35
                            have H1 : (some (x125000_1, a0.extract (x1_1 : Int).toNat ((wrap64 (x1_1 + 1)) : Int).toNat, (⟨#[]⟩ : ByteArray), wrap64 (x1_1 + 1), true)) = some (r1, r2, r3, r4, r5) := by rw [if_pos rfl] at H; exact H
                            clear H
                            have H := H1
                            clear H1
                            simp only [Option.some.injEq, Prod.mk.injEq] at H
                            obtain ⟨rfl, rfl, rfl, rfl, rfl⟩ := H
                            have p30 : 0 ≤ (x1_1 : Int) := of_decide_eq_true (by first | (with_reducible assumption) | assumption)
                            have q30 : x1_1 < (a0.size : Int) := of_decide_eq_true (by first | (with_reducible assumption) | assumption)
                            have hx30 := bt_at a0 x1_1
                            replace p30 := eq_true p30
                            replace q30 := eq_true q30
                            have hnb36 := NB124_123.out
                            have hnc36 := NB123_124.out
                            have hcz37_0 : wc.cell? ⟨gb124, 0, none⟩ = some (.int .i64 x125000_1) := (blk_cell BK124.out 0).trans (by first | rfl | (simp only [*]; first | done | rfl))
                            have hcz37_1 : wc.cell? ⟨gb124, 1, none⟩ = some (.string (⟨#[]⟩ : ByteArray)) := (blk_cell BK124.out 1).trans (by first | rfl | (simp only [*]; first | done | rfl))
                            have hcz37_2 : wc.cell? ⟨gb124, 2, none⟩ = some (.string (⟨#[]⟩ : ByteArray)) := (blk_cell BK124.out 2).trans (by first | rfl | (simp only [*]; first | done | rfl))
                            have hfz37_0 := blk_frozen BK124.out 0
                            have hfz37_1 := blk_frozen BK124.out 1
                            have hfz37_2 := blk_frozen BK124.out 2
                            go_wp2_with (first | ((with_reducible refine gate_callee (f := 29) rfl ?_); refine goesL_ (some 70) rfl rfl Tryd.func29 (by kernel_rfl) rfl #[.string (⟨#[106, 107, 71, 112, 80, 74, 120, 126, 68]⟩ : ByteArray), .int .u8 (bt a0 x1_1)] rfl (by (try simp only [List.map_toArray, List.map_cons, List.map_nil]); first | done | rfl | (simp only [List.length_drop, List.length_take]; rfl)) ?_; (with_reducible refine (emendatorref19_in.calls kj21 (⟨#[106, 107, 71, 112, 80, 74, 120, 126, 68]⟩ : ByteArray) (bt a0 x1_1) true _ A34.out).mono ?_); rintro e w' ⟨rfl, ⟨nd, rfl⟩⟩; refine ⟨_, rfl, ?_⟩; have hcz38_0 : wc.cell? ⟨gb123, 0, none⟩ = some (.int .i64 0) := (blk_cell BK123.out 0).trans (by first | rfl | (simp only [*]; first | done | rfl)); have hcz38_1 : wc.cell? ⟨gb123, 1, none⟩ = some (.string (⟨#[]⟩ : ByteArray)) := (blk_cell BK123.out 1).trans (by first | rfl | (simp only [*]; first | done | rfl)); have hcz38_2 : wc.cell? ⟨gb123, 2, none⟩ = some (.string (⟨#[]⟩ : ByteArray)) := (blk_cell BK123.out 2).trans (by first | rfl | (simp only [*]; first | done | rfl)); have hfz38_0 := blk_frozen BK123.out 0; have hfz38_1 := blk_frozen BK123.out 1; have hfz38_2 := blk_frozen BK123.out 2))
                            refine bodyPost_ret (results_ctt rfl _ _ gb123 38 #[.int .i64 x125000_1, .string (a0.extract (x1_1 : Int).toNat ((wrap64 (x1_1 + 1)) : Int).toNat), .string (⟨#[]⟩ : ByteArray)] (0, 0) _ rfl (by (with_reducible repeat (first | refine blk_drewN ?_ _ | refine blk_drew ?_ | refine blk_alloc ?_ _)); refine blk_put (cs := #[.int .i64 x125000_1, .string (a0.extract (x1_1 : Int).toNat ((wrap64 (x1_1 + 1)) : Int).toNat), .string (⟨#[]⟩ : ByteArray)]) ?_ 2 _ rfl; (with_reducible repeat (first | refine blk_drewN ?_ _ | refine blk_drew ?_ | refine blk_alloc ?_ _)); refine blk_put (cs := #[.int .i64 x125000_1, .string (⟨#[]⟩ : ByteArray), .string (⟨#[]⟩ : ByteArray)]) ?_ 1 _ rfl; (with_reducible repeat (first | refine blk_drewN ?_ _ | refine blk_drew ?_ | refine blk_alloc ?_ _)); refine blk_put (cs := #[.int .i64 0, .string (⟨#[]⟩ : ByteArray), .string (⟨#[]⟩ : ByteArray)]) ?_ 0 _ rfl; (with_reducible repeat (first | refine blk_drewN ?_ _ | refine blk_drew ?_ | refine blk_alloc ?_ _)); refine blk_far ?_ NB123_124.out _; (with_reducible repeat (first | refine blk_drewN ?_ _ | refine blk_drew ?_ | refine blk_alloc ?_ _)); exact BK123.out) Tryd.underlying38 rfl (by kernel_rfl)) rfl ?_
                            exact ⟨by first | rfl | (simp [errW_none, errW_some] <;> rfl) | (simp [*, errW_none, errW_some] <;> rfl), by repeat (first | (with_reducible first | exact HB.out | apply below_alloc | apply pw_below_drewN | apply below_drew1 | refine below_set ?_ GE123.out | refine below_set ?_ GE124.out) | exact HB.out)⟩
                          · replace c35 := Bool.eq_false_iff.mpr c35
                            subst c35
                            have H1 : ((emendatorref19_in.f kj21 (⟨#[103, 100, 121, 62, 60]⟩ : ByteArray) (bt a0 x1_1)).bind fun t127 => (if t127 = true then (if (wrap64 (x1_1 + 1)) ≥ (a0.size : Int) then (some (x125000_1, a0.extract (x1_1 : Int).toNat ((wrap64 (x1_1 + 1)) : Int).toNat, (⟨#[]⟩ : ByteArray), wrap64 (x1_1 + 1), false)) else (if 0 ≤ (wrap64 (x1_1 + 1)) then (if (wrap64 (x1_1 + 1)) < (a0.size : Int) then (if (bt a0 (wrap64 (x1_1 + 1))) = (bt a0 x1_1) then (if (a0.extract (x1_1 : Int).toNat ((wrap64 (x1_1 + 1)) : Int).toNat).size + (a0.extract (x1_1 : Int).toNat ((wrap64 (x1_1 + 1)) : Int).toNat).size ≤ 9223372036854775807 then (some (x125000_1, (a0.extract (x1_1 : Int).toNat ((wrap64 (x1_1 + 1)) : Int).toNat) ++ (a0.extract (x1_1 : Int).toNat ((wrap64 (x1_1 + 1)) : Int).toNat), (⟨#[]⟩ : ByteArray), wrap64 ((wrap64 (x1_1 + 1)) + 1), true)) else (none)) else (some (x125000_1, a0.extract (x1_1 : Int).toNat ((wrap64 (x1_1 + 1)) : Int).toNat, (⟨#[]⟩ : ByteArray), wrap64 (x1_1 + 1), false))) else (none)) else (none))) else (if (bt a0 x1_1) = 34 then (emendatorref19_key.j3 kj21 a0 (wrap64 (x1_1 + 1)) (bt a0 x1_1) true x125000_1 (a0.extract (x1_1 : Int).toNat ((wrap64 (x1_1 + 1)) : Int).toNat) (⟨#[]⟩ : ByteArray)) else (emendatorref19_key.j3 kj21 a0 (wrap64 (x1_1 + 1)) (bt a0 x1_1) ((bt a0 x1_1) == 64) x125000_1 (a0.extract (x1_1 : Int).toNat ((wrap64 (x1_1 + 1)) : Int).toNat) (⟨#[]⟩ : ByteArray))))) = some (r1, r2, r3, r4, r5) := by rw [if_neg (show ¬ (false = true) by decide)] at H; exact H
                            clear H
                            have H := H1
                            clear H1
                            replace H := Option.bind_eq_some_iff.mp H
                            obtain ⟨t127, A390, H⟩ := H
                            replace H : (if t127 = true then (if (wrap64 (x1_1 + 1)) ≥ (a0.size : Int) then (some (x125000_1, a0.extract (x1_1 : Int).toNat ((wrap64 (x1_1 + 1)) : Int).toNat, (⟨#[]⟩ : ByteArray), wrap64 (x1_1 + 1), false)) else (if 0 ≤ (wrap64 (x1_1 + 1)) then (if (wrap64 (x1_1 + 1)) < (a0.size : Int) then (if (bt a0 (wrap64 (x1_1 + 1))) = (bt a0 x1_1) then (if (a0.extract (x1_1 : Int).toNat ((wrap64 (x1_1 + 1)) : Int).toNat).size + (a0.extract (x1_1 : Int).toNat ((wrap64 (x1_1 + 1)) : Int).toNat).size ≤ 9223372036854775807 then (some (x125000_1, (a0.extract (x1_1 : Int).toNat ((wrap64 (x1_1 + 1)) : Int).toNat) ++ (a0.extract (x1_1 : Int).toNat ((wrap64 (x1_1 + 1)) : Int).toNat), (⟨#[]⟩ : ByteArray), wrap64 ((wrap64 (x1_1 + 1)) + 1), true)) else (none)) else (some (x125000_1, a0.extract (x1_1 : Int).toNat ((wrap64 (x1_1 + 1)) : Int).toNat, (⟨#[]⟩ : ByteArray), wrap64 (x1_1 + 1), false))) else (none)) else (none))) else (if (bt a0 x1_1) = 34 then (emendatorref19_key.j3 kj21 a0 (wrap64 (x1_1 + 1)) (bt a0 x1_1) true x125000_1 (a0.extract (x1_1 : Int).toNat ((wrap64 (x1_1 + 1)) : Int).toNat) (⟨#[]⟩ : ByteArray)) else (emendatorref19_key.j3 kj21 a0 (wrap64 (x1_1 + 1)) (bt a0 x1_1) ((bt a0 x1_1) == 64) x125000_1 (a0.extract (x1_1 : Int).toNat ((wrap64 (x1_1 + 1)) : Int).toNat) (⟨#[]⟩ : ByteArray)))) = some (r1, r2, r3, r4, r5) := H
                            have A39 := Aside0.mk A390
                            clear A390
                            by_cases c40 : t127 = true
                            · subst c40
                              have H1 : (if (wrap64 (x1_1 + 1)) ≥ (a0.size : Int) then (some (x125000_1, a0.extract (x1_1 : Int).toNat ((wrap64 (x1_1 + 1)) : Int).toNat, (⟨#[]⟩ : ByteArray), wrap64 (x1_1 + 1), false)) else (if 0 ≤ (wrap64 (x1_1 + 1)) then (if (wrap64 (x1_1 + 1)) < (a0.size : Int) then (if (bt a0 (wrap64 (x1_1 + 1))) = (bt a0 x1_1) then (if (a0.extract (x1_1 : Int).toNat ((wrap64 (x1_1 + 1)) : Int).toNat).size + (a0.extract (x1_1 : Int).toNat ((wrap64 (x1_1 + 1)) : Int).toNat).size ≤ 9223372036854775807 then (some (x125000_1, (a0.extract (x1_1 : Int).toNat ((wrap64 (x1_1 + 1)) : Int).toNat) ++ (a0.extract (x1_1 : Int).toNat ((wrap64 (x1_1 + 1)) : Int).toNat), (⟨#[]⟩ : ByteArray), wrap64 ((wrap64 (x1_1 + 1)) + 1), true)) else (none)) else (some (x125000_1, a0.extract (x1_1 : Int).toNat ((wrap64 (x1_1 + 1)) : Int).toNat, (⟨#[]⟩ : ByteArray), wrap64 (x1_1 + 1), false))) else (none)) else (none))) = some (r1, r2, r3, r4, r5) := by rw [if_pos rfl] at H; exact H
                              clear H
                              have H := H1
                              clear H1
                              by_cases c41 : (wrap64 (x1_1 + 1)) ≥ (a0.size : Int)
                              · rw [if_pos c41] at H
                                have c41b0 : decide ((a0.size : Int) ≤ (wrap64 (x1_1 + 1))) = true := decide_eq_true c41
                                clear c41
                                simp only [Option.some.injEq, Prod.mk.injEq] at H
                                obtain ⟨rfl, rfl, rfl, rfl, rfl⟩ := H
                                have p30 : 0 ≤ (x1_1 : Int) := of_decide_eq_true (by first | (with_reducible assumption) | assumption)
                                have q30 : x1_1 < (a0.size : Int) := of_decide_eq_true (by first | (with_reducible assumption) | assumption)
                                have hx30 := bt_at a0 x1_1
                                replace p30 := eq_true p30
                                replace q30 := eq_true q30
                                have hnb42 := NB124_123.out
                                have hnc42 := NB123_124.out
                                have hcz43_0 : wc.cell? ⟨gb124, 0, none⟩ = some (.int .i64 x125000_1) := (blk_cell BK124.out 0).trans (by first | rfl | (simp only [*]; first | done | rfl))
                                have hcz43_1 : wc.cell? ⟨gb124, 1, none⟩ = some (.string (⟨#[]⟩ : ByteArray)) := (blk_cell BK124.out 1).trans (by first | rfl | (simp only [*]; first | done | rfl))
                                have hcz43_2 : wc.cell? ⟨gb124, 2, none⟩ = some (.string (⟨#[]⟩ : ByteArray)) := (blk_cell BK124.out 2).trans (by first | rfl | (simp only [*]; first | done | rfl))
                                have hfz43_0 := blk_frozen BK124.out 0
                                have hfz43_1 := blk_frozen BK124.out 1
                                have hfz43_2 := blk_frozen BK124.out 2
                                go_wp2_with (first | ((with_reducible refine gate_callee (f := 29) rfl ?_); refine goesL_ (some 70) rfl rfl Tryd.func29 (by kernel_rfl) rfl #[.string (⟨#[106, 107, 71, 112, 80, 74, 120, 126, 68]⟩ : ByteArray), .int .u8 (bt a0 x1_1)] rfl (by (try simp only [List.map_toArray, List.map_cons, List.map_nil]); first | done | rfl | (simp only [List.length_drop, List.length_take]; rfl)) ?_; (with_reducible refine (emendatorref19_in.calls kj21 (⟨#[106, 107, 71, 112, 80, 74, 120, 126, 68]⟩ : ByteArray) (bt a0 x1_1) false _ A34.out).mono ?_); rintro e w' ⟨rfl, ⟨nd, rfl⟩⟩; refine ⟨_, rfl, ?_⟩) | ((with_reducible refine gate_callee (f := 29) rfl ?_); refine goesL_ (some 74) rfl rfl Tryd.func29 (by kernel_rfl) rfl #[.string (⟨#[103, 100, 121, 62, 60]⟩ : ByteArray), .int .u8 (bt a0 x1_1)] rfl (by (try simp only [List.map_toArray, List.map_cons, List.map_nil]); first | done | rfl | (simp only [List.length_drop, List.length_take]; rfl)) ?_; (with_reducible refine (emendatorref19_in.calls kj21 (⟨#[103, 100, 121, 62, 60]⟩ : ByteArray) (bt a0 x1_1) true _ A39.out).mono ?_); rintro e w' ⟨rfl, ⟨nd, rfl⟩⟩; refine ⟨_, rfl, ?_⟩; have hcz44_0 : wc.cell? ⟨gb123, 0, none⟩ = some (.int .i64 0) := (blk_cell BK123.out 0).trans (by first | rfl | (simp only [*]; first | done | rfl)); have hcz44_1 : wc.cell? ⟨gb123, 1, none⟩ = some (.string (⟨#[]⟩ : ByteArray)) := (blk_cell BK123.out 1).trans (by first | rfl | (simp only [*]; first | done | rfl)); have hcz44_2 : wc.cell? ⟨gb123, 2, none⟩ = some (.string (⟨#[]⟩ : ByteArray)) := (blk_cell BK123.out 2).trans (by first | rfl | (simp only [*]; first | done | rfl)); have hfz44_0 := blk_frozen BK123.out 0; have hfz44_1 := blk_frozen BK123.out 1; have hfz44_2 := blk_frozen BK123.out 2))
                                refine bodyPost_ret (results_ctt rfl _ _ gb123 38 #[.int .i64 x125000_1, .string (a0.extract (x1_1 : Int).toNat ((wrap64 (x1_1 + 1)) : Int).toNat), .string (⟨#[]⟩ : ByteArray)] (0, 0) _ rfl (by (with_reducible repeat (first | refine blk_drewN ?_ _ | refine blk_drew ?_ | refine blk_alloc ?_ _)); refine blk_put (cs := #[.int .i64 x125000_1, .string (a0.extract (x1_1 : Int).toNat ((wrap64 (x1_1 + 1)) : Int).toNat), .string (⟨#[]⟩ : ByteArray)]) ?_ 2 _ rfl; (with_reducible repeat (first | refine blk_drewN ?_ _ | refine blk_drew ?_ | refine blk_alloc ?_ _)); refine blk_put (cs := #[.int .i64 x125000_1, .string (⟨#[]⟩ : ByteArray), .string (⟨#[]⟩ : ByteArray)]) ?_ 1 _ rfl; (with_reducible repeat (first | refine blk_drewN ?_ _ | refine blk_drew ?_ | refine blk_alloc ?_ _)); refine blk_put (cs := #[.int .i64 0, .string (⟨#[]⟩ : ByteArray), .string (⟨#[]⟩ : ByteArray)]) ?_ 0 _ rfl; (with_reducible repeat (first | refine blk_drewN ?_ _ | refine blk_drew ?_ | refine blk_alloc ?_ _)); refine blk_far ?_ NB123_124.out _; (with_reducible repeat (first | refine blk_drewN ?_ _ | refine blk_drew ?_ | refine blk_alloc ?_ _)); exact BK123.out) Tryd.underlying38 rfl (by kernel_rfl)) rfl ?_
                                exact ⟨by first | rfl | (simp [errW_none, errW_some] <;> rfl) | (simp [*, errW_none, errW_some] <;> rfl), by repeat (first | (with_reducible first | exact HB.out | apply below_alloc | apply pw_below_drewN | apply below_drew1 | refine below_set ?_ GE123.out | refine below_set ?_ GE124.out) | exact HB.out)⟩
                              · rw [if_neg c41] at H
                                have c41b0 : decide ((a0.size : Int) ≤ (wrap64 (x1_1 + 1))) = false := decide_eq_false c41
                                clear c41
                                obtain ⟨ji45, hji45⟩ : ∃ j_ : Int, (wrap64 (x1_1 + 1)) = j_ := ⟨_, rfl⟩
                                replace H : (if 0 ≤ (ji45) then (if (ji45) < (a0.size : Int) then (if (bt a0 (ji45)) = (bt a0 x1_1) then (if (a0.extract (x1_1 : Int).toNat ((ji45) : Int).toNat).size + (a0.extract (x1_1 : Int).toNat ((ji45) : Int).toNat).size ≤ 9223372036854775807 then (some (x125000_1, (a0.extract (x1_1 : Int).toNat ((ji45) : Int).toNat) ++ (a0.extract (x1_1 : Int).toNat ((ji45) : Int).toNat), (⟨#[]⟩ : ByteArray), wrap64 ((ji45) + 1), true)) else (none)) else (some (x125000_1, a0.extract (x1_1 : Int).toNat ((ji45) : Int).toNat, (⟨#[]⟩ : ByteArray), ji45, false))) else (none)) else (none)) = some (r1, r2, r3, r4, r5) := by first | (rw [hji45] at H; exact H) | (simp only [hji45] at H ⊢; exact H)
                                (try rw [hji45] at c32b0)
                                (try rw [hji45] at c32b1)
                                (try rw [hji45] at c32)
                                (try rw [hji45] at c33b0)
                                (try rw [hji45] at c33b1)
                                (try rw [hji45] at c33)
                                (try rw [hji45] at c41b0)
                                (try rw [hji45] at A34)
                                (try rw [hji45] at A39)
                                have hji45w : (IntKind.i64.wrap (x1_1 + 1)) = ji45 := (i64_w _).trans hji45
                                by_cases c46 : 0 ≤ (ji45)
                                · rw [if_pos c46] at H
                                  have c46b0 : decide (0 ≤ (ji45)) = true := decide_eq_true c46
                                  clear c46
                                  by_cases c47 : (ji45) < (a0.size : Int)
                                  · rw [if_pos c47] at H
                                    have c47b0 : decide ((ji45) < (a0.size : Int)) = true := decide_eq_true c47
                                    clear c47
                                    by_cases c49 : (bt a0 (ji45)) = (bt a0 x1_1)
                                    · rw [if_pos c49] at H
                                      have c49b0 : ((bt a0 (ji45)) == (bt a0 x1_1)) = true := beq_iff_eq.mpr c49
                                      have c49b1 : ((bt a0 (ji45)) != (bt a0 x1_1)) = false := bne_eq_false_iff_eq.mpr c49
                                      clear c49
                                      by_cases c50 : (a0.extract (x1_1 : Int).toNat ((ji45) : Int).toNat).size + (a0.extract (x1_1 : Int).toNat ((ji45) : Int).toNat).size ≤ 9223372036854775807
                                      · rw [if_pos c50] at H
                                        have c50b0 := eq_true c50
                                        have c50b1 : decide ((a0.extract (x1_1 : Int).toNat ((ji45) : Int).toNat).size + (a0.extract (x1_1 : Int).toNat ((ji45) : Int).toNat).size ≤ 9223372036854775807) = true := decide_eq_true c50
                                        try have c50b2 : (9223372036854775807 < (a0.extract (x1_1 : Int).toNat ((ji45) : Int).toNat).size + (a0.extract (x1_1 : Int).toNat ((ji45) : Int).toNat).size) = False := eq_false (Nat.not_lt.2 c50)
                                        simp only [Option.some.injEq, Prod.mk.injEq] at H
                                        obtain ⟨rfl, rfl, rfl, rfl, rfl⟩ := H
                                        have p30 : 0 ≤ (x1_1 : Int) := of_decide_eq_true (by first | (with_reducible assumption) | assumption)
                                        have q30 : x1_1 < (a0.size : Int) := of_decide_eq_true (by first | (with_reducible assumption) | assumption)
                                        have hx30 := bt_at a0 x1_1
                                        replace p30 := eq_true p30
                                        replace q30 := eq_true q30
                                        have hnb51 := NB124_123.out
                                        have hnc51 := NB123_124.out
                                        have hcz52_0 : wc.cell? ⟨gb124, 0, none⟩ = some (.int .i64 x125000_1) := (blk_cell BK124.out 0).trans (by first | rfl | (simp only [*]; first | done | rfl))
                                        have hcz52_1 : wc.cell? ⟨gb124, 1, none⟩ = some (.string (⟨#[]⟩ : ByteArray)) := (blk_cell BK124.out 1).trans (by first | rfl | (simp only [*]; first | done | rfl))
                                        have hcz52_2 : wc.cell? ⟨gb124, 2, none⟩ = some (.string (⟨#[]⟩ : ByteArray)) := (blk_cell BK124.out 2).trans (by first | rfl | (simp only [*]; first | done | rfl))
                                        have hfz52_0 := blk_frozen BK124.out 0
                                        have hfz52_1 := blk_frozen BK124.out 1
                                        have hfz52_2 := blk_frozen BK124.out 2
                                        go_wp2_with (first | ((with_reducible refine gate_callee (f := 29) rfl ?_); refine goesL_ (some 70) rfl rfl Tryd.func29 (by kernel_rfl) rfl #[.string (⟨#[106, 107, 71, 112, 80, 74, 120, 126, 68]⟩ : ByteArray), .int .u8 (bt a0 x1_1)] rfl (by (try simp only [List.map_toArray, List.map_cons, List.map_nil]); first | done | rfl | (simp only [List.length_drop, List.length_take]; rfl)) ?_; (with_reducible refine (emendatorref19_in.calls kj21 (⟨#[106, 107, 71, 112, 80, 74, 120, 126, 68]⟩ : ByteArray) (bt a0 x1_1) false _ A34.out).mono ?_); rintro e w' ⟨rfl, ⟨nd, rfl⟩⟩; refine ⟨_, rfl, ?_⟩) | ((with_reducible refine gate_callee (f := 29) rfl ?_); refine goesL_ (some 74) rfl rfl Tryd.func29 (by kernel_rfl) rfl #[.string (⟨#[103, 100, 121, 62, 60]⟩ : ByteArray), .int .u8 (bt a0 x1_1)] rfl (by (try simp only [List.map_toArray, List.map_cons, List.map_nil]); first | done | rfl | (simp only [List.length_drop, List.length_take]; rfl)) ?_; (with_reducible refine (emendatorref19_in.calls kj21 (⟨#[103, 100, 121, 62, 60]⟩ : ByteArray) (bt a0 x1_1) true _ A39.out).mono ?_); rintro e w' ⟨rfl, ⟨nd, rfl⟩⟩; refine ⟨_, rfl, ?_⟩; have p48 : 0 ≤ ((ji45) : Int) := of_decide_eq_true (by first | (with_reducible assumption) | assumption); have q48 : (ji45) < (a0.size : Int) := of_decide_eq_true (by first | (with_reducible assumption) | assumption); have hx48 := bt_at a0 (ji45); replace p48 := eq_true p48; replace q48 := eq_true q48; have hcz53_0 : wc.cell? ⟨gb123, 0, none⟩ = some (.int .i64 0) := (blk_cell BK123.out 0).trans (by first | rfl | (simp only [*]; first | done | rfl)); have hcz53_1 : wc.cell? ⟨gb123, 1, none⟩ = some (.string (⟨#[]⟩ : ByteArray)) := (blk_cell BK123.out 1).trans (by first | rfl | (simp only [*]; first | done | rfl)); have hcz53_2 : wc.cell? ⟨gb123, 2, none⟩ = some (.string (⟨#[]⟩ : ByteArray)) := (blk_cell BK123.out 2).trans (by first | rfl | (simp only [*]; first | done | rfl)); have hfz53_0 := blk_frozen BK123.out 0; have hfz53_1 := blk_frozen BK123.out 1; have hfz53_2 := blk_frozen BK123.out 2))
                                        refine bodyPost_ret (results_ctt rfl _ _ gb123 38 #[.int .i64 x125000_1, .string ((a0.extract (x1_1 : Int).toNat ((ji45) : Int).toNat) ++ (a0.extract (x1_1 : Int).toNat ((ji45) : Int).toNat)), .string (⟨#[]⟩ : ByteArray)] (0, 0) _ rfl (by (with_reducible repeat (first | refine blk_drewN ?_ _ | refine blk_drew ?_ | refine blk_alloc ?_ _)); refine blk_put (cs := #[.int .i64 x125000_1, .string ((a0.extract (x1_1 : Int).toNat ((ji45) : Int).toNat) ++ (a0.extract (x1_1 : Int).toNat ((ji45) : Int).toNat)), .string (⟨#[]⟩ : ByteArray)]) ?_ 2 _ rfl; (with_reducible repeat (first | refine blk_drewN ?_ _ | refine blk_drew ?_ | refine blk_alloc ?_ _)); refine blk_put (cs := #[.int .i64 x125000_1, .string (⟨#[]⟩ : ByteArray), .string (⟨#[]⟩ : ByteArray)]) ?_ 1 _ rfl; (with_reducible repeat (first | refine blk_drewN ?_ _ | refine blk_drew ?_ | refine blk_alloc ?_ _)); refine blk_put (cs := #[.int .i64 0, .string (⟨#[]⟩ : ByteArray), .string (⟨#[]⟩ : ByteArray)]) ?_ 0 _ rfl; (with_reducible repeat (first | refine blk_drewN ?_ _ | refine blk_drew ?_ | refine blk_alloc ?_ _)); refine blk_far ?_ NB123_124.out _; (with_reducible repeat (first | refine blk_drewN ?_ _ | refine blk_drew ?_ | refine blk_alloc ?_ _)); refine blk_far ?_ NB123_124.out _; (with_reducible repeat (first | refine blk_drewN ?_ _ | refine blk_drew ?_ | refine blk_alloc ?_ _)); exact BK123.out) Tryd.underlying38 rfl (by kernel_rfl)) rfl ?_
                                        exact ⟨by first | rfl | (simp [errW_none, errW_some] <;> rfl) | (simp only [← hji45]; first | rfl | (simp [errW_none, errW_some] <;> rfl)) | (simp [*, errW_none, errW_some] <;> rfl), by repeat (first | (with_reducible first | exact HB.out | apply below_alloc | apply pw_below_drewN | apply below_drew1 | refine below_set ?_ GE123.out | refine below_set ?_ GE124.out) | exact HB.out)⟩
                                      · rw [if_neg c50] at H
                                        exact absurd H (by simp)
                                    · rw [if_neg c49] at H
                                      have c49b0 : ((bt a0 (ji45)) == (bt a0 x1_1)) = false := beq_eq_false_iff_ne.mpr c49
                                      have c49b1 : ((bt a0 (ji45)) != (bt a0 x1_1)) = true := bne_iff_ne.mpr c49
                                      simp only [Option.some.injEq, Prod.mk.injEq] at H
                                      obtain ⟨rfl, rfl, rfl, rfl, rfl⟩ := H
                                      have p30 : 0 ≤ (x1_1 : Int) := of_decide_eq_true (by first | (with_reducible assumption) | assumption)
                                      have q30 : x1_1 < (a0.size : Int) := of_decide_eq_true (by first | (with_reducible assumption) | assumption)
                                      have hx30 := bt_at a0 x1_1
                                      replace p30 := eq_true p30
                                      replace q30 := eq_true q30
                                      have hnb54 := NB124_123.out
                                      have hnc54 := NB123_124.out
                                      have hcz55_0 : wc.cell? ⟨gb124, 0, none⟩ = some (.int .i64 x125000_1) := (blk_cell BK124.out 0).trans (by first | rfl | (simp only [*]; first | done | rfl))
                                      have hcz55_1 : wc.cell? ⟨gb124, 1, none⟩ = some (.string (⟨#[]⟩ : ByteArray)) := (blk_cell BK124.out 1).trans (by first | rfl | (simp only [*]; first | done | rfl))
                                      have hcz55_2 : wc.cell? ⟨gb124, 2, none⟩ = some (.string (⟨#[]⟩ : ByteArray)) := (blk_cell BK124.out 2).trans (by first | rfl | (simp only [*]; first | done | rfl))
                                      have hfz55_0 := blk_frozen BK124.out 0
                                      have hfz55_1 := blk_frozen BK124.out 1
                                      have hfz55_2 := blk_frozen BK124.out 2
                                      go_wp2_with (first | ((with_reducible refine gate_callee (f := 29) rfl ?_); refine goesL_ (some 70) rfl rfl Tryd.func29 (by kernel_rfl) rfl #[.string (⟨#[106, 107, 71, 112, 80, 74, 120, 126, 68]⟩ : ByteArray), .int .u8 (bt a0 x1_1)] rfl (by (try simp only [List.map_toArray, List.map_cons, List.map_nil]); first | done | rfl | (simp only [List.length_drop, List.length_take]; rfl)) ?_; (with_reducible refine (emendatorref19_in.calls kj21 (⟨#[106, 107, 71, 112, 80, 74, 120, 126, 68]⟩ : ByteArray) (bt a0 x1_1) false _ A34.out).mono ?_); rintro e w' ⟨rfl, ⟨nd, rfl⟩⟩; refine ⟨_, rfl, ?_⟩) | ((with_reducible refine gate_callee (f := 29) rfl ?_); refine goesL_ (some 74) rfl rfl Tryd.func29 (by kernel_rfl) rfl #[.string (⟨#[103, 100, 121, 62, 60]⟩ : ByteArray), .int .u8 (bt a0 x1_1)] rfl (by (try simp only [List.map_toArray, List.map_cons, List.map_nil]); first | done | rfl | (simp only [List.length_drop, List.length_take]; rfl)) ?_; (with_reducible refine (emendatorref19_in.calls kj21 (⟨#[103, 100, 121, 62, 60]⟩ : ByteArray) (bt a0 x1_1) true _ A39.out).mono ?_); rintro e w' ⟨rfl, ⟨nd, rfl⟩⟩; refine ⟨_, rfl, ?_⟩; have p48 : 0 ≤ ((ji45) : Int) := of_decide_eq_true (by first | (with_reducible assumption) | assumption); have q48 : (ji45) < (a0.size : Int) := of_decide_eq_true (by first | (with_reducible assumption) | assumption); have hx48 := bt_at a0 (ji45); replace p48 := eq_true p48; replace q48 := eq_true q48; have hcz56_0 : wc.cell? ⟨gb123, 0, none⟩ = some (.int .i64 0) := (blk_cell BK123.out 0).trans (by first | rfl | (simp only [*]; first | done | rfl)); have hcz56_1 : wc.cell? ⟨gb123, 1, none⟩ = some (.string (⟨#[]⟩ : ByteArray)) := (blk_cell BK123.out 1).trans (by first | rfl | (simp only [*]; first | done | rfl)); have hcz56_2 : wc.cell? ⟨gb123, 2, none⟩ = some (.string (⟨#[]⟩ : ByteArray)) := (blk_cell BK123.out 2).trans (by first | rfl | (simp only [*]; first | done | rfl)); have hfz56_0 := blk_frozen BK123.out 0; have hfz56_1 := blk_frozen BK123.out 1; have hfz56_2 := blk_frozen BK123.out 2))
                                      refine bodyPost_ret (results_ctt rfl _ _ gb123 38 #[.int .i64 x125000_1, .string (a0.extract (x1_1 : Int).toNat ((ji45) : Int).toNat), .string (⟨#[]⟩ : ByteArray)] (0, 0) _ rfl (by (with_reducible repeat (first | refine blk_drewN ?_ _ | refine blk_drew ?_ | refine blk_alloc ?_ _)); refine blk_put (cs := #[.int .i64 x125000_1, .string (a0.extract (x1_1 : Int).toNat ((ji45) : Int).toNat), .string (⟨#[]⟩ : ByteArray)]) ?_ 2 _ rfl; (with_reducible repeat (first | refine blk_drewN ?_ _ | refine blk_drew ?_ | refine blk_alloc ?_ _)); refine blk_put (cs := #[.int .i64 x125000_1, .string (⟨#[]⟩ : ByteArray), .string (⟨#[]⟩ : ByteArray)]) ?_ 1 _ rfl; (with_reducible repeat (first | refine blk_drewN ?_ _ | refine blk_drew ?_ | refine blk_alloc ?_ _)); refine blk_put (cs := #[.int .i64 0, .string (⟨#[]⟩ : ByteArray), .string (⟨#[]⟩ : ByteArray)]) ?_ 0 _ rfl; (with_reducible repeat (first | refine blk_drewN ?_ _ | refine blk_drew ?_ | refine blk_alloc ?_ _)); refine blk_far ?_ NB123_124.out _; (with_reducible repeat (first | refine blk_drewN ?_ _ | refine blk_drew ?_ | refine blk_alloc ?_ _)); exact BK123.out) Tryd.underlying38 rfl (by kernel_rfl)) rfl ?_
                                      exact ⟨by first | rfl | (simp [errW_none, errW_some] <;> rfl) | (simp only [← hji45]; first | rfl | (simp [errW_none, errW_some] <;> rfl)) | (simp [*, errW_none, errW_some] <;> rfl), by repeat (first | (with_reducible first | exact HB.out | apply below_alloc | apply pw_below_drewN | apply below_drew1 | refine below_set ?_ GE123.out | refine below_set ?_ GE124.out) | exact HB.out)⟩
                                  · rw [if_neg c47] at H
                                    exact absurd H (by simp)
                                · rw [if_neg c46] at H
                                  exact absurd H (by simp)
                            · replace c40 := Bool.eq_false_iff.mpr c40
                              subst c40
                              have H1 : (if (bt a0 x1_1) = 34 then (emendatorref19_key.j3 kj21 a0 (wrap64 (x1_1 + 1)) (bt a0 x1_1) true x125000_1 (a0.extract (x1_1 : Int).toNat ((wrap64 (x1_1 + 1)) : Int).toNat) (⟨#[]⟩ : ByteArray)) else (emendatorref19_key.j3 kj21 a0 (wrap64 (x1_1 + 1)) (bt a0 x1_1) ((bt a0 x1_1) == 64) x125000_1 (a0.extract (x1_1 : Int).toNat ((wrap64 (x1_1 + 1)) : Int).toNat) (⟨#[]⟩ : ByteArray))) = some (r1, r2, r3, r4, r5) := by rw [if_neg (show ¬ (false = true) by decide)] at H; exact H
                              clear H
                              have H := H1
                              clear H1
                              have HC57 := Aside0.mk H
                              clear H
                              have p30 : 0 ≤ (x1_1 : Int) := of_decide_eq_true (by first | (with_reducible assumption) | assumption)
                              have q30 : x1_1 < (a0.size : Int) := of_decide_eq_true (by first | (with_reducible assumption) | assumption)
                              have hx30 := bt_at a0 x1_1
                              replace p30 := eq_true p30
                              replace q30 := eq_true q30
                              have hnb58 := NB124_123.out
                              have hnc58 := NB123_124.out
                              have hcz59_0 : wc.cell? ⟨gb124, 0, none⟩ = some (.int .i64 x125000_1) := (blk_cell BK124.out 0).trans (by first | rfl | (simp only [*]; first | done | rfl))
                              have hcz59_1 : wc.cell? ⟨gb124, 1, none⟩ = some (.string (⟨#[]⟩ : ByteArray)) := (blk_cell BK124.out 1).trans (by first | rfl | (simp only [*]; first | done | rfl))
                              have hcz59_2 : wc.cell? ⟨gb124, 2, none⟩ = some (.string (⟨#[]⟩ : ByteArray)) := (blk_cell BK124.out 2).trans (by first | rfl | (simp only [*]; first | done | rfl))
                              have hfz59_0 := blk_frozen BK124.out 0
                              have hfz59_1 := blk_frozen BK124.out 1
                              have hfz59_2 := blk_frozen BK124.out 2
                              go_upto_region 20 with (first | ((with_reducible refine gate_callee (f := 29) rfl ?_); refine goesL_ (some 70) rfl rfl Tryd.func29 (by kernel_rfl) rfl #[.string (⟨#[106, 107, 71, 112, 80, 74, 120, 126, 68]⟩ : ByteArray), .int .u8 (bt a0 x1_1)] rfl (by (try simp only [List.map_toArray, List.map_cons, List.map_nil]); first | done | rfl | (simp only [List.length_drop, List.length_take]; rfl)) ?_; (with_reducible refine (emendatorref19_in.calls kj21 (⟨#[106, 107, 71, 112, 80, 74, 120, 126, 68]⟩ : ByteArray) (bt a0 x1_1) false _ A34.out).mono ?_); rintro e w' ⟨rfl, ⟨nd, rfl⟩⟩; refine ⟨_, rfl, ?_⟩) | ((with_reducible refine gate_callee (f := 29) rfl ?_); refine goesL_ (some 74) rfl rfl Tryd.func29 (by kernel_rfl) rfl #[.string (⟨#[103, 100, 121, 62, 60]⟩ : ByteArray), .int .u8 (bt a0 x1_1)] rfl (by (try simp only [List.map_toArray, List.map_cons, List.map_nil]); first | done | rfl | (simp only [List.length_drop, List.length_take]; rfl)) ?_; (with_reducible refine (emendatorref19_in.calls kj21 (⟨#[103, 100, 121, 62, 60]⟩ : ByteArray) (bt a0 x1_1) false _ A39.out).mono ?_); rintro e w' ⟨rfl, ⟨nd, rfl⟩⟩; refine ⟨_, rfl, ?_⟩))
                              (try simp only [Act.put, List.setIfInBounds_toArray, List.set_cons_zero, List.set_cons_succ])
                              go_cut [102] (fun v102 wc => ∃ (kq : Nat) (x102_56 : Bool), v102 = .bool x102_56 ∧ Aside0 (emendatorref19_key.j3 kq a0 (wrap64 (x1_1 + 1)) (bt a0 x1_1) x102_56 x125000_1 (a0.extract (x1_1 : Int).toNat ((wrap64 (x1_1 + 1)) : Int).toNat) (⟨#[]⟩ : ByteArray) = some (r1, r2, r3, r4, r5)) ∧ Aside0 (kq ≤ kj21) ∧ Aside0 (wc.heap[gb123]? = some (.cells #[.int .i64 0, .string (⟨#[]⟩ : ByteArray), .string (⟨#[]⟩ : ByteArray)] 38 (0, 0))) ∧ Aside0 (wc.heap[gb124]? = some (.cells #[.int .i64 x125000_1, .string (a0.extract (x1_1 : Int).toNat ((wrap64 (x1_1 + 1)) : Int).toNat), .string (⟨#[]⟩ : ByteArray)] 38 (0, 0))) ∧ Aside0 (Below w.heap.size w wc))
                              case first =>
                                have H := HC57.out
                                clear HC57
                                by_cases c60 : (bt a0 x1_1) = 34
                                · rw [if_pos c60] at H
                                  have c60b0 : ((bt a0 x1_1) == 34) = true := beq_iff_eq.mpr c60
                                  have c60b1 : ((bt a0 x1_1) != 34) = false := bne_eq_false_iff_eq.mpr c60
                                  clear c60
                                  (first | rw [c60b0] | (simp only [i64_w, i32_w]; rw [c60b0]) | skip)
                                  have H' := Aside0.mk H
                                  clear H
                                  go_wp2
                                  go_meet
                                  case rel => exact ⟨_, (true), (by first | rfl | (simp; done) | (simp [*]; done)), H', ⟨by have := HK1.out; have := HJ6.out; have := HJ21.out; first | omega | exact Nat.le_refl _⟩, ⟨by (with_reducible repeat (first | refine blk_drewN ?_ _ | refine blk_drew ?_ | refine blk_alloc ?_ _)); refine blk_far ?_ NB123_124.out _; (with_reducible repeat (first | refine blk_drewN ?_ _ | refine blk_drew ?_ | refine blk_alloc ?_ _)); exact BK123.out⟩, ⟨by (with_reducible repeat (first | refine blk_drewN ?_ _ | refine blk_drew ?_ | refine blk_alloc ?_ _)); refine blk_put (cs := #[.int .i64 x125000_1, .string (⟨#[]⟩ : ByteArray), .string (⟨#[]⟩ : ByteArray)]) ?_ 1 _ rfl; (with_reducible repeat (first | refine blk_drewN ?_ _ | refine blk_drew ?_ | refine blk_alloc ?_ _)); exact BK124.out⟩, ⟨by repeat (first | (with_reducible first | exact HB.out | apply below_alloc | apply pw_below_drewN | apply below_drew1 | refine below_set ?_ GE123.out | refine below_set ?_ GE124.out) | exact HB.out)⟩⟩
                                · rw [if_neg c60] at H
                                  have c60b0 : ((bt a0 x1_1) == 34) = false := beq_eq_false_iff_ne.mpr c60
                                  have c60b1 : ((bt a0 x1_1) != 34) = true := bne_iff_ne.mpr c60
                                  (first | rw [c60b0] | (simp only [i64_w, i32_w]; rw [c60b0]) | skip)
                                  have H' := Aside0.mk H
                                  clear H
                                  go_wp2
                                  go_meet
                                  case rel => exact ⟨_, (((bt a0 x1_1) == 64)), (by first | rfl | (simp; done) | (simp [*]; done)), H', ⟨by have := HK1.out; have := HJ6.out; have := HJ21.out; first | omega | exact Nat.le_refl _⟩, ⟨by (with_reducible repeat (first | refine blk_drewN ?_ _ | refine blk_drew ?_ | refine blk_alloc ?_ _)); refine blk_far ?_ NB123_124.out _; (with_reducible repeat (first | refine blk_drewN ?_ _ | refine blk_drew ?_ | refine blk_alloc ?_ _)); exact BK123.out⟩, ⟨by (with_reducible repeat (first | refine blk_drewN ?_ _ | refine blk_drew ?_ | refine blk_alloc ?_ _)); refine blk_put (cs := #[.int .i64 x125000_1, .string (⟨#[]⟩ : ByteArray), .string (⟨#[]⟩ : ByteArray)]) ?_ 1 _ rfl; (with_reducible repeat (first | refine blk_drewN ?_ _ | refine blk_drew ?_ | refine blk_alloc ?_ _)); exact BK124.out⟩, ⟨by repeat (first | (with_reducible first | exact HB.out | apply below_alloc | apply pw_below_drewN | apply below_drew1 | refine below_set ?_ GE123.out | refine below_set ?_ GE124.out) | exact HB.out)⟩⟩
                              case rest =>
                                clear HC57
                                try clear c1
                                try clear p1
                                try clear q1
                                try clear hx1
                                try clear c2
                                try clear p2
                                try clear c3
                                try clear p3
                                try clear q3
                                try clear hx3
                                try clear c4
                                try clear p4
                                try clear q4
                                try clear hx4
                                try clear c5
                                try clear c6
                                try clear p6
                                try clear c8
                                try clear c8b0
                                try clear c9
                                try clear c9b0
                                try clear p10
                                try clear q10
                                try clear hx10
                                try clear c12
                                try clear c13
                                try clear c13b0
                                try clear p14
                                try clear q14
                                try clear hx14
                                try clear c15
                                try clear c16
                                try clear c16b0
                                try clear c17
                                try clear c17b0
                                try clear c18
                                try clear c18b0
                                try clear p19
                                try clear q19
                                try clear hx19
                                try clear c23
                                try clear c23b0
                                try clear c24
                                try clear c25
                                try clear c28
                                try clear c28b0
                                try clear c29
                                try clear c29b0
                                try clear p30
                                try clear q30
                                try clear hx30
                                try clear c31
                                try clear c31b0
                                try clear c32
                                try clear c32b0
                                try clear c32b1
                                try clear c33
                                try clear c33b0
                                try clear c33b1
                                try clear c35
                                try clear c36
                                try clear c40
                                try clear c41
                                try clear c41b0
                                try clear c42
                                try clear c46
                                try clear c46b0
                                try clear c47
                                try clear c47b0
                                try clear p48
                                try clear q48
                                try clear hx48
                                try clear c49
                                try clear c49b0
                                try clear c49b1
                                try clear c50
                                try clear c50b0
                                try clear c50b1
                                try clear c50b2
                                try clear c51
                                try clear c54
                                try clear c58
                                try clear c60
                                try clear c60b0
                                try clear c60b1
                                try clear hcz26_0
                                try clear hcz26_1
                                try clear hcz26_2
                                try clear hcz27_0
                                try clear hcz27_1
                                try clear hcz27_2
                                try clear hcz37_0
                                try clear hcz37_1
                                try clear hcz37_2
                                try clear hcz38_0
                                try clear hcz38_1
                                try clear hcz38_2
                                try clear hcz43_0
                                try clear hcz43_1
                                try clear hcz43_2
                                try clear hcz44_0
                                try clear hcz44_1
                                try clear hcz44_2
                                try clear hcz52_0
                                try clear hcz52_1
                                try clear hcz52_2
                                try clear hcz53_0
                                try clear hcz53_1
                                try clear hcz53_2
                                try clear hcz55_0
                                try clear hcz55_1
                                try clear hcz55_2
                                try clear hcz56_0
                                try clear hcz56_1
                                try clear hcz56_2
                                try clear hcz59_0
                                try clear hcz59_1
                                try clear hcz59_2
                                try clear hcz6_0
                                try clear hcz6_1
                                try clear hcz6_2
                                try clear hfz26_0
                                try clear hfz26_1
                                try clear hfz26_2
                                try clear hfz27_0
                                try clear hfz27_1
                                try clear hfz27_2
                                try clear hfz37_0
                                try clear hfz37_1
                                try clear hfz37_2
                                try clear hfz38_0
                                try clear hfz38_1
                                try clear hfz38_2
                                try clear hfz43_0
                                try clear hfz43_1
                                try clear hfz43_2
                                try clear hfz44_0
                                try clear hfz44_1
                                try clear hfz44_2
                                try clear hfz52_0
                                try clear hfz52_1
                                try clear hfz52_2
                                try clear hfz53_0
                                try clear hfz53_1
                                try clear hfz53_2
                                try clear hfz55_0
                                try clear hfz55_1
                                try clear hfz55_2
                                try clear hfz56_0
                                try clear hfz56_1
                                try clear hfz56_2
                                try clear hfz59_0
                                try clear hfz59_1
                                try clear hfz59_2
                                try clear hfz6_0
                                try clear hfz6_1
                                try clear hfz6_2
                                try clear p1
                                try clear p10
                                try clear p14
                                try clear p19
                                try clear p2
                                try clear p30
                                try clear p48
                                try clear p6
                                try clear q1
                                try clear q10
                                try clear q14
                                try clear q19
                                try clear q30
                                try clear q48
                                obtain ⟨kq, x102_56, rfl, HA, HJ56, BK123, BK124, HB⟩ := hcut
                                cases kq with
                                | zero => exact absurd HA.out (by simp [emendatorref19_key.j3])
                                | succ kj56 =>
                                  have H := HA.out
                                  clear HA
                                  simp only [emendatorref19_key.j3] at H
                                  by_cases c61 : x102_56 = true
                                  · subst c61
                                    have H1 : (if (wrap64 (x1_1 + 1)) ≥ (a0.size : Int) then (some (x125000_1, (a0.extract (x1_1 : Int).toNat ((wrap64 (x1_1 + 1)) : Int).toNat), (⟨#[]⟩ : ByteArray), (wrap64 (x1_1 + 1)), false)) else (if 0 ≤ (wrap64 (x1_1 + 1)) then (if (wrap64 (x1_1 + 1)) ≤ (wrap64 ((wrap64 (x1_1 + 1)) + 1)) then (if (wrap64 ((wrap64 (x1_1 + 1)) + 1)) ≤ (a0.size : Int) then (some (x125000_1, (a0.extract (x1_1 : Int).toNat ((wrap64 (x1_1 + 1)) : Int).toNat), a0.extract ((wrap64 (x1_1 + 1)) : Int).toNat ((wrap64 ((wrap64 (x1_1 + 1)) + 1)) : Int).toNat, wrap64 ((wrap64 (x1_1 + 1)) + 1), true)) else (none)) else (none)) else (none))) = some (r1, r2, r3, r4, r5) := by rw [if_pos rfl] at H; exact H
                                    clear H
                                    have H := H1
                                    clear H1
                                    by_cases c62 : (wrap64 (x1_1 + 1)) ≥ (a0.size : Int)
                                    · rw [if_pos c62] at H
                                      have c62b0 : decide ((a0.size : Int) ≤ (wrap64 (x1_1 + 1))) = true := decide_eq_true c62
                                      clear c62
                                      simp only [Option.some.injEq, Prod.mk.injEq] at H
                                      obtain ⟨rfl, rfl, rfl, rfl, rfl⟩ := H
                                      have hnb63 := NB124_123.out
                                      have hnc63 := NB123_124.out
                                      have hcz64_0 : wc.cell? ⟨gb124, 0, none⟩ = some (.int .i64 x125000_1) := (blk_cell BK124.out 0).trans (by first | rfl | (simp only [*]; first | done | rfl))
                                      have hcz64_1 : wc.cell? ⟨gb124, 1, none⟩ = some (.string (a0.extract (x1_1 : Int).toNat ((wrap64 (x1_1 + 1)) : Int).toNat)) := (blk_cell BK124.out 1).trans (by first | rfl | (simp only [*]; first | done | rfl))
                                      have hcz64_2 : wc.cell? ⟨gb124, 2, none⟩ = some (.string (⟨#[]⟩ : ByteArray)) := (blk_cell BK124.out 2).trans (by first | rfl | (simp only [*]; first | done | rfl))
                                      have hfz64_0 := blk_frozen BK124.out 0
                                      have hfz64_1 := blk_frozen BK124.out 1
                                      have hfz64_2 := blk_frozen BK124.out 2
                                      have hcz65_0 : wc.cell? ⟨gb123, 0, none⟩ = some (.int .i64 0) := (blk_cell BK123.out 0).trans (by first | rfl | (simp only [*]; first | done | rfl))
                                      have hcz65_1 : wc.cell? ⟨gb123, 1, none⟩ = some (.string (⟨#[]⟩ : ByteArray)) := (blk_cell BK123.out 1).trans (by first | rfl | (simp only [*]; first | done | rfl))
                                      have hcz65_2 : wc.cell? ⟨gb123, 2, none⟩ = some (.string (⟨#[]⟩ : ByteArray)) := (blk_cell BK123.out 2).trans (by first | rfl | (simp only [*]; first | done | rfl))
                                      have hfz65_0 := blk_frozen BK123.out 0
                                      have hfz65_1 := blk_frozen BK123.out 1
                                      have hfz65_2 := blk_frozen BK123.out 2
                                      go_wp2
                                      refine bodyPost_ret (results_ctt rfl _ _ gb123 38 #[.int .i64 x125000_1, .string (a0.extract (x1_1 : Int).toNat ((wrap64 (x1_1 + 1)) : Int).toNat), .string (⟨#[]⟩ : ByteArray)] (0, 0) _ rfl (by (with_reducible repeat (first | refine blk_drewN ?_ _ | refine blk_drew ?_ | refine blk_alloc ?_ _)); refine blk_put (cs := #[.int .i64 x125000_1, .string (a0.extract (x1_1 : Int).toNat ((wrap64 (x1_1 + 1)) : Int).toNat), .string (⟨#[]⟩ : ByteArray)]) ?_ 2 _ rfl; (with_reducible repeat (first | refine blk_drewN ?_ _ | refine blk_drew ?_ | refine blk_alloc ?_ _)); refine blk_put (cs := #[.int .i64 x125000_1, .string (⟨#[]⟩ : ByteArray), .string (⟨#[]⟩ : ByteArray)]) ?_ 1 _ rfl; (with_reducible repeat (first | refine blk_drewN ?_ _ | refine blk_drew ?_ | refine blk_alloc ?_ _)); refine blk_put (cs := #[.int .i64 0, .string (⟨#[]⟩ : ByteArray), .string (⟨#[]⟩ : ByteArray)]) ?_ 0 _ rfl; (with_reducible repeat (first | refine blk_drewN ?_ _ | refine blk_drew ?_ | refine blk_alloc ?_ _)); exact BK123.out) Tryd.underlying38 rfl (by kernel_rfl)) rfl ?_
                                      exact ⟨by first | rfl | (simp [errW_none, errW_some] <;> rfl) | (simp [*, errW_none, errW_some] <;> rfl), by repeat (first | (with_reducible first | exact HB.out | apply below_alloc | apply pw_below_drewN | apply below_drew1 | refine below_set ?_ GE123.out | refine below_set ?_ GE124.out) | exact HB.out)⟩
                                    · rw [if_neg c62] at H
                                      have c62b0 : decide ((a0.size : Int) ≤ (wrap64 (x1_1 + 1))) = false := decide_eq_false c62
                                      clear c62
                                      obtain ⟨ji66, hji66⟩ : ∃ j_ : Int, (wrap64 (x1_1 + 1)) = j_ := ⟨_, rfl⟩
                                      replace H : (if 0 ≤ (ji66) then (if (ji66) ≤ (wrap64 ((ji66) + 1)) then (if (wrap64 ((ji66) + 1)) ≤ (a0.size : Int) then (some (x125000_1, (a0.extract (x1_1 : Int).toNat ((ji66) : Int).toNat), a0.extract ((ji66) : Int).toNat ((wrap64 ((ji66) + 1)) : Int).toNat, wrap64 ((ji66) + 1), true)) else (none)) else (none)) else (none)) = some (r1, r2, r3, r4, r5) := by first | (rw [hji66] at H; exact H) | (simp only [hji66] at H ⊢; exact H)
                                      (try rw [hji66] at c32b0)
                                      (try rw [hji66] at c32b1)
                                      (try rw [hji66] at c32)
                                      (try rw [hji66] at c33b0)
                                      (try rw [hji66] at c33b1)
                                      (try rw [hji66] at c33)
                                      (try rw [hji66] at c62b0)
                                      have hji66w : (IntKind.i64.wrap (x1_1 + 1)) = ji66 := (i64_w _).trans hji66
                                      by_cases c67 : 0 ≤ (ji66)
                                      · rw [if_pos c67] at H
                                        have c67b0 := eq_true c67
                                        have c67b1 : decide (0 ≤ (ji66)) = true := decide_eq_true c67
                                        clear c67
                                        by_cases c68 : (ji66) ≤ (wrap64 ((ji66) + 1))
                                        · rw [if_pos c68] at H
                                          have c68b0 := eq_true c68
                                          have c68b1 : decide ((ji66) ≤ (wrap64 ((ji66) + 1))) = true := decide_eq_true c68
                                          by_cases c69 : (wrap64 ((ji66) + 1)) ≤ (a0.size : Int)
                                          · rw [if_pos c69] at H
                                            have c69b0 := eq_true c69
                                            have c69b1 : decide ((wrap64 ((ji66) + 1)) ≤ (a0.size : Int)) = true := decide_eq_true c69
                                            simp only [Option.some.injEq, Prod.mk.injEq] at H
                                            obtain ⟨rfl, rfl, rfl, rfl, rfl⟩ := H
                                            have hnb70 := NB124_123.out
                                            have hnc70 := NB123_124.out
                                            have hcz71_0 : wc.cell? ⟨gb124, 0, none⟩ = some (.int .i64 x125000_1) := (blk_cell BK124.out 0).trans (by first | rfl | (simp only [*]; first | done | rfl))
                                            have hcz71_1 : wc.cell? ⟨gb124, 1, none⟩ = some (.string (a0.extract (x1_1 : Int).toNat ((ji66) : Int).toNat)) := (blk_cell BK124.out 1).trans (by first | rfl | (simp only [*]; first | done | rfl))
                                            have hcz71_2 : wc.cell? ⟨gb124, 2, none⟩ = some (.string (⟨#[]⟩ : ByteArray)) := (blk_cell BK124.out 2).trans (by first | rfl | (simp only [*]; first | done | rfl))
                                            have hfz71_0 := blk_frozen BK124.out 0
                                            have hfz71_1 := blk_frozen BK124.out 1
                                            have hfz71_2 := blk_frozen BK124.out 2
                                            have hcz72_0 : wc.cell? ⟨gb123, 0, none⟩ = some (.int .i64 0) := (blk_cell BK123.out 0).trans (by first | rfl | (simp only [*]; first | done | rfl))
                                            have hcz72_1 : wc.cell? ⟨gb123, 1, none⟩ = some (.string (⟨#[]⟩ : ByteArray)) := (blk_cell BK123.out 1).trans (by first | rfl | (simp only [*]; first | done | rfl))
                                            have hcz72_2 : wc.cell? ⟨gb123, 2, none⟩ = some (.string (⟨#[]⟩ : ByteArray)) := (blk_cell BK123.out 2).trans (by first | rfl | (simp only [*]; first | done | rfl))
                                            have hfz72_0 := blk_frozen BK123.out 0
                                            have hfz72_1 := blk_frozen BK123.out 1
                                            have hfz72_2 := blk_frozen BK123.out 2
                                            go_wp2
                                            refine bodyPost_ret (results_ctt rfl _ _ gb123 38 #[.int .i64 x125000_1, .string (a0.extract (x1_1 : Int).toNat ((ji66) : Int).toNat), .string (a0.extract ((ji66) : Int).toNat ((wrap64 ((ji66) + 1)) : Int).toNat)] (0, 0) _ rfl (by (with_reducible repeat (first | refine blk_drewN ?_ _ | refine blk_drew ?_ | refine blk_alloc ?_ _)); refine blk_put (cs := #[.int .i64 x125000_1, .string (a0.extract (x1_1 : Int).toNat ((ji66) : Int).toNat), .string (⟨#[]⟩ : ByteArray)]) ?_ 2 _ rfl; (with_reducible repeat (first | refine blk_drewN ?_ _ | refine blk_drew ?_ | refine blk_alloc ?_ _)); refine blk_put (cs := #[.int .i64 x125000_1, .string (⟨#[]⟩ : ByteArray), .string (⟨#[]⟩ : ByteArray)]) ?_ 1 _ rfl; (with_reducible repeat (first | refine blk_drewN ?_ _ | refine blk_drew ?_ | refine blk_alloc ?_ _)); refine blk_put (cs := #[.int .i64 0, .string (⟨#[]⟩ : ByteArray), .string (⟨#[]⟩ : ByteArray)]) ?_ 0 _ rfl; (with_reducible repeat (first | refine blk_drewN ?_ _ | refine blk_drew ?_ | refine blk_alloc ?_ _)); refine blk_far ?_ NB123_124.out _; (with_reducible repeat (first | refine blk_drewN ?_ _ | refine blk_drew ?_ | refine blk_alloc ?_ _)); exact BK123.out) Tryd.underlying38 rfl (by kernel_rfl)) rfl ?_
                                            exact ⟨by first | rfl | (simp [errW_none, errW_some] <;> rfl) | (simp only [← hji66]; first | rfl | (simp [errW_none, errW_some] <;> rfl)) | (simp [*, errW_none, errW_some] <;> rfl), by repeat (first | (with_reducible first | exact HB.out | apply below_alloc | apply pw_below_drewN | apply below_drew1 | refine below_set ?_ GE123.out | refine below_set ?_ GE124.out) | exact HB.out)⟩
                                          · rw [if_neg c69] at H
                                            exact absurd H (by simp)
                                        · rw [if_neg c68] at H
                                          exact absurd H (by simp)
                                      · rw [if_neg c67] at H
                                        exact absurd H (by simp)
                                  · replace c61 := Bool.eq_false_iff.mpr c61
                                    subst c61
                                    have H1 : ((emendatorref19_in.f kj56 (⟨#[65, 73, 111, 79]⟩ : ByteArray) (bt a0 x1_1)).bind fun t128 => (if t128 = true then (emendatorref19_key.l1 kj56 a0 (wrap64 (x1_1 + 1)) (wrap64 (x1_1 + 1)) x125000_1 (a0.extract (x1_1 : Int).toNat ((wrap64 (x1_1 + 1)) : Int).toNat) (⟨#[]⟩ : ByteArray)) else (some (x125000_1, (a0.extract (x1_1 : Int).toNat ((wrap64 (x1_1 + 1)) : Int).toNat), (⟨#[]⟩ : ByteArray), (wrap64 (x1_1 + 1)), false)))) = some (r1, r2, r3, r4, r5) := by rw [if_neg (show ¬ (false = true) by decide)] at H; exact H
                                    clear H
                                    have H := H1
                                    clear H1
                                    replace H := Option.bind_eq_some_iff.mp H
                                    obtain ⟨t128, A730, H⟩ := H
                                    replace H : (if t128 = true then (emendatorref19_key.l1 kj56 a0 (wrap64 (x1_1 + 1)) (wrap64 (x1_1 + 1)) x125000_1 (a0.extract (x1_1 : Int).toNat ((wrap64 (x1_1 + 1)) : Int).toNat) (⟨#[]⟩ : ByteArray)) else (some (x125000_1, (a0.extract (x1_1 : Int).toNat ((wrap64 (x1_1 + 1)) : Int).toNat), (⟨#[]⟩ : ByteArray), (wrap64 (x1_1 + 1)), false))) = some (r1, r2, r3, r4, r5) := H
                                    have A73 := Aside0.mk A730
                                    clear A730
                                    by_cases c74 : t128 = true
                                    · subst c74
                                      have H1 : (emendatorref19_key.l1 kj56 a0 (wrap64 (x1_1 + 1)) (wrap64 (x1_1 + 1)) x125000_1 (a0.extract (x1_1 : Int).toNat ((wrap64 (x1_1 + 1)) : Int).toNat) (⟨#[]⟩ : ByteArray)) = some (r1, r2, r3, r4, r5) := by rw [if_pos rfl] at H; exact H
                                      clear H
                                      have H := H1
                                      clear H1
                                      have H' := Aside0.mk H
                                      clear H
                                      go_wp2_with (first | ((with_reducible refine gate_callee (f := 29) rfl ?_); refine goesL_ (some 119) rfl rfl Tryd.func29 (by kernel_rfl) rfl #[.string (⟨#[65, 73, 111, 79]⟩ : ByteArray), .int .u8 (bt a0 x1_1)] rfl (by (try simp only [List.map_toArray, List.map_cons, List.map_nil]); first | done | rfl | (simp only [List.length_drop, List.length_take]; rfl)) ?_; (with_reducible refine (emendatorref19_in.calls kj56 (⟨#[65, 73, 111, 79]⟩ : ByteArray) (bt a0 x1_1) true _ A73.out).mono ?_); rintro e w' ⟨rfl, ⟨nd, rfl⟩⟩; refine ⟨_, rfl, ?_⟩))
                                      go_loopg [1] kj56 (fun kq v1 w' => ∃ (x1_5 : Int), v1 = .int .i64 x1_5 ∧ Aside0 (emendatorref19_key.l1 kq a0 x1_5 (wrap64 (x1_1 + 1)) x125000_1 (a0.extract (x1_1 : Int).toNat ((wrap64 (x1_1 + 1)) : Int).toNat) (⟨#[]⟩ : ByteArray) = some (r1, r2, r3, r4, r5)) ∧ Aside0 (kq ≤ kj56) ∧ Aside0 (w'.heap[gb123]? = some (.cells #[.int .i64 0, .string (⟨#[]⟩ : ByteArray), .string (⟨#[]⟩ : ByteArray)] 38 (0, 0))) ∧ Aside0 (w'.heap[gb124]? = some (.cells #[.int .i64 x125000_1, .string (a0.extract (x1_1 : Int).toNat ((wrap64 (x1_1 + 1)) : Int).toNat), .string (⟨#[]⟩ : ByteArray)] 38 (0, 0))) ∧ Aside0 (Below w.heap.size w w'))
                                      case atStart => exact ⟨((wrap64 (x1_1 + 1))), (by first | rfl | (simp; done) | (simp [*]; done)), H', ⟨Nat.le_refl _⟩, ⟨by (with_reducible repeat (first | refine blk_drewN ?_ _ | refine blk_drew ?_ | refine blk_alloc ?_ _)); exact BK123.out⟩, ⟨by (with_reducible repeat (first | refine blk_drewN ?_ _ | refine blk_drew ?_ | refine blk_alloc ?_ _)); exact BK124.out⟩, ⟨by repeat (first | (with_reducible first | exact HB.out | apply below_alloc | apply pw_below_drewN | apply below_drew1 | refine below_set ?_ GE123.out | refine below_set ?_ GE124.out) | exact HB.out)⟩⟩
                                      case round =>
                                        clear H'
                                        try clear c1
                                        try clear p1
                                        try clear q1
                                        try clear hx1
                                        try clear c2
                                        try clear p2
                                        try clear c3
                                        try clear p3
                                        try clear q3
                                        try clear hx3
                                        try clear c4
                                        try clear p4
                                        try clear q4
                                        try clear hx4
                                        try clear c5
                                        try clear c6
                                        try clear p6
                                        try clear c7
                                        try clear c8
                                        try clear c8b0
                                        try clear c9
                                        try clear c9b0
                                        try clear p10
                                        try clear q10
                                        try clear hx10
                                        try clear c12
                                        try clear c13
                                        try clear c13b0
                                        try clear p14
                                        try clear q14
                                        try clear hx14
                                        try clear c15
                                        try clear c16
                                        try clear c16b0
                                        try clear c17
                                        try clear c17b0
                                        try clear c18
                                        try clear c18b0
                                        try clear p19
                                        try clear q19
                                        try clear hx19
                                        try clear c23
                                        try clear c23b0
                                        try clear c24
                                        try clear c25
                                        try clear c28
                                        try clear c28b0
                                        try clear c29
                                        try clear c29b0
                                        try clear p30
                                        try clear q30
                                        try clear hx30
                                        try clear c31
                                        try clear c31b0
                                        try clear c32
                                        try clear c32b0
                                        try clear c32b1
                                        try clear c33
                                        try clear c33b0
                                        try clear c33b1
                                        try clear c35
                                        try clear c36
                                        try clear c40
                                        try clear c41
                                        try clear c41b0
                                        try clear c42
                                        try clear c46
                                        try clear c46b0
                                        try clear c47
                                        try clear c47b0
                                        try clear p48
                                        try clear q48
                                        try clear hx48
                                        try clear c49
                                        try clear c49b0
                                        try clear c49b1
                                        try clear c50
                                        try clear c50b0
                                        try clear c50b1
                                        try clear c50b2
                                        try clear c51
                                        try clear c54
                                        try clear c58
                                        try clear c60
                                        try clear c60b0
                                        try clear c60b1
                                        try clear c61
                                        try clear c62
                                        try clear c62b0
                                        try clear c63
                                        try clear p64
                                        try clear c67
                                        try clear c67b0
                                        try clear c67b1
                                        try clear c68
                                        try clear c68b0
                                        try clear c68b1
                                        try clear c69
                                        try clear c69b0
                                        try clear c69b1
                                        try clear c70
                                        try clear c74
                                        try clear hcz26_0
                                        try clear hcz26_1
                                        try clear hcz26_2
                                        try clear hcz27_0
                                        try clear hcz27_1
                                        try clear hcz27_2
                                        try clear hcz37_0
                                        try clear hcz37_1
                                        try clear hcz37_2
                                        try clear hcz38_0
                                        try clear hcz38_1
                                        try clear hcz38_2
                                        try clear hcz43_0
                                        try clear hcz43_1
                                        try clear hcz43_2
                                        try clear hcz44_0
                                        try clear hcz44_1
                                        try clear hcz44_2
                                        try clear hcz52_0
                                        try clear hcz52_1
                                        try clear hcz52_2
                                        try clear hcz53_0
                                        try clear hcz53_1
                                        try clear hcz53_2
                                        try clear hcz55_0
                                        try clear hcz55_1
                                        try clear hcz55_2
                                        try clear hcz56_0
                                        try clear hcz56_1
                                        try clear hcz56_2
                                        try clear hcz59_0
                                        try clear hcz59_1
                                        try clear hcz59_2
                                        try clear hcz64_0
                                        try clear hcz64_1
                                        try clear hcz64_2
                                        try clear hcz65_0
                                        try clear hcz65_1
                                        try clear hcz65_2
                                        try clear hcz6_0
                                        try clear hcz6_1
                                        try clear hcz6_2
                                        try clear hcz71_0
                                        try clear hcz71_1
                                        try clear hcz71_2
                                        try clear hcz72_0
                                        try clear hcz72_1
                                        try clear hcz72_2
                                        try clear hfz26_0
                                        try clear hfz26_1
                                        try clear hfz26_2
                                        try clear hfz27_0
                                        try clear hfz27_1
                                        try clear hfz27_2
                                        try clear hfz37_0
                                        try clear hfz37_1
                                        try clear hfz37_2
                                        try clear hfz38_0
                                        try clear hfz38_1
                                        try clear hfz38_2
                                        try clear hfz43_0
                                        try clear hfz43_1
                                        try clear hfz43_2
                                        try clear hfz44_0
                                        try clear hfz44_1
                                        try clear hfz44_2
                                        try clear hfz52_0
                                        try clear hfz52_1
                                        try clear hfz52_2
                                        try clear hfz53_0
                                        try clear hfz53_1
                                        try clear hfz53_2
                                        try clear hfz55_0
                                        try clear hfz55_1
                                        try clear hfz55_2
                                        try clear hfz56_0
                                        try clear hfz56_1
                                        try clear hfz56_2
                                        try clear hfz59_0
                                        try clear hfz59_1
                                        try clear hfz59_2
                                        try clear hfz64_0
                                        try clear hfz64_1
                                        try clear hfz64_2
                                        try clear hfz65_0
                                        try clear hfz65_1
                                        try clear hfz65_2
                                        try clear hfz6_0
                                        try clear hfz6_1
                                        try clear hfz6_2
                                        try clear hfz71_0
                                        try clear hfz71_1
                                        try clear hfz71_2
                                        try clear hfz72_0
                                        try clear hfz72_1
                                        try clear hfz72_2
                                        try clear p1
                                        try clear p10
                                        try clear p14
                                        try clear p19
                                        try clear p2
                                        try clear p3
                                        try clear p30
                                        try clear p4
                                        try clear p48
                                        try clear p6
                                        try clear q1
                                        try clear q10
                                        try clear q14
                                        try clear q19
                                        try clear q3
                                        try clear q30
                                        try clear q4
                                        try clear q48
                                        obtain ⟨x1_5, rfl, HA, HK5, BK123, BK124, HB⟩ := hrel
                                        cases gk with
                                        | zero => exact absurd HA.out (by simp [emendatorref19_key.l1])
                                        | succ k5 =>
                                          have H := HA.out
                                          clear HA
                                          simp only [emendatorref19_key.l1] at H
                                          by_cases c75 : x1_5 < (a0.size : Int)
                                          · rw [if_pos c75] at H
                                            have c75b0 : decide (x1_5 < (a0.size : Int)) = true := decide_eq_true c75
                                            clear c75
                                            by_cases c76 : 0 ≤ x1_5
                                            · rw [if_pos c76] at H
                                              have c76b0 : decide (0 ≤ x1_5) = true := decide_eq_true c76
                                              clear c76
                                              by_cases c78 : (bt a0 x1_5) = 27
                                              · rw [if_pos c78] at H
                                                have c78b0 : ((bt a0 x1_5) == 27) = true := beq_iff_eq.mpr c78
                                                have c78b1 : ((bt a0 x1_5) != 27) = false := bne_eq_false_iff_eq.mpr c78
                                                clear c78
                                                obtain ⟨ji79, hji79⟩ : ∃ j_ : Int, (wrap64 (x1_1 + 1)) = j_ := ⟨_, rfl⟩
                                                replace H : (if 0 ≤ (ji79) then (if (ji79) ≤ x1_5 then (if x1_5 ≤ (a0.size : Int) then (some (x125000_1, (a0.extract (x1_1 : Int).toNat ((ji79) : Int).toNat), a0.extract ((ji79) : Int).toNat (x1_5 : Int).toNat, mn (wrap64 (x1_5 + 1)) (a0.size : Int), true)) else (none)) else (none)) else (none)) = some (r1, r2, r3, r4, r5) := by first | (rw [hji79] at H; exact H) | (simp only [hji79] at H ⊢; exact H)
                                                (try rw [hji79] at c32b0)
                                                (try rw [hji79] at c32b1)
                                                (try rw [hji79] at c32)
                                                (try rw [hji79] at c33b0)
                                                (try rw [hji79] at c33b1)
                                                (try rw [hji79] at c33)
                                                have hji79w : (IntKind.i64.wrap (x1_1 + 1)) = ji79 := (i64_w _).trans hji79
                                                by_cases c80 : 0 ≤ (ji79)
                                                · rw [if_pos c80] at H
                                                  have c80b0 := eq_true c80
                                                  have c80b1 : decide (0 ≤ (ji79)) = true := decide_eq_true c80
                                                  clear c80
                                                  by_cases c81 : (ji79) ≤ x1_5
                                                  · rw [if_pos c81] at H
                                                    have c81b0 := eq_true c81
                                                    have c81b1 : decide ((ji79) ≤ x1_5) = true := decide_eq_true c81
                                                    clear c81
                                                    by_cases c82 : x1_5 ≤ (a0.size : Int)
                                                    · rw [if_pos c82] at H
                                                      have c82b0 := eq_true c82
                                                      have c82b1 : decide (x1_5 ≤ (a0.size : Int)) = true := decide_eq_true c82
                                                      clear c82
                                                      obtain ⟨ji83, hji83⟩ : ∃ j_ : Int, (mn (wrap64 (x1_5 + 1)) (a0.size : Int)) = j_ := ⟨_, rfl⟩
                                                      replace H : (some (x125000_1, (a0.extract (x1_1 : Int).toNat ((ji79) : Int).toNat), a0.extract ((ji79) : Int).toNat (x1_5 : Int).toNat, ji83, true)) = some (r1, r2, r3, r4, r5) := by first | (rw [hji83] at H; exact H) | (simp only [hji83] at H ⊢; exact H)
                                                      have hji83_ : (if (a0.size : Int) < (wrap64 (x1_5 + 1)) then (a0.size : Int) else (wrap64 (x1_5 + 1))) = ji83 := hji83
                                                      simp only [Option.some.injEq, Prod.mk.injEq] at H
                                                      obtain ⟨rfl, rfl, rfl, rfl, rfl⟩ := H
                                                      have p77 : 0 ≤ (x1_5 : Int) := of_decide_eq_true (by first | (with_reducible assumption) | assumption)
                                                      have q77 : x1_5 < (a0.size : Int) := of_decide_eq_true (by first | (with_reducible assumption) | assumption)
                                                      have hx77 := bt_at a0 x1_5
                                                      replace p77 := eq_true p77
                                                      replace q77 := eq_true q77
                                                      have hnb84 := NB124_123.out
                                                      have hnc84 := NB123_124.out
                                                      have hcz85_0 : wr.cell? ⟨gb124, 0, none⟩ = some (.int .i64 x125000_1) := (blk_cell BK124.out 0).trans (by first | rfl | (simp only [*]; first | done | rfl))
                                                      have hcz85_1 : wr.cell? ⟨gb124, 1, none⟩ = some (.string (a0.extract (x1_1 : Int).toNat ((ji79) : Int).toNat)) := (blk_cell BK124.out 1).trans (by first | rfl | (simp only [*]; first | done | rfl))
                                                      have hcz85_2 : wr.cell? ⟨gb124, 2, none⟩ = some (.string (⟨#[]⟩ : ByteArray)) := (blk_cell BK124.out 2).trans (by first | rfl | (simp only [*]; first | done | rfl))
                                                      have hfz85_0 := blk_frozen BK124.out 0
                                                      have hfz85_1 := blk_frozen BK124.out 1
                                                      have hfz85_2 := blk_frozen BK124.out 2
                                                      have hcz86_0 : wr.cell? ⟨gb123, 0, none⟩ = some (.int .i64 0) := (blk_cell BK123.out 0).trans (by first | rfl | (simp only [*]; first | done | rfl))
                                                      have hcz86_1 : wr.cell? ⟨gb123, 1, none⟩ = some (.string (⟨#[]⟩ : ByteArray)) := (blk_cell BK123.out 1).trans (by first | rfl | (simp only [*]; first | done | rfl))
                                                      have hcz86_2 : wr.cell? ⟨gb123, 2, none⟩ = some (.string (⟨#[]⟩ : ByteArray)) := (blk_cell BK123.out 2).trans (by first | rfl | (simp only [*]; first | done | rfl))
                                                      have hfz86_0 := blk_frozen BK123.out 0
                                                      have hfz86_1 := blk_frozen BK123.out 1
                                                      have hfz86_2 := blk_frozen BK123.out 2
                                                      go_wp2
                                                      refine bodyPost_ret (results_ctt rfl _ _ gb123 38 #[.int .i64 x125000_1, .string (a0.extract (x1_1 : Int).toNat ((ji79) : Int).toNat), .string (a0.extract ((ji79) : Int).toNat (x1_5 : Int).toNat)] (0, 0) _ rfl (by (with_reducible repeat (first | refine blk_drewN ?_ _ | refine blk_drew ?_ | refine blk_alloc ?_ _)); refine blk_put (cs := #[.int .i64 x125000_1, .string (a0.extract (x1_1 : Int).toNat ((ji79) : Int).toNat), .string (⟨#[]⟩ : ByteArray)]) ?_ 2 _ rfl; (with_reducible repeat (first | refine blk_drewN ?_ _ | refine blk_drew ?_ | refine blk_alloc ?_ _)); refine blk_put (cs := #[.int .i64 x125000_1, .string (⟨#[]⟩ : ByteArray), .string (⟨#[]⟩ : ByteArray)]) ?_ 1 _ rfl; (with_reducible repeat (first | refine blk_drewN ?_ _ | refine blk_drew ?_ | refine blk_alloc ?_ _)); refine blk_put (cs := #[.int .i64 0, .string (⟨#[]⟩ : ByteArray), .string (⟨#[]⟩ : ByteArray)]) ?_ 0 _ rfl; (with_reducible repeat (first | refine blk_drewN ?_ _ | refine blk_drew ?_ | refine blk_alloc ?_ _)); refine blk_far ?_ NB123_124.out _; (with_reducible repeat (first | refine blk_drewN ?_ _ | refine blk_drew ?_ | refine blk_alloc ?_ _)); exact BK123.out) Tryd.underlying38 rfl (by kernel_rfl)) rfl ?_
                                                      exact ⟨by first | rfl | (simp [errW_none, errW_some] <;> rfl) | (simp only [← hji79, ← hji83]; first | rfl | (simp [errW_none, errW_some] <;> rfl)) | (simp [*, errW_none, errW_some] <;> rfl), by repeat (first | (with_reducible first | exact HB.out | apply below_alloc | apply pw_below_drewN | apply below_drew1 | refine below_set ?_ GE123.out | refine below_set ?_ GE124.out) | exact HB.out)⟩
                                                    · rw [if_neg c82] at H
                                                      exact absurd H (by simp)
                                                  · rw [if_neg c81] at H
                                                    exact absurd H (by simp)
                                                · rw [if_neg c80] at H
                                                  exact absurd H (by simp)
                                              · rw [if_neg c78] at H
                                                have c78b0 : ((bt a0 x1_5) == 27) = false := beq_eq_false_iff_ne.mpr c78
                                                have c78b1 : ((bt a0 x1_5) != 27) = true := bne_iff_ne.mpr c78
                                                have H' := Aside0.mk H
                                                clear H
                                                have p77 : 0 ≤ (x1_5 : Int) := of_decide_eq_true (by first | (with_reducible assumption) | assumption)
                                                have q77 : x1_5 < (a0.size : Int) := of_decide_eq_true (by first | (with_reducible assumption) | assumption)
                                                have hx77 := bt_at a0 x1_5
                                                replace p77 := eq_true p77
                                                replace q77 := eq_true q77
                                                go_wp2
                                                go_roundg k5
                                                case measure => have := HK1.out; have := HJ6.out; have := HJ21.out; have := HJ56.out; have := HK5.out; omega
                                                case rel => exact ⟨(wrap64 (x1_5 + 1)), (by first | rfl | (simp; done) | (simp [*]; done)), H', ⟨by have := HK1.out; have := HJ6.out; have := HJ21.out; have := HJ56.out; have := HK5.out; omega⟩, ⟨by (with_reducible repeat (first | refine blk_drewN ?_ _ | refine blk_drew ?_ | refine blk_alloc ?_ _)); exact BK123.out⟩, ⟨by (with_reducible repeat (first | refine blk_drewN ?_ _ | refine blk_drew ?_ | refine blk_alloc ?_ _)); exact BK124.out⟩, ⟨by repeat (first | (with_reducible first | exact HB.out | apply below_alloc | apply pw_below_drewN | apply below_drew1 | refine below_set ?_ GE123.out | refine below_set ?_ GE124.out) | exact HB.out)⟩⟩
                                            · rw [if_neg c76] at H
                                              exact absurd H (by simp)
                                          · rw [if_neg c75] at H
                                            have c75b0 : decide (x1_5 < (a0.size : Int)) = false := decide_eq_false c75
                                            clear c75
                                            obtain ⟨ji87, hji87⟩ : ∃ j_ : Int, (wrap64 (x1_1 + 1)) = j_ := ⟨_, rfl⟩
                                            replace H : (if 0 ≤ (ji87) then (if (ji87) ≤ x1_5 then (if x1_5 ≤ (a0.size : Int) then (some (x125000_1, (a0.extract (x1_1 : Int).toNat ((ji87) : Int).toNat), a0.extract ((ji87) : Int).toNat (x1_5 : Int).toNat, mn (wrap64 (x1_5 + 1)) (a0.size : Int), true)) else (none)) else (none)) else (none)) = some (r1, r2, r3, r4, r5) := by first | (rw [hji87] at H; exact H) | (simp only [hji87] at H ⊢; exact H)
                                            (try rw [hji87] at c32b0)
                                            (try rw [hji87] at c32b1)
                                            (try rw [hji87] at c32)
                                            (try rw [hji87] at c33b0)
                                            (try rw [hji87] at c33b1)
                                            (try rw [hji87] at c33)
                                            have hji87w : (IntKind.i64.wrap (x1_1 + 1)) = ji87 := (i64_w _).trans hji87
                                            by_cases c88 : 0 ≤ (ji87)
                                            · rw [if_pos c88] at H
                                              have c88b0 := eq_true c88
                                              have c88b1 : decide (0 ≤ (ji87)) = true := decide_eq_true c88
                                              clear c88
                                              by_cases c89 : (ji87) ≤ x1_5
                                              · rw [if_pos c89] at H
                                                have c89b0 := eq_true c89
                                                have c89b1 : decide ((ji87) ≤ x1_5) = true := decide_eq_true c89
                                                clear c89
                                                by_cases c90 : x1_5 ≤ (a0.size : Int)
                                                · rw [if_pos c90] at H
                                                  have c90b0 := eq_true c90
                                                  have c90b1 : decide (x1_5 ≤ (a0.size : Int)) = true := decide_eq_true c90
                                                  clear c90
                                                  obtain ⟨ji91, hji91⟩ : ∃ j_ : Int, (mn (wrap64 (x1_5 + 1)) (a0.size : Int)) = j_ := ⟨_, rfl⟩
                                                  replace H : (some (x125000_1, (a0.extract (x1_1 : Int).toNat ((ji87) : Int).toNat), a0.extract ((ji87) : Int).toNat (x1_5 : Int).toNat, ji91, true)) = some (r1, r2, r3, r4, r5) := by first | (rw [hji91] at H; exact H) | (simp only [hji91] at H ⊢; exact H)
                                                  have hji91_ : (if (a0.size : Int) < (wrap64 (x1_5 + 1)) then (a0.size : Int) else (wrap64 (x1_5 + 1))) = ji91 := hji91
                                                  simp only [Option.some.injEq, Prod.mk.injEq] at H
                                                  obtain ⟨rfl, rfl, rfl, rfl, rfl⟩ := H
                                                  have hnb92 := NB124_123.out
                                                  have hnc92 := NB123_124.out
                                                  have hcz93_0 : wr.cell? ⟨gb124, 0, none⟩ = some (.int .i64 x125000_1) := (blk_cell BK124.out 0).trans (by first | rfl | (simp only [*]; first | done | rfl))
                                                  have hcz93_1 : wr.cell? ⟨gb124, 1, none⟩ = some (.string (a0.extract (x1_1 : Int).toNat ((ji87) : Int).toNat)) := (blk_cell BK124.out 1).trans (by first | rfl | (simp only [*]; first | done | rfl))
                                                  have hcz93_2 : wr.cell? ⟨gb124, 2, none⟩ = some (.string (⟨#[]⟩ : ByteArray)) := (blk_cell BK124.out 2).trans (by first | rfl | (simp only [*]; first | done | rfl))
                                                  have hfz93_0 := blk_frozen BK124.out 0
                                                  have hfz93_1 := blk_frozen BK124.out 1
                                                  have hfz93_2 := blk_frozen BK124.out 2
                                                  have hcz94_0 : wr.cell? ⟨gb123, 0, none⟩ = some (.int .i64 0) := (blk_cell BK123.out 0).trans (by first | rfl | (simp only [*]; first | done | rfl))
                                                  have hcz94_1 : wr.cell? ⟨gb123, 1, none⟩ = some (.string (⟨#[]⟩ : ByteArray)) := (blk_cell BK123.out 1).trans (by first | rfl | (simp only [*]; first | done | rfl))
                                                  have hcz94_2 : wr.cell? ⟨gb123, 2, none⟩ = some (.string (⟨#[]⟩ : ByteArray)) := (blk_cell BK123.out 2).trans (by first | rfl | (simp only [*]; first | done | rfl))
                                                  have hfz94_0 := blk_frozen BK123.out 0
                                                  have hfz94_1 := blk_frozen BK123.out 1
                                                  have hfz94_2 := blk_frozen BK123.out 2
                                                  go_wp2
                                                  refine bodyPost_ret (results_ctt rfl _ _ gb123 38 #[.int .i64 x125000_1, .string (a0.extract (x1_1 : Int).toNat ((ji87) : Int).toNat), .string (a0.extract ((ji87) : Int).toNat (x1_5 : Int).toNat)] (0, 0) _ rfl (by (with_reducible repeat (first | refine blk_drewN ?_ _ | refine blk_drew ?_ | refine blk_alloc ?_ _)); refine blk_put (cs := #[.int .i64 x125000_1, .string (a0.extract (x1_1 : Int).toNat ((ji87) : Int).toNat), .string (⟨#[]⟩ : ByteArray)]) ?_ 2 _ rfl; (with_reducible repeat (first | refine blk_drewN ?_ _ | refine blk_drew ?_ | refine blk_alloc ?_ _)); refine blk_put (cs := #[.int .i64 x125000_1, .string (⟨#[]⟩ : ByteArray), .string (⟨#[]⟩ : ByteArray)]) ?_ 1 _ rfl; (with_reducible repeat (first | refine blk_drewN ?_ _ | refine blk_drew ?_ | refine blk_alloc ?_ _)); refine blk_put (cs := #[.int .i64 0, .string (⟨#[]⟩ : ByteArray), .string (⟨#[]⟩ : ByteArray)]) ?_ 0 _ rfl; (with_reducible repeat (first | refine blk_drewN ?_ _ | refine blk_drew ?_ | refine blk_alloc ?_ _)); refine blk_far ?_ NB123_124.out _; (with_reducible repeat (first | refine blk_drewN ?_ _ | refine blk_drew ?_ | refine blk_alloc ?_ _)); exact BK123.out) Tryd.underlying38 rfl (by kernel_rfl)) rfl ?_
                                                  exact ⟨by first | rfl | (simp [errW_none, errW_some] <;> rfl) | (simp only [← hji87, ← hji91]; first | rfl | (simp [errW_none, errW_some] <;> rfl)) | (simp [*, errW_none, errW_some] <;> rfl), by repeat (first | (with_reducible first | exact HB.out | apply below_alloc | apply pw_below_drewN | apply below_drew1 | refine below_set ?_ GE123.out | refine below_set ?_ GE124.out) | exact HB.out)⟩
                                                · rw [if_neg c90] at H
                                                  exact absurd H (by simp)
                                              · rw [if_neg c89] at H
                                                exact absurd H (by simp)
                                            · rw [if_neg c88] at H
                                              exact absurd H (by simp)
                                    · replace c74 := Bool.eq_false_iff.mpr c74
                                      subst c74
                                      have H1 : (some (x125000_1, (a0.extract (x1_1 : Int).toNat ((wrap64 (x1_1 + 1)) : Int).toNat), (⟨#[]⟩ : ByteArray), (wrap64 (x1_1 + 1)), false)) = some (r1, r2, r3, r4, r5) := by rw [if_neg (show ¬ (false = true) by decide)] at H; exact H
                                      clear H
                                      have H := H1
                                      clear H1
                                      simp only [Option.some.injEq, Prod.mk.injEq] at H
                                      obtain ⟨rfl, rfl, rfl, rfl, rfl⟩ := H
                                      go_wp2_with (first | ((with_reducible refine gate_callee (f := 29) rfl ?_); refine goesL_ (some 119) rfl rfl Tryd.func29 (by kernel_rfl) rfl #[.string (⟨#[65, 73, 111, 79]⟩ : ByteArray), .int .u8 (bt a0 x1_1)] rfl (by (try simp only [List.map_toArray, List.map_cons, List.map_nil]); first | done | rfl | (simp only [List.length_drop, List.length_take]; rfl)) ?_; (with_reducible refine (emendatorref19_in.calls kj56 (⟨#[65, 73, 111, 79]⟩ : ByteArray) (bt a0 x1_1) false _ A73.out).mono ?_); rintro e w' ⟨rfl, ⟨nd, rfl⟩⟩; refine ⟨_, rfl, ?_⟩; (try (rw [drewN_self wc]; generalize hq_ : World.drewN wc _ = wc; have n0_ : Aside0 (wc.heap[gb123]? = some (.cells #[.int .i64 0, .string (⟨#[]⟩ : ByteArray), .string (⟨#[]⟩ : ByteArray)] 38 (0, 0))) := ⟨by rw [← hq_]; exact (by (with_reducible repeat (first | refine blk_drewN ?_ _ | refine blk_drew ?_ | refine blk_alloc ?_ _)); exact BK123.out)⟩; have n1_ : Aside0 (wc.heap[gb124]? = some (.cells #[.int .i64 x125000_1, .string (a0.extract (x1_1 : Int).toNat ((wrap64 (x1_1 + 1)) : Int).toNat), .string (⟨#[]⟩ : ByteArray)] 38 (0, 0))) := ⟨by rw [← hq_]; exact (by (with_reducible repeat (first | refine blk_drewN ?_ _ | refine blk_drew ?_ | refine blk_alloc ?_ _)); exact BK124.out)⟩; have n2_ : Aside0 (Below w.heap.size w wc) := ⟨by rw [← hq_]; exact (by repeat (first | (with_reducible first | exact HB.out | apply below_alloc | apply pw_below_drewN | apply below_drew1 | refine below_set ?_ GE123.out | refine below_set ?_ GE124.out) | exact HB.out))⟩; clear BK123 BK124 HB hq_; have BK123 := n0_; have BK124 := n1_; have HB := n2_; clear n0_ n1_ n2_)); have hnb95 := NB124_123.out; have hnc95 := NB123_124.out; have hcz96_0 : wc.cell? ⟨gb124, 0, none⟩ = some (.int .i64 x125000_1) := (blk_cell BK124.out 0).trans (by first | rfl | (simp only [*]; first | done | rfl)); have hcz96_1 : wc.cell? ⟨gb124, 1, none⟩ = some (.string (a0.extract (x1_1 : Int).toNat ((wrap64 (x1_1 + 1)) : Int).toNat)) := (blk_cell BK124.out 1).trans (by first | rfl | (simp only [*]; first | done | rfl)); have hcz96_2 : wc.cell? ⟨gb124, 2, none⟩ = some (.string (⟨#[]⟩ : ByteArray)) := (blk_cell BK124.out 2).trans (by first | rfl | (simp only [*]; first | done | rfl)); have hfz96_0 := blk_frozen BK124.out 0; have hfz96_1 := blk_frozen BK124.out 1; have hfz96_2 := blk_frozen BK124.out 2; have hcz97_0 : wc.cell? ⟨gb123, 0, none⟩ = some (.int .i64 0) := (blk_cell BK123.out 0).trans (by first | rfl | (simp only [*]; first | done | rfl)); have hcz97_1 : wc.cell? ⟨gb123, 1, none⟩ = some (.string (⟨#[]⟩ : ByteArray)) := (blk_cell BK123.out 1).trans (by first | rfl | (simp only [*]; first | done | rfl)); have hcz97_2 : wc.cell? ⟨gb123, 2, none⟩ = some (.string (⟨#[]⟩ : ByteArray)) := (blk_cell BK123.out 2).trans (by first | rfl | (simp only [*]; first | done | rfl)); have hfz97_0 := blk_frozen BK123.out 0; have hfz97_1 := blk_frozen BK123.out 1; have hfz97_2 := blk_frozen BK123.out 2))
                                      refine bodyPost_ret (results_ctt rfl _ _ gb123 38 #[.int .i64 x125000_1, .string (a0.extract (x1_1 : Int).toNat ((wrap64 (x1_1 + 1)) : Int).toNat), .string (⟨#[]⟩ : ByteArray)] (0, 0) _ rfl (by (with_reducible repeat (first | refine blk_drewN ?_ _ | refine blk_drew ?_ | refine blk_alloc ?_ _)); refine blk_put (cs := #[.int .i64 x125000_1, .string (a0.extract (x1_1 : Int).toNat ((wrap64 (x1_1 + 1)) : Int).toNat), .string (⟨#[]⟩ : ByteArray)]) ?_ 2 _ rfl; (with_reducible repeat (first | refine blk_drewN ?_ _ | refine blk_drew ?_ | refine blk_alloc ?_ _)); refine blk_put (cs := #[.int .i64 x125000_1, .string (⟨#[]⟩ : ByteArray), .string (⟨#[]⟩ : ByteArray)]) ?_ 1 _ rfl; (with_reducible repeat (first | refine blk_drewN ?_ _ | refine blk_drew ?_ | refine blk_alloc ?_ _)); refine blk_put (cs := #[.int .i64 0, .string (⟨#[]⟩ : ByteArray), .string (⟨#[]⟩ : ByteArray)]) ?_ 0 _ rfl; (with_reducible repeat (first | refine blk_drewN ?_ _ | refine blk_drew ?_ | refine blk_alloc ?_ _)); exact BK123.out) Tryd.underlying38 rfl (by kernel_rfl)) rfl ?_
                                      exact ⟨by first | rfl | (simp [errW_none, errW_some] <;> rfl) | (simp [*, errW_none, errW_some] <;> rfl), by repeat (first | (with_reducible first | exact HB.out | apply below_alloc | apply pw_below_drewN | apply below_drew1 | refine below_set ?_ GE123.out | refine below_set ?_ GE124.out) | exact HB.out)⟩
                        · rw [if_neg c33] at H
                          exact absurd H (by simp)
                      · rw [if_neg c32] at H
                        exact absurd H (by simp)
                    · rw [if_neg c29] at H
                      exact absurd H (by simp)
                  · rw [if_neg c28] at H
                    exact absurd H (by simp)

end Go.Proofs.YtdkdoomjihflbaaDoor.NL
