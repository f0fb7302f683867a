/- the chapter's example of prog: walked. -/
import Derived.Test.YtjdlbejmdjcajaaGreatKnA
set_option linter.unusedVariables false
set_option linter.unusedSimpArgs false
namespace Go.Proofs.YtjdlbejmdjcajaaGreat
open Go.RowKit Go.Shelf Go.Maps Go.Proofs.YtjdlbejmdjcajaaGreatW.PrintWords Go.Proofs.YtjdlbejmdjcajaaGreatW.PrintLast

set_option maxRecDepth 100000 in
set_option maxHeartbeats 4000000 in
theorem known04_any (w : World) : Calls Tryz.prog 5 #[] w fun e w' => e = .returned (.bool true) ∧ Below w.heap.size w w' := by
  have HP := Lib.hid (parse_any (s := ⟨#[97, 42]⟩) (last := ⟨#[]⟩) (fun G => signok_star [97, 42] _ _ G) parse_astar (by decide) (by decide) w)
  go_enter Tryz.func5, Tryz.ntmps5
  go_wp2_with fail
  refine HP.out.mono ?_
  rintro e w1 ⟨nv, rfl, hb1, hn1⟩
  have e1 : ((ptStar.root : Nat) : Int) = 1 := rfl
  have e2 : ((ptStar.groups : Nat) : Int) = 0 := rfl
  have e3 : ptStar.case = 0 := rfl
  rw [e1, e2, e3]
  clear e1 e2 e3
  obtain ⟨An, cn, rfl, _⟩ := hn1.slice
  have hal := below_alloc (Below.refl w1.heap.size w1) (.cells #[.slice An ptStar.nk.length cn, .int .i64 1, .int .i64 0, .int .u8 0] 29)
  have hn2 := hn1.step hal.size (F' := fun _ => True) fun b _ hl => ⟨hal.block b hl, trivial⟩
  have HC := Lib.hid (comp_any (cs := 0) (g := 0) hn2 (by decide) nocat_astar sound_astar true comp_astar (fun h => by cases h))
  have HB := Lib.hid (hb1.trans (hal.mono hb1.size))
  clear hb1 hn1 hal hn2
  go_wp2_with fail
  refine HC.out.mono ?_
  rintro e w2 ⟨cvv, rfl, hb2, hcm⟩
  have HB2 := Lib.hid (HB.out.trans (hb2.mono HB.out.size))
  have hal2 := below_alloc (Below.refl w2.heap.size w2) (.cells #[cvv, .int .i64 ((1 : Nat) : Int), .bool (foldP 0 true)] 24)
  have HB3 := Lib.hid (HB2.out.trans (hal2.mono HB2.out.size))
  have hcm2 := hcm.step hal2.size (F' := fun _ => True) fun b _ hl => ⟨hal2.block b hl, trivial⟩
  obtain ⟨A, c, rfl, hc, hmx, hcc⟩ := hcm2
  obtain ⟨b, o, rfl, _, hbl, hcell⟩ := hcc (by decide)
  have x0 := hcell 0 _ rfl
  have x4 := hcell 4 _ rfl
  have x5 := hcell 5 _ rfl
  rw [show foldP 0 true = true from rfl] at x0 x4 x5 ⊢
  have a0 : (w2.alloc (.cells #[.slice (some ⟨b, o, none⟩) 6 c, .int .i64 1, .bool true] 24)).cell? ⟨b, o, none⟩ = some (.int .u8 4) := x0 0 _ rfl
  have a1 : (w2.alloc (.cells #[.slice (some ⟨b, o, none⟩) 6 c, .int .i64 1, .bool true] 24)).cell? ⟨b, o + 1, none⟩ = some (.int .u8 0) := x0 1 _ rfl
  have a2 : (w2.alloc (.cells #[.slice (some ⟨b, o, none⟩) 6 c, .int .i64 1, .bool true] 24)).cell? ⟨b, o + 2, none⟩ = some (.int .u64 0) := x0 2 _ rfl
  have a3 : (w2.alloc (.cells #[.slice (some ⟨b, o, none⟩) 6 c, .int .i64 1, .bool true] 24)).cell? ⟨b, o + 3, none⟩ = some (.int .u64 0) := x0 3 _ rfl
  have a4 : (w2.alloc (.cells #[.slice (some ⟨b, o, none⟩) 6 c, .int .i64 1, .bool true] 24)).cell? ⟨b, o + 4, none⟩ = some (.int .u64 0) := x0 4 _ rfl
  have a5 : (w2.alloc (.cells #[.slice (some ⟨b, o, none⟩) 6 c, .int .i64 1, .bool true] 24)).cell? ⟨b, o + 5, none⟩ = some (.int .u64 0) := x0 5 _ rfl
  have a6 : (w2.alloc (.cells #[.slice (some ⟨b, o, none⟩) 6 c, .int .i64 1, .bool true] 24)).cell? ⟨b, o + 6, none⟩ = some (.int .i64 1) := x0 6 _ rfl
  have a7 : (w2.alloc (.cells #[.slice (some ⟨b, o, none⟩) 6 c, .int .i64 1, .bool true] 24)).cell? ⟨b, o + 7, none⟩ = some (.int .i64 5) := x0 7 _ rfl
  have b0 : (w2.alloc (.cells #[.slice (some ⟨b, o, none⟩) 6 c, .int .i64 1, .bool true] 24)).cell? ⟨b, o + 32, none⟩ = some (.int .u8 5) := x4 0 _ rfl
  have b1 : (w2.alloc (.cells #[.slice (some ⟨b, o, none⟩) 6 c, .int .i64 1, .bool true] 24)).cell? ⟨b, o + 32 + 1, none⟩ = some (.int .u8 0) := x4 1 _ rfl
  have b2 : (w2.alloc (.cells #[.slice (some ⟨b, o, none⟩) 6 c, .int .i64 1, .bool true] 24)).cell? ⟨b, o + 32 + 2, none⟩ = some (.int .u64 0) := x4 2 _ rfl
  have b3 : (w2.alloc (.cells #[.slice (some ⟨b, o, none⟩) 6 c, .int .i64 1, .bool true] 24)).cell? ⟨b, o + 32 + 3, none⟩ = some (.int .u64 0) := x4 3 _ rfl
  have b4 : (w2.alloc (.cells #[.slice (some ⟨b, o, none⟩) 6 c, .int .i64 1, .bool true] 24)).cell? ⟨b, o + 32 + 4, none⟩ = some (.int .u64 0) := x4 4 _ rfl
  have b5 : (w2.alloc (.cells #[.slice (some ⟨b, o, none⟩) 6 c, .int .i64 1, .bool true] 24)).cell? ⟨b, o + 32 + 5, none⟩ = some (.int .u64 0) := x4 5 _ rfl
  have b6 : (w2.alloc (.cells #[.slice (some ⟨b, o, none⟩) 6 c, .int .i64 1, .bool true] 24)).cell? ⟨b, o + 32 + 6, none⟩ = some (.int .i64 0) := x4 6 _ rfl
  have b7 : (w2.alloc (.cells #[.slice (some ⟨b, o, none⟩) 6 c, .int .i64 1, .bool true] 24)).cell? ⟨b, o + 32 + 7, none⟩ = some (.int .i64 0) := x4 7 _ rfl
  have c0 : (w2.alloc (.cells #[.slice (some ⟨b, o, none⟩) 6 c, .int .i64 1, .bool true] 24)).cell? ⟨b, o + 40, none⟩ = some (.int .u8 14) := x5 0 _ rfl
  have hc6 : 6 ≤ c := hc
  rw [show cdStar.length = 6 from rfl]
  have he0 : ∀ W, (binOp .eql 47 (.agg #[.int .u8 4, .int .u8 0, .int .u64 0, .int .u64 0, .int .u64 0, .int .u64 0, .int .i64 1, .int .i64 5]) (.agg #[.int .u8 4, .int .u8 0, .int .u64 0, .int .u64 0, .int .u64 0, .int .u64 0, .int .i64 1, .int .i64 5])).run Tryz.prog W = .ok (.bool true) W := fun _ => by kernel_rfl
  have he4 : ∀ W, (binOp .eql 47 (.agg #[.int .u8 5, .int .u8 0, .int .u64 0, .int .u64 0, .int .u64 0, .int .u64 0, .int .i64 0, .int .i64 0]) (.agg #[.int .u8 5, .int .u8 0, .int .u64 0, .int .u64 0, .int .u64 0, .int .u64 0, .int .i64 0, .int .i64 0])).run Tryz.prog W = .ok (.bool true) W := fun _ => by kernel_rfl
  clear hb2 hcm hal2 hc hcc hcell x0 x4 x5
  go_wp2_with fail
  go_ret
  exact ⟨rfl, HB3.out⟩
end Go.Proofs.YtjdlbejmdjcajaaGreat
