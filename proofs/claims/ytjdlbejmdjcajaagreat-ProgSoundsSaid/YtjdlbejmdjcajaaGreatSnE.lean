/- the law ProgSounds: walked. -/
import Derived.Test.YtjdlbejmdjcajaaGreatSnD
import Derived.Test.YtjdlbejmdjcajaaGreatKnB
import Derived.Test.YtjdlbejmdjcajaaGreatSnA
set_option linter.unusedVariables false
set_option linter.unusedSimpArgs false
namespace Go.Proofs.YtjdlbejmdjcajaaGreat
open Go.RowKit Go.Shelf Go.Maps Go.Proofs.YtjdlbejmdjcajaaGreatW.PrintWords Go.Proofs.YtjdlbejmdjcajaaGreatW.PrintLast

set_option maxRecDepth 100000 in
set_option maxHeartbeats 4000000 in
theorem sounds_walk (w : World) (l : List Pp.In) (A : Option Addr) (c : Nat) (r : Int) (f : Bool) (hC : CodeM w (fun _ => True) (.slice A l.length c) l) : Calls Tryz.prog 3 #[.agg #[.slice A l.length c, .int .i64 r, .bool f]] w fun e w' => e = .returned (.bool true) ∧ Below w.heap.size w w' := by
  have HK := Lib.hid known04_any
  have hal := below_alloc (Below.refl w.heap.size w) (.cells #[.slice A l.length c, .int .i64 r, .bool f] 24)
  have hbx : BoxR (w.alloc (.cells #[.slice A l.length c, .int .i64 r, .bool f] 24)) w.heap.size A c r f l := ⟨alloc_at w _, hC.step hal.size fun b _ hb => ⟨hal.block b hb, trivial⟩⟩
  have HB := Lib.hid (And.intro hal hbx)
  obtain ⟨a0, a1, a2⟩ := hbx.cells
  clear hC hal hbx
  by_cases h1 : 2100 < l.length
  · have b1 : (2100 : Int) < (l.length : Int) := by omega
    go_enter Tryz.func3, Tryz.ntmps3
    go_wp2_with (go_at_call 5; refine (HK.out _).mono ?_; rintro e w1 ⟨rfl, hb1⟩; have H1 := Lib.hid (HB.out.1.trans (hb1.mono HB.out.1.size)); clear hb1)
    go_ret
    exact ⟨rfl, H1.out⟩
  · have b1 : ¬ ((2100 : Int) < (l.length : Int)) := by omega
    have HL := Lib.hid (show l.length ≤ 100000 by omega)
    obtain ⟨n, hn⟩ : ∃ n, l.length = n := ⟨_, rfl⟩
    have HN := Lib.hid hn
    have HS1 : ∀ W, BoxR W w.heap.size A c r f l → Calls Tryz.prog 6 #[.agg #[.slice A n c, .int .i64 r, .bool f]] W fun e w' => e = .returned (.bool (soundI l r)) ∧ Below W.heap.size W w' := fun W h => by rw [← hn]; exact sound04_any h.2 HL.out
    have HS2 : ∀ W, BoxR W w.heap.size A c r f l → Calls Tryz.prog 7 #[.agg #[.slice A n c, .int .i64 r, .bool f]] W fun e w' => e = .returned (.bool (soundI l r)) ∧ Below W.heap.size W w' := fun W h => by rw [← hn]; exact soundr_any h.2 HL.out
    replace HS1 := Lib.hid HS1
    replace HS2 := Lib.hid HS2
    rw [hn] at b1 a0 HB ⊢
    clear hn h1
    go_enter Tryz.func3, Tryz.ntmps3
    go_wp2_with (go_at_call 5; refine (HK.out _).mono ?_; rintro e w1 ⟨rfl, hb1⟩)
    have hbx := HB.out.2.far hb1
    have HX := Lib.hid hbx
    obtain ⟨c0, c1, c2⟩ := hbx.cells
    rw [HN.out] at c0
    have HT := Lib.hid (HB.out.1.trans (hb1.mono HB.out.1.size))
    clear hb1 hbx
    go_region_held3 (fun W => W.cell? ⟨w.heap.size, 0, none⟩ = some (.slice A n c) ∧ W.cell? ⟨w.heap.size, 1, none⟩ = some (.int .i64 r) ∧ W.cell? ⟨w.heap.size, 2, none⟩ = some (.bool f)) (first | exact ⟨c0, c1, c2⟩ | exact ⟨d0, d1, d2⟩ | exact ⟨f0, f1, f2⟩ | go_keep) (first
      | (go_at_call 6; refine (HS1.out _ (HX.out.far (Below.refl _ _).drew)).mono ?_; rintro e w2 ⟨rfl, hb2⟩; have hbx2 := (HX.out.far (Below.refl _ _).drew).far hb2; obtain ⟨d0, d1, d2⟩ := hbx2.cells; rw [HN.out] at d0; have HX2 := Lib.hid hbx2; have HT2 := Lib.hid ((HT.out.trans ((Below.refl _ w1).drew.mono HT.out.size)).trans (hb2.mono (HT.out.trans ((Below.refl _ w1).drew.mono HT.out.size)).size)); clear hb2 hbx2)
      | (go_at_call 7; refine (HS2.out _ HX2.out).mono ?_; rintro e w3 ⟨rfl, hb3⟩; have hbx3 := HX2.out.far hb3; obtain ⟨f0, f1, f2⟩ := hbx3.cells; rw [HN.out] at f0; have HT3 := Lib.hid (HT2.out.trans (hb3.mono HT2.out.size)); clear hb3 hbx3))
    go_wp2
    go_ret
    exact ⟨by simp, HT3.out⟩
end Go.Proofs.YtjdlbejmdjcajaaGreat
