/- The law NormWrites: what is written at a line's end, or its beginning, so many times, stands there; what is cut off again is in the register. -/
import Derived.Test.YtdhemdeapphfoaaGreatDoorNwX
import Derived.Test.YtdhemdeapphfoaaGreatDoorNvX
import Derived.Laws.DeepStrings4
set_option linter.unusedVariables false
set_option linter.unusedSimpArgs false
set_option linter.unusedVariables false
set_option linter.unusedSimpArgs false
namespace Go.Proofs.YtdhemdeapphfoaaGreatDoor
open Go.RowKit Go.Shelf Go.Maps Go.Proofs.YtdhemdeapphfoaaGreatDoorW.PrintWords Go.Proofs.YtdhemdeapphfoaaGreatDoorW.PrintLast

set_option maxRecDepth 100000 in
set_option maxHeartbeats 1000000 in
/-- Get of a register in which nothing is -/
theorem rget_none {w : World} {R mb n : Nat} {ρ : Int → Option Value} (h : Rg w R mb n ρ) {c : Int} (c0 : 97 ≤ c) (c1 : c ≤ 122) (hρ : ρ c = none) :
    Calls Tryz.prog 14 #[.pointer (some ⟨R, 0, none⟩), .int .u8 c] w fun e w' => e = .returned (.tuple #[.agg #[.slice none 0 0, .bool false], .int .u16 111]) ∧ Below w.heap.size w w' := by
  have hRl := h.ltR
  have hMl := h.ltM
  have k0 : w.cell? ⟨R, 0, none⟩ = some (.map (some mb)) := by rw [blk_cell h.1]; rfl
  have HSL := Lib.hid (Small_small c c0 c1)
  have HKN := Lib.hid (Known_small c c0 c1)
  have hlk0 : ∀ W : World, W.heap[mb]? = w.heap[mb]? → (Instr.lookup 58 (.map (some mb)) (.int .u8 c) true).run Tryz.prog W = .ok (.tuple #[.agg #[.slice none 0 0, .bool false], .bool false]) W := fun W hW => by
    have h9 := (h.2.1.step (w' := W) hW).look (x := c) (by omega) (by omega)
    rw [hρ] at h9
    exact h9
  have hlk1 : ∀ o, (Instr.lookup 58 (.map (some mb)) (.int .u8 c) true).run Tryz.prog (w.alloc o).drew = .ok (.tuple #[.agg #[.slice none 0 0, .bool false], .bool false]) (w.alloc o).drew := fun o => hlk0 _ (Below.heap_alloc w o mb hMl)
  have hlk2 : ∀ o o', (Instr.lookup 58 (.map (some mb)) (.int .u8 c) true).run Tryz.prog ((w.alloc o).alloc o').drew = .ok (.tuple #[.agg #[.slice none 0 0, .bool false], .bool false]) ((w.alloc o).alloc o').drew := fun o o' => hlk0 _ ((Below.heap_alloc (w.alloc o) o' mb (by simp only [World.size_alloc]; omega)).trans (Below.heap_alloc w o mb hMl))
  clear hlk0 h
  go_enter Tryz.func14, Tryz.ntmps14
  go_wp2
  go_region_held3 (fun W => W.cell? ⟨R, 0, none⟩ = some (.map (some mb))) (first | exact k0 | go_keep) (first | (go_at_call 26; refine (HSL.out _).mono ?_; rintro e w1 ⟨rfl, rfl⟩))
  all_goals
    have hB : Below w.heap.size w ((w.alloc (.cells #[.slice none 0 0, .bool false] 48)).alloc (.cells #[.slice none 0 0, .bool false] 48)).drew := (below_alloc (below_alloc (Below.refl _ w) _) _).drew
    have HB := Lib.hid hB
    clear hB
    go_wp2_with (first | (go_at_call 27; refine (HKN.out _).mono ?_; rintro e w1 ⟨rfl, rfl⟩))
    have e0 : ((w.alloc (.cells #[.slice none 0 0, .bool false] 48)).alloc (.cells #[.slice none 0 0, .bool false] 48)).drew.heap[w.heap.size]? = some (.cells #[.slice none 0 0, .bool false] 48 (0, 0)) := (Below.heap_alloc (w.alloc _) _ _ (by simp only [World.size_alloc]; omega)).trans (World.alloc_heap_new w _)
    obtain ⟨W4, hW4⟩ : ∃ W4, ((w.alloc (.cells #[.slice none 0 0, .bool false] 48)).alloc (.cells #[.slice none 0 0, .bool false] 48)).drew = W4 := ⟨_, rfl⟩
    rw [hW4] at HB e0 ⊢
    have r0 : W4.cell? ⟨w.heap.size, 0, none⟩ = some (.slice none 0 0) := by rw [blk_cell e0]; rfl
    have r1 : W4.cell? ⟨w.heap.size, 1, none⟩ = some (.bool false) := by rw [blk_cell e0]; rfl
    clear hW4 e0
    refine bodyPost_ret (by simp [results, Tryz.results14, r0, r1, go_sem]; try rfl) rfl ?_
    exact ⟨rfl, HB.out⟩

set_option maxRecDepth 100000 in
set_option maxHeartbeats 4000000 in
theorem nwrites_walk (w : World) (line s : ByteArray) (z : Int) (hz1 : (Lit.int .u8 z).wf = true) (ahead : Bool) (hl1 : line.size ≤ 140737488351232) (hs1 : s.size ≤ 140737488351232) :
    Calls Tryz.prog 4 #[.string line, .string s, .int .u8 z, .bool ahead] w fun e w' => e = .returned (.bool true) ∧ Below w.heap.size w w' := by
  have bz := bounds_u8 hz1
  clear hz1
  obtain ⟨c, hc, hc1, hc2⟩ : ∃ c : Nat, z % 9 = (c : Int) - 1 ∧ 1 ≤ c ∧ c ≤ 9 := ⟨(z % 9 + 1).toNat, by omega, by omega, by omega⟩
  go_enter Tryz.func4, Tryz.ntmps4
  by_cases hl : 300 < line.size
  · have g1 : (300 : Int) < (line.size : Int) := by omega
    go_wp2_with fail
    refine (known19_any _).mono ?_
    rintro e w1 ⟨rfl, hb⟩
    go_wp2
    go_ret
    exact ⟨rfl, hb⟩
  have g1 : ¬ (300 : Int) < (line.size : Int) := by omega
  by_cases hs : 60 < s.size
  · have g2 : (60 : Int) < (s.size : Int) := by omega
    go_wp2_with fail
    refine (known19_any _).mono ?_
    rintro e w1 ⟨rfl, hb⟩
    go_wp2
    go_ret
    exact ⟨rfl, hb⟩
  have g2 : ¬ (60 : Int) < (s.size : Int) := by omega
  have hl' : line.size ≤ 300 := by omega
  have hs' : s.size ≤ 60 := by omega
  clear hl hs hl1 hs1
  have hcm : 1 + ((c : Int) - 1) = c := by omega
  go_wp2_with fail
  refine (known19_any _).mono ?_
  rintro e w1 ⟨rfl, hb⟩
  have HB1 := Lib.hid hb
  clear hb
  go_wp2_with fail
  have hnw := bnew_any (m := 9) (ls_one w1 line) (by decide) (by decide) (by simp) (long_one (by omega)) (one_le (by omega))
  rw [show fullS [line] = [line] from if_neg (by simp)] at hnw
  have HNW := Lib.hid hnw
  clear hnw
  refine HNW.out.mono ?_
  rintro e w3 ⟨B, rfl, b3⟩
  have H3 := Lib.hid b3
  clear b3 HNW
  go_wp2_with (first
    | (go_at_call 7; refine (regsNew_rg w3).mono ?_; rintro e w4 ⟨⟨R, mb, rfl, hrg, hR, hmb⟩, hb4⟩; have H4 := Lib.hid (And.intro (H3.out.guard hb4) (And.intro hrg (And.intro hR (And.intro hmb (And.intro H3.out.below.size hb4.size))))); clear hb4 hrg hR hmb))
  have ed : Ed (w1.alloc (.cells #[.string line] 9)).heap.size _ w4 B R mb (newS 9 [line]) 0 (fun _ => none) := ⟨H4.out.1, H4.out.2.1, (fun y v hv => by cases hv), .inr ⟨H4.out.2.2.1, H4.out.2.1.ltR⟩, .inr ⟨H4.out.2.2.2.1, H4.out.2.1.ltM⟩, Nat.le_trans H3.out.below.size H4.out.2.2.2.1⟩
  have hE4 : NEd (w1.alloc (.cells #[.string line] 9)).heap.size (w1.alloc (.cells #[.string line] 9)) w4 B R mb [line] 1 0 0 (fun _ => none) := ⟨_, _, rfl, ed, rfl, rfl, Nat.zero_le _, rfl⟩
  have hbz : Below w.heap.size w (w1.alloc (.cells #[.string line] 9)) := below_alloc HB1.out _
  obtain ⟨Wz, hWz⟩ : ∃ Wz, w1.alloc (.cells #[.string line] 9) = Wz := ⟨_, rfl⟩
  rw [hWz] at hE4 hbz
  have HBZ := Lib.hid hbz
  clear ed hbz
  obtain ⟨X, hX⟩ : ∃ X, w4.heap.size = X := ⟨_, rfl⟩
  have e5 : (w4.alloc (.cells #[.int .i64 (c : Int), .string ⟨#[65]⟩, .string s] 34)).heap[X]? = some (.cells #[.int .i64 (c : Int), .string ⟨#[65]⟩, .string s] 34 (0, 0)) := hX ▸ World.alloc_heap_new w4 _
  have hE5 := hE4.new (below_alloc (Below.refl w4.heap.size w4) (.cells #[.int .i64 (c : Int), .string ⟨#[65]⟩, .string s] 34))
  obtain ⟨W5, hW5⟩ : ∃ W5, w4.alloc (.cells #[.int .i64 (c : Int), .string ⟨#[65]⟩, .string s] 34) = W5 := ⟨_, rfl⟩
  rw [hW5] at e5 hE5
  have HE5 := Lib.hid (And.intro hE5 (And.intro e5 (And.intro hW5 (And.intro hX hE4))))
  clear hE4 hE5 e5 H4 H3
  go_loopw [14, 15] (fun v14 v15 wr => ∃ j : Nat, v14 = .string (repB s j) ∧ v15 = .int .i64 (j : Int) ∧ j ≤ c ∧ wr = W5) (fun _ v15 _ => c - (intOf v15).toNat)
  case atStart => exact ⟨0, rfl, rfl, Nat.zero_le _, HE5.out.2.2.1⟩
  case round =>
    obtain ⟨j, rfl, rfl, hj, hwr⟩ := hrel
    subst hwr
    have hz := repB_size s j
    have hz2 : s.size * j ≤ 540 := Nat.le_trans (Nat.mul_le_mul hs' (Nat.le_trans hj hc2)) (by decide)
    have hz3 : (repB s j).size ≤ 540 := by omega
    clear hz hz2
    by_cases hlt : j < c
    · have hlt' : (j : Int) < c := by omega
      have HS := Lib.hid (repB_snoc s j)
      go_wp2
      go_roundw
      case rel => exact ⟨j + 1, by rw [HS.out], by go_num, by omega, trivial⟩
      case measure => simp [intOf]; omega
    · obtain rfl : j = c := by omega
      have hlt' : ¬ (j : Int) < j := by omega
      cases ahead
      · obtain ⟨wt, hwt⟩ : ∃ wt, line ++ repB s j = wt := ⟨_, rfl⟩
        have hws : wt.size ≤ 840 := by rw [← hwt, ByteArray.size_append]; omega
        have y0 : wr.cell? ⟨X, 0, none⟩ = some (.int .i64 (j : Int)) := by rw [blk_cell HE5.out.2.1]; rfl
        have y1 : wr.cell? ⟨X, 1, none⟩ = some (.string ⟨#[65]⟩) := by rw [blk_cell HE5.out.2.1]; rfl
        have y2 : wr.cell? ⟨X, 2, none⟩ = some (.string s) := by rw [blk_cell HE5.out.2.1]; rfl
        have hdo := ned_A HE5.out.1 (by decide) hl' hs' hc1 hc2
        rw [hwt] at hdo
        have HDO := Lib.hid hdo
        clear hdo
        go_wp2_with fail
        refine HDO.out.mono ?_
        rintro e w6 ⟨v, rfl, rfl, h6⟩
        have H6 := Lib.hid h6
        clear h6 y0 y1 y2 HDO
        obtain ⟨T, hT⟩ := H6.out.lines (by simp)
        have t6 := (hT w6 (Below.refl _ _)).1
        have HL6 := Lib.hid (hT w6 (Below.refl _ _)).2
        clear hT
        go_wp2_with fail
        refine HL6.out.mono ?_
        rintro e w7 ⟨v7, rfl, h71, h72, h73⟩
        have hsm := sameL ((Ls.of_rw h71).step (below_alloc (Below.refl w7.heap.size w7) (.cells #[.string wt] 9)).size fun b hb _ => (below_alloc (Below.refl w7.heap.size w7) (.cells #[.string wt] 9)).block b hb) (ls_one w7 wt) (by simp)
        have H7 := Lib.hid h73
        have HSM := Lib.hid hsm
        clear h71 h72 h73 hsm t6 HL6
        go_wp2_with fail
        refine HSM.out.mono ?_
        rintro e w8 ⟨rfl, hb8⟩
        have h8 := H6.out.new (below_then (below_alloc H7.out _) (below_alloc H7.out _).size hb8)
        have H8 := Lib.hid h8
        clear h8 hb8 HSM
        by_cases h0 : wt.size = 0
        · obtain rfl : wt = ⟨#[]⟩ := by
            apply ByteArray.ext
            exact Array.eq_empty_of_size_eq_zero h0
          have HDX := Lib.hid (ned_x0 H8.out hc1 hc2 (z := 122) (arg := ⟨#[]⟩))
          go_wp2_with fail
          refine HDX.out.mono ?_
          rintro e w9 ⟨v, rfl, rfl, h9⟩
          have H9 := Lib.hid h9
          obtain ⟨w0, s0, q1, q2, _⟩ := h9
          have HG := Lib.hid (rget_none q2.rg (c := 122) (by decide) (by decide) rfl)
          clear q1 q2 HDX
          go_wp2_with fail
          refine HG.out.mono ?_
          rintro e w10 ⟨rfl, hb10⟩
          have HZ := Lib.hid (H9.out.new hb10).below
          clear hb10
          go_wp2
          go_ret
          exact ⟨rfl, below_then HBZ.out HBZ.out.size (below_alloc HZ.out _)⟩
        · obtain ⟨p, hp⟩ : ∃ p, min j wt.size = p := ⟨_, rfl⟩
          have e1 : wt.toList.isEmpty = false := by
            rw [ByteArray.toList_eq]
            cases h9 : wt.data.toList with
            | nil => exact absurd (show wt.data.size = 0 by rw [← Array.length_toList, h9]; rfl) h0
            | cons a b => rfl
          have e2 : min (j : Int) (wt.size : Int) = (p : Int) := by omega
          have e3 : p ≤ wt.size := by omega
          have e4 : (p : Int) ≤ (wt.size : Int) := by omega
          have HDX := Lib.hid (ned_x H8.out (by decide) (by decide) (by omega) h0 hc1 hc2 (z := 122) (by decide) (by decide) hp (arg := ⟨#[]⟩))
          go_wp2_with fail
          refine HDX.out.mono ?_
          rintro e w9 ⟨v, rfl, rfl, h9⟩
          have HG := Lib.hid (h9.get (by decide) (by decide))
          have H9 := Lib.hid h9
          clear h9 HDX
          go_wp2_with fail
          refine HG.out.mono ?_
          rintro e w10 ⟨v10, rfl, h101, h102, h103⟩
          obtain ⟨A9, c9, hv9, _⟩ := h101.slice
          rw [cS_len] at hv9
          change v10 = .slice A9 1 c9 at hv9
          subst hv9
          have H10 := Lib.hid (And.intro h101 h103)
          clear h101 h102 h103 HG
          go_wp2_with fail
          have e11 : (w10.alloc (.cells #[.slice A9 1 c9, .bool false] 48)).heap[w10.heap.size]? = some (.cells #[.slice A9 1 c9, .bool false] 48 (0, 0)) := World.alloc_heap_new w10 _
          have hb11 : Below w10.heap.size w10 (w10.alloc (.cells #[.slice A9 1 c9, .bool false] 48)) := below_alloc (Below.refl _ w10) _
          have hs11 : w10.heap.size < (w10.alloc (.cells #[.slice A9 1 c9, .bool false] 48)).heap.size := by simp
          obtain ⟨W11, hW11⟩ : ∃ W11, (w10.alloc (.cells #[.slice A9 1 c9, .bool false] 48)) = W11 := ⟨_, rfl⟩
          rw [hW11] at e11 hb11 hs11 ⊢
          clear hW11
          obtain ⟨X2, hX2⟩ : ∃ X2, w10.heap.size = X2 := ⟨_, rfl⟩
          rw [hX2] at e11 hs11 ⊢
          have hb9 : Below w9.heap.size w9 W11 := below_then H10.out.2 H10.out.2.size hb11
          obtain ⟨T2, hT2⟩ := H9.out.lines (by simp)
          have hcell : ∀ V, Below W11.heap.size W11 V → V.cell? ⟨X2, 0, none⟩ = some (.slice A9 1 c9) ∧ V.cell? ⟨X2, 1, none⟩ = some (.bool false) ∧ V.cell? ⟨B, 0, none⟩ = some (.pointer (some ⟨T2, 0, none⟩)) := fun V hb => by
            have a0 := (hb.block _ hs11).trans e11
            exact ⟨by rw [blk_cell a0]; rfl, by rw [blk_cell a0]; rfl, (hT2 V (below_then hb9 hb9.size hb)).1⟩
          have HLI := Lib.hid (fun V (hb : Below W11.heap.size W11 V) => (hT2 V (below_then hb9 hb9.size hb)).2)
          have hy := (Ls.of_rw H10.out.1).step hb11.size fun b hb _ => hb11.block b hb
          have H02 := Lib.hid (fun V (hb : Below W11.heap.size W11 V) => sameL (hy.step (below_alloc hb (.cells #[.string (wt.extract 0 p)] 9)).size fun c hc _ => (below_alloc hb (.cells #[.string (wt.extract 0 p)] 9)).block c hc) (ls_one V (wt.extract 0 p)) (by simp))
          have H02D := Lib.hid (fun V (hb : Below W11.heap.size W11 V) => sameL (hy.step (below_alloc hb (.cells #[.string (wt.extract 0 p)] 9)).drew.size fun c hc _ => (below_alloc hb (.cells #[.string (wt.extract 0 p)] 9)).drew.block c hc) ((ls_one V (wt.extract 0 p)).step (w' := (V.alloc (.cells #[.string (wt.extract 0 p)] 9)).drew) (Nat.le_refl _) fun _ _ _ => rfl) (by simp))
          have H03 := Lib.hid (fun V (u : Value) (G : Nat → Prop) (hu : Ls V G u [wt.extract p wt.size]) => sameL (hu.step (below_alloc (Below.refl V.heap.size V) (.cells #[.string (wt.extract p wt.size)] 9)).size fun c hc _ => (below_alloc (Below.refl V.heap.size V) (.cells #[.string (wt.extract p wt.size)] 9)).block c hc) (ls_one V (wt.extract p wt.size)) (by simp))
          obtain ⟨x0, x1, x2⟩ := hcell W11 (Below.refl _ _)
          have HC := Lib.hid hcell
          have HBC := Lib.hid (Below.refl W11.heap.size W11)
          have HBD := Lib.hid ((Below.refl W11.heap.size W11).drew)
          have HB9 := Lib.hid hb9
          clear hcell hy hT2 hb9 hb11 hs11 e11
          go_region_held3 (fun V => V.cell? ⟨X2, 0, none⟩ = some (.slice A9 1 c9) ∧ V.cell? ⟨X2, 1, none⟩ = some (.bool false) ∧ V.cell? ⟨B, 0, none⟩ = some (.pointer (some ⟨T2, 0, none⟩))) (first | exact ⟨x0, x1, x2⟩ | exact HC.out _ HBC.out | go_keep) (first
            | (go_at_call 13; with_reducible refine (H02.out _ HBC.out).mono ?_; rintro e w12 ⟨rfl, hb12⟩; have HBC := Lib.hid (below_then (below_alloc HBC.out _) (below_alloc HBC.out _).size hb12); clear hb12)
            | (go_at_call 13; with_reducible refine (H02.out _ HBD.out).mono ?_; rintro e w12 ⟨rfl, hb12⟩; have HBC := Lib.hid (below_then (below_alloc HBD.out _) (below_alloc HBD.out _).size hb12); clear hb12)
            | (go_at_call 13; with_reducible refine (H02D.out _ HBC.out).mono ?_; rintro e w12 ⟨rfl, hb12⟩; have HBC := Lib.hid (below_then (below_alloc HBC.out _).drew (below_alloc HBC.out _).drew.size hb12); clear hb12)
            | (go_at_call 13; with_reducible refine (H03.out _ _ _ (Ls.of_rw HR9.out)).mono ?_; rintro e w12 ⟨rfl, hb12⟩; have HBC := Lib.hid (below_then (below_alloc HBC.out _) (below_alloc HBC.out _).size hb12); clear hb12)
            | (go_at_call 13; with_reducible refine (sameL (Ls.of_rw HR9.out) HLS.out (by simp)).mono ?_; rintro e w12 ⟨rfl, hb12⟩; have HBC := Lib.hid (below_then HBC.out HBC.out.size hb12); clear hb12)
            | (go_at_call 12; (with_reducible refine (HLI.out _ HBC.out).mono ?_); rintro e w12 ⟨v12, rfl, h91, h92, h93⟩; have HR9 := Lib.hid h91; have HBC := Lib.hid (below_then HBC.out HBC.out.size h93); clear h91 h92 h93)
            | (go_at_call 12; (with_reducible refine (HLI.out _ (below_alloc HBC.out _)).mono ?_); rintro e w12 ⟨v12, rfl, h91, h92, h93⟩; have HR9 := Lib.hid h91; have HLS := Lib.hid ((ls_one _ (wt.extract p wt.size)).step h93.size fun c hc _ => h93.block c hc); have HBC := Lib.hid (below_then (below_alloc HBC.out _) (below_alloc HBC.out _).size h93); clear h91 h92 h93))
          all_goals
            go_wp2
            go_ret
            exact ⟨rfl, below_then (below_then HBZ.out HBZ.out.size H9.out.below) (below_then HBZ.out HBZ.out.size H9.out.below).size (below_then HB9.out HB9.out.size HBC.out)⟩
      · obtain ⟨wt, hwt⟩ : ∃ wt, repB s j ++ line = wt := ⟨_, rfl⟩
        have hws : wt.size ≤ 840 := by rw [← hwt, ByteArray.size_append]; omega
        have f1 : wr.frozen? ⟨X, 1, none⟩ = false := blk_frozen HE5.out.2.1 1
        have y1 : wr.cell? ⟨X, 1, none⟩ = some (.string ⟨#[65]⟩) := by rw [blk_cell HE5.out.2.1]; rfl
        have hk := blk_set HE5.out.2.1 1 (.string ⟨#[73]⟩)
        have y0 : (wr.setCell ⟨X, 1, none⟩ (.string ⟨#[73]⟩)).cell? ⟨X, 0, none⟩ = some (.int .i64 (j : Int)) := by rw [blk_cell hk]; rfl
        have y2 : (wr.setCell ⟨X, 1, none⟩ (.string ⟨#[73]⟩)).cell? ⟨X, 2, none⟩ = some (.string s) := by rw [blk_cell hk]; rfl
        have hbw : Below w4.heap.size w4 (wr.setCell ⟨X, 1, none⟩ (.string ⟨#[73]⟩)) := by
          rw [← HE5.out.2.2.1]
          exact (below_alloc (Below.refl _ w4) _).setCell (p := ⟨X, 1, none⟩) (by rw [← HE5.out.2.2.2.1]; exact Nat.le_refl _) _
        have hdo := ned_I (HE5.out.2.2.2.2.new hbw) (by decide) hl' hs' hc1 hc2
        rw [hwt] at hdo
        have HDO := Lib.hid hdo
        clear hdo hk hbw
        go_wp2_with fail
        refine HDO.out.mono ?_
        rintro e w6 ⟨v, rfl, rfl, h6⟩
        have H6 := Lib.hid h6
        clear h6 y0 y1 y2 f1 HDO
        obtain ⟨T, hT⟩ := H6.out.lines (by simp)
        have t6 := (hT w6 (Below.refl _ _)).1
        have HL6 := Lib.hid (hT w6 (Below.refl _ _)).2
        clear hT
        go_wp2_with fail
        refine HL6.out.mono ?_
        rintro e w7 ⟨v7, rfl, h71, h72, h73⟩
        have hsm := sameL ((Ls.of_rw h71).step (below_alloc (Below.refl w7.heap.size w7) (.cells #[.string wt] 9)).size fun b hb _ => (below_alloc (Below.refl w7.heap.size w7) (.cells #[.string wt] 9)).block b hb) (ls_one w7 wt) (by simp)
        have H7 := Lib.hid h73
        have HSM := Lib.hid hsm
        clear h71 h72 h73 hsm t6 HL6
        go_wp2_with fail
        refine HSM.out.mono ?_
        rintro e w8 ⟨rfl, hb8⟩
        have h8 := H6.out.new (below_then (below_alloc H7.out _) (below_alloc H7.out _).size hb8)
        have H8 := Lib.hid h8
        clear h8 hb8 HSM
        by_cases h0 : wt.size = 0
        · obtain rfl : wt = ⟨#[]⟩ := by
            apply ByteArray.ext
            exact Array.eq_empty_of_size_eq_zero h0
          have HDX := Lib.hid (ned_x0 H8.out hc1 hc2 (z := 122) (arg := ⟨#[]⟩))
          go_wp2_with fail
          refine HDX.out.mono ?_
          rintro e w9 ⟨v, rfl, rfl, h9⟩
          have H9 := Lib.hid h9
          obtain ⟨w0, s0, q1, q2, _⟩ := h9
          have HG := Lib.hid (rget_none q2.rg (c := 122) (by decide) (by decide) rfl)
          clear q1 q2 HDX
          go_wp2_with fail
          refine HG.out.mono ?_
          rintro e w10 ⟨rfl, hb10⟩
          have HZ := Lib.hid (H9.out.new hb10).below
          clear hb10
          go_wp2
          go_ret
          exact ⟨rfl, below_then HBZ.out HBZ.out.size (below_alloc HZ.out _)⟩
        · obtain ⟨p, hp⟩ : ∃ p, min j wt.size = p := ⟨_, rfl⟩
          have e1 : wt.toList.isEmpty = false := by
            rw [ByteArray.toList_eq]
            cases h9 : wt.data.toList with
            | nil => exact absurd (show wt.data.size = 0 by rw [← Array.length_toList, h9]; rfl) h0
            | cons a b => rfl
          have e2 : min (j : Int) (wt.size : Int) = (p : Int) := by omega
          have e3 : p ≤ wt.size := by omega
          have e4 : (p : Int) ≤ (wt.size : Int) := by omega
          have HDX := Lib.hid (ned_x H8.out (by decide) (by decide) (by omega) h0 hc1 hc2 (z := 122) (by decide) (by decide) hp (arg := ⟨#[]⟩))
          go_wp2_with fail
          refine HDX.out.mono ?_
          rintro e w9 ⟨v, rfl, rfl, h9⟩
          have HG := Lib.hid (h9.get (by decide) (by decide))
          have H9 := Lib.hid h9
          clear h9 HDX
          go_wp2_with fail
          refine HG.out.mono ?_
          rintro e w10 ⟨v10, rfl, h101, h102, h103⟩
          obtain ⟨A9, c9, hv9, _⟩ := h101.slice
          rw [cS_len] at hv9
          change v10 = .slice A9 1 c9 at hv9
          subst hv9
          have H10 := Lib.hid (And.intro h101 h103)
          clear h101 h102 h103 HG
          go_wp2_with fail
          have e11 : (w10.alloc (.cells #[.slice A9 1 c9, .bool false] 48)).heap[w10.heap.size]? = some (.cells #[.slice A9 1 c9, .bool false] 48 (0, 0)) := World.alloc_heap_new w10 _
          have hb11 : Below w10.heap.size w10 (w10.alloc (.cells #[.slice A9 1 c9, .bool false] 48)) := below_alloc (Below.refl _ w10) _
          have hs11 : w10.heap.size < (w10.alloc (.cells #[.slice A9 1 c9, .bool false] 48)).heap.size := by simp
          obtain ⟨W11, hW11⟩ : ∃ W11, (w10.alloc (.cells #[.slice A9 1 c9, .bool false] 48)) = W11 := ⟨_, rfl⟩
          rw [hW11] at e11 hb11 hs11 ⊢
          clear hW11
          obtain ⟨X2, hX2⟩ : ∃ X2, w10.heap.size = X2 := ⟨_, rfl⟩
          rw [hX2] at e11 hs11 ⊢
          have hb9 : Below w9.heap.size w9 W11 := below_then H10.out.2 H10.out.2.size hb11
          obtain ⟨T2, hT2⟩ := H9.out.lines (by simp)
          have hcell : ∀ V, Below W11.heap.size W11 V → V.cell? ⟨X2, 0, none⟩ = some (.slice A9 1 c9) ∧ V.cell? ⟨X2, 1, none⟩ = some (.bool false) ∧ V.cell? ⟨B, 0, none⟩ = some (.pointer (some ⟨T2, 0, none⟩)) := fun V hb => by
            have a0 := (hb.block _ hs11).trans e11
            exact ⟨by rw [blk_cell a0]; rfl, by rw [blk_cell a0]; rfl, (hT2 V (below_then hb9 hb9.size hb)).1⟩
          have HLI := Lib.hid (fun V (hb : Below W11.heap.size W11 V) => (hT2 V (below_then hb9 hb9.size hb)).2)
          have hy := (Ls.of_rw H10.out.1).step hb11.size fun b hb _ => hb11.block b hb
          have H02 := Lib.hid (fun V (hb : Below W11.heap.size W11 V) => sameL (hy.step (below_alloc hb (.cells #[.string (wt.extract 0 p)] 9)).size fun c hc _ => (below_alloc hb (.cells #[.string (wt.extract 0 p)] 9)).block c hc) (ls_one V (wt.extract 0 p)) (by simp))
          have H02D := Lib.hid (fun V (hb : Below W11.heap.size W11 V) => sameL (hy.step (below_alloc hb (.cells #[.string (wt.extract 0 p)] 9)).drew.size fun c hc _ => (below_alloc hb (.cells #[.string (wt.extract 0 p)] 9)).drew.block c hc) ((ls_one V (wt.extract 0 p)).step (w' := (V.alloc (.cells #[.string (wt.extract 0 p)] 9)).drew) (Nat.le_refl _) fun _ _ _ => rfl) (by simp))
          have H03 := Lib.hid (fun V (u : Value) (G : Nat → Prop) (hu : Ls V G u [wt.extract p wt.size]) => sameL (hu.step (below_alloc (Below.refl V.heap.size V) (.cells #[.string (wt.extract p wt.size)] 9)).size fun c hc _ => (below_alloc (Below.refl V.heap.size V) (.cells #[.string (wt.extract p wt.size)] 9)).block c hc) (ls_one V (wt.extract p wt.size)) (by simp))
          obtain ⟨x0, x1, x2⟩ := hcell W11 (Below.refl _ _)
          have HC := Lib.hid hcell
          have HBC := Lib.hid (Below.refl W11.heap.size W11)
          have HBD := Lib.hid ((Below.refl W11.heap.size W11).drew)
          have HB9 := Lib.hid hb9
          clear hcell hy hT2 hb9 hb11 hs11 e11
          go_region_held3 (fun V => V.cell? ⟨X2, 0, none⟩ = some (.slice A9 1 c9) ∧ V.cell? ⟨X2, 1, none⟩ = some (.bool false) ∧ V.cell? ⟨B, 0, none⟩ = some (.pointer (some ⟨T2, 0, none⟩))) (first | exact ⟨x0, x1, x2⟩ | exact HC.out _ HBC.out | go_keep) (first
            | (go_at_call 13; with_reducible refine (H02.out _ HBC.out).mono ?_; rintro e w12 ⟨rfl, hb12⟩; have HBC := Lib.hid (below_then (below_alloc HBC.out _) (below_alloc HBC.out _).size hb12); clear hb12)
            | (go_at_call 13; with_reducible refine (H02.out _ HBD.out).mono ?_; rintro e w12 ⟨rfl, hb12⟩; have HBC := Lib.hid (below_then (below_alloc HBD.out _) (below_alloc HBD.out _).size hb12); clear hb12)
            | (go_at_call 13; with_reducible refine (H02D.out _ HBC.out).mono ?_; rintro e w12 ⟨rfl, hb12⟩; have HBC := Lib.hid (below_then (below_alloc HBC.out _).drew (below_alloc HBC.out _).drew.size hb12); clear hb12)
            | (go_at_call 13; with_reducible refine (H03.out _ _ _ (Ls.of_rw HR9.out)).mono ?_; rintro e w12 ⟨rfl, hb12⟩; have HBC := Lib.hid (below_then (below_alloc HBC.out _) (below_alloc HBC.out _).size hb12); clear hb12)
            | (go_at_call 13; with_reducible refine (sameL (Ls.of_rw HR9.out) HLS.out (by simp)).mono ?_; rintro e w12 ⟨rfl, hb12⟩; have HBC := Lib.hid (below_then HBC.out HBC.out.size hb12); clear hb12)
            | (go_at_call 12; (with_reducible refine (HLI.out _ HBC.out).mono ?_); rintro e w12 ⟨v12, rfl, h91, h92, h93⟩; have HR9 := Lib.hid h91; have HBC := Lib.hid (below_then HBC.out HBC.out.size h93); clear h91 h92 h93)
            | (go_at_call 12; (with_reducible refine (HLI.out _ (below_alloc HBC.out _)).mono ?_); rintro e w12 ⟨v12, rfl, h91, h92, h93⟩; have HR9 := Lib.hid h91; have HLS := Lib.hid ((ls_one _ (wt.extract p wt.size)).step h93.size fun c hc _ => h93.block c hc); have HBC := Lib.hid (below_then (below_alloc HBC.out _) (below_alloc HBC.out _).size h93); clear h91 h92 h93))
          all_goals
            go_wp2
            go_ret
            exact ⟨rfl, below_then (below_then HBZ.out HBZ.out.size H9.out.below) (below_then HBZ.out HBZ.out.size H9.out.below).size (below_then HB9.out HB9.out.size HBC.out)⟩
theorem nwrites_row (W : World) (x1 : ByteArray) (h1 : x1.size ≤ 140737488351232) (x2 : ByteArray) (h2 : x2.size ≤ 140737488351232) (x3 : Int) (h3 : (Lit.int .u8 x3).wf = true) (x4 : Bool) :
    Calls Tryz.prog 4 #[.string x1, .string x2, .int .u8 x3, .bool x4] W fun e w' => e = .returned (.bool true) ∧ Below W.heap.size W w' := nwrites_walk W x1 x2 x3 h3 x4 h1 h2
end Go.Proofs.YtdhemdeapphfoaaGreatDoor
