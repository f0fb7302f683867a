/- The law EditYanks: lines that are yanked are in the register, whole, and stay; told, they are what they are. -/
import Derived.Test.YtoejfgmfdjoonaaGreatDoorEyGx
set_option linter.unusedVariables false
set_option linter.unusedSimpArgs false
set_option linter.unusedVariables false
set_option linter.unusedSimpArgs false
namespace Go.Proofs.YtoejfgmfdjoonaaGreatDoor
open Go.RowKit Go.Shelf Go.Maps Go.Proofs.YtoejfgmfdjoonaaGreatDoorW.PrintWords Go.Proofs.YtoejfgmfdjoonaaGreatDoorW.PrintLast

theorem Rg.kept {w w' : World} {R mb n : Nat} {ρ : Int → Option Value} (h : Rg w R mb n ρ) (h1 : w'.heap[R]? = w.heap[R]?) (h2 : w'.heap[mb]? = w.heap[mb]?) : Rg w' R mb n ρ := ⟨h1.trans h.1, h.2.1.step h2, h.2.2⟩
theorem setR_same (ρ : Int → Option Value) (c d : Int) (v : Value) : setR (setR ρ c v) d v c = some v := by
  unfold setR
  split
  · rfl
  · simp

set_option maxRecDepth 100000 in
set_option maxHeartbeats 1000000 in
theorem yanks_long {w : World} {G : Nat → Prop} {v : Value} {xs : List ByteArray} (h : Ls w G v xs) (hlg : isLong xs = true) (x y z : Int) :
    Calls Tryz.prog 6 #[v, .int .i64 x, .int .i64 y, .int .u8 z] w fun e w' => e = .returned (.bool true) ∧ Below w.heap.size w w' := by
  have HH := Lib.hid (heavy16n h)
  have HV := Lib.hid h
  obtain ⟨Av, cv, hvs, hcv, hcm, hAv⟩ := id h
  subst hvs
  unfold maxLen at hcm
  clear h
  go_enter Tryz.func6, Tryz.ntmps6
  go_wp2_with fail
  refine HH.out.mono ?_
  rintro e w1 ⟨b, rfl, hb1, hbn⟩
  have HB1 := Lib.hid hb1
  clear hb1
  cases b
  · have hl : xs.length ≤ 300 := hbn rfl
    clear hbn
    by_cases h0 : xs.length = 0
    · have hd : ((xs.length : Int) == 0) = true := by rw [beq_iff_eq]; omega
      go_wp2_with (go_at_call 9; refine (known16_any w1).mono ?_; rintro e w2 ⟨rfl, hb2⟩; have HB2 := Lib.hid (below_then HB1.out HB1.out.size hb2); clear hb2)
      go_ret
      exact ⟨rfl, HB2.out⟩
    · have hd : ((xs.length : Int) == 0) = false := by rw [beq_eq_false_iff_ne]; omega
      go_wp2_with (go_at_call 9; refine (known16_any w1).mono ?_; rintro e w2 ⟨rfl, hb2⟩; have HB2 := Lib.hid (below_then HB1.out HB1.out.size hb2); clear hb2)
      have hv2 := HV.out.step HB2.out.size fun b hb _ => HB2.out.block b hb
      have hnw := bnew_long (m := 9) hv2 (by decide) (by decide) (by omega) hlg
      have HNW := Lib.hid hnw
      clear hnw hv2
      refine HNW.out.mono ?_
      rintro e w3 ⟨rfl, hb3⟩
      have HB3 := Lib.hid (below_then HB2.out HB2.out.size hb3)
      clear hb3
      go_wp2_with (go_at_call 8; refine (regsNew_any w3).mono ?_; rintro e w4 ⟨⟨R, rfl⟩, hb4⟩; have HB4 := Lib.hid (below_then HB3.out HB3.out.size hb4); clear hb4)
      go_ret
      exact ⟨rfl, HB4.out⟩
  · go_wp2_with (go_at_call 9; refine (known16_any w1).mono ?_; rintro e w2 ⟨rfl, hb2⟩; have HB2 := Lib.hid (below_then HB1.out HB1.out.size hb2); clear hb2)
    go_ret
    exact ⟨rfl, HB2.out⟩

set_option maxRecDepth 100000 in
set_option maxHeartbeats 3000000 in
theorem yanks_short {w : World} {G : Nat → Prop} {v : Value} {xs : List ByteArray} (h : Ls w G v xs) (hlg : isLong xs = false) (x y z : Int) (hx1 : (Lit.int .i64 x).wf = true) (hy1 : (Lit.int .i64 y).wf = true) (hz1 : (Lit.int .u8 z).wf = true) :
    Calls Tryz.prog 6 #[v, .int .i64 x, .int .i64 y, .int .u8 z] w fun e w' => e = .returned (.bool true) ∧ Below w.heap.size w w' := by
  have hs := notLong hlg
  have HH := Lib.hid (heavy16s h hs)
  have HV := Lib.hid h
  obtain ⟨Av, cv, hvs, hcv, hcm, hAv⟩ := id h
  subst hvs
  unfold maxLen at hcm
  have bx := bounds64 hx1
  have by_ := bounds64 hy1
  have bz := bounds_u8 hz1
  have HFS := Lib.hid hs
  clear h hx1 hy1 hz1 hs
  go_enter Tryz.func6, Tryz.ntmps6
  go_wp2_with fail
  refine HH.out.mono ?_
  rintro e w1 ⟨b, rfl, hb1, hbn⟩
  have HB1 := Lib.hid hb1
  clear hb1
  cases b
  · obtain ⟨hl, hsum⟩ := hbn rfl
    clear hbn
    by_cases h0 : xs.length = 0
    · have hd : ((xs.length : Int) == 0) = true := by rw [beq_iff_eq]; omega
      go_wp2_with (go_at_call 9; refine (known16_any w1).mono ?_; rintro e w2 ⟨rfl, hb2⟩; have HB2 := Lib.hid (below_then HB1.out HB1.out.size hb2); clear hb2)
      go_ret
      exact ⟨rfl, HB2.out⟩
    · have hd : ((xs.length : Int) == 0) = false := by rw [beq_eq_false_iff_ne]; omega
      obtain ⟨gv, ov, rfl, _⟩ := hAv (by omega)
      obtain ⟨a, ha, ha1⟩ := rem_nat x (m := (xs.length : Int)) (by omega)
      have hn1 : ¬ ((xs.length : Int) = 0) := by omega
      have hn0 : ¬ ((xs.length : Int) - (1 + a) + 1 = 0) := by omega
      obtain ⟨b, hb, hb1⟩ := rem_nat y (m := (xs.length : Int) - (1 + a) + 1) (by omega)
      obtain ⟨k, hk, hk1⟩ : ∃ k : Nat, z % 26 = (k : Int) ∧ (k : Int) < 26 := ⟨(z % 26).toNat, by omega, by omega⟩
      go_wp2_with (go_at_call 9; refine (known16_any w1).mono ?_; rintro e w2 ⟨rfl, hb2⟩; have HB2 := Lib.hid (below_then HB1.out HB1.out.size hb2); clear hb2)
      have hv2 := HV.out.step HB2.out.size fun b hb _ => HB2.out.block b hb
      have hne : xs ≠ [] := fun e => by rw [e] at h0; simp at h0
      have hnw := bnew_any (m := 9) hv2 (by decide) (by decide) (by omega) hlg (fun x hx => by have := HFS.out x hx; omega)
      rw [show fullS xs = xs from if_neg hne] at hnw
      have HNW := Lib.hid hnw
      clear hnw hv2 hne
      refine HNW.out.mono ?_
      rintro e w3 ⟨B, rfl, b3⟩
      have H3 := Lib.hid b3
      clear b3 HNW
      go_wp2_with (first
        | (go_at_call 8; refine (regsNew_rg w3).mono ?_; rintro e w4 ⟨⟨R, mb, rfl, hrg, hR, hmb⟩, hb4⟩; have H4 := Lib.hid (And.intro (H3.out.guard hb4) (And.intro hrg (And.intro hR (And.intro hmb (And.intro H3.out.below.size hb4.size))))); clear hb4 hrg hR hmb))
      have hln : ((xs.drop a).take (b + 1)).length = b + 1 := by rw [List.length_take, List.length_drop]; omega
      obtain ⟨ys, hys⟩ : ∃ ys, (xs.drop a).take (b + 1) = ys := ⟨_, rfl⟩
      have hdy := do_y H4.out.1 H4.out.2.1 (by decide) (i := a) (n := b + 1) (f := 1 + (a : Int)) (t := 1 + (a : Int) + b) (d := 0) (c := 97 + (k : Int)) (by omega) (by omega) (by omega) (show a + (b + 1) ≤ xs.length by omega) hl HFS.out (show sumS xs ≤ 20000 by omega) (by omega) (by omega) rfl
      rw [show ((newS 9 xs).ls.drop a).take (b + 1) = ys from hys] at hdy
      rw [hys] at hln
      refine hdy.mono ?_
      clear hdy
      rintro e w5 ⟨v5, rfl, h51, h52, h53⟩
      have b5 := H4.out.1.turn (.inr ⟨H4.out.2.2.2.1, H4.out.2.1.ltM⟩) (Nat.le_trans H4.out.2.2.2.2.1 H4.out.2.2.2.1) h53
      have H5 := Lib.hid (And.intro h51 (And.intro h52 h53))
      clear h51 h52 h53
      have hdp := do_p_all b5 (R := R) (i := a) (n := b + 1) (f := 1 + (a : Int)) (t := 1 + (a : Int) + b) (d := 0) (by omega) (by omega) (by omega) (show a + (b + 1) ≤ xs.length by omega) (show xs.length ≤ 1000000 by omega)
      rw [show ((newS 9 xs).ls.drop a).take (b + 1) = ys from hys] at hdp
      have HDP := Lib.hid hdp
      clear b5 hdp
      go_wp2_with fail
      refine HDP.out.mono ?_
      rintro e w6 ⟨v6, rfl, h61, b6⟩
      have hpr := b6.prot
      have hkR := hpr R (.inl (.inr ⟨H4.out.2.2.1, H4.out.2.1.ltR⟩))
      have hkM := hpr mb (.inl (.inr ⟨H4.out.2.2.2.1, H4.out.2.1.ltM⟩))
      have hrg6 := H5.out.2.1.kept hkR.2 hkM.2
      have hv56 := H5.out.1.kept (w' := w6) fun c hc hw => hpr c (.inr ⟨hw, hc⟩)
      have hgt := rget_any hrg6 (c := 97 + (k : Int)) (by omega) (by omega) (setR_same _ _ _ _) hv56 (by omega) (by omega)
      have HGT := Lib.hid hgt
      obtain ⟨A6, c6, hv6, _⟩ := id h61
      rw [hln] at hv6
      subst hv6
      have H6 := Lib.hid (And.intro h61 b6)
      clear hpr hkR hkM hrg6 hv56 hgt h61 b6
      go_wp2_with fail
      refine HGT.out.mono ?_
      rintro e w7 ⟨v7, rfl, h71, h72, h73⟩
      obtain ⟨A7, c7, hv7, _⟩ := h71.slice
      rw [cS_len, hln] at hv7
      subst hv7
      have H7 := Lib.hid (And.intro h71 (And.intro h72 h73))
      clear h71 h72 h73
      go_wp2_with fail
      have e8 : (w7.alloc (.cells #[.slice A7 (b + 1) c7, .bool true] 56)).heap[w7.heap.size]? = some (.cells #[.slice A7 (b + 1) c7, .bool true] 56 (0, 0)) := World.alloc_heap_new w7 _
      have hb8 : Below w7.heap.size w7 (w7.alloc (.cells #[.slice A7 (b + 1) c7, .bool true] 56)) := below_alloc (Below.refl _ w7) _
      have hs8 : w7.heap.size < (w7.alloc (.cells #[.slice A7 (b + 1) c7, .bool true] 56)).heap.size := by simp
      obtain ⟨W8, hW8⟩ : ∃ W8, (w7.alloc (.cells #[.slice A7 (b + 1) c7, .bool true] 56)) = W8 := ⟨_, rfl⟩
      rw [hW8] at e8 hb8 hs8 ⊢
      clear hW8
      obtain ⟨X, hX⟩ : ∃ X, w7.heap.size = X := ⟨_, rfl⟩
      rw [hX] at e8 hs8 ⊢
      have hb67 := below_then (Below.refl w6.heap.size w6) (Nat.le_refl _) H7.out.2.2
      have hb68 := below_then hb67 hb67.size hb8
      have b8 := H6.out.2.new hb68
      have hB8 := below_then HB2.out HB2.out.size b8.below
      obtain ⟨T, hT, hLI⟩ : ∃ T, (∀ V, Below W8.heap.size W8 V → V.cell? ⟨B, 0, none⟩ = some (.pointer (some ⟨T, 0, none⟩))) ∧ ∀ V, Below W8.heap.size W8 V → Calls Tryz.prog 13 #[.pointer (some ⟨T, 0, none⟩)] V (OwnPost V.heap.size V xs) := by
        obtain ⟨T, hTk, F, t⟩ := b8.len
        exact ⟨T, fun V hb => (World.cell?_of_block (a := ⟨B, 0, none⟩) (hb.block B (cell_lt hTk))).trans hTk, fun V hb => Lines_any (t.step fun c hc _ => hb.block c hc) (show xs.length ≤ 1000000000 by omega)⟩
      have hcell : ∀ V, Below W8.heap.size W8 V → V.cell? ⟨X, 0, none⟩ = some (.slice A7 (b + 1) c7) ∧ V.cell? ⟨X, 1, none⟩ = some (.bool true) ∧ V.cell? ⟨B, 0, none⟩ = some (.pointer (some ⟨T, 0, none⟩)) := fun V hb => by
        have a0 := (hb.block _ hs8).trans e8
        exact ⟨by rw [blk_cell a0]; rfl, by rw [blk_cell a0]; rfl, hT V hb⟩
      have hl8 := HV.out.step hB8.size fun b hb _ => hB8.block b hb
      have hsub := hl8.sub (i := a) (m := b + 1) (show a + (b + 1) ≤ xs.length by omega)
      rw [hys] at hsub
      have h7 := (Ls.of_rw H7.out.1).step hb8.size fun c hc _ => hb8.block c hc
      have h6 := H6.out.1.step hb68.size fun c hc _ => hb68.block c hc
      have h11 : ∀ V, Below W8.heap.size W8 V → Calls Tryz.prog 19 #[.agg #[.slice A7 (b + 1) c7, .bool true], .agg #[.slice (some ⟨gv, ov + a, none⟩) (b + 1) (cv - a), .bool true]] V fun e w' => e = .returned (.bool true) ∧ Below V.heap.size V w' := fun V hb => same11 (h7.step hb.size fun c hc _ => hb.block c hc) (hsub.step hb.size fun c hc _ => hb.block c hc) (by omega) true
      have h02 : ∀ V, Below W8.heap.size W8 V → Calls Tryz.prog 11 #[.slice A6 (b + 1) c6, .slice (some ⟨gv, ov + a, none⟩) (b + 1) (cv - a)] V fun e w' => e = .returned (.bool true) ∧ Below V.heap.size V w' := fun V hb => sameL (h6.step hb.size fun c hc _ => hb.block c hc) (hsub.step hb.size fun c hc _ => hb.block c hc) (by omega)
      have h03 : ∀ V (u : Value) (G : Nat → Prop), Below W8.heap.size W8 V → Ls V G u xs → Calls Tryz.prog 11 #[u, .slice (some ⟨gv, ov, none⟩) xs.length cv] V fun e w' => e = .returned (.bool true) ∧ Below V.heap.size V w' := fun V u G hb hu => sameL hu (hl8.step hb.size fun c hc _ => hb.block c hc) (by omega)
      have hcu : ∀ V, Below W8.heap.size W8 V → Calls Tryz.prog 17 #[.pointer (some ⟨B, 0, none⟩)] V fun e w' => e = .returned (.int .i64 (1 + (a : Int) + b)) ∧ w' = V := fun V hb => by
        have h9 := cursor_any (b8.new hb)
        rw [show (putS (newS 9 xs) (1 + (a : Int) + b)).cur = 1 + (a : Int) + b from by
          show min (max (1 + (a : Int) + b) 1) ((xs.length : Nat) : Int) = _
          omega] at h9
        exact h9
      obtain ⟨x0, x1, x2⟩ := hcell W8 (Below.refl _ _)
      have HC := Lib.hid hcell
      have H11 := Lib.hid h11
      have H02 := Lib.hid h02
      have H03 := Lib.hid h03
      have HCU := Lib.hid hcu
      have HLI := Lib.hid hLI
      have HB8 := Lib.hid hB8
      have HBC := Lib.hid ((Below.refl W8.heap.size W8).drew)
      have q1 : ¬ (cv = a) := by omega
      have q2 : (a : Int) ≤ 1 + a + b := by omega
      have q4 : 1 + (a : Int) + b ≤ cv := by omega
      have iw4 := iw (1 + (a : Int) - 1) (a) (by omega) (by omega) (by omega)
      have ez : (1 + (a : Int) + b).toNat - a = b + 1 := by omega
      clear hcell h11 h02 h03 hcu hLI hB8 h6 h7 hsub hl8 b8 hb67 hb68 hT e8 hb8 hs8
      go_region_held3 (fun V => V.cell? ⟨X, 0, none⟩ = some (.slice A7 (b + 1) c7) ∧ V.cell? ⟨X, 1, none⟩ = some (.bool true) ∧ V.cell? ⟨B, 0, none⟩ = some (.pointer (some ⟨T, 0, none⟩))) (first | exact ⟨x0, x1, x2⟩ | exact HC.out _ HBC.out | go_keep) (first
        | (go_at_call 19; with_reducible refine (H11.out _ HBC.out).mono ?_; rintro e w9 ⟨rfl, hb9⟩; have HBC := Lib.hid (below_then HBC.out HBC.out.size hb9); clear hb9)
        | (go_at_call 11; with_reducible refine (H02.out _ HBC.out).mono ?_; rintro e w9 ⟨rfl, hb9⟩; have HBC := Lib.hid (below_then HBC.out HBC.out.size hb9); clear hb9)
        | (go_at_call 11; with_reducible refine (H03.out _ _ _ HBC.out (Ls.of_rw HR9.out)).mono ?_; rintro e w9 ⟨rfl, hb9⟩; have HBC := Lib.hid (below_then HBC.out HBC.out.size hb9); clear hb9)
        | (go_at_call 13; (with_reducible refine (HLI.out _ HBC.out).mono ?_); rintro e w9 ⟨v9, rfl, h91, h92, h93⟩; have HR9 := Lib.hid h91; have HBC := Lib.hid (below_then HBC.out HBC.out.size h93); clear h91 h92 h93)
        | (go_at_call 17; with_reducible refine (HCU.out _ HBC.out).mono ?_; rintro e w9 ⟨rfl, rfl⟩))
      all_goals
        go_wp2
        go_ret
        exact ⟨rfl, below_then HB8.out HB8.out.size HBC.out⟩
  · go_wp2_with (go_at_call 9; refine (known16_any w1).mono ?_; rintro e w2 ⟨rfl, hb2⟩; have HB2 := Lib.hid (below_then HB1.out HB1.out.size hb2); clear hb2)
    go_ret
    exact ⟨rfl, HB2.out⟩
theorem yanks_row (W : World) (A : Option Addr) (len cap : Nat) (_l : len ≤ cap) (h : LsAt W (.slice A len cap)) (x1 : Int) (h1 : (Lit.int .i64 x1).wf = true) (x2 : Int) (h2 : (Lit.int .i64 x2).wf = true) (x3 : Int) (h3 : (Lit.int .u8 x3).wf = true) :
    Calls Tryz.prog 6 #[.slice A len cap, .int .i64 x1, .int .i64 x2, .int .u8 x3] W fun e w' => e = .returned (.bool true) ∧ Below W.heap.size W w' := by
  obtain ⟨xs, h⟩ := h
  cases hlg : isLong xs
  · exact yanks_short h hlg x1 x2 x3 h1 h2 h3
  · exact yanks_long h hlg x1 x2 x3
end Go.Proofs.YtoejfgmfdjoonaaGreatDoor
