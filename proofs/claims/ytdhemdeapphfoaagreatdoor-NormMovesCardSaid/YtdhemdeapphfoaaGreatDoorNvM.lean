/- The law NormMoves: down and up again is where one was; beyond the text nothing goes; G and gg go where they are said to. -/
import Derived.Test.YtdhemdeapphfoaaGreatDoorNvY
import Derived.Test.YtdhemdeapphfoaaGreatDoorNvX
set_option linter.unusedVariables false
set_option linter.unusedSimpArgs false
set_option linter.unusedVariables false
set_option linter.unusedSimpArgs false
namespace Go.Proofs.YtdhemdeapphfoaaGreatDoor
open Go.RowKit Go.Shelf Go.Maps Go.Proofs.YtdhemdeapphfoaaGreatDoorW.PrintWords Go.Proofs.YtdhemdeapphfoaaGreatDoorW.PrintLast

/-- lines of one x each -/
def xsL (n : Nat) : List ByteArray := List.replicate n ⟨#[120]⟩
theorem xsL_len (n : Nat) : (xsL n).length = n := List.length_replicate
theorem xsL_snoc (n : Nat) : xsL n ++ [⟨#[120]⟩] = xsL (n + 1) := List.replicate_succ'.symm
theorem xsL_size {n : Nat} {x : ByteArray} (h : x ∈ xsL n) : x.size = 1 := by
  rw [List.eq_of_mem_replicate h]
  rfl
theorem xsL_long (n : Nat) : isLong (xsL n) = false := by
  unfold isLong
  rw [List.any_eq_false]
  intro x hx
  rw [xsL_size hx]
  decide

theorem bounds_u16 {x : Int} (h : (Lit.int .u16 x).wf = true) : 0 ≤ x ∧ x ≤ 65535 := by
  simpa [Lit.wf, IntKind.min, IntKind.max, IntKind.signed, IntKind.bits] using h
theorem nb_put {N0 : Nat} {wb w : World} {B k : Nat} {X : List ByteArray} (h : NBf N0 wb w B X k) {j : Nat} {t : Int} (ht : t = (j : Int)) (h1 : 1 ≤ j) (h2 : j ≤ X.length) : Calls Tryz.prog 9 #[.pointer (some ⟨B, 0, none⟩), .int .i64 t] w fun e w' => e = .returned (.tuple #[]) ∧ NBf N0 wb w' B X j := by
  subst ht
  obtain ⟨w0, s, e1, h9, rfl, e3⟩ := h
  refine (bput_any h9 j).mono ?_
  rintro e w' ⟨rfl, b, _, _⟩
  exact ⟨rfl, w0, _, e1, b, rfl, by show min (max (j : Int) 1) (s.ls.length : Int) = _; omega⟩

set_option maxRecDepth 100000 in
set_option maxHeartbeats 10000000 in
theorem nmoves_walk (w : World) (x y z : Int) (hx1 : (Lit.int .u8 x).wf = true) (hy1 : (Lit.int .u8 y).wf = true) (hz1 : (Lit.int .u16 z).wf = true) :
    Calls Tryz.prog 3 #[.int .u8 x, .int .u8 y, .int .u16 z] w fun e w' => e = .returned (.bool true) ∧ Below w.heap.size w w' := by
  have bx := bounds_u8 hx1
  have by_ := bounds_u8 hy1
  have bz : 0 ≤ z ∧ z ≤ 65535 := bounds_u16 hz1
  clear hx1 hy1 hz1
  obtain ⟨m, hm, hm1, hm2⟩ : ∃ m : Nat, x % 100 = (m : Int) - 1 ∧ 1 ≤ m ∧ m ≤ 100 := ⟨(x % 100 + 1).toNat, by omega, by omega, by omega⟩
  obtain ⟨c, hc, hc1⟩ : ∃ c : Nat, z % 300 = (c : Int) ∧ c < 300 := ⟨(z % 300).toNat, by omega, by omega⟩
  obtain ⟨k, hk, hk1⟩ : ∃ k : Nat, y % (m : Int) = (k : Int) ∧ k < m := ⟨(y % (m : Int)).toNat, by
    have := Int.emod_nonneg y (b := (m : Int)) (by omega)
    omega, by
    have := Int.emod_nonneg y (b := (m : Int)) (by omega)
    have := Int.emod_lt_of_pos y (b := (m : Int)) (by omega)
    omega⟩
  have hm0 : ¬ ((m : Int) = 0) := by omega
  obtain ⟨i0, hi0, hz0, hz1, hz2⟩ := info_parts infoS
  have HINF := Lib.hid (And.intro hi0 (And.intro hz0 (And.intro hz1 hz2)))
  clear hi0 hz0 hz1 hz2
  go_enter Tryz.func3, Tryz.ntmps3
  go_wp2
  go_loopw [7, 8] (fun v7 v8 wr => ∃ j : Nat, v8 = .int .i64 (j : Int) ∧ j ≤ m ∧ Own w.heap.size w wr v7 (xsL j)) (fun _ v8 _ => m - (intOf v8).toNat)
  case atStart => exact ⟨0, rfl, Nat.zero_le _, Rw.nil _ _, fun b hb => (by cases hb), Below.refl _ _⟩
  case round =>
    obtain ⟨j, rfl, hj, hrw, hrN, hbl⟩ := hrel
    obtain ⟨A0, c0, hv0, hl0, hm0, _⟩ := hrw.slice
    rw [cS_len, xsL_len] at hv0 hl0
    subst hv0
    unfold maxLen at hm0
    have HRW := Lib.hid hrw
    have HRN := Lib.hid hrN
    have HBl := Lib.hid hbl
    clear hrw hrN hbl
    by_cases hlt : j < m
    · have hlt' : (j : Int) < 1 + ((m : Int) - 1) := by omega
      go_wp2_with (first
        | (at_builtin; refine wpList_append_rw (v := .slice A0 j c0) (cs := cS (xsL j)) _ rfl _ _ 23 23 rfl 9 i0 (.string ⟨#[]⟩) 16 Tryz.underlying23 HINF.out.1 HINF.out.2.1 HINF.out.2.2.1 HINF.out.2.2.2 rfl rfl (HRW.out.alloc _) (.slice (some ⟨wr.heap.size, 0, none⟩) 1 1) 1 [.string ⟨#[120]⟩] rfl (src_blk _ _ _ _ Tryz.underlying23 _ rfl (new_at _ _ rfl _)) ?c1 ?c2 ?_; rotate_left 2; intro v1 w1 hr1 hg1 ha1; have HR1 := Lib.hid hr1; have HG1 := Lib.hid hg1; have HA1 := Lib.hid ha1; clear hr1 hg1 ha1))
      case c1 => rw [cS_len, xsL_len]; omega
      case c2 => rw [cS_len, xsL_len]; omega
      have h5 := HR1.out
      rw [show cS (xsL j) ++ [Value.string ⟨#[120]⟩] = cS (xsL (j + 1)) by rw [← xsL_snoc]; simp [cS]] at h5
      have hsz : w.heap.size ≤ (wr.alloc (.cells #[.string ⟨#[120]⟩] 9)).heap.size := Nat.le_trans HBl.out.size (by simp)
      have h6 : ∀ b, v1.ownBlock = some b → w.heap.size ≤ b := HA1.out.from HRN.out hsz
      have h7 : Below w.heap.size w w1 := (HBl.out.alloc (Nat.le_trans HBl.out.size (by simp)) (.cells #[.string ⟨#[120]⟩] 9)).grown HG1.out hsz HRN.out
      have H5 := Lib.hid (And.intro h5 (And.intro h6 h7))
      clear h5 h6 h7 hsz
      go_roundw
      case rel => exact ⟨j + 1, by go_num, by omega, H5.out.1, H5.out.2.1, H5.out.2.2⟩
      case measure => simp [intOf]; omega
    · obtain rfl : j = m := by omega
      have hlt' : ¬ ((j : Int) < 1 + ((j : Int) - 1)) := by omega
      have hX : (xsL j).length = j := xsL_len j
      have hnw := bnew_any (m := 9) (Ls.of_rw HRW.out) (by decide) (by decide) (by rw [hX]; omega) (xsL_long _) (fun x hx => by rw [xsL_size hx]; decide)
      rw [show fullS (xsL j) = xsL j from if_neg (fun e => by rw [e] at hX; simp at hX; omega)] at hnw
      have HNW := Lib.hid hnw
      have HX := Lib.hid hX
      clear hnw hX hlt
      go_wp2_with fail
      refine HNW.out.mono ?_
      rintro e w3 ⟨B, rfl, b3⟩
      have H3 := Lib.hid (show NBf wr.heap.size wr w3 B (xsL j) 1 from ⟨wr, newS 9 (xsL j), rfl, b3, rfl, rfl⟩)
      clear b3 HNW
      go_wp2_with (first
        | (go_at_call 7; refine (regsNew_any w3).mono ?_; rintro e w4 ⟨⟨R, rfl⟩, hb4⟩; have H4 := Lib.hid (H3.out.new hb4); clear hb4)
        | (go_at_call 8; refine (known19_any w4).mono ?_; rintro e w5 ⟨rfl, hb5⟩; have H5 := Lib.hid (H4.out.new hb5); clear hb5))
      have hcur : ((k + 1 : Nat) : Int) = 1 + k := by omega
      have hpt := nb_put H5.out (j := k + 1) (t := 1 + (k : Int)) (by omega) (by omega) (by rw [HX.out]; omega)
      have HPT := Lib.hid hpt
      clear hpt
      go_wp2_with fail
      refine HPT.out.mono ?_
      rintro e w6 ⟨rfl, h6⟩
      have H6 := Lib.hid h6
      clear h6 HPT
      by_cases hfit : k + 1 + max c 1 ≤ j
      · have hf1 : 1 + (k : Int) + max (c : Int) 1 ≤ j := by omega
        have hdj := nk_j H6.out (by omega) (by rw [HX.out]; omega) (by rw [HX.out]; omega) (c := c) (by omega) (R := R) (r := 0) (k' := k + 1 + max c 1) (.inl ⟨by rw [HX.out]; exact hfit, rfl, rfl⟩)
        have HDJ := Lib.hid hdj
        clear hdj
        go_wp2_with fail
        refine HDJ.out.mono ?_
        rintro e w7 ⟨rfl, h7⟩
        have hdk := nk_k h7 (by omega) (by rw [HX.out]; omega) (by rw [HX.out]; omega) (c := c) (by omega) (R := R) (by omega)
        rw [Nat.add_sub_cancel] at hdk
        have HDK := Lib.hid hdk
        clear hdk h7
        go_wp2_with fail
        refine HDK.out.mono ?_
        rintro e w8 ⟨rfl, h8⟩
        have H8 := Lib.hid h8
        clear h8
        have hc9 : c ≤ 300 := by omega
        have hc8 := H8.out.cursor
        rw [hcur] at hc8
        have HCU := Lib.hid hc8
        clear hc8
        by_cases h0 : c = 0
        · have z1 : ((c : Int) == 0) = true := by rw [beq_iff_eq]; omega
          have h1 : c < 1 := by omega
          have hg := nk_G H8.out (k := k + 1) (by omega) (by rw [HX.out]; omega) (by rw [HX.out]; omega) hc9 (R := R)
          rw [if_pos h0, HX.out] at hg
          have HC0 := Lib.hid h0
          clear h0
          have HG := Lib.hid hg
          clear hg
          go_wp2_with (first
            | (go_at_call 11; refine HCU.out.mono ?_; rintro e wc ⟨rfl, rfl⟩)
            | (go_at_call 10; refine HG.out.mono ?_; rintro e w9 ⟨rfl, h9⟩; have H9 := Lib.hid h9; clear h9))
          have hgg := nk_gg H9.out (by omega) (by rw [HX.out]; omega) (by rw [HX.out]; omega) hc9 (R := R)
          rw [if_pos HC0.out] at hgg
          have HGG := Lib.hid hgg
          clear hgg
          go_wp2_with (first
            | (go_at_call 11; refine H9.out.cursor.mono ?_; rintro e wc ⟨rfl, rfl⟩))
          refine HGG.out.mono ?_
          rintro e wd ⟨rfl, hd⟩
          have HD := Lib.hid hd
          clear hd
          go_wp2_with (first
            | (go_at_call 11; refine HD.out.cursor.mono ?_; rintro e wf ⟨rfl, rfl⟩))
          go_ret
          exact ⟨rfl, below_then HBl.out HBl.out.size HD.out.below⟩
        · have z1 : ((c : Int) == 0) = false := by rw [beq_eq_false_iff_ne]; omega
          have h1 : 0 < c := by omega
          have hmn : ((min c j : Nat) : Int) = min (c : Int) j := by omega
          have hg := nk_G H8.out (k := k + 1) (by omega) (by rw [HX.out]; omega) (by rw [HX.out]; omega) hc9 (R := R)
          rw [if_neg h0, HX.out] at hg
          have HC0 := Lib.hid h0
          clear h0
          have HG := Lib.hid hg
          have HMN := Lib.hid hmn
          clear hg hmn
          go_wp2_with (first
            | (go_at_call 11; refine HCU.out.mono ?_; rintro e wc ⟨rfl, rfl⟩)
            | (go_at_call 10; refine HG.out.mono ?_; rintro e w9 ⟨rfl, h9⟩; have H9 := Lib.hid h9; clear h9))
          have hgg := nk_gg H9.out (by omega) (by rw [HX.out]; omega) (by rw [HX.out]; omega) hc9 (R := R)
          rw [if_neg HC0.out, HX.out] at hgg
          have HGG := Lib.hid hgg
          clear hgg
          have hcw := H9.out.cursor
          rw [HMN.out] at hcw
          have HCW := Lib.hid hcw
          clear hcw
          go_wp2_with (first
            | (go_at_call 11; refine HCW.out.mono ?_; rintro e wc ⟨rfl, rfl⟩))
          refine HGG.out.mono ?_
          rintro e wd ⟨rfl, hd⟩
          have hcv := hd.cursor
          rw [HMN.out] at hcv
          have HCV := Lib.hid hcv
          have HD := Lib.hid hd
          clear hd hcv
          go_wp2_with (first
            | (go_at_call 11; refine HCV.out.mono ?_; rintro e wf ⟨rfl, rfl⟩))
          go_ret
          exact ⟨rfl, below_then HBl.out HBl.out.size HD.out.below⟩
      · have hf1 : ¬ (1 + (k : Int) + max (c : Int) 1 ≤ j) := by omega
        have hdj := nk_j H6.out (by omega) (by rw [HX.out]; omega) (by rw [HX.out]; omega) (c := c) (by omega) (R := R) (r := 190) (k' := k + 1) (.inr ⟨by rw [HX.out]; omega, rfl, rfl⟩)
        have HDJ := Lib.hid hdj
        clear hdj
        go_wp2_with fail
        refine HDJ.out.mono ?_
        rintro e w8 ⟨rfl, h8⟩
        have H8 := Lib.hid h8
        clear h8
        have hc9 : c ≤ 300 := by omega
        have hc8 := H8.out.cursor
        rw [hcur] at hc8
        have HCU := Lib.hid hc8
        clear hc8
        by_cases h0 : c = 0
        · have z1 : ((c : Int) == 0) = true := by rw [beq_iff_eq]; omega
          have h1 : c < 1 := by omega
          have hg := nk_G H8.out (k := k + 1) (by omega) (by rw [HX.out]; omega) (by rw [HX.out]; omega) hc9 (R := R)
          rw [if_pos h0, HX.out] at hg
          have HC0 := Lib.hid h0
          clear h0
          have HG := Lib.hid hg
          clear hg
          go_wp2_with (first
            | (go_at_call 11; refine HCU.out.mono ?_; rintro e wc ⟨rfl, rfl⟩)
            | (go_at_call 10; refine HG.out.mono ?_; rintro e w9 ⟨rfl, h9⟩; have H9 := Lib.hid h9; clear h9))
          have hgg := nk_gg H9.out (by omega) (by rw [HX.out]; omega) (by rw [HX.out]; omega) hc9 (R := R)
          rw [if_pos HC0.out] at hgg
          have HGG := Lib.hid hgg
          clear hgg
          go_wp2_with (first
            | (go_at_call 11; refine H9.out.cursor.mono ?_; rintro e wc ⟨rfl, rfl⟩))
          refine HGG.out.mono ?_
          rintro e wd ⟨rfl, hd⟩
          have HD := Lib.hid hd
          clear hd
          go_wp2_with (first
            | (go_at_call 11; refine HD.out.cursor.mono ?_; rintro e wf ⟨rfl, rfl⟩))
          go_ret
          exact ⟨rfl, below_then HBl.out HBl.out.size HD.out.below⟩
        · have z1 : ((c : Int) == 0) = false := by rw [beq_eq_false_iff_ne]; omega
          have h1 : 0 < c := by omega
          have hmn : ((min c j : Nat) : Int) = min (c : Int) j := by omega
          have hg := nk_G H8.out (k := k + 1) (by omega) (by rw [HX.out]; omega) (by rw [HX.out]; omega) hc9 (R := R)
          rw [if_neg h0, HX.out] at hg
          have HC0 := Lib.hid h0
          clear h0
          have HG := Lib.hid hg
          have HMN := Lib.hid hmn
          clear hg hmn
          go_wp2_with (first
            | (go_at_call 11; refine HCU.out.mono ?_; rintro e wc ⟨rfl, rfl⟩)
            | (go_at_call 10; refine HG.out.mono ?_; rintro e w9 ⟨rfl, h9⟩; have H9 := Lib.hid h9; clear h9))
          have hgg := nk_gg H9.out (by omega) (by rw [HX.out]; omega) (by rw [HX.out]; omega) hc9 (R := R)
          rw [if_neg HC0.out, HX.out] at hgg
          have HGG := Lib.hid hgg
          clear hgg
          have hcw := H9.out.cursor
          rw [HMN.out] at hcw
          have HCW := Lib.hid hcw
          clear hcw
          go_wp2_with (first
            | (go_at_call 11; refine HCW.out.mono ?_; rintro e wc ⟨rfl, rfl⟩))
          refine HGG.out.mono ?_
          rintro e wd ⟨rfl, hd⟩
          have hcv := hd.cursor
          rw [HMN.out] at hcv
          have HCV := Lib.hid hcv
          have HD := Lib.hid hd
          clear hd hcv
          go_wp2_with (first
            | (go_at_call 11; refine HCV.out.mono ?_; rintro e wf ⟨rfl, rfl⟩))
          go_ret
          exact ⟨rfl, below_then HBl.out HBl.out.size HD.out.below⟩
theorem nmoves_row (W : World) (x1 : Int) (h1 : (Lit.int .u8 x1).wf = true) (x2 : Int) (h2 : (Lit.int .u8 x2).wf = true) (x3 : Int) (h3 : (Lit.int .u16 x3).wf = true) :
    Calls Tryz.prog 3 #[.int .u8 x1, .int .u8 x2, .int .u16 x3] W fun e w' => e = .returned (.bool true) ∧ Below W.heap.size W w' := nmoves_walk W x1 x2 x3 h1 h2 h3
end Go.Proofs.YtdhemdeapphfoaaGreatDoor
