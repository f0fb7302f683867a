/- The law MarksTurn, walked: lines that are moved, and moved back, leave each mark where it was. -/
import Derived.Test.YtccalibapiiifaaMt
namespace Go.Proofs.Ytccalibapiiifaa
open Go.RowKit Go.Maps Go.Proofs.YtccalibapiiifaaW.PrintWords Go.Proofs.YtccalibapiiifaaW.PrintLast Go.Proofs.YtccalibapiiifaaW.PrintMore
attribute [local go_sem high] eqA51

theorem neq_same (x0 x1 : Int) : (!(x0 == x0 && x1 == x1)) = false := by simp

theorem cellsM {w : World} {g n : Nat} {xs : List MK} (h : kdM.C w (some ⟨g, 0, none⟩) n xs) (j : Nat) (hj : j < xs.length) : w.cell? ⟨g, j * 2, none⟩ = some (.int .u8 xs[j].1) ∧ w.cell? ⟨g, j * 2 + 1, none⟩ = some (.int .i64 xs[j].2) := by
  obtain ⟨ad, e, hc⟩ := h.2.2 (by have := h.1; omega)
  injection e with e
  subst e
  obtain ⟨c, _, hK, hcell⟩ := hc j _ (List.getElem?_eq_getElem hj)
  have hc' := kdM_K hK
  subst hc'
  have h0 := hcell 0 (.int .u8 xs[j].1) rfl
  have h1 := hcell 1 (.int .i64 xs[j].2) rfl
  rw [add_plain] at h0 h1
  exact ⟨h0, h1⟩

set_option maxRecDepth 100000 in
set_option maxHeartbeats 4000000 in
theorem turn_walk (w : World) (A : Option Addr) (len cap : Nat) (_hl : len ≤ cap) (hat : BytesAt w A len) (x1 : Int) (hx1 : (Lit.int .u8 x1).wf = true) (x2 : Int) (hx2 : (Lit.int .u8 x2).wf = true) (x3 : Int) (hx3 : (Lit.int .u8 x3).wf = true) :
    Calls Try.prog 10 #[.slice A len cap, .int .u8 x1, .int .u8 x2, .int .u8 x3] w fun e w' => e = .returned (.bool true) ∧ Below w.heap.size w w' := by
  obtain ⟨zs, hC0, hz⟩ := hat
  have HC := Lib.hid hC0
  have HZ := Lib.hid hz
  have hb1 := bounds_u8 hx1
  have hb2 := bounds_u8 hx2
  have hb3 := bounds_u8 hx3
  clear hC0 hz hx1 hx2 hx3
  by_cases h26 : 26 < len
  · have h26' : (26 : Int) < (len : Int) := by omega
    go_enter Try.func10, Try.ntmps10
    go_wp2_with (first
      | (go_at_call 14; (with_reducible refine (known_any _).mono ?_); rintro e w1 ⟨rfl, hb⟩)
      | go_in)
    go_ret
    exact ⟨rfl, hb⟩
  have h26' : ¬ (26 : Int) < (len : Int) := by omega
  go_enter Try.func10, Try.ntmps10
  go_wp2_with (first
    | (go_at_call 14; (with_reducible refine (known_any _).mono ?_); rintro e w1 ⟨rfl, hb1⟩; have HB1 := Lib.hid hb1; clear hb1)
    | (go_at_call 13; (with_reducible refine (new_held w.heap.size w w1 HB1.out HB1.out.size).mono ?_); rintro e w2 ⟨rfl, H2⟩)
    | go_in)
  go_loopw [10] (fun v10 wr => ∃ (i : Nat) (f : Int → Int), v10 = .int .i64 i ∧ i ≤ len ∧ Held w.heap.size w wr (w1.heap.size + 1) w1.heap.size i f ∧ Small f) (fun v10 _ => len - (intOf v10).toNat)
  case atStart => exact ⟨0, _, rfl, by omega, H2, small_zero⟩
  case round =>
    clear H2 HB1
    obtain ⟨i, f, rfl, hi, H, hS⟩ := hrel
    have HS := Lib.hid hS
    have HCr := Lib.hid (Kd.C_below HC.out H.below)
    clear hS
    by_cases hil : i < len
    · obtain ⟨ad, rfl, hcell⟩ := Kd.at_int HCr.out i (by omega) (by omega)
      obtain ⟨x, hx⟩ : ∃ x, rd zs i = x := ⟨_, rfl⟩
      have hxb : 0 ≤ x ∧ x ≤ 255 := by
        have hlz := Kd.C_len HC.out
        have hm : rd zs i ∈ zs := by
          have : rd zs (i : Int) = zs[i]'(by omega) := by simp [rd, List.getD_eq_getElem?_getD, List.getElem?_eq_getElem (show i < zs.length by omega)]
          rw [this]
          exact List.getElem_mem _
        rw [hx] at hm
        exact HZ.out x hm
      rw [hx, Int.toNat_natCast] at hcell
      clear hx
      go_wp2_with (first
        | (go_at_call 16; (with_reducible refine (set_held H (97 + (i : Int)) (1 + x) 0 (by omega) (by omega) (Nat.lt_of_le_of_lt (show i ≤ 26 by omega) (by decide)) (by unfold setC; rw [if_neg (by omega), if_neg (by omega)])).mono ?_); rintro e w3 ⟨rfl, H3⟩)
        | go_in)
      go_roundw
      case rel => exact ⟨i + 1, _, by first | rfl | simp, by omega, H3, small_set HS.out (by omega) (by omega)⟩
      case measure => simp [intOf]; omega
    · obtain rfl : i = len := by omega
      clear HCr HC HZ
      have hi26 : i ≤ 26 := by omega
      have HLt := Lib.hid HS.out.1
      obtain ⟨a, ha⟩ : ∃ a, 1 + x1 = a := ⟨_, rfl⟩
      obtain ⟨z, hz⟩ : ∃ z, a + x2 = z := ⟨_, rfl⟩
      obtain ⟨n, hn⟩ : ∃ n, z - a + 1 = n := ⟨_, rfl⟩
      obtain ⟨q1, hq1⟩ : ∃ q, x3 + n = q := ⟨_, rfl⟩
      obtain ⟨q2, hq2⟩ : ∃ q, x3 - n + 1 = q := ⟨_, rfl⟩
      obtain ⟨a1, ha1⟩ : ∃ q, a - 1 = q := ⟨_, rfl⟩
      have hab : 1 ≤ a ∧ a ≤ 256 := by omega
      have hzb : a ≤ z ∧ z ≤ 511 := by omega
      have hnb : 1 ≤ n ∧ n ≤ 256 := by omega
      by_cases hd1 : x3 < a1
      · have BK : Hid (movF (movF f a z x3) (x3 + 1) q1 z = f) := Lib.hid (by rw [← hq1, ← hn]; exact back1 HS.out (a := a) (z := z) (d := x3) (by omega) (by omega) (by omega) (by omega))
        have hlt : x3 < a := by omega
        have hng : ¬ a1 ≤ x3 := by omega
        as_aux_lemma =>
        go_wp2_with (first
          | (go_at_call 26; (with_reducible refine (all_held H HLt.out (by omega)).mono ?_); rintro e w3 ⟨A1, k1, rfl, hC1, H3, hb3, hg3⟩; have HC1 := Lib.hid hC1; have HG1 := Lib.hid hg3; clear hC1 hb3 hg3)
          | (go_at_call 19; (with_reducible refine (move_held H3 a z x3 (Nat.lt_of_le_of_lt (show i ≤ 26 by omega) (by decide))).mono ?_); rintro e w4 ⟨rfl, H4, hg4⟩; have HG4 := Lib.hid hg4; clear hg4)
          | (go_at_call 19; (with_reducible refine (move_held H4 (x3 + 1) q1 z (Nat.lt_of_le_of_lt (show i ≤ 26 by omega) (by decide))).mono ?_); rintro e w5 ⟨rfl, H5, hg5⟩; have HG5 := Lib.hid hg5; have H5' := Lib.hid (show Held w.heap.size w w5 (w1.heap.size + 1) w1.heap.size i f by rw [BK.out] at H5; exact H5); clear hg5 H5)
          | (go_at_call 26; (with_reducible refine (all_held H5'.out HLt.out (by omega)).mono ?_); rintro e w6 ⟨A2, k2, rfl, hC2, H6, hb6, hg6⟩; have HC2 := Lib.hid hC2; have HB6 := Lib.hid hb6; have HG6 := Lib.hid hg6; clear hC2 hb6 hg6)
          | go_in)
        have HM := Lib.hid H.map.lt
        have HC1' := Lib.hid (keepC HC1.out (w' := w6) (fun hn => by
          obtain ⟨g, e, h1, h2⟩ := HG1.out hn
          have hm := HM.out
          refine ⟨g, e, ?_⟩
          have s4 := HG4.out.size
          have s5 := HG5.out.size
          rw [HB6.out.block g (by omega), HG5.out.block g (by omega) (by simp; omega), HG4.out.block g h2 (by simp; omega)]))
        have HBF := Lib.hid H6.below
        obtain ⟨L, hL⟩ : ∃ L, marksL f = L := ⟨_, rfl⟩
        have hL26 := marksL_len f
        rw [hL] at HC1' HC2 HG1 HG6 hL26 ⊢
        clear HC1 HG4 HG5 H3 H4 H5' H6 H hL HB6 HM BK
        go_loopw [17] (fun v17 wr => ∃ j : Nat, v17 = .int .i64 j ∧ j ≤ L.length ∧ Below w6.heap.size w6 wr) (fun v17 _ => L.length - (intOf v17).toNat)
        case atStart => exact ⟨0, rfl, by omega, Below.refl _ _⟩
        case round =>
          obtain ⟨j, rfl, hj, hbr⟩ := hrel
          have HBR := Lib.hid hbr
          clear hbr
          by_cases hjl : j < L.length
          · obtain ⟨g1, rfl, _, _⟩ := HG1.out (by omega)
            obtain ⟨g2, rfl, _, _⟩ := HG6.out (by omega)
            obtain ⟨e1, e2⟩ := cellsM (Kd.C_below HC1'.out HBR.out) j hjl
            obtain ⟨e3, e4⟩ := cellsM (Kd.C_below HC2.out HBR.out) j hjl
            obtain ⟨y0, hy0⟩ : ∃ y, L[j].1 = y := ⟨_, rfl⟩
            obtain ⟨y1, hy1⟩ : ∃ y, L[j].2 = y := ⟨_, rfl⟩
            rw [hy0] at e1 e3
            rw [hy1] at e2 e4
            clear hy0 hy1
            go_wp2
            go_region
            all_goals
              go_wp2
              go_roundw
              case rel => exact ⟨j + 1, by first | rfl | simp, by omega, below_drew HBR.out⟩
              case measure => simp [intOf]; omega
          · obtain rfl : j = L.length := by omega
            go_wp2
            go_ret
            exact ⟨rfl, below_then HBF.out HBF.out.size HBR.out⟩
      · have hge : a1 ≤ x3 := by omega
        by_cases hd2 : x3 ≤ z
        · as_aux_lemma =>
          go_wp2_with (first
            | (go_at_call 26; (with_reducible refine (all_held H HLt.out (by omega)).mono ?_); rintro e w3 ⟨A1, k1, rfl, hC1, H3, hb3, hg3⟩; clear hC1 hb3 hg3)
            | go_in)
          go_ret
          exact ⟨rfl, H3.below⟩
        have hnlt : ¬ x3 < a := by omega
        have BK : Hid (movF (movF f a z x3) q2 x3 a1 = f) := Lib.hid (by rw [← hq2, ← hn, ← ha1]; exact back2 HS.out (a := a) (z := z) (d := x3) (by omega) (by omega) (by omega) (by omega))
        as_aux_lemma =>
        go_wp2_with (first
          | (go_at_call 26; (with_reducible refine (all_held H HLt.out (by omega)).mono ?_); rintro e w3 ⟨A1, k1, rfl, hC1, H3, hb3, hg3⟩; have HC1 := Lib.hid hC1; have HG1 := Lib.hid hg3; clear hC1 hb3 hg3)
          | (go_at_call 19; (with_reducible refine (move_held H3 a z x3 (Nat.lt_of_le_of_lt (show i ≤ 26 by omega) (by decide))).mono ?_); rintro e w4 ⟨rfl, H4, hg4⟩; have HG4 := Lib.hid hg4; clear hg4)
          | (go_at_call 19; (with_reducible refine (move_held H4 q2 x3 a1 (Nat.lt_of_le_of_lt (show i ≤ 26 by omega) (by decide))).mono ?_); rintro e w5 ⟨rfl, H5, hg5⟩; have HG5 := Lib.hid hg5; have H5' := Lib.hid (show Held w.heap.size w w5 (w1.heap.size + 1) w1.heap.size i f by rw [BK.out] at H5; exact H5); clear hg5 H5)
          | (go_at_call 26; (with_reducible refine (all_held H5'.out HLt.out (by omega)).mono ?_); rintro e w6 ⟨A2, k2, rfl, hC2, H6, hb6, hg6⟩; have HC2 := Lib.hid hC2; have HB6 := Lib.hid hb6; have HG6 := Lib.hid hg6; clear hC2 hb6 hg6)
          | go_in)
        have HM := Lib.hid H.map.lt
        have HC1' := Lib.hid (keepC HC1.out (w' := w6) (fun hn => by
          obtain ⟨g, e, h1, h2⟩ := HG1.out hn
          have hm := HM.out
          refine ⟨g, e, ?_⟩
          have s4 := HG4.out.size
          have s5 := HG5.out.size
          rw [HB6.out.block g (by omega), HG5.out.block g (by omega) (by simp; omega), HG4.out.block g h2 (by simp; omega)]))
        have HBF := Lib.hid H6.below
        obtain ⟨L, hL⟩ : ∃ L, marksL f = L := ⟨_, rfl⟩
        have hL26 := marksL_len f
        rw [hL] at HC1' HC2 HG1 HG6 hL26 ⊢
        clear HC1 HG4 HG5 H3 H4 H5' H6 H hL HB6 HM BK
        go_loopw [17] (fun v17 wr => ∃ j : Nat, v17 = .int .i64 j ∧ j ≤ L.length ∧ Below w6.heap.size w6 wr) (fun v17 _ => L.length - (intOf v17).toNat)
        case atStart => exact ⟨0, rfl, by omega, Below.refl _ _⟩
        case round =>
          obtain ⟨j, rfl, hj, hbr⟩ := hrel
          have HBR := Lib.hid hbr
          clear hbr
          by_cases hjl : j < L.length
          · obtain ⟨g1, rfl, _, _⟩ := HG1.out (by omega)
            obtain ⟨g2, rfl, _, _⟩ := HG6.out (by omega)
            obtain ⟨e1, e2⟩ := cellsM (Kd.C_below HC1'.out HBR.out) j hjl
            obtain ⟨e3, e4⟩ := cellsM (Kd.C_below HC2.out HBR.out) j hjl
            obtain ⟨y0, hy0⟩ : ∃ y, L[j].1 = y := ⟨_, rfl⟩
            obtain ⟨y1, hy1⟩ : ∃ y, L[j].2 = y := ⟨_, rfl⟩
            rw [hy0] at e1 e3
            rw [hy1] at e2 e4
            clear hy0 hy1
            go_wp2
            go_region
            all_goals
              go_wp2
              go_roundw
              case rel => exact ⟨j + 1, by first | rfl | simp, by omega, below_drew HBR.out⟩
              case measure => simp [intOf]; omega
          · obtain rfl : j = L.length := by omega
            go_wp2
            go_ret
            exact ⟨rfl, below_then HBF.out HBF.out.size HBR.out⟩

end Go.Proofs.Ytccalibapiiifaa
