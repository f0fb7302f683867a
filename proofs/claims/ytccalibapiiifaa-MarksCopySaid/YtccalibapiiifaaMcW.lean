/- The law MarksCopy, walked: what is done to a copy changes nothing of what was copied. -/
import Derived.Test.YtccalibapiiifaaMc
namespace Go.Proofs.Ytccalibapiiifaa
open Go.RowKit Go.Maps Go.Proofs.YtccalibapiiifaaW.PrintWords Go.Proofs.YtccalibapiiifaaW.PrintLast Go.Proofs.YtccalibapiiifaaW.PrintMore

theorem mbig {B : Nat} {w0 w : World} {p mb n mb2 : Nat} {f : Int → Int} (h : w.heap.size ≤ mb2) (H : Held B w0 w p mb n f) : B ≤ mb2 := Nat.le_trans (Nat.le_trans H.hp (Nat.le_of_lt H.plt)) h
theorem nmb {w : World} {p mb2 : Nat} (h : w.heap.size ≤ mb2) (hp : p < w.heap.size) : p ≠ mb2 := by omega
theorem mbx {w : World} {g mb2 : Nat} {o : Obj} (h : w.heap.size ≤ mb2) (hx : w.heap[g]? = some o) : g ≠ mb2 := by
  have := blk_lt hx
  omega
theorem boxOn {w w' : World} {g mb2 : Nat} {o : Obj} (hx : w.heap[g]? = some o) (hg : w.grownBy w' (some mb2)) (hne : g ≠ mb2) : w'.heap[g]? = some o := by
  rw [hg.block g (blk_lt hx) (by simpa using hne)]
  exact hx
theorem copy_chain {wr w3 w4 w5 w6 w7 w8 w9 : World} {n : Nat} {A : Option Addr} {mb2 : Nat} (h : 0 < n → ∃ g, A = some ⟨g, 0, none⟩ ∧ wr.heap.size ≤ g ∧ g < w3.heap.size) (hm : w3.heap.size ≤ mb2)
    (h4 : Below w3.heap.size w3 w4) (h5 : Below w4.heap.size w4 w5) (h6 : Below w5.heap.size w5 w6) (h7 : w6.grownBy w7 (some mb2)) (h8 : w7.grownBy w8 (some mb2)) (h9 : w8.grownBy w9 (some mb2)) :
    0 < n → ∃ g, A = some ⟨g, 0, none⟩ ∧ w9.heap[g]? = w6.heap[g]? := by
  intro hn
  obtain ⟨g, e, _, h2⟩ := h hn
  have s4 := h4.size
  have s5 := h5.size
  have s6 := h6.size
  have s7 := h7.size
  have s8 := h8.size
  refine ⟨g, e, ?_⟩
  rw [h9.block g (by omega) (by simp; omega), h8.block g (by omega) (by simp; omega), h7.block g (by omega) (by simp; omega)]

set_option maxRecDepth 100000 in
set_option maxHeartbeats 4000000 in
theorem copy_walk (w : World) (A : Option Addr) (len cap : Nat) (_hl : len ≤ cap) (hops : OpsAt w A len) (x0 x1 x2 x3 x4 : Int) (hx1 : 0 ≤ x1 ∧ x1 ≤ 255) :
    Calls Try.prog 12 #[.slice A len cap, .agg #[.int .u8 x0, .int .u8 x1, .int .i64 x2, .int .i64 x3, .int .i64 x4]] w fun e w' => e = .returned (.bool true) ∧ Below w.heap.size w w' := by
  have HOps : Hid (OpsAt w A len) := hops
  clear hops
  by_cases h1 : 60 < len
  · have h1' : (60 : Int) < (len : Int) := by omega
    go_enter Try.func12, Try.ntmps12
    go_wp2_with (first
      | (go_at_call 14; (with_reducible refine (known_any _).mono ?_); rintro e w1 ⟨rfl, hb⟩)
      | go_in)
    go_ret
    exact ⟨rfl, below_then (below_alloc (Below.refl _ _) _) (by simp) hb⟩
  have h1' : ¬ (60 : Int) < (len : Int) := by omega
  have hbox := heap_alloc_new w (.cells #[.int .u8 x0, .int .u8 x1, .int .i64 x2, .int .i64 x3, .int .i64 x4] 35)
  have hbw : Below w.heap.size w (w.alloc (.cells #[.int .u8 x0, .int .u8 x1, .int .i64 x2, .int .i64 x3, .int .i64 x4] 35)) := below_alloc (Below.refl _ _) _
  have HBX := Lib.hid hbox
  have HBW := Lib.hid hbw
  clear hbox hbw
  go_enter Try.func12, Try.ntmps12
  go_wp2_with (first
    | (go_at_call 14; (with_reducible refine (known_any _).mono ?_); rintro e w1 ⟨rfl, hb1⟩; have HB1 := Lib.hid hb1; clear hb1)
    | (go_at_call 13; (with_reducible refine (new_held (w.alloc (.cells #[.int .u8 x0, .int .u8 x1, .int .i64 x2, .int .i64 x3, .int .i64 x4] 35)).heap.size (w.alloc (.cells #[.int .u8 x0, .int .u8 x1, .int .i64 x2, .int .i64 x3, .int .i64 x4] 35)) w1 HB1.out HB1.out.size).mono ?_); rintro e w2 ⟨rfl, H2⟩)
    | go_in)
  go_loopw [6] (fun v6 wr => ∃ (i : Nat) (f : Int → Int), v6 = .int .i64 i ∧ i ≤ len ∧ Held (w.alloc (.cells #[.int .u8 x0, .int .u8 x1, .int .i64 x2, .int .i64 x3, .int .i64 x4] 35)).heap.size (w.alloc (.cells #[.int .u8 x0, .int .u8 x1, .int .i64 x2, .int .i64 x3, .int .i64 x4] 35)) wr (w1.heap.size + 1) w1.heap.size i f ∧ Letters f) (fun v6 _ => len - (intOf v6).toNat)
  case atStart => exact ⟨0, _, rfl, by omega, H2, fun _ h => absurd rfl h⟩
  case round =>
    clear H2 HB1
    rename World => wo
    obtain ⟨i, f, rfl, hi, H, hL⟩ := hrel
    have HL := Lib.hid hL
    have HX := Lib.hid ((H.below.block w.heap.size (by simp)).trans HBX.out)
    have HBO := Lib.hid (below_then HBW.out HBW.out.size H.below)
    have HOp := Lib.hid (HOps.out.below HBO.out)
    clear hL
    by_cases hil : i < len
    · obtain ⟨ad, k, nm, a2, a3, a4, rfl, _, _, hnm, _, _, _, hcells⟩ := HOp.out i hil
      obtain ⟨e0, e1, e2, e3, e4⟩ := hcells
      have hnb := bounds_u8 hnm
      go_wp2
      go_region_law (first
        | (go_simp; go_at_call 16; (with_reducible refine (set_held2 (H.later (below_drew (Below.refl _ _))) nm a2 (by omega) (by omega) (Nat.lt_of_le_of_lt (show i ≤ 60 by omega) (by decide))).mono ?_); rintro e w3 ⟨rfl, H3, hg3⟩; have HG3 := Lib.hid hg3; clear hg3))
      all_goals
        go_wp2
        go_roundw
        case rel => exact ⟨i + 1, _, by first | rfl | simp, by omega, H3, letters_set HL.out _ _⟩
        case measure => simp [intOf]; omega
    · obtain rfl : i = len := by omega
      clear HOp HOps
      have hi60 : i ≤ 60 := by omega
      as_aux_lemma =>
      go_wp2_with (first
        | (go_at_call 26; (with_reducible refine (all_held H HL.out (by omega)).mono ?_); rintro e w3 ⟨A1, k1, rfl, hC1, H3, hb3, hg3⟩; have HC1 := Lib.hid hC1; have HG1 := Lib.hid hg3; have HX3 := Lib.hid ((hb3.block _ (blk_lt HX.out)).trans HX.out); clear hC1 hb3 hg3)
        | (go_at_call 31; (with_reducible refine (copy_held H3).mono ?_); rintro e w4 ⟨p2, mb2, rfl, Hc4, Hm4, hb4, hmb2, hp2⟩; have HB4 := Lib.hid hb4; have HX4 := Lib.hid ((hb4.block _ (blk_lt HX3.out)).trans HX3.out); have HMB := Lib.hid hmb2; have HP2 := Lib.hid hp2; clear hb4 hmb2 hp2)
        | (go_at_call 26; (with_reducible refine (all_held Hc4 HL.out (by omega)).mono ?_); rintro e w5 ⟨A2, k2, rfl, hC2, Hc5, hb5, hg5⟩; have HC2 := Lib.hid hC2; have HG2 := Lib.hid hg5; have HB5 := Lib.hid hb5; have Hm5 := Hm4.later hb5; have HX5 := Lib.hid ((hb5.block _ (blk_lt HX4.out)).trans HX4.out); have HC15 := Lib.hid (Kd.C_below (Kd.C_below HC1.out HB4.out) hb5); clear hC2 hb5 hg5)
        | (go_at_call 33; (with_reducible refine (same_any (marksL_len f) HC2.out HC15.out (fun h => by obtain ⟨g, e, _⟩ := HG2.out h; exact ⟨g, e⟩) (fun h => by obtain ⟨g, e, _⟩ := HG1.out h; exact ⟨g, e⟩)).mono ?_); rintro e w6 ⟨rfl, hb6⟩; have HB6 := Lib.hid hb6; have Hc6 := Hc5.later hb6; have Hm6 := Hm5.later hb6; have HX6 := Lib.hid ((hb6.block _ (blk_lt HX5.out)).trans HX5.out); have HC16 := Lib.hid (Kd.C_below HC15.out hb6); have b61 := blk_cell HX6.out 1; have b62 := blk_cell HX6.out 2; have b63 := blk_cell HX6.out 3; have b64 := blk_cell HX6.out 4; clear hb6 Hc5 Hm5)
        | (go_at_call 16; (with_reducible refine (set_held2 Hc6 x1 x2 (by omega) (by omega) (Nat.lt_of_le_of_lt (show i ≤ 60 by omega) (by decide))).mono ?_); rintro e w7 ⟨rfl, Hc7, hg7⟩; have HG7 := Lib.hid hg7; have Hm7 := Hm6.other hg7 (mbig HMB.out H3) (nmb HMB.out H3.plt) (nmb HMB.out H3.map.lt); have HX7 := Lib.hid (boxOn HX6.out hg7 (mbx HMB.out HX3.out)); have b71 := blk_cell HX7.out 1; have b72 := blk_cell HX7.out 2; have b73 := blk_cell HX7.out 3; have b74 := blk_cell HX7.out 4; clear hg7)
        | (go_at_call 18; (with_reducible refine (splice_held2 Hc7 x2 x3 x4 (Nat.lt_of_le_of_lt (show i + 1 ≤ 61 by omega) (by decide))).mono ?_); rintro e w8 ⟨rfl, Hc8, hg8⟩; have HG8 := Lib.hid hg8; have Hm8 := Hm7.other hg8 (mbig HMB.out H3) (nmb HMB.out H3.plt) (nmb HMB.out H3.map.lt); have HX8 := Lib.hid (boxOn HX7.out hg8 (mbx HMB.out HX3.out)); have b81 := blk_cell HX8.out 1; have b82 := blk_cell HX8.out 2; have b83 := blk_cell HX8.out 3; have b84 := blk_cell HX8.out 4; clear hg8)
        | (go_at_call 19; (with_reducible refine (move_held Hc8 x2 x3 x4 (Nat.lt_of_le_of_lt (show i + 1 ≤ 61 by omega) (by decide))).mono ?_); rintro e w9 ⟨rfl, Hc9, hg9⟩; have HG9 := Lib.hid hg9; have Hm9 := Hm8.other hg9 (mbig HMB.out H3) (nmb HMB.out H3.plt) (nmb HMB.out H3.map.lt); clear hg9)
        | (go_at_call 26; (with_reducible refine (all_held Hm9 HL.out (by omega)).mono ?_); rintro e w10 ⟨A3, k3, rfl, hC3, H10, hb10, hg10⟩; have HC3 := Lib.hid hC3; have HG10 := Lib.hid hg10; have HC110 := Lib.hid (Kd.C_below (keepC HC16.out (copy_chain HG1.out HMB.out HB4.out HB5.out HB6.out HG7.out HG8.out HG9.out)) hb10); clear hC3 hb10 hg10)
        | (go_at_call 33; (with_reducible refine (same_any (marksL_len f) HC3.out HC110.out (fun h => by obtain ⟨g, e, _⟩ := HG10.out h; exact ⟨g, e⟩) (fun h => by obtain ⟨g, e, _⟩ := HG1.out h; exact ⟨g, e⟩)).mono ?_); rintro e w11 ⟨rfl, hb11⟩; have HBF := Lib.hid (below_then HBW.out HBW.out.size (below_then H10.below (Nat.le_trans H10.hp (Nat.le_of_lt H10.plt)) hb11)); clear hb11)
        | go_in)
      go_ret
      exact ⟨rfl, HBF.out⟩

end Go.Proofs.Ytccalibapiiifaa
