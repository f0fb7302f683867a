/- The law MarksDoes, walked: any calls on marks answer as the document's marks do. -/
import Derived.Test.YtccalibapiiifaaRefAll
namespace Go.Proofs.Ytccalibapiiifaa
open Go.RowKit Go.Maps Go.Proofs.YtccalibapiiifaaW.PrintWords Go.Proofs.YtccalibapiiifaaW.PrintLast Go.Proofs.YtccalibapiiifaaW.PrintMore

def Bnd (i : Nat) (f : Int → Int) : Prop := ∀ x, 0 ≤ f x ∧ f x ≤ 2147483648 * ((i : Int) + 1)
theorem Bnd.wide {i : Nat} {f : Int → Int} (h : Bnd i f) (hi : i ≤ 1000) : Wide f := fun x => by have := h x; omega
theorem Bnd.more {i : Nat} {f : Int → Int} (h : Bnd i f) : Bnd (i + 1) f := fun x => by have := h x; omega
theorem Bnd.set {i : Nat} {f : Int → Int} (h : Bnd i f) (x v : Int) : Bnd (i + 1) (setF f x v) := by
  intro y
  have := h y
  unfold setF
  split
  · rename_i c
    obtain ⟨c, _⟩ := c
    unfold setC at c
    split at c
    · cases c
    · split at c
      · cases c
      · omega
  · omega
theorem Bnd.spl {i : Nat} {f : Int → Int} (h : Bnd i f) (hi : i ≤ 1000) (a b c : Int) : Bnd (i + 1) (splF f a b c) := by
  intro y
  have hy := h y
  by_cases o : a < 1 ∨ b < 0 ∨ c < 0 ∨ 2147483647 < a ∨ 2147483647 < b ∨ 2147483647 < c
  · unfold splF
    rw [if_pos o]
    omega
  · rw [spl_val (a := a) (b := b) (c := c) (rfl : f y = f y) hy.1 (by omega) ⟨by omega, by omega⟩ ⟨by omega, by omega⟩ ⟨by omega, by omega⟩]
    repeat' split
    all_goals omega
theorem Bnd.mov {i : Nat} {f : Int → Int} (h : Bnd i f) (hi : i ≤ 1000) (a z d : Int) : Bnd (i + 1) (movF f a z d) := by
  intro y
  have hy := h y
  by_cases o : movOff a z d
  · unfold movF
    rw [if_pos o]
    omega
  · unfold movOff at o
    rw [mov_val (a := a) (z := z) (d := d) (rfl : f y = f y) hy.1 (by omega) (by omega) (by omega) (by omega) ⟨by omega, by omega⟩ (by omega)]
    repeat' split
    all_goals omega

theorem Held.up {B : Nat} {w0 w : World} {p mb n m : Nat} {f : Int → Int} (h : Held B w0 w p mb n f) (e : n ≤ m) : Held B w0 w p mb m f := ⟨h.below, h.hp, h.hm, h.ne, h.cell, h.map.mono e⟩
theorem set_held3 {B : Nat} {w0 w : World} {p mb n : Nat} {f : Int → Int} (h : Held B w0 w p mb n f) (x v c : Int) (hc : setC x v = c) (h0 : 0 ≤ x) (h1 : x ≤ 255) (hn : n < maxLen) :
    Calls Try.prog 16 #[.pointer (some ⟨p, 0, none⟩), .int .u8 x, .int .i64 v] w fun e w' => e = .returned (.int .u16 c) ∧ Held B w0 w' p mb (n + 1) (setF f x v) ∧ w.grownBy w' (some mb) := hc ▸ set_held2 h x v h0 h1 hn
theorem refSet3 {w : World} {r : Nat} {f : Int → Int} (h : RefAt w r f) (x v c : Int) (hc : setC x v = c) (h0 : 0 ≤ x) (h1 : x ≤ 255) :
    Calls Try.prog 32 #[.pointer (some ⟨r, 0, none⟩), .int .u8 x, .int .i64 v] w fun e w' => e = .returned (.int .i64 c) ∧ RefAt w' r (setF f x v) ∧ w.grownBy w' (some r) := hc ▸ refSet h x v h0 h1
theorem refGet3 {w : World} {r : Nat} {f : Int → Int} (h : RefAt w r f) (x v c : Int) (h0 : 0 ≤ x) (h1 : x ≤ 255) (hL : Letters f) (hv : f x = v) (hc : (if f x = 0 then (100 : Int) else 0) = c) :
    Calls Try.prog 30 #[.pointer (some ⟨r, 0, none⟩), .int .u8 x] w fun e w' => e = .returned (.tuple #[.int .i64 v, .int .i64 c]) ∧ w = w' := by
  have := refGet h x h0 h1 hL
  rwa [hc, hv] at this
theorem setC_bound (x v : Int) : 0 ≤ setC x v ∧ setC x v ≤ 100 := by
  unfold setC
  repeat' split
  all_goals omega

set_option maxRecDepth 100000 in
set_option maxHeartbeats 8000000 in
theorem does_walk (w : World) (A : Option Addr) (len cap : Nat) (_hl : len ≤ cap) (hops : OpsAt w A len) :
    Calls Try.prog 11 #[.slice A len cap] w fun e w' => e = .returned (.bool true) ∧ Below w.heap.size w w' := by
  have HOps : Hid (OpsAt w A len) := hops
  clear hops
  by_cases h1 : 100 < len
  · have h1' : (100 : Int) < (len : Int) := by omega
    go_enter Try.func11, Try.ntmps11
    go_wp2_with (first
      | (go_at_call 14; (with_reducible refine (known_any _).mono ?_); rintro e w1 ⟨rfl, hb⟩)
      | go_in)
    go_ret
    exact ⟨rfl, hb⟩
  have h1' : ¬ (100 : Int) < (len : Int) := by omega
  go_enter Try.func11, Try.ntmps11
  go_wp2_with (first
    | (go_at_call 14; (with_reducible refine (known_any _).mono ?_); rintro e w1 ⟨rfl, hb1⟩; have HB1 := Lib.hid hb1; clear hb1)
    | (go_at_call 13; (with_reducible refine (new_held w.heap.size w w1 HB1.out HB1.out.size).mono ?_); rintro e w2 ⟨rfl, H2⟩)
    | (go_at_call 27; (with_reducible refine (refNew w2).mono ?_); rintro e w3 ⟨rfl, hr3, hb3⟩; have HR3 := Lib.hid hr3; have H3 := H2.later hb3; clear hr3 hb3)
    | go_in)
  obtain ⟨r, hr⟩ : ∃ r, w2.heap.size = r := ⟨_, rfl⟩
  have hp2 := H2.plt
  have hm2 := H2.map.lt
  have hBr : w.heap.size ≤ r := by
    have := H2.below.size
    omega
  rw [hr] at HR3 hp2 hm2 ⊢
  clear hr
  go_loopw [3, 5] (fun v3 v5 wr => ∃ (i p mb : Nat) (f : Int → Int), v3 = .pointer (some ⟨p, 0, none⟩) ∧ v5 = .int .i64 i ∧ i ≤ len ∧ Held w.heap.size w wr p mb i f ∧ RefAt wr r f ∧ Letters f ∧ Bnd i f ∧ p ≠ r ∧ mb ≠ r) (fun _ v5 _ => len - (intOf v5).toNat)
  case atStart => exact ⟨0, _, _, _, rfl, rfl, by omega, H3, HR3.out, fun _ h => absurd rfl h, fun _ => by show (0 : Int) ≤ 0 ∧ (0 : Int) ≤ _; omega, by omega, by omega⟩
  case round =>
    clear H2 H3 HR3 HB1 hp2 hm2
    rename World => wo
    obtain ⟨i, p, mb, f, rfl, rfl, hi, H, hR, hL, hB, hpr, hmr⟩ := hrel
    have HR := Lib.hid hR
    have HL := Lib.hid hL
    have HBd := Lib.hid hB
    have HOp := Lib.hid (HOps.out.below H.below)
    clear hR hL hB
    by_cases hil : i < len
    · obtain ⟨ad, k, nm, a2, a3, a4, rfl, _, hk, hnm, _, _, _, hcells⟩ := HOp.out i hil
      obtain ⟨e0, e1, e2, e3, e4⟩ := hcells
      have hnb := bounds_u8 hnm
      have hkb := bounds_u8 hk
      have hi100 : i ≤ 100 := by omega
      have hnn : i < maxLen := Nat.lt_of_le_of_lt hi100 (by decide)
      obtain ⟨wA, hwA⟩ : ∃ x, wo.alloc (.cells #[.int .u8 k, .int .u8 nm, .int .i64 a2, .int .i64 a3, .int .i64 a4] 35) = x := ⟨_, rfl⟩
      have hbA : Below wo.heap.size wo wA := by rw [← hwA]; exact below_alloc (Below.refl _ _) _
      have HXA : Hid (wA.heap[wo.heap.size]? = some (.cells #[.int .u8 k, .int .u8 nm, .int .i64 a2, .int .i64 a3, .int .i64 a4] 35 (0, 0))) := Lib.hid (by rw [← hwA]; exact heap_alloc_new wo _)
      have HA := H.later hbA
      have RA := Lib.hid (HR.out.below hbA)
      have b0 := blk_cell HXA.out 0
      have b1 := blk_cell HXA.out 1
      have b2 := blk_cell HXA.out 2
      have b3 := blk_cell HXA.out 3
      have b4 := blk_cell HXA.out 4
      have HWd := Lib.hid (HBd.out.wide (by omega))
      have HLt := Lib.hid H.map.lt
      have HRl := Lib.hid HR.out.lt
      have hom : wo.heap.size ≠ mb := by have := HLt.out; omega
      have hor : wo.heap.size ≠ r := by have := HRl.out; omega
      obtain ⟨q, hq⟩ : ∃ q, k.tmod 8 = q := ⟨_, rfl⟩
      have hqb : 0 ≤ q ∧ q < 8 := by rw [← hq]; exact ⟨Int.tmod_nonneg _ hkb.1, Int.tmod_lt_of_pos _ (by omega)⟩
      have hcase : q = 2 ∨ q = 3 ∨ q = 4 ∨ q = 5 ∨ q = 6 ∨ q = 7 ∨ q = 0 ∨ q = 1 := by omega
      clear hbA H HR hk hnm hqb
      go_upto_block 2 with (go_in)
      try rw [hwA]
      clear hwA e0 e1 e2 e3 e4
      go_cut [3, 7] (fun v3 v7 wc => ∃ (p' mb' : Nat) (f' : Int → Int), v3 = .pointer (some ⟨p', 0, none⟩) ∧ v7 = .bool true ∧ Held w.heap.size w wc p' mb' (i + 1) f' ∧ RefAt wc r f' ∧ Letters f' ∧ Bnd (i + 1) f' ∧ p' ≠ r ∧ mb' ≠ r)
      case first =>
        rcases hcase with rfl | rfl | rfl | rfl | rfl | rfl | rfl | rfl
        · as_aux_lemma =>
            go_wp2_with (first
              | (go_at_call 18; (with_reducible refine (splice_held2 HA a2 a3 a4 hnn).mono ?_); rintro e w3 ⟨rfl, H3, hg3⟩; have R3 := Lib.hid (RefAt.on RA.out hg3 (fun e => hmr e.symm)); have X3 := Lib.hid (boxOn2 HXA.out hg3 hom); have c0 := blk_cell X3.out 0; have c1 := blk_cell X3.out 1; have c2 := blk_cell X3.out 2; have c3 := blk_cell X3.out 3; have c4 := blk_cell X3.out 4; clear hg3)
              | (go_at_call 28; (with_reducible refine (refSplice R3.out HWd.out a2 a3 a4).mono ?_); rintro e w4 ⟨rfl, r4, hg4⟩; have R4 := Lib.hid r4; have H4 := H3.other hg4 hBr hpr hmr; clear r4 hg4)
              | go_in)
            go_meet
            case rel => exact ⟨p, mb, _, rfl, rfl, H4.up (by omega), R4.out, letters_spl HL.out a2 a3 a4, Bnd.spl HBd.out (by omega) a2 a3 a4, hpr, hmr⟩
        · as_aux_lemma =>
            go_wp2_with (first
              | (go_at_call 18; (with_reducible refine (splice_held2 HA a2 a3 a4 hnn).mono ?_); rintro e w3 ⟨rfl, H3, hg3⟩; have R3 := Lib.hid (RefAt.on RA.out hg3 (fun e => hmr e.symm)); have X3 := Lib.hid (boxOn2 HXA.out hg3 hom); have c0 := blk_cell X3.out 0; have c1 := blk_cell X3.out 1; have c2 := blk_cell X3.out 2; have c3 := blk_cell X3.out 3; have c4 := blk_cell X3.out 4; clear hg3)
              | (go_at_call 28; (with_reducible refine (refSplice R3.out HWd.out a2 a3 a4).mono ?_); rintro e w4 ⟨rfl, r4, hg4⟩; have R4 := Lib.hid r4; have H4 := H3.other hg4 hBr hpr hmr; clear r4 hg4)
              | go_in)
            go_meet
            case rel => exact ⟨p, mb, _, rfl, rfl, H4.up (by omega), R4.out, letters_spl HL.out a2 a3 a4, Bnd.spl HBd.out (by omega) a2 a3 a4, hpr, hmr⟩
        · as_aux_lemma =>
            go_wp2_with (first
              | (go_at_call 19; (with_reducible refine (move_held HA a2 a3 a4 hnn).mono ?_); rintro e w3 ⟨rfl, H3, hg3⟩; have R3 := Lib.hid (RefAt.on RA.out hg3 (fun e => hmr e.symm)); have X3 := Lib.hid (boxOn2 HXA.out hg3 hom); have c0 := blk_cell X3.out 0; have c1 := blk_cell X3.out 1; have c2 := blk_cell X3.out 2; have c3 := blk_cell X3.out 3; have c4 := blk_cell X3.out 4; clear hg3)
              | (go_at_call 29; (with_reducible refine (refMove R3.out HWd.out a2 a3 a4).mono ?_); rintro e w4 ⟨rfl, r4, hg4⟩; have R4 := Lib.hid r4; have H4 := H3.other hg4 hBr hpr hmr; clear r4 hg4)
              | go_in)
            go_meet
            case rel => exact ⟨p, mb, _, rfl, rfl, H4.up (by omega), R4.out, letters_mov HL.out a2 a3 a4, Bnd.mov HBd.out (by omega) a2 a3 a4, hpr, hmr⟩
        · as_aux_lemma =>
            go_wp2_with (first
              | (go_at_call 19; (with_reducible refine (move_held HA a2 a3 a4 hnn).mono ?_); rintro e w3 ⟨rfl, H3, hg3⟩; have R3 := Lib.hid (RefAt.on RA.out hg3 (fun e => hmr e.symm)); have X3 := Lib.hid (boxOn2 HXA.out hg3 hom); have c0 := blk_cell X3.out 0; have c1 := blk_cell X3.out 1; have c2 := blk_cell X3.out 2; have c3 := blk_cell X3.out 3; have c4 := blk_cell X3.out 4; clear hg3)
              | (go_at_call 29; (with_reducible refine (refMove R3.out HWd.out a2 a3 a4).mono ?_); rintro e w4 ⟨rfl, r4, hg4⟩; have R4 := Lib.hid r4; have H4 := H3.other hg4 hBr hpr hmr; clear r4 hg4)
              | go_in)
            go_meet
            case rel => exact ⟨p, mb, _, rfl, rfl, H4.up (by omega), R4.out, letters_mov HL.out a2 a3 a4, Bnd.mov HBd.out (by omega) a2 a3 a4, hpr, hmr⟩
        · as_aux_lemma =>
            obtain ⟨v, hv⟩ : ∃ v, f nm = v := ⟨_, rfl⟩
            obtain ⟨c, hc⟩ : ∃ c, (if f nm = 0 then (100 : Int) else 0) = c := ⟨_, rfl⟩
            have hcb : 0 ≤ c ∧ c ≤ 100 := by rw [← hc]; split <;> omega
            have HV := Lib.hid hv
            have HCc := Lib.hid hc
            clear hv hc
            go_wp2_with (first
              | (go_at_call 15; (with_reducible refine (get_held HA nm v c (by omega) (by omega) HV.out HCc.out).mono ?_); rintro e w3 ⟨rfl, rfl⟩)
              | (go_at_call 30; (with_reducible refine (refGet3 RA.out nm v c (by omega) (by omega) HL.out HV.out HCc.out).mono ?_); rintro e w4 ⟨rfl, rfl⟩)
              | go_in)
            go_meet
            case rel => exact ⟨p, mb, _, rfl, by first | rfl | simp, HA.up (by omega), RA.out, HL.out, HBd.out.more, hpr, hmr⟩
        · as_aux_lemma =>
            go_wp2_with (first
              | (go_at_call 31; (with_reducible refine (copy_held HA).mono ?_); rintro e w3 ⟨p2, mb2, rfl, Hc3, Hm3, hb3, hmb2, hp2⟩; have R3 := Lib.hid (RA.out.below hb3); have N1 := Lib.hid (by have := RA.out.lt; omega : p2 ≠ r); have N2 := Lib.hid (by have := RA.out.lt; omega : mb2 ≠ r); clear hb3 Hm3 hmb2 hp2)
              | go_in)
            go_meet
            case rel => exact ⟨p2, mb2, _, rfl, rfl, Hc3.up (by omega), R3.out, HL.out, HBd.out.more, N1.out, N2.out⟩
        · as_aux_lemma =>
            obtain ⟨c, hc⟩ : ∃ c, setC nm a2 = c := ⟨_, rfl⟩
            have hcb : 0 ≤ c ∧ c ≤ 100 := by rw [← hc]; exact setC_bound _ _
            have hwc : IntKind.i64.wrap c = c := by rw [IntKind.wrap_i64]; omega
            have HCc := Lib.hid hc
            have HWC := Lib.hid hwc
            clear hc hwc
            go_upto_region 13 with (go_in)
            go_region_held3 (fun w' => w'.cell? ⟨wo.heap.size, 1, none⟩ = some (.int .u8 nm) ∧ w'.cell? ⟨wo.heap.size, 2, none⟩ = some (.int .i64 a2)) (first | exact ⟨b1, b2⟩ | exact ⟨c1, c2⟩ | exact ⟨d1, d2⟩) (first
              | (go_at_call 16; (with_reducible refine (set_held3 (HA.later (below_drew (Below.refl _ _))) nm a2 c HCc.out (by omega) (by omega) hnn).mono ?_); rintro e w3 ⟨rfl, H3, hg3⟩; have R3 := Lib.hid (RefAt.on (RefAt.below RA.out (below_drew (Below.refl _ _))) hg3 (fun e => hmr e.symm)); have X3 := Lib.hid (boxOn2 (show wA.drew.heap[wo.heap.size]? = _ from HXA.out) hg3 hom); have c0 := blk_cell X3.out 0; have c1 := blk_cell X3.out 1; have c2 := blk_cell X3.out 2; have c3 := blk_cell X3.out 3; have c4 := blk_cell X3.out 4; clear hg3)
              | (go_at_call 32; (with_reducible refine (refSet3 R3.out nm a2 c HCc.out (by omega) (by omega)).mono ?_); rintro e w4 ⟨rfl, r4, hg4⟩; have R4 := Lib.hid r4; have H4 := H3.other hg4 hBr hpr hmr; have X4 := Lib.hid (boxOn2 X3.out hg4 hor); have d1 := blk_cell X4.out 1; have d2 := blk_cell X4.out 2; clear r4 hg4))
            all_goals
              go_wp2
              go_meet
              case rel => exact ⟨p, mb, _, rfl, by first | rfl | (simp; done) | (simp [HWC.out]; done), H4, R4.out, letters_set HL.out nm a2, Bnd.set HBd.out nm a2, hpr, hmr⟩
        · as_aux_lemma =>
            obtain ⟨c, hc⟩ : ∃ c, setC nm a2 = c := ⟨_, rfl⟩
            have hcb : 0 ≤ c ∧ c ≤ 100 := by rw [← hc]; exact setC_bound _ _
            have hwc : IntKind.i64.wrap c = c := by rw [IntKind.wrap_i64]; omega
            have HCc := Lib.hid hc
            have HWC := Lib.hid hwc
            clear hc hwc
            go_upto_region 13 with (go_in)
            go_region_held3 (fun w' => w'.cell? ⟨wo.heap.size, 1, none⟩ = some (.int .u8 nm) ∧ w'.cell? ⟨wo.heap.size, 2, none⟩ = some (.int .i64 a2)) (first | exact ⟨b1, b2⟩ | exact ⟨c1, c2⟩ | exact ⟨d1, d2⟩) (first
              | (go_at_call 16; (with_reducible refine (set_held3 (HA.later (below_drew (Below.refl _ _))) nm a2 c HCc.out (by omega) (by omega) hnn).mono ?_); rintro e w3 ⟨rfl, H3, hg3⟩; have R3 := Lib.hid (RefAt.on (RefAt.below RA.out (below_drew (Below.refl _ _))) hg3 (fun e => hmr e.symm)); have X3 := Lib.hid (boxOn2 (show wA.drew.heap[wo.heap.size]? = _ from HXA.out) hg3 hom); have c0 := blk_cell X3.out 0; have c1 := blk_cell X3.out 1; have c2 := blk_cell X3.out 2; have c3 := blk_cell X3.out 3; have c4 := blk_cell X3.out 4; clear hg3)
              | (go_at_call 32; (with_reducible refine (refSet3 R3.out nm a2 c HCc.out (by omega) (by omega)).mono ?_); rintro e w4 ⟨rfl, r4, hg4⟩; have R4 := Lib.hid r4; have H4 := H3.other hg4 hBr hpr hmr; have X4 := Lib.hid (boxOn2 X3.out hg4 hor); have d1 := blk_cell X4.out 1; have d2 := blk_cell X4.out 2; clear r4 hg4))
            all_goals
              go_wp2
              go_meet
              case rel => exact ⟨p, mb, _, rfl, by first | rfl | (simp; done) | (simp [HWC.out]; done), H4, R4.out, letters_set HL.out nm a2, Bnd.set HBd.out nm a2, hpr, hmr⟩
      case rest =>
        clear hcase HA RA b0 b1 b2 b3 b4 HXA HWd HLt HRl hom hor hnb hkb hq HL HBd hpr hmr hnn
        obtain ⟨p', mb', f', rfl, rfl, H4, r4, l4, bd4, n1, n2⟩ := hcut
        have R4 := Lib.hid r4
        have L4 := Lib.hid l4
        have B4 := Lib.hid bd4
        have N1 := Lib.hid n1
        have N2 := Lib.hid n2
        clear r4 l4 bd4 n1 n2
        go_wp2_with (first
          | (go_at_call 26; (with_reducible refine (all_held H4 L4.out (by omega)).mono ?_); rintro e w5 ⟨A1, k1, rfl, hC1, H5, hb5, hg5⟩; have HC1 := Lib.hid hC1; have HG1 := Lib.hid hg5; have R5 := Lib.hid (RefAt.below R4.out hb5); clear hC1 hb5 hg5)
          | (go_at_call 34; (with_reducible refine (refAll R5.out (Bnd.wide B4.out (by omega))).mono ?_); rintro e w6 ⟨A2, k2, rfl, hC2, hb6, hg6⟩; have HC2 := Lib.hid hC2; have HG2 := Lib.hid hg6; have HC16 := Lib.hid (Kd.C_below HC1.out hb6); have H6 := H5.later hb6; have R6 := Lib.hid (R5.out.below hb6); clear hC2 hb6 hg6)
          | (go_at_call 33; (with_reducible refine (same_any (marksL_len _) HC16.out HC2.out (fun h => by obtain ⟨g, e, _⟩ := HG1.out h; exact ⟨g, e⟩) HG2.out).mono ?_); rintro e w7 ⟨rfl, hb7⟩; have H7 := H6.later hb7; have R7 := Lib.hid (R6.out.below hb7); clear hb7)
          | go_in)
        go_roundw
        case rel => exact ⟨i + 1, p', mb', f', rfl, by first | rfl | simp, by omega, H7, R7.out, L4.out, B4.out, N1.out, N2.out⟩
        case measure => simp [intOf]; omega
    · obtain rfl : i = len := by omega
      go_wp2
      go_ret
      exact ⟨rfl, H.below⟩

end Go.Proofs.Ytccalibapiiifaa
