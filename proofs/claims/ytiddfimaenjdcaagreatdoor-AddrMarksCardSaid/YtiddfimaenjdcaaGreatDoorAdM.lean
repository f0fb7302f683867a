/- The law AddrMarks: a mark's address is its line; one that is not set is refused; from one to another, if they do not fall. -/
import Derived.Test.YtiddfimaenjdcaaGreatDoorAdY
set_option linter.unusedVariables false
set_option linter.unusedSimpArgs false
set_option linter.unusedVariables false
set_option linter.unusedSimpArgs false
namespace Go.Proofs.YtiddfimaenjdcaaGreatDoor
open Go.RowKit Go.Shelf Go.Maps Go.Proofs.YtiddfimaenjdcaaGreatDoorW.PrintWords Go.Proofs.YtiddfimaenjdcaaGreatDoorW.PrintLast

/-- lines of one x each -/
def xsL (n : Nat) : List ByteArray := List.replicate n ⟨#[120]⟩
theorem xsL_len (n : Nat) : (xsL n).length = n := List.length_replicate
theorem xsL_snoc (n : Nat) : xsL n ++ [⟨#[120]⟩] = xsL (n + 1) := List.replicate_succ'.symm
theorem xsL_size {n : Nat} {x : ByteArray} (h : x ∈ xsL n) : x.size = 1 := by
  rw [List.eq_of_mem_replicate h]
  rfl
theorem xsL_long (n : Nat) : isLong (xsL n) = false := by
  unfold isLong
  rw [List.any_eq_false]
  intro x hx
  rw [xsL_size hx]
  decide

theorem evAB {s : Bs} {len p q cu : Int} (hp : s.mar 97 = p) (hq : s.mar 98 = q) (p1 : 1 ≤ p) (p2 : p ≤ len) (q1 : 1 ≤ q) (q2 : q ≤ len) : evF (lnV s) len true cu cu [⟨4, 0, 97, 0⟩, ⟨4, 0, 98, 0⟩] = if q < p then (0, 0, 140) else (p, q, 0) := by
  have e1 : lnV s ⟨4, 0, 97, 0⟩ = (p, 0) := by
    unfold lnV
    simp only [hp]
    rw [if_neg (by decide), if_neg (by decide), if_neg (by omega)]
  have e2 : lnV s ⟨4, 0, 98, 0⟩ = (q, 0) := by
    unfold lnV
    simp only [hq]
    rw [if_neg (by decide), if_neg (by decide), if_neg (by omega)]
  simp only [evF, e1, e2]
  rw [if_neg (by simp), if_neg (by omega), if_neg (by simp), if_neg (by omega)]
  simp
theorem evC {s : Bs} {len cu : Int} (h : s.mar 99 = 0) : evF (lnV s) len true cu cu [⟨4, 0, 99, 0⟩] = (0, 0, 100) := by
  have e1 : lnV s ⟨4, 0, 99, 0⟩ = (0, 100) := by
    unfold lnV
    simp only [h]
    rw [if_neg (by decide), if_neg (by decide), if_pos trivial]
  simp only [evF, e1]
  rw [if_pos (by simp)]
theorem okM {s : Bs} {c : Int} (hc : 0 ≤ c ∧ c ≤ 255) (h : 0 ≤ s.mar c ∧ s.mar c ≤ 1000) : okAd s ⟨4, 0, c, 0⟩ := by
  have e : (lnV s ⟨4, 0, c, 0⟩).1 = s.mar c := by
    unfold lnV
    simp only
    rw [if_neg (by decide), if_neg (by decide)]
    split
    · rename_i h0
      exact h0.symm
    · rfl
  exact ⟨.inr (.inr ⟨rfl, hc.1, hc.2⟩), by rw [e]; omega, by rw [e]; omega, by show (-4000000000 : Int) ≤ 0; decide, by show (0 : Int) ≤ 4000000000; decide⟩

set_option maxRecDepth 100000 in
set_option maxHeartbeats 4000000 in
theorem amarks_walk (w : World) (x y z : Int) (hx1 : (Lit.int .u8 x).wf = true) (hy1 : (Lit.int .u8 y).wf = true) (hz1 : (Lit.int .u8 z).wf = true) :
    Calls Tryz.prog 5 #[.int .u8 x, .int .u8 y, .int .u8 z] w fun e w' => e = .returned (.bool true) ∧ Below w.heap.size w w' := by
  have bx := bounds_u8 hx1
  have by_ := bounds_u8 hy1
  have bz := bounds_u8 hz1
  clear hx1 hy1 hz1
  obtain ⟨m, hm, hm1, hm2⟩ : ∃ m : Nat, x % 100 = (m : Int) - 1 ∧ 1 ≤ m ∧ m ≤ 100 := ⟨(x % 100 + 1).toNat, by omega, by omega, by omega⟩
  have hmod : ∀ v : Int, ∃ k : Nat, v % (m : Int) = (k : Int) ∧ k < m := fun v => ⟨(v % (m : Int)).toNat, by
    have := Int.emod_nonneg v (b := (m : Int)) (by omega)
    omega, by
    have := Int.emod_nonneg v (b := (m : Int)) (by omega)
    have := Int.emod_lt_of_pos v (b := (m : Int)) (by omega)
    omega⟩
  obtain ⟨k, hk, hk1⟩ := hmod y
  obtain ⟨k2, hk2, hk3⟩ := hmod z
  have hm0 : ¬ ((m : Int) = 0) := by omega
  obtain ⟨i0, hi0, hz0, hz1, hz2⟩ := info_parts infoS
  have HINF := Lib.hid (And.intro hi0 (And.intro hz0 (And.intro hz1 hz2)))
  clear hi0 hz0 hz1 hz2
  go_enter Tryz.func5, Tryz.ntmps5
  go_wp2
  go_loopw [7, 8] (fun v7 v8 wr => ∃ j : Nat, v8 = .int .i64 (j : Int) ∧ j ≤ m ∧ Own w.heap.size w wr v7 (xsL j)) (fun _ v8 _ => m - (intOf v8).toNat)
  case atStart => exact ⟨0, rfl, Nat.zero_le _, Rw.nil _ _, fun b hb => (by cases hb), Below.refl _ _⟩
  case round =>
    obtain ⟨j, rfl, hj, hrw, hrN, hbl⟩ := hrel
    obtain ⟨A0, c0, hv0, hl0, hm0, _⟩ := hrw.slice
    rw [cS_len, xsL_len] at hv0 hl0
    subst hv0
    unfold maxLen at hm0
    have HRW := Lib.hid hrw
    have HRN := Lib.hid hrN
    have HBl := Lib.hid hbl
    clear hrw hrN hbl
    by_cases hlt : j < m
    · have hlt' : (j : Int) < 1 + ((m : Int) - 1) := by omega
      go_wp2_with (first
        | (at_builtin; refine wpList_append_rw (v := .slice A0 j c0) (cs := cS (xsL j)) _ rfl _ _ 23 23 rfl 9 i0 (.string ⟨#[]⟩) 16 Tryz.underlying23 HINF.out.1 HINF.out.2.1 HINF.out.2.2.1 HINF.out.2.2.2 rfl rfl (HRW.out.alloc _) (.slice (some ⟨wr.heap.size, 0, none⟩) 1 1) 1 [.string ⟨#[120]⟩] rfl (src_blk _ _ _ _ Tryz.underlying23 _ rfl (new_at _ _ rfl _)) ?c1 ?c2 ?_; rotate_left 2; intro v1 w1 hr1 hg1 ha1; have HR1 := Lib.hid hr1; have HG1 := Lib.hid hg1; have HA1 := Lib.hid ha1; clear hr1 hg1 ha1))
      case c1 => rw [cS_len, xsL_len]; omega
      case c2 => rw [cS_len, xsL_len]; omega
      have h5 := HR1.out
      rw [show cS (xsL j) ++ [Value.string ⟨#[120]⟩] = cS (xsL (j + 1)) by rw [← xsL_snoc]; simp [cS]] at h5
      have hsz : w.heap.size ≤ (wr.alloc (.cells #[.string ⟨#[120]⟩] 9)).heap.size := Nat.le_trans HBl.out.size (by simp)
      have h6 : ∀ b, v1.ownBlock = some b → w.heap.size ≤ b := HA1.out.from HRN.out hsz
      have h7 : Below w.heap.size w w1 := (HBl.out.alloc (Nat.le_trans HBl.out.size (by simp)) (.cells #[.string ⟨#[120]⟩] 9)).grown HG1.out hsz HRN.out
      have H5 := Lib.hid (And.intro h5 (And.intro h6 h7))
      clear h5 h6 h7 hsz
      go_roundw
      case rel => exact ⟨j + 1, by go_num, by omega, H5.out.1, H5.out.2.1, H5.out.2.2⟩
      case measure => simp [intOf]; omega
    · obtain rfl : j = m := by omega
      have hlt' : ¬ ((j : Int) < 1 + ((j : Int) - 1)) := by omega
      have hX : (xsL j).length = j := xsL_len j
      have hnw := bnew_any (m := 9) (Ls.of_rw HRW.out) (by decide) (by decide) (by rw [hX]; omega) (xsL_long _) (fun x hx => by rw [xsL_size hx]; decide)
      rw [show fullS (xsL j) = xsL j from if_neg (fun e => by rw [e] at hX; simp at hX; omega)] at hnw
      have HNW := Lib.hid hnw
      have HX := Lib.hid hX
      clear hnw hX hlt
      go_wp2_with fail
      refine HNW.out.mono ?_
      rintro e w3 ⟨B, rfl, b3⟩
      have H3 := Lib.hid b3
      clear b3 HNW
      go_wp2_with fail
      refine (known14_any _).mono ?_
      rintro e w4 ⟨rfl, hb4⟩
      have h4 := H3.out.new hb4
      obtain ⟨p1, c1, hset⟩ := bset_any h4 (x := 97) (v := 1 + (k : Int)) (by decide) (by omega) (show 0 < maxLen by decide)
      have HM1 := Lib.hid (marks_at c1)
      have HS1 := Lib.hid hset
      clear c1 hset h4 hb4
      go_wp2_with fail
      refine HM1.out.mono ?_
      rintro e w5 ⟨rfl, rfl⟩
      go_wp2_with fail
      refine HS1.out.mono ?_
      rintro e w6 ⟨rfl, h6⟩
      obtain ⟨p2, c2, hset2⟩ := bset_any h6 (x := 98) (v := 1 + (k2 : Int)) (by decide) (by omega) (show 1 < maxLen by decide)
      have HM2 := Lib.hid (marks_at c2)
      have HS2 := Lib.hid hset2
      clear c2 hset2 h6 HS1 HM1
      go_wp2_with fail
      refine HM2.out.mono ?_
      rintro e w7 ⟨rfl, rfl⟩
      go_wp2_with fail
      refine HS2.out.mono ?_
      rintro e w8 ⟨rfl, h8⟩
      obtain ⟨s2, hs2⟩ : ∃ s2, setS (setS (newS 9 (xsL j)) 97 (1 + (k : Int))) 98 (1 + (k2 : Int)) = s2 := ⟨_, rfl⟩
      have hq1 : s2.mar 97 = 1 + (k : Int) := by rw [← hs2]; rfl
      have hq2 : s2.mar 98 = 1 + (k2 : Int) := by rw [← hs2]; rfl
      have hq3 : s2.mar 99 = 0 := by rw [← hs2]; rfl
      have hq4 : s2.ls.length = j := by rw [← hs2]; exact HX.out
      rw [hs2] at h8
      have HQ := Lib.hid (And.intro hq1 (And.intro hq2 (And.intro hq3 hq4)))
      have H8 := Lib.hid h8
      clear h8 hs2 hq1 hq2 hq3 hq4 HS2 HM2
      go_wp2_with fail
      refine (aparse_any w8 (s := sAB) (e := 5) (ads := [⟨4, 0, 97, 0⟩, ⟨4, 0, 98, 0⟩]) (by decide) (by decide) ⟨by decide, by decide, by decide⟩ (by decide) chainAB).mono ?_
      rintro e w9 ⟨v9, rfl, hr9, hb9⟩
      have h9 := H8.out.new hb9
      have hE := eval_any h9 hr9 (by rw [HQ.out.2.2.2]; omega) (by decide) (fun a ha => by
        have h2 : a = ⟨4, 0, 97, 0⟩ ∨ a = ⟨4, 0, 98, 0⟩ := by simpa using ha
        rcases h2 with rfl | rfl
        · exact okM (by decide) (by rw [HQ.out.1]; omega)
        · exact okM (by decide) (by rw [HQ.out.2.1]; omega))
      rw [evAB HQ.out.1 HQ.out.2.1 (by omega) (by rw [HQ.out.2.2.2]; omega) (by omega) (by rw [HQ.out.2.2.2]; omega)] at hE
      obtain ⟨R, hR⟩ : ∃ R : Int × Int × Int, (if 1 + (k2 : Int) < 1 + (k : Int) then (0, 0, 140) else (1 + (k : Int), 1 + (k2 : Int), 0)) = R := ⟨_, rfl⟩
      rw [hR] at hE
      have HE := Lib.hid hE
      have H9 := Lib.hid h9
      have HR := Lib.hid hR
      clear hE h9 hr9 hb9 hR
      go_wp2_with fail
      refine HE.out.mono ?_
      rintro e w10 ⟨rfl, hb10⟩
      have h10 := H9.out.new hb10
      have H10 := Lib.hid h10
      clear h10 hb10 HE
      go_wp2_with fail
      refine (aparse_any w10 (s := sCC) (e := 2) (ads := [⟨4, 0, 99, 0⟩]) (by decide) (by decide) ⟨by decide, by decide, by decide⟩ (by decide) chainC).mono ?_
      rintro e w11 ⟨v11, rfl, hr11, hb11⟩
      have h11 := H10.out.new hb11
      have hE := eval_any h11 hr11 (by rw [HQ.out.2.2.2]; omega) (by decide) (fun a ha => by
        have h2 : a = ⟨4, 0, 99, 0⟩ := by simpa using ha
        subst h2
        exact okM (by decide) (by rw [HQ.out.2.2.1]; decide))
      rw [evC HQ.out.2.2.1] at hE
      have HE := Lib.hid hE
      have H11 := Lib.hid h11
      clear hE h11 hr11 hb11
      go_wp2_with fail
      refine HE.out.mono ?_
      rintro e w12 ⟨rfl, hb12⟩
      have HZ := Lib.hid (H11.out.new hb12).below
      clear hb12 HE
      by_cases hkk : k2 < k
      · have hr := HR.out
        rw [if_pos (by omega)] at hr
        subst hr
        have hk9 : 1 + (k2 : Int) < 1 + (k : Int) := by omega
        clear HR
        go_wp2
        go_ret
        exact ⟨rfl, below_then HBl.out HBl.out.size HZ.out⟩
      · have hr := HR.out
        rw [if_neg (by omega)] at hr
        subst hr
        have hk9 : ¬ (1 + (k2 : Int) < 1 + (k : Int)) := by omega
        clear HR
        go_wp2
        go_ret
        exact ⟨rfl, below_then HBl.out HBl.out.size HZ.out⟩
theorem amarks_row (W : World) (x1 : Int) (h1 : (Lit.int .u8 x1).wf = true) (x2 : Int) (h2 : (Lit.int .u8 x2).wf = true) (x3 : Int) (h3 : (Lit.int .u8 x3).wf = true) :
    Calls Tryz.prog 5 #[.int .u8 x1, .int .u8 x2, .int .u8 x3] W fun e w' => e = .returned (.bool true) ∧ Below W.heap.size W w' := amarks_walk W x1 x2 x3 h1 h2 h3
end Go.Proofs.YtiddfimaenjdcaaGreatDoor
