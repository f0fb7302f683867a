import Derived.Test.YtiddfimaenjdcaaGreatDoorAdY
import Derived.Laws.BytesArg
set_option linter.unusedVariables false
set_option linter.unusedSimpArgs false

/- The law AddrMarks: a mark's address is its line; one that is not set is refused; from one to another, if they do not fall. -/
set_option linter.unusedVariables false
set_option linter.unusedSimpArgs false
namespace Go.Proofs.YtiddfimaenjdcaaGreatDoor
open Go.RowKit Go.Shelf Go.Maps Go.Proofs.YtiddfimaenjdcaaGreatDoorW.PrintWords Go.Proofs.YtiddfimaenjdcaaGreatDoorW.PrintLast

/-- lines of one x each -/
def xsL (n : Nat) : List ByteArray := List.replicate n ⟨#[120]⟩
theorem xsL_len (n : Nat) : (xsL n).length = n := List.length_replicate
theorem xsL_snoc (n : Nat) : xsL n ++ [⟨#[120]⟩] = xsL (n + 1) := List.replicate_succ'.symm
theorem xsL_size {n : Nat} {x : ByteArray} (h : x ∈ xsL n) : x.size = 1 := by
  rw [List.eq_of_mem_replicate h]
  rfl
theorem xsL_long (n : Nat) : isLong (xsL n) = false := by
  unfold isLong
  rw [List.any_eq_false]
  intro x hx
  rw [xsL_size hx]
  decide

theorem evAB {s : Bs} {len p q cu : Int} (hp : s.mar 97 = p) (hq : s.mar 98 = q) (p1 : 1 ≤ p) (p2 : p ≤ len) (q1 : 1 ≤ q) (q2 : q ≤ len) : evF (lnV s) len true cu cu [⟨4, 0, 97, 0⟩, ⟨4, 0, 98, 0⟩] = if q < p then (0, 0, 140) else (p, q, 0) := by
  have e1 : lnV s ⟨4, 0, 97, 0⟩ = (p, 0) := by
    unfold lnV
    simp only [hp]
    rw [if_neg (by decide), if_neg (by decide), if_neg (by omega)]
  have e2 : lnV s ⟨4, 0, 98, 0⟩ = (q, 0) := by
    unfold lnV
    simp only [hq]
    rw [if_neg (by decide), if_neg (by decide), if_neg (by omega)]
  simp only [evF, e1, e2]
  rw [if_neg (by simp), if_neg (by omega), if_neg (by simp), if_neg (by omega)]
  simp
theorem evC {s : Bs} {len cu : Int} (h : s.mar 99 = 0) : evF (lnV s) len true cu cu [⟨4, 0, 99, 0⟩] = (0, 0, 100) := by
  have e1 : lnV s ⟨4, 0, 99, 0⟩ = (0, 100) := by
    unfold lnV
    simp only [h]
    rw [if_neg (by decide), if_neg (by decide), if_pos trivial]
  simp only [evF, e1]
  rw [if_pos (by simp)]
theorem okM {s : Bs} {c : Int} (hc : 0 ≤ c ∧ c ≤ 255) (h : 0 ≤ s.mar c ∧ s.mar c ≤ 1000) : okAd s ⟨4, 0, c, 0⟩ := by
  have e : (lnV s ⟨4, 0, c, 0⟩).1 = s.mar c := by
    unfold lnV
    simp only
    rw [if_neg (by decide), if_neg (by decide)]
    split
    · rename_i h0
      exact h0.symm
    · rfl
  exact ⟨.inr (.inr ⟨rfl, hc.1, hc.2⟩), by rw [e]; omega, by rw [e]; omega, by show (-4000000000 : Int) ≤ 0; decide, by show (0 : Int) ≤ 4000000000; decide⟩

set_option maxRecDepth 100000 in
set_option maxHeartbeats 4000000 in
theorem amarks_walk (w : World) (x y z : Int) (hx1 : (Lit.int .u8 x).wf = true) (hy1 : (Lit.int .u8 y).wf = true) (hz1 : (Lit.int .u8 z).wf = true) :
    Calls Tryz.prog 5 #[.int .u8 x, .int .u8 y, .int .u8 z] w fun e w' => e = .returned (.bool true) ∧ Below w.heap.size w w' := by
  have bx := bounds_u8 hx1
  have by_ := bounds_u8 hy1
  have bz := bounds_u8 hz1
  clear hx1 hy1 hz1
  obtain ⟨m, hm, hm1, hm2⟩ : ∃ m : Nat, x % 100 = (m : Int) - 1 ∧ 1 ≤ m ∧ m ≤ 100 := ⟨(x % 100 + 1).toNat, by omega, by omega, by omega⟩
  have hmod : ∀ v : Int, ∃ k : Nat, v % (m : Int) = (k : Int) ∧ k < m := fun v => ⟨(v % (m : Int)).toNat, by
    have := Int.emod_nonneg v (b := (m : Int)) (by omega)
    omega, by
    have := Int.emod_nonneg v (b := (m : Int)) (by omega)
    have := Int.emod_lt_of_pos v (b := (m : Int)) (by omega)
    omega⟩
  obtain ⟨k, hk, hk1⟩ := hmod y
  obtain ⟨k2, hk2, hk3⟩ := hmod z
  have hm0 : ¬ ((m : Int) = 0) := by omega
  obtain ⟨i0, hi0, hz0, hz1, hz2⟩ := info_parts infoS
  have HINF := Lib.hid (And.intro hi0 (And.intro hz0 (And.intro hz1 hz2)))
  clear hi0 hz0 hz1 hz2
  go_enter Tryz.func5, Tryz.ntmps5
  go_wp2
  go_loopw [7, 8] (fun v7 v8 wr => ∃ j : Nat, v8 = .int .i64 (j : Int) ∧ j ≤ m ∧ Own w.heap.size w wr v7 (xsL j)) (fun _ v8 _ => m - (intOf v8).toNat)
  case atStart => exact ⟨0, rfl, Nat.zero_le _, Rw.nil _ _, fun b hb => (by cases hb), Below.refl _ _⟩
  case round =>
    obtain ⟨j, rfl, hj, hrw, hrN, hbl⟩ := hrel
    obtain ⟨A0, c0, hv0, hl0, hm0, _⟩ := hrw.slice
    rw [cS_len, xsL_len] at hv0 hl0
    subst hv0
    unfold maxLen at hm0
    have HRW := Lib.hid hrw
    have HRN := Lib.hid hrN
    have HBl := Lib.hid hbl
    clear hrw hrN hbl
    by_cases hlt : j < m
    · have hlt' : (j : Int) < 1 + ((m : Int) - 1) := by omega
      go_wp2_with (first
        | (at_builtin; refine wpList_append_rw (v := .slice A0 j c0) (cs := cS (xsL j)) _ rfl _ _ 23 23 rfl 9 i0 (.string ⟨#[]⟩) 16 Tryz.underlying23 HINF.out.1 HINF.out.2.1 HINF.out.2.2.1 HINF.out.2.2.2 rfl rfl (HRW.out.alloc _) (.slice (some ⟨wr.heap.size, 0, none⟩) 1 1) 1 [.string ⟨#[120]⟩] rfl (src_blk _ _ _ _ Tryz.underlying23 _ rfl (new_at _ _ rfl _)) ?c1 ?c2 ?_; rotate_left 2; intro v1 w1 hr1 hg1 ha1; have HR1 := Lib.hid hr1; have HG1 := Lib.hid hg1; have HA1 := Lib.hid ha1; clear hr1 hg1 ha1))
      case c1 => rw [cS_len, xsL_len]; omega
      case c2 => rw [cS_len, xsL_len]; omega
      have h5 := HR1.out
      rw [show cS (xsL j) ++ [Value.string ⟨#[120]⟩] = cS (xsL (j + 1)) by rw [← xsL_snoc]; simp [cS]] at h5
      have hsz : w.heap.size ≤ (wr.alloc (.cells #[.string ⟨#[120]⟩] 9)).heap.size := Nat.le_trans HBl.out.size (by simp)
      have h6 : ∀ b, v1.ownBlock = some b → w.heap.size ≤ b := HA1.out.from HRN.out hsz
      have h7 : Below w.heap.size w w1 := (HBl.out.alloc (Nat.le_trans HBl.out.size (by simp)) (.cells #[.string ⟨#[120]⟩] 9)).grown HG1.out hsz HRN.out
      have H5 := Lib.hid (And.intro h5 (And.intro h6 h7))
      clear h5 h6 h7 hsz
      go_roundw
      case rel => exact ⟨j + 1, by go_num, by omega, H5.out.1, H5.out.2.1, H5.out.2.2⟩
      case measure => simp [intOf]; omega
    · obtain rfl : j = m := by omega
      have hlt' : ¬ ((j : Int) < 1 + ((j : Int) - 1)) := by omega
      have hX : (xsL j).length = j := xsL_len j
      have hnw := bnew_any (m := 9) (Ls.of_rw HRW.out) (by decide) (by decide) (by rw [hX]; omega) (xsL_long _) (fun x hx => by rw [xsL_size hx]; decide)
      rw [show fullS (xsL j) = xsL j from if_neg (fun e => by rw [e] at hX; simp at hX; omega)] at hnw
      have HNW := Lib.hid hnw
      have HX := Lib.hid hX
      clear hnw hX hlt
      go_wp2_with fail
      refine HNW.out.mono ?_
      rintro e w3 ⟨B, rfl, b3⟩
      have H3 := Lib.hid b3
      clear b3 HNW
      go_wp2_with fail
      refine (known14_any _).mono ?_
      rintro e w4 ⟨rfl, hb4⟩
      have h4 := H3.out.new hb4
      obtain ⟨p1, c1, hset⟩ := bset_any h4 (x := 97) (v := 1 + (k : Int)) (by decide) (by omega) (show 0 < maxLen by decide)
      have HM1 := Lib.hid (marks_at c1)
      have HS1 := Lib.hid hset
      clear c1 hset h4 hb4
      go_wp2_with fail
      refine HM1.out.mono ?_
      rintro e w5 ⟨rfl, rfl⟩
      go_wp2_with fail
      refine HS1.out.mono ?_
      rintro e w6 ⟨rfl, h6⟩
      obtain ⟨p2, c2, hset2⟩ := bset_any h6 (x := 98) (v := 1 + (k2 : Int)) (by decide) (by omega) (show 1 < maxLen by decide)
      have HM2 := Lib.hid (marks_at c2)
      have HS2 := Lib.hid hset2
      clear c2 hset2 h6 HS1 HM1
      go_wp2_with fail
      refine HM2.out.mono ?_
      rintro e w7 ⟨rfl, rfl⟩
      go_wp2_with fail
      refine HS2.out.mono ?_
      rintro e w8 ⟨rfl, h8⟩
      obtain ⟨s2, hs2⟩ : ∃ s2, setS (setS (newS 9 (xsL j)) 97 (1 + (k : Int))) 98 (1 + (k2 : Int)) = s2 := ⟨_, rfl⟩
      have hq1 : s2.mar 97 = 1 + (k : Int) := by rw [← hs2]; rfl
      have hq2 : s2.mar 98 = 1 + (k2 : Int) := by rw [← hs2]; rfl
      have hq3 : s2.mar 99 = 0 := by rw [← hs2]; rfl
      have hq4 : s2.ls.length = j := by rw [← hs2]; exact HX.out
      rw [hs2] at h8
      have HQ := Lib.hid (And.intro hq1 (And.intro hq2 (And.intro hq3 hq4)))
      have H8 := Lib.hid h8
      clear h8 hs2 hq1 hq2 hq3 hq4 HS2 HM2
      go_wp2_with fail
      refine (aparse_any w8 (s := sAB) (e := 5) (ads := [⟨4, 0, 97, 0⟩, ⟨4, 0, 98, 0⟩]) (by decide) (by decide) ⟨by decide, by decide, by decide⟩ (by decide) chainAB).mono ?_
      rintro e w9 ⟨v9, rfl, hr9, hb9⟩
      have h9 := H8.out.new hb9
      have hE := eval_any h9 hr9 (by rw [HQ.out.2.2.2]; omega) (by decide) (fun a ha => by
        have h2 : a = ⟨4, 0, 97, 0⟩ ∨ a = ⟨4, 0, 98, 0⟩ := by simpa using ha
        rcases h2 with rfl | rfl
        · exact okM (by decide) (by rw [HQ.out.1]; omega)
        · exact okM (by decide) (by rw [HQ.out.2.1]; omega))
      rw [evAB HQ.out.1 HQ.out.2.1 (by omega) (by rw [HQ.out.2.2.2]; omega) (by omega) (by rw [HQ.out.2.2.2]; omega)] at hE
      obtain ⟨R, hR⟩ : ∃ R : Int × Int × Int, (if 1 + (k2 : Int) < 1 + (k : Int) then (0, 0, 140) else (1 + (k : Int), 1 + (k2 : Int), 0)) = R := ⟨_, rfl⟩
      rw [hR] at hE
      have HE := Lib.hid hE
      have H9 := Lib.hid h9
      have HR := Lib.hid hR
      clear hE h9 hr9 hb9 hR
      go_wp2_with fail
      refine HE.out.mono ?_
      rintro e w10 ⟨rfl, hb10⟩
      have h10 := H9.out.new hb10
      have H10 := Lib.hid h10
      clear h10 hb10 HE
      go_wp2_with fail
      refine (aparse_any w10 (s := sCC) (e := 2) (ads := [⟨4, 0, 99, 0⟩]) (by decide) (by decide) ⟨by decide, by decide, by decide⟩ (by decide) chainC).mono ?_
      rintro e w11 ⟨v11, rfl, hr11, hb11⟩
      have h11 := H10.out.new hb11
      have hE := eval_any h11 hr11 (by rw [HQ.out.2.2.2]; omega) (by decide) (fun a ha => by
        have h2 : a = ⟨4, 0, 99, 0⟩ := by simpa using ha
        subst h2
        exact okM (by decide) (by rw [HQ.out.2.2.1]; decide))
      rw [evC HQ.out.2.2.1] at hE
      have HE := Lib.hid hE
      have H11 := Lib.hid h11
      clear hE h11 hr11 hb11
      go_wp2_with fail
      refine HE.out.mono ?_
      rintro e w12 ⟨rfl, hb12⟩
      have HZ := Lib.hid (H11.out.new hb12).below
      clear hb12 HE
      by_cases hkk : k2 < k
      · have hr := HR.out
        rw [if_pos (by omega)] at hr
        subst hr
        have hk9 : 1 + (k2 : Int) < 1 + (k : Int) := by omega
        clear HR
        go_wp2
        go_ret
        exact ⟨rfl, below_then HBl.out HBl.out.size HZ.out⟩
      · have hr := HR.out
        rw [if_neg (by omega)] at hr
        subst hr
        have hk9 : ¬ (1 + (k2 : Int) < 1 + (k : Int)) := by omega
        clear HR
        go_wp2
        go_ret
        exact ⟨rfl, below_then HBl.out HBl.out.size HZ.out⟩
theorem amarks_row (W : World) (x1 : Int) (h1 : (Lit.int .u8 x1).wf = true) (x2 : Int) (h2 : (Lit.int .u8 x2).wf = true) (x3 : Int) (h3 : (Lit.int .u8 x3).wf = true) :
    Calls Tryz.prog 5 #[.int .u8 x1, .int .u8 x2, .int .u8 x3] W fun e w' => e = .returned (.bool true) ∧ Below W.heap.size W w' := amarks_walk W x1 x2 x3 h1 h2 h3
end Go.Proofs.YtiddfimaenjdcaaGreatDoor

/- emendatorlaw14.digits: walked; its plain law. -/
set_option linter.unusedVariables false
set_option linter.unusedSimpArgs false
namespace Go.Proofs.YtiddfimaenjdcaaGreatDoor
open Go.RowKit Go.Shelf Go.Maps Go.Proofs.YtiddfimaenjdcaaGreatDoorW.PrintWords Go.Proofs.YtiddfimaenjdcaaGreatDoorW.PrintLast

/-- the digits of a number -/
def dgs (n : Nat) : List UInt8 := if h : n < 10 then [UInt8.ofNat (48 + n)] else dgs (n / 10) ++ [UInt8.ofNat (48 + n % 10)]
termination_by n
decreasing_by omega
theorem dgs_one {n : Nat} (h : n < 10) : dgs n = [UInt8.ofNat (48 + n)] := by rw [dgs, dif_pos h]
theorem dgs_more {n : Nat} (h : ¬ n < 10) : dgs n = dgs (n / 10) ++ [UInt8.ofNat (48 + n % 10)] := by rw [dgs, dif_neg h]
theorem dig_nat {n : Nat} (h : n < 10) : ((UInt8.ofNat (48 + n)).toNat : Int) = 48 + n := by
  have := (by decide : ∀ k : Fin 10, ((UInt8.ofNat (48 + k.val)).toNat : Int) = 48 + k.val) ⟨n, h⟩
  exact this
theorem dig_is {n : Nat} (h : n < 10) : isDg (UInt8.ofNat (48 + n)) = true := by
  have := (by decide : ∀ k : Fin 10, isDg (UInt8.ofNat (48 + k.val)) = true) ⟨n, h⟩
  exact this
theorem dig_str {n : Nat} (h : n < 10) : strOfNums [48 + (n : Int)] = ⟨#[UInt8.ofNat (48 + n)]⟩ := by
  have := (by decide : ∀ k : Fin 10, strOfNums [48 + (k.val : Int)] = ⟨#[UInt8.ofNat (48 + k.val)]⟩) ⟨n, h⟩
  exact this
theorem dgs_nu (n : Nat) : nuD 0 (dgs n) = n := by
  induction n using Nat.strongRecOn with
  | ind n ih =>
    by_cases h : n < 10
    · rw [dgs_one h]
      show 10 * 0 + (((UInt8.ofNat (48 + n)).toNat : Int) - 48) = n
      rw [dig_nat h]
      omega
    · rw [dgs_more h, nuD_snoc, ih (n / 10) (by omega), dig_nat (by omega)]
      omega
theorem dgs_dg (n : Nat) : ∀ c ∈ dgs n, isDg c = true := by
  induction n using Nat.strongRecOn with
  | ind n ih =>
    by_cases h : n < 10
    · rw [dgs_one h]
      intro c hc
      rw [List.mem_singleton.1 hc]
      exact dig_is h
    · rw [dgs_more h]
      intro c hc
      rcases List.mem_append.1 hc with hc | hc
      · exact ih (n / 10) (by omega) c hc
      · rw [List.mem_singleton.1 hc]
        exact dig_is (by omega)
theorem dgs_len : ∀ (k n : Nat), n < 10 ^ (k + 1) → (dgs n).length ≤ k + 1
  | 0, n, h => by rw [dgs_one (by simpa using h)]; simp
  | k + 1, n, h => by
    by_cases h9 : n < 10
    · rw [dgs_one h9]
      simp
    · rw [dgs_more h9, List.length_append]
      have := dgs_len k (n / 10) (by rw [Nat.pow_succ] at h; omega)
      simp
      omega
theorem dgs_pos (n : Nat) : 0 < (dgs n).length := by
  by_cases h : n < 10
  · rw [dgs_one h]
    simp
  · rw [dgs_more h]
    simp
/-- the digits as a text -/
def dgT (n : Nat) : ByteArray := ⟨(dgs n).toArray⟩
theorem dgT_size {n : Nat} (h : n < 100000) : (dgT n).size ≤ 5 := by
  have := dgs_len 4 n (by simpa using h)
  simpa [dgT, ByteArray.size] using this
theorem conv1 (W : World) (x : Int) : (convert 54 9 (.slice (some ⟨W.heap.size, 0, none⟩) 1 1)).run Tryz.prog (W.alloc (.cells #[.int .u8 x] 5)) = .ok (.string (strOfNums [x])) (W.alloc (.cells #[.int .u8 x] 5)) := by
  refine run_convert_bytes_arg _ 54 5 Tryz.underlying54 Tryz.underlying5 W.heap.size 0 1 1 [x] rfl (fun i hi => ?_) 9 Tryz.underlying9
  match i, hi with
  | 0, _ => rw [blk_cell (World.alloc_heap_new W _)]; rfl
set_option maxRecDepth 100000 in
theorem digit_one (w : World) {n : Nat} (h : n < 10) : Calls Tryz.prog 7 #[.int .i64 (n : Int)] w fun e w' => e = .returned (.string (dgT n)) ∧ Below w.heap.size w w' := by
  have hcv := conv1 w (48 + (n : Int))
  have hs : strOfNums [48 + (n : Int)] = dgT n := by rw [dig_str h, dgT, dgs_one h]
  rw [hs] at hcv
  have HB := Lib.hid (below_alloc (Below.refl w.heap.size w) (.cells #[.int .u8 (48 + (n : Int))] 5))
  have hlt : (n : Int) < 10 := by omega
  have iw1 : IntKind.u8.wrap (n : Int) = n := by rw [IntKind.wrap_u8]; omega
  have iw2 : IntKind.u8.wrap (48 + (n : Int)) = 48 + n := by rw [IntKind.wrap_u8]; omega
  clear hs
  go_enter Tryz.func7, Tryz.ntmps7
  go_wp2
  go_ret
  exact ⟨rfl, HB.out⟩
set_option maxRecDepth 100000 in
theorem digits_any (n : Nat) : n < 100000 → ∀ w : World, Calls Tryz.prog 7 #[.int .i64 (n : Int)] w fun e w' => e = .returned (.string (dgT n)) ∧ Below w.heap.size w w' := by
  induction n using Nat.strongRecOn with
  | ind n ih =>
    intro hn w
    by_cases h : n < 10
    · exact digit_one w h
    · obtain ⟨a, ha⟩ : ∃ a, n / 10 = a := ⟨_, rfl⟩
      obtain ⟨c, hc⟩ : ∃ c, n % 10 = c := ⟨_, rfl⟩
      have H1 := Lib.hid (ih a (by omega) (by omega))
      have H2 := Lib.hid (fun W => digit_one W (n := c) (by omega))
      have hq : (n : Int) / 10 = (a : Int) := by omega
      have hq2 : Int.tdiv (n : Int) 10 = (a : Int) := by rw [Int.tdiv_eq_ediv_of_nonneg (by omega)]; exact hq
      have hr : (n : Int) % 10 = (c : Int) := by omega
      have hr2 : Int.tmod (n : Int) 10 = (c : Int) := by rw [Int.tmod_eq_emod_of_nonneg (by omega)]; exact hr
      have hlt : ¬ (n : Int) < 10 := by omega
      have s1 : (dgT a).size ≤ 5 := dgT_size (by omega)
      have s2 : (dgT c).size ≤ 5 := dgT_size (by omega)
      have hap : dgT a ++ dgT c = dgT n := by
        unfold dgT
        rw [dgs_more h, ha, hc, dgs_one (n := c) (by omega)]
        apply ByteArray.ext
        simp
      have HAP := Lib.hid hap
      have i1 : IntKind.i64.wrap (a : Int) = a := by rw [IntKind.wrap_i64]; omega
      have i2 : IntKind.i64.wrap (c : Int) = c := by rw [IntKind.wrap_i64]; omega
      clear ih hap ha hc h
      go_enter Tryz.func7, Tryz.ntmps7
      go_wp2_with fail
      refine (H1.out _).mono ?_
      rintro e w1 ⟨rfl, hb1⟩
      have HB1 := Lib.hid hb1
      clear hb1
      go_wp2_with fail
      refine (H2.out _).mono ?_
      rintro e w2 ⟨rfl, hb2⟩
      have HB2 := Lib.hid (below_then HB1.out HB1.out.size hb2)
      clear hb2
      go_wp2
      go_ret
      first
        | exact ⟨rfl, HB2.out⟩
        | exact ⟨by rw [HAP.out]; rfl, HB2.out⟩
end Go.Proofs.YtiddfimaenjdcaaGreatDoor

/- The law AddrOffs: a line and what is counted from it is that line and so many; what is not in the text is refused. -/
set_option linter.unusedVariables false
set_option linter.unusedSimpArgs false
namespace Go.Proofs.YtiddfimaenjdcaaGreatDoor
open Go.RowKit Go.Shelf Go.Maps Go.Proofs.YtiddfimaenjdcaaGreatDoorW.PrintWords Go.Proofs.YtiddfimaenjdcaaGreatDoorW.PrintLast

theorem bounds_i16 {x : Int} (h : (Lit.int .i16 x).wf = true) : -32768 ≤ x ∧ x ≤ 32767 := by
  simpa [Lit.wf, IntKind.min, IntKind.max, IntKind.signed, IntKind.bits] using h
/-- a text: digits, a sign, digits -/
def sOff (a : Nat) (b : UInt8) (c : Nat) : ByteArray := ⟨(dgs a ++ b :: dgs c).toArray⟩
theorem sOff_list (a : Nat) (b : UInt8) (c : Nat) : (sOff a b c).data.toList = dgs a ++ b :: dgs c := by simp [sOff]
theorem sOff_size (a : Nat) (b : UInt8) (c : Nat) : (sOff a b c).size = (dgs a).length + 1 + (dgs c).length := by
  simp [sOff, ByteArray.size]
  omega
theorem sOff_is (a : Nat) (b : UInt8) (c : Nat) : (dgT a ++ (⟨#[b]⟩ : ByteArray)) ++ dgT c = sOff a b c := by
  apply ByteArray.ext
  simp [dgT, sOff]
theorem sOff_sign (a : Nat) (b : UInt8) (c : Nat) : nxB (sOff a b c) (dgs a).length = (b.toNat : Int) := by
  unfold nxB
  rw [sOff_list, List.getElem?_append_right (Nat.le_refl _), Nat.sub_self]
  rfl
theorem sOff_zero (a : Nat) (b : UInt8) (c : Nat) : 48 ≤ nxB (sOff a b c) 0 ∧ nxB (sOff a b c) 0 ≤ 57 := by
  have h := dgs_pos a
  unfold nxB
  rw [sOff_list, List.getElem?_append_left h, List.getElem?_eq_getElem h]
  exact isDg_le (dgs_dg a _ (List.getElem_mem h))
theorem chainOff {a c : Nat} {b : UInt8} {bi sg : Int} (hb : (b.toNat : Int) = bi) (hsg : (bi = 43 ∧ sg = 1) ∨ (bi = 45 ∧ sg = -1)) (ha : a < 100000) (hc : c < 100000) (G : Nat) : Chain G (sOff a b c) (sOff a b c).size 0 [⟨1, (a : Int), 0, sg * (c : Int)⟩] := by
  have l1 := dgs_len 4 a (by simpa using ha)
  have l2 := dgs_len 4 c (by simpa using hc)
  have hz := sOff_size a b c
  have he : nxB (sOff a b c) (sOff a b c).size = 0 := nxB_end _ (Nat.le_refl _)
  have hnd : isDg b = false := by
    unfold isDg dgB
    rw [hb]
    rcases hsg with ⟨h, _⟩ | ⟨h, _⟩ <;> rw [h] <;> decide
  refine .last (adat_off (j := (dgs a).length) (ds := dgs c) (r := []) (b := bi) (by omega) (fun W hW => ?_) ?_ hsg ?_ (dgs_dg c) (by omega) (dgs_pos c) (fun x hx => by cases hx) (by omega) (dgs_nu c) (by omega) ⟨by rw [he]; decide, by rw [he]; decide⟩) (Nat.zero_le _) (Nat.le_refl _) (by rw [he]; decide)
  · have := base_num (ds := dgs a) (r := b :: dgs c) hW (by omega) (Nat.zero_le _) (by rw [sOff_list]; rfl) (dgs_dg a) (by omega) (dgs_pos a) (fun x hx => by
      obtain rfl : b = x := by simpa using hx
      exact hnd)
    rw [dgs_nu, Nat.zero_add] at this
    exact this
  · rw [sOff_sign, hb]
  · rw [sOff_list, List.append_nil, show dgs a ++ b :: dgs c = (dgs a ++ [b]) ++ dgs c by simp, List.drop_left' (by simp)]
theorem evOff {s : Bs} {len a o cu : Int} : evF (lnV s) len true cu cu [⟨1, a, 0, o⟩] = if a + o < 0 ∨ len < a + o then (0, 0, 140) else (a + o, a + o, 0) := by
  have e1 : lnV s ⟨1, a, 0, o⟩ = (a, 0) := by
    unfold lnV
    simp only
    rw [if_pos trivial]
  simp only [evF, e1]
  rw [if_neg (by simp)]
  split
  · rfl
  · simp
set_option maxRecDepth 100000 in
set_option maxHeartbeats 4000000 in
theorem aoffs_walk (w : World) (x y z : Int) (hx1 : (Lit.int .u8 x).wf = true) (hy1 : (Lit.int .u8 y).wf = true) (hz1 : (Lit.int .i16 z).wf = true) :
    Calls Tryz.prog 3 #[.int .u8 x, .int .u8 y, .int .i16 z] w fun e w' => e = .returned (.bool true) ∧ Below w.heap.size w w' := by
  have bx := bounds_u8 hx1
  have by_ := bounds_u8 hy1
  have bz := bounds_i16 hz1
  clear hx1 hy1 hz1
  obtain ⟨m, hm, hm1, hm2⟩ : ∃ m : Nat, x % 100 = (m : Int) - 1 ∧ 1 ≤ m ∧ m ≤ 100 := ⟨(x % 100 + 1).toNat, by omega, by omega, by omega⟩
  obtain ⟨a, rfl, ha⟩ : ∃ a : Nat, y = (a : Int) ∧ a ≤ 255 := ⟨y.toNat, by omega, by omega⟩
  have hm0 : ¬ ((m : Int) = 0) := by omega
  obtain ⟨i0, hi0, hz0, hz1, hz2⟩ := info_parts infoS
  have HINF := Lib.hid (And.intro hi0 (And.intro hz0 (And.intro hz1 hz2)))
  clear hi0 hz0 hz1 hz2
  go_enter Tryz.func3, Tryz.ntmps3
  go_wp2
  go_loopw [7, 8] (fun v7 v8 wr => ∃ j : Nat, v8 = .int .i64 (j : Int) ∧ j ≤ m ∧ Own w.heap.size w wr v7 (xsL j)) (fun _ v8 _ => m - (intOf v8).toNat)
  case atStart => exact ⟨0, rfl, Nat.zero_le _, Rw.nil _ _, fun b hb => (by cases hb), Below.refl _ _⟩
  case round =>
    obtain ⟨j, rfl, hj, hrw, hrN, hbl⟩ := hrel
    obtain ⟨A0, c0, hv0, hl0, hm0, _⟩ := hrw.slice
    rw [cS_len, xsL_len] at hv0 hl0
    subst hv0
    unfold maxLen at hm0
    have HRW := Lib.hid hrw
    have HRN := Lib.hid hrN
    have HBl := Lib.hid hbl
    clear hrw hrN hbl
    by_cases hlt : j < m
    · have hlt' : (j : Int) < 1 + ((m : Int) - 1) := by omega
      go_wp2_with (first
        | (at_builtin; refine wpList_append_rw (v := .slice A0 j c0) (cs := cS (xsL j)) _ rfl _ _ 23 23 rfl 9 i0 (.string ⟨#[]⟩) 16 Tryz.underlying23 HINF.out.1 HINF.out.2.1 HINF.out.2.2.1 HINF.out.2.2.2 rfl rfl (HRW.out.alloc _) (.slice (some ⟨wr.heap.size, 0, none⟩) 1 1) 1 [.string ⟨#[120]⟩] rfl (src_blk _ _ _ _ Tryz.underlying23 _ rfl (new_at _ _ rfl _)) ?c1 ?c2 ?_; rotate_left 2; intro v1 w1 hr1 hg1 ha1; have HR1 := Lib.hid hr1; have HG1 := Lib.hid hg1; have HA1 := Lib.hid ha1; clear hr1 hg1 ha1))
      case c1 => rw [cS_len, xsL_len]; omega
      case c2 => rw [cS_len, xsL_len]; omega
      have h5 := HR1.out
      rw [show cS (xsL j) ++ [Value.string ⟨#[120]⟩] = cS (xsL (j + 1)) by rw [← xsL_snoc]; simp [cS]] at h5
      have hsz : w.heap.size ≤ (wr.alloc (.cells #[.string ⟨#[120]⟩] 9)).heap.size := Nat.le_trans HBl.out.size (by simp)
      have h6 : ∀ b, v1.ownBlock = some b → w.heap.size ≤ b := HA1.out.from HRN.out hsz
      have h7 : Below w.heap.size w w1 := (HBl.out.alloc (Nat.le_trans HBl.out.size (by simp)) (.cells #[.string ⟨#[120]⟩] 9)).grown HG1.out hsz HRN.out
      have H5 := Lib.hid (And.intro h5 (And.intro h6 h7))
      clear h5 h6 h7 hsz
      go_roundw
      case rel => exact ⟨j + 1, by go_num, by omega, H5.out.1, H5.out.2.1, H5.out.2.2⟩
      case measure => simp [intOf]; omega
    · obtain rfl : j = m := by omega
      have hlt' : ¬ ((j : Int) < 1 + ((j : Int) - 1)) := by omega
      have hX : (xsL j).length = j := xsL_len j
      have hnw := bnew_any (m := 9) (Ls.of_rw HRW.out) (by decide) (by decide) (by rw [hX]; omega) (xsL_long _) (fun x hx => by rw [xsL_size hx]; decide)
      rw [show fullS (xsL j) = xsL j from if_neg (fun e => by rw [e] at hX; simp at hX; omega)] at hnw
      have HNW := Lib.hid hnw
      have HX := Lib.hid hX
      clear hnw hX hlt
      go_wp2_with fail
      refine HNW.out.mono ?_
      rintro e w3 ⟨B, rfl, b3⟩
      have H3 := Lib.hid b3
      have HD1 := Lib.hid (digits_any a (by omega))
      have s1 : (dgT a).size ≤ 5 := dgT_size (by omega)
      clear b3 HNW
      go_wp2_with fail
      refine (HD1.out _).mono ?_
      rintro e w4 ⟨rfl, hb4⟩
      have H4 := Lib.hid (H3.out.new hb4)
      clear hb4 HD1
      by_cases hz : z < 0
      · obtain ⟨c, hc, hc2⟩ : ∃ c : Nat, -z = (c : Int) ∧ c ≤ 32768 := ⟨(-z).toNat, by omega, by omega⟩
        obtain rfl : z = -(c : Int) := by omega
        have s2 : (dgT c).size ≤ 5 := dgT_size (by omega)
        have HD2 := Lib.hid (digits_any c (by omega))
        have iw1 : IntKind.i64.wrap (-(-(c : Int))) = c := by rw [IntKind.wrap_i64]; omega
        have hneg : -(-(c : Int)) = (c : Int) := by omega
        go_wp2_with fail
        refine (HD2.out _).mono ?_
        rintro e w5 ⟨rfl, hb5⟩
        have H5 := Lib.hid (H4.out.new hb5)
        clear hb5 HD2
        have hsum := sOff_is a 45 c
        have hsz := sOff_size a 45 c
        have l1 := dgs_len 4 a (by omega)
        have l2 := dgs_len 4 c (by omega)
        have hz0 := sOff_zero a 45 c
        have hch := fun G => chainOff (a := a) (c := c) (b := 45) (bi := 45) (sg := -1) (by decide) (.inr ⟨rfl, rfl⟩) (by omega) (by omega) G
        obtain ⟨t, ht⟩ : ∃ t, sOff a 45 c = t := ⟨_, rfl⟩
        rw [ht] at hsum hsz hz0 hch
        have hts : t.size ≤ 11 := by omega
        obtain ⟨K, hK⟩ : ∃ K : Int, (a : Int) + -(c : Int) = K := ⟨_, rfl⟩
        have HP := Lib.hid (fun W => aparse_any W (s := t) (e := t.size) (ads := [⟨1, (a : Int), 0, -1 * (c : Int)⟩]) (by omega) (show (1 : Nat) ≤ 100 by decide) ⟨by omega, by omega, by omega⟩ (by omega) hch)
        have HE := Lib.hid (show ∀ W v, Bf wr.heap.size wr W B (newS 9 (xsL j)) → W.ownsRow 0 61 6 v 1 (adR [⟨1, (a : Int), 0, -1 * (c : Int)⟩]) → Calls Tryz.prog 9 #[.pointer (some ⟨B, 0, none⟩), v, .string ⟨#[]⟩, .string ⟨#[]⟩, .bool false] W (EvPost W (if K < 0 ∨ (j : Int) < K then (0, 0, 140) else (K, K, 0))) from fun W v hW hr => by
          have h9 := eval_any hW hr (by show (xsL j).length ≤ _; rw [HX.out]; omega) (show (1 : Nat) ≤ 100 by decide) (fun q hq => by
            obtain rfl : q = ⟨1, (a : Int), 0, -1 * (c : Int)⟩ := by simpa using hq
            refine ⟨.inl rfl, ?_, ?_, ?_, ?_⟩
            · show -4000000000 ≤ (a : Int)
              omega
            · show (a : Int) ≤ 4000000000
              omega
            · show -4000000000 ≤ -1 * (c : Int)
              omega
            · show -1 * (c : Int) ≤ 4000000000
              omega)
          rw [evOff, show (a : Int) + -1 * (c : Int) = K by omega, show ((newS 9 (xsL j)).ls.length : Int) = (j : Int) by show ((xsL j).length : Int) = _; rw [HX.out]] at h9
          exact h9)
        have HKK := Lib.hid hK
        clear hsz l1 l2 hz0 hch ht
        go_wp2_with fail
        refine (HP.out _).mono ?_
        rintro e w6 ⟨v6, rfl, hr6, hb6⟩
        have h6 := H5.out.new hb6
        have hE := HE.out w6 v6 h6 hr6
        have H6 := Lib.hid h6
        by_cases hKK : K < 0 ∨ (j : Int) < K
        · rw [if_pos hKK] at hE
          have HE2 := Lib.hid hE
          have HO := Lib.hid hKK
          clear hE hKK h6 hr6 hb6 HE HP
          go_wp2_with fail
          refine HE2.out.mono ?_
          rintro e w7 ⟨rfl, hb7⟩
          have H7 := Lib.hid (H6.out.new hb7)
          clear hb7 HE2
          rcases HO.out with hlo | hhi
          · go_wp2_with fail
            refine (known14_any _).mono ?_
            rintro e w8 ⟨rfl, hb8⟩
            have HZ := Lib.hid (H7.out.new hb8).below
            clear hb8
            go_wp2
            go_ret
            exact ⟨rfl, below_then HBl.out HBl.out.size HZ.out⟩
          · have hnl : ¬ (K < 0) := by omega
            go_wp2_with fail
            refine (known14_any _).mono ?_
            rintro e w8 ⟨rfl, hb8⟩
            have HZ := Lib.hid (H7.out.new hb8).below
            clear hb8
            go_wp2
            go_ret
            exact ⟨rfl, below_then HBl.out HBl.out.size HZ.out⟩
        · rw [if_neg hKK] at hE
          have HE2 := Lib.hid hE
          have l1 : ¬ (K < 0) := fun h => hKK (.inl h)
          have l2 : ¬ ((j : Int) < K) := fun h => hKK (.inr h)
          clear hE hKK h6 hr6 hb6 HE HP
          go_wp2_with fail
          refine HE2.out.mono ?_
          rintro e w7 ⟨rfl, hb7⟩
          have H7 := Lib.hid (H6.out.new hb7)
          clear hb7 HE2
          go_wp2_with fail
          refine (known14_any _).mono ?_
          rintro e w8 ⟨rfl, hb8⟩
          have HZ := Lib.hid (H7.out.new hb8).below
          clear hb8
          go_wp2
          go_ret
          exact ⟨rfl, below_then HBl.out HBl.out.size HZ.out⟩
      · obtain ⟨c, rfl, hc2⟩ : ∃ c : Nat, z = (c : Int) ∧ c ≤ 32768 := ⟨z.toNat, by omega, by omega⟩
        have s2 : (dgT c).size ≤ 5 := dgT_size (by omega)
        have HD2 := Lib.hid (digits_any c (by omega))
        go_wp2_with fail
        refine (HD2.out _).mono ?_
        rintro e w5 ⟨rfl, hb5⟩
        have H5 := Lib.hid (H4.out.new hb5)
        clear hb5 HD2
        have hsum := sOff_is a 43 c
        have hsz := sOff_size a 43 c
        have l1 := dgs_len 4 a (by omega)
        have l2 := dgs_len 4 c (by omega)
        have hz0 := sOff_zero a 43 c
        have hch := fun G => chainOff (a := a) (c := c) (b := 43) (bi := 43) (sg := 1) (by decide) (.inl ⟨rfl, rfl⟩) (by omega) (by omega) G
        obtain ⟨t, ht⟩ : ∃ t, sOff a 43 c = t := ⟨_, rfl⟩
        rw [ht] at hsum hsz hz0 hch
        have hts : t.size ≤ 11 := by omega
        obtain ⟨K, hK⟩ : ∃ K : Int, (a : Int) + (c : Int) = K := ⟨_, rfl⟩
        have HP := Lib.hid (fun W => aparse_any W (s := t) (e := t.size) (ads := [⟨1, (a : Int), 0, 1 * (c : Int)⟩]) (by omega) (show (1 : Nat) ≤ 100 by decide) ⟨by omega, by omega, by omega⟩ (by omega) hch)
        have HE := Lib.hid (show ∀ W v, Bf wr.heap.size wr W B (newS 9 (xsL j)) → W.ownsRow 0 61 6 v 1 (adR [⟨1, (a : Int), 0, 1 * (c : Int)⟩]) → Calls Tryz.prog 9 #[.pointer (some ⟨B, 0, none⟩), v, .string ⟨#[]⟩, .string ⟨#[]⟩, .bool false] W (EvPost W (if K < 0 ∨ (j : Int) < K then (0, 0, 140) else (K, K, 0))) from fun W v hW hr => by
          have h9 := eval_any hW hr (by show (xsL j).length ≤ _; rw [HX.out]; omega) (show (1 : Nat) ≤ 100 by decide) (fun q hq => by
            obtain rfl : q = ⟨1, (a : Int), 0, 1 * (c : Int)⟩ := by simpa using hq
            refine ⟨.inl rfl, ?_, ?_, ?_, ?_⟩
            · show -4000000000 ≤ (a : Int)
              omega
            · show (a : Int) ≤ 4000000000
              omega
            · show -4000000000 ≤ 1 * (c : Int)
              omega
            · show 1 * (c : Int) ≤ 4000000000
              omega)
          rw [evOff, show (a : Int) + 1 * (c : Int) = K by omega, show ((newS 9 (xsL j)).ls.length : Int) = (j : Int) by show ((xsL j).length : Int) = _; rw [HX.out]] at h9
          exact h9)
        have HKK := Lib.hid hK
        clear hsz l1 l2 hz0 hch ht
        go_wp2_with fail
        refine (HP.out _).mono ?_
        rintro e w6 ⟨v6, rfl, hr6, hb6⟩
        have h6 := H5.out.new hb6
        have hE := HE.out w6 v6 h6 hr6
        have H6 := Lib.hid h6
        by_cases hKK : K < 0 ∨ (j : Int) < K
        · rw [if_pos hKK] at hE
          have HE2 := Lib.hid hE
          have HO := Lib.hid hKK
          clear hE hKK h6 hr6 hb6 HE HP
          go_wp2_with fail
          refine HE2.out.mono ?_
          rintro e w7 ⟨rfl, hb7⟩
          have H7 := Lib.hid (H6.out.new hb7)
          clear hb7 HE2
          rcases HO.out with hlo | hhi
          · go_wp2_with fail
            refine (known14_any _).mono ?_
            rintro e w8 ⟨rfl, hb8⟩
            have HZ := Lib.hid (H7.out.new hb8).below
            clear hb8
            go_wp2
            go_ret
            exact ⟨rfl, below_then HBl.out HBl.out.size HZ.out⟩
          · have hnl : ¬ (K < 0) := by omega
            go_wp2_with fail
            refine (known14_any _).mono ?_
            rintro e w8 ⟨rfl, hb8⟩
            have HZ := Lib.hid (H7.out.new hb8).below
            clear hb8
            go_wp2
            go_ret
            exact ⟨rfl, below_then HBl.out HBl.out.size HZ.out⟩
        · rw [if_neg hKK] at hE
          have HE2 := Lib.hid hE
          have l1 : ¬ (K < 0) := fun h => hKK (.inl h)
          have l2 : ¬ ((j : Int) < K) := fun h => hKK (.inr h)
          clear hE hKK h6 hr6 hb6 HE HP
          go_wp2_with fail
          refine HE2.out.mono ?_
          rintro e w7 ⟨rfl, hb7⟩
          have H7 := Lib.hid (H6.out.new hb7)
          clear hb7 HE2
          go_wp2_with fail
          refine (known14_any _).mono ?_
          rintro e w8 ⟨rfl, hb8⟩
          have HZ := Lib.hid (H7.out.new hb8).below
          clear hb8
          go_wp2
          go_ret
          exact ⟨rfl, below_then HBl.out HBl.out.size HZ.out⟩
theorem aoffs_row (W : World) (x1 : Int) (h1 : (Lit.int .u8 x1).wf = true) (x2 : Int) (h2 : (Lit.int .u8 x2).wf = true) (x3 : Int) (h3 : (Lit.int .i16 x3).wf = true) :
    Calls Tryz.prog 3 #[.int .u8 x1, .int .u8 x2, .int .i16 x3] W fun e w' => e = .returned (.bool true) ∧ Below W.heap.size W w' := aoffs_walk W x1 x2 x3 h1 h2 h3
end Go.Proofs.YtiddfimaenjdcaaGreatDoor
