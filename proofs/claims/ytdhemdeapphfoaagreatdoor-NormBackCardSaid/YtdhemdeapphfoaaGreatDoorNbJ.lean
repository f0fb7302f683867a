/- The law NormBack: what is deleted by dd and put by P is where it was; what is written by o and deleted again, too; letters that are turned twice are as they were. -/
import Derived.Test.YtdhemdeapphfoaaGreatDoorNbX
import Derived.Test.YtdhemdeapphfoaaGreatDoorNvX
set_option linter.unusedVariables false
set_option linter.unusedSimpArgs false
set_option linter.unusedVariables false
set_option linter.unusedSimpArgs false
namespace Go.Proofs.YtdhemdeapphfoaaGreatDoor
open Go.RowKit Go.Shelf Go.Maps Go.Proofs.YtdhemdeapphfoaaGreatDoorW.PrintWords Go.Proofs.YtdhemdeapphfoaaGreatDoorW.PrintLast

theorem getD_at {X : List ByteArray} {a : Nat} {t : ByteArray} (h : a < X.length) (ht : X.getD a ByteArray.empty = t) : X[a]? = some t := by
  rw [List.getElem?_eq_getElem h, ← ht, List.getD_eq_getElem?_getD, List.getElem?_eq_getElem h]
  rfl
theorem splice_get {X : List ByteArray} {a k : Nat} {J : ByteArray} (h : a ≤ X.length) : (Bt.splice X a k [J]).getD a ByteArray.empty = J := by
  unfold Bt.splice
  rw [List.getD_eq_getElem?_getD, List.getElem?_append_right (by simp; omega)]
  simp only [List.length_take]
  rw [show a - min a X.length = 0 by omega]
  rfl
theorem splice_twice {X : List ByteArray} {a : Nat} {t u : ByteArray} (h : X[a]? = some t) : Bt.splice (Bt.splice X a 1 [u]) a 1 [t] = X := by
  obtain ⟨h1, h2⟩ := List.getElem?_eq_some_iff.1 h
  have h9 := splice_back (X := X) (Y := [u]) (i := a) (k := 1) (by omega)
  rw [List.drop_eq_getElem_cons h1, h2] at h9
  exact h9
theorem long_sub {X Y : List ByteArray} (h : isLong X = false) (hs : ∀ y ∈ Y, y ∈ X) : isLong Y = false := by
  unfold isLong at h ⊢
  rw [List.any_eq_false] at h ⊢
  exact fun y hy => h y (hs y hy)

set_option maxRecDepth 100000 in
set_option maxHeartbeats 1000000 in
theorem nback_long {w : World} {G : Nat → Prop} {v : Value} {xs : List ByteArray} (h : Ls w G v xs) (hlg : isLong xs = true) (x y : Int) (s : ByteArray) :
    Calls Tryz.prog 5 #[v, .int .i64 x, .int .u8 y, .string s] w fun e w' => e = .returned (.bool true) ∧ Below w.heap.size w w' := by
  have HH := Lib.hid (heavy19n h)
  have HV := Lib.hid h
  obtain ⟨Av, cv, hvs, hcv, hcm, hAv⟩ := id h
  subst hvs
  unfold maxLen at hcm
  clear h
  go_enter Tryz.func5, Tryz.ntmps5
  go_wp2_with fail
  refine HH.out.mono ?_
  rintro e w1 ⟨b, rfl, hb1, hbn⟩
  have HB1 := Lib.hid hb1
  clear hb1
  cases b
  · have hl : xs.length ≤ 60 := hbn rfl
    clear hbn
    by_cases h0 : xs.length < 2
    · have hd : (xs.length : Int) < 2 := by omega
      go_wp2_with (go_at_call 8; refine (known19_any w1).mono ?_; rintro e w2 ⟨rfl, hb2⟩; have HB2 := Lib.hid (below_then HB1.out HB1.out.size hb2); clear hb2)
      go_ret
      exact ⟨rfl, HB2.out⟩
    · have hd : ¬ ((xs.length : Int) < 2) := by omega
      by_cases h1 : 100 < s.size
      · have hd2 : (100 : Int) < (s.size : Int) := by omega
        go_wp2_with (go_at_call 8; refine (known19_any w1).mono ?_; rintro e w2 ⟨rfl, hb2⟩; have HB2 := Lib.hid (below_then HB1.out HB1.out.size hb2); clear hb2)
        go_ret
        exact ⟨rfl, HB2.out⟩
      · have hd2 : ¬ ((100 : Int) < (s.size : Int)) := by omega
        go_wp2_with (go_at_call 8; refine (known19_any w1).mono ?_; rintro e w2 ⟨rfl, hb2⟩; have HB2 := Lib.hid (below_then HB1.out HB1.out.size hb2); clear hb2)
        have hv2 := HV.out.step HB2.out.size fun b hb _ => HB2.out.block b hb
        have hnw := bnew_long (m := 50) hv2 (by decide) (by decide) (by omega) hlg
        have HNW := Lib.hid hnw
        clear hnw hv2
        refine HNW.out.mono ?_
        rintro e w3 ⟨rfl, hb3⟩
        have HB3 := Lib.hid (below_then HB2.out HB2.out.size hb3)
        clear hb3
        go_wp2_with (go_at_call 7; refine (regsNew_any w3).mono ?_; rintro e w4 ⟨⟨R, rfl⟩, hb4⟩; have HB4 := Lib.hid (below_then HB3.out HB3.out.size hb4); clear hb4)
        go_ret
        exact ⟨rfl, HB4.out⟩
  · go_wp2_with (go_at_call 8; refine (known19_any w1).mono ?_; rintro e w2 ⟨rfl, hb2⟩; have HB2 := Lib.hid (below_then HB1.out HB1.out.size hb2); clear hb2)
    go_ret
    exact ⟨rfl, HB2.out⟩

set_option maxRecDepth 100000 in
set_option maxHeartbeats 6000000 in
theorem nback_short {w : World} {G : Nat → Prop} {v : Value} {xs : List ByteArray} (h : Ls w G v xs) (hlg : isLong xs = false) (x y : Int) (s : ByteArray) (hx1 : (Lit.int .i64 x).wf = true) (hy1 : (Lit.int .u8 y).wf = true) :
    Calls Tryz.prog 5 #[v, .int .i64 x, .int .u8 y, .string s] w fun e w' => e = .returned (.bool true) ∧ Below w.heap.size w w' := by
  have hs := notLong hlg
  have HH := Lib.hid (heavy19s h hs)
  have HV := Lib.hid h
  obtain ⟨Av, cv, hvs, hcv, hcm, hAv⟩ := id h
  subst hvs
  unfold maxLen at hcm
  have bx := bounds64 hx1
  have by_ := bounds_u8 hy1
  have HFS := Lib.hid hs
  clear h hx1 hy1 hs
  go_enter Tryz.func5, Tryz.ntmps5
  go_wp2_with fail
  refine HH.out.mono ?_
  rintro e w1 ⟨b, rfl, hb1, hbn⟩
  have HB1 := Lib.hid hb1
  clear hb1
  cases b
  · obtain ⟨hl, hsum⟩ := hbn rfl
    clear hbn
    by_cases h0 : xs.length < 2
    · have hd : (xs.length : Int) < 2 := by omega
      go_wp2_with (go_at_call 8; refine (known19_any w1).mono ?_; rintro e w2 ⟨rfl, hb2⟩; have HB2 := Lib.hid (below_then HB1.out HB1.out.size hb2); clear hb2)
      go_ret
      exact ⟨rfl, HB2.out⟩
    have hd : ¬ ((xs.length : Int) < 2) := by omega
    by_cases h1 : 100 < s.size
    · have hd2 : (100 : Int) < (s.size : Int) := by omega
      go_wp2_with (go_at_call 8; refine (known19_any w1).mono ?_; rintro e w2 ⟨rfl, hb2⟩; have HB2 := Lib.hid (below_then HB1.out HB1.out.size hb2); clear hb2)
      go_ret
      exact ⟨rfl, HB2.out⟩
    have hd2 : ¬ ((100 : Int) < (s.size : Int)) := by omega
    go_wp2_with (go_at_call 8; refine (known19_any w1).mono ?_; rintro e w2 ⟨rfl, hb2⟩; have HB2 := Lib.hid (below_then HB1.out HB1.out.size hb2); clear hb2)
    have hv2 := HV.out.step HB2.out.size fun b hb _ => HB2.out.block b hb
    have hne : xs ≠ [] := fun e => by rw [e] at h0; simp at h0
    have hnw := bnew_any (m := 50) hv2 (by decide) (by decide) (by omega) hlg (fun x hx => by have := HFS.out x hx; omega)
    rw [show fullS xs = xs from if_neg hne] at hnw
    have HNW := Lib.hid hnw
    clear hnw hv2 hne
    obtain ⟨k, hk, hk1, hk2⟩ : ∃ k : Nat, max x 0 % (xs.length : Int) = (k : Int) - 1 ∧ 1 ≤ k ∧ k ≤ xs.length := by
      obtain ⟨a, ha, ha1⟩ := rem_nat x (m := (xs.length : Int)) (by omega)
      exact ⟨a + 1, by omega, by omega, by omega⟩
    have hkm : 1 + ((k : Int) - 1) = k := by omega
    have hn1 : ¬ ((xs.length : Int) = 0) := by omega
    obtain ⟨c, hc, hc1, hc2⟩ : ∃ c : Nat, y % ((xs.length : Int) - k + 1) = (c : Int) - 1 ∧ 1 ≤ c ∧ c + k ≤ xs.length + 1 := by
      have h8 := Int.emod_nonneg y (b := (xs.length : Int) - k + 1) (by omega)
      have h9 := Int.emod_lt_of_pos y (b := (xs.length : Int) - k + 1) (by omega)
      exact ⟨(y % ((xs.length : Int) - k + 1) + 1).toNat, by omega, by omega, by omega⟩
    have hcm2 : 1 + ((c : Int) - 1) = c := by omega
    have hn0 : ¬ ((xs.length : Int) - k + 1 = 0) := by omega
    refine HNW.out.mono ?_
    rintro e w3 ⟨B, rfl, b3⟩
    have H3 := Lib.hid b3
    clear b3 HNW
    go_wp2_with (first
      | (go_at_call 7; refine (regsNew_rg w3).mono ?_; rintro e w4 ⟨⟨R, mb, rfl, hrg, hR, hmb⟩, hb4⟩; have H4 := Lib.hid (And.intro (H3.out.guard hb4) (And.intro hrg (And.intro hR (And.intro hmb (And.intro H3.out.below.size hb4.size))))); clear hb4 hrg hR hmb))
    have ed : Ed w2.heap.size _ w4 B R mb (newS 50 xs) 0 (fun _ => none) := ⟨H4.out.1, H4.out.2.1, (fun y v hv => by cases hv), .inr ⟨H4.out.2.2.1, H4.out.2.1.ltR⟩, .inr ⟨H4.out.2.2.2.1, H4.out.2.1.ltM⟩, Nat.le_trans H3.out.below.size H4.out.2.2.2.1⟩
    have hE4 : NEq w2.heap.size w2 w4 B R mb xs 1 0 0 none := ⟨_, _, _, _, rfl, ed, rfl, rfl, Nat.zero_le _, rfl, Nat.le_refl _, fun ys h => by cases h⟩
    have HPT := Lib.hid (hE4.put (j := k) rfl (by omega) (by omega))
    clear ed hE4 H4 H3
    go_wp2_with fail
    refine HPT.out.mono ?_
    rintro e w5 ⟨rfl, h5⟩
    have H5 := Lib.hid h5
    clear h5 HPT
    obtain ⟨j, hj⟩ : ∃ j, c = j + 1 := ⟨c - 1, by omega⟩
    have HJ := Lib.hid hj
    clear hj
    by_cases hcond : c < xs.length ∧ k + c - 1 < xs.length
    · have c1 : (c : Int) < (xs.length : Int) := by omega
      have c2 : (k : Int) + c - 1 < (xs.length : Int) := by omega
      have hj := HJ.out
      have hdd := neq_dd H5.out (by omega) (c := c) (j := j) (by omega) (by omega) (by omega) (by omega) (by omega) HFS.out (by omega) (by omega) (by decide) (reg := 0) (.inl rfl) (arg := ⟨#[]⟩) (k' := k) (by omega)
      rw [if_pos rfl] at hdd
      have HDD := Lib.hid hdd
      clear hdd hj
      go_wp2_with fail
      refine HDD.out.mono ?_
      rintro e w6 ⟨v, rfl, rfl, h6⟩
      have hj := HJ.out
      have hy : ∀ z ∈ (xs.drop (k - 1)).take (j + 1), z ∈ xs := fun z hz => List.mem_of_mem_drop (List.mem_of_mem_take hz)
      have hyl : ((xs.drop (k - 1)).take (j + 1)).length = j + 1 := by rw [List.length_take, List.length_drop]; omega
      have hl1 : (Bt.splice xs (k - 1) (j + 1) []).length = xs.length - (j + 1) := splice_len (by omega)
      have hp := neq_P h6 (by omega) (by omega) (by omega) (by omega) (by omega) (long_sub hlg hy) (fun z hz => HFS.out z (hy z hz)) (by omega) (arg := ⟨#[]⟩)
      rw [show Bt.splice (Bt.splice xs (k - 1) (j + 1) []) (k - 1) 0 ((xs.drop (k - 1)).take (j + 1)) = xs from splice_back (Y := []) (by omega)] at hp
      have HP := Lib.hid hp
      clear hp h6 hy hyl hl1 HDD hj
      go_wp2_with fail
      refine HP.out.mono ?_
      rintro e w7 ⟨v, rfl, rfl, h7⟩
      obtain ⟨T, hT⟩ := h7.lines (by omega)
      have t7 := (hT w7 (Below.refl _ _)).1
      have HL7 := Lib.hid (hT w7 (Below.refl _ _)).2
      have H7 := Lib.hid h7
      clear h7 hT HP
      go_wp2_with fail
      refine HL7.out.mono ?_
      rintro e w8 ⟨v8, rfl, h81, h82, h83⟩
      have hb8 := below_then HB2.out HB2.out.size (H7.out.new h83).below
      have hsm := sameL (Ls.of_rw h81) (HV.out.step hb8.size fun b hb _ => hb8.block b hb) (by omega)
      have HSM := Lib.hid hsm
      have H8 := Lib.hid (H7.out.new h83)
      clear h81 h82 h83 hsm hb8 HL7 t7
      go_wp2_with fail
      refine HSM.out.mono ?_
      rintro e w9 ⟨rfl, hb9⟩
      have H9 := Lib.hid (H8.out.new hb9)
      clear hb9 HSM
      have HPU := Lib.hid (H9.out.put (j := k) rfl (by omega) (by omega))
      go_wp2_with fail
      refine HPU.out.mono ?_
      rintro e w21 ⟨rfl, h21⟩
      have HO := Lib.hid (neq_o h21 (by omega) (by omega) (by omega) (arg := s) (by omega) (by omega))
      clear h21 HPU
      go_wp2_with fail
      refine HO.out.mono ?_
      rintro e w22 ⟨v, rfl, rfl, h22⟩
      have hl2 : (Bt.splice xs k 0 [s]).length = xs.length + 1 := by
        rw [splice_len (by omega)]
        rfl
      have hdd := neq_dd h22 (by omega) (c := 0) (j := 0) rfl (by omega) (by omega) (by omega) (by decide) (fun x hx => by
        rcases mem_splice0 hx with hx | rfl
        · exact HFS.out x hx
        · omega) (by rw [sum_splice0]; omega) (by omega) (by decide) (reg := 98) (.inr (by decide)) (arg := ⟨#[]⟩) rfl
      rw [show k + 1 - 1 = k by omega, show Bt.splice (Bt.splice xs k 0 [s]) k (0 + 1) [] = xs from splice_back (X := xs) (Y := [s]) (i := k) (k := 0) (by omega)] at hdd
      have HDD := Lib.hid hdd
      clear h22 HO hl2 hdd
      go_wp2_with fail
      refine HDD.out.mono ?_
      rintro e w23 ⟨v, rfl, rfl, h23⟩
      have HPV := Lib.hid (h23.put (j := k) rfl (by omega) (by omega))
      clear h23 HDD
      go_wp2_with fail
      refine HPV.out.mono ?_
      rintro e w24 ⟨rfl, h24⟩
      have H24 := Lib.hid h24
      clear h24 HPV
      obtain ⟨t, ht⟩ : ∃ t, xs.getD (k - 1) ByteArray.empty = t := ⟨_, rfl⟩
      have htx := getD_at (X := xs) (a := k - 1) (t := t) (by omega) ht
      have hts : t.size ≤ 1000 := HFS.out t (List.mem_of_getElem? htx)
      by_cases h0 : t.size = 0
      · obtain rfl : t = ⟨#[]⟩ := by
          apply ByteArray.ext
          exact Array.eq_empty_of_size_eq_zero h0
        have HT := Lib.hid (neq_t0 H24.out (by omega) (by omega) (by omega) ht (arg := ⟨#[]⟩))
        go_wp2_with fail
        refine HT.out.mono ?_
        rintro e w25 ⟨v, rfl, rfl, h25⟩
        have HU := Lib.hid (neq_t0 h25 (by omega) (by omega) (by omega) ht (arg := ⟨#[]⟩))
        clear h25 HT
        go_wp2_with fail
        refine HU.out.mono ?_
        rintro e w26 ⟨v, rfl, rfl, h26⟩
        obtain ⟨T, hT⟩ := h26.lines (by omega)
        have t26 := (hT w26 (Below.refl _ _)).1
        have HL := Lib.hid (hT w26 (Below.refl _ _)).2
        have H26 := Lib.hid h26
        clear h26 hT HU
        go_wp2_with fail
        refine HL.out.mono ?_
        rintro e w27 ⟨v27, rfl, h271, h272, h273⟩
        have hb27 := below_then HB2.out HB2.out.size (H26.out.new h273).below
        have hsm := sameL (Ls.of_rw h271) (HV.out.step hb27.size fun b hb _ => hb27.block b hb) (by omega)
        have HSM := Lib.hid hsm
        have HB27 := Lib.hid hb27
        clear h271 h272 h273 hsm hb27 HL t26
        go_wp2_with fail
        refine HSM.out.mono ?_
        rintro e w28 ⟨rfl, hb28⟩
        have HB28 := Lib.hid (below_then HB27.out HB27.out.size hb28)
        clear hb28 HSM
        go_wp2
        go_ret
        exact ⟨rfl, HB28.out⟩
      · have HT := Lib.hid (neq_t H24.out (by omega) (by omega) (by omega) ht h0 hts (by omega) (arg := ⟨#[]⟩))
        go_wp2_with fail
        refine HT.out.mono ?_
        rintro e w25 ⟨v, rfl, rfl, h25⟩
        have hl2 : (Bt.splice xs (k - 1) 1 [flipT 9 t]).length = xs.length := by
          rw [splice_len (by omega)]
          simp only [List.length_singleton]
          omega
        have hz2 := flipT_size 9 t
        have hu := neq_t h25 (by omega) (by omega) (by omega) (t := flipT 9 t) (splice_get (by omega)) (by omega) (by omega) (by omega) (arg := ⟨#[]⟩)
        rw [flipT_twice, splice_twice htx] at hu
        have HU := Lib.hid hu
        clear h25 HT hu hl2
        go_wp2_with fail
        refine HU.out.mono ?_
        rintro e w26 ⟨v, rfl, rfl, h26⟩
        obtain ⟨T, hT⟩ := h26.lines (by omega)
        have t26 := (hT w26 (Below.refl _ _)).1
        have HL := Lib.hid (hT w26 (Below.refl _ _)).2
        have H26 := Lib.hid h26
        clear h26 hT HU
        go_wp2_with fail
        refine HL.out.mono ?_
        rintro e w27 ⟨v27, rfl, h271, h272, h273⟩
        have hb27 := below_then HB2.out HB2.out.size (H26.out.new h273).below
        have hsm := sameL (Ls.of_rw h271) (HV.out.step hb27.size fun b hb _ => hb27.block b hb) (by omega)
        have HSM := Lib.hid hsm
        have HB27 := Lib.hid hb27
        clear h271 h272 h273 hsm hb27 HL t26
        go_wp2_with fail
        refine HSM.out.mono ?_
        rintro e w28 ⟨rfl, hb28⟩
        have HB28 := Lib.hid (below_then HB27.out HB27.out.size hb28)
        clear hb28 HSM
        go_wp2
        go_ret
        exact ⟨rfl, HB28.out⟩
    · have hq : (c : Int) < (xs.length : Int) → ¬ ((k : Int) + c - 1 < (xs.length : Int)) := fun h9 h8 => hcond ⟨by omega, by omega⟩
      by_cases c1' : (c : Int) < (xs.length : Int)
      · have c2 := hq c1'
        clear hq
        have HPU := Lib.hid (H5.out.put (j := k) rfl (by omega) (by omega))
        go_wp2_with fail
        refine HPU.out.mono ?_
        rintro e w21 ⟨rfl, h21⟩
        have HO := Lib.hid (neq_o h21 (by omega) (by omega) (by omega) (arg := s) (by omega) (by omega))
        clear h21 HPU
        go_wp2_with fail
        refine HO.out.mono ?_
        rintro e w22 ⟨v, rfl, rfl, h22⟩
        have hl2 : (Bt.splice xs k 0 [s]).length = xs.length + 1 := by
          rw [splice_len (by omega)]
          rfl
        have hdd := neq_dd h22 (by omega) (c := 0) (j := 0) rfl (by omega) (by omega) (by omega) (by decide) (fun x hx => by
          rcases mem_splice0 hx with hx | rfl
          · exact HFS.out x hx
          · omega) (by rw [sum_splice0]; omega) (by omega) (by decide) (reg := 98) (.inr (by decide)) (arg := ⟨#[]⟩) rfl
        rw [show k + 1 - 1 = k by omega, show Bt.splice (Bt.splice xs k 0 [s]) k (0 + 1) [] = xs from splice_back (X := xs) (Y := [s]) (i := k) (k := 0) (by omega)] at hdd
        have HDD := Lib.hid hdd
        clear h22 HO hl2 hdd
        go_wp2_with fail
        refine HDD.out.mono ?_
        rintro e w23 ⟨v, rfl, rfl, h23⟩
        have HPV := Lib.hid (h23.put (j := k) rfl (by omega) (by omega))
        clear h23 HDD
        go_wp2_with fail
        refine HPV.out.mono ?_
        rintro e w24 ⟨rfl, h24⟩
        have H24 := Lib.hid h24
        clear h24 HPV
        obtain ⟨t, ht⟩ : ∃ t, xs.getD (k - 1) ByteArray.empty = t := ⟨_, rfl⟩
        have htx := getD_at (X := xs) (a := k - 1) (t := t) (by omega) ht
        have hts : t.size ≤ 1000 := HFS.out t (List.mem_of_getElem? htx)
        by_cases h0 : t.size = 0
        · obtain rfl : t = ⟨#[]⟩ := by
            apply ByteArray.ext
            exact Array.eq_empty_of_size_eq_zero h0
          have HT := Lib.hid (neq_t0 H24.out (by omega) (by omega) (by omega) ht (arg := ⟨#[]⟩))
          go_wp2_with fail
          refine HT.out.mono ?_
          rintro e w25 ⟨v, rfl, rfl, h25⟩
          have HU := Lib.hid (neq_t0 h25 (by omega) (by omega) (by omega) ht (arg := ⟨#[]⟩))
          clear h25 HT
          go_wp2_with fail
          refine HU.out.mono ?_
          rintro e w26 ⟨v, rfl, rfl, h26⟩
          obtain ⟨T, hT⟩ := h26.lines (by omega)
          have t26 := (hT w26 (Below.refl _ _)).1
          have HL := Lib.hid (hT w26 (Below.refl _ _)).2
          have H26 := Lib.hid h26
          clear h26 hT HU
          go_wp2_with fail
          refine HL.out.mono ?_
          rintro e w27 ⟨v27, rfl, h271, h272, h273⟩
          have hb27 := below_then HB2.out HB2.out.size (H26.out.new h273).below
          have hsm := sameL (Ls.of_rw h271) (HV.out.step hb27.size fun b hb _ => hb27.block b hb) (by omega)
          have HSM := Lib.hid hsm
          have HB27 := Lib.hid hb27
          clear h271 h272 h273 hsm hb27 HL t26
          go_wp2_with fail
          refine HSM.out.mono ?_
          rintro e w28 ⟨rfl, hb28⟩
          have HB28 := Lib.hid (below_then HB27.out HB27.out.size hb28)
          clear hb28 HSM
          go_wp2
          go_ret
          exact ⟨rfl, HB28.out⟩
        · have HT := Lib.hid (neq_t H24.out (by omega) (by omega) (by omega) ht h0 hts (by omega) (arg := ⟨#[]⟩))
          go_wp2_with fail
          refine HT.out.mono ?_
          rintro e w25 ⟨v, rfl, rfl, h25⟩
          have hl2 : (Bt.splice xs (k - 1) 1 [flipT 9 t]).length = xs.length := by
            rw [splice_len (by omega)]
            simp only [List.length_singleton]
            omega
          have hz2 := flipT_size 9 t
          have hu := neq_t h25 (by omega) (by omega) (by omega) (t := flipT 9 t) (splice_get (by omega)) (by omega) (by omega) (by omega) (arg := ⟨#[]⟩)
          rw [flipT_twice, splice_twice htx] at hu
          have HU := Lib.hid hu
          clear h25 HT hu hl2
          go_wp2_with fail
          refine HU.out.mono ?_
          rintro e w26 ⟨v, rfl, rfl, h26⟩
          obtain ⟨T, hT⟩ := h26.lines (by omega)
          have t26 := (hT w26 (Below.refl _ _)).1
          have HL := Lib.hid (hT w26 (Below.refl _ _)).2
          have H26 := Lib.hid h26
          clear h26 hT HU
          go_wp2_with fail
          refine HL.out.mono ?_
          rintro e w27 ⟨v27, rfl, h271, h272, h273⟩
          have hb27 := below_then HB2.out HB2.out.size (H26.out.new h273).below
          have hsm := sameL (Ls.of_rw h271) (HV.out.step hb27.size fun b hb _ => hb27.block b hb) (by omega)
          have HSM := Lib.hid hsm
          have HB27 := Lib.hid hb27
          clear h271 h272 h273 hsm hb27 HL t26
          go_wp2_with fail
          refine HSM.out.mono ?_
          rintro e w28 ⟨rfl, hb28⟩
          have HB28 := Lib.hid (below_then HB27.out HB27.out.size hb28)
          clear hb28 HSM
          go_wp2
          go_ret
          exact ⟨rfl, HB28.out⟩
      · clear hq
        have HPU := Lib.hid (H5.out.put (j := k) rfl (by omega) (by omega))
        go_wp2_with fail
        refine HPU.out.mono ?_
        rintro e w21 ⟨rfl, h21⟩
        have HO := Lib.hid (neq_o h21 (by omega) (by omega) (by omega) (arg := s) (by omega) (by omega))
        clear h21 HPU
        go_wp2_with fail
        refine HO.out.mono ?_
        rintro e w22 ⟨v, rfl, rfl, h22⟩
        have hl2 : (Bt.splice xs k 0 [s]).length = xs.length + 1 := by
          rw [splice_len (by omega)]
          rfl
        have hdd := neq_dd h22 (by omega) (c := 0) (j := 0) rfl (by omega) (by omega) (by omega) (by decide) (fun x hx => by
          rcases mem_splice0 hx with hx | rfl
          · exact HFS.out x hx
          · omega) (by rw [sum_splice0]; omega) (by omega) (by decide) (reg := 98) (.inr (by decide)) (arg := ⟨#[]⟩) rfl
        rw [show k + 1 - 1 = k by omega, show Bt.splice (Bt.splice xs k 0 [s]) k (0 + 1) [] = xs from splice_back (X := xs) (Y := [s]) (i := k) (k := 0) (by omega)] at hdd
        have HDD := Lib.hid hdd
        clear h22 HO hl2 hdd
        go_wp2_with fail
        refine HDD.out.mono ?_
        rintro e w23 ⟨v, rfl, rfl, h23⟩
        have HPV := Lib.hid (h23.put (j := k) rfl (by omega) (by omega))
        clear h23 HDD
        go_wp2_with fail
        refine HPV.out.mono ?_
        rintro e w24 ⟨rfl, h24⟩
        have H24 := Lib.hid h24
        clear h24 HPV
        obtain ⟨t, ht⟩ : ∃ t, xs.getD (k - 1) ByteArray.empty = t := ⟨_, rfl⟩
        have htx := getD_at (X := xs) (a := k - 1) (t := t) (by omega) ht
        have hts : t.size ≤ 1000 := HFS.out t (List.mem_of_getElem? htx)
        by_cases h0 : t.size = 0
        · obtain rfl : t = ⟨#[]⟩ := by
            apply ByteArray.ext
            exact Array.eq_empty_of_size_eq_zero h0
          have HT := Lib.hid (neq_t0 H24.out (by omega) (by omega) (by omega) ht (arg := ⟨#[]⟩))
          go_wp2_with fail
          refine HT.out.mono ?_
          rintro e w25 ⟨v, rfl, rfl, h25⟩
          have HU := Lib.hid (neq_t0 h25 (by omega) (by omega) (by omega) ht (arg := ⟨#[]⟩))
          clear h25 HT
          go_wp2_with fail
          refine HU.out.mono ?_
          rintro e w26 ⟨v, rfl, rfl, h26⟩
          obtain ⟨T, hT⟩ := h26.lines (by omega)
          have t26 := (hT w26 (Below.refl _ _)).1
          have HL := Lib.hid (hT w26 (Below.refl _ _)).2
          have H26 := Lib.hid h26
          clear h26 hT HU
          go_wp2_with fail
          refine HL.out.mono ?_
          rintro e w27 ⟨v27, rfl, h271, h272, h273⟩
          have hb27 := below_then HB2.out HB2.out.size (H26.out.new h273).below
          have hsm := sameL (Ls.of_rw h271) (HV.out.step hb27.size fun b hb _ => hb27.block b hb) (by omega)
          have HSM := Lib.hid hsm
          have HB27 := Lib.hid hb27
          clear h271 h272 h273 hsm hb27 HL t26
          go_wp2_with fail
          refine HSM.out.mono ?_
          rintro e w28 ⟨rfl, hb28⟩
          have HB28 := Lib.hid (below_then HB27.out HB27.out.size hb28)
          clear hb28 HSM
          go_wp2
          go_ret
          exact ⟨rfl, HB28.out⟩
        · have HT := Lib.hid (neq_t H24.out (by omega) (by omega) (by omega) ht h0 hts (by omega) (arg := ⟨#[]⟩))
          go_wp2_with fail
          refine HT.out.mono ?_
          rintro e w25 ⟨v, rfl, rfl, h25⟩
          have hl2 : (Bt.splice xs (k - 1) 1 [flipT 9 t]).length = xs.length := by
            rw [splice_len (by omega)]
            simp only [List.length_singleton]
            omega
          have hz2 := flipT_size 9 t
          have hu := neq_t h25 (by omega) (by omega) (by omega) (t := flipT 9 t) (splice_get (by omega)) (by omega) (by omega) (by omega) (arg := ⟨#[]⟩)
          rw [flipT_twice, splice_twice htx] at hu
          have HU := Lib.hid hu
          clear h25 HT hu hl2
          go_wp2_with fail
          refine HU.out.mono ?_
          rintro e w26 ⟨v, rfl, rfl, h26⟩
          obtain ⟨T, hT⟩ := h26.lines (by omega)
          have t26 := (hT w26 (Below.refl _ _)).1
          have HL := Lib.hid (hT w26 (Below.refl _ _)).2
          have H26 := Lib.hid h26
          clear h26 hT HU
          go_wp2_with fail
          refine HL.out.mono ?_
          rintro e w27 ⟨v27, rfl, h271, h272, h273⟩
          have hb27 := below_then HB2.out HB2.out.size (H26.out.new h273).below
          have hsm := sameL (Ls.of_rw h271) (HV.out.step hb27.size fun b hb _ => hb27.block b hb) (by omega)
          have HSM := Lib.hid hsm
          have HB27 := Lib.hid hb27
          clear h271 h272 h273 hsm hb27 HL t26
          go_wp2_with fail
          refine HSM.out.mono ?_
          rintro e w28 ⟨rfl, hb28⟩
          have HB28 := Lib.hid (below_then HB27.out HB27.out.size hb28)
          clear hb28 HSM
          go_wp2
          go_ret
          exact ⟨rfl, HB28.out⟩
  · go_wp2_with (go_at_call 8; refine (known19_any w1).mono ?_; rintro e w2 ⟨rfl, hb2⟩; have HB2 := Lib.hid (below_then HB1.out HB1.out.size hb2); clear hb2)
    go_ret
    exact ⟨rfl, HB2.out⟩
theorem nback_row (W : World) (A : Option Addr) (len cap : Nat) (_l : len ≤ cap) (h : LsAt W (.slice A len cap)) (x1 : Int) (h1 : (Lit.int .i64 x1).wf = true) (x2 : Int) (h2 : (Lit.int .u8 x2).wf = true) (x3 : ByteArray) (h3 : x3.size ≤ 140737488351232) :
    Calls Tryz.prog 5 #[.slice A len cap, .int .i64 x1, .int .u8 x2, .string x3] W fun e w' => e = .returned (.bool true) ∧ Below W.heap.size W w' := by
  obtain ⟨xs, h⟩ := h
  cases hlg : isLong xs
  · exact nback_short h hlg x1 x2 x3 h1 h2
  · exact nback_long h hlg x1 x2 x3
end Go.Proofs.YtdhemdeapphfoaaGreatDoor
