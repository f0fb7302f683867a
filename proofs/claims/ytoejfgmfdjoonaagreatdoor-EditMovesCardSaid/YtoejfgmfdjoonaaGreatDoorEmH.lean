/- The law EditMoves: lines that are deleted and put again where they were leave the text as it was; copied behind themselves they stand twice; moved away and back, too. -/
import Derived.Test.YtoejfgmfdjoonaaGreatDoorEmX
set_option linter.unusedVariables false
set_option linter.unusedSimpArgs false
set_option linter.unusedVariables false
set_option linter.unusedSimpArgs false
namespace Go.Proofs.YtoejfgmfdjoonaaGreatDoor
open Go.RowKit Go.Shelf Go.Maps Go.Proofs.YtoejfgmfdjoonaaGreatDoorW.PrintWords Go.Proofs.YtoejfgmfdjoonaaGreatDoorW.PrintLast

theorem cut_back {X : List ByteArray} {i k : Nat} (h : i + k ≤ X.length) : Bt.splice (Bt.splice X i k []) i 0 ((X.drop i).take k) = X := by
  have := splice_back (X := X) (Y := []) (i := i) (k := k) h
  simpa using this
theorem parts3 {X : List ByteArray} {i k : Nat} (h : i + k ≤ X.length) : ∃ P Y Q, X = P ++ (Y ++ Q) ∧ P.length = i ∧ Y.length = k ∧ (X.drop i).take k = Y :=
  ⟨X.take i, (X.drop i).take k, (X.drop i).drop k, by rw [List.take_append_drop, List.take_append_drop], by rw [List.length_take]; omega, by rw [List.length_take, List.length_drop]; omega, rfl⟩
theorem splice_parts {P Y Z Q : List ByteArray} {i k : Nat} (hi : P.length = i) (hk : Y.length = k) : Bt.splice (P ++ (Y ++ Q)) i k Z = P ++ (Z ++ Q) := by
  subst hi hk
  rw [splice_eq, List.take_left', ← List.append_assoc P Y Q, ← List.length_append, List.drop_left']
  · rfl
  · rfl
/-- copied behind themselves -/
theorem twice_ls {X : List ByteArray} {i k : Nat} (h : i + k ≤ X.length) : ((Bt.splice X (i + k) 0 ((X.drop i).take k)).drop i).take k = (X.drop i).take k ∧ ((Bt.splice X (i + k) 0 ((X.drop i).take k)).drop (i + k)).take k = (X.drop i).take k ∧ Bt.splice (Bt.splice X (i + k) 0 ((X.drop i).take k)) i k [] = X ∧ (Bt.splice X (i + k) 0 ((X.drop i).take k)).length = X.length + k := by
  obtain ⟨P, Y, Q, rfl, rfl, rfl, e⟩ := parts3 h
  rw [e]
  have h1 : Bt.splice (P ++ (Y ++ Q)) (P.length + Y.length) 0 Y = P ++ (Y ++ (Y ++ Q)) := by
    have := splice_parts (P := P ++ Y) (Y := []) (Z := Y) (Q := Q) (List.length_append) rfl
    simpa using this
  rw [h1]
  refine ⟨?_, ?_, splice_parts rfl rfl, by simp; omega⟩
  · rw [List.drop_left', List.take_left'] <;> rfl
  · rw [← List.append_assoc, ← List.length_append, List.drop_left', List.take_left'] <;> rfl
theorem splice_mem {X Y : List ByteArray} {i : Nat} {x : ByteArray} (h : x ∈ Bt.splice X i 0 Y) (hy : ∀ z ∈ Y, z ∈ X) : x ∈ X := by
  rw [splice_eq] at h
  rcases List.mem_append.1 h with h | h
  · exact List.mem_of_mem_take h
  · rcases List.mem_append.1 h with h | h
    · exact hy x h
    · exact List.mem_of_mem_drop h
theorem splice_sum (X : List ByteArray) (i : Nat) (Y : List ByteArray) : sumS (Bt.splice X i 0 Y) ≤ sumS X + sumS Y := by
  have h1 : sumS (X.take i) + sumS (X.drop i) = sumS X := by rw [← sumS_app, List.take_append_drop]
  rw [splice_eq, sumS_app, sumS_app, Nat.add_zero]
  omega
/-- moved to the front, and back -/
theorem moved_ls {X : List ByteArray} {i k : Nat} (h : i + k ≤ X.length) : Bt.splice (Bt.splice X 0 (i + k) (rot X 0 (i + k) i)) 0 (i + k) (rot (Bt.splice X 0 (i + k) (rot X 0 (i + k) i)) 0 (i + k) k) = X := by
  obtain ⟨P, Y, Q, rfl, rfl, rfl, e⟩ := parts3 h
  have h1 : ((P ++ (Y ++ Q)).drop 0).take (P.length + Y.length) = P ++ Y := by
    rw [List.drop_zero, ← List.append_assoc, ← List.length_append, List.take_left']
    rfl
  have h2 : rot (P ++ (Y ++ Q)) 0 (P.length + Y.length) P.length = Y ++ P := by
    rw [rot, h1, List.drop_left', List.take_left'] <;> rfl
  have h3 : Bt.splice (P ++ (Y ++ Q)) 0 (P.length + Y.length) (Y ++ P) = Y ++ (P ++ Q) := by
    have := splice_parts (P := []) (Y := P ++ Y) (Z := Y ++ P) (Q := Q) rfl (List.length_append)
    simpa using this
  rw [h2, h3]
  have h4 : ((Y ++ (P ++ Q)).drop 0).take (P.length + Y.length) = Y ++ P := by
    rw [List.drop_zero, ← List.append_assoc, Nat.add_comm, ← List.length_append, List.take_left']
    rfl
  have h5 : rot (Y ++ (P ++ Q)) 0 (P.length + Y.length) Y.length = P ++ Y := by
    rw [rot, h4, List.drop_left', List.take_left'] <;> rfl
  rw [h5]
  have := splice_parts (P := []) (Y := Y ++ P) (Z := P ++ Y) (Q := Q) (i := 0) (k := P.length + Y.length) rfl (by rw [List.length_append, Nat.add_comm])
  simpa using this

theorem notLong_sub {xs ys : List ByteArray} (h : isLong xs = false) (hm : ∀ x ∈ ys, x ∈ xs) : isLong ys = false := by
  have := notLong h
  unfold isLong
  rw [List.any_eq_false]
  intro x hx
  have := this x (hm x hx)
  simp
  omega

theorem two_moves {N0 : Nat} {wb w : World} {B R mb q m : Nat} {xs : List ByteArray} {Y : Option (List ByteArray)} {a b : Nat} (h : EdL N0 wb w B R mb xs q m Y) (hi : a + (b + 1) ≤ xs.length) (hl : xs.length ≤ 1000) (hsz : ∀ x ∈ xs, x.size ≤ 1000) (hq : q + 1 ≤ 1000000) :
    ∃ X1, (Calls Tryz.prog 10 #[.pointer (some ⟨B, 0, none⟩), .pointer (some ⟨R, 0, none⟩), .agg #[.slice none 0 0, .string ⟨#[109]⟩, .bool false, .int .u8 0, .int .i64 (-1), .slice none 0 0, .string ⟨#[]⟩, .string ⟨#[]⟩, .string ⟨#[]⟩, .string ⟨#[]⟩], .int .i64 (1 + (a : Int)), .int .i64 (1 + (a : Int) + b), .int .i64 0] w fun e w' => e = .returned (.tuple #[.slice none 0 0, .int .u16 0]) ∧ EdL N0 wb w' B R mb X1 (q + 1) m none) ∧ ∀ V (T : Int), T = (b : Int) + 1 → EdL N0 wb V B R mb X1 (q + 1) m none → Calls Tryz.prog 10 #[.pointer (some ⟨B, 0, none⟩), .pointer (some ⟨R, 0, none⟩), .agg #[.slice none 0 0, .string ⟨#[109]⟩, .bool false, .int .u8 0, .int .i64 (-1), .slice none 0 0, .string ⟨#[]⟩, .string ⟨#[]⟩, .string ⟨#[]⟩, .string ⟨#[]⟩], .int .i64 1, .int .i64 T, .int .i64 (1 + (a : Int) + b)] V fun e w' => e = .returned (.tuple #[.slice none 0 0, .int .u16 0]) ∧ EdL N0 wb w' B R mb xs (q + 1 + 1) m none := by
  by_cases ha : a = 0
  · refine ⟨xs, edl_m_same h (i := a) (n := b + 1) (j := 0) (by omega) (by omega) rfl (by omega) (by omega) hi hl (.inl ha.symm) (by omega), fun V T hT hV => edl_m_same hV (i := 0) (n := b + 1) (j := b + 1) (by omega) (by omega) (by omega) (by omega) (by omega) (by omega) hl (.inr (by omega)) hq⟩
  · have hrl := rot_length (ls := xs) (low := 0) (k := a + (b + 1)) (cut := a) (by omega)
    have hX1 : (Bt.splice xs 0 (a + (b + 1)) (rot xs 0 (a + (b + 1)) a)).length = xs.length := by rw [splice_len (by omega), hrl]; omega
    refine ⟨_, edl_m h (i := a) (n := b + 1) (j := 0) (low := 0) (k := a + (b + 1)) (cut := a) (by omega) (by omega) rfl (by omega) (by omega) hi hl hsz (by omega) (by omega) (.inr ⟨by omega, by omega⟩) (by omega) (by omega) (by omega) (by omega), fun V T hT hV => ?_⟩
    have h2 := edl_m hV (i := 0) (n := b + 1) (j := a + (b + 1)) (low := 0) (k := a + (b + 1)) (cut := b + 1) (f := 1) (t := T) (d := 1 + (a : Int) + b) (by omega) (by omega) (by omega) (by omega) (by omega) (by omega) (by omega) (fun x hx => by
      rw [splice_eq] at hx
      rcases List.mem_append.1 hx with hx | hx
      · exact hsz x (List.mem_of_mem_take hx)
      · rcases List.mem_append.1 hx with hx | hx
        · exact hsz x (rot_mem hx)
        · exact hsz x (List.mem_of_mem_drop hx)) (by omega) (by omega) (.inl ⟨by omega, by omega⟩) (by omega) (by omega) (by omega) hq
    rw [moved_ls (by omega)] at h2
    exact h2

set_option maxRecDepth 100000 in
set_option maxHeartbeats 1000000 in
theorem moves16_long {w : World} {G : Nat → Prop} {v : Value} {xs : List ByteArray} (h : Ls w G v xs) (hlg : isLong xs = true) (x y z : Int) :
    Calls Tryz.prog 4 #[v, .int .i64 x, .int .i64 y, .int .i64 z] w fun e w' => e = .returned (.bool true) ∧ Below w.heap.size w w' := by
  have HH := Lib.hid (heavy16n h)
  have HV := Lib.hid h
  obtain ⟨Av, cv, hvs, hcv, hcm, hAv⟩ := id h
  subst hvs
  unfold maxLen at hcm
  clear h
  go_enter Tryz.func4, Tryz.ntmps4
  go_wp2_with fail
  refine HH.out.mono ?_
  rintro e w1 ⟨b, rfl, hb1, hbn⟩
  have HB1 := Lib.hid hb1
  clear hb1
  cases b
  · have hl : xs.length ≤ 300 := hbn rfl
    clear hbn
    by_cases h0 : xs.length < 2
    · have hd : decide ((xs.length : Int) < 2) = true := by simp; omega
      go_wp2_with (go_at_call 9; refine (known16_any w1).mono ?_; rintro e w2 ⟨rfl, hb2⟩; have HB2 := Lib.hid (below_then HB1.out HB1.out.size hb2); clear hb2)
      go_ret
      exact ⟨rfl, HB2.out⟩
    · have hd : decide ((xs.length : Int) < 2) = false := by simp; omega
      go_wp2_with (go_at_call 9; refine (known16_any w1).mono ?_; rintro e w2 ⟨rfl, hb2⟩; have HB2 := Lib.hid (below_then HB1.out HB1.out.size hb2); clear hb2)
      have hv2 := HV.out.step HB2.out.size fun b hb _ => HB2.out.block b hb
      have hnw := bnew_long (m := 50) hv2 (by decide) (by decide) (by omega) hlg
      have HNW := Lib.hid hnw
      clear hnw hv2
      refine HNW.out.mono ?_
      rintro e w3 ⟨rfl, hb3⟩
      have HB3 := Lib.hid (below_then HB2.out HB2.out.size hb3)
      clear hb3
      go_wp2_with (go_at_call 8; refine (regsNew_any w3).mono ?_; rintro e w4 ⟨⟨R, rfl⟩, hb4⟩; have HB4 := Lib.hid (below_then HB3.out HB3.out.size hb4); clear hb4)
      go_ret
      exact ⟨rfl, HB4.out⟩
  · go_wp2_with (go_at_call 9; refine (known16_any w1).mono ?_; rintro e w2 ⟨rfl, hb2⟩; have HB2 := Lib.hid (below_then HB1.out HB1.out.size hb2); clear hb2)
    go_ret
    exact ⟨rfl, HB2.out⟩

set_option maxRecDepth 100000 in
set_option maxHeartbeats 30000000 in
theorem moves16_short {w : World} {G : Nat → Prop} {v : Value} {xs : List ByteArray} (h : Ls w G v xs) (hlg : isLong xs = false) (x y z : Int) (hx1 : (Lit.int .i64 x).wf = true) (hy1 : (Lit.int .i64 y).wf = true) :
    Calls Tryz.prog 4 #[v, .int .i64 x, .int .i64 y, .int .i64 z] w fun e w' => e = .returned (.bool true) ∧ Below w.heap.size w w' := by
  have hs := notLong hlg
  have HH := Lib.hid (heavy16s h hs)
  have HV := Lib.hid h
  obtain ⟨Av, cv, hvs, hcv, hcm, hAv⟩ := id h
  subst hvs
  unfold maxLen at hcm
  have bx := bounds64 hx1
  have by_ := bounds64 hy1
  have HFS := Lib.hid hs
  clear h hx1 hy1 hs
  go_enter Tryz.func4, Tryz.ntmps4
  go_wp2_with fail
  refine HH.out.mono ?_
  rintro e w1 ⟨b, rfl, hb1, hbn⟩
  have HB1 := Lib.hid hb1
  clear hb1
  cases b
  · obtain ⟨hl, hsum⟩ := hbn rfl
    clear hbn
    by_cases h0 : xs.length < 2
    · have hd : decide ((xs.length : Int) < 2) = true := by simp; omega
      go_wp2_with (go_at_call 9; refine (known16_any w1).mono ?_; rintro e w2 ⟨rfl, hb2⟩; have HB2 := Lib.hid (below_then HB1.out HB1.out.size hb2); clear hb2)
      go_ret
      exact ⟨rfl, HB2.out⟩
    · have hd : decide ((xs.length : Int) < 2) = false := by simp; omega
      obtain ⟨gv, ov, rfl, _⟩ := hAv (by omega)
      obtain ⟨a, ha, ha1⟩ := rem_nat x (m := (xs.length : Int)) (by omega)
      have hn1 : ¬ ((xs.length : Int) = 0) := by omega
      have hn0 : ¬ ((xs.length : Int) - (1 + a) + 1 = 0) := by omega
      obtain ⟨b, hb, hb1⟩ := rem_nat y (m := (xs.length : Int) - (1 + a) + 1) (by omega)
      go_wp2_with (go_at_call 9; refine (known16_any w1).mono ?_; rintro e w2 ⟨rfl, hb2⟩; have HB2 := Lib.hid (below_then HB1.out HB1.out.size hb2); clear hb2)
      have hv2 := HV.out.step HB2.out.size fun b hb _ => HB2.out.block b hb
      have hne : xs ≠ [] := fun e => by rw [e] at h0; simp at h0
      have hnw := bnew_any (m := 50) hv2 (by decide) (by decide) (by omega) hlg (fun x hx => by have := HFS.out x hx; omega)
      rw [show fullS xs = xs from if_neg hne] at hnw
      have HNW := Lib.hid hnw
      clear hnw hv2 hne
      refine HNW.out.mono ?_
      rintro e w3 ⟨B, rfl, b3⟩
      have H3 := Lib.hid b3
      clear b3 HNW
      by_cases hkn : b + 1 = xs.length
      · have q3 : (b : Int) + 1 = xs.length := by omega
        have q1 : ((b : Int) + 1 == xs.length) = true := by rw [beq_iff_eq]; omega
        have q2 : (1 + (a : Int) + b - (1 + a) + 1 == xs.length) = true := by rw [beq_iff_eq]; omega
        go_wp2_with (first
          | (go_at_call 8; refine (regsNew_rg w3).mono ?_; rintro e w4 ⟨⟨R, mb, rfl, hrg, hR, hmb⟩, hb4⟩; have H4a := Lib.hid (And.intro (H3.out.guard hb4) (And.intro hrg (And.intro hR (And.intro hmb H3.out.below.size)))); clear hb4 hrg hR hmb))
        have H4 := Lib.hid (show EdL w2.heap.size w2 w4 B R mb xs 0 0 none from ⟨⟨w2, fun b => False ∨ (w3.heap.size ≤ b ∧ b < w4.heap.size), w4⟩, newS 50 xs, 0, fun _ => none, rfl, ⟨H4a.out.1, H4a.out.2.1, fun y v h => (by cases h), .inr ⟨H4a.out.2.2.1, H4a.out.2.1.ltR⟩, .inr ⟨H4a.out.2.2.2.1, H4a.out.2.1.ltM⟩, Nat.le_trans H4a.out.2.2.2.2 H4a.out.2.2.2.1⟩, rfl, Nat.le_refl _, rfl, Nat.le_refl _, fun _ h => (by cases h)⟩)
        go_ret
        exact ⟨rfl, below_then HB2.out HB2.out.size H4.out.below⟩
      · have q3 : ¬ ((b : Int) + 1 = xs.length) := by omega
        have q1 : ((b : Int) + 1 == xs.length) = false := by rw [beq_eq_false_iff_ne]; omega
        have q2 : (1 + (a : Int) + b - (1 + a) + 1 == xs.length) = false := by rw [beq_eq_false_iff_ne]; omega
        go_wp2_with (first
          | (go_at_call 8; refine (regsNew_rg w3).mono ?_; rintro e w4 ⟨⟨R, mb, rfl, hrg, hR, hmb⟩, hb4⟩; have H4a := Lib.hid (And.intro (H3.out.guard hb4) (And.intro hrg (And.intro hR (And.intro hmb H3.out.below.size)))); clear hb4 hrg hR hmb))
        have H4 := Lib.hid (show EdL w2.heap.size w2 w4 B R mb xs 0 0 none from ⟨⟨w2, fun b => False ∨ (w3.heap.size ≤ b ∧ b < w4.heap.size), w4⟩, newS 50 xs, 0, fun _ => none, rfl, ⟨H4a.out.1, H4a.out.2.1, fun y v h => (by cases h), .inr ⟨H4a.out.2.2.1, H4a.out.2.1.ltR⟩, .inr ⟨H4a.out.2.2.2.1, H4a.out.2.1.ltM⟩, Nat.le_trans H4a.out.2.2.2.2 H4a.out.2.2.2.1⟩, rfl, Nat.le_refl _, rfl, Nat.le_refl _, fun _ h => (by cases h)⟩)
        have hln : ((xs.drop a).take (b + 1)).length = b + 1 := by rw [List.length_take, List.length_drop]; omega
        have h1d := edl_d H4.out (m := 0) (by decide) (i := a) (n := b + 1) (f := 1 + (a : Int)) (t := 1 + (a : Int) + b) (d := 0) (by omega) (by omega) (by omega) (by omega) (by omega) (by omega) (by omega) HFS.out (by omega) (by omega)
        have H1D := Lib.hid h1d
        clear h1d
        go_wp2_with fail
        refine H1D.out.mono ?_
        rintro e w5 ⟨rfl, ed5⟩
        obtain ⟨ys, hys⟩ : ∃ ys, (xs.drop a).take (b + 1) = ys := ⟨_, rfl⟩
        rw [hys] at ed5 hln
        have hmem : ∀ x ∈ ys, x ∈ xs := fun x hx => List.mem_of_mem_drop (List.mem_of_mem_take (hys ▸ hx))
        have hylg : isLong ys = false := notLong_sub hlg hmem
        have hcl : (Bt.splice xs a (b + 1) []).length = xs.length - (b + 1) := by rw [splice_len (by omega)]; simp
        have hcb := cut_back (X := xs) (i := a) (k := b + 1) (by omega)
        rw [hys] at hcb
        have h2p := edl_pu ed5 (by omega) (by omega) (by omega) hylg (fun x hx => HFS.out x (hmem x hx)) (i := a) (f := 1 + (a : Int) - 1) (t := 1 + (a : Int) - 1) (d := 0) (by omega) (by omega) (by omega) (by omega) (by omega)
        rw [hcb] at h2p
        have H2P := Lib.hid h2p
        have HYS := Lib.hid (And.intro hys (And.intro hln (And.intro hmem hylg)))
        clear h2p hcb hcl hylg hmem hln hys ed5 H1D
        go_wp2_with fail
        refine H2P.out.mono ?_
        rintro e w6 ⟨rfl, ed6⟩
        have HE6 := Lib.hid ed6
        clear ed6 H2P
        obtain ⟨T6, hT6⟩ := HE6.out.lines (by omega)
        obtain ⟨c6, l6⟩ := hT6 w6 (Below.refl _ _)
        have L6 := Lib.hid l6
        clear hT6 l6
        go_wp2_with fail
        refine L6.out.mono ?_
        rintro e w7 ⟨v7, rfl, h71, h72, h73⟩
        obtain ⟨A7, c7, hv7, _⟩ := h71.slice
        rw [cS_len] at hv7
        subst hv7
        have hB7 := below_then (below_then HB2.out HB2.out.size HE6.out.below) (Nat.le_trans HB2.out.size HE6.out.below.size) h73
        have HSM := Lib.hid (sameL (Ls.of_rw h71) (HV.out.step hB7.size fun b hb _ => hB7.block b hb) (show xs.length ≤ 1000000000 by omega))
        have HE7 := Lib.hid (HE6.out.new h73)
        clear h71 h72 h73 hB7 L6 c6 HE6
        go_wp2_with fail
        refine HSM.out.mono ?_
        rintro e w8 ⟨rfl, hb8⟩
        obtain ⟨hys, hln, hmem, hylg⟩ := HYS.out
        have h3t := edl_t (HE7.out.new hb8) (i := a) (n := b + 1) (j := a + (b + 1)) (f := 1 + (a : Int)) (t := 1 + (a : Int) + b) (d := 1 + (a : Int) + b) (by omega) (by omega) (by omega) (by omega) (by omega) (by omega) (by omega) (by rw [hys]; exact hylg) HFS.out (by omega)
        have H3T := Lib.hid h3t
        clear hb8 h3t hys hln hmem hylg HSM HE7
        go_wp2_with fail
        refine H3T.out.mono ?_
        rintro e w9 ⟨rfl, ed9⟩
        obtain ⟨t1, t2, t3, t4⟩ := twice_ls (X := xs) (i := a) (k := b + 1) (by omega)
        obtain ⟨X9, hX9⟩ : ∃ X9, Bt.splice xs (a + (b + 1)) 0 ((xs.drop a).take (b + 1)) = X9 := ⟨_, rfl⟩
        have t5 : ∀ x ∈ Bt.splice xs (a + (b + 1)) 0 ((xs.drop a).take (b + 1)), x.size ≤ 1000 := fun x hx => HFS.out x (splice_mem hx fun z hz => List.mem_of_mem_drop (List.mem_of_mem_take hz))
        have t6 : sumS (Bt.splice xs (a + (b + 1)) 0 ((xs.drop a).take (b + 1))) ≤ 20000 := Nat.le_trans (splice_sum xs (a + (b + 1)) _) (by have := sumS_sub xs a (b + 1); omega)
        rw [hX9] at ed9 t1 t2 t3 t4 t5 t6
        have HE9 := Lib.hid ed9
        have HT9 := Lib.hid (And.intro t1 (And.intro t2 (And.intro t3 (And.intro t4 (And.intro t5 t6)))))
        clear ed9 t1 t2 t3 t5 t6 hX9 H3T
        obtain ⟨T9, hT9⟩ := HE9.out.lines (by omega)
        obtain ⟨c9, l9⟩ := hT9 w9 (Below.refl _ _)
        have L9 := Lib.hid l9
        clear hT9 l9
        go_wp2_with fail
        refine L9.out.mono ?_
        rintro e wa ⟨va, rfl, ha1, ha2, ha3⟩
        obtain ⟨Aa, ca, hva, hca, hma, hAa⟩ := ha1.slice
        rw [cS_len] at hva hca hAa
        obtain ⟨ga, rfl⟩ := hAa (by omega)
        subst hva
        have hca : X9.length ≤ ca := hca
        have t4 := HT9.out.2.2.2.1
        have hla := Ls.of_rw ha1
        have HEa := Lib.hid (HE9.out.new ha3)
        have HLA := Lib.hid hla
        unfold maxLen at hma
        clear ha1 ha2 ha3 hla L9 c9 HE9
        have z0 : (X9.length : Int) = xs.length + (1 + a + b) - (1 + a) + 1 := by omega
        have z1 : ((X9.length : Int) != xs.length + (1 + a + b) - (1 + a) + 1) = false := by rw [bne_eq_false_iff_eq]; exact z0
        have z2 : ((X9.length : Int) == xs.length + (1 + a + b) - (1 + a) + 1) = true := by rw [beq_iff_eq]; exact z0
        have q0 : ¬ (ca = a) := by omega
        obtain ⟨p, hp⟩ : ∃ p : Nat, (1 + (a : Int) + b).toNat = p := ⟨_, rfl⟩
        obtain ⟨q, hq⟩ : ∃ q : Nat, (1 + (a : Int) + b + (1 + a + b) - (1 + a) + 1).toNat = q := ⟨_, rfl⟩
        have q7 : ¬ (ca = p) := by omega
        have q8 : (0 : Int) ≤ 1 + a + b := by omega
        have q9 : (0 : Int) ≤ 1 + a + b + (1 + a + b) - (1 + a) + 1 := by omega
        have q2 : (a : Int) ≤ 1 + a + b := by omega
        have q3 : 1 + (a : Int) + b ≤ ca := by omega
        have q5 : 1 + (a : Int) + b ≤ 1 + a + b + (1 + a + b) - (1 + a) + 1 := by omega
        have q6 : 1 + (a : Int) + b + (1 + a + b) - (1 + a) + 1 ≤ ca := by omega
        have iw0 := iw (1 + (a : Int) - 1) a (by omega) (by omega) (by omega)
        have iw1 := iw ((xs.length : Int) + (1 + a + b)) (xs.length + (1 + a + b)) rfl (by omega) (by omega)
        have iw2 := iw ((xs.length : Int) + (1 + a + b) - (1 + a)) (xs.length + (1 + a + b) - (1 + a)) rfl (by omega) (by omega)
        have iw3 := iw ((xs.length : Int) + (1 + a + b) - (1 + a) + 1) X9.length z0.symm (by omega) (by omega)
        have iw4 := iw (1 + (a : Int) + b + (1 + a + b)) (1 + a + b + (1 + a + b)) rfl (by omega) (by omega)
        have iw5 := iw (1 + (a : Int) + b + (1 + a + b) - (1 + a)) (1 + a + b + (1 + a + b) - (1 + a)) rfl (by omega) (by omega)
        have iw6 := iw (1 + (a : Int) + b + (1 + a + b) - (1 + a) + 1) (1 + a + b + (1 + a + b) - (1 + a) + 1) rfl (by omega) (by omega)
        have hsm : ∀ V, Below wa.heap.size wa V → Calls Tryz.prog 11 #[.slice (some ⟨ga, a, none⟩) (p - a) (ca - a), .slice (some ⟨ga, p, none⟩) (q - p) (ca - p)] V fun e w' => e = .returned (.bool true) ∧ Below V.heap.size V w' := fun V hb => by
          have hv9 := HLA.out.step hb.size fun c hc _ => hb.block c hc
          have s1 := hv9.sub0 (i := a) (m := b + 1) (by omega)
          have s2 := hv9.sub0 (i := a + (b + 1)) (m := b + 1) (by omega)
          rw [HT9.out.1] at s1
          rw [HT9.out.2.1] at s2
          rw [show p - a = b + 1 by omega, show q - p = b + 1 by omega, show p = a + (b + 1) by omega]
          exact sameL s1 s2 (by rw [List.length_take]; omega)
        have HSM := Lib.hid hsm
        have HBC := Lib.hid ((Below.refl wa.heap.size wa).drew)
        clear hsm
        go_wp2_with fail
        go_region_held3 (fun _ => True) (trivial) (first | (go_at_call 11; (with_reducible refine (HSM.out _ HBC.out).mono ?_); rintro e wb ⟨rfl, hbb⟩; have HBC := Lib.hid (below_then HBC.out HBC.out.size hbb); clear hbb))
        have h4d := edl_d (HEa.out.new HBC.out) (by decide) (i := a) (n := b + 1) (f := 1 + (a : Int)) (t := 1 + (a : Int) + b) (d := 0) (by omega) (by omega) (by omega) (by omega) (by omega) (by omega) (by omega) HT9.out.2.2.2.2.1 HT9.out.2.2.2.2.2 (by omega)
        rw [HT9.out.2.2.1] at h4d
        have H4D := Lib.hid h4d
        clear h4d
        go_wp2_with fail
        refine H4D.out.mono ?_
        rintro e wc ⟨rfl, edc⟩
        have HEc := Lib.hid edc
        clear edc H4D z0 z1 z2 q0 q2 q3 q5 q6 q7 q8 q9 hp hq iw0 iw1 iw2 iw3 iw4 iw5 iw6
        obtain ⟨X1, h5, h6⟩ := two_moves (a := a) (b := b) HEc.out (by omega) (by omega) HFS.out (by omega)
        have H5 := Lib.hid h5
        have H6 := Lib.hid h6
        clear h5 h6
        go_wp2_with fail
        refine H5.out.mono ?_
        rintro e wd ⟨rfl, edd⟩
        have HEd := Lib.hid edd
        clear edd H5
        go_wp2_with fail
        refine (H6.out _ _ (by omega) HEd.out).mono ?_
        rintro e we ⟨rfl, ede⟩
        obtain ⟨Te, hTe⟩ := ede.lines (by omega)
        obtain ⟨ce, le_⟩ := hTe we (Below.refl _ _)
        have LE := Lib.hid le_
        have HEe := Lib.hid ede
        clear hTe le_ ede H6 HEd
        go_wp2_with fail
        refine LE.out.mono ?_
        rintro e wf ⟨vf, rfl, hf1, hf2, hf3⟩
        obtain ⟨Af, cf, hvf, _⟩ := hf1.slice
        rw [cS_len] at hvf
        subst hvf
        have hBf := below_then (below_then HB2.out HB2.out.size HEe.out.below) (Nat.le_trans HB2.out.size HEe.out.below.size) hf3
        have HSN := Lib.hid (sameL (Ls.of_rw hf1) (HV.out.step hBf.size fun b hb _ => hBf.block b hb) (show xs.length ≤ 1000000000 by omega))
        have HBf := Lib.hid hBf
        clear hf1 hf2 hf3 hBf LE ce HEe
        go_wp2_with fail
        refine HSN.out.mono ?_
        rintro e wg ⟨rfl, hbg⟩
        have HBg := Lib.hid (below_then HBf.out HBf.out.size hbg)
        clear hbg
        go_wp2
        go_ret
        exact ⟨rfl, HBg.out⟩
  · go_wp2_with (go_at_call 9; refine (known16_any w1).mono ?_; rintro e w2 ⟨rfl, hb2⟩; have HB2 := Lib.hid (below_then HB1.out HB1.out.size hb2); clear hb2)
    go_ret
    exact ⟨rfl, HB2.out⟩
theorem moves16_row (W : World) (A : Option Addr) (len cap : Nat) (_l : len ≤ cap) (h : LsAt W (.slice A len cap)) (x1 : Int) (h1 : (Lit.int .i64 x1).wf = true) (x2 : Int) (h2 : (Lit.int .i64 x2).wf = true) (x3 : Int) (h3 : (Lit.int .i64 x3).wf = true) :
    Calls Tryz.prog 4 #[.slice A len cap, .int .i64 x1, .int .i64 x2, .int .i64 x3] W fun e w' => e = .returned (.bool true) ∧ Below W.heap.size W w' := by
  obtain ⟨xs, h⟩ := h
  cases hlg : isLong xs
  · exact moves16_short h hlg x1 x2 x3 h1 h2
  · exact moves16_long h hlg x1 x2 x3
end Go.Proofs.YtoejfgmfdjoonaaGreatDoor
