/- The law EditJoinsAll: bold, lines are joined byte by byte; else with one blank at most between, and no byte of theirs but blanks is lost. -/
import Derived.Test.YtoejfgmfdjoonaaGreatDoorEjE
set_option linter.unusedVariables false
set_option linter.unusedSimpArgs false
namespace Go.Proofs.YtoejfgmfdjoonaaGreatDoor
open Go.RowKit Go.Shelf Go.Maps Go.Proofs.YtoejfgmfdjoonaaGreatDoorW.PrintWords Go.Proofs.YtoejfgmfdjoonaaGreatDoorW.PrintLast

theorem catAll_snoc (s : ByteArray) (l : List ByteArray) (x : ByteArray) : catAll s (l ++ [x]) = catAll s l ++ x := by
  unfold catAll
  rw [List.foldl_append]
  rfl
theorem catAll_size (m : Nat) : ∀ (l : List ByteArray) (s : ByteArray), (∀ x ∈ l, x.size ≤ m) → (catAll s l).size ≤ s.size + l.length * m
  | [], s, _ => by simp [catAll]
  | x :: l, s, h => by
    have h1 := catAll_size m l (s ++ x) (fun y hy => h y (List.mem_cons_of_mem _ hy))
    have h3 := h x (List.mem_cons_self ..)
    have h4 : (s ++ x).size = s.size + x.size := by simp
    show (catAll (s ++ x) l).size ≤ _
    rw [List.length_cons, Nat.add_mul, Nat.one_mul]
    omega
theorem catAll_cons (x : ByteArray) (l : List ByteArray) : catAll ⟨#[]⟩ (x :: l) = catAll x l := by
  show catAll (⟨#[]⟩ ++ x) l = _
  rw [ba_empty_append]

theorem splice_at {X : List ByteArray} {a k : Nat} {J : ByteArray} (h : a ≤ X.length) : (Bt.splice X a k [J]).getD a ByteArray.empty = J := by
  have h1 : (X.take a).length = a := by rw [List.length_take]; omega
  rw [splice_eq, List.getD_eq_getElem?_getD, List.getElem?_append_right (by omega), h1, Nat.sub_self]
  rfl

set_option maxRecDepth 100000 in
set_option maxHeartbeats 3000000 in
theorem joinsall_walk {w : World} {G : Nat → Prop} {v : Value} {xs : List ByteArray} (h : Ls w G v xs) (x y : Int) (hx1 : (Lit.int .i64 x).wf = true) (hy1 : (Lit.int .i64 y).wf = true) (bold : Bool) :
    Calls Tryz.prog 5 #[v, .int .i64 x, .int .i64 y, .bool bold] w fun e w' => e = .returned (.bool true) ∧ Below w.heap.size w w' := by
  have HH := Lib.hid (heavy16 h)
  have HV := Lib.hid h
  obtain ⟨Av, cv, hvs, hcv, hcm, hAv⟩ := id h
  subst hvs
  unfold maxLen at hcm
  have bx := bounds64 hx1
  have by_ := bounds64 hy1
  clear h hx1 hy1
  go_enter Tryz.func5, Tryz.ntmps5
  go_wp2_with fail
  refine HH.out.mono ?_
  rintro e w1 ⟨b, rfl, hb1, hbn⟩
  have HB1 := Lib.hid hb1
  clear hb1
  cases b
  · have hl : xs.length ≤ 300 := hbn rfl
    clear hbn
    by_cases h0 : xs.length < 2
    · have hd : decide ((xs.length : Int) < 2) = true := by simp; omega
      go_wp2_with (go_at_call 9; refine (known16_any w1).mono ?_; rintro e w2 ⟨rfl, hb2⟩; have HB2 := Lib.hid (below_then HB1.out HB1.out.size hb2); clear hb2)
      go_ret
      exact ⟨rfl, HB2.out⟩
    · have hd : decide ((xs.length : Int) < 2) = false := by simp; omega
      obtain ⟨gv, ov, rfl, _⟩ := hAv (by omega)
      obtain ⟨a, ha, ha1⟩ := rem_nat x (m := (xs.length : Int) - 1) (by omega)
      have hn1 : ¬ ((xs.length : Int) - 1 = 0) := by omega
      have hn0 : ¬ ((xs.length : Int) - (1 + a) = 0) := by omega
      obtain ⟨b, hb, hb1⟩ := rem_nat y (m := (xs.length : Int) - (1 + a)) (by omega)
      go_wp2_with (go_at_call 9; refine (known16_any w1).mono ?_; rintro e w2 ⟨rfl, hb2⟩; have HB2 := Lib.hid (below_then HB1.out HB1.out.size hb2); clear hb2)
      have hv2 := HV.out.step HB2.out.size fun b hb _ => HB2.out.block b hb
      cases hlg : isLong xs
      · have hs := notLong hlg
        have hne : xs ≠ [] := fun e => by rw [e] at h0; simp at h0
        have hnw := bnew_any (m := 9) hv2 (by decide) (by decide) (by omega) hlg (fun x hx => by have := hs x hx; omega)
        rw [show fullS xs = xs from if_neg hne] at hnw
        have HNW := Lib.hid hnw
        have HFS := Lib.hid hs
        clear hnw hs hv2 hne
        refine HNW.out.mono ?_
        rintro e w3 ⟨B, rfl, b3⟩
        have H3 := Lib.hid b3
        clear b3 HNW
        go_wp2_with (first
          | (go_at_call 8; refine (regsNew_any w3).mono ?_; rintro e w4 ⟨⟨R, rfl⟩, hb4⟩; have H4 := Lib.hid (H3.out.new hb4); clear hb4))
        obtain ⟨l0, rest, hL⟩ : ∃ l0 rest, (xs.drop a).take (b + 2) = l0 :: rest := by
          cases hc : (xs.drop a).take (b + 2) with
          | nil =>
            have h9 := congrArg List.length hc
            rw [List.length_take, List.length_drop] at h9
            simp at h9
            omega
          | cons l0 rest => exact ⟨l0, rest, rfl⟩
        have hLl : rest.length + 1 = b + 2 := by
          have h9 := congrArg List.length hL
          rw [List.length_take, List.length_drop, List.length_cons] at h9
          omega
        have hmem : ∀ x ∈ l0 :: rest, x.size ≤ 1000 := fun x hx => HFS.out x (List.mem_of_mem_drop (List.mem_of_mem_take (hL ▸ hx)))
        have hJs := joinAll_size bold 1000 rest l0 (fun x hx => hmem x (List.mem_cons_of_mem _ hx))
        have hAs := catAll_size 1000 rest l0 (fun x hx => hmem x (List.mem_cons_of_mem _ hx))
        have hl0 := hmem l0 (List.mem_cons_self ..)
        have hJs2 : (joinAll bold l0 rest).size ≤ 1000000 := by
          have := Nat.mul_le_mul_right 1001 (show rest.length ≤ 300 by omega)
          omega
        have hAs2 : (catAll l0 rest).size ≤ 1000000 := by
          have := Nat.mul_le_mul_right 1000 (show rest.length ≤ 300 by omega)
          omega
        have hbare := bare_all bold rest l0 l0 rfl
        have hbold : bold = true → joinAll bold l0 rest = catAll l0 rest := fun e => by rw [e]; exact join_bold l0 rest
        have hdo := do_j H4.out (R := R) (i := a) (n := b + 2) (f := 1 + (a : Int)) (t := 1 + (a : Int) + 1 + b) (d := 0) (bold := bold) (by omega) (by omega) (by omega) (show a + (b + 2) ≤ xs.length by omega) (show xs.length ≤ 300 from hl) (fun x hx => HFS.out x hx) (show 0 ≤ 1000000 by decide) (show 0 < maxLen by decide) hL
        obtain ⟨J, hJ⟩ : ∃ J, joinAll bold l0 rest = J := ⟨_, rfl⟩
        rw [hJ] at hdo hJs2 hbare hbold
        have HDO := Lib.hid hdo
        have HPL := Lib.hid (And.intro hL (And.intro hLl (And.intro hmem (And.intro hJs2 (And.intro hAs2 (And.intro hbare hbold))))))
        clear hL hLl hmem hJs hAs hl0 hJs2 hAs2 hbare hbold hdo hJ
        refine HDO.out.mono ?_
        rintro e w5 ⟨w0', hw0, (⟨hJ, rfl, b5⟩ | ⟨hJ, rfl, b5⟩)⟩
        · have hB5 := below_then HB2.out HB2.out.size (show Below w2.heap.size w2 w5 from (show w0'.w = w2 from hw0) ▸ b5.below)
          have hsl : (putS (spliceS (newS 9 xs) a (b + 2) [J]) ((a : Int) + 1)).ls = Bt.splice xs a (b + 2) [J] := rfl
          have hsn : (Bt.splice xs a (b + 2) [J]).length = xs.length - (b + 2) + 1 := splice_len (by omega)
          have hline := line_any b5 (n := a) (a := 1 + (a : Int)) (by rw [hsl, hsn]; omega) (by rw [hsl, hsn]; omega) (by omega)
          rw [hsl, splice_at (by omega)] at hline
          obtain ⟨T5, hlen⟩ := b5.lenW
          rw [hsl, hsn] at hlen
          have hcu := cursor_any b5
          have hcur : (putS (spliceS (newS 9 xs) a (b + 2) [J]) ((a : Int) + 1)).cur = 1 + (a : Int) := by
            show min (max ((a : Int) + 1) 1) (((Bt.splice xs a (b + 2) [J]).length : Nat) : Int) = _
            rw [hsn]
            omega
          have HLN := Lib.hid hline
          have HLE := Lib.hid hlen
          have HC5 := Lib.hid (And.intro b5 hcur)
          have HB5 := Lib.hid hB5
          clear hline hlen hcu hcur hw0 b5 hsl hsn
          go_wp2_with (go_at_call 14; refine HLN.out.mono ?_; rintro e w6 ⟨rfl, q6, rfl⟩)
          have hcell : ∀ (j : Nat) x, xs[j]? = some x → (w5.drewN q6).cell? ⟨gv, ov + j, none⟩ = some (.string x) := fun j x hj => by
            have h9 := HV.out.step HB5.out.size fun b hb _ => HB5.out.block b hb
            obtain ⟨A9, c9, e9, _, _, h9⟩ := h9
            obtain ⟨b9, o9, e8, _, _, h9⟩ := h9 (by omega)
            injection e9 with e9 _ _
            rw [e8] at e9
            injection e9 with e9
            injection e9 with e1 e2 _
            subst e1
            subst e2
            exact h9 j x hj
          have HCE := Lib.hid hcell
          clear hcell
          go_loop [19, 20] (fun v19 v20 => ∃ j : Nat, v20 = .int .i64 (1 + (a : Int) + j) ∧ j ≤ b + 2 ∧ v19 = .string (catAll ⟨#[]⟩ ((l0 :: rest).take j))) (fun _ v20 => (1 + a + b + 2) - (intOf v20).toNat)
          case atStart => exact ⟨0, by simp, Nat.zero_le _, by simp [catAll]⟩
          case round =>
            obtain ⟨j, rfl, hj, rfl⟩ := hrel
            by_cases hlt : j < b + 2
            · have hlt' : 1 + (a : Int) + j ≤ 1 + a + 1 + b := by omega
              obtain ⟨x, hx⟩ : ∃ x, (l0 :: rest)[j]? = some x := ⟨_, List.getElem?_eq_getElem (by rw [List.length_cons, HPL.out.2.1]; exact hlt)⟩
              have hxx : xs[a + j]? = some x := by
                rw [← HPL.out.1, List.getElem?_take_of_lt hlt, List.getElem?_drop] at hx
                exact hx
              have hc := HCE.out (a + j) x hxx
              have hxm : x ∈ l0 :: rest := List.mem_of_getElem? hx
              have htk : (l0 :: rest).take (j + 1) = (l0 :: rest).take j ++ [x] := by
                obtain ⟨e1, e2⟩ := List.getElem?_eq_some_iff.1 hx
                rw [List.take_succ_eq_append_getElem e1, e2]
              have hsn := catAll_snoc ⟨#[]⟩ ((l0 :: rest).take j) x
              rw [← htk] at hsn
              have hz1 := catAll_size 1000 ((l0 :: rest).take j) ⟨#[]⟩ (fun y hy => HPL.out.2.2.1 y (List.mem_of_mem_take hy))
              have hz2 := HPL.out.2.2.1 x hxm
              have hz3 : (catAll ⟨#[]⟩ ((l0 :: rest).take j)).size ≤ 1000000 := by
                have h8 : ((l0 :: rest).take j).length ≤ 302 := by rw [List.length_take]; omega
                have h9 := Nat.mul_le_mul_right 1000 h8
                have h7 : (⟨#[]⟩ : ByteArray).size = 0 := rfl
                omega
              have HSN := Lib.hid hsn
              have q1 : (0 : Int) ≤ a + j := by omega
              have q2 : (a : Int) + j < xs.length := by omega
              have q3 : 1 + (a : Int) + j - 1 = ((a + j : Nat) : Int) := by omega
              clear hx hxx hxm htk hsn hz1
              go_wp2
              go_round
              case rel => exact ⟨j + 1, by rw [show (1 + (a : Int) + ((j + 1 : Nat) : Int)) = 1 + a + j + 1 by omega], by omega, by rw [HSN.out]⟩
              case measure => simp [intOf]; omega
            · obtain rfl : j = b + 2 := by omega
              have hlt' : ¬ (1 + (a : Int) + ((b + 2 : Nat) : Int) ≤ 1 + a + 1 + b) := by omega
              have hall : catAll ⟨#[]⟩ ((l0 :: rest).take (b + 2)) = catAll l0 rest := by
                rw [List.take_of_length_le (by rw [List.length_cons, HPL.out.2.1]; exact Nat.le_refl _), catAll_cons]
              rw [hall]
              obtain ⟨_, _, _, p4, p5, p6, p7⟩ := HPL.out
              obtain ⟨A, hA⟩ : ∃ A, catAll l0 rest = A := ⟨_, rfl⟩
              rw [hA] at p5 p6 p7 ⊢
              have hbA := fun W => bare_any A (by omega) W
              rw [← p6] at hbA
              have HBA := Lib.hid hbA
              have HBJ := Lib.hid (fun W => bare_any J (by omega) W)
              have hcu : ∀ q, Calls Tryz.prog 17 #[.pointer (some ⟨B, 0, none⟩)] (w5.drewN q) fun e w' => e = .returned (.int .i64 (1 + (a : Int))) ∧ w' = w5.drewN q := fun q => by
                have h9 := cursor_any (HC5.out.1.new (below_drewN w5 q))
                rw [HC5.out.2] at h9
                exact h9
              have HCU := Lib.hid hcu
              obtain ⟨k0, hle0⟩ := HLE.out (w5.drewN q6) (below_drewN w5 q6)
              have HLE0 := Lib.hid hle0
              have hfin : ((xs.length - (b + 2) + 1 : Nat) : Int) = xs.length - (1 + a + 1 + b - (1 + a)) := by omega
              have HP7 := Lib.hid p7
              clear hcu hle0 hbA p4 p5 p6 p7 hA hall hlt
              cases bold
              · go_wp2_with (first
                  | (go_at_call 15; refine HLE0.out.mono ?_; rintro e wa ⟨rfl, n1, rfl⟩)
                  | (go_at_call 16; with_reducible refine (HBJ.out _).mono ?_; rintro e wb ⟨rfl, rfl⟩)
                  | (go_at_call 16; with_reducible refine (HBA.out _).mono ?_; rintro e wb ⟨rfl, rfl⟩)
                  | (go_at_call 17; with_reducible refine (HCU.out _).mono ?_; rintro e wc ⟨rfl, rfl⟩))
                go_ret
                exact ⟨rfl, pw_below_drewN HB5.out _⟩
              · have hJA : J = A := HP7.out rfl
                subst hJA
                go_wp2_with (first
                  | (go_at_call 15; refine HLE0.out.mono ?_; rintro e wa ⟨rfl, n1, rfl⟩)
                  | (go_at_call 16; with_reducible refine (HBJ.out _).mono ?_; rintro e wb ⟨rfl, rfl⟩)
                  | (go_at_call 16; with_reducible refine (HBA.out _).mono ?_; rintro e wb ⟨rfl, rfl⟩)
                  | (go_at_call 17; with_reducible refine (HCU.out _).mono ?_; rintro e wc ⟨rfl, rfl⟩))
                go_ret
                exact ⟨rfl, pw_below_drewN HB5.out _⟩
        · have hB5 := below_then HB2.out HB2.out.size (show Below w2.heap.size w2 w5 from (show w0'.w = w2 from hw0) ▸ b5.below)
          obtain ⟨T5, k5, l5⟩ := b5.lines (show xs.length ≤ 1000000000 by omega)
          have HL5 := Lib.hid l5
          have HB5 := Lib.hid hB5
          clear b5 l5 hB5 hw0 hJ
          go_wp2_with fail
          refine HL5.out.mono ?_
          rintro e w6 ⟨v6, rfl, h61, h62, h63⟩
          obtain ⟨A6, c6, hv6', _⟩ := h61.slice
          rw [cS_len] at hv6'
          have hv6 : v6 = .slice A6 xs.length c6 := hv6'
          clear hv6'
          subst hv6
          have hB6 := below_then HB5.out HB5.out.size h63
          have HSM := Lib.hid (sameL (Ls.of_rw h61) (HV.out.step hB6.size fun b hb _ => hB6.block b hb) (show xs.length ≤ 1000000000 by omega))
          have HB6 := Lib.hid hB6
          clear h61 h62 h63 hB6
          go_wp2_with fail
          with_reducible refine HSM.out.mono ?_
          rintro e w7 ⟨rfl, hb7⟩
          have HB7 := Lib.hid (below_then HB6.out HB6.out.size hb7)
          clear hb7
          go_wp2
          go_ret
          exact ⟨rfl, HB7.out⟩
      · have hnw := bnew_long (m := 9) hv2 (by decide) (by decide) (by omega) hlg
        have HNW := Lib.hid hnw
        clear hnw hv2
        refine HNW.out.mono ?_
        rintro e w3 ⟨rfl, hb3⟩
        have HB3 := Lib.hid (below_then HB2.out HB2.out.size hb3)
        clear hb3
        go_wp2_with (go_at_call 8; refine (regsNew_any w3).mono ?_; rintro e w4 ⟨⟨R, rfl⟩, hb4⟩; have HB4 := Lib.hid (below_then HB3.out HB3.out.size hb4); clear hb4)
        go_ret
        exact ⟨rfl, HB4.out⟩
  · go_wp2_with (go_at_call 9; refine (known16_any w1).mono ?_; rintro e w2 ⟨rfl, hb2⟩; have HB2 := Lib.hid (below_then HB1.out HB1.out.size hb2); clear hb2)
    go_ret
    exact ⟨rfl, HB2.out⟩
end Go.Proofs.YtoejfgmfdjoonaaGreatDoor

namespace Go.Proofs.YtoejfgmfdjoonaaGreatDoor
open Go.RowKit Go.Shelf Go.Maps
theorem joinsall_row (W : World) (A : Option Addr) (len cap : Nat) (_l : len ≤ cap) (h : LsAt W (.slice A len cap)) (x1 : Int) (h1 : (Lit.int .i64 x1).wf = true) (x2 : Int) (h2 : (Lit.int .i64 x2).wf = true) (b : Bool) :
    Calls Tryz.prog 5 #[.slice A len cap, .int .i64 x1, .int .i64 x2, .bool b] W fun e w' => e = .returned (.bool true) ∧ Below W.heap.size W w' := by
  obtain ⟨xs, h⟩ := h
  exact joinsall_walk h x1 x2 h1 h2 b
end Go.Proofs.YtoejfgmfdjoonaaGreatDoor
