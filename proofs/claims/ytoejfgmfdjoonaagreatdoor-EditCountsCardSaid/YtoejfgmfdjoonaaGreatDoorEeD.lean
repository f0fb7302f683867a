/- The law EditCounts: a number of lines counts from the last one of the range, as many as there are. -/
import Derived.Test.YtoejfgmfdjoonaaGreatDoorEeC
import Derived.Laws.BytesArg
set_option linter.unusedVariables false
set_option linter.unusedSimpArgs false
namespace Go.Proofs.YtoejfgmfdjoonaaGreatDoor
open Go.RowKit Go.Shelf Go.Maps Go.Proofs.YtoejfgmfdjoonaaGreatDoorW.PrintWords Go.Proofs.YtoejfgmfdjoonaaGreatDoorW.PrintLast

theorem mod_nat (y : Nat) {m : Int} (hm : 0 < m) : ∃ a : Nat, (y : Int) % m = (a : Int) ∧ (a : Int) < m :=
  ⟨((y : Int) % m).toNat, (Int.toNat_of_nonneg (Int.emod_nonneg _ (by omega))).symm, by rw [Int.toNat_of_nonneg (Int.emod_nonneg _ (by omega))]; exact Int.emod_lt_of_pos _ hm⟩
theorem conv2 (W : World) (k : Nat) : (convert 23 9 (.slice (some ⟨W.heap.size, 0, none⟩) 2 2)).run Tryz.prog (W.alloc (.cells #[.int .u8 108, .int .u8 k] 5)) = .ok (.string (strOfNums [108, (k : Int)])) (W.alloc (.cells #[.int .u8 108, .int .u8 k] 5)) := by
  refine run_convert_bytes_arg _ 23 5 Tryz.underlying23 Tryz.underlying5 W.heap.size 0 2 2 [108, (k : Int)] rfl (fun i hi => ?_) 9 Tryz.underlying9
  match i, hi with
  | 0, _ => rw [blk_cell (World.alloc_heap_new W _)]; rfl
  | 1, _ => rw [blk_cell (World.alloc_heap_new W _)]; rfl
theorem str2_size (k : Int) : (strOfNums [108, k]).size ≤ 2 := by
  simp [strOfNums, ByteArray.size]

set_option maxRecDepth 100000 in
set_option maxHeartbeats 1000000 in
theorem counts_walk (x1 : Int) (h1 : (Lit.int .u8 x1).wf = true) (x2 : Int) (h2 : (Lit.int .u8 x2).wf = true) (x3 : Int) (h3 : (Lit.int .u8 x3).wf = true) (cnt : Int) (hcn : (Lit.int .i64 cnt).wf = true) (w : World) :
    Calls Tryz.prog 3 #[.int .u8 x1, .int .u8 x2, .int .u8 x3, .int .i64 cnt] w fun e w' => e = .returned (.bool true) ∧ Below w.heap.size w w' := by
  obtain ⟨y1, rfl, hy1⟩ : ∃ y : Nat, x1 = y ∧ y ≤ 255 := ⟨x1.toNat, by have := bounds_u8 h1; omega, by have := bounds_u8 h1; omega⟩
  obtain ⟨y2, rfl, hy2⟩ : ∃ y : Nat, x2 = y ∧ y ≤ 255 := ⟨x2.toNat, by have := bounds_u8 h2; omega, by have := bounds_u8 h2; omega⟩
  obtain ⟨y3, rfl, hy3⟩ : ∃ y : Nat, x3 = y ∧ y ≤ 255 := ⟨x3.toNat, by have := bounds_u8 h3; omega, by have := bounds_u8 h3; omega⟩
  have hc := bounds64 hcn
  obtain ⟨M, hM, hM1⟩ : ∃ M : Nat, (y1 : Int) % 60 = M ∧ M < 60 := ⟨y1 % 60, by omega, by omega⟩
  obtain ⟨N, hN1, hN2⟩ : ∃ N : Nat, N ≤ 1 + M ∧ 1 + M ≤ N := ⟨1 + M, Nat.le_refl _, Nat.le_refl _⟩
  obtain ⟨i0, hi0, hz0, hz1, hz2⟩ := info_parts infoS
  have HINF := Lib.hid (And.intro hi0 (And.intro hz0 (And.intro hz1 hz2)))
  clear h1 h2 h3 hcn hi0 hz0 hz1 hz2
  go_enter Tryz.func3, Tryz.ntmps3
  go_wp2
  go_loopw [9, 10] (fun v9 v10 wr => ∃ (k : Nat) (xs : List ByteArray), v10 = .int .i64 k ∧ k ≤ N ∧ Own w.heap.size w wr v9 xs ∧ xs.length = k ∧ ∀ x ∈ xs, x.size ≤ 2) (fun _ v10 _ => N - (intOf v10).toNat)
  case atStart => exact ⟨0, [], rfl, Nat.zero_le _, ⟨Rw.nil _ _, fun b hb => (by cases hb), Below.refl _ _⟩, rfl, by simp⟩
  case round =>
    obtain ⟨k, xs, rfl, hk, ⟨hrw, hrN, hbl⟩, hxl, hxs⟩ := hrel
    obtain ⟨A0, c0, hv0, hl0, hm0, hA0⟩ := hrw.slice
    rw [cS_len, hxl] at hv0 hl0 hA0
    subst hv0
    unfold maxLen at hm0
    by_cases hlt : k < N
    · have hlt' : (k : Int) < 1 + M := by omega
      have HRW := Lib.hid (And.intro hrw (And.intro hrN hbl))
      have HXS := Lib.hid (And.intro hxl hxs)
      clear hrw hrN hbl hxs hA0
      have hcv := conv2 wr k
      obtain ⟨sk, hsk⟩ : ∃ sk, strOfNums [108, (k : Int)] = sk := ⟨_, rfl⟩
      have hs2 := str2_size k
      rw [hsk] at hcv hs2
      have HS2 := Lib.hid hs2
      clear hsk hs2
      have hnew : ∀ o1 o2 : Obj, ((wr.alloc o1).alloc o2).heap[wr.heap.size + 1]? = some o2 := fun o1 o2 => by
        have := World.alloc_heap_new (wr.alloc o1) o2
        rwa [show (wr.alloc o1).heap.size = wr.heap.size + 1 by simp] at this
      have HNEW := Lib.hid hnew
      clear hnew
      go_wp2_with (at_builtin; refine wpList_append_rw (v := .slice A0 k c0) (cs := cS xs) _ rfl _ _ 22 22 rfl 9 i0 (.string ⟨#[]⟩) 16 Tryz.underlying22 HINF.out.1 HINF.out.2.1 HINF.out.2.2.1 HINF.out.2.2.2 rfl rfl ((HRW.out.1.alloc (.cells #[.int .u8 108, .int .u8 k] 5)).alloc (.cells #[.string sk] 9)) (.slice (some ⟨wr.heap.size + 1, 0, none⟩) 1 1) 1 [.string sk] rfl (src_blk _ _ _ _ Tryz.underlying22 _ rfl (HNEW.out _ _)) ?c1 ?c2 ?_; rotate_left 2; intro v1 w1 hr1 hg1 ha1; have HR1 := Lib.hid hr1; have HG1 := Lib.hid hg1; have HA1 := Lib.hid ha1; clear hr1 hg1 ha1)
      case c1 => rw [cS_len, HXS.out.1]; omega
      case c2 => rw [cS_len, HXS.out.1]; omega
      have h5 := HR1.out
      rw [show cS xs ++ [Value.string sk] = cS (xs ++ [sk]) by simp [cS]] at h5
      have hsz : w.heap.size ≤ ((wr.alloc (.cells #[.int .u8 108, .int .u8 k] 5)).alloc (.cells #[.string sk] 9)).heap.size := Nat.le_trans HRW.out.2.2.size (by simp only [World.size_alloc]; omega)
      have h6 : ∀ b, v1.ownBlock = some b → w.heap.size ≤ b := HA1.out.from HRW.out.2.1 hsz
      have h7 : Below w.heap.size w w1 := (((HRW.out.2.2).alloc (HRW.out.2.2.size) _).alloc (Nat.le_trans HRW.out.2.2.size (by simp only [World.size_alloc]; omega)) _).grown HG1.out hsz HRW.out.2.1
      have h8 : ∀ x ∈ xs ++ [sk], x.size ≤ 2 := fun x hx => by
        rcases List.mem_append.1 hx with hx | hx
        · exact HXS.out.2 x hx
        · simp at hx
          subst hx
          exact HS2.out
      have H5 := Lib.hid (And.intro (And.intro h5 (And.intro h6 h7)) h8)
      clear h5 h6 h7 h8 hsz
      go_roundw
      case rel => first | exact ⟨k + 1, xs ++ [sk], by go_num, by omega, H5.out.1, by rw [List.length_append, HXS.out.1]; rfl, H5.out.2⟩ | ((repeat apply Exists.intro); exact ⟨⟨k + 1, xs ++ [sk], by go_num, by omega, H5.out.1, by rw [List.length_append, HXS.out.1]; rfl, H5.out.2⟩, rfl⟩)
      case measure => simp [intOf]; omega
    · obtain rfl : k = N := by omega
      have hlt' : ¬ ((k : Int) < 1 + M) := by omega
      clear hlt
      obtain ⟨g0, rfl⟩ := hA0 (by omega)
      have hls := (Ls.of_rw hrw).wide (H := fun b => w.heap.size ≤ b) (fun b _ hb => hrN b hb)
      have hlg : isLong xs = false := by
        unfold isLong
        rw [List.any_eq_false]
        intro x hx
        have := hxs x hx
        simp
        omega
      have hne : xs ≠ [] := fun e => by rw [e] at hxl; simp at hxl; omega
      have hnw := bnew_any (m := 9) hls (by decide) (by decide) (by omega) hlg (fun x hx => Nat.le_trans (hxs x hx) (by decide))
      rw [show fullS xs = xs from if_neg hne] at hnw
      have HNW := Lib.hid hnw
      have HLS := Lib.hid (And.intro hls (And.intro hbl hxl))
      clear hnw hls hbl hrw hrN hlg hne hxs hA0
      have hkM : (k : Int) ≤ 60 := by omega
      have hk1 : (1 : Int) ≤ k := by omega
      clear hN1 hN2
      go_wp2_with fail
      refine HNW.out.mono ?_
      rintro e w1 ⟨B, rfl, b1⟩
      have H1 := Lib.hid b1
      clear b1 HNW
      obtain ⟨a, ha, ha1⟩ := mod_nat y2 (m := k) (by omega)
      have hn0 : ¬ ((k : Int) - (1 + a) + 1 = 0) := by omega
      obtain ⟨b, hb, hb1⟩ := mod_nat y3 (m := (k : Int) - (1 + a) + 1) (by omega)
      have q1 : ¬ (c0 = a) := by omega
      have q2 : (a : Int) ≤ 1 + a + b := by omega
      have q3 : 1 + (a : Int) + b ≤ c0 := by omega
      go_wp2_with (first
        | (go_at_call 8; refine (regsNew_any w1).mono ?_; rintro e w2 ⟨⟨R, rfl⟩, hb2⟩; have H2 := Lib.hid hb2; clear hb2)
        | (go_at_call 9; refine (known16_any w2).mono ?_; rintro e w3 ⟨rfl, hb3⟩; have H3 := Lib.hid (below_then H2.out H2.out.size hb3); clear hb3))
      have b3 := H1.out.new H3.out
      by_cases hm1 : cnt = -1
      · subst hm1
        have hdo := do_p_all (R := R) b3 (i := a) (n := b + 1) (f := 1 + (a : Int)) (t := 1 + (a : Int) + b) (d := 0) (by omega) (by omega) (by omega) (show a + (b + 1) ≤ xs.length by omega) (show xs.length ≤ 1000000 by omega)
        have HDO := Lib.hid hdo
        clear hdo b3
        refine HDO.out.mono ?_
        rintro e w4 ⟨v4, rfl, hl4, b4⟩
        obtain ⟨A4, c4, hv4', _⟩ := id hl4
        have hv4 : v4 = .slice A4 (b + 1) c4 := by
          rw [hv4', show (((newS 9 xs).ls.drop a).take (b + 1)).length = b + 1 by show ((xs.drop a).take (b + 1)).length = b + 1; rw [List.length_take, List.length_drop]; omega]
        clear hv4'
        subst hv4
        have hB4 := below_then HLS.out.2.1 HLS.out.2.1.size b4.below
        have hs2 := ((HLS.out.1.step b4.below.size fun b hb _ => b4.below.block b hb).sub0 (i := a) (m := b + 1) (show a + (b + 1) ≤ k by omega))
        have HSM := Lib.hid (sameL hl4 hs2 (show ((xs.drop a).take (b + 1)).length ≤ 1000000000 by rw [List.length_take, List.length_drop]; omega))
        have HB4 := Lib.hid hB4
        clear hl4 b4 hB4 hs2
        go_wp2_with fail
        rw [show 1 + a + b - a = b + 1 by omega]
        with_reducible refine HSM.out.mono ?_
        rintro e w5 ⟨rfl, hb5⟩
        have HB5 := Lib.hid (below_then HB4.out HB4.out.size hb5)
        clear hb5
        go_wp2
        go_ret
        exact ⟨rfl, HB5.out⟩
      · have e1 : (cnt == -1) = false := by rw [beq_eq_false_iff_ne]; exact hm1
        by_cases hc1 : cnt < 1
        · have hdo := do_p_no (R := R) b3 (i := a) (n := b + 1) (f := 1 + (a : Int)) (t := 1 + (a : Int) + b) (d := 0) (cnt := cnt) (by omega) (by omega) (by omega) (show a + (b + 1) ≤ xs.length by omega) (show xs.length ≤ 1000000 by omega) hm1 hc1
          have HDO := Lib.hid hdo
          clear hdo b3
          refine HDO.out.mono ?_
          rintro e w4 ⟨rfl, b4⟩
          have HB4 := Lib.hid (below_then HLS.out.2.1 HLS.out.2.1.size b4.below)
          clear b4
          go_wp2
          go_ret
          exact ⟨rfl, HB4.out⟩
        · obtain ⟨m, hm⟩ : ∃ m : Nat, min (cnt - 1) ((k : Int) - ((a : Int) + ((b + 1 : Nat) : Int))) = (m : Int) := ⟨(min (cnt - 1) ((k : Int) - ((a : Int) + ((b + 1 : Nat) : Int)))).toNat, by omega⟩
          have hdo := do_p_cnt (R := R) b3 (i := a) (n := b + 1) (f := 1 + (a : Int)) (t := 1 + (a : Int) + b) (d := 0) (cnt := cnt) (by omega) (by omega) (by omega) (show a + (b + 1) ≤ xs.length by omega) (show xs.length ≤ 1000000 by omega) (by omega) (m := m) (show min (cnt - 1) ((xs.length : Int) - ((a : Int) + ((b + 1 : Nat) : Int))) = (m : Int) by rw [hxl]; exact hm) hc.2
          have hmb : a + b + (m + 1) ≤ k := by omega
          have hmin : min cnt ((k : Int) - (1 + a + b) + 1) = (m : Int) + 1 := by omega
          have HDO := Lib.hid hdo
          clear hdo b3 hm
          refine HDO.out.mono ?_
          rintro e w4 ⟨v4, rfl, hl4, b4⟩
          rw [show a + (b + 1) - 1 = a + b by omega] at hl4
          obtain ⟨A4, c4, hv4', _⟩ := id hl4
          have hv4 : v4 = .slice A4 (m + 1) c4 := by
            rw [hv4', show (((newS 9 xs).ls.drop (a + b)).take (m + 1)).length = m + 1 by show ((xs.drop (a + b)).take (m + 1)).length = m + 1; rw [List.length_take, List.length_drop]; omega]
          clear hv4'
          subst hv4
          have hB4 := below_then HLS.out.2.1 HLS.out.2.1.size b4.below
          have hs2 := ((HLS.out.1.step b4.below.size fun b hb _ => b4.below.block b hb).sub0 (i := a + b) (m := m + 1) (show a + b + (m + 1) ≤ k by omega))
          have HSM := Lib.hid (sameL hl4 hs2 (show ((xs.drop (a + b)).take (m + 1)).length ≤ 1000000000 by rw [List.length_take, List.length_drop]; omega))
          have HB4 := Lib.hid hB4
          have q4 : ¬ (c0 = a + b) := by omega
          have q5 : (1 : Int) + a + b - 1 = a + b := by omega
          have q6 : (a : Int) + b + (m + 1) ≤ c0 := by omega
          have q7 : (a : Int) + b ≤ a + b + (m + 1) := by omega
          clear hl4 b4 hB4 hs2
          go_wp2_with fail
          with_reducible refine HSM.out.mono ?_
          rintro e w5 ⟨rfl, hb5⟩
          have HB5 := Lib.hid (below_then HB4.out HB4.out.size hb5)
          clear hb5
          go_wp2
          go_ret
          exact ⟨rfl, HB5.out⟩
end Go.Proofs.YtoejfgmfdjoonaaGreatDoor
