/- the law ProgAlt: walked. -/
import Derived.Test.YtjdlbejmdjcajaaLaA
import Derived.Test.YtjdlbejmdjcajaaEqI
import Derived.Laws.BytesArg
set_option linter.unusedVariables false
set_option linter.unusedSimpArgs false
namespace Go.Proofs.Ytjdlbejmdjcajaa
open Go.RowKit Go.Shelf Go.Maps Go.Proofs.YtjdlbejmdjcajaaW.PrintWords Go.Proofs.YtjdlbejmdjcajaaW.PrintLast

theorem bounds_u8 {x : Int} (h : (Lit.int .u8 x).wf = true) : 0 ≤ x ∧ x ≤ 255 := by
  have hmin : IntKind.u8.min = 0 := rfl
  have hmax : IntKind.u8.max = 255 := rfl
  simp only [Lit.wf, Bool.and_eq_true, decide_eq_true_eq] at h
  omega
theorem conv1 (W : World) (x : Int) : (convert 22 9 (.slice (some ⟨W.heap.size, 0, none⟩) 1 1)).run Try.prog (W.alloc (.cells #[.int .u8 x] 5)) = .ok (.string (strOfNums [x])) (W.alloc (.cells #[.int .u8 x] 5)) := by
  refine run_convert_bytes_arg _ 22 5 Try.underlying22 Try.underlying5 W.heap.size 0 1 1 [x] rfl (fun i hi => ?_) 9 Try.underlying9
  match i, hi with
  | 0, _ => rw [blk_cell (alloc_at W _)]; rfl
theorem str_one (n : Nat) : strOfNums [(n : Int)] = bA [n.toUInt8] := by
  simp [strOfNums, bA]
set_option maxRecDepth 100000 in
set_option maxHeartbeats 8000000 in
theorem alt_walk (x : Int) (hx : (Lit.int .u8 x).wf = true) (w : World) :
    Calls Try.prog 3 #[.int .u8 x] w fun e w' => e = .returned (.bool true) ∧ Below w.heap.size w w' := by
  obtain ⟨y, rfl, hy⟩ : ∃ y : Nat, x = y ∧ y ≤ 255 := ⟨x.toNat, by have := bounds_u8 hx; omega, by have := bounds_u8 hx; omega⟩
  obtain ⟨k, hk, hk20⟩ : ∃ k : Nat, (y : Int) % 20 = (k : Int) ∧ k < 20 := ⟨y % 20, by omega, by omega⟩
  have hk2 : Int.tmod (y : Int) 20 = (k : Int) := by rw [Int.tmod_eq_emod_of_nonneg (by omega)]; exact hk
  clear hx
  go_enter Try.func3, Try.ntmps3
  go_wp2
  go_loopw [4, 5] (fun v4 v5 wr => ∃ (i : Nat), v5 = .int .i64 i ∧ v4 = .string (bA (altL i)) ∧ i ≤ k + 1 ∧ Below w.heap.size w wr) (fun _ v5 _ => k + 1 - (intOf v5).toNat)
  case atStart => exact ⟨0, rfl, rfl, Nat.zero_le _, Below.refl _ _⟩
  case round =>
    obtain ⟨i, rfl, rfl, hi, hb⟩ := hrel
    have hls : (bA (altL i)).size ≤ 60 := by rw [bA_size]; exact altL_len i (by omega)
    by_cases hik : i < k + 1
    · have i1 : (i : Int) < 1 + (k : Int) := by omega
      have hcv := conv1 wr (97 + (i : Int))
      have e1 : strOfNums [97 + (i : Int)] = bA [(97 + i).toUInt8] := by
        rw [show (97 : Int) + (i : Int) = ((97 + i : Nat) : Int) by omega]
        exact str_one _
      rw [e1] at hcv
      obtain ⟨c, hc⟩ : ∃ c, (97 + i).toUInt8 = c := ⟨_, rfl⟩
      rw [hc] at hcv
      have iw1 : IntKind.u8.wrap (i : Int) = i := by rw [IntKind.wrap_u8]; omega
      have iw2 : IntKind.u8.wrap (97 + (i : Int)) = 97 + i := by rw [IntKind.wrap_u8]; omega
      have hb1 : (bA [c]).size = 1 := rfl
      have hb2 : bA [92, 124] = ⟨#[92, 124]⟩ := rfl
      have HB := Lib.hid (hb.trans ((below_alloc (Below.refl wr.heap.size wr) (.cells #[.int .u8 (97 + (i : Int))] 5)).mono hb.size))
      have hl2 : (bA (altL i) ++ (⟨#[92, 124]⟩ : ByteArray)).size ≤ 62 := by
        rw [ByteArray.size_append]
        have : (⟨#[92, 124]⟩ : ByteArray).size = 2 := rfl
        omega
      by_cases hi0 : 0 < i
      · have j0 : (0 : Int) < (i : Int) := by omega
        have hap : bA (altL i) ++ (⟨#[92, 124]⟩ : ByteArray) ++ bA [c] = bA (altL (i + 1)) := by
          rw [← hb2, bA_app, bA_app, altL, if_pos hi0, hc]
        have HAP := Lib.hid hap
        clear hap e1 hb hb2 hc
        go_wp2
        refine ⟨⟨i + 1, by go_num, by rw [HAP.out], by omega, HB.out⟩, ?_⟩
        simp [intOf]
        omega
      · have j0 : ¬ ((0 : Int) < (i : Int)) := by omega
        have hap : bA (altL i) ++ bA [c] = bA (altL (i + 1)) := by
          rw [bA_app, altL, if_neg hi0, hc]
        have HAP := Lib.hid hap
        clear hap e1 hb hb2 hc
        go_wp2
        refine ⟨⟨i + 1, by go_num, by rw [HAP.out], by omega, HB.out⟩, ?_⟩
        simp [intOf]
        omega
    · obtain rfl : i = k + 1 := by omega
      have i2 : ¬ (((k + 1 : Nat) : Int) < 1 + (k : Int)) := by omega
      have hpz : (bA (altL (k + 1))).size ≤ 300 := by omega
      have hpe := parseG_of (alt_parse (k + 1) (by omega) (by omega))
      have HP := Lib.hid (parse_any (s := bA (altL (k + 1))) (last := ⟨#[]⟩) (fun G => signok_none _ _ G) (by rw [bA_list]; exact hpe) hpz (by decide) wr)
      have HB := Lib.hid hb
      clear hls hpz hpe hb
      go_wp2_with fail
      refine HP.out.mono ?_
      rintro e w1 ⟨nv, rfl, hb1, hn1⟩
      have e2 : (((ptA (k + 1)).groups : Nat) : Int) = 0 := rfl
      have e3 : (ptA (k + 1)).case = 0 := rfl
      rw [e2, e3]
      clear e2 e3
      obtain ⟨An, cn, rfl, _⟩ := hn1.slice
      obtain ⟨root, hroot⟩ : ∃ root, (ptA (k + 1)).root = root := ⟨_, rfl⟩
      obtain ⟨nl, hnl⟩ : ∃ nl, (ptA (k + 1)).nk.length = nl := ⟨_, rfl⟩
      have hal := below_alloc (Below.refl w1.heap.size w1) (.cells #[.slice An (ptA (k + 1)).nk.length cn, .int .i64 ((ptA (k + 1)).root : Int), .int .i64 0, .int .u8 0] 25)
      have hn2 := hn1.step hal.size (F' := fun _ => True) fun b _ hl => ⟨hal.block b hl, trivial⟩
      have hnn : (ptA (k + 1)).nk.length ≤ 100000 := by
        have : (ptA (k + 1)).nk.length = (ptA (k + 1)).nodes.length := by simp [Pp.Pt.nk]
        have h2 : (ptA (k + 1)).nodes.length ≤ k + 2 := by
          unfold ptA
          simp only [List.length_append, List.length_map, List.length_range]
          split <;> simp
        omega
      have HC := Lib.hid (comp_any (cs := 0) (g := 0) hn2 hnn (noCat_of (alt_nocat (k + 1) (by omega) (by omega))) (alt_sound (k + 1) (by omega) (by omega)) false (alt_comp (k + 1) (by omega) (by omega)) (fun h => by cases h))
      have HB1 := Lib.hid (HB.out.trans ((hb1.trans (hal.mono hb1.size)).mono HB.out.size))
      rw [hnl, hroot] at HC HB1 ⊢
      clear hb1 hn1 hal hn2 hnn hnl hroot
      go_wp2_with fail
      refine HC.out.mono ?_
      rintro e w2 ⟨cvv, rfl, hb2, hcm⟩
      have HB2 := Lib.hid (HB1.out.trans (hb2.mono HB1.out.size))
      rw [show foldP 0 false = false from rfl]
      obtain ⟨A, cc, rfl, hc, hmx, hcc⟩ := hcm
      have hlen := codeA_len (k + 1) (by omega) (by omega)
      obtain ⟨b, o, rfl, _, hbl, hcell⟩ := hcc (show 0 < (codeA (k + 1)).length by omega)
      obtain ⟨ln, hln⟩ : ∃ ln, (codeA (k + 1)).length = ln := ⟨_, rfl⟩
      have hal2 := below_alloc (Below.refl w2.heap.size w2) (.cells #[.slice (some ⟨b, o, none⟩) ln cc, .int .i64 0, .bool false] 32)
      have HB3 := Lib.hid (HB2.out.trans (hal2.mono HB2.out.size))
      have hcode : ∀ (j : Nat) (z : Pp.In), (codeA (k + 1))[j]? = some z → ∀ (i : Nat) (u : Value), (inC z)[i]? = some u → (w2.alloc (.cells #[.slice (some ⟨b, o, none⟩) ln cc, .int .i64 0, .bool false] 32)).cell? ⟨b, o + j * 8 + i, none⟩ = some u := fun j z hj i u hu => (World.cell?_of_block (a := ⟨b, o + j * 8 + i, none⟩) (hal2.block b hbl)).trans (hcell j z hj i u hu)
      rw [hln] at hlen hc ⊢
      have HCO := Lib.hid (And.intro hcode hln)
      have hl3 : (ln : Int) = 3 * (1 + (k : Int)) - 1 := by omega
      rw [show (((0 : Nat) : Int)) = 0 from rfl]
      clear hb2 hcc hcell hal2 hcode hln hlen
      obtain ⟨W3, hW3⟩ : ∃ W3, (w2.alloc (.cells #[.slice (some ⟨b, o, none⟩) ln cc, .int .i64 0, .bool false] 32)) = W3 := ⟨_, rfl⟩
      have g0 : W3.cell? ⟨w2.heap.size, 0, none⟩ = some (.slice (some ⟨b, o, none⟩) ln cc) := by
        rw [← hW3, blk_cell (alloc_at w2 _)]; rfl
      have g1 : W3.cell? ⟨w2.heap.size, 1, none⟩ = some (.int .i64 0) := by
        rw [← hW3, blk_cell (alloc_at w2 _)]; rfl
      have hb3 : Below w2.heap.size w2 W3 := by
        rw [← hW3]
        exact below_alloc (Below.refl _ _) _
      have hg3 : w2.heap.size < W3.heap.size := by
        rw [← hW3]
        simp
      rw [hW3] at HCO HB3
      have hnq : ∀ (op x y : Int) (W : World), (binOp .neq 39 (.agg #[.int .u8 op, .int .u8 0, .int .u64 0, .int .u64 0, .int .u64 0, .int .u64 0, .int .i64 x, .int .i64 y]) (.agg #[.int .u8 op, .int .u8 0, .int .u64 0, .int .u64 0, .int .u64 0, .int .u64 0, .int .i64 x, .int .i64 y])).run Try.prog W = .ok (.bool false) W := fun op x y W => inst_neq ⟨op, 0, 0, 0, 0, 0, x, y⟩ W
      have HKN := Lib.hid (known04_any)
      have i3 : ((ln : Int) != 3 * (1 + (k : Int)) - 1) = false := by rw [hl3]; simp
      have HL3 := Lib.hid hl3
      have HW3 := Lib.hid hW3
      have HG := Lib.hid (And.intro g0 g1)
      clear hl3 hW3 g0 g1
      clear i2
      go_wp2
      rw [HW3.out]
      obtain ⟨g0, g1⟩ := HG.out
      go_loopw [11] (fun v11 wq => ∃ (i : Nat), v11 = .int .i64 i ∧ i ≤ k ∧ wq = W3) (fun v11 _ => k - (intOf v11).toNat)
      case atStart => exact ⟨0, rfl, Nat.zero_le _, rfl⟩
      case round =>
        rename World => wq
        obtain ⟨i, rfl, hi, hwq⟩ := hrel
        subst hwq
        have hl3 := HL3.out
        by_cases hik : i < k
        · obtain ⟨q, hq⟩ : ∃ q, 3 * i = q := ⟨_, rfl⟩
          obtain ⟨A1, A2, A3⟩ := codeA_at (k + 1) (by omega) i (by omega)
          rw [hq] at A1 A2 A3
          have u0 : wq.cell? ⟨b, o + q * 8, none⟩ = some (.int .u8 4) := HCO.out.1 _ _ A1 0 _ rfl
          have u1 : wq.cell? ⟨b, o + q * 8 + 1, none⟩ = some (.int .u8 0) := HCO.out.1 _ _ A1 1 _ rfl
          have u2 : wq.cell? ⟨b, o + q * 8 + 2, none⟩ = some (.int .u64 0) := HCO.out.1 _ _ A1 2 _ rfl
          have u3 : wq.cell? ⟨b, o + q * 8 + 3, none⟩ = some (.int .u64 0) := HCO.out.1 _ _ A1 3 _ rfl
          have u4 : wq.cell? ⟨b, o + q * 8 + 4, none⟩ = some (.int .u64 0) := HCO.out.1 _ _ A1 4 _ rfl
          have u5 : wq.cell? ⟨b, o + q * 8 + 5, none⟩ = some (.int .u64 0) := HCO.out.1 _ _ A1 5 _ rfl
          have u6 : wq.cell? ⟨b, o + q * 8 + 6, none⟩ = some (.int .i64 ((q : Int) + 1)) := by
            rw [HCO.out.1 _ _ A1 6 _ rfl]
            simp only [Option.some.injEq, Value.int.injEq, true_and]
            omega
          have u7 : wq.cell? ⟨b, o + q * 8 + 7, none⟩ = some (.int .i64 ((q : Int) + 3)) := by
            rw [HCO.out.1 _ _ A1 7 _ rfl]
            simp only [Option.some.injEq, Value.int.injEq, true_and]
            omega
          have v0 : wq.cell? ⟨b, o + (q + 2) * 8, none⟩ = some (.int .u8 5) := HCO.out.1 _ _ A3 0 _ rfl
          have v1 : wq.cell? ⟨b, o + (q + 2) * 8 + 1, none⟩ = some (.int .u8 0) := HCO.out.1 _ _ A3 1 _ rfl
          have v2 : wq.cell? ⟨b, o + (q + 2) * 8 + 2, none⟩ = some (.int .u64 0) := HCO.out.1 _ _ A3 2 _ rfl
          have v3 : wq.cell? ⟨b, o + (q + 2) * 8 + 3, none⟩ = some (.int .u64 0) := HCO.out.1 _ _ A3 3 _ rfl
          have v4 : wq.cell? ⟨b, o + (q + 2) * 8 + 4, none⟩ = some (.int .u64 0) := HCO.out.1 _ _ A3 4 _ rfl
          have v5 : wq.cell? ⟨b, o + (q + 2) * 8 + 5, none⟩ = some (.int .u64 0) := HCO.out.1 _ _ A3 5 _ rfl
          have v6 : wq.cell? ⟨b, o + (q + 2) * 8 + 6, none⟩ = some (.int .i64 (3 * (1 + (k : Int)) - 2)) := by
            rw [HCO.out.1 _ _ A3 6 _ rfl]
            simp only [Option.some.injEq, Value.int.injEq, true_and]
            omega
          have v7 : wq.cell? ⟨b, o + (q + 2) * 8 + 7, none⟩ = some (.int .i64 0) := HCO.out.1 _ _ A3 7 _ rfl
          have x1 : wq.cell? ⟨b, o + (q + 1) * 8 + 1, none⟩ = some (.int .u8 (97 + (i : Int))) := HCO.out.1 _ _ A2 1 _ rfl
          have h3 : 3 * (i : Int) = (q : Int) := by omega
          have t1 : ((q : Int) + 1).toNat = q + 1 := by omega
          have t2 : ((q : Int) + 2).toNat = q + 2 := by omega
          have s1 : 0 ≤ (q : Int) ∧ (q : Int) < (ln : Int) := by omega
          have s2 : 0 ≤ (q : Int) + 1 ∧ (q : Int) + 1 < (ln : Int) := by omega
          have s3 : 0 ≤ (q : Int) + 2 ∧ (q : Int) + 2 < (ln : Int) := by omega
          obtain ⟨s1a, s1b⟩ := s1
          obtain ⟨s2a, s2b⟩ := s2
          obtain ⟨s3a, s3b⟩ := s3
          have iw1 : IntKind.u8.wrap (i : Int) = i := by rw [IntKind.wrap_u8]; omega
          have iw2 : IntKind.u8.wrap (97 + (i : Int)) = 97 + i := by rw [IntKind.wrap_u8]; omega
          have j1 : (i : Int) < 1 + (k : Int) - 1 := by omega
          clear A1 A2 A3 hl3
          go_wp2
          refine ⟨⟨i + 1, by go_num, by omega, trivial⟩, ?_⟩
          simp [intOf]
          omega
        · obtain rfl : i = k := by omega
          obtain ⟨q, hq⟩ : ∃ q, 3 * i = q := ⟨_, rfl⟩
          have A1 := codeA_last (i + 1) (by omega) (by omega)
          rw [show 3 * (i + 1) - 3 = q by omega] at A1
          have x1 : wq.cell? ⟨b, o + q * 8 + 1, none⟩ = some (.int .u8 (97 + (i : Int))) := by
            rw [HCO.out.1 _ _ A1 1 _ rfl]
            simp only [Option.some.injEq, Value.int.injEq, true_and]
            omega
          have hbl2 : b < wq.heap.size := by
            have h1 := hb3.size
            omega
          have hg2 : w2.heap.size < wq.heap.size := hg3
          have j1 : ¬ ((i : Int) < 1 + (i : Int) - 1) := by omega
          have HFA := Lib.hid (And.intro g0 (And.intro g1 (And.intro x1 (And.intro hbl2 hg2))))
          clear A1 hl3 x1 hbl2 hg2 g0 g1
          go_wp2_with fail
          refine (HKN.out _).mono ?_
          rintro e w4 ⟨rfl, hb4⟩
          obtain ⟨g0, g1, x1, hbl2, hg2⟩ := HFA.out
          have k0 := (World.cell?_of_block (a := ⟨w2.heap.size, 0, none⟩) (hb4.block _ hg2)).trans g0
          have k1 := (World.cell?_of_block (a := ⟨w2.heap.size, 1, none⟩) (hb4.block _ hg2)).trans g1
          have y1 := (World.cell?_of_block (a := ⟨b, o + q * 8 + 1, none⟩) (hb4.block _ hbl2)).trans x1
          have HB4 := Lib.hid (HB3.out.trans (hb4.mono HB3.out.size))
          have h3 : 3 * (1 + (i : Int)) - 3 = (q : Int) := by omega
          have h4 : 1 + (i : Int) - 1 = (i : Int) := by omega
          have s1 : (0 : Int) ≤ (q : Int) := by omega
          have s2 : (q : Int) < (ln : Int) := by have := HL3.out; omega
          have iw1 : IntKind.u8.wrap (i : Int) = i := by rw [IntKind.wrap_u8]; omega
          have iw2 : IntKind.u8.wrap (97 + (i : Int)) = 97 + i := by rw [IntKind.wrap_u8]; omega
          clear hb4 g0 g1 x1 hq j1
          go_wp2
          go_ret
          exact ⟨by simp, HB4.out⟩
end Go.Proofs.Ytjdlbejmdjcajaa
