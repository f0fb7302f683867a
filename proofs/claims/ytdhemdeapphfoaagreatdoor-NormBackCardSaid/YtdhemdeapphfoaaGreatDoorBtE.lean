/- The tree's split of a node of nodes, walked. -/
import Derived.Test.YtdhemdeapphfoaaGreatDoorBtD
set_option linter.unusedVariables false
set_option linter.unusedSimpArgs false
namespace Go.Proofs.YtdhemdeapphfoaaGreatDoor
open Go.RowKit Go.Shelf Go.Proofs.YtdhemdeapphfoaaGreatDoorW.PrintWords Go.Proofs.YtdhemdeapphfoaaGreatDoorW.PrintLast

set_option maxRecDepth 100000 in
theorem leaf_no {w : World} {b o n c : Nat} {A : Option Addr} (c1 : w.cell? ⟨b, o + 1, none⟩ = some (.slice A n c)) (hn : n ≤ 1000000000000) (h0 : 0 < n) :
    Calls Tryz.prog 66 #[.pointer (some ⟨b, o, none⟩)] w fun e w' => e = .returned (.bool false) ∧ w = w' := by
  have HB := Lib.hid (show decide (n = 0) = false by simp; omega)
  refine (leaf_at c1 hn).mono ?_
  rintro e w' ⟨rfl, h2⟩
  rw [HB.out]
  exact ⟨rfl, h2⟩

set_option maxRecDepth 100000 in
theorem split_node {w : World} {F : Nat → Prop} {B N cap : Nat} {fv : Value} {L : List NV} {fr : List Nat} {root : Nat} {bytes : Int} (h : Tw w F B N cap fv L fr root bytes) {k : Nat} {x : NV} (hx : L[k]? = some x)
    (hs : 8 < x.ks.length) (hls : x.ls = []) (hbig : x.ks.length ≤ 1000000000000) (hk : ∀ j ∈ x.ks, j ≠ k ∧ j ∉ fr ∧ ∃ y, L[j]? = some y ∧ 0 ≤ y.ct) (hsum : Bt.cts (pus L) x.ks ≤ 4611686018427387904) (hF : ∀ b, w.heap.size ≤ b → F b) (hlen : L.length + 1 ≤ 1000000000000) (hfr : ∀ j ∈ fr, j < L.length) (hnd : fr.Nodup) (hkf : k ∉ fr) :
    Calls Tryz.prog 70 #[.pointer (some ⟨B, 0, none⟩), .int .i64 k] w fun e w' => e = .returned (.int .i64 ((Bt.split (pus L) fr k).2.2.getD 0)) ∧ Ta w' F B (Bt.split (pus L) fr k).1 (Bt.split (pus L) fr k).2.1 root ∧ Chg F w w' := by
  have b0 := h.c0
  have n0 := h.n0 hx
  have n1 := h.n1 hx
  have n2 := h.n2 hx
  have hkl := (List.getElem?_eq_some_iff.1 hx).1
  have hf := h.fit
  have hle := h.le
  unfold maxLen at hf
  have hkl' : (k : Int) < L.length := by omega
  obtain ⟨A1, c1, hv1, hl1, hm1, _⟩ := (h.lines k x hx).slice
  obtain ⟨A2, c2, hv2, hl2, hm2, hA2⟩ := (h.kids k x hx).slice
  rw [hls, cS_len, List.length_nil] at hv1 hl1
  rw [cK_len] at hv2 hl2 hA2
  obtain ⟨g, rfl⟩ := hA2 (by omega)
  rw [hv1] at n0
  rw [hv2] at n1
  have hgl : g < w.heap.size := h.own_lt_k hx g (by rw [hv2]; rfl)
  have hrow := h.kids k x hx
  rw [hv2] at hrow
  have HT := Lib.hid h
  have HR := Lib.hid hrow
  unfold maxLen at hm1 hm2
  have HX := Lib.hid hx
  have HV1 := Lib.hid hv1
  have HV2 := Lib.hid hv2
  have HKS := Lib.hid hls
  have HKK := Lib.hid hk
  have HSUM := Lib.hid hsum
  obtain ⟨hf2, hhf⟩ : ∃ hf2 : Nat, hf2 = x.ks.length / 2 := ⟨_, rfl⟩
  have hh1 : hf2 < x.ks.length := by omega
  have hck : ¬ c2 = hf2 := by omega
  have hdiv : ((x.ks.length : Nat) : Int) / 2 = hf2 := by omega
  have HD := Lib.hid hhf
  clear h hx hv1 hv2 hrow hA2 hls hhf hk hsum
  go_enter Tryz.func70, Tryz.ntmps70
  go_wp2_with (first
    | (go_at_call 100; refine (size_at (n := 0) (c := c1) (A := A1) (n2 := x.ks.length) (c2 := c2) (A2 := some ⟨g, 0, none⟩) (by simp) (by simp) (by omega) (by omega)).mono ?_; rintro e w1 ⟨rfl, q, rfl⟩)
    | (go_at_call 66; refine (leaf_no (n := x.ks.length) (c := c2) (A := some ⟨g, 0, none⟩) (by go_simp) (by omega) (by omega)).mono ?_; rintro e w1 ⟨rfl, rfl⟩))
  go_at_call 102
  have hlk : (kI x.ks).length = x.ks.length := by simp [kI]
  refine (cloI_rw _ (kI x.ks) (o := hf2) (n := x.ks.length) (c' := c2 - hf2) (((HR.out.alloc _).drewN _).alloc _) (by rw [hlk]; exact hh1) (by rw [hlk]; omega)).mono ?_
  rintro e w1 ⟨v1, rfl, hr1, hb1, hk1⟩
  rw [show cI ((kI x.ks).drop hf2) = cK (x.ks.drop hf2) by simp [cK, kI, List.map_drop]] at hr1
  have HT1 := Lib.hid ((((HT.out.alloc _).drewN _).alloc _).below hb1)
  have hX : Box3 w1 w.heap.size (.slice A1 0 c1) (.slice (some ⟨g, 0, none⟩) x.ks.length c2) (.int .i64 x.ct) := ⟨by
    rw [hb1.block _ (by simp; omega)]
    exact (Below.heap_alloc _ _ _ (by simp)).trans (heap_alloc_new w _)⟩
  have hY : Box3 w1 (w.heap.size + 1) (.slice none 0 0) (.slice none 0 0) (.int .i64 0) := ⟨by
    rw [hb1.block _ (by simp)]
    exact new_at _ _ (by simp) _⟩
  have HB1 := Lib.hid hb1
  have HR1 := Lib.hid hr1
  have HK1 := Lib.hid hk1
  clear hb1 hr1 hk1 b0 n0 n1 n2
  have b0 := HT1.out.c0
  have n0 := HT1.out.n0 HX.out
  have n1 := HT1.out.n1 HX.out
  have n2 := HT1.out.n2 HX.out
  have z0 := HT1.out.zN (k * 3)
  have z1 := HT1.out.zN (k * 3 + 1)
  have z2 := HT1.out.zN (k * 3 + 2)
  have xc0 := hX.c0
  have xc1 := hX.c1
  have xc2 := hX.c2
  have xz0 := hX.z 1
  have yc0 := hY.c0
  have yc1 := hY.c1
  have yc2 := hY.c2
  have yz0 := hY.z 1
  have HXX := Lib.hid hX
  have HYY := Lib.hid hY
  have hNl := HT.out.ltN
  have hBl := HT.out.ltB
  clear hX hY
  obtain ⟨A3, c3, hv3, hl3, hm3, _⟩ := HR1.out.slice
  rw [cK_len, List.length_drop] at hv3
  subst hv3
  unfold maxLen at hm3
  obtain ⟨X, hXe⟩ : ∃ X, w.heap.size = X := ⟨_, rfl⟩
  have hNX : ¬ N = X := by omega
  have hBX : ¬ B = X := by omega
  have hNX1 : ¬ N = X + 1 := by omega
  have hBX1 : ¬ B = X + 1 := by omega
  have hNX2 : ¬ X = N := by omega
  have hNX3 : ¬ X + 1 = N := by omega
  rw [hXe] at xc0 xc1 xc2 xz0 yc0 yc1 yc2 yz0 ⊢
  have HXE := Lib.hid hXe
  clear hXe hNl hBl
  go_wp2_with (go_at_call 103; refine (clip_ints _ _ _ (by omega) (by unfold maxLen; omega) _).mono ?_; rintro e w2 ⟨rfl, rfl⟩)
  go_region
  go_wp2_with fail
  have hF1 : ∀ b, w1.heap.size ≤ b → F b := fun b hb => hF b (Nat.le_trans (Nat.le_trans (by simp; omega) HB1.out.size) hb)
  have hvl : ∀ b, (Value.slice A3 (x.ks.length - hf2) c3).ownBlock = some b → X + 1 < b := fun b hb => by
    obtain ⟨q2, h1, h2⟩ := HK1.out
    rw [h1] at hb
    injection hb with hb
    have h3 := HXE.out
    simp at h2
    omega
  have t1 := HT1.out.other (p := ⟨X + 1, 1, none⟩) (.slice A3 (x.ks.length - hf2) c3) ⟨_, by have := HYY.out.at_; rw [HXE.out] at this; exact this⟩ hNX3
  have t2 := t1.other (p := ⟨X, 1, none⟩) (.slice (some ⟨g, 0, none⟩) hf2 hf2) ⟨_, by rw [Below.heap_setCell _ _ _ _ (by simp)]; have := HXX.out.at_; rw [HXE.out] at this; exact this⟩ hNX2
  have hgX : g < X := by have := HXE.out; omega
  have r1 : Rw w1 3 (.slice (some ⟨g, 0, none⟩) x.ks.length c2) (cK x.ks) := (((HR.out.alloc _).drewN _).alloc _).below HB1.out
  have r2 : Rw ((w1.setCell ⟨X + 1, 1, none⟩ (.slice A3 (x.ks.length - hf2) c3)).setCell ⟨X, 1, none⟩ (.slice (some ⟨g, 0, none⟩) hf2 hf2)) 3 (.slice (some ⟨g, 0, none⟩) hf2 hf2) (cK (x.ks.take hf2)) := by
    have h9 := (r1.take (m := hf2) (c' := hf2) (by omega) (Nat.le_refl _) (by omega))
    rw [show (cK x.ks).take hf2 = cK (x.ks.take hf2) by simp [cK, kI, cI, List.map_take]] at h9
    exact (h9.setCell (p := ⟨X + 1, 1, none⟩) (by intro e; injection e with e; simp at e; omega) _).setCell (p := ⟨X, 1, none⟩) (by intro e; injection e with e; simp at e; omega) _
  have k2 := t2.lines k x HX.out
  have t3 := (t2.setNode HX.out (y := ⟨.slice A1 0 c1, .slice (some ⟨g, 0, none⟩) hf2 hf2, x.ls, x.ks.take hf2, x.ct⟩) (by rw [HV1.out] at k2; exact k2) r2
    (fun b hb => HT.out.at_l hF HX.out (v := x.vl) (.inl rfl) b (by rw [HV1.out]; exact hb))
    (fun b hb => HT.out.at_k hF HX.out (v := x.vk) (.inl rfl) b (by rw [HV2.out]; exact hb))).drew
  have hlE : (x.ks.length - hf2) = (x.ks.drop hf2).length := by simp
  have hyF : Fresh ((((((w1.setCell ⟨X + 1, 1, none⟩ (.slice A3 (x.ks.length - hf2) c3)).setCell ⟨X, 1, none⟩ (.slice (some ⟨g, 0, none⟩) hf2 hf2)).setCell ⟨N, k * 3, none⟩ (.slice A1 0 c1)).setCell ⟨N, k * 3 + 1, none⟩ (.slice (some ⟨g, 0, none⟩) hf2 hf2)).setCell ⟨N, k * 3 + 2, none⟩ (.int .i64 x.ct)).drew) F fv (L.set k ⟨.slice A1 0 c1, .slice (some ⟨g, 0, none⟩) hf2 hf2, x.ls, x.ks.take hf2, x.ct⟩) ⟨.slice none 0 0, .slice A3 (x.ks.length - hf2) c3, [], x.ks.drop hf2, 0⟩ := by
    have hNX9 : N < X := by have := HT.out.ltN; have := HXE.out; omega
    refine ⟨Rw.nil _ _, ?_, fun b hb => (by cases hb), fun b hb => ⟨hF b (by have := hvl b hb; have := HXE.out; omega), fun e => ?_, fun j z hz e => ?_⟩⟩
    · refine Rw.drewN (n := 1) ?_
      refine ((((HR1.out.setCell ?_ _).setCell ?_ _).setCell ?_ _).setCell ?_ _).setCell ?_ _
      all_goals
        intro e
        have := hvl _ e
        simp only at this
        omega
    · have h1 := hvl b hb
      have := HT.out.free.lt b e
      have := HXE.out
      omega
    · have h1 := hvl b hb
      rcases set_get HX.out hz with ⟨rfl, rfl⟩ | ⟨hj, hz'⟩
      · injection e with e
        simp only at e
        omega
      · have := HT.out.own_lt_k hz' b e
        have := HXE.out
        omega
  have hlen2 : (L.set k ⟨.slice A1 0 c1, .slice (some ⟨g, 0, none⟩) hf2 hf2, x.ls, x.ks.take hf2, x.ct⟩).length = L.length := List.length_set
  have hF2 : ∀ b, ((((((w1.setCell ⟨X + 1, 1, none⟩ (.slice A3 (x.ks.length - hf2) c3)).setCell ⟨X, 1, none⟩ (.slice (some ⟨g, 0, none⟩) hf2 hf2)).setCell ⟨N, k * 3, none⟩ (.slice A1 0 c1)).setCell ⟨N, k * 3 + 1, none⟩ (.slice (some ⟨g, 0, none⟩) hf2 hf2)).setCell ⟨N, k * 3 + 2, none⟩ (.int .i64 x.ct)).drew).heap.size ≤ b → F b := fun b hb => hF1 b (by simpa [World.drew, World.setCell] using hb)
  have HC3 := Lib.hid (((((((((((Chg.refl F w).alloc (.cells #[Value.slice A1 0 c1, Value.slice (some ⟨g, 0, none⟩) x.ks.length c2, Value.int .i64 x.ct] 100)).drewN _).alloc _).below HB1.out).setCell (p := ⟨X + 1, 1, none⟩) (hF _ (by have := HXE.out; simp; omega)) (.slice A3 (x.ks.length - hf2) c3)).setCell (p := ⟨X, 1, none⟩) (hF _ (by have := HXE.out; simp; omega)) (.slice (some ⟨g, 0, none⟩) hf2 hf2)).setCell (p := ⟨N, k * 3, none⟩) HT.out.footN (.slice A1 0 c1)).setCell (p := ⟨N, k * 3 + 1, none⟩) HT.out.footN (.slice (some ⟨g, 0, none⟩) hf2 hf2)).setCell (p := ⟨N, k * 3 + 2, none⟩) HT.out.footN (.int .i64 x.ct)).drew)
  have hmk := make_any t3 hF2 hyF (by rw [hlen2]; exact hlen) (fun j hj => by rw [hlen2]; exact hfr j hj)
  obtain ⟨B2, fr2, o, t, em, m1, m2, m3, m4, m5, m6, m7, m8, m9⟩ := Bt.mk_law (A := pus (L.set k ⟨.slice A1 0 c1, .slice (some ⟨g, 0, none⟩) hf2 hf2, x.ls, x.ks.take hf2, x.ct⟩)) (fr := fr) (x := NV.pu ⟨.slice none 0 0, .slice A3 (x.ks.length - hf2) c3, [], x.ks.drop hf2, 0⟩) (by rw [pus_length, hlen2]; exact hfr) hnd
  rw [em] at hmk
  simp only at hmk
  rw [pus_length, hlen2] at m2 m3 m4 m7
  have hok : o ≠ k := by
    rcases m7 with h | h
    · exact fun e => hkf (e ▸ h)
    · omega
  have mk0 : B2[k]? = some ⟨[], x.ks.take hf2, x.ct⟩ := by
    rw [m3 k hkl (fun e => hok e.symm), pus_at (x := ⟨.slice A1 0 c1, .slice (some ⟨g, 0, none⟩) hf2 hf2, x.ls, x.ks.take hf2, x.ct⟩) (by simp [hkl])]
    simp only [NV.pu, HKS.out]
  have mo0 : (Bt.setSum B2 k)[o]? = some ⟨[], x.ks.drop hf2, 0⟩ := by rw [Bt.setSum_other hok]; exact m1
  have hfin : Bt.split (pus L) fr k = (Bt.setSum (Bt.setSum B2 k) o, fr2, some o) := by
    refine Bt.split_big (x := x.pu) (pus_nd HX.out) (by simp [Bt.Nd.size, NV.pu]; omega) ?_
    rw [← em, pus_set]
    have hne : x.ks ≠ [] := fun e => by rw [e] at hs; simp at hs
    simp only [Bt.half1, Bt.half2, NV.pu, Bt.Nd.size, HKS.out, List.length_nil, Nat.zero_add, if_neg hne, HD.out]
  have HFIN := Lib.hid hfin
  have kid : ∀ j ∈ x.ks, j ≠ k ∧ B2[j]? = (pus L)[j]? ∧ ∃ y, (pus L)[j]? = some y ∧ 0 ≤ y.ct := fun j hj => by
    obtain ⟨h1, h2, y, hy, hy0⟩ := HKK.out j hj
    have hjl := (List.getElem?_eq_some_iff.1 hy).1
    refine ⟨h1, ?_, y.pu, pus_at hy, hy0⟩
    rw [m2 j hjl h2, pus_set, Bt.set_other h1]
  have hctm := cts_mono (A := pus L) (ks := x.ks) (fun j hj => by
    obtain ⟨_, _, y, hy, hy0⟩ := kid j hj
    rw [Bt.nd_some hy]
    exact hy0) hf2
  have hctd : Bt.cts (pus L) (x.ks.drop hf2) ≤ Bt.cts (pus L) x.ks := by
    have e9 : Bt.cts (pus L) x.ks = Bt.cts (pus L) (x.ks.take hf2) + Bt.cts (pus L) (x.ks.drop hf2) := by
      unfold Bt.cts
      rw [← List.sum_append, ← List.map_append, List.take_append_drop]
    omega
  have s1 : (∀ j ∈ x.ks.take hf2, j ≠ k ∧ ∃ y, B2[j]? = some y ∧ 0 ≤ y.ct) ∧ Bt.cts B2 (x.ks.take hf2) ≤ 4611686018427387904 := by
    refine ⟨fun j hj => ?_, ?_⟩
    · obtain ⟨h1, h2, h3⟩ := kid j (List.mem_of_mem_take hj)
      rw [h2]
      exact ⟨h1, h3⟩
    · rw [Bt.cts_congr (A := pus L) (fun j hj => (kid j (List.mem_of_mem_take hj)).2.1)]
      exact Int.le_trans hctm.2 HSUM.out
  have s2 : (∀ j ∈ x.ks.drop hf2, j ≠ o ∧ ∃ y, (Bt.setSum B2 k)[j]? = some y ∧ 0 ≤ y.ct) ∧ Bt.cts (Bt.setSum B2 k) (x.ks.drop hf2) ≤ 4611686018427387904 := by
    refine ⟨fun j hj => ?_, ?_⟩
    · obtain ⟨h1, h2, h3⟩ := kid j (List.mem_of_mem_drop hj)
      rw [Bt.setSum_other h1, h2]
      refine ⟨fun e => ?_, h3⟩
      obtain ⟨_, h5, y, hy, _⟩ := HKK.out j (List.mem_of_mem_drop hj)
      have hjl := (List.getElem?_eq_some_iff.1 hy).1
      rcases m7 with h | h
      · exact h5 (e ▸ h)
      · omega
    · rw [Bt.cts_congr (A := pus L) (fun j hj => by rw [Bt.setSum_other (kid j (List.mem_of_mem_drop hj)).1]; exact (kid j (List.mem_of_mem_drop hj)).2.1)]
      exact Int.le_trans hctd HSUM.out
  have HS1 := Lib.hid s1
  have HS2 := Lib.hid s2
  clear s1 s2 kid hctm hctd
  have HF9 := Lib.hid hF
  clear hF2 hyF t3 t2 t1 r1 r2 k2 hF1 hvl hfin m1 m2 m3 m4 m5 m6 m7 m8 m9 hF em
  go_at_call 49
  refine hmk.mono ?_
  rintro e w2 ⟨rfl, ta2, ch2⟩
  have HMK := Lib.hid mk0
  have HMO := Lib.hid mo0
  have HC2 := Lib.hid ch2
  have HA2 := Lib.hid ta2
  clear mk0 mo0 ch2 ta2 hmk b0 n0 n1 n2 z0 z1 z2 xc0 xc1 xc2 xz0 yc0 yc1 yc2 yz0 hfr hlE hlen2
  go_wp2_with fail
  go_at_call 50
  refine (sum_ta HA2.out HMK.out HS1.out.1 (by have := HS1.out.2; simpa using this)).mono ?_
  rintro e w3 ⟨rfl, ta3, ch3⟩
  have HC3' := Lib.hid ch3
  have HA3 := Lib.hid ta3
  clear ta3 ch3
  go_wp2_with fail
  go_at_call 50
  refine (sum_ta HA3.out HMO.out HS2.out.1 (by have := HS2.out.2; simpa using this)).mono ?_
  rintro e w4 ⟨rfl, ta4, ch4⟩
  have HC4 := Lib.hid ch4
  have HA4 := Lib.hid ta4
  clear ta4 ch4
  go_wp2
  go_ret
  rw [HFIN.out]
  exact ⟨rfl, HA4.out, ((HC3.out.trans HC2.out).trans HC3'.out).trans HC4.out⟩
end Go.Proofs.YtdhemdeapphfoaaGreatDoor
