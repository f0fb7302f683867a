/- The tree's mend, walked: its five ways. -/
import Derived.Test.YtdhemdeapphfoaaGreatDoorBtO
set_option linter.unusedVariables false
set_option linter.unusedSimpArgs false
namespace Go.Proofs.YtdhemdeapphfoaaGreatDoor
open Go.RowKit Go.Shelf Go.Proofs.YtdhemdeapphfoaaGreatDoorW.PrintWords Go.Proofs.YtdhemdeapphfoaaGreatDoorW.PrintLast

theorem cell_old2 {w : World} {a : Addr} {v : Value} (h : w.cell? a = some v) (o o2 : Obj) (q : Nat) : ((((w.alloc o).alloc o2).drewN q).drew).cell? a = some v := by
  have hb := World.block_lt_of_cell? w a h
  refine Eq.trans (World.cell?_of_block (w := w) ?_) h
  exact (Below.heap_alloc _ _ _ (by simp; omega)).trans (Below.heap_alloc _ _ _ hb)

set_option maxRecDepth 100000 in
set_option maxHeartbeats 1000000 in
theorem mend_none {w : World} {F : Nat → Prop} {B : Nat} {A : List Bt.Nd} {fr : List Nat} {root : Nat} (h : Ta w F B A fr root) {k n : Nat} {xk : Bt.Nd} (hxk : A[k]? = some xk) (hn : n < xk.ks.length) (hbk : xk.ks.length ≤ 100000000000)
    (hk : ∀ j ∈ xk.ks, ∃ x, A[j]? = some x ∧ x.ls.length ≤ 1000000000000 ∧ x.ks.length ≤ 1000000000000) (hF : ∀ b, w.heap.size ≤ b → F b) (h4 : 4 ≤ szk A xk.ks n) :
    Calls Tryz.prog 184 #[.pointer (some ⟨B, 0, none⟩), .int .i64 k, .int .i64 n] w fun e w' => e = .returned (.tuple #[]) ∧ Ta w' F B A fr root ∧ Chg F w w' := by
  obtain ⟨N, cap, fv, bytes, L, hT, rfl⟩ := h
  obtain ⟨zk, hzk, rfl⟩ := pus_some hxk
  have hn : n < zk.ks.length := hn
  have hbk : zk.ks.length ≤ 100000000000 := hbk
  have hk : ∀ j ∈ zk.ks, ∃ x, L[j]? = some x ∧ x.ls.length ≤ 1000000000000 ∧ x.ks.length ≤ 1000000000000 := fun j hj => by
    obtain ⟨x, hx, h1, h2⟩ := hk j hj
    obtain ⟨z, hz, rfl⟩ := pus_some hx
    exact ⟨z, hz, h1, h2⟩
  have b0 := hT.c0
  have k1 := hT.n1 hzk
  have hkl := (List.getElem?_eq_some_iff.1 hzk).1
  have hfit := hT.fit
  have hle := hT.le
  unfold maxLen at hfit
  have hkl' : (k : Int) < L.length := by omega
  obtain ⟨Ak, ck, hvk, hlk, hmk, hAk⟩ := (hT.kids _ zk hzk).slice
  rw [cK_len] at hvk hlk hAk
  obtain ⟨g, rfl⟩ := hAk (by omega)
  rw [hvk] at k1
  unfold maxLen at hmk
  have hBl := hT.ltB
  have hNl := hT.ltN
  have hrow := hT.kids _ zk hzk
  rw [hvk] at hrow
  have hgl : g < w.heap.size := hrow.lt g rfl
  have HM : Hid (MendW ((w.alloc (.cells #[.pointer (some ⟨B, 0, none⟩)] 38)).alloc (.cells #[.slice (some ⟨g, 0, none⟩) zk.ks.length ck] 72)) F B N cap fv L fr root bytes g ck (w.heap.size + 1) w.heap.size zk.ks) :=
    ⟨(hT.alloc _).alloc _, (hrow.alloc _).alloc _, by rw [blk_cell (new_at _ _ (by simp) _)]; rfl, by
      rw [blk_cell ((Below.heap_alloc _ _ _ (by simp)).trans (heap_alloc_new w _))]
      rfl⟩
  have hsz := fun (q : Nat) (i : Int) (hi : -4611686018427387904 ≤ i ∧ i ≤ 4611686018427387904) => mendsz (HM.out.drewN q) hk i hi
  have hsz0 := mendsz HM.out hk n (by omega)
  obtain ⟨s0, hs0⟩ : ∃ s0, s0 = szk (pus L) zk.ks n := ⟨_, rfl⟩
  rw [← hs0] at hsz0
  have h4' : 4 ≤ s0 := by rw [hs0]; exact h4
  have HS0 := Lib.hid hsz0
  have HT := Lib.hid hT
  have HF := Lib.hid hF
  clear hT hF hzk hvk hAk hrow hk hsz hsz0 hs0 hxk h4
  go_enter Tryz.func184, Tryz.ntmps184
  go_wp2_with fail
  go_at_call 188
  refine HS0.out.mono ?_
  rintro e w1 ⟨rfl, q0, rfl⟩
  go_wp2_with fail
  go_end0
  exact ⟨rfl, ((((HT.out.alloc _).alloc _).drewN _).ta rfl), (((Chg.refl F w).alloc _).alloc _).drewN _⟩

set_option maxRecDepth 100000 in
set_option maxHeartbeats 1000000 in
theorem mend_back {w : World} {F : Nat → Prop} {B : Nat} {A : List Bt.Nd} {fr : List Nat} {root : Nat} (h : Ta w F B A fr root) {k n : Nat} {xk : Bt.Nd} (hxk : A[k]? = some xk) (hn : n < xk.ks.length) (hbk : xk.ks.length ≤ 100000000000)
    (hk : ∀ j ∈ xk.ks, ∃ x, A[j]? = some x ∧ x.ls.length ≤ 1000000000000 ∧ x.ks.length ≤ 1000000000000) (hF : ∀ b, w.heap.size ≤ b → F b) (h4 : szk A xk.ks n < 4) (h5 : 4 < szk A xk.ks ((n : Int) - 1)) {Q : World → Prop}
    (hm : ∀ W, Ta W F B A fr root → (∀ b, W.heap.size ≤ b → F b) → Calls Tryz.prog 189 #[.pointer (some ⟨B, 0, none⟩), .int .i64 (xk.ks.getD (n - 1) 0), .int .i64 (xk.ks.getD n 0), .bool true] W fun e w' => e = .returned (.tuple #[]) ∧ Q w' ∧ Chg F W w') :
    Calls Tryz.prog 184 #[.pointer (some ⟨B, 0, none⟩), .int .i64 k, .int .i64 n] w fun e w' => e = .returned (.tuple #[]) ∧ Q w' ∧ Chg F w w' := by
  obtain ⟨N, cap, fv, bytes, L, hT, rfl⟩ := h
  obtain ⟨zk, hzk, rfl⟩ := pus_some hxk
  have hn : n < zk.ks.length := hn
  have hbk : zk.ks.length ≤ 100000000000 := hbk
  have hk : ∀ j ∈ zk.ks, ∃ x, L[j]? = some x ∧ x.ls.length ≤ 1000000000000 ∧ x.ks.length ≤ 1000000000000 := fun j hj => by
    obtain ⟨x, hx, h1, h2⟩ := hk j hj
    obtain ⟨z, hz, rfl⟩ := pus_some hx
    exact ⟨z, hz, h1, h2⟩
  have b0 := hT.c0
  have k1 := hT.n1 hzk
  have hkl := (List.getElem?_eq_some_iff.1 hzk).1
  have hfit := hT.fit
  have hle := hT.le
  unfold maxLen at hfit
  have hkl' : (k : Int) < L.length := by omega
  obtain ⟨Ak, ck, hvk, hlk, hmk, hAk⟩ := (hT.kids _ zk hzk).slice
  rw [cK_len] at hvk hlk hAk
  obtain ⟨g, rfl⟩ := hAk (by omega)
  rw [hvk] at k1
  unfold maxLen at hmk
  have hBl := hT.ltB
  have hNl := hT.ltN
  have hrow := hT.kids _ zk hzk
  rw [hvk] at hrow
  have hgl : g < w.heap.size := hrow.lt g rfl
  have HM : Hid (MendW ((w.alloc (.cells #[.pointer (some ⟨B, 0, none⟩)] 38)).alloc (.cells #[.slice (some ⟨g, 0, none⟩) zk.ks.length ck] 72)) F B N cap fv L fr root bytes g ck (w.heap.size + 1) w.heap.size zk.ks) :=
    ⟨(hT.alloc _).alloc _, (hrow.alloc _).alloc _, by rw [blk_cell (new_at _ _ (by simp) _)]; rfl, by
      rw [blk_cell ((Below.heap_alloc _ _ _ (by simp)).trans (heap_alloc_new w _))]
      rfl⟩
  have hsz := fun (q : Nat) (i : Int) (hi : -4611686018427387904 ≤ i ∧ i ≤ 4611686018427387904) => mendsz (HM.out.drewN q) hk i hi
  have hsz0 := mendsz HM.out hk n (by omega)
  obtain ⟨s0, hs0⟩ : ∃ s0, s0 = szk (pus L) zk.ks n := ⟨_, rfl⟩
  rw [← hs0] at hsz0
  have h4' : s0 < 4 := by rw [hs0]; exact h4
  have HS0 := Lib.hid hsz0
  have hsz1 := fun q => hsz q ((n : Int) - 1) (by omega)
  obtain ⟨s1, hs1⟩ : ∃ s1, s1 = szk (pus L) zk.ks ((n : Int) - 1) := ⟨_, rfl⟩
  rw [← hs1] at hsz1
  have h5' : 4 < s1 := by rw [hs1]; exact h5
  have HS1 := Lib.hid hsz1
  clear hsz1 hs1
  have HROW := Lib.hid hrow
  have HPOS := Lib.hid (show 1 ≤ n from by
    have h9 : szk (pus L) zk.ks ((n : Int) - 1) ≠ 0 := by
      intro e
      have h8 := h5
      rw [show (NV.pu zk).ks = zk.ks from rfl, e] at h8
      omega
    unfold szk at h9
    by_cases hc : 0 ≤ (n : Int) - 1 ∧ (n : Int) - 1 < zk.ks.length
    · omega
    · rw [if_neg hc] at h9
      exact absurd rfl h9)
  have HT := Lib.hid hT
  have HF := Lib.hid hF
  have HCALL := Lib.hid hm
  clear hm
  clear hT hF hzk hvk hAk hrow hk hsz hsz0 hs0 hxk h4 h5
  go_enter Tryz.func184, Tryz.ntmps184
  go_wp2_with fail
  go_at_call 188
  refine HS0.out.mono ?_
  rintro e w1 ⟨rfl, q0, rfl⟩
  go_wp2_with fail
  go_at_call 188
  refine (HS1.out q0).mono ?_
  rintro e w1 ⟨rfl, q1, rfl⟩
  go_wp2_with fail
  have hrow0 := HROW.out
  have hpos : 1 ≤ n := HPOS.out
  have ke1 := hrow0.cell (j := (n - 1)) (cK_at (show zk.ks[(n - 1)]? = some (zk.ks.getD (n - 1) 0) by rw [List.getD_eq_getElem?_getD, List.getElem?_eq_getElem (by omega)]; rfl))
  have ke2 := hrow0.cell (j := n) (cK_at (show zk.ks[n]? = some (zk.ks.getD n 0) by rw [List.getD_eq_getElem?_getD, List.getElem?_eq_getElem (by omega)]; rfl))
  obtain ⟨a1, ha1⟩ : ∃ a1, a1 = zk.ks.getD (n - 1) 0 := ⟨_, rfl⟩
  obtain ⟨a2, ha2⟩ : ∃ a2, a2 = zk.ks.getD n 0 := ⟨_, rfl⟩
  rw [← ha1] at ke1
  rw [← ha2] at ke2
  have HCA := HCALL.out
  simp only [NV.pu] at HCA
  rw [← ha1, ← ha2] at HCA
  have HCB := Lib.hid HCA
  have hw0 : (0 : Int) ≤ (n : Int) - 1 := by omega
  have hw2 : (n : Int) - 1 < zk.ks.length := by omega
  have hw5 : (n : Int) < zk.ks.length := by omega
  have hw3 : ((n : Int) - 1).toNat = (n - 1) := by omega
  have hw1 : IntKind.i64.wrap ((n : Int) - 1) = (n : Int) - 1 := by rw [IntKind.wrap_i64]; omega
  clear ha1 ha2 hrow0 HCA
  have hw6 : (1 : Int) ≤ n := by omega
  have hw7 : (n : Int) < zk.ks.length + 1 := by omega
  refine wp_region_still_tail 10 (by kernel_rfl) (by kernel_rfl) ?_
  change wpStill _ _ ((((w.alloc (.cells #[.pointer (some ⟨B, 0, none⟩)] 38)).alloc (.cells #[.slice (some ⟨g, 0, none⟩) zk.ks.length ck] 72)).drewN (q0 + q1)).drew) (fun a' => wpList _ _ _ _ a' ((((w.alloc (.cells #[.pointer (some ⟨B, 0, none⟩)] 38)).alloc (.cells #[.slice (some ⟨g, 0, none⟩) zk.ks.length ck] 72)).drewN (q0 + q1)).drew)) _ _
  obtain ⟨W3, hW3⟩ : ∃ W3, W3 = ((((w.alloc (.cells #[.pointer (some ⟨B, 0, none⟩)] 38)).alloc (.cells #[.slice (some ⟨g, 0, none⟩) zk.ks.length ck] 72)).drewN (q0 + q1)).drew) := ⟨_, rfl⟩
  have hM3 : MendW W3 F B N cap fv L fr root bytes g ck (w.heap.size + 1) w.heap.size zk.ks := by rw [hW3]; exact (HM.out.drewN _).drewN 1
  have hC3 : Chg F w W3 := by rw [hW3]; exact ((((Chg.refl F w).alloc _).alloc _).drewN _).drew
  have e1 : W3.cell? ⟨g, (n - 1), none⟩ = some (.int .i64 a1) := by rw [hW3]; exact cell_old2 ke1 _ _ _
  have e2 : W3.cell? ⟨g, n, none⟩ = some (.int .i64 a2) := by rw [hW3]; exact cell_old2 ke2 _ _ _
  rw [← hW3]
  clear hW3 ke1 ke2
  have m1 := hM3.kids
  have m2 := hM3.tree
  have HM3 := Lib.hid hM3
  have HC3 := Lib.hid hC3
  clear hM3 hC3
  simp only [List.take_succ_cons, List.take_zero, List.drop_succ_cons, List.drop_zero]
  repeat still_step
  refine wpStill_nil ?_
  have hF3 : ∀ b, W3.heap.size ≤ b → F b := fun b hb => HF.out b (Nat.le_trans HC3.out.size hb)
  have HF3 := Lib.hid hF3
  clear hw0 hw1 hw2 hw3 hw5 e1 e2 m1 m2 hF3
  go_wp2_with fail
  go_at_call 189
  refine (HCB.out W3 (HM3.out.tw.ta rfl) HF3.out).mono ?_
  rintro e w2 ⟨rfl, hq, hc⟩
  have HQ := Lib.hid hq
  have HC := Lib.hid (HC3.out.trans hc)
  clear hq hc
  go_wp2
  go_end0
  exact ⟨rfl, HQ.out, HC.out⟩

set_option maxRecDepth 100000 in
set_option maxHeartbeats 1000000 in
theorem mend_fore {w : World} {F : Nat → Prop} {B : Nat} {A : List Bt.Nd} {fr : List Nat} {root : Nat} (h : Ta w F B A fr root) {k n : Nat} {xk : Bt.Nd} (hxk : A[k]? = some xk) (hn : n < xk.ks.length) (hbk : xk.ks.length ≤ 100000000000)
    (hk : ∀ j ∈ xk.ks, ∃ x, A[j]? = some x ∧ x.ls.length ≤ 1000000000000 ∧ x.ks.length ≤ 1000000000000) (hF : ∀ b, w.heap.size ≤ b → F b) (h4 : szk A xk.ks n < 4) (h5 : szk A xk.ks ((n : Int) - 1) ≤ 4) (h6 : 4 < szk A xk.ks ((n : Int) + 1)) {Q : World → Prop}
    (hm : ∀ W, Ta W F B A fr root → (∀ b, W.heap.size ≤ b → F b) → Calls Tryz.prog 189 #[.pointer (some ⟨B, 0, none⟩), .int .i64 (xk.ks.getD (n + 1) 0), .int .i64 (xk.ks.getD n 0), .bool false] W fun e w' => e = .returned (.tuple #[]) ∧ Q w' ∧ Chg F W w') :
    Calls Tryz.prog 184 #[.pointer (some ⟨B, 0, none⟩), .int .i64 k, .int .i64 n] w fun e w' => e = .returned (.tuple #[]) ∧ Q w' ∧ Chg F w w' := by
  obtain ⟨N, cap, fv, bytes, L, hT, rfl⟩ := h
  obtain ⟨zk, hzk, rfl⟩ := pus_some hxk
  have hn : n < zk.ks.length := hn
  have hbk : zk.ks.length ≤ 100000000000 := hbk
  have hk : ∀ j ∈ zk.ks, ∃ x, L[j]? = some x ∧ x.ls.length ≤ 1000000000000 ∧ x.ks.length ≤ 1000000000000 := fun j hj => by
    obtain ⟨x, hx, h1, h2⟩ := hk j hj
    obtain ⟨z, hz, rfl⟩ := pus_some hx
    exact ⟨z, hz, h1, h2⟩
  have b0 := hT.c0
  have k1 := hT.n1 hzk
  have hkl := (List.getElem?_eq_some_iff.1 hzk).1
  have hfit := hT.fit
  have hle := hT.le
  unfold maxLen at hfit
  have hkl' : (k : Int) < L.length := by omega
  obtain ⟨Ak, ck, hvk, hlk, hmk, hAk⟩ := (hT.kids _ zk hzk).slice
  rw [cK_len] at hvk hlk hAk
  obtain ⟨g, rfl⟩ := hAk (by omega)
  rw [hvk] at k1
  unfold maxLen at hmk
  have hBl := hT.ltB
  have hNl := hT.ltN
  have hrow := hT.kids _ zk hzk
  rw [hvk] at hrow
  have hgl : g < w.heap.size := hrow.lt g rfl
  have HM : Hid (MendW ((w.alloc (.cells #[.pointer (some ⟨B, 0, none⟩)] 38)).alloc (.cells #[.slice (some ⟨g, 0, none⟩) zk.ks.length ck] 72)) F B N cap fv L fr root bytes g ck (w.heap.size + 1) w.heap.size zk.ks) :=
    ⟨(hT.alloc _).alloc _, (hrow.alloc _).alloc _, by rw [blk_cell (new_at _ _ (by simp) _)]; rfl, by
      rw [blk_cell ((Below.heap_alloc _ _ _ (by simp)).trans (heap_alloc_new w _))]
      rfl⟩
  have hsz := fun (q : Nat) (i : Int) (hi : -4611686018427387904 ≤ i ∧ i ≤ 4611686018427387904) => mendsz (HM.out.drewN q) hk i hi
  have hsz0 := mendsz HM.out hk n (by omega)
  obtain ⟨s0, hs0⟩ : ∃ s0, s0 = szk (pus L) zk.ks n := ⟨_, rfl⟩
  rw [← hs0] at hsz0
  have h4' : s0 < 4 := by rw [hs0]; exact h4
  have HS0 := Lib.hid hsz0
  have hsz1 := fun q => hsz q ((n : Int) - 1) (by omega)
  obtain ⟨s1, hs1⟩ : ∃ s1, s1 = szk (pus L) zk.ks ((n : Int) - 1) := ⟨_, rfl⟩
  rw [← hs1] at hsz1
  have h5' : s1 ≤ 4 := by rw [hs1]; exact h5
  have HS1 := Lib.hid hsz1
  clear hsz1 hs1
  have hsz2 := fun q => hsz q ((n : Int) + 1) (by omega)
  obtain ⟨s2, hs2⟩ : ∃ s2, s2 = szk (pus L) zk.ks ((n : Int) + 1) := ⟨_, rfl⟩
  rw [← hs2] at hsz2
  have h6' : 4 < s2 := by rw [hs2]; exact h6
  have HS2 := Lib.hid hsz2
  clear hsz2 hs2
  have HROW := Lib.hid hrow
  have HPOS := Lib.hid (show n + 1 < zk.ks.length from by
    have h9 : szk (pus L) zk.ks ((n : Int) + 1) ≠ 0 := by
      intro e
      have h8 := h6
      rw [show (NV.pu zk).ks = zk.ks from rfl, e] at h8
      omega
    unfold szk at h9
    by_cases hc : 0 ≤ (n : Int) + 1 ∧ (n : Int) + 1 < zk.ks.length
    · omega
    · rw [if_neg hc] at h9
      exact absurd rfl h9)
  have HT := Lib.hid hT
  have HF := Lib.hid hF
  have HCALL := Lib.hid hm
  clear hm
  clear hT hF hzk hvk hAk hrow hk hsz hsz0 hs0 hxk h4 h5 h6
  go_enter Tryz.func184, Tryz.ntmps184
  go_wp2_with fail
  go_at_call 188
  refine HS0.out.mono ?_
  rintro e w1 ⟨rfl, q0, rfl⟩
  go_wp2_with fail
  go_at_call 188
  refine (HS1.out q0).mono ?_
  rintro e w1 ⟨rfl, q1, rfl⟩
  go_wp2_with fail
  go_at_call 188
  refine (HS2.out _).mono ?_
  rintro e w1 ⟨rfl, q2, rfl⟩
  go_wp2_with fail
  have hrow0 := HROW.out
  have hpos : n + 1 < zk.ks.length := HPOS.out
  have ke1 := hrow0.cell (j := (n + 1)) (cK_at (show zk.ks[(n + 1)]? = some (zk.ks.getD (n + 1) 0) by rw [List.getD_eq_getElem?_getD, List.getElem?_eq_getElem (by omega)]; rfl))
  have ke2 := hrow0.cell (j := n) (cK_at (show zk.ks[n]? = some (zk.ks.getD n 0) by rw [List.getD_eq_getElem?_getD, List.getElem?_eq_getElem (by omega)]; rfl))
  obtain ⟨a1, ha1⟩ : ∃ a1, a1 = zk.ks.getD (n + 1) 0 := ⟨_, rfl⟩
  obtain ⟨a2, ha2⟩ : ∃ a2, a2 = zk.ks.getD n 0 := ⟨_, rfl⟩
  rw [← ha1] at ke1
  rw [← ha2] at ke2
  have HCA := HCALL.out
  simp only [NV.pu] at HCA
  rw [← ha1, ← ha2] at HCA
  have HCB := Lib.hid HCA
  have hw0 : (0 : Int) ≤ (n : Int) + 1 := by omega
  have hw2 : (n : Int) + 1 < zk.ks.length := by omega
  have hw5 : (n : Int) < zk.ks.length := by omega
  have hw3 : ((n : Int) + 1).toNat = (n + 1) := by omega
  have hw1 : IntKind.i64.wrap ((n : Int) + 1) = (n : Int) + 1 := by rw [IntKind.wrap_i64]; omega
  clear ha1 ha2 hrow0 HCA
  refine wp_region_still_tail 10 (by kernel_rfl) (by kernel_rfl) ?_
  change wpStill _ _ ((((w.alloc (.cells #[.pointer (some ⟨B, 0, none⟩)] 38)).alloc (.cells #[.slice (some ⟨g, 0, none⟩) zk.ks.length ck] 72)).drewN (q0 + q1 + q2)).drew) (fun a' => wpList _ _ _ _ a' ((((w.alloc (.cells #[.pointer (some ⟨B, 0, none⟩)] 38)).alloc (.cells #[.slice (some ⟨g, 0, none⟩) zk.ks.length ck] 72)).drewN (q0 + q1 + q2)).drew)) _ _
  obtain ⟨W3, hW3⟩ : ∃ W3, W3 = ((((w.alloc (.cells #[.pointer (some ⟨B, 0, none⟩)] 38)).alloc (.cells #[.slice (some ⟨g, 0, none⟩) zk.ks.length ck] 72)).drewN (q0 + q1 + q2)).drew) := ⟨_, rfl⟩
  have hM3 : MendW W3 F B N cap fv L fr root bytes g ck (w.heap.size + 1) w.heap.size zk.ks := by rw [hW3]; exact (HM.out.drewN _).drewN 1
  have hC3 : Chg F w W3 := by rw [hW3]; exact ((((Chg.refl F w).alloc _).alloc _).drewN _).drew
  have e1 : W3.cell? ⟨g, (n + 1), none⟩ = some (.int .i64 a1) := by rw [hW3]; exact cell_old2 ke1 _ _ _
  have e2 : W3.cell? ⟨g, n, none⟩ = some (.int .i64 a2) := by rw [hW3]; exact cell_old2 ke2 _ _ _
  rw [← hW3]
  clear hW3 ke1 ke2
  have m1 := hM3.kids
  have m2 := hM3.tree
  have HM3 := Lib.hid hM3
  have HC3 := Lib.hid hC3
  clear hM3 hC3
  simp only [List.take_succ_cons, List.take_zero, List.drop_succ_cons, List.drop_zero]
  repeat still_step
  refine wpStill_nil ?_
  have hF3 : ∀ b, W3.heap.size ≤ b → F b := fun b hb => HF.out b (Nat.le_trans HC3.out.size hb)
  have HF3 := Lib.hid hF3
  clear hw0 hw1 hw2 hw3 hw5 e1 e2 m1 m2 hF3
  go_wp2_with fail
  go_at_call 189
  refine (HCB.out W3 (HM3.out.tw.ta rfl) HF3.out).mono ?_
  rintro e w2 ⟨rfl, hq, hc⟩
  have HQ := Lib.hid hq
  have HC := Lib.hid (HC3.out.trans hc)
  clear hq hc
  go_wp2
  go_end0
  exact ⟨rfl, HQ.out, HC.out⟩

set_option maxRecDepth 100000 in
set_option maxHeartbeats 1000000 in
theorem mend_mb {w : World} {F : Nat → Prop} {B : Nat} {A : List Bt.Nd} {fr : List Nat} {root : Nat} (h : Ta w F B A fr root) {k n : Nat} {xk : Bt.Nd} (hxk : A[k]? = some xk) (hn : n < xk.ks.length) (hbk : xk.ks.length ≤ 100000000000)
    (hk : ∀ j ∈ xk.ks, ∃ x, A[j]? = some x ∧ x.ls.length ≤ 1000000000000 ∧ x.ks.length ≤ 1000000000000) (hF : ∀ b, w.heap.size ≤ b → F b) (h4 : szk A xk.ks n < 4) (h5 : szk A xk.ks ((n : Int) - 1) ≤ 4) (h6 : szk A xk.ks ((n : Int) + 1) ≤ 4) (hn0 : 0 < n) {Q : World → Prop}
    (hm : ∀ W, Ta W F B A fr root → (∀ b, W.heap.size ≤ b → F b) → Calls Tryz.prog 190 #[.pointer (some ⟨B, 0, none⟩), .int .i64 k, .int .i64 ((n : Int) - 1)] W fun e w' => e = .returned (.tuple #[]) ∧ Q w' ∧ Chg F W w') :
    Calls Tryz.prog 184 #[.pointer (some ⟨B, 0, none⟩), .int .i64 k, .int .i64 n] w fun e w' => e = .returned (.tuple #[]) ∧ Q w' ∧ Chg F w w' := by
  obtain ⟨N, cap, fv, bytes, L, hT, rfl⟩ := h
  obtain ⟨zk, hzk, rfl⟩ := pus_some hxk
  have hn : n < zk.ks.length := hn
  have hbk : zk.ks.length ≤ 100000000000 := hbk
  have hk : ∀ j ∈ zk.ks, ∃ x, L[j]? = some x ∧ x.ls.length ≤ 1000000000000 ∧ x.ks.length ≤ 1000000000000 := fun j hj => by
    obtain ⟨x, hx, h1, h2⟩ := hk j hj
    obtain ⟨z, hz, rfl⟩ := pus_some hx
    exact ⟨z, hz, h1, h2⟩
  have b0 := hT.c0
  have k1 := hT.n1 hzk
  have hkl := (List.getElem?_eq_some_iff.1 hzk).1
  have hfit := hT.fit
  have hle := hT.le
  unfold maxLen at hfit
  have hkl' : (k : Int) < L.length := by omega
  obtain ⟨Ak, ck, hvk, hlk, hmk, hAk⟩ := (hT.kids _ zk hzk).slice
  rw [cK_len] at hvk hlk hAk
  obtain ⟨g, rfl⟩ := hAk (by omega)
  rw [hvk] at k1
  unfold maxLen at hmk
  have hBl := hT.ltB
  have hNl := hT.ltN
  have hrow := hT.kids _ zk hzk
  rw [hvk] at hrow
  have hgl : g < w.heap.size := hrow.lt g rfl
  have HM : Hid (MendW ((w.alloc (.cells #[.pointer (some ⟨B, 0, none⟩)] 38)).alloc (.cells #[.slice (some ⟨g, 0, none⟩) zk.ks.length ck] 72)) F B N cap fv L fr root bytes g ck (w.heap.size + 1) w.heap.size zk.ks) :=
    ⟨(hT.alloc _).alloc _, (hrow.alloc _).alloc _, by rw [blk_cell (new_at _ _ (by simp) _)]; rfl, by
      rw [blk_cell ((Below.heap_alloc _ _ _ (by simp)).trans (heap_alloc_new w _))]
      rfl⟩
  have hsz := fun (q : Nat) (i : Int) (hi : -4611686018427387904 ≤ i ∧ i ≤ 4611686018427387904) => mendsz (HM.out.drewN q) hk i hi
  have hsz0 := mendsz HM.out hk n (by omega)
  obtain ⟨s0, hs0⟩ : ∃ s0, s0 = szk (pus L) zk.ks n := ⟨_, rfl⟩
  rw [← hs0] at hsz0
  have h4' : s0 < 4 := by rw [hs0]; exact h4
  have HS0 := Lib.hid hsz0
  have hsz1 := fun q => hsz q ((n : Int) - 1) (by omega)
  obtain ⟨s1, hs1⟩ : ∃ s1, s1 = szk (pus L) zk.ks ((n : Int) - 1) := ⟨_, rfl⟩
  rw [← hs1] at hsz1
  have h5' : s1 ≤ 4 := by rw [hs1]; exact h5
  have HS1 := Lib.hid hsz1
  clear hsz1 hs1
  have hsz2 := fun q => hsz q ((n : Int) + 1) (by omega)
  obtain ⟨s2, hs2⟩ : ∃ s2, s2 = szk (pus L) zk.ks ((n : Int) + 1) := ⟨_, rfl⟩
  rw [← hs2] at hsz2
  have h6' : s2 ≤ 4 := by rw [hs2]; exact h6
  have HS2 := Lib.hid hsz2
  clear hsz2 hs2
  have HT := Lib.hid hT
  have HF := Lib.hid hF
  have HCALL := Lib.hid hm
  clear hm
  clear hT hF hzk hvk hAk hrow hk hsz hsz0 hs0 hxk h4 h5 h6
  go_enter Tryz.func184, Tryz.ntmps184
  go_wp2_with fail
  go_at_call 188
  refine HS0.out.mono ?_
  rintro e w1 ⟨rfl, q0, rfl⟩
  go_wp2_with fail
  go_at_call 188
  refine (HS1.out q0).mono ?_
  rintro e w1 ⟨rfl, q1, rfl⟩
  go_wp2_with fail
  go_at_call 188
  refine (HS2.out _).mono ?_
  rintro e w1 ⟨rfl, q2, rfl⟩
  go_wp2_with fail
  go_at_call 190
  refine (HCALL.out _ ((((HT.out.alloc _).alloc _).drewN _).ta rfl) (fun b hb => HF.out b (by simp at hb; omega))).mono ?_
  rintro e w2 ⟨rfl, hq, hc⟩
  have HQ := Lib.hid hq
  have HC := Lib.hid (((((Chg.refl F w).alloc _).alloc _).drewN _).trans hc)
  clear hq hc
  go_wp2
  go_end0
  exact ⟨rfl, HQ.out, HC.out⟩

set_option maxRecDepth 100000 in
set_option maxHeartbeats 1000000 in
theorem mend_m0 {w : World} {F : Nat → Prop} {B : Nat} {A : List Bt.Nd} {fr : List Nat} {root : Nat} (h : Ta w F B A fr root) {k n : Nat} {xk : Bt.Nd} (hxk : A[k]? = some xk) (hn : n < xk.ks.length) (hbk : xk.ks.length ≤ 100000000000)
    (hk : ∀ j ∈ xk.ks, ∃ x, A[j]? = some x ∧ x.ls.length ≤ 1000000000000 ∧ x.ks.length ≤ 1000000000000) (hF : ∀ b, w.heap.size ≤ b → F b) (h4 : szk A xk.ks n < 4) (h5 : szk A xk.ks ((n : Int) - 1) ≤ 4) (h6 : szk A xk.ks ((n : Int) + 1) ≤ 4) (hn0 : n < 1) {Q : World → Prop}
    (hm : ∀ W, Ta W F B A fr root → (∀ b, W.heap.size ≤ b → F b) → Calls Tryz.prog 190 #[.pointer (some ⟨B, 0, none⟩), .int .i64 k, .int .i64 (n : Nat)] W fun e w' => e = .returned (.tuple #[]) ∧ Q w' ∧ Chg F W w') :
    Calls Tryz.prog 184 #[.pointer (some ⟨B, 0, none⟩), .int .i64 k, .int .i64 n] w fun e w' => e = .returned (.tuple #[]) ∧ Q w' ∧ Chg F w w' := by
  obtain ⟨N, cap, fv, bytes, L, hT, rfl⟩ := h
  obtain ⟨zk, hzk, rfl⟩ := pus_some hxk
  have hn : n < zk.ks.length := hn
  have hbk : zk.ks.length ≤ 100000000000 := hbk
  have hk : ∀ j ∈ zk.ks, ∃ x, L[j]? = some x ∧ x.ls.length ≤ 1000000000000 ∧ x.ks.length ≤ 1000000000000 := fun j hj => by
    obtain ⟨x, hx, h1, h2⟩ := hk j hj
    obtain ⟨z, hz, rfl⟩ := pus_some hx
    exact ⟨z, hz, h1, h2⟩
  have b0 := hT.c0
  have k1 := hT.n1 hzk
  have hkl := (List.getElem?_eq_some_iff.1 hzk).1
  have hfit := hT.fit
  have hle := hT.le
  unfold maxLen at hfit
  have hkl' : (k : Int) < L.length := by omega
  obtain ⟨Ak, ck, hvk, hlk, hmk, hAk⟩ := (hT.kids _ zk hzk).slice
  rw [cK_len] at hvk hlk hAk
  obtain ⟨g, rfl⟩ := hAk (by omega)
  rw [hvk] at k1
  unfold maxLen at hmk
  have hBl := hT.ltB
  have hNl := hT.ltN
  have hrow := hT.kids _ zk hzk
  rw [hvk] at hrow
  have hgl : g < w.heap.size := hrow.lt g rfl
  have HM : Hid (MendW ((w.alloc (.cells #[.pointer (some ⟨B, 0, none⟩)] 38)).alloc (.cells #[.slice (some ⟨g, 0, none⟩) zk.ks.length ck] 72)) F B N cap fv L fr root bytes g ck (w.heap.size + 1) w.heap.size zk.ks) :=
    ⟨(hT.alloc _).alloc _, (hrow.alloc _).alloc _, by rw [blk_cell (new_at _ _ (by simp) _)]; rfl, by
      rw [blk_cell ((Below.heap_alloc _ _ _ (by simp)).trans (heap_alloc_new w _))]
      rfl⟩
  have hsz := fun (q : Nat) (i : Int) (hi : -4611686018427387904 ≤ i ∧ i ≤ 4611686018427387904) => mendsz (HM.out.drewN q) hk i hi
  have hsz0 := mendsz HM.out hk n (by omega)
  obtain ⟨s0, hs0⟩ : ∃ s0, s0 = szk (pus L) zk.ks n := ⟨_, rfl⟩
  rw [← hs0] at hsz0
  have h4' : s0 < 4 := by rw [hs0]; exact h4
  have HS0 := Lib.hid hsz0
  have hsz1 := fun q => hsz q ((n : Int) - 1) (by omega)
  obtain ⟨s1, hs1⟩ : ∃ s1, s1 = szk (pus L) zk.ks ((n : Int) - 1) := ⟨_, rfl⟩
  rw [← hs1] at hsz1
  have h5' : s1 ≤ 4 := by rw [hs1]; exact h5
  have HS1 := Lib.hid hsz1
  clear hsz1 hs1
  have hsz2 := fun q => hsz q ((n : Int) + 1) (by omega)
  obtain ⟨s2, hs2⟩ : ∃ s2, s2 = szk (pus L) zk.ks ((n : Int) + 1) := ⟨_, rfl⟩
  rw [← hs2] at hsz2
  have h6' : s2 ≤ 4 := by rw [hs2]; exact h6
  have HS2 := Lib.hid hsz2
  clear hsz2 hs2
  have HT := Lib.hid hT
  have HF := Lib.hid hF
  have HCALL := Lib.hid hm
  clear hm
  clear hT hF hzk hvk hAk hrow hk hsz hsz0 hs0 hxk h4 h5 h6
  go_enter Tryz.func184, Tryz.ntmps184
  go_wp2_with fail
  go_at_call 188
  refine HS0.out.mono ?_
  rintro e w1 ⟨rfl, q0, rfl⟩
  go_wp2_with fail
  go_at_call 188
  refine (HS1.out q0).mono ?_
  rintro e w1 ⟨rfl, q1, rfl⟩
  go_wp2_with fail
  go_at_call 188
  refine (HS2.out _).mono ?_
  rintro e w1 ⟨rfl, q2, rfl⟩
  go_wp2_with fail
  go_at_call 190
  refine (HCALL.out _ ((((HT.out.alloc _).alloc _).drewN _).ta rfl) (fun b hb => HF.out b (by simp at hb; omega))).mono ?_
  rintro e w2 ⟨rfl, hq, hc⟩
  have HQ := Lib.hid hq
  have HC := Lib.hid (((((Chg.refl F w).alloc _).alloc _).drewN _).trans hc)
  clear hq hc
  go_wp2
  go_end0
  exact ⟨rfl, HQ.out, HC.out⟩
end Go.Proofs.YtdhemdeapphfoaaGreatDoor
