/- The tree's small functions, walked: leaf, size, find, sum. -/
import Derived.Test.YtdhemdeapphfoaaGreatDoorBtW2
import Derived.Test.YtdhemdeapphfoaaGreatDoorBtPx
import Derived.RegionTactic
import Derived.BigRegion
import Derived.StillTailTactics
import Derived.LoopTactic
set_option linter.unusedVariables false
set_option linter.unusedSimpArgs false
namespace Go.Proofs.YtdhemdeapphfoaaGreatDoor
open Go.RowKit Go.Shelf Go.Proofs.YtdhemdeapphfoaaGreatDoorW.PrintWords Go.Proofs.YtdhemdeapphfoaaGreatDoorW.PrintLast

theorem cK_len (ks : List Nat) : (cK ks).length = ks.length := by simp [cK, kI, cI]
theorem cK_at {ks : List Nat} {j k : Nat} (h : ks[j]? = some k) : (cK ks)[j]? = some (.int .i64 k) := by
  simp [cK, kI, cI, h]

def leafB (x : NV) : Bool := decide (x.ks.length = 0)

set_option maxRecDepth 100000 in
theorem leaf_any {w : World} {F : Nat → Prop} {B N cap : Nat} {fv : Value} {L : List NV} {fr : List Nat} {root : Nat} {bytes : Int} (h : Tw w F B N cap fv L fr root bytes) {k : Nat} {x : NV} (hx : L[k]? = some x) :
    Calls Tryz.prog 66 #[.pointer (some ⟨N, k * 3, none⟩)] w fun e w' => e = .returned (.bool (leafB x)) ∧ w = w' := by
  have c1 := h.n1 hx
  obtain ⟨A, c, hv, hlc, hcm, _⟩ := (h.kids k x hx).slice
  rw [cK_len] at hv
  rw [hv] at c1
  unfold maxLen at hcm
  clear hv
  have HB := Lib.hid (show ((x.ks.length : Int) == 0) = leafB x by rw [Bool.eq_iff_iff]; simp [leafB])
  go_enter Tryz.func66, Tryz.ntmps66
  go_wp2
  go_ret
  exact ⟨congrArg (fun b => Ending.returned (.bool b)) HB.out, rfl⟩

set_option maxRecDepth 100000 in
theorem size_any {w : World} {F : Nat → Prop} {B N cap : Nat} {fv : Value} {L : List NV} {fr : List Nat} {root : Nat} {bytes : Int} (h : Tw w F B N cap fv L fr root bytes) {k : Nat} {x : NV} (hx : L[k]? = some x) (hl : x.ls.length ≤ 1000000000000) (hk : x.ks.length ≤ 1000000000000) :
    Calls Tryz.prog 100 #[.pointer (some ⟨N, k * 3, none⟩)] w fun e w' => e = .returned (.int .i64 ((x.ls.length + x.ks.length : Nat) : Int)) ∧ ∃ n, w' = w.drewN n := by
  have c0 := h.n0 hx
  have c1 := h.n1 hx
  obtain ⟨A, c, hv, hlc, hcm, _⟩ := (h.kids k x hx).slice
  obtain ⟨A2, c2, hv2, hlc2, hcm2, _⟩ := (h.lines k x hx).slice
  rw [cK_len] at hv
  rw [cS_len] at hv2
  rw [hv] at c1
  rw [hv2] at c0
  unfold maxLen at hcm hcm2
  clear hv hv2
  go_enter Tryz.func100, Tryz.ntmps100
  go_wp2
  go_quiet (fail)
  go_wp2
  go_ret
  exact ⟨by simp, nq, rfl⟩

set_option maxRecDepth 100000 in
theorem len_any {w : World} {F : Nat → Prop} {B N cap : Nat} {fv : Value} {L : List NV} {fr : List Nat} {root : Nat} {bytes : Int} (h : Tw w F B N cap fv L fr root bytes) {x : NV} (hx : L[root]? = some x) :
    Calls Tryz.prog 22 #[.pointer (some ⟨B, 0, none⟩)] w fun e w' => e = .returned (.int .i64 x.ct) ∧ ∃ n, w' = w.drewN n := by
  have b0 := h.c0
  have b2 := h.c2
  have c2 := h.n2 hx
  have hr := (List.getElem?_eq_some_iff.1 hx).1
  have hf := h.fit
  have hle := h.le
  unfold maxLen at hf
  have hr' : (root : Int) < L.length := by omega
  go_enter Tryz.func22, Tryz.ntmps22
  go_wp2
  go_quiet (fail)
  go_wp2
  go_ret
  exact ⟨rfl, nq, rfl⟩

theorem pus_at {L : List NV} {k : Nat} {x : NV} (h : L[k]? = some x) : (pus L)[k]? = some x.pu := by simp [pus, h]
theorem pus_nd {L : List NV} {k : Nat} {x : NV} (h : L[k]? = some x) : Bt.nd (pus L) k = x.pu := Bt.nd_some (pus_at h)
theorem ret2_ints {a b a' b' : Int} (h : a = a') (h2 : b = b') : Ending.returned (.tuple #[.int .i64 a, .int .i64 b]) = .returned (.tuple #[.int .i64 a', .int .i64 b']) := by rw [h, h2]

theorem find_last {A : List Bt.Nd} {ks : List Nat} {n k r : Nat} {ks0 : List Nat} {i0 : Nat} (hf : Bt.find A ks0 0 i0 = Bt.find A (ks.drop n) n r) (hk : ks[n]? = some k) (hi : (r : Int) < (Bt.nd A k).ct ∨ n + 1 = ks.length) : Bt.find A ks0 0 i0 = (n, r) := by
  obtain ⟨hn, rfl⟩ := List.getElem?_eq_some_iff.1 hk
  rw [hf, List.drop_eq_getElem_cons hn]
  cases hd : ks.drop (n + 1) with
  | nil => rfl
  | cons a b =>
    rcases hi with hi | hi
    · rw [Bt.find, if_pos hi]
    · have := congrArg List.length hd
      simp at this
      omega
theorem find_next {A : List Bt.Nd} {ks : List Nat} {n k r : Nat} {ks0 : List Nat} {i0 : Nat} (hf : Bt.find A ks0 0 i0 = Bt.find A (ks.drop n) n r) (hk : ks[n]? = some k) (hi : ¬ (r : Int) < (Bt.nd A k).ct) (hn1 : n + 1 < ks.length) : Bt.find A ks0 0 i0 = Bt.find A (ks.drop (n + 1)) (n + 1) (r - (Bt.nd A k).ct.toNat) := by
  obtain ⟨hn, rfl⟩ := List.getElem?_eq_some_iff.1 hk
  rw [hf, List.drop_eq_getElem_cons hn, List.drop_eq_getElem_cons hn1]
  rw [Bt.find, if_neg hi]

set_option maxRecDepth 100000 in
theorem find_any {w : World} {F : Nat → Prop} {B N cap : Nat} {fv : Value} {L : List NV} {fr : List Nat} {root : Nat} {bytes : Int} (h : Tw w F B N cap fv L fr root bytes) {k i : Nat} {x : NV} (hx : L[k]? = some x) (hne : x.ks ≠ [])
    (hk : ∀ j ∈ x.ks, ∃ y, L[j]? = some y ∧ 0 ≤ y.ct) (hi : i ≤ 4611686018427387904) :
    Calls Tryz.prog 68 #[.pointer (some ⟨B, 0, none⟩), .int .i64 k, .int .i64 i] w fun e w' => e = .returned (.tuple #[.int .i64 (Bt.find (pus L) x.ks 0 i).1, .int .i64 (Bt.find (pus L) x.ks 0 i).2]) ∧ w = w' := by
  have b0 := h.c0
  have n1 := h.n1 hx
  have hkl := (List.getElem?_eq_some_iff.1 hx).1
  have hf := h.fit
  have hle := h.le
  unfold maxLen at hf
  have hkl' : (k : Int) < L.length := by omega
  obtain ⟨A, c, hv, hlc, hcm, hA⟩ := (h.kids k x hx).slice
  rw [cK_len] at hv hA hlc
  have hpos : 0 < x.ks.length := List.length_pos_iff.2 hne
  obtain ⟨g, rfl⟩ := hA hpos
  clear hA
  have HR := h.kids k x hx
  rw [hv] at HR n1
  have HRw := Lib.hid HR
  have HT := Lib.hid h
  have HK := Lib.hid hk
  unfold maxLen at hcm
  clear hv HR hk h
  go_enter Tryz.func68, Tryz.ntmps68
  go_wp2
  go_loop [2, 22] (fun v2 v22 => ∃ n r : Nat, v22 = .int .i64 n ∧ v2 = .int .i64 r ∧ r ≤ i ∧ n < x.ks.length ∧ Bt.find (pus L) x.ks 0 i = Bt.find (pus L) (x.ks.drop n) n r) (fun _ v22 => x.ks.length - (intOf v22).toNat)
  case atStart => exact ⟨0, i, rfl, rfl, Nat.le_refl _, hpos, rfl⟩
  case round =>
    obtain ⟨n, r, rfl, rfl, hri, hn, hfe⟩ := hrel
    have HF := Lib.hid hfe
    clear hfe
    have hkn := List.getElem?_eq_getElem hn
    obtain ⟨y, hy, hy0⟩ := HK.out x.ks[n] (List.getElem_mem hn)
    have hcell := HRw.out.cell (cK_at hkn)
    have hct := HT.out.n2 hy
    have hyl := (List.getElem?_eq_some_iff.1 hy).1
    have HN := Lib.hid (pus_nd hy)
    obtain ⟨q, hq⟩ : ∃ q, q = x.ks[n] := ⟨_, rfl⟩
    rw [← hq] at hkn hcell hct hyl HN
    have HKN := Lib.hid hkn
    clear hq hkn hy
    obtain ⟨ct, hcte⟩ := Int.eq_ofNat_of_zero_le hy0
    have HC := Lib.hid hcte
    rw [hcte] at hct
    clear hcte hy0
    have hyl' : (q : Int) < L.length := by omega
    by_cases hlt : r < ct
    · have hlt' : (r : Int) < ct := by omega
      have hfin := Lib.hid (find_last HF.out HKN.out (.inl (by rw [HN.out]; show (r : Int) < y.ct; rw [HC.out]; exact hlt')))
      go_wp2
      go_ret2
      rw [hfin.out]
      exact ⟨rfl, rfl⟩
    · have hge : ¬ (r : Int) < ct := by omega
      by_cases hlast : n + 1 = x.ks.length
      · have hfin := Lib.hid (find_last HF.out HKN.out (.inr hlast))
        have hl2 : (n : Int) = (x.ks.length : Int) - 1 := by omega
        have hb : ((n : Int) == (x.ks.length : Int) - 1) = true := by simpa using hl2
        clear hl2 hlast
        go_wp2
        all_goals first | (exfalso; omega) | skip
        go_ret2
        rw [hfin.out]
        exact ⟨rfl, rfl⟩
      · have hstep := Lib.hid (find_next HF.out HKN.out (by rw [HN.out]; show ¬ (r : Int) < y.ct; rw [HC.out]; exact hge) (by omega))
        rw [HN.out, show y.pu.ct = y.ct from rfl, HC.out] at hstep
        have hb : ((n : Int) == (x.ks.length : Int) - 1) = false := by
          have : (n : Int) ≠ (x.ks.length : Int) - 1 := by omega
          simpa using this
        go_wp2
        all_goals first | (exfalso; omega) | skip
        go_round
        case rel => exact ⟨n + 1, r - ct, by go_num, by rw [show (r : Int) - ct = ((r - ct : Nat) : Int) by omega], by omega, by omega, by simpa using hstep.out⟩
        case measure => simp [intOf]; omega

theorem cts_take {A : List Bt.Nd} {ks : List Nat} {n q : Nat} (hq : ks[n]? = some q) : Bt.cts A (ks.take (n + 1)) = Bt.cts A (ks.take n) + (Bt.nd A q).ct := by
  obtain ⟨hn, rfl⟩ := List.getElem?_eq_some_iff.1 hq
  unfold Bt.cts
  rw [List.take_succ_eq_append_getElem hn]
  simp only [List.map_append, List.map_cons, List.map_nil, List.sum_append, List.sum_cons, List.sum_nil]
  omega
theorem cts_mono {A : List Bt.Nd} {ks : List Nat} (h : ∀ j ∈ ks, 0 ≤ (Bt.nd A j).ct) (n : Nat) : 0 ≤ Bt.cts A (ks.take n) ∧ Bt.cts A (ks.take n) ≤ Bt.cts A ks := by
  have h0 : ∀ l : List Nat, (∀ j ∈ l, 0 ≤ (Bt.nd A j).ct) → 0 ≤ Bt.cts A l := by
    intro l
    induction l with
    | nil => intro _; exact Int.le_refl _
    | cons a l ih =>
      intro hl
      have h1 := hl a (by simp)
      have h2 := ih (fun j hj => hl j (by simp [hj]))
      unfold Bt.cts at h2 ⊢
      simp only [List.map_cons, List.sum_cons]
      omega
  have e : Bt.cts A ks = Bt.cts A (ks.take n) + Bt.cts A (ks.drop n) := by
    unfold Bt.cts
    rw [← List.sum_append, ← List.map_append, List.take_append_drop]
  have h1 := h0 (ks.take n) (fun j hj => h j (List.mem_of_mem_take hj))
  have h2 := h0 (ks.drop n) (fun j hj => h j (List.mem_of_mem_drop hj))
  omega

set_option maxRecDepth 100000 in
theorem sum_any {w : World} {F : Nat → Prop} {B N cap : Nat} {fv : Value} {L : List NV} {fr : List Nat} {root : Nat} {bytes : Int} (h : Tw w F B N cap fv L fr root bytes) {k : Nat} {x : NV} (hx : L[k]? = some x)
    (hk : ∀ j ∈ x.ks, j ≠ k ∧ ∃ y, L[j]? = some y ∧ 0 ≤ y.ct) (hs : (x.ls.length : Int) + Bt.cts (pus L) x.ks ≤ 4611686018427387904) :
    Calls Tryz.prog 50 #[.pointer (some ⟨B, 0, none⟩), .int .i64 k] w fun e w' => e = .returned (.tuple #[]) ∧ Tw w' F B N cap fv (L.set k ⟨x.vl, x.vk, x.ls, x.ks, x.ls.length + Bt.cts (pus L) x.ks⟩) fr root bytes ∧ Chg F w w' := by
  have hm := cts_mono (A := pus L) (ks := x.ks) (fun j hj => by
    obtain ⟨_, y, hy, hy0⟩ := hk j hj
    rw [pus_nd hy]
    exact hy0)
  have b0 := h.c0
  have n0 := h.n0 hx
  have n1 := h.n1 hx
  have n2 := h.n2 hx
  have hkl := (List.getElem?_eq_some_iff.1 hx).1
  have hf := h.fit
  have hle := h.le
  unfold maxLen at hf
  have hkl' : (k : Int) < L.length := by omega
  have z2 := h.zN (k * 3 + 2)
  obtain ⟨A, c, hv, hlc, hcm, hA⟩ := (h.kids k x hx).slice
  obtain ⟨A2, c2, hv2, hlc2, hcm2, _⟩ := (h.lines k x hx).slice
  rw [cK_len] at hv hA hlc
  rw [cS_len] at hv2 hlc2
  have HX := Lib.hid hx
  have HV := Lib.hid hv
  rw [hv] at n1
  rw [hv2] at n0
  have HT := Lib.hid h
  have HK := Lib.hid hk
  have HM := Lib.hid hm
  have HA := Lib.hid hA
  have hcnt := (hm 0).1
  have hs0 := (hm x.ks.length).2
  rw [List.take_length] at hs0
  have hgz := (hm x.ks.length).1
  rw [List.take_length] at hgz
  unfold maxLen at hcm hcm2
  have h1 := Lib.hid (h.setCt hx x.ls.length)
  have hg1 := Lib.hid ((Chg.refl F w).setCell (p := ⟨N, k * 3 + 2, none⟩) h.footN (.int .i64 x.ls.length))
  clear hv hv2 hA hk h hm hx hcnt hs0
  generalize hCs : Bt.cts (pus L) x.ks = Cs at hs hgz
  have HCs := Lib.hid hCs
  clear hCs
  go_enter Tryz.func50, Tryz.ntmps50
  go_wp2
  go_loopw [26] (fun v26 wr => ∃ n : Nat, v26 = .int .i64 n ∧ n ≤ x.ks.length ∧ Tw wr F B N cap fv (L.set k ⟨x.vl, x.vk, x.ls, x.ks, x.ls.length + Bt.cts (pus L) (x.ks.take n)⟩) fr root bytes ∧ Chg F w wr) (fun v26 _ => x.ks.length - (intOf v26).toNat)
  case atStart => exact ⟨0, rfl, by omega, by simpa [Bt.cts] using h1.out, hg1.out⟩
  case round =>
    clear h1 hg1 b0 n0 n1 n2 z2
    obtain ⟨n, rfl, hn, hT, hG⟩ := hrel
    have HG := Lib.hid hG
    have hxs : (L.set k ⟨x.vl, x.vk, x.ls, x.ks, x.ls.length + Bt.cts (pus L) (x.ks.take n)⟩)[k]? = some ⟨x.vl, x.vk, x.ls, x.ks, x.ls.length + Bt.cts (pus L) (x.ks.take n)⟩ := by simp [hkl]
    have HTr := Lib.hid hT
    by_cases hlt : n < x.ks.length
    · have hlt' : (n : Int) < x.ks.length := by omega
      have b0 := hT.c0
      have n2 := hT.n2 hxs
      have z2 := hT.zN (k * 3 + 2)
      rw [List.length_set] at b0
      have hkn := List.getElem?_eq_getElem hlt
      obtain ⟨hqk, y, hy, hy0⟩ := HK.out x.ks[n] (List.getElem_mem hlt)
      have hrow := hT.kids k _ hxs
      simp only at hrow
      rw [HV.out] at hrow
      obtain ⟨g, rfl⟩ := HA.out (by omega)
      have hcell := hrow.cell (cK_at hkn)
      have hys : (L.set k ⟨x.vl, x.vk, x.ls, x.ks, x.ls.length + Bt.cts (pus L) (x.ks.take n)⟩)[x.ks[n]]? = some y := by rw [List.getElem?_set, if_neg (fun e => hqk e.symm)]; exact hy
      have hct := hT.n2 hys
      have hyl := (List.getElem?_eq_some_iff.1 hy).1
      have HN := Lib.hid (cts_take (A := pus L) hkn)
      rw [pus_nd hy, show y.pu.ct = y.ct from rfl] at HN
      obtain ⟨q, hq⟩ : ∃ q, q = x.ks[n] := ⟨_, rfl⟩
      rw [← hq] at hcell hct hyl hqk
      have hyl' : (q : Int) < L.length := by omega
      have hm1 := (HM.out n)
      have hm2 := (HM.out (n + 1))
      rw [HN.out] at hm2
      rw [HCs.out] at hm1 hm2
      have hstep := Lib.hid (hT.setCt hxs (x.ls.length + Bt.cts (pus L) (x.ks.take (n + 1))))
      have hfN := Lib.hid hT.footN
      have e1 : x.ls.length + Bt.cts (pus L) (x.ks.take (n + 1)) = (x.ls.length + Bt.cts (pus L) (x.ks.take n)) + y.ct := by rw [HN.out]; omega
      rw [e1] at hstep
      have HE := Lib.hid e1
      clear e1 HN
      generalize hp : (x.ls.length : Int) + Bt.cts (pus L) (x.ks.take n) = p at *
      have hp0 : 0 ≤ p := by omega
      have hp1 : p + y.ct ≤ 4611686018427387904 := by omega
      have HP := Lib.hid hp
      clear hp hq hkn hy hys hxs hT hG hrow hm1 hm2 hqk
      go_wp2
      go_region
      go_wp2
      go_roundw
      case rel => 
        refine ⟨n + 1, by go_num, by omega, ?_, ?_⟩
        · have h9 := hstep.out.drew
          rw [List.set_set] at h9
          rw [HE.out]
          exact h9
        · exact (HG.out.setCell (p := ⟨N, k * 3 + 2, none⟩) hfN.out _).drew
      case measure => simp [intOf]; omega
    · obtain rfl : n = x.ks.length := by omega
      clear hT hG hxs
      go_wp2
      go_end0
      have h9 := HTr.out
      rw [List.take_length, HCs.out] at h9
      exact ⟨rfl, h9, HG.out⟩
end Go.Proofs.YtdhemdeapphfoaaGreatDoor
