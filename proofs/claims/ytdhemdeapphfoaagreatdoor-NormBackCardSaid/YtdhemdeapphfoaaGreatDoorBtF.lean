/- The tree's insert, walked: a leaf. -/
import Derived.Test.YtdhemdeapphfoaaGreatDoorBtE
import Derived.Deep.RegionWith
import Derived.Deep.RegionHeld3
set_option linter.unusedVariables false
set_option linter.unusedSimpArgs false
namespace Go.Proofs.YtdhemdeapphfoaaGreatDoor
open Go.RowKit Go.Shelf Go.Proofs.YtdhemdeapphfoaaGreatDoorW.PrintWords Go.Proofs.YtdhemdeapphfoaaGreatDoorW.PrintLast

def othV : Option Nat → Int | none => -1 | some o => o

theorem split_ta {w : World} {F : Nat → Prop} {B : Nat} {A : List Bt.Nd} {fr : List Nat} {root : Nat} (h : Ta w F B A fr root) {k : Nat} {n : Bt.Nd} (hn : A[k]? = some n) (hshape : n.ks = [] ∨ n.ls = []) (hl : n.ls.length ≤ 1000000000000) (hkl : n.ks.length ≤ 1000000000000)
    (hk : ∀ j ∈ n.ks, j ≠ k ∧ j ∉ fr ∧ ∃ y, A[j]? = some y ∧ 0 ≤ y.ct) (hs : Bt.cts A n.ks ≤ 4611686018427387904) (hF : ∀ b, w.heap.size ≤ b → F b) (hlen : A.length + 1 ≤ 1000000000000) (hfr : ∀ j ∈ fr, j < A.length) (hnd : fr.Nodup) (hkf : k ∉ fr) :
    Calls Tryz.prog 70 #[.pointer (some ⟨B, 0, none⟩), .int .i64 k] w fun e w' => e = .returned (.int .i64 (othV (Bt.split A fr k).2.2)) ∧ Ta w' F B (Bt.split A fr k).1 (Bt.split A fr k).2.1 root ∧ Chg F w w' := by
  obtain ⟨N, cap, fv, bytes, L, hT, rfl⟩ := h
  obtain ⟨x, hx, rfl⟩ := pus_some hn
  rw [pus_length] at hlen hfr
  have hk' : ∀ j ∈ x.ks, j ≠ k ∧ j ∉ fr ∧ ∃ y, L[j]? = some y ∧ 0 ≤ y.ct := fun j hj => by
    obtain ⟨h1, h2, y, hy, hy0⟩ := hk j hj
    obtain ⟨z, hz, rfl⟩ := pus_some hy
    exact ⟨h1, h2, z, hz, hy0⟩
  have hN : Bt.nd (pus L) k = x.pu := pus_nd hx
  by_cases h8 : x.ls.length + x.ks.length ≤ 8
  · have e1 : Bt.split (pus L) fr k = (pus L, fr, none) := Bt.split_small (by rw [hN]; exact h8)
    rw [e1]
    exact split_small hT hx h8
  · have h9 : ∃ o, (Bt.split (pus L) fr k).2.2 = some o := by
      unfold Bt.split
      rw [if_neg (by rw [hN]; exact h8)]
      exact ⟨_, rfl⟩
    obtain ⟨o, ho⟩ := h9
    rcases hshape with h0 | h0
    · have h0 : x.ks = [] := h0
      refine (split_leaf hT hx (by rw [h0] at h8; simpa using h8) h0 hl hF hlen hfr hnd hkf).mono ?_
      rintro e w' ⟨he, h⟩
      rw [ho] at he ⊢
      exact ⟨he, h⟩
    · have h0 : x.ls = [] := h0
      refine (split_node hT hx (by rw [h0] at h8; simpa using h8) h0 hkl hk' hs hF hlen hfr hnd hkf).mono ?_
      rintro e w' ⟨he, h⟩
      rw [ho] at he ⊢
      exact ⟨he, h⟩

/-- what insert leaves -/
def InsPost (F : Nat → Prop) (B root : Nat) (A : List Bt.Nd) (fr : List Nat) (d : Nat) (p : Bt.Part) (out : List ByteArray) (w : World) (e : Ending) (w' : World) : Prop :=
  ∃ (A' : List Bt.Nd) (fr' : List Nat) (oth : Option Nat) (q : Bt.Part) (r : List Bt.Part) (t : Nat), e = .returned (.int .i64 (othV oth)) ∧ Ta w' F B A' fr' root ∧ Chg F w w' ∧ Bt.Ins A fr d p out A' fr' oth q r t

theorem cS_ins (xs : List ByteArray) (i : Nat) (l : ByteArray) : (cS xs).take i ++ Value.string l :: (cS xs).drop i = cS (Bt.insAt xs i l) := by simp [cS, Bt.insAt, List.map_take, List.map_drop]

set_option maxRecDepth 100000 in
set_option maxHeartbeats 4000000 in
theorem insert_leaf {w : World} {F : Nat → Prop} {B : Nat} {A : List Bt.Nd} {fr : List Nat} {root : Nat} (h : Ta w F B A fr root) {p : Bt.Part} (hp : Bt.Rep A 0 p) {i : Nat} {line : ByteArray} (hi : i ≤ p.ls.length) (hn : (p.ids ++ fr).Nodup) (hfr : ∀ j ∈ fr, j < A.length)
    (hF : ∀ b, w.heap.size ≤ b → F b) (hl : p.ls.length ≤ 100000000000) (hA : A.length + 0 ≤ 100000000000) :
    Calls Tryz.prog 48 #[.pointer (some ⟨B, 0, none⟩), .int .i64 p.id, .int .i64 i, .string line] w (InsPost F B root A fr 0 p (Bt.insAt p.ls i line) w) := by
  obtain ⟨N, cap, fv, bytes, L, hT, rfl⟩ := h
  obtain ⟨x, hx, hpu⟩ := pus_some hp.1
  have hxl : x.ls = p.ls := congrArg Bt.Nd.ls hpu
  have hxk : x.ks = [] := congrArg Bt.Nd.ks hpu
  have b0 := hT.c0
  have n0 := hT.n0 hx
  have n1 := hT.n1 hx
  have n2 := hT.n2 hx
  have hkl := (List.getElem?_eq_some_iff.1 hx).1
  have hf := hT.fit
  have hle := hT.le
  unfold maxLen at hf
  have hkl' : (p.id : Int) < L.length := by omega
  obtain ⟨A1, c1, hv1, hl1, hm1, _⟩ := (hT.lines _ x hx).slice
  obtain ⟨A2, c2, hv2, hl2, hm2, _⟩ := (hT.kids _ x hx).slice
  rw [hxl, cS_len] at hv1 hl1
  rw [hxk, cK_len, List.length_nil] at hv2 hl2
  rw [hv1] at n0
  rw [hv2] at n1
  have hrow := hT.lines _ x hx
  rw [hxl] at hrow
  have HR := Lib.hid hrow
  have HT := Lib.hid hT
  have HX := Lib.hid hx
  have HV1 := Lib.hid hv1
  have HP := Lib.hid hp
  have HXL := Lib.hid hxl
  have HXK := Lib.hid hxk
  have HN := Lib.hid hn
  have HFR := Lib.hid hfr
  have HF := Lib.hid hF
  have HNl := hT.ltN
  have hBN := hT.BN
  have hNB : ¬ N = B := fun e => hBN e.symm
  have HBl := hT.ltB
  unfold maxLen at hm1 hm2
  have hbl : ∀ b, x.vl.ownBlock = some b → b < w.heap.size := hT.own_lt_l hx
  have HBL := Lib.hid hbl
  have hrow' := hrow
  rw [hv1] at hrow'
  have HRa := Lib.hid ((hrow'.alloc (.cells #[.string line] 9)).drewN 1)
  have HTa := Lib.hid ((hT.alloc (.cells #[.string line] 9)).drew)
  have HI := Lib.hid (show i ≤ (cS p.ls).length by rw [cS_len]; exact hi)
  have HVB : Hid (((w.alloc (.cells #[.string line] 9)).drew).heap[w.heap.size]? = some (.cells #[.string line] 9 (0, 0))) := heap_alloc_new w _
  have HNE : Hid ((Value.slice A1 p.ls.length c1).ownBlock ≠ some w.heap.size) := fun e => by
    have := hbl w.heap.size (by rw [hv1]; exact e)
    omega
  have HBG := Lib.hid (show ((cS p.ls).length + 1) * 16 ≤ 140737488355328 by rw [cS_len]; omega)
  clear hrow hrow' hT hx hv1 hv2 hp hxl hxk hn hfr hF hbl hpu
  go_enter Tryz.func48, Tryz.ntmps48
  go_wp2_with (go_at_call 66; refine (leaf_at (n := 0) (c := c2) (A := A2) (by go_simp) (by omega)).mono ?_; rintro e w1 ⟨rfl, rfl⟩)
  refine start_ (n := 20) (S := fun w' => w'.cell? ⟨B, 0, none⟩ = some (.slice (some ⟨N, 0, none⟩) L.length cap) ∧ w'.cell? ⟨N, p.id * 3, none⟩ = some (.slice A1 p.ls.length c1)) (ds := [19]) #[false, false, false, false, false, false, false, false, false, false, false, false, false, false, false, false, false, false, false, false] (by kernel_rfl) rfl rfl ⟨(by first | exact b0 | exact gb0 | go_keep), (by first | exact n0 | exact g0 | (rw [← HV1.out]; exact g0) | go_keep)⟩ (fun hHeld => ?_)
  refine pure_ (i := 0) (N := some 19) (v := ?_) (a' := ?_) #[true, false, false, false, false, false, false, false, false, false, false, false, false, false, false, false, false, false, false, false] rfl rfl (by kernel_rfl) (fun _ _ _ h => h) (Or.inl ⟨by rfl, ?_⟩) ?_ ?_
  rotate_left
  · intro w'
    go_simp
    with_reducible rfl
  rotate_left
  · simp only [Act.put, List.setIfInBounds_toArray, List.set_cons_zero, List.set_cons_succ, i64_w, i32_w]
    rfl
  refine pure_ (i := 1) (N := some 20) (v := ?_) (a' := ?_) #[true, true, false, false, false, false, false, false, false, false, false, false, false, false, false, false, false, false, false, false] rfl rfl (by kernel_rfl) (fun _ _ _ h => h) (Or.inl ⟨by rfl, ?_⟩) ?_ ?_
  rotate_left
  · intro w'
    go_simp
    with_reducible rfl
  rotate_left
  · simp only [Act.put, List.setIfInBounds_toArray, List.set_cons_zero, List.set_cons_succ, i64_w, i32_w]
    rfl
  refine pure_ (i := 2) (N := some 21) (v := ?_) (a' := ?_) #[true, true, true, false, false, false, false, false, false, false, false, false, false, false, false, false, false, false, false, false] rfl rfl (by kernel_rfl) (fun _ _ _ h => h) (Or.inl ⟨by rfl, ?_⟩) ?_ ?_
  rotate_left
  · intro w'
    go_simp
    with_reducible rfl
  rotate_left
  · simp only [Act.put, List.setIfInBounds_toArray, List.set_cons_zero, List.set_cons_succ, i64_w, i32_w]
    rfl
  refine pure_ (i := 4) (N := some 23) (v := ?_) (a' := ?_) #[true, true, true, false, true, false, false, false, false, false, false, false, false, false, false, false, false, false, false, false] rfl rfl (by kernel_rfl) (fun _ _ _ h => h) (Or.inl ⟨by rfl, ?_⟩) ?_ ?_
  rotate_left
  · intro w'
    go_simp
    with_reducible rfl
  rotate_left
  · simp only [Act.put, List.setIfInBounds_toArray, List.set_cons_zero, List.set_cons_succ, i64_w, i32_w]
    rfl
  refine pure_ (i := 5) (N := some 24) (v := ?_) (a' := ?_) #[true, true, true, false, true, true, false, false, false, false, false, false, false, false, false, false, false, false, false, false] rfl rfl (by kernel_rfl) (fun _ _ _ h => h) (Or.inl ⟨by rfl, ?_⟩) ?_ ?_
  rotate_left
  · intro w'
    go_simp
    with_reducible rfl
  rotate_left
  · simp only [Act.put, List.setIfInBounds_toArray, List.set_cons_zero, List.set_cons_succ, i64_w, i32_w]
    rfl
  refine pure_ (i := 6) (N := some 25) (v := ?_) (a' := ?_) #[true, true, true, false, true, true, true, false, false, false, false, false, false, false, false, false, false, false, false, false] rfl rfl (by kernel_rfl) (fun _ _ _ h => h) (Or.inl ⟨by rfl, ?_⟩) ?_ ?_
  rotate_left
  · intro w'
    go_simp
    with_reducible rfl
  rotate_left
  · simp only [Act.put, List.setIfInBounds_toArray, List.set_cons_zero, List.set_cons_succ, i64_w, i32_w]
    rfl
  refine pure_ (i := 7) (N := some 26) (v := ?_) (a' := ?_) #[true, true, true, false, true, true, true, true, false, false, false, false, false, false, false, false, false, false, false, false] rfl rfl (by kernel_rfl) (fun _ _ _ h => h) (Or.inl ⟨by rfl, ?_⟩) ?_ ?_
  rotate_left
  · intro w'
    go_simp
    with_reducible rfl
  rotate_left
  · simp only [Act.put, List.setIfInBounds_toArray, List.set_cons_zero, List.set_cons_succ, i64_w, i32_w]
    rfl
  refine pure_ (i := 9) (N := some 28) (v := ?_) (a' := ?_) #[true, true, true, false, true, true, true, true, false, true, false, false, false, false, false, false, false, false, false, false] rfl rfl (by kernel_rfl) (fun _ _ _ h => h) (Or.inl ⟨by rfl, ?_⟩) ?_ ?_
  rotate_left
  · intro w'
    go_simp
    with_reducible rfl
  rotate_left
  · simp only [Act.put, List.setIfInBounds_toArray, List.set_cons_zero, List.set_cons_succ, i64_w, i32_w]
    rfl
  refine pure_ (i := 13) (N := some 32) (v := ?_) (a' := ?_) #[true, true, true, false, true, true, true, true, false, true, false, false, false, true, false, false, false, false, false, false] rfl rfl (by kernel_rfl) (fun _ _ _ h => h) (Or.inl ⟨by rfl, ?_⟩) ?_ ?_
  rotate_left
  · intro w'
    go_simp
    with_reducible rfl
  rotate_left
  · simp only [Act.put, List.setIfInBounds_toArray, List.set_cons_zero, List.set_cons_succ, i64_w, i32_w]
    rfl
  refine pure_ (i := 14) (N := some 33) (v := ?_) (a' := ?_) #[true, true, true, false, true, true, true, true, false, true, false, false, false, true, true, false, false, false, false, false] rfl rfl (by kernel_rfl) (fun _ _ _ h => h) (Or.inl ⟨by rfl, ?_⟩) ?_ ?_
  rotate_left
  · intro w'
    go_simp
    with_reducible rfl
  rotate_left
  · simp only [Act.put, List.setIfInBounds_toArray, List.set_cons_zero, List.set_cons_succ, i64_w, i32_w]
    rfl
  refine take_ (i := 3) (N := some 22) (v := ?_) (a' := ?_) #[true, true, true, true, true, true, true, true, false, true, false, false, false, true, true, false, false, false, false, false] rfl rfl (by kernel_rfl) (fun _ _ _ h => h) (Or.inl ⟨by rfl, ?_⟩) hHeld ?_ ?_
  rotate_left
  · rintro w' ⟨s0, s1⟩
    go_simp
    with_reducible rfl
  rotate_left
  · simp only [Act.put, List.setIfInBounds_toArray, List.set_cons_zero, List.set_cons_succ, i64_w, i32_w]
    rfl
  refine take_ (i := 8) (N := some 27) (v := ?_) (a' := ?_) #[true, true, true, true, true, true, true, true, true, true, false, false, false, true, true, false, false, false, false, false] rfl rfl (by kernel_rfl) (fun _ _ _ h => h) (Or.inl ⟨by rfl, ?_⟩) hHeld ?_ ?_
  rotate_left
  · rintro w' ⟨s0, s1⟩
    go_simp
    with_reducible rfl
  rotate_left
  · simp only [Act.put, List.setIfInBounds_toArray, List.set_cons_zero, List.set_cons_succ, i64_w, i32_w]
    rfl
  refine pure_ (i := 10) (N := some 29) (v := ?_) (a' := ?_) #[true, true, true, true, true, true, true, true, true, true, true, false, false, true, true, false, false, false, false, false] rfl rfl (by kernel_rfl) (fun _ _ _ h => h) (Or.inl ⟨by rfl, ?_⟩) ?_ ?_
  rotate_left
  · intro w'
    go_simp
    with_reducible rfl
  rotate_left
  · simp only [Act.put, List.setIfInBounds_toArray, List.set_cons_zero, List.set_cons_succ, i64_w, i32_w]
    rfl
  refine pure_ (i := 11) (N := some 30) (v := ?_) (a' := ?_) #[true, true, true, true, true, true, true, true, true, true, true, true, false, true, true, false, false, false, false, false] rfl rfl (by kernel_rfl) (fun _ _ _ h => h) (Or.inl ⟨by rfl, ?_⟩) ?_ ?_
  rotate_left
  · intro w'
    go_simp
    with_reducible rfl
  rotate_left
  · simp only [Act.put, List.setIfInBounds_toArray, List.set_cons_zero, List.set_cons_succ, i64_w, i32_w]
    rfl
  refine take_ (i := 12) (N := some 31) (v := ?_) (a' := ?_) #[true, true, true, true, true, true, true, true, true, true, true, true, true, true, true, false, false, false, false, false] rfl rfl (by kernel_rfl) (fun _ _ _ h => h) (Or.inl ⟨by rfl, ?_⟩) hHeld ?_ ?_
  rotate_left
  · rintro w' ⟨s0, s1⟩
    go_simp
    with_reducible rfl
  rotate_left
  · simp only [Act.put, List.setIfInBounds_toArray, List.set_cons_zero, List.set_cons_succ, i64_w, i32_w]
    rfl
  refine one_ (i := 15) (N := some 34) #[true, true, true, true, true, true, true, true, true, true, true, true, true, true, true, true, false, false, false, false] rfl rfl (by kernel_rfl) (by decide) (fun K hK => ?_)
  refine value_ (w1 := ?_) (v := ?_) (by rfl) rfl ?_ ?_
  rotate_left 2
  · go_simp
    constructor
    · rfl
    · rfl
  refine hK.out _ _ ⟨(by first | exact b0 | exact gb0 | go_keep), (by first | exact n0 | exact g0 | (rw [← HV1.out]; exact g0) | go_keep)⟩ (fun hHeld => ?_)
  clear hK K
  refine norm_ (a' := ?_) ?_ ?_
  rotate_left
  · show Act.put _ (some 34) _ = _
    simp only [Act.put, List.setIfInBounds_toArray, List.set_cons_zero, List.set_cons_succ, i64_w, i32_w]
    rfl
  refine one_ (i := 16) (N := some 35) #[true, true, true, true, true, true, true, true, true, true, true, true, true, true, true, true, true, false, false, false] rfl rfl (by kernel_rfl) (by decide) (fun K hK => ?_)
  go_simp
  go_at_call 67; refine (insS_rw _ (.slice A1 p.ls.length c1) (cS p.ls) (.string line) w.heap.size i HRa.out HI.out rfl HVB.out HNE.out HBG.out).mono ?_; rintro e w1 ⟨v1, rfl, hr1, hg1, ha1⟩; have hrg := HTa.out.row_grown HRa.out (by decide) hg1 (p.id * 3); have g0 := hrg.1.trans (HTa.out.n0 HX.out); have gz := hrg.2; clear hrg; have gb0 := (HTa.out.box_grown HRa.out (by decide) hg1 0).1.trans HTa.out.c0; rw [cS_ins] at hr1; obtain ⟨A3, c3, hv3, _⟩ := hr1.slice; rw [cS_len] at hv3; have HR1 := Lib.hid hr1; have HG1 := Lib.hid hg1; have HA1 := Lib.hid ha1; clear hr1 hg1 ha1; subst hv3
  try go_wp2_with fail
  refine hK.out _ _ ⟨(by first | exact b0 | exact gb0 | go_keep), (by first | exact n0 | exact g0 | (rw [← HV1.out]; exact g0) | go_keep)⟩ (fun hHeld => ?_)
  clear hK K
  refine pure_ (i := 17) (N := some 36) (v := ?_) (a' := ?_) #[true, true, true, true, true, true, true, true, true, true, true, true, true, true, true, true, true, true, false, false] rfl rfl (by kernel_rfl) (fun _ _ _ h => h) (Or.inl ⟨by rfl, ?_⟩) ?_ ?_
  rotate_left
  · intro w'
    go_simp
    with_reducible rfl
  rotate_left
  · simp only [Act.put, List.setIfInBounds_toArray, List.set_cons_zero, List.set_cons_succ, i64_w, i32_w]
    rfl
  refine pure_ (i := 18) (N := some 37) (v := ?_) (a' := ?_) #[true, true, true, true, true, true, true, true, true, true, true, true, true, true, true, true, true, true, true, false] rfl rfl (by kernel_rfl) (fun _ _ _ h => h) (Or.inl ⟨by rfl, ?_⟩) ?_ ?_
  rotate_left
  · intro w'
    go_simp
    with_reducible rfl
  rotate_left
  · simp only [Act.put, List.setIfInBounds_toArray, List.set_cons_zero, List.set_cons_succ, i64_w, i32_w]
    rfl
  refine last_ (i := 19) (N := none) #[true, true, true, true, true, true, true, true, true, true, true, true, true, true, true, true, true, true, true, true] rfl rfl (by kernel_rfl) (by decide) (fun K hK => ?_)
  refine skip_ (w1 := ?_) (by rfl) rfl ?_ ?_
  rotate_left
  · go_simp
    rfl
  refine hK.out _ _ ?_
  clear hK K
  refine done_ (by kernel_rfl) ?_
  clear hHeld
  all_goals
    go_wp2_with fail
    have hFa : ∀ b, ((w.alloc (.cells #[.string line] 9)).drew).heap.size ≤ b → F b := fun b hb => HF.out b (by simp at hb; omega)
    have hT2 := HTa.out.setLs HX.out (w2 := w1) (v := .slice A3 (Bt.insAt p.ls i line).length c3) (ls := Bt.insAt p.ls i line) (by rw [HV1.out]; exact HG1.out) HR1.out (HTa.out.at_l hFa HX.out (by rw [HV1.out]; exact HA1.out))
    have HC2 := Lib.hid (((((Chg.refl F w).alloc (.cells #[.string line] 9)).drew).grown HG1.out (fun b hb => HT.out.footL _ x b HX.out (by rw [HV1.out]; exact hb))).setCell (p := ⟨N, p.id * 3, none⟩) HT.out.footN (.slice A3 (Bt.insAt p.ls i line).length c3))
    have HS2 := Lib.hid HC2.out.size
    obtain ⟨A', fr', oth, q, r, t, es, hins⟩ := Bt.ins_leaf HP.out HFR.out HN.out hi (c := x.ct) (A1 := (pus L).set p.id ⟨Bt.insAt p.ls i line, [], x.ct⟩) rfl (x := line)
    have HES := Lib.hid es
    have HINS := Lib.hid hins
    have ta2 : Ta _ F B ((pus L).set p.id ⟨Bt.insAt p.ls i line, [], x.ct⟩) fr root := hT2.ta (by rw [pus_set]; simp only [NV.pu, HXK.out])
    have HTA2 := Lib.hid ta2
    clear hT2 es hins ta2 hFa
    have hpl : (pus L).length = L.length := pus_length L
    have hget : ((pus L).set p.id ⟨Bt.insAt p.ls i line, [], x.ct⟩)[p.id]? = some ⟨Bt.insAt p.ls i line, [], x.ct⟩ := Bt.set_self (by rw [hpl]; exact hkl)
    have HGET := Lib.hid hget
    have hil : (Bt.insAt p.ls i line).length = p.ls.length + 1 := by unfold Bt.insAt; rw [List.length_append, List.length_cons, List.length_take, List.length_drop]; omega
    have HIL := Lib.hid hil
    have hkf : p.id ∉ fr := fun e => (List.nodup_append.1 HN.out).2.2 p.id HP.out.id_mem p.id e rfl
    have HKF := Lib.hid hkf
    clear hget hil hkf b0 n0 n1 n2 g0 gz gb0
    go_at_call 50
    refine (sum_ta HTA2.out HGET.out (fun j hj => by cases hj) (by simp [Bt.cts]; rw [HIL.out]; omega)).mono ?_
    rintro e w3 ⟨rfl, ta3, ch3⟩
    have HTA3 := Lib.hid ta3
    have HC3 := Lib.hid ch3
    clear ta3 ch3
    go_wp2_with fail
    go_at_call 70
    have hF3 : ∀ b, w3.heap.size ≤ b → F b := fun b hb => HF.out b (Nat.le_trans (Nat.le_trans HS2.out HC3.out.size) hb)
    have hS3 := Bt.setSum_self HGET.out
    refine (split_ta HTA3.out hS3 (.inl rfl) (by rw [HIL.out]; omega) (by simp) (fun j hj => by cases hj) (by simp [Bt.cts]) hF3 (by rw [Bt.setSum_length, List.length_set]; omega) (by rw [Bt.setSum_length, List.length_set]; exact HFR.out) (List.nodup_append.1 HN.out).2.1 HKF.out).mono ?_
    rintro e w4 ⟨rfl, ta4, ch4⟩
    have HTA4 := Lib.hid ta4
    have HC4 := Lib.hid ch4
    clear ta4 ch4 hF3 hS3
    go_wp2
    go_ret
    rw [HES.out] at HTA4
    refine ⟨A', fr', oth, q, r, t, ?_, HTA4.out, (HC2.out.trans HC3.out).trans HC4.out, HINS.out⟩
    rw [HES.out]
    rfl
end Go.Proofs.YtdhemdeapphfoaaGreatDoor
