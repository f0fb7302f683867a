/- The tree's remove, walked. -/
import Derived.Test.YtdhemdeapphfoaaGreatDoorBtR
import Derived.Test.YtdhemdeapphfoaaGreatDoorBtPx
set_option linter.unusedVariables false
set_option linter.unusedSimpArgs false
namespace Go.Proofs.YtdhemdeapphfoaaGreatDoor
open Go.RowKit Go.Shelf Go.Proofs.YtdhemdeapphfoaaGreatDoorW.PrintWords Go.Proofs.YtdhemdeapphfoaaGreatDoorW.PrintLast

/-- what remove leaves -/
def RemPost (F : Nat → Prop) (B root : Nat) (A : List Bt.Nd) (fr : List Nat) (d : Nat) (p : Bt.Part) (i : Nat) (w : World) (e : Ending) (w' : World) : Prop :=
  ∃ (A' : List Bt.Nd) (fr' : List Nat) (q : Bt.Part), e = .returned (.string (p.ls.getD i ByteArray.empty)) ∧ Ta w' F B A' fr' root ∧ Chg F w w' ∧ Bt.Rem A fr d p (p.ls.eraseIdx i) A' fr' q

set_option maxRecDepth 100000 in
set_option maxHeartbeats 2000000 in
theorem remove_leaf {w : World} {F : Nat → Prop} {B : Nat} {A : List Bt.Nd} {fr : List Nat} {root : Nat} (h : Ta w F B A fr root) {p : Bt.Part} (hp : Bt.Rep A 0 p) {i : Nat} (hi : i < p.ls.length) (hF : ∀ b, w.heap.size ≤ b → F b) (hl : p.ls.length ≤ 10000000000) :
    Calls Tryz.prog 169 #[.pointer (some ⟨B, 0, none⟩), .int .i64 p.id, .int .i64 i] w (RemPost F B root A fr 0 p i w) := by
  obtain ⟨N, cap, fv, bytes, L, hT, rfl⟩ := h
  obtain ⟨x, hx, hpu⟩ := pus_some hp.1
  have hxl : x.ls = p.ls := congrArg Bt.Nd.ls hpu
  have hxk : x.ks = [] := congrArg Bt.Nd.ks hpu
  have b0 := hT.c0
  have n0 := hT.n0 hx
  have n1 := hT.n1 hx
  have hkl := (List.getElem?_eq_some_iff.1 hx).1
  have hf := hT.fit
  have hle := hT.le
  unfold maxLen at hf
  have hkl' : (p.id : Int) < L.length := by omega
  obtain ⟨A1, c1, hv1, hl1, hm1, hA1⟩ := (hT.lines _ x hx).slice
  obtain ⟨A2, c2, hv2, hl2, hm2, _⟩ := (hT.kids _ x hx).slice
  rw [hxl, cS_len] at hv1 hl1 hA1
  rw [hxk, cK_len, List.length_nil] at hv2 hl2
  obtain ⟨g, rfl⟩ := hA1 (by omega)
  rw [hv1] at n0
  rw [hv2] at n1
  have hrow := hT.lines _ x hx
  rw [hxl, hv1] at hrow
  have ec := hrow.cell (j := i) (cS_at (show p.ls[i]? = some (p.ls.getD i ByteArray.empty) by rw [List.getD_eq_getElem?_getD, List.getElem?_eq_getElem hi]; rfl))
  obtain ⟨ln, hln⟩ : ∃ ln, ln = p.ls.getD i ByteArray.empty := ⟨_, rfl⟩
  rw [← hln] at ec
  have HLN := Lib.hid hln
  have hi' : (i : Int) < p.ls.length := by omega
  have HR := Lib.hid hrow
  have HT := Lib.hid hT
  have HX := Lib.hid hx
  have HV1 := Lib.hid hv1
  have HP := Lib.hid hp
  have HXK := Lib.hid hxk
  have HF := Lib.hid hF
  have hBN := hT.BN
  have hNB : ¬ N = B := fun e => hBN e.symm
  have HW := Lib.hid (show IntKind.i64.wrap ((i : Int) + 1) = ((i : Nat) : Int) + 1 by rw [IntKind.wrap_i64]; omega)
  have HREM := Lib.hid (Bt.rem_leaf (fr := fr) hp hi (c := x.ct) (A1 := (pus L).set p.id ⟨p.ls.eraseIdx i, [], x.ct⟩) rfl)
  have hlen := List.length_eraseIdx (l := p.ls) (i := i)
  rw [if_pos hi] at hlen
  have HLEN := Lib.hid hlen
  unfold maxLen at hm1 hm2
  clear hrow hT hx hv1 hv2 hp hxl hxk hF hpu hln hA1 hlen
  go_enter Tryz.func169, Tryz.ntmps169
  go_wp2_with (go_at_call 66; refine (leaf_at (n := 0) (c := c2) (A := A2) (by go_simp) (by omega)).mono ?_; rintro e w1 ⟨rfl, rfl⟩)
  refine start_ (n := 20) (S := fun w' => w'.cell? ⟨B, 0, none⟩ = some (.slice (some ⟨N, 0, none⟩) L.length cap) ∧ w'.cell? ⟨N, p.id * 3, none⟩ = some (.slice (some ⟨g, 0, none⟩) p.ls.length c1)) (ds := [19]) #[false, false, false, false, false, false, false, false, false, false, false, false, false, false, false, false, false, false, false, false] (by kernel_rfl) rfl rfl ⟨(by first | exact b0 | exact gb0 | go_keep), (by first | exact n0 | exact g0 | (rw [← HV1.out]; exact g0) | go_keep)⟩ (fun hHeld => ?_)
  refine pure_ (i := 0) (N := some 28) (v := ?_) (a' := ?_) #[true, false, false, false, false, false, false, false, false, false, false, false, false, false, false, false, false, false, false, false] rfl rfl (by kernel_rfl) (fun _ _ _ h => h) (Or.inl ⟨by rfl, ?_⟩) ?_ ?_
  rotate_left
  · intro w'
    go_simp
    with_reducible rfl
  rotate_left
  · simp only [Act.put, List.setIfInBounds_toArray, List.set_cons_zero, List.set_cons_succ]
    rfl
  refine pure_ (i := 1) (N := some 29) (v := ?_) (a' := ?_) #[true, true, false, false, false, false, false, false, false, false, false, false, false, false, false, false, false, false, false, false] rfl rfl (by kernel_rfl) (fun _ _ _ h => h) (Or.inl ⟨by rfl, ?_⟩) ?_ ?_
  rotate_left
  · intro w'
    go_simp
    with_reducible rfl
  rotate_left
  · simp only [Act.put, List.setIfInBounds_toArray, List.set_cons_zero, List.set_cons_succ]
    rfl
  refine pure_ (i := 2) (N := some 30) (v := ?_) (a' := ?_) #[true, true, true, false, false, false, false, false, false, false, false, false, false, false, false, false, false, false, false, false] rfl rfl (by kernel_rfl) (fun _ _ _ h => h) (Or.inl ⟨by rfl, ?_⟩) ?_ ?_
  rotate_left
  · intro w'
    go_simp
    with_reducible rfl
  rotate_left
  · simp only [Act.put, List.setIfInBounds_toArray, List.set_cons_zero, List.set_cons_succ]
    rfl
  refine pure_ (i := 4) (N := some 32) (v := ?_) (a' := ?_) #[true, true, true, false, true, false, false, false, false, false, false, false, false, false, false, false, false, false, false, false] rfl rfl (by kernel_rfl) (fun _ _ _ h => h) (Or.inl ⟨by rfl, ?_⟩) ?_ ?_
  rotate_left
  · intro w'
    go_simp
    with_reducible rfl
  rotate_left
  · simp only [Act.put, List.setIfInBounds_toArray, List.set_cons_zero, List.set_cons_succ]
    rfl
  refine pure_ (i := 5) (N := some 33) (v := ?_) (a' := ?_) #[true, true, true, false, true, true, false, false, false, false, false, false, false, false, false, false, false, false, false, false] rfl rfl (by kernel_rfl) (fun _ _ _ h => h) (Or.inl ⟨by rfl, ?_⟩) ?_ ?_
  rotate_left
  · intro w'
    go_simp
    with_reducible rfl
  rotate_left
  · simp only [Act.put, List.setIfInBounds_toArray, List.set_cons_zero, List.set_cons_succ]
    rfl
  refine pure_ (i := 6) (N := some 34) (v := ?_) (a' := ?_) #[true, true, true, false, true, true, true, false, false, false, false, false, false, false, false, false, false, false, false, false] rfl rfl (by kernel_rfl) (fun _ _ _ h => h) (Or.inl ⟨by rfl, ?_⟩) ?_ ?_
  rotate_left
  · intro w'
    go_simp
    with_reducible rfl
  rotate_left
  · simp only [Act.put, List.setIfInBounds_toArray, List.set_cons_zero, List.set_cons_succ]
    rfl
  refine pure_ (i := 7) (N := some 35) (v := ?_) (a' := ?_) #[true, true, true, false, true, true, true, true, false, false, false, false, false, false, false, false, false, false, false, false] rfl rfl (by kernel_rfl) (fun _ _ _ h => h) (Or.inl ⟨by rfl, ?_⟩) ?_ ?_
  rotate_left
  · intro w'
    go_simp
    with_reducible rfl
  rotate_left
  · simp only [Act.put, List.setIfInBounds_toArray, List.set_cons_zero, List.set_cons_succ]
    rfl
  refine pure_ (i := 9) (N := some 37) (v := ?_) (a' := ?_) #[true, true, true, false, true, true, true, true, false, true, false, false, false, false, false, false, false, false, false, false] rfl rfl (by kernel_rfl) (fun _ _ _ h => h) (Or.inl ⟨by rfl, ?_⟩) ?_ ?_
  rotate_left
  · intro w'
    go_simp
    with_reducible rfl
  rotate_left
  · simp only [Act.put, List.setIfInBounds_toArray, List.set_cons_zero, List.set_cons_succ]
    rfl
  refine pure_ (i := 13) (N := some 41) (v := ?_) (a' := ?_) #[true, true, true, false, true, true, true, true, false, true, false, false, false, true, false, false, false, false, false, false] rfl rfl (by kernel_rfl) (fun _ _ _ h => h) (Or.inl ⟨by rfl, ?_⟩) ?_ ?_
  rotate_left
  · intro w'
    go_simp
    with_reducible rfl
  rotate_left
  · simp only [Act.put, List.setIfInBounds_toArray, List.set_cons_zero, List.set_cons_succ]
    rfl
  refine pure_ (i := 14) (N := some 42) (v := ?_) (a' := ?_) #[true, true, true, false, true, true, true, true, false, true, false, false, false, true, true, false, false, false, false, false] rfl rfl (by kernel_rfl) (fun _ _ _ h => h) (Or.inl ⟨by rfl, ?_⟩) ?_ ?_
  rotate_left
  · intro w'
    go_simp
    with_reducible rfl
  rotate_left
  · simp only [Act.put, List.setIfInBounds_toArray, List.set_cons_zero, List.set_cons_succ]
    rfl
  refine pure_ (i := 15) (N := some 43) (v := ?_) (a' := ?_) #[true, true, true, false, true, true, true, true, false, true, false, false, false, true, true, true, false, false, false, false] rfl rfl (by kernel_rfl) (fun _ _ _ h => h) (Or.inl ⟨by rfl, ?_⟩) ?_ ?_
  rotate_left
  · intro w'
    go_simp
    with_reducible rfl
  rotate_left
  · simp only [Act.put, List.setIfInBounds_toArray, List.set_cons_zero, List.set_cons_succ]
    rfl
  refine take_ (i := 3) (N := some 31) (v := ?_) (a' := ?_) #[true, true, true, true, true, true, true, true, false, true, false, false, false, true, true, true, false, false, false, false] rfl rfl (by kernel_rfl) (fun _ _ _ h => h) (Or.inl ⟨by rfl, ?_⟩) hHeld ?_ ?_
  rotate_left
  · rintro w' ⟨s0, s1⟩
    go_simp
    with_reducible rfl
  rotate_left
  · simp only [Act.put, List.setIfInBounds_toArray, List.set_cons_zero, List.set_cons_succ]
    rfl
  refine take_ (i := 8) (N := some 36) (v := ?_) (a' := ?_) #[true, true, true, true, true, true, true, true, true, true, false, false, false, true, true, true, false, false, false, false] rfl rfl (by kernel_rfl) (fun _ _ _ h => h) (Or.inl ⟨by rfl, ?_⟩) hHeld ?_ ?_
  rotate_left
  · rintro w' ⟨s0, s1⟩
    go_simp
    with_reducible rfl
  rotate_left
  · simp only [Act.put, List.setIfInBounds_toArray, List.set_cons_zero, List.set_cons_succ]
    rfl
  refine pure_ (i := 10) (N := some 38) (v := ?_) (a' := ?_) #[true, true, true, true, true, true, true, true, true, true, true, false, false, true, true, true, false, false, false, false] rfl rfl (by kernel_rfl) (fun _ _ _ h => h) (Or.inl ⟨by rfl, ?_⟩) ?_ ?_
  rotate_left
  · intro w'
    go_simp
    with_reducible rfl
  rotate_left
  · simp only [Act.put, List.setIfInBounds_toArray, List.set_cons_zero, List.set_cons_succ]
    rfl
  refine pure_ (i := 11) (N := some 39) (v := ?_) (a' := ?_) #[true, true, true, true, true, true, true, true, true, true, true, true, false, true, true, true, false, false, false, false] rfl rfl (by kernel_rfl) (fun _ _ _ h => h) (Or.inl ⟨by rfl, ?_⟩) ?_ ?_
  rotate_left
  · intro w'
    go_simp
    with_reducible rfl
  rotate_left
  · simp only [Act.put, List.setIfInBounds_toArray, List.set_cons_zero, List.set_cons_succ]
    rfl
  refine take_ (i := 12) (N := some 40) (v := ?_) (a' := ?_) #[true, true, true, true, true, true, true, true, true, true, true, true, true, true, true, true, false, false, false, false] rfl rfl (by kernel_rfl) (fun _ _ _ h => h) (Or.inl ⟨by rfl, ?_⟩) hHeld ?_ ?_
  rotate_left
  · rintro w' ⟨s0, s1⟩
    go_simp
    with_reducible rfl
  rotate_left
  · simp only [Act.put, List.setIfInBounds_toArray, List.set_cons_zero, List.set_cons_succ]
    rfl
  refine one_ (i := 16) (N := some 44) #[true, true, true, true, true, true, true, true, true, true, true, true, true, true, true, true, true, false, false, false] rfl rfl (by kernel_rfl) (by decide) (fun K hK => ?_)
  go_simp
  go_at_call 183; refine (delS_rw _ (.slice (some ⟨g, 0, none⟩) p.ls.length c1) p.ls i (i : Int) (IntKind.i64.wrap ((i : Int) + 1)) rfl HW.out (HR.out.drewN 1) (by omega)).mono ?_; rintro e w4 ⟨v5, rfl, hr5, hg5, hb5⟩; have hrg := (HT.out.drewN 1).row_grown (HR.out.drewN 1) (by decide) hg5 (p.id * 3); have g0 := hrg.1.trans ((HT.out.drewN 1).n0 HX.out); have gz := hrg.2; clear hrg; have gb0 := ((HT.out.drewN 1).box_grown (HR.out.drewN 1) (by decide) hg5 0).1.trans (HT.out.drewN 1).c0; obtain ⟨A6, c6, hv6, _⟩ := hr5.slice; rw [cS_len, HLEN.out] at hv6; have HR5 := Lib.hid hr5; have HG5 := Lib.hid hg5; have HB5 := Lib.hid hb5; clear hr5 hg5 hb5; subst hv6
  try go_wp2_with fail
  refine hK.out _ _ ⟨(by first | exact b0 | exact gb0 | go_keep), (by first | exact n0 | exact g0 | (rw [← HV1.out]; exact g0) | go_keep)⟩ (fun hHeld => ?_)
  clear hK K
  refine pure_ (i := 17) (N := some 45) (v := ?_) (a' := ?_) #[true, true, true, true, true, true, true, true, true, true, true, true, true, true, true, true, true, true, false, false] rfl rfl (by kernel_rfl) (fun _ _ _ h => h) (Or.inl ⟨by rfl, ?_⟩) ?_ ?_
  rotate_left
  · intro w'
    go_simp
    with_reducible rfl
  rotate_left
  · simp only [Act.put, List.setIfInBounds_toArray, List.set_cons_zero, List.set_cons_succ]
    rfl
  refine pure_ (i := 18) (N := some 46) (v := ?_) (a' := ?_) #[true, true, true, true, true, true, true, true, true, true, true, true, true, true, true, true, true, true, true, false] rfl rfl (by kernel_rfl) (fun _ _ _ h => h) (Or.inl ⟨by rfl, ?_⟩) ?_ ?_
  rotate_left
  · intro w'
    go_simp
    with_reducible rfl
  rotate_left
  · simp only [Act.put, List.setIfInBounds_toArray, List.set_cons_zero, List.set_cons_succ]
    rfl
  refine last_ (i := 19) (N := none) #[true, true, true, true, true, true, true, true, true, true, true, true, true, true, true, true, true, true, true, true] rfl rfl (by kernel_rfl) (by decide) (fun K hK => ?_)
  refine skip_ (w1 := ?_) (by rfl) rfl ?_ ?_
  rotate_left
  · go_simp
    rfl
  refine hK.out _ _ ?_
  clear hK K
  refine done_ (by kernel_rfl) ?_
  clear hHeld
  all_goals
    have hT5 := (HT.out.drewN 1).setLs HX.out (w2 := w4) (v := .slice A6 (p.ls.length - 1) c6) (ls := p.ls.eraseIdx i) (by rw [HV1.out]; exact HG5.out) HR5.out ((HT.out.drewN 1).at_l (fun b hb => HF.out b hb) HX.out (.inl (by rw [HV1.out]; exact HB5.out)))
    have HC5 := Lib.hid ((((Chg.refl F w).drewN 1).grown HG5.out (fun b hb => HT.out.footL _ _ b HX.out (by rw [HV1.out]; exact hb))).setCell (p := ⟨N, p.id * 3, none⟩) HT.out.footN (.slice A6 (p.ls.length - 1) c6))
    have hta : Ta (w4.setCell ⟨N, p.id * 3, none⟩ (.slice A6 (p.ls.length - 1) c6)) F B ((pus L).set p.id ⟨p.ls.eraseIdx i, [], x.ct⟩) fr root := hT5.ta (by rw [pus_set]; simp only [NV.pu, HXK.out])
    have HTA5 := Lib.hid hta
    have hget : ((pus L).set p.id ⟨p.ls.eraseIdx i, [], x.ct⟩)[p.id]? = some ⟨p.ls.eraseIdx i, [], x.ct⟩ := Bt.set_self (by rw [pus_length]; exact hkl)
    have HGET := Lib.hid hget
    clear hT5 hta hget b0 n0 n1 g0 gz gb0 ec
    go_wp2_with fail
    go_at_call 50
    refine (sum_ta HTA5.out HGET.out (fun j hj => by cases hj) (by simp only [Bt.cts, List.map_nil, List.sum_nil, HLEN.out]; omega)).mono ?_
    rintro e w5 ⟨rfl, ta5, ch5⟩
    have HTA6 := Lib.hid ta5
    have HC6 := Lib.hid (HC5.out.trans ch5)
    clear ta5 ch5
    go_wp2
    go_ret
    exact ⟨_, _, _, by rw [← HLN.out]; rfl, HTA6.out, HC6.out, HREM.out⟩

set_option maxRecDepth 100000 in
set_option maxHeartbeats 2000000 in
theorem remove_node {d : Nat} (ih : ∀ {w : World} {F : Nat → Prop} {B : Nat} {A : List Bt.Nd} {fr : List Nat} {root : Nat} (_ : Ta w F B A fr root) {p : Bt.Part} (_ : Bt.Rep A d p) {i : Nat} (_ : i < p.ls.length) (_ : (p.ids ++ fr).Nodup) (_ : d ≠ 0 → 2 ≤ (Bt.nd A p.id).size)
      (_ : ∀ b, w.heap.size ≤ b → F b) (_ : p.ls.length ≤ 10000000000) (_ : p.ids.length + fr.length ≤ 1000000000000),
      Calls Tryz.prog 169 #[.pointer (some ⟨B, 0, none⟩), .int .i64 p.id, .int .i64 i] w (RemPost F B root A fr d p i w))
    {w : World} {F : Nat → Prop} {B : Nat} {A : List Bt.Nd} {fr : List Nat} {root : Nat} (h : Ta w F B A fr root) {p : Bt.Part} (hp : Bt.Rep A (d + 1) p) {i : Nat} (hi : i < p.ls.length) (hn : (p.ids ++ fr).Nodup) (h2 : 2 ≤ (Bt.nd A p.id).size)
    (hF : ∀ b, w.heap.size ≤ b → F b) (hl : p.ls.length ≤ 10000000000) (hidl : p.ids.length + fr.length ≤ 1000000000000) :
    Calls Tryz.prog 169 #[.pointer (some ⟨B, 0, none⟩), .int .i64 p.id, .int .i64 i] w (RemPost F B root A fr (d + 1) p i w) := by
  have HTA := Lib.hid h
  obtain ⟨N, cap, fv, bytes, L, hT, hpus⟩ := h
  obtain ⟨ps, hps0, hpk, hpls, hpids, hps⟩ := hp
  rw [Bt.nd_some hpk] at h2
  simp only [Bt.Nd.size, List.length_nil, List.length_map, Nat.zero_add] at h2
  rw [← hpus] at hpk
  obtain ⟨x, hx, hpu⟩ := pus_some hpk
  rw [hpus] at hpk
  have hxk : x.ks = ps.map Bt.Part.id := congrArg Bt.Nd.ks hpu
  have b0 := hT.c0
  have n1 := hT.n1 hx
  have hkl := (List.getElem?_eq_some_iff.1 hx).1
  have hf := hT.fit
  have hle := hT.le
  unfold maxLen at hf
  have hkl' : (p.id : Int) < L.length := by omega
  have hplen := Bt.parts_len hps
  rw [← hpls] at hplen
  have hpos : 0 < ps.length := by omega
  obtain ⟨A2, c2, hv2, hl2, hm2, hA2⟩ := (hT.kids _ x hx).slice
  rw [hxk, cK_len, List.length_map] at hv2 hl2 hA2
  obtain ⟨g, rfl⟩ := hA2 hpos
  rw [hv2] at n1
  have hrow := hT.kids _ x hx
  rw [hxk, hv2] at hrow
  obtain ⟨p1, q0, p2, r, hsplit, hfind, hir, hrq, hrq2⟩ := Bt.find_law ps 0 i hps0 (fun q hq => (hps q hq).1) (by rw [← hpls]; omega)
  have hrq3 := hrq2 (by rw [← hpls]; exact hi)
  have hk1 : ∀ j ∈ ps.map Bt.Part.id, ∃ y, A[j]? = some y ∧ 0 ≤ y.ct := fun j hj => by
    obtain ⟨q, hq, rfl⟩ := List.mem_map.1 hj
    obtain ⟨y, hy, hc⟩ := (hps q hq).1.get
    exact ⟨y, hy, by rw [hc]; omega⟩
  rw [Nat.zero_add] at hfind
  have hcell := hrow.cell (j := p1.length) (cK_at (k := q0.id) (by rw [hsplit]; simp))
  have hp1 : p1.length < ps.length := by rw [hsplit]; simp
  have hp1' : (p1.length : Int) < ps.length := by omega
  have hq0 := hps q0 (by rw [hsplit]; simp)
  have hids : (p.id :: (ps.flatMap Bt.Part.ids ++ fr)).Nodup := by rw [hpids] at hn; exact hn
  have hqn : (q0.ids ++ fr).Nodup := by
    have := hids
    rw [hsplit] at this
    exact (Bt.nodup_part (A := [p.id]) this).2.2
  have hqlen : q0.ls.length ≤ p.ls.length := by
    rw [hpls, hsplit, List.flatMap_append, List.flatMap_cons, List.length_append, List.length_append]
    omega
  have hqid : q0.ids.length ≤ p.ids.length := by
    rw [hpids, hsplit, List.length_cons, List.flatMap_append, List.flatMap_cons, List.length_append, List.length_append]
    omega
  have hfc := find_ta HTA.out hpk (by simpa using hps0) hk1 (i := i) (by omega)
  simp only at hfc
  rw [hfind] at hfc
  have HFC := Lib.hid hfc
  have hic := ih HTA.out hq0.1 (i := r) hrq3 hqn (fun _ => by have := hq0.2; omega) hF (by omega) (by omega)
  have HIC := Lib.hid hic
  unfold maxLen at hm2
  have hpc : p1.length ≤ 10000000000 := by omega
  have HE := Lib.hid (And.intro hpk (And.intro hpls (And.intro hpids (And.intro hps (And.intro hsplit (And.intro hir (And.intro hn (And.intro hF hrq3))))))))
  have hr9 : r ≤ 10000000000 := by omega
  have hpsl : ps.length ≤ 10000000000 := by omega
  clear hfc hic hk1 hids hqn hq0 hrow hT hx hpk hpls hpids hps hsplit hir hn hF hfind hv2 hA2 hxk hpu hps0 ih hp1 hqlen hpus hrq hrq2 hrq3 hqid
  go_enter Tryz.func169, Tryz.ntmps169
  go_wp2_with (first
    | (go_at_call 66; refine (leaf_no (n := ps.length) (c := c2) (A := some ⟨g, 0, none⟩) (by go_simp) (by omega) (by omega)).mono ?_; rintro e w1 ⟨rfl, rfl⟩)
    | (go_at_call 68; refine HFC.out.mono ?_; rintro e w1 ⟨rfl, rfl⟩)
    | (go_at_call 169; fail))
  go_at_call 169
  refine HIC.out.mono ?_
  rintro e w2 ⟨A1, fr1, q1, rfl, ta2, ch2, hrem⟩
  obtain ⟨hpk, hpls, hpids, hps, hsplit, hir, hn, hF, hrq⟩ := HE.out
  obtain ⟨hmend, hperm, hsub⟩ := Bt.rem_mendable hsplit hpk hpids hpls hps hn h2 hrem (by have := List.length_eraseIdx_le q0.ls r; exact this) hl
  have hfr1 : fr1.length ≤ 1000000000000 := by
    have h8 := hperm.length_eq
    rw [List.length_append, List.length_append] at h8
    rw [hpids, List.length_cons] at hidl
    omega
  have hmc := mend_any ta2 hmend rfl (fun b hb => hF b (Nat.le_trans ch2.size hb)) hfr1
  have HMC := Lib.hid hmc
  have HC2 := Lib.hid ch2
  have HREM := Lib.hid hrem
  have HPERM := Lib.hid (And.intro hperm hsub)
  obtain ⟨ln, hln⟩ : ∃ ln, ln = q0.ls.getD r ByteArray.empty := ⟨_, rfl⟩
  have hlnp : ln = p.ls.getD i ByteArray.empty := by
    rw [hln, hpls, hsplit, hir, List.flatMap_append, List.flatMap_cons, List.getD_eq_getElem?_getD, List.getD_eq_getElem?_getD, List.getElem?_append_right (by omega), Nat.add_sub_cancel_left, List.getElem?_append_left hrq]
  have HLN := Lib.hid hlnp
  rw [← hln]
  clear hmc ch2 hrem hperm hsub hmend ta2 hfr1 hln hlnp b0 n1 hcell hpk hpls hpids hps hsplit hir hn hF hrq
  go_wp2_with fail
  go_at_call 184
  refine HMC.out.mono ?_
  rintro e w3 ⟨rfl, ⟨A3, fr3, ps3, ta3, hmd⟩, ch3⟩
  obtain ⟨hpk, hpls, hpids, hps, hsplit, hir, hn, hF, hrq⟩ := HE.out
  have hlines : (p1 ++ q1 :: p2).flatMap Bt.Part.ls = p.ls.eraseIdx i := by
    rw [List.flatMap_append, List.flatMap_cons, HREM.out.lines, hpls, hsplit, hir, List.flatMap_append, List.flatMap_cons, Bt.erase_mid _ _ _ _ hrq]
  have hf1 : ∀ j, j ∉ p.ids → A1[j]? = A[j]? := fun j hj => HREM.out.frame j (fun e => hj (by rw [hpids, hsplit]; exact List.mem_cons_of_mem _ (List.mem_flatMap.2 ⟨q0, by simp, e⟩)))
  obtain ⟨⟨q, hq⟩, m1, m2, m3⟩ := Bt.rem_node hpk hpids hn HPERM.out.1 HREM.out.length (by rw [hsplit]; simp) HPERM.out.2 hf1 hlines (by have := List.length_eraseIdx_le p.ls i; omega) hmd
  have HQ := Lib.hid hq
  have HM := Lib.hid (And.intro m1 (And.intro m2 m3))
  have HTA3 := Lib.hid ta3
  have HC3 := Lib.hid (HC2.out.trans ch3)
  clear hq m1 m2 m3 ta3 ch3 hlines hf1 hmd hpk hpls hpids hps hsplit hir hn hF hrq
  go_wp2_with fail
  go_at_call 50
  refine (sum_ta HTA3.out HM.out.1 HM.out.2.1 (by have := HM.out.2.2; simp only [List.length_nil]; omega)).mono ?_
  rintro e w5 ⟨rfl, ta5, ch5⟩
  have HTA6 := Lib.hid ta5
  have HC6 := Lib.hid (HC3.out.trans ch5)
  clear ta5 ch5
  go_wp2
  go_ret
  exact ⟨_, _, _, by rw [← HLN.out]; rfl, HTA6.out, HC6.out, HQ.out⟩

theorem remove_any : ∀ (d : Nat) {w : World} {F : Nat → Prop} {B : Nat} {A : List Bt.Nd} {fr : List Nat} {root : Nat} (_ : Ta w F B A fr root) {p : Bt.Part} (_ : Bt.Rep A d p) {i : Nat} (_ : i < p.ls.length) (_ : (p.ids ++ fr).Nodup) (_ : d ≠ 0 → 2 ≤ (Bt.nd A p.id).size)
      (_ : ∀ b, w.heap.size ≤ b → F b) (_ : p.ls.length ≤ 10000000000) (_ : p.ids.length + fr.length ≤ 1000000000000),
      Calls Tryz.prog 169 #[.pointer (some ⟨B, 0, none⟩), .int .i64 p.id, .int .i64 i] w (RemPost F B root A fr d p i w)
  | 0 => fun h p hp i hi _ _ hF hl _ => remove_leaf h hp hi hF hl
  | d + 1 => fun h p hp i hi hn h2 hF hl hidl => remove_node (remove_any d) h hp hi hn (h2 (by simp)) hF hl hidl
end Go.Proofs.YtdhemdeapphfoaaGreatDoor
