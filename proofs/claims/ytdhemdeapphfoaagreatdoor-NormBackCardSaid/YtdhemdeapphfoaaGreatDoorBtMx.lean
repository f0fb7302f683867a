import Derived.Test.YtdhemdeapphfoaaGreatDoorBtH
import Derived.Deep.RegionLaw
set_option linter.unusedVariables false
set_option linter.unusedSimpArgs false

/- The tree's move, walked: of a leaf, its last one ahead of its neighbour's. -/
namespace Go.Proofs.YtdhemdeapphfoaaGreatDoor
open Go.RowKit Go.Shelf Go.Proofs.YtdhemdeapphfoaaGreatDoorW.PrintWords Go.Proofs.YtdhemdeapphfoaaGreatDoorW.PrintLast

set_option maxRecDepth 100000 in
set_option maxHeartbeats 2000000 in
theorem move_lb {w : World} {F : Nat → Prop} {B : Nat} {A : List Bt.Nd} {fr : List Nat} {root : Nat} (h : Ta w F B A fr root) {f t : Nat} (hft : f ≠ t) {xn yn : Bt.Nd} (hxn : A[f]? = some xn) (hyn : A[t]? = some yn) {l : List ByteArray} {v : ByteArray} (hxf : xn.ls = (l ++ [v])) (hxo : xn.ks = [])
    (hs : ∀ A' : List Bt.Nd, A' = (A.set t ⟨(v :: yn.ls), yn.ks, yn.ct⟩).set f ⟨l, [], xn.ct⟩ → (∀ n, A'[f]? = some n → (∀ j ∈ n.ks, j ≠ f ∧ ∃ y, A'[j]? = some y ∧ 0 ≤ y.ct) ∧ (n.ls.length : Int) + Bt.cts A' n.ks ≤ 4611686018427387904) ∧ (∀ n, (Bt.setSum A' f)[t]? = some n → (∀ j ∈ n.ks, j ≠ t ∧ ∃ y, (Bt.setSum A' f)[j]? = some y ∧ 0 ≤ y.ct) ∧ (n.ls.length : Int) + Bt.cts (Bt.setSum A' f) n.ks ≤ 4611686018427387904))
    (hF : ∀ b, w.heap.size ≤ b → F b) (hbx : xn.ls.length ≤ 100000000000) (hby : yn.ls.length ≤ 100000000000) :
    Calls Tryz.prog 189 #[.pointer (some ⟨B, 0, none⟩), .int .i64 f, .int .i64 t, .bool true] w fun e w' => e = .returned (.tuple #[]) ∧ Ta w' F B (Bt.setSum (Bt.setSum ((A.set t ⟨(v :: yn.ls), yn.ks, yn.ct⟩).set f ⟨l, [], xn.ct⟩) f) t) fr root ∧ Chg F w w' := by
  obtain ⟨N, cap, fv, bytes, L, hT, rfl⟩ := h
  obtain ⟨x, hx, rfl⟩ := pus_some hxn
  obtain ⟨y, hy, rfl⟩ := pus_some hyn
  have hxf : x.ls = (l ++ [v]) := hxf
  have hxo : x.ks = [] := hxo
  have hbx : x.ls.length ≤ 100000000000 := hbx
  have hby : y.ls.length ≤ 100000000000 := hby
  have b0 := hT.c0
  have x0 := hT.n0 hx
  have xo := hT.n1 hx
  have y0 := hT.n0 hy
  have xz := hT.zN (f * 3)
  have yz := hT.zN (t * 3)
  have hfl := (List.getElem?_eq_some_iff.1 hx).1
  have htl := (List.getElem?_eq_some_iff.1 hy).1
  have hfit := hT.fit
  have hle := hT.le
  unfold maxLen at hfit
  have hfl' : (f : Int) < L.length := by omega
  have htl' : (t : Int) < L.length := by omega
  have hne1 : ¬ f * 3 = t * 3 := by omega
  have hne2 : ¬ t * 3 = f * 3 := by omega
  have hxl : x.ls.length = l.length + 1 := by rw [hxf]; simp
  obtain ⟨A1, c1, hv1, hl1, hm1, hA1⟩ := (hT.lines _ x hx).slice
  obtain ⟨A2, c2, hv2, hl2, hm2, _⟩ := (hT.kids _ x hx).slice
  obtain ⟨A3, c3, hv3, hl3, hm3, _⟩ := (hT.lines _ y hy).slice
  rw [cS_len, hxl] at hv1 hl1 hA1
  rw [hxo] at hv2 hl2
  rw [cS_len] at hv3 hl3
  rw [show (cK []).length = 0 from rfl] at hv2 hl2
  obtain ⟨g, rfl⟩ := hA1 (by omega)
  rw [hv1] at x0
  rw [hv2] at xo
  rw [hv3] at y0
  unfold maxLen at hm1 hm2 hm3
  have hrx := hT.lines _ x hx
  have hry := hT.lines _ y hy
  rw [hv1, hxf] at hrx
  rw [hv3] at hry
  have xe := hrx.cell (j := l.length) (cS_at (show (l ++ [v])[l.length]? = some v by simp))
  have hgl : g < w.heap.size := hT.own_lt_l hx g (by rw [hv1]; rfl)
  have hgN : ¬ g = N := fun e => by
    obtain ⟨rest, hr, _⟩ := hT.row
    exact hrx.ne hr (by decide) (by rw [e]; rfl)
  have hNg : ¬ N = g := fun e => hgN e.symm
  have hyg : (Value.slice A3 y.ls.length c3).ownBlock ≠ some g := fun e => hft (hT.apartL f t x y g hx hy (by rw [hv1]; rfl) (by rw [hv3]; exact e))
  have HNl := hT.ltN
  have hyl : ∀ b, (Value.slice A3 y.ls.length c3).ownBlock = some b → b < w.heap.size := fun b hb => hT.own_lt_l hy b (by rw [hv3]; exact hb)
  have HXf := Lib.hid hxf
  have HXo := Lib.hid hxo
  have HV1 := Lib.hid hv1
  have HV3 := Lib.hid hv3
  have HX := Lib.hid hx
  have HY := Lib.hid hy
  have HT := Lib.hid hT
  have HF := Lib.hid hF
  have HS := Lib.hid hs
  have HRX := Lib.hid hrx
  have HRY := Lib.hid hry
  have HNE : Hid ((Value.slice A3 y.ls.length c3).ownBlock ≠ some w.heap.size) := fun e => by
    have := hyl w.heap.size e
    omega
  have HBG := Lib.hid (show ((cS y.ls).length + 1) * 16 ≤ 140737488355328 by rw [cS_len]; omega)
  have HYG := Lib.hid hyg
  have HSC : Hid (∀ (W : World) (u : Value), (W.setCell ⟨N, t * 3, none⟩ u).cell? ⟨N, f * 3, none⟩ = W.cell? ⟨N, f * 3, none⟩) := fun W u => by apply World.cell?_setCell_other; intro e; injection e with _ e2 _; omega
  clear hxf hxo hv1 hv2 hv3 hx hy hT hF hs hrx hry hA1 hyg hyl hxn hyn
  go_enter Tryz.func189, Tryz.ntmps189
  go_wp2
  go_quiet (fail)
  go_wp2_with (go_at_call 66; refine (leaf_at (n := 0) (c := c2) (A := A2) (by go_simp) (by omega)).mono ?_; rintro e w1 ⟨rfl, rfl⟩)
  have HTa := Lib.hid ((HT.out.drewN (nq + 1)).alloc (.cells #[.string v] 9))
  have HRa := Lib.hid ((HRY.out.drewN (nq + 1)).alloc (.cells #[.string v] 9))
  have HRxa := Lib.hid ((HRX.out.drewN (nq + 1)).alloc (.cells #[.string v] 9))
  have hya := HTa.out.n0 HY.out
  rw [HV3.out] at hya
  have hll1 : (l.length : Int) < (l.length : Int) + 1 := by omega
  refine start_ (n := 17) (S := fun w' => w'.cell? ⟨N, f * 3, none⟩ = some (.slice (some ⟨g, 0, none⟩) (l.length + 1) c1) ∧ w'.cell? ⟨g, l.length, none⟩ = some (.string v) ∧ w'.cell? ⟨N, t * 3, none⟩ = some (.slice A3 y.ls.length c3)) (ds := [16]) #[false, false, false, false, false, false, false, false, false, false, false, false, false, false, false, false, false] (by kernel_rfl) rfl rfl ⟨(by first | exact x0 | exact gx0 | exact xo | go_keep), (by first | exact xe | exact gxe | go_keep), (by first | exact y0 | exact gy0 | go_keep)⟩ (fun hHeld => ?_)
  refine pure_ (i := 0) (N := some 59) (v := ?_) (a' := ?_) #[true, false, false, false, false, false, false, false, false, false, false, false, false, false, false, false, false] rfl rfl (by kernel_rfl) (fun _ _ _ h => h) (Or.inl ⟨by rfl, ?_⟩) ?_ ?_
  rotate_left
  · intro w'
    go_simp
    with_reducible rfl
  rotate_left
  · simp only [Act.put, List.setIfInBounds_toArray, List.set_cons_zero, List.set_cons_succ]
    rfl
  refine pure_ (i := 1) (N := some 60) (v := ?_) (a' := ?_) #[true, true, false, false, false, false, false, false, false, false, false, false, false, false, false, false, false] rfl rfl (by kernel_rfl) (fun _ _ _ h => h) (Or.inl ⟨by rfl, ?_⟩) ?_ ?_
  rotate_left
  · intro w'
    go_simp
    with_reducible rfl
  rotate_left
  · simp only [Act.put, List.setIfInBounds_toArray, List.set_cons_zero, List.set_cons_succ]
    rfl
  refine pure_ (i := 2) (N := some 61) (v := ?_) (a' := ?_) #[true, true, true, false, false, false, false, false, false, false, false, false, false, false, false, false, false] rfl rfl (by kernel_rfl) (fun _ _ _ h => h) (Or.inl ⟨by rfl, ?_⟩) ?_ ?_
  rotate_left
  · intro w'
    go_simp
    with_reducible rfl
  rotate_left
  · simp only [Act.put, List.setIfInBounds_toArray, List.set_cons_zero, List.set_cons_succ]
    rfl
  refine pure_ (i := 3) (N := some 62) (v := ?_) (a' := ?_) #[true, true, true, true, false, false, false, false, false, false, false, false, false, false, false, false, false] rfl rfl (by kernel_rfl) (fun _ _ _ h => h) (Or.inl ⟨by rfl, ?_⟩) ?_ ?_
  rotate_left
  · intro w'
    go_simp
    with_reducible rfl
  rotate_left
  · simp only [Act.put, List.setIfInBounds_toArray, List.set_cons_zero, List.set_cons_succ]
    rfl
  refine pure_ (i := 5) (N := some 64) (v := ?_) (a' := ?_) #[true, true, true, true, false, true, false, false, false, false, false, false, false, false, false, false, false] rfl rfl (by kernel_rfl) (fun _ _ _ h => h) (Or.inl ⟨by rfl, ?_⟩) ?_ ?_
  rotate_left
  · intro w'
    go_simp
    with_reducible rfl
  rotate_left
  · simp only [Act.put, List.setIfInBounds_toArray, List.set_cons_zero, List.set_cons_succ]
    rfl
  refine pure_ (i := 6) (N := some 65) (v := ?_) (a' := ?_) #[true, true, true, true, false, true, true, false, false, false, false, false, false, false, false, false, false] rfl rfl (by kernel_rfl) (fun _ _ _ h => h) (Or.inl ⟨by rfl, ?_⟩) ?_ ?_
  rotate_left
  · intro w'
    go_simp
    with_reducible rfl
  rotate_left
  · simp only [Act.put, List.setIfInBounds_toArray, List.set_cons_zero, List.set_cons_succ]
    rfl
  refine pure_ (i := 7) (N := some 66) (v := ?_) (a' := ?_) #[true, true, true, true, false, true, true, true, false, false, false, false, false, false, false, false, false] rfl rfl (by kernel_rfl) (fun _ _ _ h => h) (Or.inl ⟨by rfl, ?_⟩) ?_ ?_
  rotate_left
  · intro w'
    go_simp
    with_reducible rfl
  rotate_left
  · simp only [Act.put, List.setIfInBounds_toArray, List.set_cons_zero, List.set_cons_succ]
    rfl
  refine pure_ (i := 9) (N := some 68) (v := ?_) (a' := ?_) #[true, true, true, true, false, true, true, true, false, true, false, false, false, false, false, false, false] rfl rfl (by kernel_rfl) (fun _ _ _ h => h) (Or.inl ⟨by rfl, ?_⟩) ?_ ?_
  rotate_left
  · intro w'
    go_simp
    with_reducible rfl
  rotate_left
  · simp only [Act.put, List.setIfInBounds_toArray, List.set_cons_zero, List.set_cons_succ]
    rfl
  refine take_ (i := 4) (N := some 63) (v := ?_) (a' := ?_) #[true, true, true, true, true, true, true, true, false, true, false, false, false, false, false, false, false] rfl rfl (by kernel_rfl) (fun _ _ _ h => h) (Or.inl ⟨by rfl, ?_⟩) hHeld ?_ ?_
  rotate_left
  · rintro w' ⟨s0, s1, s2⟩
    go_simp
    with_reducible rfl
  rotate_left
  · simp only [Act.put, List.setIfInBounds_toArray, List.set_cons_zero, List.set_cons_succ]
    rfl
  refine take_ (i := 8) (N := some 67) (v := ?_) (a' := ?_) #[true, true, true, true, true, true, true, true, true, true, false, false, false, false, false, false, false] rfl rfl (by kernel_rfl) (fun _ _ _ h => h) (Or.inl ⟨by rfl, ?_⟩) hHeld ?_ ?_
  rotate_left
  · rintro w' ⟨s0, s1, s2⟩
    go_simp
    with_reducible rfl
  rotate_left
  · simp only [Act.put, List.setIfInBounds_toArray, List.set_cons_zero, List.set_cons_succ]
    rfl
  refine pure_ (i := 10) (N := some 69) (v := ?_) (a' := ?_) #[true, true, true, true, true, true, true, true, true, true, true, false, false, false, false, false, false] rfl rfl (by kernel_rfl) (fun _ _ _ h => h) (Or.inl ⟨by rfl, ?_⟩) ?_ ?_
  rotate_left
  · intro w'
    go_simp
    with_reducible rfl
  rotate_left
  · simp only [Act.put, List.setIfInBounds_toArray, List.set_cons_zero, List.set_cons_succ]
    rfl
  refine take_ (i := 11) (N := some 70) (v := ?_) (a' := ?_) #[true, true, true, true, true, true, true, true, true, true, true, true, false, false, false, false, false] rfl rfl (by kernel_rfl) (fun _ _ _ h => h) (Or.inl ⟨by rfl, ?_⟩) hHeld ?_ ?_
  rotate_left
  · rintro w' ⟨s0, s1, s2⟩
    go_simp
    with_reducible rfl
  rotate_left
  · simp only [Act.put, List.setIfInBounds_toArray, List.set_cons_zero, List.set_cons_succ]
    rfl
  refine one_ (i := 12) (N := some 71) #[true, true, true, true, true, true, true, true, true, true, true, true, true, false, false, false, false] rfl rfl (by kernel_rfl) (by decide) (fun K hK => ?_)
  refine value_ (w1 := ?_) (v := ?_) (by rfl) rfl ?_ ?_
  rotate_left 2
  · go_simp
    constructor
    · rfl
    · rfl
  refine hK.out _ _ ⟨(by first | exact x0 | exact gx0 | exact xo | go_keep), (by first | exact xe | exact gxe | go_keep), (by first | exact y0 | exact gy0 | go_keep)⟩ (fun hHeld => ?_)
  clear hK K
  refine norm_ (a' := ?_) ?_ ?_
  rotate_left
  · show Act.put _ (some 71) _ = _
    simp only [Act.put, List.setIfInBounds_toArray, List.set_cons_zero, List.set_cons_succ]
    rfl
  refine one_ (i := 13) (N := some 72) #[true, true, true, true, true, true, true, true, true, true, true, true, true, true, false, false, false] rfl rfl (by kernel_rfl) (by decide) (fun K hK => ?_)
  go_simp
  go_at_call 67; refine (insS_rw _ (.slice A3 y.ls.length c3) (cS y.ls) (.string v) w.heap.size 0 HRa.out (Nat.zero_le _) rfl (new_at _ _ rfl _) HNE.out HBG.out).mono ?_; rintro e w1 ⟨v1, rfl, hr1, hg1, ha1⟩; have hrg := HTa.out.row_grown HRa.out (by decide) hg1; have gx0 := (hrg (f * 3)).1.trans (HTa.out.n0 HX.out); rw [HV1.out] at gx0; have gy0 := (hrg (t * 3)).1.trans (HTa.out.n0 HY.out); rw [HV3.out] at gy0; have gz1 := (hrg (f * 3)).2; have gz2 := (hrg (t * 3)).2; clear hrg; have hrx1 := HRxa.out.step (w' := w1) (fun b hb => hg1.block b (HRxa.out.lt b hb) (fun e => by injection hb with hb; simp only at hb; rw [← hb] at e; exact HYG.out e.symm)); have gxe := hrx1.cell (j := l.length) (cS_at (show (l ++ [v])[l.length]? = some v by simp)); obtain ⟨A4, c4, hv4, _⟩ := hr1.slice; rw [show (List.take 0 (cS y.ls) ++ (.string v) :: List.drop 0 (cS y.ls)).length = y.ls.length + 1 by simp [cS_len]] at hv4; have HR1 := Lib.hid hr1; have HG1 := Lib.hid hg1; have HA1 := Lib.hid ha1; have HRX1 := Lib.hid hrx1; clear hr1 hg1 ha1 hrx1; subst hv4
  try go_wp2_with fail
  refine hK.out _ _ ⟨(by first | exact x0 | exact gx0 | exact xo | go_keep), (by first | exact xe | exact gxe | go_keep), (by first | exact y0 | exact gy0 | go_keep)⟩ (fun hHeld => ?_)
  clear hK K
  refine pure_ (i := 14) (N := some 73) (v := ?_) (a' := ?_) #[true, true, true, true, true, true, true, true, true, true, true, true, true, true, true, false, false] rfl rfl (by kernel_rfl) (fun _ _ _ h => h) (Or.inl ⟨by rfl, ?_⟩) ?_ ?_
  rotate_left
  · intro w'
    go_simp
    with_reducible rfl
  rotate_left
  · simp only [Act.put, List.setIfInBounds_toArray, List.set_cons_zero, List.set_cons_succ]
    rfl
  refine pure_ (i := 15) (N := some 74) (v := ?_) (a' := ?_) #[true, true, true, true, true, true, true, true, true, true, true, true, true, true, true, true, false] rfl rfl (by kernel_rfl) (fun _ _ _ h => h) (Or.inl ⟨by rfl, ?_⟩) ?_ ?_
  rotate_left
  · intro w'
    go_simp
    with_reducible rfl
  rotate_left
  · simp only [Act.put, List.setIfInBounds_toArray, List.set_cons_zero, List.set_cons_succ]
    rfl
  refine last_ (i := 16) (N := none) #[true, true, true, true, true, true, true, true, true, true, true, true, true, true, true, true, true] rfl rfl (by kernel_rfl) (by decide) (fun K hK => ?_)
  refine skip_ (w1 := ?_) (by rfl) rfl ?_ ?_
  rotate_left
  · go_simp
    rfl
  refine hK.out _ _ ?_
  clear hK K
  refine done_ (by kernel_rfl) ?_
  clear hHeld hll1
  all_goals
    have hFa : ∀ b, ((w.drewN (nq + 1)).alloc (.cells #[.string v] 9)).heap.size ≤ b → F b := fun b hb => HF.out b (by simp at hb; omega)
    have hr1 := HR1.out
    rw [List.take_zero, List.drop_zero, List.nil_append, show (.string v) :: cS y.ls = cS (v :: y.ls) from rfl] at hr1
    have hT2 := HTa.out.setLs HY.out (w2 := w1) (v := .slice A4 (y.ls.length + 1) c4) (ls := (v :: y.ls)) (by rw [HV3.out]; exact HG1.out) hr1 (HTa.out.at_l hFa HY.out (by rw [HV3.out]; exact HA1.out))
    have HC2 := Lib.hid (((((Chg.refl F w).drewN (nq + 1)).alloc (.cells #[.string v] 9)).grown HG1.out (fun b hb => HT.out.footL _ y b HY.out (by rw [HV3.out]; exact hb))).setCell (p := ⟨N, t * 3, none⟩) HT.out.footN (.slice A4 (y.ls.length + 1) c4))
    have hxs : (L.set t ⟨.slice A4 (y.ls.length + 1) c4, y.vk, (v :: y.ls), y.ks, y.ct⟩)[f]? = some x := by rw [List.getElem?_set, if_neg (fun e => hft e.symm)]; exact HX.out
    have h2rx := hT2.lines f x hxs
    rw [HV1.out, HXf.out] at h2rx
    have h2rx' := h2rx.take (m := l.length) (c' := c1) (by omega) (by omega) (Nat.le_refl _)
    rw [show (cS (l ++ [v])).take l.length = cS l by simp [cS]] at h2rx'
    have hT3 := hT2.setLs hxs (grown_id _ _) (v := .slice (some ⟨g, 0, none⟩) l.length c1) (ls := l) h2rx' (hT2.at_l (fun b hb => HF.out b (Nat.le_trans HC2.out.size hb)) hxs (.inl (by rw [HV1.out]; rfl)))
    have HC3 := Lib.hid (HC2.out.setCell (p := ⟨N, f * 3, none⟩) HT.out.footN (.slice (some ⟨g, 0, none⟩) l.length c1))
    have hA3 : pus ((L.set t ⟨.slice A4 (y.ls.length + 1) c4, y.vk, (v :: y.ls), y.ks, y.ct⟩).set f (NV.mk (.slice (some ⟨g, 0, none⟩) l.length c1) x.vk l x.ks x.ct)) = ((pus L).set t ⟨(v :: y.ls), y.ks, y.ct⟩).set f ⟨l, [], x.ct⟩ := by rw [pus_set, pus_set]; simp only [NV.pu, HXo.out]
    have HTA3 := Lib.hid (hT3.ta hA3)
    obtain ⟨s1, s2⟩ := HS.out (((pus L).set t ⟨(v :: y.ls), y.ks, y.ct⟩).set f ⟨l, [], x.ct⟩) rfl
    have hpl := pus_length L
    have e1 : (((pus L).set t ⟨(v :: y.ls), y.ks, y.ct⟩).set f ⟨l, [], x.ct⟩)[f]? = some ⟨l, [], x.ct⟩ := Bt.set_self (by rw [List.length_set, hpl]; exact hfl)
    have e2 : (Bt.setSum (((pus L).set t ⟨(v :: y.ls), y.ks, y.ct⟩).set f ⟨l, [], x.ct⟩) f)[t]? = some ⟨(v :: y.ls), y.ks, y.ct⟩ := by rw [Bt.setSum_other (fun e => hft e.symm), Bt.set_other (fun e => hft e.symm), Bt.set_self (by rw [hpl]; exact htl)]
    have HE1 := Lib.hid (And.intro e1 (s1 _ e1))
    have HE2 := Lib.hid (And.intro e2 (s2 _ e2))
    have gx1 := (HSC.out w1 (.slice A4 (y.ls.length + 1) c4)).trans gx0
    clear hT2 hT3 hA3 s1 s2 e1 e2 hr1 h2rx h2rx' hxs hFa b0 x0 xo y0 xe hya gy0 gx0 gxe
    go_wp2_with fail
    go_at_call 50
    refine (sum_ta HTA3.out HE1.out.1 HE1.out.2.1 HE1.out.2.2).mono ?_
    rintro e w4 ⟨rfl, ta4, ch4⟩
    have HTA4 := Lib.hid ta4
    have HC4 := Lib.hid (HC3.out.trans ch4)
    clear ta4 ch4
    go_wp2_with fail
    go_at_call 50
    refine (sum_ta HTA4.out HE2.out.1 HE2.out.2.1 HE2.out.2.2).mono ?_
    rintro e w5 ⟨rfl, ta5, ch5⟩
    have HTA5 := Lib.hid ta5
    have HC5 := Lib.hid (HC4.out.trans ch5)
    clear ta5 ch5
    go_wp2
    go_end0
    exact ⟨rfl, HTA5.out, HC5.out⟩
end Go.Proofs.YtdhemdeapphfoaaGreatDoor

/- The tree's move, walked: of a leaf, its first one behind its neighbour's. -/
namespace Go.Proofs.YtdhemdeapphfoaaGreatDoor
open Go.RowKit Go.Shelf Go.Proofs.YtdhemdeapphfoaaGreatDoorW.PrintWords Go.Proofs.YtdhemdeapphfoaaGreatDoorW.PrintLast

set_option maxRecDepth 100000 in
set_option maxHeartbeats 2000000 in
theorem move_lf {w : World} {F : Nat → Prop} {B : Nat} {A : List Bt.Nd} {fr : List Nat} {root : Nat} (h : Ta w F B A fr root) {f t : Nat} (hft : f ≠ t) {xn yn : Bt.Nd} (hxn : A[f]? = some xn) (hyn : A[t]? = some yn) {l : List ByteArray} {v : ByteArray} (hxf : xn.ls = (v :: l)) (hxo : xn.ks = [])
    (hs : ∀ A' : List Bt.Nd, A' = (A.set t ⟨(yn.ls ++ [v]), yn.ks, yn.ct⟩).set f ⟨l, [], xn.ct⟩ → (∀ n, A'[f]? = some n → (∀ j ∈ n.ks, j ≠ f ∧ ∃ y, A'[j]? = some y ∧ 0 ≤ y.ct) ∧ (n.ls.length : Int) + Bt.cts A' n.ks ≤ 4611686018427387904) ∧ (∀ n, (Bt.setSum A' f)[t]? = some n → (∀ j ∈ n.ks, j ≠ t ∧ ∃ y, (Bt.setSum A' f)[j]? = some y ∧ 0 ≤ y.ct) ∧ (n.ls.length : Int) + Bt.cts (Bt.setSum A' f) n.ks ≤ 4611686018427387904))
    (hF : ∀ b, w.heap.size ≤ b → F b) (hbx : xn.ls.length ≤ 100000000000) (hby : yn.ls.length ≤ 100000000000) :
    Calls Tryz.prog 189 #[.pointer (some ⟨B, 0, none⟩), .int .i64 f, .int .i64 t, .bool false] w fun e w' => e = .returned (.tuple #[]) ∧ Ta w' F B (Bt.setSum (Bt.setSum ((A.set t ⟨(yn.ls ++ [v]), yn.ks, yn.ct⟩).set f ⟨l, [], xn.ct⟩) f) t) fr root ∧ Chg F w w' := by
  obtain ⟨N, cap, fv, bytes, L, hT, rfl⟩ := h
  obtain ⟨x, hx, rfl⟩ := pus_some hxn
  obtain ⟨y, hy, rfl⟩ := pus_some hyn
  have hxf : x.ls = (v :: l) := hxf
  have hxo : x.ks = [] := hxo
  have hbx : x.ls.length ≤ 100000000000 := hbx
  have hby : y.ls.length ≤ 100000000000 := hby
  have b0 := hT.c0
  have x0 := hT.n0 hx
  have xo := hT.n1 hx
  have y0 := hT.n0 hy
  have xz := hT.zN (f * 3)
  have yz := hT.zN (t * 3)
  have hfl := (List.getElem?_eq_some_iff.1 hx).1
  have htl := (List.getElem?_eq_some_iff.1 hy).1
  have hfit := hT.fit
  have hle := hT.le
  unfold maxLen at hfit
  have hfl' : (f : Int) < L.length := by omega
  have htl' : (t : Int) < L.length := by omega
  have hne1 : ¬ f * 3 = t * 3 := by omega
  have hne2 : ¬ t * 3 = f * 3 := by omega
  have hxl : x.ls.length = l.length + 1 := by rw [hxf]; simp
  obtain ⟨A1, c1, hv1, hl1, hm1, hA1⟩ := (hT.lines _ x hx).slice
  obtain ⟨A2, c2, hv2, hl2, hm2, _⟩ := (hT.kids _ x hx).slice
  obtain ⟨A3, c3, hv3, hl3, hm3, _⟩ := (hT.lines _ y hy).slice
  rw [cS_len, hxl] at hv1 hl1 hA1
  rw [hxo] at hv2 hl2
  rw [cS_len] at hv3 hl3
  rw [show (cK []).length = 0 from rfl] at hv2 hl2
  obtain ⟨g, rfl⟩ := hA1 (by omega)
  rw [hv1] at x0
  rw [hv2] at xo
  rw [hv3] at y0
  unfold maxLen at hm1 hm2 hm3
  have hrx := hT.lines _ x hx
  have hry := hT.lines _ y hy
  rw [hv1, hxf] at hrx
  rw [hv3] at hry
  have xe := hrx.cell (j := 0) (cS_at (show (v :: l)[0]? = some v by simp))
  have hgl : g < w.heap.size := hT.own_lt_l hx g (by rw [hv1]; rfl)
  have hgN : ¬ g = N := fun e => by
    obtain ⟨rest, hr, _⟩ := hT.row
    exact hrx.ne hr (by decide) (by rw [e]; rfl)
  have hNg : ¬ N = g := fun e => hgN e.symm
  have hyg : (Value.slice A3 y.ls.length c3).ownBlock ≠ some g := fun e => hft (hT.apartL f t x y g hx hy (by rw [hv1]; rfl) (by rw [hv3]; exact e))
  have HNl := hT.ltN
  have hyl : ∀ b, (Value.slice A3 y.ls.length c3).ownBlock = some b → b < w.heap.size := fun b hb => hT.own_lt_l hy b (by rw [hv3]; exact hb)
  have HXf := Lib.hid hxf
  have HXo := Lib.hid hxo
  have HV1 := Lib.hid hv1
  have HV3 := Lib.hid hv3
  have HX := Lib.hid hx
  have HY := Lib.hid hy
  have HT := Lib.hid hT
  have HF := Lib.hid hF
  have HS := Lib.hid hs
  have HRX := Lib.hid hrx
  have HRY := Lib.hid hry
  have HBG := Lib.hid (show ((cS y.ls).length + 1) * 16 ≤ 140737488355328 ∧ (cS y.ls).length + 1 ≤ 140737488355328 by rw [cS_len]; omega)
  obtain ⟨i0, hi0, hz0, hz1, hz2⟩ := info_parts infoS
  have HINF := Lib.hid (And.intro hi0 (And.intro hz0 (And.intro hz1 hz2)))
  clear hi0 hz0 hz1 hz2
  have HYG := Lib.hid hyg
  have HSC : Hid (∀ (W : World) (u : Value), (W.setCell ⟨N, t * 3, none⟩ u).cell? ⟨N, f * 3, none⟩ = W.cell? ⟨N, f * 3, none⟩) := fun W u => by apply World.cell?_setCell_other; intro e; injection e with _ e2 _; omega
  clear hxf hxo hv1 hv2 hv3 hx hy hT hF hs hrx hry hA1 hyg hyl hxn hyn
  go_enter Tryz.func189, Tryz.ntmps189
  go_wp2
  go_quiet (fail)
  go_wp2_with (go_at_call 66; refine (leaf_at (n := 0) (c := c2) (A := A2) (by go_simp) (by omega)).mono ?_; rintro e w1 ⟨rfl, rfl⟩)
  have HTa := Lib.hid ((HT.out.drewN (nq + 1)).alloc (.cells #[.string v] 9))
  have HRa := Lib.hid ((HRY.out.drewN (nq + 1)).alloc (.cells #[.string v] 9))
  have HRxa := Lib.hid ((HRX.out.drewN (nq + 1)).alloc (.cells #[.string v] 9))
  have hya := HTa.out.n0 HY.out
  rw [HV3.out] at hya
  go_region_law (refine step_append_rw (v := .slice A3 y.ls.length c3) (cs := cS y.ls) _ rfl (.tmp 91) (.tmp 98) 23 23 rfl 9 i0 (.string ⟨#[]⟩) 16 Tryz.underlying23 HINF.out.1 HINF.out.2.1 HINF.out.2.2.1 HINF.out.2.2.2 rfl (by simp [Act.eval, Act.put]) HRa.out (.slice (some ⟨w.heap.size, 0, none⟩) 1 1) 1 [.string v] (by simp [Act.eval, Act.put]) (src_blk _ _ _ _ Tryz.underlying23 _ rfl (new_at _ _ rfl _)) HBG.out.1 HBG.out.2 ?_; intro v1 w1 hr1 hg1 ha1; have hrg := HTa.out.row_grown HRa.out (by decide) hg1; have gx0 := (hrg (f * 3)).1.trans (HTa.out.n0 HX.out); rw [HV1.out] at gx0; have gy0 := (hrg (t * 3)).1.trans (HTa.out.n0 HY.out); rw [HV3.out] at gy0; have gz1 := (hrg (f * 3)).2; have gz2 := (hrg (t * 3)).2; clear hrg; obtain ⟨A4, c4, hv4, _⟩ := hr1.slice; rw [show (cS y.ls ++ [Value.string v]).length = y.ls.length + 1 by simp [cS_len]] at hv4; have HR1 := Lib.hid hr1; have HG1 := Lib.hid hg1; have HA1 := Lib.hid ha1; clear hr1 hg1 ha1; subst hv4)
  all_goals
    have hrx1 := HRxa.out.step (w' := w1) (fun b hb => HG1.out.block b (HRxa.out.lt b hb) (fun e => by injection hb with hb; simp only at hb; rw [← hb] at e; exact HYG.out e.symm))
    have gxe := hrx1.cell (j := 0) (cS_at (show (v :: l)[0]? = some v by simp))
    have HRX1 := Lib.hid hrx1
    clear hrx1
    have hFa : ∀ b, ((w.drewN (nq + 1)).alloc (.cells #[.string v] 9)).heap.size ≤ b → F b := fun b hb => HF.out b (by simp at hb; omega)
    have hr1 := HR1.out
    rw [show cS y.ls ++ [Value.string v] = cS (y.ls ++ [v]) by simp [cS, cK, kI, cI]] at hr1
    have hT2 := HTa.out.setLs HY.out (w2 := w1) (v := .slice A4 (y.ls.length + 1) c4) (ls := (y.ls ++ [v])) (by rw [HV3.out]; exact HG1.out) hr1 (HTa.out.at_l hFa HY.out (by rw [HV3.out]; exact HA1.out))
    have HC2 := Lib.hid (((((Chg.refl F w).drewN (nq + 1)).alloc (.cells #[.string v] 9)).grown HG1.out (fun b hb => HT.out.footL _ y b HY.out (by rw [HV3.out]; exact hb))).setCell (p := ⟨N, t * 3, none⟩) HT.out.footN (.slice A4 (y.ls.length + 1) c4))
    have hxs : (L.set t ⟨.slice A4 (y.ls.length + 1) c4, y.vk, (y.ls ++ [v]), y.ks, y.ct⟩)[f]? = some x := by rw [List.getElem?_set, if_neg (fun e => hft e.symm)]; exact HX.out
    have h2rx := hT2.lines f x hxs
    rw [HV1.out, HXf.out] at h2rx
    have gx1 := (HSC.out w1 (.slice A4 (y.ls.length + 1) c4)).trans gx0
    have HT2 := Lib.hid hT2
    have HXS := Lib.hid hxs
    have H2R := Lib.hid h2rx
    clear hT2 hxs h2rx hr1 hFa b0 x0 xo y0 xe gy0 gx0 gxe
    go_wp2_with fail
    go_at_call 183
    refine (delS_rw _ _ (v :: l) 0 0 1 rfl rfl H2R.out (by simp [kI])).mono ?_
    rintro e w3 ⟨v2, rfl, hr3, hg3, hb3⟩
    rw [show (v :: l).eraseIdx 0 = l from rfl] at hr3
    have hrg := HT2.out.row_grown H2R.out (by decide) hg3 (f * 3)
    have gx2 := hrg.1.trans gx1
    have gz3 := hrg.2
    obtain ⟨A5, c5, hv5, _⟩ := hr3.slice
    rw [cS_len] at hv5
    subst hv5
    have hT3 := HT2.out.setLs HXS.out (w2 := w3) (v := .slice A5 l.length c5) (ls := l) (by rw [HV1.out]; exact hg3) hr3 (HT2.out.at_l (fun b hb => HF.out b (Nat.le_trans HC2.out.size hb)) HXS.out (.inl (by rw [HV1.out]; exact hb3)))
    have HC3 := Lib.hid ((HC2.out.grown hg3 (fun b hb => HT.out.footL _ x b HX.out (by rw [HV1.out]; exact hb))).setCell (p := ⟨N, f * 3, none⟩) HT.out.footN (.slice A5 l.length c5))
    have hA3 : pus ((L.set t ⟨.slice A4 (y.ls.length + 1) c4, y.vk, (y.ls ++ [v]), y.ks, y.ct⟩).set f (NV.mk (.slice A5 l.length c5) x.vk l x.ks x.ct)) = ((pus L).set t ⟨(y.ls ++ [v]), y.ks, y.ct⟩).set f ⟨l, [], x.ct⟩ := by rw [pus_set, pus_set]; simp only [NV.pu, HXo.out]
    have HTA3 := Lib.hid (hT3.ta hA3)
    obtain ⟨s1, s2⟩ := HS.out (((pus L).set t ⟨(y.ls ++ [v]), y.ks, y.ct⟩).set f ⟨l, [], x.ct⟩) rfl
    have hpl := pus_length L
    have e1 : (((pus L).set t ⟨(y.ls ++ [v]), y.ks, y.ct⟩).set f ⟨l, [], x.ct⟩)[f]? = some ⟨l, [], x.ct⟩ := Bt.set_self (by rw [List.length_set, hpl]; exact hfl)
    have e2 : (Bt.setSum (((pus L).set t ⟨(y.ls ++ [v]), y.ks, y.ct⟩).set f ⟨l, [], x.ct⟩) f)[t]? = some ⟨(y.ls ++ [v]), y.ks, y.ct⟩ := by rw [Bt.setSum_other (fun e => hft e.symm), Bt.set_other (fun e => hft e.symm), Bt.set_self (by rw [hpl]; exact htl)]
    have HE1 := Lib.hid (And.intro e1 (s1 _ e1))
    have HE2 := Lib.hid (And.intro e2 (s2 _ e2))
    clear hT3 hA3 s1 s2 e1 e2 hr3 hg3 hb3 hrg gx1
    go_wp2_with fail
    go_at_call 50
    refine (sum_ta HTA3.out HE1.out.1 HE1.out.2.1 HE1.out.2.2).mono ?_
    rintro e w4 ⟨rfl, ta4, ch4⟩
    have HTA4 := Lib.hid ta4
    have HC4 := Lib.hid (HC3.out.trans ch4)
    clear ta4 ch4
    go_wp2_with fail
    go_at_call 50
    refine (sum_ta HTA4.out HE2.out.1 HE2.out.2.1 HE2.out.2.2).mono ?_
    rintro e w5 ⟨rfl, ta5, ch5⟩
    have HTA5 := Lib.hid ta5
    have HC5 := Lib.hid (HC4.out.trans ch5)
    clear ta5 ch5
    go_wp2
    go_end0
    exact ⟨rfl, HTA5.out, HC5.out⟩
end Go.Proofs.YtdhemdeapphfoaaGreatDoor

/- The tree's move, walked: of a node, its last one ahead of its neighbour's. -/
namespace Go.Proofs.YtdhemdeapphfoaaGreatDoor
open Go.RowKit Go.Shelf Go.Proofs.YtdhemdeapphfoaaGreatDoorW.PrintWords Go.Proofs.YtdhemdeapphfoaaGreatDoorW.PrintLast

set_option maxRecDepth 100000 in
set_option maxHeartbeats 2000000 in
theorem move_nb {w : World} {F : Nat → Prop} {B : Nat} {A : List Bt.Nd} {fr : List Nat} {root : Nat} (h : Ta w F B A fr root) {f t : Nat} (hft : f ≠ t) {xn yn : Bt.Nd} (hxn : A[f]? = some xn) (hyn : A[t]? = some yn) {l : List Nat} {v : Nat} (hxf : xn.ks = (l ++ [v])) (hxo : xn.ls = [])
    (hs : ∀ A' : List Bt.Nd, A' = (A.set t ⟨yn.ls, (v :: yn.ks), yn.ct⟩).set f ⟨[], l, xn.ct⟩ → (∀ n, A'[f]? = some n → (∀ j ∈ n.ks, j ≠ f ∧ ∃ y, A'[j]? = some y ∧ 0 ≤ y.ct) ∧ (n.ls.length : Int) + Bt.cts A' n.ks ≤ 4611686018427387904) ∧ (∀ n, (Bt.setSum A' f)[t]? = some n → (∀ j ∈ n.ks, j ≠ t ∧ ∃ y, (Bt.setSum A' f)[j]? = some y ∧ 0 ≤ y.ct) ∧ (n.ls.length : Int) + Bt.cts (Bt.setSum A' f) n.ks ≤ 4611686018427387904))
    (hF : ∀ b, w.heap.size ≤ b → F b) (hbx : xn.ks.length ≤ 100000000000) (hby : yn.ks.length ≤ 100000000000) :
    Calls Tryz.prog 189 #[.pointer (some ⟨B, 0, none⟩), .int .i64 f, .int .i64 t, .bool true] w fun e w' => e = .returned (.tuple #[]) ∧ Ta w' F B (Bt.setSum (Bt.setSum ((A.set t ⟨yn.ls, (v :: yn.ks), yn.ct⟩).set f ⟨[], l, xn.ct⟩) f) t) fr root ∧ Chg F w w' := by
  obtain ⟨N, cap, fv, bytes, L, hT, rfl⟩ := h
  obtain ⟨x, hx, rfl⟩ := pus_some hxn
  obtain ⟨y, hy, rfl⟩ := pus_some hyn
  have hxf : x.ks = (l ++ [v]) := hxf
  have hxo : x.ls = [] := hxo
  have hbx : x.ks.length ≤ 100000000000 := hbx
  have hby : y.ks.length ≤ 100000000000 := hby
  have b0 := hT.c0
  have x0 := hT.n1 hx
  have xo := hT.n0 hx
  have y0 := hT.n1 hy
  have xz := hT.zN (f * 3 + 1)
  have yz := hT.zN (t * 3 + 1)
  have hfl := (List.getElem?_eq_some_iff.1 hx).1
  have htl := (List.getElem?_eq_some_iff.1 hy).1
  have hfit := hT.fit
  have hle := hT.le
  unfold maxLen at hfit
  have hfl' : (f : Int) < L.length := by omega
  have htl' : (t : Int) < L.length := by omega
  have hne1 : ¬ f * 3 = t * 3 := by omega
  have hne2 : ¬ t * 3 = f * 3 := by omega
  have hxl : x.ks.length = l.length + 1 := by rw [hxf]; simp
  obtain ⟨A1, c1, hv1, hl1, hm1, hA1⟩ := (hT.kids _ x hx).slice
  obtain ⟨A2, c2, hv2, hl2, hm2, _⟩ := (hT.lines _ x hx).slice
  obtain ⟨A3, c3, hv3, hl3, hm3, _⟩ := (hT.kids _ y hy).slice
  rw [cK_len, hxl] at hv1 hl1 hA1
  rw [hxo] at hv2 hl2
  rw [cK_len] at hv3 hl3
  rw [show (cS []).length = 0 from rfl] at hv2 hl2
  obtain ⟨g, rfl⟩ := hA1 (by omega)
  rw [hv1] at x0
  rw [hv2] at xo
  rw [hv3] at y0
  unfold maxLen at hm1 hm2 hm3
  have hrx := hT.kids _ x hx
  have hry := hT.kids _ y hy
  rw [hv1, hxf] at hrx
  rw [hv3] at hry
  have xe := hrx.cell (j := l.length) (cK_at (show (l ++ [v])[l.length]? = some v by simp))
  have hgl : g < w.heap.size := hT.own_lt_k hx g (by rw [hv1]; rfl)
  have hgN : ¬ g = N := fun e => by
    obtain ⟨rest, hr, _⟩ := hT.row
    exact hrx.ne hr (by decide) (by rw [e]; rfl)
  have hNg : ¬ N = g := fun e => hgN e.symm
  have hyg : (Value.slice A3 y.ks.length c3).ownBlock ≠ some g := fun e => hft (hT.apartK f t x y g hx hy (by rw [hv1]; rfl) (by rw [hv3]; exact e))
  have HNl := hT.ltN
  have hyl : ∀ b, (Value.slice A3 y.ks.length c3).ownBlock = some b → b < w.heap.size := fun b hb => hT.own_lt_k hy b (by rw [hv3]; exact hb)
  have HXf := Lib.hid hxf
  have HXo := Lib.hid hxo
  have HV1 := Lib.hid hv1
  have HV3 := Lib.hid hv3
  have HX := Lib.hid hx
  have HY := Lib.hid hy
  have HT := Lib.hid hT
  have HF := Lib.hid hF
  have HS := Lib.hid hs
  have HRX := Lib.hid hrx
  have HRY := Lib.hid hry
  have HNE : Hid ((Value.slice A3 y.ks.length c3).ownBlock ≠ some w.heap.size) := fun e => by
    have := hyl w.heap.size e
    omega
  have HBG := Lib.hid (show ((cK y.ks).length + 1) * 8 ≤ 140737488355328 by rw [cK_len]; omega)
  have HYG := Lib.hid hyg
  have HSC : Hid (∀ (W : World) (u : Value), (W.setCell ⟨N, t * 3 + 1, none⟩ u).cell? ⟨N, f * 3 + 1, none⟩ = W.cell? ⟨N, f * 3 + 1, none⟩) := fun W u => by apply World.cell?_setCell_other; intro e; injection e with _ e2 _; omega
  clear hxf hxo hv1 hv2 hv3 hx hy hT hF hs hrx hry hA1 hyg hyl hxn hyn
  go_enter Tryz.func189, Tryz.ntmps189
  go_wp2
  go_quiet (fail)
  go_wp2_with (go_at_call 66; refine (leaf_no (n := l.length + 1) (c := c1) (A := some ⟨g, 0, none⟩) (by go_simp) (by omega) (by omega)).mono ?_; rintro e w1 ⟨rfl, rfl⟩)
  have HTa := Lib.hid ((HT.out.drewN (nq + 1)).alloc (.cells #[.int .i64 v] 3))
  have HRa := Lib.hid ((HRY.out.drewN (nq + 1)).alloc (.cells #[.int .i64 v] 3))
  have HRxa := Lib.hid ((HRX.out.drewN (nq + 1)).alloc (.cells #[.int .i64 v] 3))
  have hya := HTa.out.n1 HY.out
  rw [HV3.out] at hya
  have hll1 : (l.length : Int) < (l.length : Int) + 1 := by omega
  refine start_ (n := 17) (S := fun w' => w'.cell? ⟨N, f * 3 + 1, none⟩ = some (.slice (some ⟨g, 0, none⟩) (l.length + 1) c1) ∧ w'.cell? ⟨g, l.length, none⟩ = some (.int .i64 v) ∧ w'.cell? ⟨N, t * 3 + 1, none⟩ = some (.slice A3 y.ks.length c3)) (ds := [16]) #[false, false, false, false, false, false, false, false, false, false, false, false, false, false, false, false, false] (by kernel_rfl) rfl rfl ⟨(by first | exact x0 | exact gx0 | exact xo | go_keep), (by first | exact xe | exact gxe | go_keep), (by first | exact y0 | exact gy0 | go_keep)⟩ (fun hHeld => ?_)
  refine pure_ (i := 0) (N := some 118) (v := ?_) (a' := ?_) #[true, false, false, false, false, false, false, false, false, false, false, false, false, false, false, false, false] rfl rfl (by kernel_rfl) (fun _ _ _ h => h) (Or.inl ⟨by rfl, ?_⟩) ?_ ?_
  rotate_left
  · intro w'
    go_simp
    with_reducible rfl
  rotate_left
  · simp only [Act.put, List.setIfInBounds_toArray, List.set_cons_zero, List.set_cons_succ]
    rfl
  refine pure_ (i := 1) (N := some 119) (v := ?_) (a' := ?_) #[true, true, false, false, false, false, false, false, false, false, false, false, false, false, false, false, false] rfl rfl (by kernel_rfl) (fun _ _ _ h => h) (Or.inl ⟨by rfl, ?_⟩) ?_ ?_
  rotate_left
  · intro w'
    go_simp
    with_reducible rfl
  rotate_left
  · simp only [Act.put, List.setIfInBounds_toArray, List.set_cons_zero, List.set_cons_succ]
    rfl
  refine pure_ (i := 2) (N := some 120) (v := ?_) (a' := ?_) #[true, true, true, false, false, false, false, false, false, false, false, false, false, false, false, false, false] rfl rfl (by kernel_rfl) (fun _ _ _ h => h) (Or.inl ⟨by rfl, ?_⟩) ?_ ?_
  rotate_left
  · intro w'
    go_simp
    with_reducible rfl
  rotate_left
  · simp only [Act.put, List.setIfInBounds_toArray, List.set_cons_zero, List.set_cons_succ]
    rfl
  refine pure_ (i := 3) (N := some 121) (v := ?_) (a' := ?_) #[true, true, true, true, false, false, false, false, false, false, false, false, false, false, false, false, false] rfl rfl (by kernel_rfl) (fun _ _ _ h => h) (Or.inl ⟨by rfl, ?_⟩) ?_ ?_
  rotate_left
  · intro w'
    go_simp
    with_reducible rfl
  rotate_left
  · simp only [Act.put, List.setIfInBounds_toArray, List.set_cons_zero, List.set_cons_succ]
    rfl
  refine pure_ (i := 5) (N := some 123) (v := ?_) (a' := ?_) #[true, true, true, true, false, true, false, false, false, false, false, false, false, false, false, false, false] rfl rfl (by kernel_rfl) (fun _ _ _ h => h) (Or.inl ⟨by rfl, ?_⟩) ?_ ?_
  rotate_left
  · intro w'
    go_simp
    with_reducible rfl
  rotate_left
  · simp only [Act.put, List.setIfInBounds_toArray, List.set_cons_zero, List.set_cons_succ]
    rfl
  refine pure_ (i := 6) (N := some 124) (v := ?_) (a' := ?_) #[true, true, true, true, false, true, true, false, false, false, false, false, false, false, false, false, false] rfl rfl (by kernel_rfl) (fun _ _ _ h => h) (Or.inl ⟨by rfl, ?_⟩) ?_ ?_
  rotate_left
  · intro w'
    go_simp
    with_reducible rfl
  rotate_left
  · simp only [Act.put, List.setIfInBounds_toArray, List.set_cons_zero, List.set_cons_succ]
    rfl
  refine pure_ (i := 7) (N := some 125) (v := ?_) (a' := ?_) #[true, true, true, true, false, true, true, true, false, false, false, false, false, false, false, false, false] rfl rfl (by kernel_rfl) (fun _ _ _ h => h) (Or.inl ⟨by rfl, ?_⟩) ?_ ?_
  rotate_left
  · intro w'
    go_simp
    with_reducible rfl
  rotate_left
  · simp only [Act.put, List.setIfInBounds_toArray, List.set_cons_zero, List.set_cons_succ]
    rfl
  refine pure_ (i := 9) (N := some 127) (v := ?_) (a' := ?_) #[true, true, true, true, false, true, true, true, false, true, false, false, false, false, false, false, false] rfl rfl (by kernel_rfl) (fun _ _ _ h => h) (Or.inl ⟨by rfl, ?_⟩) ?_ ?_
  rotate_left
  · intro w'
    go_simp
    with_reducible rfl
  rotate_left
  · simp only [Act.put, List.setIfInBounds_toArray, List.set_cons_zero, List.set_cons_succ]
    rfl
  refine take_ (i := 4) (N := some 122) (v := ?_) (a' := ?_) #[true, true, true, true, true, true, true, true, false, true, false, false, false, false, false, false, false] rfl rfl (by kernel_rfl) (fun _ _ _ h => h) (Or.inl ⟨by rfl, ?_⟩) hHeld ?_ ?_
  rotate_left
  · rintro w' ⟨s0, s1, s2⟩
    go_simp
    with_reducible rfl
  rotate_left
  · simp only [Act.put, List.setIfInBounds_toArray, List.set_cons_zero, List.set_cons_succ]
    rfl
  refine take_ (i := 8) (N := some 126) (v := ?_) (a' := ?_) #[true, true, true, true, true, true, true, true, true, true, false, false, false, false, false, false, false] rfl rfl (by kernel_rfl) (fun _ _ _ h => h) (Or.inl ⟨by rfl, ?_⟩) hHeld ?_ ?_
  rotate_left
  · rintro w' ⟨s0, s1, s2⟩
    go_simp
    with_reducible rfl
  rotate_left
  · simp only [Act.put, List.setIfInBounds_toArray, List.set_cons_zero, List.set_cons_succ]
    rfl
  refine pure_ (i := 10) (N := some 128) (v := ?_) (a' := ?_) #[true, true, true, true, true, true, true, true, true, true, true, false, false, false, false, false, false] rfl rfl (by kernel_rfl) (fun _ _ _ h => h) (Or.inl ⟨by rfl, ?_⟩) ?_ ?_
  rotate_left
  · intro w'
    go_simp
    with_reducible rfl
  rotate_left
  · simp only [Act.put, List.setIfInBounds_toArray, List.set_cons_zero, List.set_cons_succ]
    rfl
  refine take_ (i := 11) (N := some 129) (v := ?_) (a' := ?_) #[true, true, true, true, true, true, true, true, true, true, true, true, false, false, false, false, false] rfl rfl (by kernel_rfl) (fun _ _ _ h => h) (Or.inl ⟨by rfl, ?_⟩) hHeld ?_ ?_
  rotate_left
  · rintro w' ⟨s0, s1, s2⟩
    go_simp
    with_reducible rfl
  rotate_left
  · simp only [Act.put, List.setIfInBounds_toArray, List.set_cons_zero, List.set_cons_succ]
    rfl
  refine one_ (i := 12) (N := some 130) #[true, true, true, true, true, true, true, true, true, true, true, true, true, false, false, false, false] rfl rfl (by kernel_rfl) (by decide) (fun K hK => ?_)
  refine value_ (w1 := ?_) (v := ?_) (by rfl) rfl ?_ ?_
  rotate_left 2
  · go_simp
    constructor
    · rfl
    · rfl
  refine hK.out _ _ ⟨(by first | exact x0 | exact gx0 | exact xo | go_keep), (by first | exact xe | exact gxe | go_keep), (by first | exact y0 | exact gy0 | go_keep)⟩ (fun hHeld => ?_)
  clear hK K
  refine norm_ (a' := ?_) ?_ ?_
  rotate_left
  · show Act.put _ (some 130) _ = _
    simp only [Act.put, List.setIfInBounds_toArray, List.set_cons_zero, List.set_cons_succ]
    rfl
  refine one_ (i := 13) (N := some 131) #[true, true, true, true, true, true, true, true, true, true, true, true, true, true, false, false, false] rfl rfl (by kernel_rfl) (by decide) (fun K hK => ?_)
  go_simp
  go_at_call 69; refine (insI_rw _ (.slice A3 y.ks.length c3) (cK y.ks) (.int .i64 v) w.heap.size 0 HRa.out (Nat.zero_le _) rfl (new_at _ _ rfl _) HNE.out HBG.out).mono ?_; rintro e w1 ⟨v1, rfl, hr1, hg1, ha1⟩; have hrg := HTa.out.row_grown HRa.out (by decide) hg1; have gx0 := (hrg (f * 3 + 1)).1.trans (HTa.out.n1 HX.out); rw [HV1.out] at gx0; have gy0 := (hrg (t * 3 + 1)).1.trans (HTa.out.n1 HY.out); rw [HV3.out] at gy0; have gz1 := (hrg (f * 3 + 1)).2; have gz2 := (hrg (t * 3 + 1)).2; clear hrg; have hrx1 := HRxa.out.step (w' := w1) (fun b hb => hg1.block b (HRxa.out.lt b hb) (fun e => by injection hb with hb; simp only at hb; rw [← hb] at e; exact HYG.out e.symm)); have gxe := hrx1.cell (j := l.length) (cK_at (show (l ++ [v])[l.length]? = some v by simp)); obtain ⟨A4, c4, hv4, _⟩ := hr1.slice; rw [show (List.take 0 (cK y.ks) ++ (.int .i64 v) :: List.drop 0 (cK y.ks)).length = y.ks.length + 1 by simp [cK_len]] at hv4; have HR1 := Lib.hid hr1; have HG1 := Lib.hid hg1; have HA1 := Lib.hid ha1; have HRX1 := Lib.hid hrx1; clear hr1 hg1 ha1 hrx1; subst hv4
  try go_wp2_with fail
  refine hK.out _ _ ⟨(by first | exact x0 | exact gx0 | exact xo | go_keep), (by first | exact xe | exact gxe | go_keep), (by first | exact y0 | exact gy0 | go_keep)⟩ (fun hHeld => ?_)
  clear hK K
  refine pure_ (i := 14) (N := some 132) (v := ?_) (a' := ?_) #[true, true, true, true, true, true, true, true, true, true, true, true, true, true, true, false, false] rfl rfl (by kernel_rfl) (fun _ _ _ h => h) (Or.inl ⟨by rfl, ?_⟩) ?_ ?_
  rotate_left
  · intro w'
    go_simp
    with_reducible rfl
  rotate_left
  · simp only [Act.put, List.setIfInBounds_toArray, List.set_cons_zero, List.set_cons_succ]
    rfl
  refine pure_ (i := 15) (N := some 133) (v := ?_) (a' := ?_) #[true, true, true, true, true, true, true, true, true, true, true, true, true, true, true, true, false] rfl rfl (by kernel_rfl) (fun _ _ _ h => h) (Or.inl ⟨by rfl, ?_⟩) ?_ ?_
  rotate_left
  · intro w'
    go_simp
    with_reducible rfl
  rotate_left
  · simp only [Act.put, List.setIfInBounds_toArray, List.set_cons_zero, List.set_cons_succ]
    rfl
  refine last_ (i := 16) (N := none) #[true, true, true, true, true, true, true, true, true, true, true, true, true, true, true, true, true] rfl rfl (by kernel_rfl) (by decide) (fun K hK => ?_)
  refine skip_ (w1 := ?_) (by rfl) rfl ?_ ?_
  rotate_left
  · go_simp
    rfl
  refine hK.out _ _ ?_
  clear hK K
  refine done_ (by kernel_rfl) ?_
  clear hHeld hll1
  all_goals
    have hFa : ∀ b, ((w.drewN (nq + 1)).alloc (.cells #[.int .i64 v] 3)).heap.size ≤ b → F b := fun b hb => HF.out b (by simp at hb; omega)
    have hr1 := HR1.out
    rw [List.take_zero, List.drop_zero, List.nil_append, show (.int .i64 v) :: cK y.ks = cK (v :: y.ks) from rfl] at hr1
    have hT2 := HTa.out.setKs HY.out (w2 := w1) (v := .slice A4 (y.ks.length + 1) c4) (ks := (v :: y.ks)) (by rw [HV3.out]; exact HG1.out) hr1 (HTa.out.at_k hFa HY.out (by rw [HV3.out]; exact HA1.out))
    have HC2 := Lib.hid (((((Chg.refl F w).drewN (nq + 1)).alloc (.cells #[.int .i64 v] 3)).grown HG1.out (fun b hb => HT.out.footK _ y b HY.out (by rw [HV3.out]; exact hb))).setCell (p := ⟨N, t * 3 + 1, none⟩) HT.out.footN (.slice A4 (y.ks.length + 1) c4))
    have hxs : (L.set t ⟨y.vl, .slice A4 (y.ks.length + 1) c4, y.ls, (v :: y.ks), y.ct⟩)[f]? = some x := by rw [List.getElem?_set, if_neg (fun e => hft e.symm)]; exact HX.out
    have h2rx := hT2.kids f x hxs
    rw [HV1.out, HXf.out] at h2rx
    have h2rx' := h2rx.take (m := l.length) (c' := c1) (by omega) (by omega) (Nat.le_refl _)
    rw [show (cK (l ++ [v])).take l.length = cK l by simp [cK, kI, cI]] at h2rx'
    have hT3 := hT2.setKs hxs (grown_id _ _) (v := .slice (some ⟨g, 0, none⟩) l.length c1) (ks := l) h2rx' (hT2.at_k (fun b hb => HF.out b (Nat.le_trans HC2.out.size hb)) hxs (.inl (by rw [HV1.out]; rfl)))
    have HC3 := Lib.hid (HC2.out.setCell (p := ⟨N, f * 3 + 1, none⟩) HT.out.footN (.slice (some ⟨g, 0, none⟩) l.length c1))
    have hA3 : pus ((L.set t ⟨y.vl, .slice A4 (y.ks.length + 1) c4, y.ls, (v :: y.ks), y.ct⟩).set f (NV.mk x.vl (.slice (some ⟨g, 0, none⟩) l.length c1) x.ls l x.ct)) = ((pus L).set t ⟨y.ls, (v :: y.ks), y.ct⟩).set f ⟨[], l, x.ct⟩ := by rw [pus_set, pus_set]; simp only [NV.pu, HXo.out]
    have HTA3 := Lib.hid (hT3.ta hA3)
    obtain ⟨s1, s2⟩ := HS.out (((pus L).set t ⟨y.ls, (v :: y.ks), y.ct⟩).set f ⟨[], l, x.ct⟩) rfl
    have hpl := pus_length L
    have e1 : (((pus L).set t ⟨y.ls, (v :: y.ks), y.ct⟩).set f ⟨[], l, x.ct⟩)[f]? = some ⟨[], l, x.ct⟩ := Bt.set_self (by rw [List.length_set, hpl]; exact hfl)
    have e2 : (Bt.setSum (((pus L).set t ⟨y.ls, (v :: y.ks), y.ct⟩).set f ⟨[], l, x.ct⟩) f)[t]? = some ⟨y.ls, (v :: y.ks), y.ct⟩ := by rw [Bt.setSum_other (fun e => hft e.symm), Bt.set_other (fun e => hft e.symm), Bt.set_self (by rw [hpl]; exact htl)]
    have HE1 := Lib.hid (And.intro e1 (s1 _ e1))
    have HE2 := Lib.hid (And.intro e2 (s2 _ e2))
    have gx1 := (HSC.out w1 (.slice A4 (y.ks.length + 1) c4)).trans gx0
    clear hT2 hT3 hA3 s1 s2 e1 e2 hr1 h2rx h2rx' hxs hFa b0 x0 xo y0 xe hya gy0 gx0 gxe
    go_wp2_with fail
    go_at_call 50
    refine (sum_ta HTA3.out HE1.out.1 HE1.out.2.1 HE1.out.2.2).mono ?_
    rintro e w4 ⟨rfl, ta4, ch4⟩
    have HTA4 := Lib.hid ta4
    have HC4 := Lib.hid (HC3.out.trans ch4)
    clear ta4 ch4
    go_wp2_with fail
    go_at_call 50
    refine (sum_ta HTA4.out HE2.out.1 HE2.out.2.1 HE2.out.2.2).mono ?_
    rintro e w5 ⟨rfl, ta5, ch5⟩
    have HTA5 := Lib.hid ta5
    have HC5 := Lib.hid (HC4.out.trans ch5)
    clear ta5 ch5
    go_wp2
    go_end0
    exact ⟨rfl, HTA5.out, HC5.out⟩
end Go.Proofs.YtdhemdeapphfoaaGreatDoor

/- The tree's move, walked: of a node, its first one behind its neighbour's. -/
namespace Go.Proofs.YtdhemdeapphfoaaGreatDoor
open Go.RowKit Go.Shelf Go.Proofs.YtdhemdeapphfoaaGreatDoorW.PrintWords Go.Proofs.YtdhemdeapphfoaaGreatDoorW.PrintLast

set_option maxRecDepth 100000 in
set_option maxHeartbeats 2000000 in
theorem move_nf {w : World} {F : Nat → Prop} {B : Nat} {A : List Bt.Nd} {fr : List Nat} {root : Nat} (h : Ta w F B A fr root) {f t : Nat} (hft : f ≠ t) {xn yn : Bt.Nd} (hxn : A[f]? = some xn) (hyn : A[t]? = some yn) {l : List Nat} {v : Nat} (hxf : xn.ks = (v :: l)) (hxo : xn.ls = [])
    (hs : ∀ A' : List Bt.Nd, A' = (A.set t ⟨yn.ls, (yn.ks ++ [v]), yn.ct⟩).set f ⟨[], l, xn.ct⟩ → (∀ n, A'[f]? = some n → (∀ j ∈ n.ks, j ≠ f ∧ ∃ y, A'[j]? = some y ∧ 0 ≤ y.ct) ∧ (n.ls.length : Int) + Bt.cts A' n.ks ≤ 4611686018427387904) ∧ (∀ n, (Bt.setSum A' f)[t]? = some n → (∀ j ∈ n.ks, j ≠ t ∧ ∃ y, (Bt.setSum A' f)[j]? = some y ∧ 0 ≤ y.ct) ∧ (n.ls.length : Int) + Bt.cts (Bt.setSum A' f) n.ks ≤ 4611686018427387904))
    (hF : ∀ b, w.heap.size ≤ b → F b) (hbx : xn.ks.length ≤ 100000000000) (hby : yn.ks.length ≤ 100000000000) :
    Calls Tryz.prog 189 #[.pointer (some ⟨B, 0, none⟩), .int .i64 f, .int .i64 t, .bool false] w fun e w' => e = .returned (.tuple #[]) ∧ Ta w' F B (Bt.setSum (Bt.setSum ((A.set t ⟨yn.ls, (yn.ks ++ [v]), yn.ct⟩).set f ⟨[], l, xn.ct⟩) f) t) fr root ∧ Chg F w w' := by
  obtain ⟨N, cap, fv, bytes, L, hT, rfl⟩ := h
  obtain ⟨x, hx, rfl⟩ := pus_some hxn
  obtain ⟨y, hy, rfl⟩ := pus_some hyn
  have hxf : x.ks = (v :: l) := hxf
  have hxo : x.ls = [] := hxo
  have hbx : x.ks.length ≤ 100000000000 := hbx
  have hby : y.ks.length ≤ 100000000000 := hby
  have b0 := hT.c0
  have x0 := hT.n1 hx
  have xo := hT.n0 hx
  have y0 := hT.n1 hy
  have xz := hT.zN (f * 3 + 1)
  have yz := hT.zN (t * 3 + 1)
  have hfl := (List.getElem?_eq_some_iff.1 hx).1
  have htl := (List.getElem?_eq_some_iff.1 hy).1
  have hfit := hT.fit
  have hle := hT.le
  unfold maxLen at hfit
  have hfl' : (f : Int) < L.length := by omega
  have htl' : (t : Int) < L.length := by omega
  have hne1 : ¬ f * 3 = t * 3 := by omega
  have hne2 : ¬ t * 3 = f * 3 := by omega
  have hxl : x.ks.length = l.length + 1 := by rw [hxf]; simp
  obtain ⟨A1, c1, hv1, hl1, hm1, hA1⟩ := (hT.kids _ x hx).slice
  obtain ⟨A2, c2, hv2, hl2, hm2, _⟩ := (hT.lines _ x hx).slice
  obtain ⟨A3, c3, hv3, hl3, hm3, _⟩ := (hT.kids _ y hy).slice
  rw [cK_len, hxl] at hv1 hl1 hA1
  rw [hxo] at hv2 hl2
  rw [cK_len] at hv3 hl3
  rw [show (cS []).length = 0 from rfl] at hv2 hl2
  obtain ⟨g, rfl⟩ := hA1 (by omega)
  rw [hv1] at x0
  rw [hv2] at xo
  rw [hv3] at y0
  unfold maxLen at hm1 hm2 hm3
  have hrx := hT.kids _ x hx
  have hry := hT.kids _ y hy
  rw [hv1, hxf] at hrx
  rw [hv3] at hry
  have xe := hrx.cell (j := 0) (cK_at (show (v :: l)[0]? = some v by simp))
  have hgl : g < w.heap.size := hT.own_lt_k hx g (by rw [hv1]; rfl)
  have hgN : ¬ g = N := fun e => by
    obtain ⟨rest, hr, _⟩ := hT.row
    exact hrx.ne hr (by decide) (by rw [e]; rfl)
  have hNg : ¬ N = g := fun e => hgN e.symm
  have hyg : (Value.slice A3 y.ks.length c3).ownBlock ≠ some g := fun e => hft (hT.apartK f t x y g hx hy (by rw [hv1]; rfl) (by rw [hv3]; exact e))
  have HNl := hT.ltN
  have hyl : ∀ b, (Value.slice A3 y.ks.length c3).ownBlock = some b → b < w.heap.size := fun b hb => hT.own_lt_k hy b (by rw [hv3]; exact hb)
  have HXf := Lib.hid hxf
  have HXo := Lib.hid hxo
  have HV1 := Lib.hid hv1
  have HV3 := Lib.hid hv3
  have HX := Lib.hid hx
  have HY := Lib.hid hy
  have HT := Lib.hid hT
  have HF := Lib.hid hF
  have HS := Lib.hid hs
  have HRX := Lib.hid hrx
  have HRY := Lib.hid hry
  have HBG := Lib.hid (show ((cK y.ks).length + 1) * 8 ≤ 140737488355328 ∧ (cK y.ks).length + 1 ≤ 140737488355328 by rw [cK_len]; omega)
  obtain ⟨i0, hi0, hz0, hz1, hz2⟩ := info_parts infoI
  have HINF := Lib.hid (And.intro hi0 (And.intro hz0 (And.intro hz1 hz2)))
  clear hi0 hz0 hz1 hz2
  have HYG := Lib.hid hyg
  have HSC : Hid (∀ (W : World) (u : Value), (W.setCell ⟨N, t * 3 + 1, none⟩ u).cell? ⟨N, f * 3 + 1, none⟩ = W.cell? ⟨N, f * 3 + 1, none⟩) := fun W u => by apply World.cell?_setCell_other; intro e; injection e with _ e2 _; omega
  clear hxf hxo hv1 hv2 hv3 hx hy hT hF hs hrx hry hA1 hyg hyl hxn hyn
  go_enter Tryz.func189, Tryz.ntmps189
  go_wp2
  go_quiet (fail)
  go_wp2_with (go_at_call 66; refine (leaf_no (n := l.length + 1) (c := c1) (A := some ⟨g, 0, none⟩) (by go_simp) (by omega) (by omega)).mono ?_; rintro e w1 ⟨rfl, rfl⟩)
  have HTa := Lib.hid ((HT.out.drewN (nq + 1)).alloc (.cells #[.int .i64 v] 3))
  have HRa := Lib.hid ((HRY.out.drewN (nq + 1)).alloc (.cells #[.int .i64 v] 3))
  have HRxa := Lib.hid ((HRX.out.drewN (nq + 1)).alloc (.cells #[.int .i64 v] 3))
  have hya := HTa.out.n1 HY.out
  rw [HV3.out] at hya
  go_region_law (refine step_append_rw (v := .slice A3 y.ks.length c3) (cs := cK y.ks) _ rfl (.tmp 28) (.tmp 35) 72 72 rfl 3 i0 (.int .i64 0) 8 Tryz.underlying72 HINF.out.1 HINF.out.2.1 HINF.out.2.2.1 HINF.out.2.2.2 rfl (by simp [Act.eval, Act.put]) HRa.out (.slice (some ⟨w.heap.size, 0, none⟩) 1 1) 1 [.int .i64 v] (by simp [Act.eval, Act.put]) (src_blk _ _ _ _ Tryz.underlying72 _ rfl (new_at _ _ rfl _)) HBG.out.1 HBG.out.2 ?_; intro v1 w1 hr1 hg1 ha1; have hrg := HTa.out.row_grown HRa.out (by decide) hg1; have gx0 := (hrg (f * 3 + 1)).1.trans (HTa.out.n1 HX.out); rw [HV1.out] at gx0; have gy0 := (hrg (t * 3 + 1)).1.trans (HTa.out.n1 HY.out); rw [HV3.out] at gy0; have gz1 := (hrg (f * 3 + 1)).2; have gz2 := (hrg (t * 3 + 1)).2; clear hrg; obtain ⟨A4, c4, hv4, _⟩ := hr1.slice; rw [show (cK y.ks ++ [Value.int .i64 v]).length = y.ks.length + 1 by simp [cK_len]] at hv4; have HR1 := Lib.hid hr1; have HG1 := Lib.hid hg1; have HA1 := Lib.hid ha1; clear hr1 hg1 ha1; subst hv4)
  all_goals
    have hrx1 := HRxa.out.step (w' := w1) (fun b hb => HG1.out.block b (HRxa.out.lt b hb) (fun e => by injection hb with hb; simp only at hb; rw [← hb] at e; exact HYG.out e.symm))
    have gxe := hrx1.cell (j := 0) (cK_at (show (v :: l)[0]? = some v by simp))
    have HRX1 := Lib.hid hrx1
    clear hrx1
    have hFa : ∀ b, ((w.drewN (nq + 1)).alloc (.cells #[.int .i64 v] 3)).heap.size ≤ b → F b := fun b hb => HF.out b (by simp at hb; omega)
    have hr1 := HR1.out
    rw [show cK y.ks ++ [Value.int .i64 v] = cK (y.ks ++ [v]) by simp [cS, cK, kI, cI]] at hr1
    have hT2 := HTa.out.setKs HY.out (w2 := w1) (v := .slice A4 (y.ks.length + 1) c4) (ks := (y.ks ++ [v])) (by rw [HV3.out]; exact HG1.out) hr1 (HTa.out.at_k hFa HY.out (by rw [HV3.out]; exact HA1.out))
    have HC2 := Lib.hid (((((Chg.refl F w).drewN (nq + 1)).alloc (.cells #[.int .i64 v] 3)).grown HG1.out (fun b hb => HT.out.footK _ y b HY.out (by rw [HV3.out]; exact hb))).setCell (p := ⟨N, t * 3 + 1, none⟩) HT.out.footN (.slice A4 (y.ks.length + 1) c4))
    have hxs : (L.set t ⟨y.vl, .slice A4 (y.ks.length + 1) c4, y.ls, (y.ks ++ [v]), y.ct⟩)[f]? = some x := by rw [List.getElem?_set, if_neg (fun e => hft e.symm)]; exact HX.out
    have h2rx := hT2.kids f x hxs
    rw [HV1.out, HXf.out] at h2rx
    have gx1 := (HSC.out w1 (.slice A4 (y.ks.length + 1) c4)).trans gx0
    have HT2 := Lib.hid hT2
    have HXS := Lib.hid hxs
    have H2R := Lib.hid h2rx
    clear hT2 hxs h2rx hr1 hFa b0 x0 xo y0 xe gy0 gx0 gxe
    go_wp2_with fail
    go_at_call 192
    refine (delI_rw _ _ (kI (v :: l)) 0 0 1 rfl rfl H2R.out (by simp [kI])).mono ?_
    rintro e w3 ⟨v2, rfl, hr3, hg3, hb3⟩
    rw [show cI ((kI (v :: l)).eraseIdx 0) = cK l from rfl] at hr3
    have hrg := HT2.out.row_grown H2R.out (by decide) hg3 (f * 3 + 1)
    have gx2 := hrg.1.trans gx1
    have gz3 := hrg.2
    obtain ⟨A5, c5, hv5, _⟩ := hr3.slice
    rw [cK_len] at hv5
    subst hv5
    have hT3 := HT2.out.setKs HXS.out (w2 := w3) (v := .slice A5 l.length c5) (ks := l) (by rw [HV1.out]; exact hg3) hr3 (HT2.out.at_k (fun b hb => HF.out b (Nat.le_trans HC2.out.size hb)) HXS.out (.inl (by rw [HV1.out]; exact hb3)))
    have HC3 := Lib.hid ((HC2.out.grown hg3 (fun b hb => HT.out.footK _ x b HX.out (by rw [HV1.out]; exact hb))).setCell (p := ⟨N, f * 3 + 1, none⟩) HT.out.footN (.slice A5 l.length c5))
    have hA3 : pus ((L.set t ⟨y.vl, .slice A4 (y.ks.length + 1) c4, y.ls, (y.ks ++ [v]), y.ct⟩).set f (NV.mk x.vl (.slice A5 l.length c5) x.ls l x.ct)) = ((pus L).set t ⟨y.ls, (y.ks ++ [v]), y.ct⟩).set f ⟨[], l, x.ct⟩ := by rw [pus_set, pus_set]; simp only [NV.pu, HXo.out]
    have HTA3 := Lib.hid (hT3.ta hA3)
    obtain ⟨s1, s2⟩ := HS.out (((pus L).set t ⟨y.ls, (y.ks ++ [v]), y.ct⟩).set f ⟨[], l, x.ct⟩) rfl
    have hpl := pus_length L
    have e1 : (((pus L).set t ⟨y.ls, (y.ks ++ [v]), y.ct⟩).set f ⟨[], l, x.ct⟩)[f]? = some ⟨[], l, x.ct⟩ := Bt.set_self (by rw [List.length_set, hpl]; exact hfl)
    have e2 : (Bt.setSum (((pus L).set t ⟨y.ls, (y.ks ++ [v]), y.ct⟩).set f ⟨[], l, x.ct⟩) f)[t]? = some ⟨y.ls, (y.ks ++ [v]), y.ct⟩ := by rw [Bt.setSum_other (fun e => hft e.symm), Bt.set_other (fun e => hft e.symm), Bt.set_self (by rw [hpl]; exact htl)]
    have HE1 := Lib.hid (And.intro e1 (s1 _ e1))
    have HE2 := Lib.hid (And.intro e2 (s2 _ e2))
    clear hT3 hA3 s1 s2 e1 e2 hr3 hg3 hb3 hrg gx1
    go_wp2_with fail
    go_at_call 50
    refine (sum_ta HTA3.out HE1.out.1 HE1.out.2.1 HE1.out.2.2).mono ?_
    rintro e w4 ⟨rfl, ta4, ch4⟩
    have HTA4 := Lib.hid ta4
    have HC4 := Lib.hid (HC3.out.trans ch4)
    clear ta4 ch4
    go_wp2_with fail
    go_at_call 50
    refine (sum_ta HTA4.out HE2.out.1 HE2.out.2.1 HE2.out.2.2).mono ?_
    rintro e w5 ⟨rfl, ta5, ch5⟩
    have HTA5 := Lib.hid ta5
    have HC5 := Lib.hid (HC4.out.trans ch5)
    clear ta5 ch5
    go_wp2
    go_end0
    exact ⟨rfl, HTA5.out, HC5.out⟩
end Go.Proofs.YtdhemdeapphfoaaGreatDoor
