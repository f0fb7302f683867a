/- The tree's split, walked. -/
import Derived.Test.YtdhemdeapphfoaaGreatDoorBtC
set_option linter.unusedVariables false
set_option linter.unusedSimpArgs false
namespace Go.Proofs.YtdhemdeapphfoaaGreatDoor
open Go.RowKit Go.Shelf Go.Proofs.YtdhemdeapphfoaaGreatDoorW.PrintWords Go.Proofs.YtdhemdeapphfoaaGreatDoorW.PrintLast

section
variable {w : World} {e : TypeId} {v : Value} {cs : List Value}
theorem Rw.alloc (h : Rw w e v cs) (o : Obj) : Rw (w.alloc o) e v cs := h.step fun b hb => Below.heap_alloc w o b (h.lt b hb)
theorem Rw.drewN (h : Rw w e v cs) (n : Nat) : Rw (w.drewN n) e v cs := h.step fun _ _ => rfl
theorem Rw.below {w' : World} (h : Rw w e v cs) (hb : Below w.heap.size w w') : Rw w' e v cs := h.step fun b hl => hb.block b (h.lt b hl)
theorem Rw.setCell (h : Rw w e v cs) {p : Addr} (hp : v.ownBlock ≠ some p.block) (u : Value) : Rw (w.setCell p u) e v cs := h.step fun b hb => Below.heap_setCell _ _ _ _ (fun e => hp (e ▸ hb))
end
/-- a block of three cells of one's own -/
structure Box3 (w : World) (b : Nat) (a c d : Value) : Prop where
  at_ : w.heap[b]? = some (.cells #[a, c, d] 100 (0, 0))
theorem Box3.c0 {w : World} {b : Nat} {a c d : Value} (h : Box3 w b a c d) : w.cell? ⟨b, 0, none⟩ = some a := by rw [blk_cell h.at_]; rfl
theorem Box3.c1 {w : World} {b : Nat} {a c d : Value} (h : Box3 w b a c d) : w.cell? ⟨b, 1, none⟩ = some c := by rw [blk_cell h.at_]; rfl
theorem Box3.c2 {w : World} {b : Nat} {a c d : Value} (h : Box3 w b a c d) : w.cell? ⟨b, 2, none⟩ = some d := by rw [blk_cell h.at_]; rfl
theorem Box3.z {w : World} {b : Nat} {a c d : Value} (h : Box3 w b a c d) (j : Nat) : w.frozen? ⟨b, j, none⟩ = false := blk_frozen h.at_ j

section
variable {w : World} {F : Nat → Prop} {B N cap : Nat} {fv : Value} {L : List NV} {fr : List Nat} {root : Nat} {bytes : Int}
/-- a store into a box of one's own -/
theorem Tw.other (h : Tw w F B N cap fv L fr root bytes) {p : Addr} (u : Value) (hp : ∃ c, w.heap[p.block]? = some (.cells c 100 (0, 0))) (hne : p.block ≠ N) : Tw (w.setCell p u) F B N cap fv L fr root bytes := by
  obtain ⟨c, hc⟩ := hp
  have neR : ∀ {e : TypeId} {v : Value} {cs : List Value}, Rw w e v cs → e ≠ 100 → Rw (w.setCell p u) e v cs := fun hu he => hu.setCell (hu.ne hc he) u
  obtain ⟨rest, hr, hrc⟩ := h.row
  have hB : B ≠ p.block := fun e => by
    have hb := h.box
    rw [e, hc] at hb
    injection hb with hb
    injection hb with _ hb _
    exact absurd hb (by decide)
  exact { h with
    box := by rw [Below.heap_setCell _ _ _ _ hB]; exact h.box
    row := ⟨rest, by rw [Below.heap_setCell _ _ _ _ (fun e => hne e.symm)]; exact hr, hrc⟩
    free := neR h.free (by decide)
    lines := fun k x hx => neR (h.lines k x hx) (by decide)
    kids := fun k x hx => neR (h.kids k x hx) (by decide) }
theorem pus_some {L : List NV} {k : Nat} {n : Bt.Nd} (h : (pus L)[k]? = some n) : ∃ x, L[k]? = some x ∧ x.pu = n := by
  rw [pus, List.getElem?_map] at h
  exact Option.map_eq_some_iff.1 h
theorem pus_length (L : List NV) : (pus L).length = L.length := by simp [pus]
end

theorem sum_ta {w : World} {F : Nat → Prop} {B : Nat} {A : List Bt.Nd} {fr : List Nat} {root : Nat} (h : Ta w F B A fr root) {k : Nat} {n : Bt.Nd} (hn : A[k]? = some n)
    (hk : ∀ j ∈ n.ks, j ≠ k ∧ ∃ y, A[j]? = some y ∧ 0 ≤ y.ct) (hs : (n.ls.length : Int) + Bt.cts A n.ks ≤ 4611686018427387904) :
    Calls Tryz.prog 50 #[.pointer (some ⟨B, 0, none⟩), .int .i64 k] w fun e w' => e = .returned (.tuple #[]) ∧ Ta w' F B (Bt.setSum A k) fr root ∧ Chg F w w' := by
  obtain ⟨N, cap, fv, bytes, L, hT, rfl⟩ := h
  obtain ⟨x, hx, rfl⟩ := pus_some hn
  refine (sum_any hT hx (fun j hj => ?_) hs).mono ?_
  · obtain ⟨h1, y, hy, hy0⟩ := hk j hj
    obtain ⟨z, hz, rfl⟩ := pus_some hy
    exact ⟨h1, z, hz, hy0⟩
  · rintro e w' ⟨h1, h2, h3⟩
    refine ⟨h1, h2.ta ?_, h3⟩
    rw [pus_set, Bt.setSum, pus_nd hx]
    rfl

set_option maxRecDepth 100000 in
theorem make_any {w : World} {F : Nat → Prop} {B N cap : Nat} {fv : Value} {L : List NV} {fr : List Nat} {root : Nat} {bytes : Int} (h : Tw w F B N cap fv L fr root bytes)
    (hF : ∀ b, w.heap.size ≤ b → F b) {y : NV} (hy : Fresh w F fv L y) (hlen : L.length + 1 ≤ 1000000000000) (hfr : ∀ j ∈ fr, j < L.length) :
    Calls Tryz.prog 49 #[.pointer (some ⟨B, 0, none⟩), y.agg] w fun e w' => e = .returned (.int .i64 (Bt.mk (pus L) fr y.pu).2.2) ∧ Ta w' F B (Bt.mk (pus L) fr y.pu).1 (Bt.mk (pus L) fr y.pu).2.1 root ∧ Chg F w w' := by
  rcases List.eq_nil_or_concat fr with rfl | ⟨fr', m, rfl⟩
  · have hp : (pus L).length = L.length := by simp [pus]
    have e1 : Bt.mk (pus L) [] y.pu = (pus L ++ [y.pu], [], L.length) := by rw [← hp]; rfl
    rw [e1]
    exact make_new h hF hy hlen
  · rw [List.concat_eq_append] at h hfr ⊢
    have e1 : Bt.mk (pus L) (fr' ++ [m]) y.pu = ((pus L).set m y.pu, fr', m) := by simp [Bt.mk]
    rw [e1]
    exact make_old h (List.getElem?_eq_getElem (hfr m (by simp))) hF hy

theorem clip_strs (A : Option Addr) (n c : Nat) (hn : n ≤ c) (hc : c ≤ maxLen) (w : World) : Calls Tryz.prog 101 #[.slice A n c] w fun e w' => e = .returned (.slice A n n) ∧ w = w' := by
  unfold maxLen at hc
  go_enter Tryz.func101, Tryz.ntmps101
  go_wp2
  go_ret
  exact ⟨rfl, rfl⟩
theorem clip_ints (A : Option Addr) (n c : Nat) (hn : n ≤ c) (hc : c ≤ maxLen) (w : World) : Calls Tryz.prog 103 #[.slice A n c] w fun e w' => e = .returned (.slice A n n) ∧ w = w' := by
  unfold maxLen at hc
  go_enter Tryz.func103, Tryz.ntmps103
  go_wp2
  go_ret
  exact ⟨rfl, rfl⟩

set_option maxRecDepth 100000 in
theorem leaf_at {w : World} {b o n c : Nat} {A : Option Addr} (c1 : w.cell? ⟨b, o + 1, none⟩ = some (.slice A n c)) (hn : n ≤ 1000000000000) :
    Calls Tryz.prog 66 #[.pointer (some ⟨b, o, none⟩)] w fun e w' => e = .returned (.bool (decide (n = 0))) ∧ w = w' := by
  have HB := Lib.hid (show ((n : Int) == 0) = decide (n = 0) by rw [Bool.eq_iff_iff]; simp)
  go_enter Tryz.func66, Tryz.ntmps66
  go_wp2
  go_ret
  exact ⟨congrArg (fun b => Ending.returned (.bool b)) HB.out, rfl⟩
set_option maxRecDepth 100000 in
theorem size_at {w : World} {b o n c n2 c2 : Nat} {A A2 : Option Addr} (c0 : w.cell? ⟨b, o, none⟩ = some (.slice A n c)) (c1 : w.cell? ⟨b, o + 1, none⟩ = some (.slice A2 n2 c2)) (hn : n ≤ 1000000000000) (hn2 : n2 ≤ 1000000000000) :
    Calls Tryz.prog 100 #[.pointer (some ⟨b, o, none⟩)] w fun e w' => e = .returned (.int .i64 ((n + n2 : Nat) : Int)) ∧ ∃ q, w' = w.drewN q := by
  go_enter Tryz.func100, Tryz.ntmps100
  go_wp2
  go_quiet (fail)
  go_wp2
  go_ret
  exact ⟨by simp, nq, rfl⟩

set_option maxRecDepth 100000 in
theorem split_small {w : World} {F : Nat → Prop} {B N cap : Nat} {fv : Value} {L : List NV} {fr : List Nat} {root : Nat} {bytes : Int} (h : Tw w F B N cap fv L fr root bytes) {k : Nat} {x : NV} (hx : L[k]? = some x)
    (hs : x.ls.length + x.ks.length ≤ 8) :
    Calls Tryz.prog 70 #[.pointer (some ⟨B, 0, none⟩), .int .i64 k] w fun e w' => e = .returned (.int .i64 (-1)) ∧ Ta w' F B (pus L) fr root ∧ Chg F w w' := by
  have b0 := h.c0
  have n0 := h.n0 hx
  have n1 := h.n1 hx
  have n2 := h.n2 hx
  have hkl := (List.getElem?_eq_some_iff.1 hx).1
  have hf := h.fit
  have hle := h.le
  unfold maxLen at hf
  have hkl' : (k : Int) < L.length := by omega
  obtain ⟨A1, c1, hv1, hl1, hm1, _⟩ := (h.lines k x hx).slice
  obtain ⟨A2, c2, hv2, hl2, hm2, _⟩ := (h.kids k x hx).slice
  rw [cS_len] at hv1 hl1
  rw [cK_len] at hv2 hl2
  rw [hv1] at n0
  rw [hv2] at n1
  have HT := Lib.hid h
  clear h hx hv1 hv2
  go_enter Tryz.func70, Tryz.ntmps70
  go_wp2_with (go_at_call 100; refine (size_at (n := x.ls.length) (c := c1) (A := A1) (n2 := x.ks.length) (c2 := c2) (A2 := A2) (by simp) (by simp) (by omega) (by omega)).mono ?_; rintro e w1 ⟨rfl, q, rfl⟩)
  go_ret
  exact ⟨rfl, ((HT.out.alloc _).drewN _).ta rfl, ((Chg.refl F w).alloc _).drewN _⟩

set_option maxRecDepth 100000 in
theorem split_leaf {w : World} {F : Nat → Prop} {B N cap : Nat} {fv : Value} {L : List NV} {fr : List Nat} {root : Nat} {bytes : Int} (h : Tw w F B N cap fv L fr root bytes) {k : Nat} {x : NV} (hx : L[k]? = some x)
    (hs : 8 < x.ls.length) (hks : x.ks = []) (hbig : x.ls.length ≤ 1000000000000) (hF : ∀ b, w.heap.size ≤ b → F b) (hlen : L.length + 1 ≤ 1000000000000) (hfr : ∀ j ∈ fr, j < L.length) (hnd : fr.Nodup) (hkf : k ∉ fr) :
    Calls Tryz.prog 70 #[.pointer (some ⟨B, 0, none⟩), .int .i64 k] w fun e w' => e = .returned (.int .i64 ((Bt.split (pus L) fr k).2.2.getD 0)) ∧ Ta w' F B (Bt.split (pus L) fr k).1 (Bt.split (pus L) fr k).2.1 root ∧ Chg F w w' := by
  have b0 := h.c0
  have n0 := h.n0 hx
  have n1 := h.n1 hx
  have n2 := h.n2 hx
  have hkl := (List.getElem?_eq_some_iff.1 hx).1
  have hf := h.fit
  have hle := h.le
  unfold maxLen at hf
  have hkl' : (k : Int) < L.length := by omega
  obtain ⟨A1, c1, hv1, hl1, hm1, hA1⟩ := (h.lines k x hx).slice
  obtain ⟨A2, c2, hv2, hl2, hm2, _⟩ := (h.kids k x hx).slice
  rw [cS_len] at hv1 hl1 hA1
  rw [hks, cK_len, List.length_nil] at hv2 hl2
  obtain ⟨g, rfl⟩ := hA1 (by omega)
  rw [hv1] at n0
  rw [hv2] at n1
  have hgl : g < w.heap.size := h.own_lt_l hx g (by rw [hv1]; rfl)
  have hrow := h.lines k x hx
  rw [hv1] at hrow
  have HT := Lib.hid h
  have HR := Lib.hid hrow
  unfold maxLen at hm1 hm2
  have HX := Lib.hid hx
  have HV1 := Lib.hid hv1
  have HV2 := Lib.hid hv2
  have HKS := Lib.hid hks
  obtain ⟨hf2, hhf⟩ : ∃ hf2 : Nat, hf2 = x.ls.length / 2 := ⟨_, rfl⟩
  have hh1 : hf2 < x.ls.length := by omega
  have hck : ¬ c1 = hf2 := by omega
  have hdiv : ((x.ls.length : Nat) : Int) / 2 = hf2 := by omega
  have HD := Lib.hid hhf
  clear h hx hv1 hv2 hrow hA1 hks hhf
  go_enter Tryz.func70, Tryz.ntmps70
  go_wp2_with (first
    | (go_at_call 100; refine (size_at (n := x.ls.length) (c := c1) (A := some ⟨g, 0, none⟩) (n2 := 0) (c2 := c2) (A2 := A2) (by simp) (by simp) (by omega) (by omega)).mono ?_; rintro e w1 ⟨rfl, q, rfl⟩)
    | (go_at_call 66; refine (leaf_at (n := 0) (c := c2) (A := A2) (by go_simp) (by omega)).mono ?_; rintro e w1 ⟨rfl, rfl⟩))
  go_at_call 46
  refine (cloS_rw _ x.ls (((HR.out.alloc _).drewN _).alloc _) hh1 (by omega)).mono ?_
  rintro e w1 ⟨v1, rfl, hr1, hb1, hk1⟩
  have HT1 := Lib.hid ((((HT.out.alloc _).drewN _).alloc _).below hb1)
  have hX : Box3 w1 w.heap.size (.slice (some ⟨g, 0, none⟩) x.ls.length c1) (.slice A2 0 c2) (.int .i64 x.ct) := ⟨by
    rw [hb1.block _ (by simp; omega)]
    exact (Below.heap_alloc _ _ _ (by simp)).trans (heap_alloc_new w _)⟩
  have hY : Box3 w1 (w.heap.size + 1) (.slice none 0 0) (.slice none 0 0) (.int .i64 0) := ⟨by
    rw [hb1.block _ (by simp)]
    exact new_at _ _ (by simp) _⟩
  have HB1 := Lib.hid hb1
  have HR1 := Lib.hid hr1
  have HK1 := Lib.hid hk1
  clear hb1 hr1 hk1 b0 n0 n1 n2
  have b0 := HT1.out.c0
  have n0 := HT1.out.n0 HX.out
  have n1 := HT1.out.n1 HX.out
  have n2 := HT1.out.n2 HX.out
  have z0 := HT1.out.zN (k * 3)
  have z1 := HT1.out.zN (k * 3 + 1)
  have z2 := HT1.out.zN (k * 3 + 2)
  have xc0 := hX.c0
  have xc1 := hX.c1
  have xc2 := hX.c2
  have xz0 := hX.z 0
  have yc0 := hY.c0
  have yc1 := hY.c1
  have yc2 := hY.c2
  have yz0 := hY.z 0
  have HXX := Lib.hid hX
  have HYY := Lib.hid hY
  have hNl := HT.out.ltN
  have hBl := HT.out.ltB
  clear hX hY
  obtain ⟨A3, c3, hv3, hl3, hm3, _⟩ := HR1.out.slice
  rw [cS_len, List.length_drop] at hv3
  subst hv3
  unfold maxLen at hm3
  obtain ⟨X, hXe⟩ : ∃ X, w.heap.size = X := ⟨_, rfl⟩
  have hNX : ¬ N = X := by omega
  have hBX : ¬ B = X := by omega
  have hNX1 : ¬ N = X + 1 := by omega
  have hBX1 : ¬ B = X + 1 := by omega
  have hNX2 : ¬ X = N := by omega
  have hNX3 : ¬ X + 1 = N := by omega
  rw [hXe] at xc0 xc1 xc2 xz0 yc0 yc1 yc2 yz0 ⊢
  have HXE := Lib.hid hXe
  clear hXe hNl hBl
  go_wp2_with (go_at_call 101; refine (clip_strs _ _ _ (by omega) (by unfold maxLen; omega) _).mono ?_; rintro e w2 ⟨rfl, rfl⟩)
  go_region
  go_wp2_with fail
  have hF1 : ∀ b, w1.heap.size ≤ b → F b := fun b hb => hF b (Nat.le_trans (Nat.le_trans (by simp; omega) HB1.out.size) hb)
  have hvl : ∀ b, (Value.slice A3 (x.ls.length - hf2) c3).ownBlock = some b → X + 1 < b := fun b hb => by
    obtain ⟨q2, h1, h2⟩ := HK1.out
    rw [h1] at hb
    injection hb with hb
    have h3 := HXE.out
    simp at h2
    omega
  have t1 := HT1.out.other (p := ⟨X + 1, 0, none⟩) (.slice A3 (x.ls.length - hf2) c3) ⟨_, by have := HYY.out.at_; rw [HXE.out] at this; exact this⟩ hNX3
  have t2 := t1.other (p := ⟨X, 0, none⟩) (.slice (some ⟨g, 0, none⟩) hf2 hf2) ⟨_, by rw [Below.heap_setCell _ _ _ _ (by simp)]; have := HXX.out.at_; rw [HXE.out] at this; exact this⟩ hNX2
  have hgX : g < X := by have := HXE.out; omega
  have r1 : Rw w1 9 (.slice (some ⟨g, 0, none⟩) x.ls.length c1) (cS x.ls) := (((HR.out.alloc _).drewN _).alloc _).below HB1.out
  have r2 : Rw ((w1.setCell ⟨X + 1, 0, none⟩ (.slice A3 (x.ls.length - hf2) c3)).setCell ⟨X, 0, none⟩ (.slice (some ⟨g, 0, none⟩) hf2 hf2)) 9 (.slice (some ⟨g, 0, none⟩) hf2 hf2) (cS (x.ls.take hf2)) := by
    have h9 := (r1.take (m := hf2) (c' := hf2) (by omega) (Nat.le_refl _) (by omega))
    rw [show (cS x.ls).take hf2 = cS (x.ls.take hf2) by simp [cS, List.map_take]] at h9
    exact (h9.setCell (p := ⟨X + 1, 0, none⟩) (by intro e; injection e with e; simp at e; omega) _).setCell (p := ⟨X, 0, none⟩) (by intro e; injection e with e; simp at e; omega) _
  have k2 := t2.kids k x HX.out
  have t3 := (t2.setNode HX.out (y := ⟨.slice (some ⟨g, 0, none⟩) hf2 hf2, .slice A2 0 c2, x.ls.take hf2, x.ks, x.ct⟩) r2 (by rw [HV2.out] at k2; exact k2)
    (fun b hb => by injection hb with hb; subst hb; exact ⟨HT.out.footL k x g HX.out (by rw [HV1.out]; rfl), fun j z hz hj e => hj (HT.out.apartL j k z x g hz HX.out e (by rw [HV1.out]; rfl))⟩)
    (fun b hb => HT.out.at_k hF HX.out (v := x.vk) (.inl rfl) b (by rw [HV2.out]; exact hb))).drew
  have hlE : (x.ls.length - hf2) = (x.ls.drop hf2).length := by simp
  have hyF : Fresh ((((((w1.setCell ⟨X + 1, 0, none⟩ (.slice A3 (x.ls.length - hf2) c3)).setCell ⟨X, 0, none⟩ (.slice (some ⟨g, 0, none⟩) hf2 hf2)).setCell ⟨N, k * 3, none⟩ (.slice (some ⟨g, 0, none⟩) hf2 hf2)).setCell ⟨N, k * 3 + 1, none⟩ (.slice A2 0 c2)).setCell ⟨N, k * 3 + 2, none⟩ (.int .i64 x.ct)).drew) F fv (L.set k ⟨.slice (some ⟨g, 0, none⟩) hf2 hf2, .slice A2 0 c2, x.ls.take hf2, x.ks, x.ct⟩) ⟨.slice A3 (x.ls.length - hf2) c3, .slice none 0 0, x.ls.drop hf2, [], 0⟩ := by
    have hNX9 : N < X := by have := HT.out.ltN; have := HXE.out; omega
    refine ⟨?_, Rw.nil _ _, fun b hb => ⟨hF b (by have := hvl b hb; have := HXE.out; omega), fun j z hz e => ?_⟩, fun b hb => by cases hb⟩
    · refine Rw.drewN (n := 1) ?_
      refine ((((HR1.out.setCell ?_ _).setCell ?_ _).setCell ?_ _).setCell ?_ _).setCell ?_ _
      all_goals
        intro e
        have := hvl _ e
        simp only at this
        omega
    · have h1 := hvl b hb
      rcases set_get HX.out hz with ⟨rfl, rfl⟩ | ⟨hj, hz'⟩
      · injection e with e
        simp only at e
        omega
      · have := HT.out.own_lt_l hz' b e
        have := HXE.out
        omega
  have hlen2 : (L.set k ⟨.slice (some ⟨g, 0, none⟩) hf2 hf2, .slice A2 0 c2, x.ls.take hf2, x.ks, x.ct⟩).length = L.length := List.length_set
  have hF2 : ∀ b, ((((((w1.setCell ⟨X + 1, 0, none⟩ (.slice A3 (x.ls.length - hf2) c3)).setCell ⟨X, 0, none⟩ (.slice (some ⟨g, 0, none⟩) hf2 hf2)).setCell ⟨N, k * 3, none⟩ (.slice (some ⟨g, 0, none⟩) hf2 hf2)).setCell ⟨N, k * 3 + 1, none⟩ (.slice A2 0 c2)).setCell ⟨N, k * 3 + 2, none⟩ (.int .i64 x.ct)).drew).heap.size ≤ b → F b := fun b hb => hF1 b (by simpa [World.drew, World.setCell] using hb)
  have HC3 := Lib.hid (((((((((((Chg.refl F w).alloc (.cells #[Value.slice (some ⟨g, 0, none⟩) x.ls.length c1, Value.slice A2 0 c2, Value.int .i64 x.ct] 100)).drewN _).alloc _).below HB1.out).setCell (p := ⟨X + 1, 0, none⟩) (hF _ (by have := HXE.out; simp; omega)) (.slice A3 (x.ls.length - hf2) c3)).setCell (p := ⟨X, 0, none⟩) (hF _ (by have := HXE.out; simp; omega)) (.slice (some ⟨g, 0, none⟩) hf2 hf2)).setCell (p := ⟨N, k * 3, none⟩) HT.out.footN (.slice (some ⟨g, 0, none⟩) hf2 hf2)).setCell (p := ⟨N, k * 3 + 1, none⟩) HT.out.footN (.slice A2 0 c2)).setCell (p := ⟨N, k * 3 + 2, none⟩) HT.out.footN (.int .i64 x.ct)).drew)
  have hmk := make_any t3 hF2 hyF (by rw [hlen2]; exact hlen) (fun j hj => by rw [hlen2]; exact hfr j hj)
  obtain ⟨B2, fr2, o, t, em, m1, m2, m3, m4, m5, m6, m7, m8, m9⟩ := Bt.mk_law (A := pus (L.set k ⟨.slice (some ⟨g, 0, none⟩) hf2 hf2, .slice A2 0 c2, x.ls.take hf2, x.ks, x.ct⟩)) (fr := fr) (x := NV.pu ⟨.slice A3 (x.ls.length - hf2) c3, .slice none 0 0, x.ls.drop hf2, [], 0⟩) (by rw [pus_length, hlen2]; exact hfr) hnd
  rw [em] at hmk
  simp only at hmk
  rw [pus_length, hlen2] at m2 m3 m4 m7
  have hok : o ≠ k := by
    rcases m7 with h | h
    · exact fun e => hkf (e ▸ h)
    · omega
  have mk0 : B2[k]? = some ⟨x.ls.take hf2, [], x.ct⟩ := by
    rw [m3 k hkl (fun e => hok e.symm), pus_at (x := ⟨.slice (some ⟨g, 0, none⟩) hf2 hf2, .slice A2 0 c2, x.ls.take hf2, x.ks, x.ct⟩) (by simp [hkl])]
    simp only [NV.pu, HKS.out]
  have mo0 : (Bt.setSum B2 k)[o]? = some ⟨x.ls.drop hf2, [], 0⟩ := by rw [Bt.setSum_other hok]; exact m1
  have hfin : Bt.split (pus L) fr k = (Bt.setSum (Bt.setSum B2 k) o, fr2, some o) := by
    refine Bt.split_big (x := x.pu) (pus_nd HX.out) (by simp [Bt.Nd.size, NV.pu]; omega) ?_
    rw [← em, pus_set]
    simp only [Bt.half1, Bt.half2, NV.pu, Bt.Nd.size, HKS.out, List.length_nil, Nat.add_zero, if_true, HD.out]
  have HFIN := Lib.hid hfin
  have HF9 := Lib.hid hF
  clear hF2 hyF t3 t2 t1 r1 r2 k2 hF1 hvl hfin m1 m2 m3 m4 m5 m6 m7 m8 m9 hF em
  go_at_call 49
  refine hmk.mono ?_
  rintro e w2 ⟨rfl, ta2, ch2⟩
  have HMK := Lib.hid mk0
  have HMO := Lib.hid mo0
  have HC2 := Lib.hid ch2
  have HA2 := Lib.hid ta2
  clear mk0 mo0 ch2 ta2 hmk b0 n0 n1 n2 z0 z1 z2 xc0 xc1 xc2 xz0 yc0 yc1 yc2 yz0 hfr hlE hlen2
  go_wp2_with fail
  go_at_call 50
  refine (sum_ta HA2.out HMK.out (fun j hj => by cases hj) (by simp [Bt.cts]; omega)).mono ?_
  rintro e w3 ⟨rfl, ta3, ch3⟩
  have HC3' := Lib.hid ch3
  have HA3 := Lib.hid ta3
  clear ta3 ch3
  go_wp2_with fail
  go_at_call 50
  refine (sum_ta HA3.out HMO.out (fun j hj => by cases hj) (by simp [Bt.cts]; omega)).mono ?_
  rintro e w4 ⟨rfl, ta4, ch4⟩
  have HC4 := Lib.hid ch4
  have HA4 := Lib.hid ta4
  clear ta4 ch4
  go_wp2
  go_ret
  rw [HFIN.out]
  exact ⟨rfl, HA4.out, ((HC3.out.trans HC2.out).trans HC3'.out).trans HC4.out⟩
end Go.Proofs.YtdhemdeapphfoaaGreatDoor
