/- The tree's Get and Set, walked. -/
import Derived.Test.YtdhemdeapphfoaaGreatDoorBtU
set_option linter.unusedVariables false
set_option linter.unusedSimpArgs false
namespace Go.Proofs.YtdhemdeapphfoaaGreatDoor
open Go.RowKit Go.Shelf Go.Proofs.YtdhemdeapphfoaaGreatDoorW.PrintWords Go.Proofs.YtdhemdeapphfoaaGreatDoorW.PrintLast

theorem setCell_same {w : World} {b o : Nat} {v : Value} {cs : Array Value} {t : TypeId} (h : w.heap[b]? = some (.cells cs t (0, 0))) (hv : cs[o]? = some v) : (w.setCell ⟨b, o, none⟩ v) = w := by
  have ec : cs.setIfInBounds o v = cs := by
    apply Array.ext_getElem?
    intro j
    rw [Array.getElem?_setIfInBounds]
    by_cases hj : o = j
    · subst hj
      have hl := (Array.getElem?_eq_some_iff.1 hv).1
      rw [if_pos rfl, if_pos hl, hv]
    · rw [if_neg hj]
  have e2 : (w.setCell ⟨b, o, none⟩ v).heap = w.heap := by
    apply Array.ext_getElem?
    intro i
    by_cases hi : i = b
    · subst hi
      rw [blk_set h, h, ec]
    · exact Below.heap_setCell _ _ _ _ hi
  have e3 : w.setCell ⟨b, o, none⟩ v = { w with heap := (w.setCell ⟨b, o, none⟩ v).heap } := rfl
  rw [e3, e2]

section
variable {w : World} {F : Nat → Prop} {B N cap : Nat} {fv : Value} {L : List NV} {fr : List Nat} {root : Nat} {bytes : Int}
theorem Tw.setLine (h : Tw w F B N cap fv L fr root bytes) {k : Nat} {x : NV} (hx : L[k]? = some x) {g n c j : Nat} (hv : x.vl = .slice (some ⟨g, 0, none⟩) n c) (hj : j < n) (s : ByteArray) : Tw (w.setCell ⟨g, j, none⟩ (.string s)) F B N cap fv (L.set k ⟨x.vl, x.vk, x.ls.set j s, x.ks, x.ct⟩) fr root bytes := by
  have hrow := h.lines k x hx
  rw [hv] at hrow
  have hset := hrow.set hj (u := .string s) rfl
  rw [show (cS x.ls).set j (.string s) = cS (x.ls.set j s) by simp [cS, List.map_set], ← hv] at hset
  have hgr : w.grownBy (w.setCell ⟨g, j, none⟩ (.string s)) x.vl.ownBlock := by
    rw [hv]
    exact ⟨rfl, rfl, rfl, by simp [World.setCell], fun i _ hr => Below.heap_setCell w ⟨g, j, none⟩ _ i (by simpa [Value.ownBlock] using hr)⟩
  have h2 := h.setLs hx hgr hset (fun b hb => ⟨h.footL k x b hx hb, fun i z hz hi e => hi (h.apartL i k z x b hz hx e hb)⟩)
  obtain ⟨rest, hr, _⟩ := h.row
  have hgN : g ≠ N := fun e => hrow.ne hr (by decide) (by rw [e]; rfl)
  have hrN : (w.setCell ⟨g, j, none⟩ (.string s)).heap[N]? = some (.cells (flat L ++ rest).toArray 100 (0, 0)) := by rw [Below.heap_setCell _ _ _ _ (fun e => hgN e.symm)]; exact hr
  have hk := (List.getElem?_eq_some_iff.1 hx).1
  rw [setCell_same hrN (by rw [List.getElem?_toArray, List.getElem?_append_left (by rw [flat_length]; omega)]; exact flat_at (j := 0) hx (by omega))] at h2
  exact h2
end

theorem len_is {w : World} {F : Nat → Prop} {B : Nat} {ls : List ByteArray} (h : TreeIs w F B ls) :
    Calls Tryz.prog 22 #[.pointer (some ⟨B, 0, none⟩)] w fun e w' => e = .returned (.int .i64 (ls.length : Nat)) ∧ ∃ n, w' = w.drewN n := by
  obtain ⟨A, fr, root, d, p, hT, ho⟩ := h
  exact len_ta hT ho

set_option maxRecDepth 100000 in
theorem Get_none {w : World} {F : Nat → Prop} {B : Nat} {ls : List ByteArray} (h : TreeIs w F B ls) {i : Int} (hi : i < 0 ∨ (ls.length : Int) ≤ i) :
    Calls Tryz.prog 34 #[.pointer (some ⟨B, 0, none⟩), .int .i64 i] w fun e w' => e = .returned (.tuple #[.string ⟨#[]⟩, .bool false]) ∧ ∃ n, w' = w.drewN n := by
  have HT := Lib.hid h
  clear h
  by_cases h0 : i < 0
  · clear hi
    go_enter Tryz.func34, Tryz.ntmps34
    go_wp2
    go_ret2
    exact ⟨rfl, 0, rfl⟩
  · have h1 : (ls.length : Int) ≤ i := by omega
    clear hi
    go_enter Tryz.func34, Tryz.ntmps34
    go_wp2_with (go_at_call 22; refine (len_is HT.out).mono ?_; rintro e w1 ⟨rfl, q, rfl⟩)
    all_goals first | (exfalso; omega) | skip
    go_ret2
    exact ⟨rfl, q, rfl⟩

set_option maxRecDepth 100000 in
theorem Get_any {w : World} {F : Nat → Prop} {B : Nat} {ls : List ByteArray} (h : TreeIs w F B ls) {i : Nat} (hi : i < ls.length) (hl : ls.length ≤ 1000000000) :
    Calls Tryz.prog 34 #[.pointer (some ⟨B, 0, none⟩), .int .i64 i] w fun e w' => e = .returned (.tuple #[.string (ls.getD i ByteArray.empty), .bool true]) ∧ ∃ n, w' = w.drewN n := by
  have HTI := Lib.hid h
  obtain ⟨A, fr, root, d, p, hT, ho⟩ := h
  have hat := fun q => at_any (hT.drewN q) ho.rep ho.id (List.nodup_append.1 ho.nodup).1 (i := i) (by rw [ho.lines]; exact hi) (by rw [ho.lines]; omega)
  have HAT := Lib.hid hat
  have HT := Lib.hid hT
  have HO := Lib.hid ho
  have hi' : (i : Int) < ls.length := by omega
  clear hT ho hat
  go_enter Tryz.func34, Tryz.ntmps34
  go_wp2_with (first
    | (go_at_call 22; refine (len_is HTI.out).mono ?_; rintro e w1 ⟨rfl, q, rfl⟩)
    | (go_at_call 56; fail))
  all_goals first | (exfalso; omega) | skip
  go_at_call 56
  refine (HAT.out q).mono ?_
  rintro e w1 ⟨k, j, rfl, rfl, hat⟩
  obtain ⟨l, c, hk, hj, hl2, hset⟩ := Bt.ok_set HO.out hat
  obtain ⟨N, cap, fv, bytes, L, hT2, hp2⟩ := HT.out
  rw [← hp2] at hk
  obtain ⟨x, hx, hpu⟩ := pus_some hk
  have hxl : x.ls = l := congrArg Bt.Nd.ls hpu
  have b0 := hT2.c0
  have n0 := hT2.n0 hx
  have hkl := (List.getElem?_eq_some_iff.1 hx).1
  have hf := hT2.fit
  have hle := hT2.le
  unfold maxLen at hf
  have hkl' : (k : Int) < L.length := by omega
  obtain ⟨A1, c1, hv1, hl1, hm1, hA1⟩ := (hT2.lines _ x hx).slice
  rw [hxl, cS_len] at hv1 hl1 hA1
  obtain ⟨g, rfl⟩ := hA1 (by omega)
  rw [hv1] at n0
  have hrow := hT2.lines _ x hx
  rw [hxl, hv1] at hrow
  have ec := hrow.cell (j := j) (cS_at (show l[j]? = some (l.getD j ByteArray.empty) by rw [List.getD_eq_getElem?_getD, List.getElem?_eq_getElem hj]; rfl))
  rw [hl2] at ec
  obtain ⟨ln, hln⟩ : ∃ ln, ln = ls.getD i ByteArray.empty := ⟨_, rfl⟩
  rw [← hln] at ec
  have HLN := Lib.hid hln
  have hj' : (j : Int) < l.length := by omega
  unfold maxLen at hm1
  clear hrow hT2 hx hv1 hxl hpu hk hp2 hset hl2 hat hA1 hln
  go_wp2
  go_ret2
  rw [← HLN.out]
  exact ⟨rfl, q, rfl⟩

set_option maxRecDepth 100000 in
set_option maxHeartbeats 1000000 in
theorem Set_any {w : World} {F : Nat → Prop} {B : Nat} {ls : List ByteArray} (h : TreeIs w F B ls) {i : Nat} {line : ByteArray} (hi : i < ls.length) (hl : ls.length ≤ 1000000000) (hline : line.size ≤ 1000000000) :
    Calls Tryz.prog 151 #[.pointer (some ⟨B, 0, none⟩), .int .i64 i, .string line] w fun e w' => e = .returned (.bool true) ∧ TreeIs w' F B (ls.set i line) ∧ Chg F w w' := by
  have HTI := Lib.hid h
  obtain ⟨A, fr, root, d, p, hT, ho⟩ := h
  have hat := fun q => at_any (hT.drewN q) ho.rep ho.id (List.nodup_append.1 ho.nodup).1 (i := i) (by rw [ho.lines]; exact hi) (by rw [ho.lines]; omega)
  have HAT := Lib.hid hat
  have HT := Lib.hid hT
  have HO := Lib.hid ho
  have hi' : (i : Int) < ls.length := by omega
  clear hT ho hat
  go_enter Tryz.func151, Tryz.ntmps151
  go_wp2_with (first
    | (go_at_call 22; refine (len_is HTI.out).mono ?_; rintro e w1 ⟨rfl, q, rfl⟩)
    | (go_at_call 56; fail))
  all_goals first | (exfalso; omega) | skip
  go_at_call 56
  refine (HAT.out q).mono ?_
  rintro e w1 ⟨k, j, rfl, rfl, hat⟩
  obtain ⟨l, c, hk, hj, hl2, hset⟩ := Bt.ok_set HO.out hat
  have HSET := Lib.hid (hset line)
  obtain ⟨N, cap, fv, bytes, L, hT2, hp2⟩ := HT.out
  rw [← hp2] at hk
  obtain ⟨x, hx, hpu⟩ := pus_some hk
  have hxl : x.ls = l := congrArg Bt.Nd.ls hpu
  have hxk : x.ks = [] := congrArg Bt.Nd.ks hpu
  have hxc : x.ct = c := congrArg Bt.Nd.ct hpu
  have b0 := hT2.c0
  have b3 := hT2.c3
  have bz := hT2.zB 3
  have n0 := hT2.n0 hx
  have hkl := (List.getElem?_eq_some_iff.1 hx).1
  have hf := hT2.fit
  have hle := hT2.le
  unfold maxLen at hf
  have hkl' : (k : Int) < L.length := by omega
  obtain ⟨A1, c1, hv1, hl1, hm1, hA1⟩ := (hT2.lines _ x hx).slice
  rw [hxl, cS_len] at hv1 hl1 hA1
  obtain ⟨g, rfl⟩ := hA1 (by omega)
  rw [hv1] at n0
  have hrow := hT2.lines _ x hx
  rw [hxl, hv1] at hrow
  have ec := hrow.cell (j := j) (cS_at (show l[j]? = some (l.getD j ByteArray.empty) by rw [List.getD_eq_getElem?_getD, List.getElem?_eq_getElem hj]; rfl))
  have ez := hrow.frozen j
  obtain ⟨ln, hln⟩ : ∃ ln, ln = l.getD j ByteArray.empty := ⟨_, rfl⟩
  rw [← hln] at ec
  have hj' : (j : Int) < l.length := by omega
  have hBN := hT2.BN
  have hNB : ¬ N = B := fun e => hBN e.symm
  have hgB : ¬ g = B := fun e => hT2.B_rows hrow (by decide) g rfl e
  have hBg : ¬ B = g := fun e => hgB e.symm
  have hgN : ¬ g = N := fun e => by
    obtain ⟨rest, hr, _⟩ := hT2.row
    exact hrow.ne hr (by decide) (by rw [e]; rfl)
  have hNg : ¬ N = g := fun e => hgN e.symm
  unfold maxLen at hm1
  have HT2 := Lib.hid hT2
  have HX := Lib.hid hx
  have HV1 := Lib.hid hv1
  have HXL := Lib.hid (And.intro hxl (And.intro hxk hxc))
  have HP2 := Lib.hid hp2
  have HROW := Lib.hid hrow
  clear hrow hT2 hx hv1 hxl hxk hxc hpu hk hp2 hset hl2 hat hA1 hln
  go_wp2
  go_region
  go_wp2
  go_ret
  have t1 := (HT2.out.drewN (q + 1)).setBytes (wrap64 (bytes + wrap64 (line.size - ln.size)))
  have t2 := t1.setLine HX.out HV1.out hj line
  have hta := t2.ta (A := A.set k ⟨l.set j line, [], c⟩) (by rw [pus_set, HP2.out]; simp only [NV.pu, HXL.out.1, HXL.out.2.1, HXL.out.2.2])
  exact ⟨rfl, ⟨_, _, _, _, _, hta, HSET.out⟩, (((Chg.refl F w).drewN (q + 1)).setCell HT2.out.footB _).setCell (HT2.out.footL k x g HX.out (by rw [HV1.out]; rfl)) _⟩
end Go.Proofs.YtdhemdeapphfoaaGreatDoor
