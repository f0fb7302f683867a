/- pat's branch: walked. -/
import Derived.Test.YtjdlbejmdjcajaaGreatPaL
set_option linter.unusedVariables false
set_option linter.unusedSimpArgs false
namespace Go.Proofs.YtjdlbejmdjcajaaGreat
open Go.RowKit Go.Shelf Go.Maps Go.Proofs.YtjdlbejmdjcajaaGreatW.PrintWords Go.Proofs.YtjdlbejmdjcajaaGreatW.PrintLast

theorem Pp.nextP_pos {l : List UInt8} {r r1 : Pp.Rs} {t : Pp.Tk} (h : Pp.nextP l r = some (t, r1)) : r.pos < r1.pos := by
  unfold Pp.nextP at h
  split at h
  · cases h
  · split at h
    · split at h
      · cases h
      · split at h
        · obtain ⟨_, rfl⟩ := Prod.mk.inj (Option.some.inj h)
          show r.pos < r.pos + 2
          omega
        · split at h
          · obtain ⟨_, rfl⟩ := Prod.mk.inj (Option.some.inj h)
            show r.pos < r.pos + 2
            omega
          · cases h
    · obtain ⟨_, rfl⟩ := Prod.mk.inj (Option.some.inj h)
      show r.pos < r.pos + 1
      omega
theorem Pp.nextP_keep {l : List UInt8} {r r1 : Pp.Rs} {t : Pp.Tk} (h : Pp.nextP l r = some (t, r1)) : ({ r1 with pos := r.pos, mode := r.mode, fold := r.fold } : Pp.Rs) = r := by
  unfold Pp.nextP at h
  split at h
  · cases h
  · split at h
    · split at h
      · cases h
      · split at h
        · obtain ⟨_, rfl⟩ := Prod.mk.inj (Option.some.inj h)
          rfl
        · split at h
          · obtain ⟨_, rfl⟩ := Prod.mk.inj (Option.some.inj h)
            rfl
          · cases h
    · obtain ⟨_, rfl⟩ := Prod.mk.inj (Option.some.inj h)
      rfl
theorem Pp.nextP_sign {l : List UInt8} {r r1 : Pp.Rs} {c : UInt8} (h : Pp.nextP l r = some (.sign c, r1)) : c ≠ 0 := by
  rintro rfl
  unfold Pp.nextP at h
  split at h
  · cases h
  · rename_i c0 hc0
    split at h
    · split at h
      · cases h
      · rename_i d hd
        split at h
        · rename_i hs
          obtain ⟨h1, _⟩ := Prod.mk.inj (Option.some.inj h)
          split at h1
          · cases h1
          · injection h1 with h2
            subst h2
            exact absurd hs (by decide)
        · split at h
          · obtain ⟨h1, _⟩ := Prod.mk.inj (Option.some.inj h)
            cases h1
          · cases h
    · obtain ⟨h1, _⟩ := Prod.mk.inj (Option.some.inj h)
      split at h1
      · rename_i hp
        injection h1 with h2
        subst h2
        unfold Pp.plainL at hp
        split at hp
        · exact absurd hp (by decide)
        · split at hp
          · exact absurd hp (by decide)
          · split at hp
            · exact absurd hp (by decide)
            · exact absurd hp (by decide)
      · cases h1
section
variable {w w' : World} {G : Nat} {s last : ByteArray} {r : Pp.Rs} {v : Value} {L : List (Pp.Nd × Value)}
set_option maxRecDepth 100000 in
set_option maxHeartbeats 8000000 in
theorem branch_any {sgn : UInt8 → Nat → Pp.Br → Pp.Res Pp.Br} (hs : SignOk sgn G s last) (h : Rdr w G s last r v L) {within : Bool} {k : Nat} {r' : Pp.R} {n0 : Nat} (hb : Pp.branchL sgn s.data.toList within n0 ⟨(r, L.map Prod.fst), [], false⟩ = some (.ok (k, r'))) (hsz : s.size ≤ 10000) :
    Calls Tryz.prog 37 #[.pointer (some ⟨G, 0, none⟩), .bool within] w (BrPost w G s last v L k r') := by
  have HC := Lib.hid (cur_start h)
  have HS := Lib.hid hs
  have HB0 := Lib.hid hb
  have HSZ := Lib.hid hsz
  clear hs h hb hsz
  go_enter Tryz.func37, Tryz.ntmps37
  go_wp2
  go_loopw [6, 7, 8] (fun v6 v7 v8 wr => ∃ (n : Nat) (b : Pp.Br), CurB w G w.heap.size s last v L b wr ∧ Pp.branchL sgn s.data.toList within n b = some (.ok (k, r'))) (fun _ _ _ wr => s.size + 1 - posOf G wr)
  case atStart => exact ⟨n0, ⟨(r, L.map Prod.fst), [], false⟩, ⟨v, .slice none 0 0, [], HC.out, by simp⟩, HB0.out⟩
  case round =>
    obtain ⟨n, b, ⟨v1, kv1, N1, hc, hm⟩, hbl⟩ := hrel
    obtain ⟨⟨br, bn⟩, ks, may⟩ := b
    simp only at hc hm
    cases n with
    | zero => cases hbl
    | succ n =>
    have hg : ¬ (50000 < bn.length + ks.length + br.pos) := by
      intro h9
      simp [Pp.branchL, h9] at hbl
    have hnl : (L ++ N1).length ≤ 100000 := by
      have : (L ++ N1).length = bn.length := by rw [← hm]; simp
      omega
    have hpos := hc.rd.box.posOf
    simp only [Pp.branchL, if_neg hg] at hbl
    obtain ⟨_, _, c2, c4, _, _⟩ := hc.rd.box.cells
    obtain ⟨b0, b1, b2⟩ := hc.bcell
    by_cases hend : s.data.toList.length ≤ br.pos
    · rw [if_pos hend] at hbl
      have hge : ¬ ((br.pos : Int) < (s.size : Int)) := by
        have : s.data.toList.length = s.size := by simp
        omega
      have HR := Lib.hid (cur_row (hc.below (Below.refl _ _).drew) hm (Except.ok.inj (Option.some.inj hbl)) hnl)
      clear hc hm hbl hg hnl hpos hend
      go_wp2
      go_region_held3 (fun V => V.cell? ⟨G, 2, none⟩ = some (.string s) ∧ V.cell? ⟨G, 4, none⟩ = some (.int .i64 br.pos)) (first | exact ⟨c2, c4⟩ | go_keep) (fail)
      go_wp2_with fail
      refine HR.out.mono ?_
      rintro e w1 h1
      obtain ⟨v', N, rfl, h1⟩ := h1
      have H1 := Lib.hid h1
      clear h1
      go_wp2
      go_ret
      exact ⟨v', N, rfl, H1.out⟩
    · rw [if_neg hend] at hbl
      have hlt : (br.pos : Int) < (s.size : Int) := by
        have : s.data.toList.length = s.size := by simp
        omega
      cases hnx : Pp.nextP s.data.toList br with
      | none => rw [hnx] at hbl; cases hbl
      | some tr =>
      obtain ⟨t, r1⟩ := tr
      rw [hnx] at hbl
      obtain ⟨c0, c1, _, _, _, _⟩ := hc.rd.box.cells
      have hOB : Below wr.heap.size wr (wr.alloc (.cells #[.int .u8 br.mode, .int .u8 br.fold] 67)).drew := (below_alloc (Below.refl wr.heap.size wr) _).drew
      have hO2 : (wr.alloc (.cells #[.int .u8 br.mode, .int .u8 br.fold] 67)).drew.heap[wr.heap.size]? = some (.cells #[.int .u8 br.mode, .int .u8 br.fold] 67) := alloc_at wr _
      obtain ⟨X, hX⟩ : ∃ X, (wr.alloc (.cells #[.int .u8 br.mode, .int .u8 br.fold] 67)).drew = X := ⟨_, rfl⟩
      rw [hX] at hOB hO2
      have hcX := hc.below hOB
      have hOG : wr.heap.size ≠ G := by have := blk_lt hc.rd.box; omega
      have HNX := Lib.hid (show Calls Tryz.prog 38 #[.pointer (some ⟨G, 0, none⟩)] X fun e W => e = .returned (tkV t) ∧ Cur w W G w.heap.size s last r1 v v1 kv1 L N1 ks may ∧ W.heap[wr.heap.size]? = some (.cells #[.int .u8 br.mode, .int .u8 br.fold] 67) from (next_any hcX.rd.box (by omega) hnx).mono fun e W h9 => ⟨h9.1, hcX.reads h9.2.1 h9.2.2, (h9.2.2.block _ (blk_lt hO2) (fun e => hOG (Option.some.inj e))).trans hO2⟩)
      have HX := Lib.hid hX
      have HKP := Lib.hid (Pp.nextP_keep hnx)
      have HPP := Lib.hid (Pp.nextP_pos hnx)
      have HSG := Lib.hid fun c (hc : t = .sign c) => Pp.nextP_sign (l := s.data.toList) (r := br) (r1 := r1) (c := c) (hc ▸ hnx)
      have HBL := Lib.hid hbl
      have HNL := Lib.hid (And.intro hnl (And.intro hpos hm))
      clear hc hbl hnl hpos hm hend hnx hcX hO2 hOB hX
      cases t with
      | none =>
        simp only [tkV, tokV, Pp.nd0] at HNX
        go_wp2
        go_region_held3 (fun V => V.cell? ⟨G, 2, none⟩ = some (.string s) ∧ V.cell? ⟨G, 4, none⟩ = some (.int .i64 br.pos)) (first | exact ⟨c2, c4⟩ | go_keep) (fail)
        go_wp2_with fail
        rw [HX.out]
        refine HNX.out.mono ?_
        rintro e W ⟨rfl, hcw, how⟩
        have HW := Lib.hid (And.intro hcw how)
        clear hcw how
        go_wp2
        have h9 := HW.out.1.below (below_alloc (Below.refl W.heap.size W) (.cells #[.int .u8 0, .int .u8 0, .int .u8 0, .int .u64 0, .int .u64 0, .int .u64 0, .int .u64 0, .int .i64 0, .int .i64 0, .bool false, .int .i64 0, .slice none 0 0, .bool true] 91))
        refine ⟨⟨n, ⟨(r1, bn), ks, may⟩, ⟨v1, kv1, N1, h9, HNL.out.2.2⟩, HBL.out⟩, ?_⟩
        rw [h9.rd.box.posOf, HNL.out.2.1]
        have := HPP.out
        omega
      | sign c =>
        by_cases hc1 : c = 124 ∨ (c = 41 ∧ within = true)
        · have hbl2 := HBL.out
          simp only [if_pos hc1] at hbl2
          have HBL2 := Lib.hid (Except.ok.inj (Option.some.inj hbl2))
          clear hbl2
          rcases hc1 with rfl | ⟨rfl, rfl⟩
          · have e : (((124 : UInt8).toNat : Nat) : Int) = 124 := rfl
            simp only [tkV, tokV, Pp.nd0, e] at HNX
            go_wp2
            go_region_held3 (fun V => V.cell? ⟨G, 2, none⟩ = some (.string s) ∧ V.cell? ⟨G, 4, none⟩ = some (.int .i64 br.pos)) (first | exact ⟨c2, c4⟩ | go_keep) (fail)
            go_wp2_with fail
            rw [HX.out]
            refine HNX.out.mono ?_
            rintro e W ⟨rfl, hcw, how⟩
            have HW := Lib.hid (And.intro hcw how)
            clear hcw how
            go_wp2
            have hYB := below_alloc (Below.refl W.heap.size W) (.cells #[.int .u8 124, .int .u8 0, .int .u8 0, .int .u64 0, .int .u64 0, .int .u64 0, .int .u64 0, .int .i64 0, .int .i64 0, .bool false, .int .i64 0, .slice none 0 0, .bool false] 91)
            obtain ⟨Y, hY⟩ : ∃ Y, W.alloc (.cells #[.int .u8 124, .int .u8 0, .int .u8 0, .int .u64 0, .int .u64 0, .int .u64 0, .int .u64 0, .int .i64 0, .int .i64 0, .bool false, .int .i64 0, .slice none 0 0, .bool false] 91) = Y := ⟨_, rfl⟩
            rw [hY] at hYB ⊢
            have hcY := HW.out.1.below hYB
            have hOY := (hYB.block wr.heap.size (blk_lt HW.out.2)).trans HW.out.2
            have y0 : Y.cell? ⟨wr.heap.size, 0, none⟩ = some (.int .u8 br.mode) := by rw [blk_cell hOY]; rfl
            have y1 : Y.cell? ⟨wr.heap.size, 1, none⟩ = some (.int .u8 br.fold) := by rw [blk_cell hOY]; rfl
            have f0 := blk_frozen hcY.rd.box 0
            have f1 := blk_frozen hcY.rd.box 1
            have f4 := blk_frozen hcY.rd.box 4
            obtain ⟨d0, d1, d2, d4, d5, d6⟩ := hcY.rd.box.cells
            have HCY := Lib.hid hcY
            have far : ∀ (V : World) (i : Nat) (x : Value), V.heap[wr.heap.size]? = some (.cells #[.int .u8 br.mode, .int .u8 br.fold] 67 (0, 0)) → (V.setCell ⟨G, i, none⟩ x).heap[wr.heap.size]? = some (.cells #[.int .u8 br.mode, .int .u8 br.fold] 67 (0, 0)) := fun V i x h9 => (Below.heap_setCell V ⟨G, i, none⟩ x wr.heap.size hOG).trans h9
            have y2 : ∀ x, (Y.setCell ⟨G, 4, none⟩ x).drew.cell? ⟨wr.heap.size, 0, none⟩ = some (.int .u8 br.mode) ∧ (Y.setCell ⟨G, 4, none⟩ x).drew.cell? ⟨wr.heap.size, 1, none⟩ = some (.int .u8 br.fold) := fun x => by
              have h9 : (Y.setCell ⟨G, 4, none⟩ x).drew.heap[wr.heap.size]? = _ := far Y 4 x hOY
              constructor <;> (rw [blk_cell h9]; rfl)
            have y3 : ∀ x a b, (((Y.setCell ⟨G, 4, none⟩ x).setCell ⟨G, 0, none⟩ a).setCell ⟨G, 1, none⟩ b).drew.cell? ⟨wr.heap.size, 0, none⟩ = some (.int .u8 br.mode) ∧ (((Y.setCell ⟨G, 4, none⟩ x).setCell ⟨G, 0, none⟩ a).setCell ⟨G, 1, none⟩ b).drew.cell? ⟨wr.heap.size, 1, none⟩ = some (.int .u8 br.fold) := fun x a b => by
              have h9 : (((Y.setCell ⟨G, 4, none⟩ x).setCell ⟨G, 0, none⟩ a).setCell ⟨G, 1, none⟩ b).drew.heap[wr.heap.size]? = _ := far _ 1 b (far _ 0 a (far Y 4 x hOY))
              constructor <;> (rw [blk_cell h9]; rfl)
            have Y2 := Lib.hid y2
            have Y3 := Lib.hid y3
            clear hYB hcY hOY hY far y2 y3
            go_region_held3 (fun V => V.cell? ⟨wr.heap.size, 0, none⟩ = some (.int .u8 br.mode) ∧ V.cell? ⟨wr.heap.size, 1, none⟩ = some (.int .u8 br.fold)) (first | exact ⟨y0, y1⟩ | exact Y2.out _ | exact Y3.out _ _ _ | go_keep) (fail)
            have hR0 := blk_set (blk_set (blk_set HCY.out.rd.box 4 (.int .i64 (br.pos : Int))) 0 (.int .u8 br.mode)) 1 (.int .u8 br.fold)
            have hR1 : RdM (((Y.setCell ⟨G, 4, none⟩ (.int .i64 (br.pos : Int))).setCell ⟨G, 0, none⟩ (.int .u8 br.mode)).setCell ⟨G, 1, none⟩ (.int .u8 br.fold)).drew G s last { r1 with pos := br.pos, mode := br.mode, fold := br.fold } v1 := hR0
            rw [HKP.out] at hR1
            have hg1 := pgrown_then (pgrown_set (pgrown_set (pgrown_set (pgrown_below (g := some G) (Below.refl Y.heap.size Y)) (p := ⟨G, 4, none⟩) (.inl rfl) (.int .i64 (br.pos : Int))) (p := ⟨G, 0, none⟩) (.inl rfl) (.int .u8 br.mode)) (p := ⟨G, 1, none⟩) (.inl rfl) (.int .u8 br.fold)) (Below.refl _ _).drew
            have hcZ := HCY.out.reads hR1 (by exact hg1)
            obtain ⟨Z, hZ⟩ : ∃ Z, (((Y.setCell ⟨G, 4, none⟩ (.int .i64 (br.pos : Int))).setCell ⟨G, 0, none⟩ (.int .u8 br.mode)).setCell ⟨G, 1, none⟩ (.int .u8 br.fold)).drew = Z := ⟨_, rfl⟩
            rw [hZ] at hcZ ⊢
            obtain ⟨g0, g1, g2⟩ := hcZ.bcell
            have HRW := Lib.hid (cur_row hcZ HNL.out.2.2 HBL2.out HNL.out.1)
            clear hR0 hR1 hg1 hcZ hZ
            go_wp2_with fail
            refine HRW.out.mono ?_
            rintro e W2 ⟨v2, N2, rfl, h2⟩
            have H2 := Lib.hid h2
            clear h2
            go_wp2
            go_ret
            exact ⟨v2, N2, rfl, H2.out⟩
          · have e : (((41 : UInt8).toNat : Nat) : Int) = 41 := rfl
            simp only [tkV, tokV, Pp.nd0, e] at HNX
            go_wp2
            go_region_held3 (fun V => V.cell? ⟨G, 2, none⟩ = some (.string s) ∧ V.cell? ⟨G, 4, none⟩ = some (.int .i64 br.pos)) (first | exact ⟨c2, c4⟩ | go_keep) (fail)
            go_wp2_with fail
            rw [HX.out]
            refine HNX.out.mono ?_
            rintro e W ⟨rfl, hcw, how⟩
            have HW := Lib.hid (And.intro hcw how)
            clear hcw how
            go_wp2
            have hYB := below_alloc (Below.refl W.heap.size W) (.cells #[.int .u8 41, .int .u8 0, .int .u8 0, .int .u64 0, .int .u64 0, .int .u64 0, .int .u64 0, .int .i64 0, .int .i64 0, .bool false, .int .i64 0, .slice none 0 0, .bool false] 91)
            obtain ⟨Y, hY⟩ : ∃ Y, W.alloc (.cells #[.int .u8 41, .int .u8 0, .int .u8 0, .int .u64 0, .int .u64 0, .int .u64 0, .int .u64 0, .int .i64 0, .int .i64 0, .bool false, .int .i64 0, .slice none 0 0, .bool false] 91) = Y := ⟨_, rfl⟩
            rw [hY] at hYB ⊢
            have hcY := HW.out.1.below hYB
            have hOY := (hYB.block wr.heap.size (blk_lt HW.out.2)).trans HW.out.2
            have y0 : Y.cell? ⟨wr.heap.size, 0, none⟩ = some (.int .u8 br.mode) := by rw [blk_cell hOY]; rfl
            have y1 : Y.cell? ⟨wr.heap.size, 1, none⟩ = some (.int .u8 br.fold) := by rw [blk_cell hOY]; rfl
            have f0 := blk_frozen hcY.rd.box 0
            have f1 := blk_frozen hcY.rd.box 1
            have f4 := blk_frozen hcY.rd.box 4
            obtain ⟨d0, d1, d2, d4, d5, d6⟩ := hcY.rd.box.cells
            have HCY := Lib.hid hcY
            have far : ∀ (V : World) (i : Nat) (x : Value), V.heap[wr.heap.size]? = some (.cells #[.int .u8 br.mode, .int .u8 br.fold] 67 (0, 0)) → (V.setCell ⟨G, i, none⟩ x).heap[wr.heap.size]? = some (.cells #[.int .u8 br.mode, .int .u8 br.fold] 67 (0, 0)) := fun V i x h9 => (Below.heap_setCell V ⟨G, i, none⟩ x wr.heap.size hOG).trans h9
            have y2 : ∀ x, (Y.setCell ⟨G, 4, none⟩ x).drew.cell? ⟨wr.heap.size, 0, none⟩ = some (.int .u8 br.mode) ∧ (Y.setCell ⟨G, 4, none⟩ x).drew.cell? ⟨wr.heap.size, 1, none⟩ = some (.int .u8 br.fold) := fun x => by
              have h9 : (Y.setCell ⟨G, 4, none⟩ x).drew.heap[wr.heap.size]? = _ := far Y 4 x hOY
              constructor <;> (rw [blk_cell h9]; rfl)
            have y3 : ∀ x a b, (((Y.setCell ⟨G, 4, none⟩ x).setCell ⟨G, 0, none⟩ a).setCell ⟨G, 1, none⟩ b).drew.cell? ⟨wr.heap.size, 0, none⟩ = some (.int .u8 br.mode) ∧ (((Y.setCell ⟨G, 4, none⟩ x).setCell ⟨G, 0, none⟩ a).setCell ⟨G, 1, none⟩ b).drew.cell? ⟨wr.heap.size, 1, none⟩ = some (.int .u8 br.fold) := fun x a b => by
              have h9 : (((Y.setCell ⟨G, 4, none⟩ x).setCell ⟨G, 0, none⟩ a).setCell ⟨G, 1, none⟩ b).drew.heap[wr.heap.size]? = _ := far _ 1 b (far _ 0 a (far Y 4 x hOY))
              constructor <;> (rw [blk_cell h9]; rfl)
            have Y2 := Lib.hid y2
            have Y3 := Lib.hid y3
            clear hYB hcY hOY hY far y2 y3
            go_region_held3 (fun V => V.cell? ⟨wr.heap.size, 0, none⟩ = some (.int .u8 br.mode) ∧ V.cell? ⟨wr.heap.size, 1, none⟩ = some (.int .u8 br.fold)) (first | exact ⟨y0, y1⟩ | exact Y2.out _ | exact Y3.out _ _ _ | go_keep) (fail)
            have hR0 := blk_set (blk_set (blk_set HCY.out.rd.box 4 (.int .i64 (br.pos : Int))) 0 (.int .u8 br.mode)) 1 (.int .u8 br.fold)
            have hR1 : RdM (((Y.setCell ⟨G, 4, none⟩ (.int .i64 (br.pos : Int))).setCell ⟨G, 0, none⟩ (.int .u8 br.mode)).setCell ⟨G, 1, none⟩ (.int .u8 br.fold)).drew G s last { r1 with pos := br.pos, mode := br.mode, fold := br.fold } v1 := hR0
            rw [HKP.out] at hR1
            have hg1 := pgrown_then (pgrown_set (pgrown_set (pgrown_set (pgrown_below (g := some G) (Below.refl Y.heap.size Y)) (p := ⟨G, 4, none⟩) (.inl rfl) (.int .i64 (br.pos : Int))) (p := ⟨G, 0, none⟩) (.inl rfl) (.int .u8 br.mode)) (p := ⟨G, 1, none⟩) (.inl rfl) (.int .u8 br.fold)) (Below.refl _ _).drew
            have hcZ := HCY.out.reads hR1 (by exact hg1)
            obtain ⟨Z, hZ⟩ : ∃ Z, (((Y.setCell ⟨G, 4, none⟩ (.int .i64 (br.pos : Int))).setCell ⟨G, 0, none⟩ (.int .u8 br.mode)).setCell ⟨G, 1, none⟩ (.int .u8 br.fold)).drew = Z := ⟨_, rfl⟩
            rw [hZ] at hcZ ⊢
            obtain ⟨g0, g1, g2⟩ := hcZ.bcell
            have HRW := Lib.hid (cur_row hcZ HNL.out.2.2 HBL2.out HNL.out.1)
            clear hR0 hR1 hg1 hcZ hZ
            go_wp2_with fail
            refine HRW.out.mono ?_
            rintro e W2 ⟨v2, N2, rfl, h2⟩
            have H2 := Lib.hid h2
            clear h2
            go_wp2
            go_ret
            exact ⟨v2, N2, rfl, H2.out⟩
        · have hbl2 := HBL.out
          simp only [if_neg hc1] at hbl2
          by_cases h41 : c = 41
          · rw [if_pos h41] at hbl2
            cases hbl2
          rw [if_neg h41] at hbl2
          cases hsg : sgn c br.pos ⟨(r1, bn), ks, may⟩ with
          | none => rw [hsg] at hbl2; cases hbl2
          | some er =>
          cases er with
          | error er => rw [hsg] at hbl2; cases hbl2
          | ok b3 =>
          rw [hsg] at hbl2
          simp only at hbl2
          by_cases hlo : b3.r.1.pos < r1.pos
          · rw [if_pos hlo] at hbl2
            cases hbl2
          rw [if_neg hlo] at hbl2
          have HBL2 := Lib.hid (And.intro hbl2 (Nat.le_of_not_lt hlo))
          have x124 : ((c.toNat : Int) == 124) = false := beq_eq_false_iff_ne.2 fun e => hc1 (.inl (UInt8.toNat_inj.1 (by simpa using Int.ofNat.inj e)))
          have x41 : ((c.toNat : Int) == 41) = false := beq_eq_false_iff_ne.2 fun e => h41 (UInt8.toNat_inj.1 (by simpa using Int.ofNat.inj e))
          have x0 : ((c.toNat : Int) == 0) = false := beq_eq_false_iff_ne.2 fun e => HSG.out c rfl (UInt8.toNat_inj.1 (by simpa using Int.ofNat.inj e))
          have HSC := Lib.hid hsg
          clear hbl2 hlo hc1 h41 hsg
          simp only [tkV, tokV, Pp.nd0] at HNX
          go_wp2
          go_region_held3 (fun V => V.cell? ⟨G, 2, none⟩ = some (.string s) ∧ V.cell? ⟨G, 4, none⟩ = some (.int .i64 br.pos)) (first | exact ⟨c2, c4⟩ | go_keep) (fail)
          go_wp2_with fail
          rw [HX.out]
          refine HNX.out.mono ?_
          rintro e W ⟨rfl, hcw, how⟩
          have HW := Lib.hid (And.intro hcw how)
          clear hcw how
          go_wp2_with fail
          have hYB := below_alloc (Below.refl W.heap.size W) (.cells #[.int .u8 (c.toNat : Int), .int .u8 0, .int .u8 0, .int .u64 0, .int .u64 0, .int .u64 0, .int .u64 0, .int .i64 0, .int .i64 0, .bool false, .int .i64 0, .slice none 0 0, .bool false] 91)
          have hcY := HW.out.1.below hYB
          have hbs : bn.length ≤ 100000 ∧ ks.length ≤ 100000 := by omega
          have HSX := Lib.hid (HS.out w _ w.heap.size v L ⟨(r1, bn), ks, may⟩ b3 c br.pos ⟨v1, kv1, N1, hcY, HNL.out.2.2⟩ hbs.1 hbs.2 HSC.out)
          clear hYB hcY hbs
          refine HSX.out.mono ?_
          rintro e W2 ⟨rfl, v2, kv2, N2, h2, h2m⟩
          have H2 := Lib.hid (And.intro h2 h2m)
          clear h2 h2m
          go_wp2
          refine ⟨⟨n, b3, ⟨v2, kv2, N2, H2.out.1, H2.out.2⟩, HBL2.out.1⟩, ?_⟩
          rw [H2.out.1.rd.box.posOf, HNL.out.2.1]
          have := HPP.out
          have := HBL2.out.2
          omega
      | lit c =>
        simp only [tkV, tokV, Pp.lit, Pp.nd0] at HNX
        go_wp2
        go_region_held3 (fun V => V.cell? ⟨G, 2, none⟩ = some (.string s) ∧ V.cell? ⟨G, 4, none⟩ = some (.int .i64 br.pos)) (first | exact ⟨c2, c4⟩ | go_keep) (fail)
        go_wp2_with fail
        rw [HX.out]
        refine HNX.out.mono ?_
        rintro e W ⟨rfl, hcw, how⟩
        have HW := Lib.hid (And.intro hcw how)
        clear hcw how
        go_wp2
        go_region
        have hTB := below_alloc (Below.refl W.heap.size W) (.cells #[.int .u8 0, .int .u8 2, .int .u8 (c.toNat : Int), .int .u64 0, .int .u64 0, .int .u64 0, .int .u64 0, .int .i64 0, .int .i64 0, .bool false, .int .i64 0, .slice none 0 0, .bool false] 91)
        have hTK := alloc_at W (.cells #[.int .u8 0, .int .u8 2, .int .u8 (c.toNat : Int), .int .u64 0, .int .u64 0, .int .u64 0, .int .u64 0, .int .i64 0, .int .i64 0, .bool false, .int .i64 0, .slice none 0 0, .bool false] 91)
        have hTB := hTB.drew
        replace hTK : (W.alloc (.cells #[.int .u8 0, .int .u8 2, .int .u8 (c.toNat : Int), .int .u64 0, .int .u64 0, .int .u64 0, .int .u64 0, .int .i64 0, .int .i64 0, .bool false, .int .i64 0, .slice none 0 0, .bool false] 91)).drew.heap[W.heap.size]? = _ := hTK
        obtain ⟨Y, hY⟩ : ∃ Y, (W.alloc (.cells #[.int .u8 0, .int .u8 2, .int .u8 (c.toNat : Int), .int .u64 0, .int .u64 0, .int .u64 0, .int .u64 0, .int .i64 0, .int .i64 0, .bool false, .int .i64 0, .slice none 0 0, .bool false] 91)).drew = Y := ⟨_, rfl⟩
        rw [hY] at hTB hTK ⊢
        have hcY := HW.out.1.below hTB
        have hTG : W.heap.size ≠ G ∧ v1.ownBlock ≠ some W.heap.size ∧ W.heap.size ≠ w.heap.size ∧ kv1.ownBlock ≠ some W.heap.size := by
          have e1 := blk_lt HW.out.1.rd.box
          have e2 := blk_lt HW.out.1.br.box
          have e3 := own_lt HW.out.1.rd.row
          have e4 := int_lt HW.out.1.br.row
          exact ⟨by omega, fun e => by have := e3 _ e; omega, by omega, fun e => by have := e4 _ e; omega⟩
        obtain ⟨q, hq⟩ : ∃ q, (L ++ N1).length = q := ⟨_, rfl⟩
        have HND := Lib.hid (cur_node2 (hcY.below (Below.refl _ _).drew) (d := Pp.lit c) (Is.nil _ _) HNL.out.1)
        unfold ndV at HND
        simp only [Pp.lit, Pp.nd0] at HND
        rw [hq] at HND
        have HQ := Lib.hid hq
        have hTl := blk_lt hTK
        have z0 : Y.cell? ⟨W.heap.size, 1, none⟩ = some (.int .u8 2) ∧ Y.cell? ⟨W.heap.size, 2, none⟩ = some (.int .u8 (c.toNat : Int)) ∧ Y.cell? ⟨W.heap.size, 3, none⟩ = some (.int .u64 0) ∧ Y.cell? ⟨W.heap.size, 4, none⟩ = some (.int .u64 0) ∧ Y.cell? ⟨W.heap.size, 5, none⟩ = some (.int .u64 0) ∧ Y.cell? ⟨W.heap.size, 6, none⟩ = some (.int .u64 0) ∧ Y.cell? ⟨W.heap.size, 7, none⟩ = some (.int .i64 0) ∧ Y.cell? ⟨W.heap.size, 8, none⟩ = some (.int .i64 0) ∧ Y.cell? ⟨W.heap.size, 9, none⟩ = some (.bool false) ∧ Y.cell? ⟨W.heap.size, 10, none⟩ = some (.int .i64 0) ∧ Y.cell? ⟨W.heap.size, 11, none⟩ = some (.slice none 0 0) := ⟨by rw [blk_cell hTK]; rfl, by rw [blk_cell hTK]; rfl, by rw [blk_cell hTK]; rfl, by rw [blk_cell hTK]; rfl, by rw [blk_cell hTK]; rfl, by rw [blk_cell hTK]; rfl, by rw [blk_cell hTK]; rfl, by rw [blk_cell hTK]; rfl, by rw [blk_cell hTK]; rfl, by rw [blk_cell hTK]; rfl, by rw [blk_cell hTK]; rfl⟩
        have HTK := Lib.hid (And.intro hTK (And.intro hTl hTG))
        have HNL2 := Lib.hid (show ks.length ≤ 100000 by omega)
        clear hTB hTK hcY hTG hq hTl hY
        go_wp2
        go_region_held3 (fun V => V.cell? ⟨W.heap.size, 1, none⟩ = some (.int .u8 2) ∧ V.cell? ⟨W.heap.size, 2, none⟩ = some (.int .u8 (c.toNat : Int)) ∧ V.cell? ⟨W.heap.size, 3, none⟩ = some (.int .u64 0) ∧ V.cell? ⟨W.heap.size, 4, none⟩ = some (.int .u64 0) ∧ V.cell? ⟨W.heap.size, 5, none⟩ = some (.int .u64 0) ∧ V.cell? ⟨W.heap.size, 6, none⟩ = some (.int .u64 0) ∧ V.cell? ⟨W.heap.size, 7, none⟩ = some (.int .i64 0) ∧ V.cell? ⟨W.heap.size, 8, none⟩ = some (.int .i64 0) ∧ V.cell? ⟨W.heap.size, 9, none⟩ = some (.bool false) ∧ V.cell? ⟨W.heap.size, 10, none⟩ = some (.int .i64 0) ∧ V.cell? ⟨W.heap.size, 11, none⟩ = some (.slice none 0 0)) (first | exact z0 | exact z1 | exact z2 | go_keep) (first
          | (go_at_call 52; (with_reducible refine HND.out.mono ?_); rintro e W2 ⟨v2, rfl, h2, hpf2⟩; have hT2 := (hpf2.block W.heap.size HTK.out.2.1 HTK.out.2.2.1 HTK.out.2.2.2.1).trans HTK.out.1; have z1 : W2.cell? ⟨W.heap.size, 1, none⟩ = some (.int .u8 2) ∧ W2.cell? ⟨W.heap.size, 2, none⟩ = some (.int .u8 (c.toNat : Int)) ∧ W2.cell? ⟨W.heap.size, 3, none⟩ = some (.int .u64 0) ∧ W2.cell? ⟨W.heap.size, 4, none⟩ = some (.int .u64 0) ∧ W2.cell? ⟨W.heap.size, 5, none⟩ = some (.int .u64 0) ∧ W2.cell? ⟨W.heap.size, 6, none⟩ = some (.int .u64 0) ∧ W2.cell? ⟨W.heap.size, 7, none⟩ = some (.int .i64 0) ∧ W2.cell? ⟨W.heap.size, 8, none⟩ = some (.int .i64 0) ∧ W2.cell? ⟨W.heap.size, 9, none⟩ = some (.bool false) ∧ W2.cell? ⟨W.heap.size, 10, none⟩ = some (.int .i64 0) ∧ W2.cell? ⟨W.heap.size, 11, none⟩ = some (.slice none 0 0) := ⟨by rw [blk_cell hT2]; rfl, by rw [blk_cell hT2]; rfl, by rw [blk_cell hT2]; rfl, by rw [blk_cell hT2]; rfl, by rw [blk_cell hT2]; rfl, by rw [blk_cell hT2]; rfl, by rw [blk_cell hT2]; rfl, by rw [blk_cell hT2]; rfl, by rw [blk_cell hT2]; rfl, by rw [blk_cell hT2]; rfl, by rw [blk_cell hT2]; rfl⟩; have HA := Lib.hid (cur_add2 h2 (k := q) (m := true) HNL2.out); have HT2 := Lib.hid hT2; clear h2 hpf2 hT2)
          | (go_at_call 51; (with_reducible refine HA.out.mono ?_); rintro e W3 ⟨⟨v3, kv3, rfl, h3⟩, hk3⟩; have hT3 := (hk3 W.heap.size (blk_lt HT2.out) HTK.out.2.2.2.2.1 HTK.out.2.2.2.2.2).trans HT2.out; have z2 : W3.cell? ⟨W.heap.size, 1, none⟩ = some (.int .u8 2) ∧ W3.cell? ⟨W.heap.size, 2, none⟩ = some (.int .u8 (c.toNat : Int)) ∧ W3.cell? ⟨W.heap.size, 3, none⟩ = some (.int .u64 0) ∧ W3.cell? ⟨W.heap.size, 4, none⟩ = some (.int .u64 0) ∧ W3.cell? ⟨W.heap.size, 5, none⟩ = some (.int .u64 0) ∧ W3.cell? ⟨W.heap.size, 6, none⟩ = some (.int .u64 0) ∧ W3.cell? ⟨W.heap.size, 7, none⟩ = some (.int .i64 0) ∧ W3.cell? ⟨W.heap.size, 8, none⟩ = some (.int .i64 0) ∧ W3.cell? ⟨W.heap.size, 9, none⟩ = some (.bool false) ∧ W3.cell? ⟨W.heap.size, 10, none⟩ = some (.int .i64 0) ∧ W3.cell? ⟨W.heap.size, 11, none⟩ = some (.slice none 0 0) := ⟨by rw [blk_cell hT3]; rfl, by rw [blk_cell hT3]; rfl, by rw [blk_cell hT3]; rfl, by rw [blk_cell hT3]; rfl, by rw [blk_cell hT3]; rfl, by rw [blk_cell hT3]; rfl, by rw [blk_cell hT3]; rfl, by rw [blk_cell hT3]; rfl, by rw [blk_cell hT3]; rfl, by rw [blk_cell hT3]; rfl, by rw [blk_cell hT3]; rfl⟩; have H3 := Lib.hid h3; clear h3 hk3 hT3))
        all_goals
          go_wp2
          refine ⟨⟨n, Pp.addN ⟨(r1, bn), ks, may⟩ (Pp.lit c) true, ⟨v3, kv3, N1 ++ [(Pp.lit c, .slice none 0 0)], ?_, by rw [← List.append_assoc, List.map_append, HNL.out.2.2]; rfl⟩, HBL.out⟩, ?_⟩
          · have hql : bn.length = q := by rw [← HNL.out.2.2, ← HQ.out]; simp
            show Cur w W3 G w.heap.size s last r1 v v3 kv3 L (N1 ++ [(Pp.lit c, .slice none 0 0)]) (ks ++ [bn.length]) true
            rw [hql]
            exact H3.out
          · rw [H3.out.rd.box.posOf, HNL.out.2.1]
            have := HPP.out
            omega
end
end Go.Proofs.YtjdlbejmdjcajaaGreat
