/- pat.Sound: sound: walked. -/
import Derived.Test.YtjdlbejmdjcajaaGreatPsC
set_option linter.unusedVariables false
set_option linter.unusedSimpArgs false
namespace Go.Proofs.YtjdlbejmdjcajaaGreat
open Go.RowKit Go.Shelf Go.Maps Go.Proofs.YtjdlbejmdjcajaaGreatW.PrintWords Go.Proofs.YtjdlbejmdjcajaaGreatW.PrintLast

def SoundPost (w : World) (Wk Sb : Nat) (v : Value) (root g cs : Int) (L : List Pp.Nk) (r : Bool × List Bool) (e : Ending) (w' : World) : Prop :=
  e = .returned (.bool r.1) ∧ w.grownBy w' (some Sb) ∧ (r.1 = true → WkM w' Wk Sb v root g cs L r.2)
/-- no Many holds a row of bytes -/
def NoCat (L : List Pp.Nk) : Prop := ∀ x ∈ L, x.1.op = 7 → ∀ y, Pp.nodeAt L (x.2.headD 0) = some y → y.1.op ≠ 5
set_option maxRecDepth 100000 in
set_option maxHeartbeats 8000000 in
theorem sound_any {Wk Sb : Nat} {v : Value} {root g cs : Int} {L : List Pp.Nk} (hL : L.length ≤ 100000) (hnc : NoCat L) : ∀ (f : Nat) (k : Int) (sn : List Bool) (r : Bool × List Bool) (w : World), WkM w Wk Sb v root g cs L sn → Pp.soundP L g f k sn = some r →
    Calls Tryz.prog 30 #[.pointer (some ⟨Wk, 0, none⟩), .int .i64 k] w (SoundPost w Wk Sb v root g cs L r)
  | 0, k, sn, r, w, hw, hr => by cases hr
  | f + 1, k, sn, r, w, hw, hr => by
    have REC := Lib.hid (sound_any (Wk := Wk) (Sb := Sb) (v := v) (root := root) (g := g) (cs := cs) hL hnc f)
    obtain ⟨c0, c2, c4⟩ := hw.cells
    obtain ⟨A0, cap0, rfl, hcap⟩ := hw.ns.slice
    unfold Pp.soundP at hr
    cases hx : Pp.nodeAt L k with
    | none =>
      rw [hx] at hr
      obtain rfl := Option.some.inj hr
      by_cases hk : k < 0
      · clear hr hx hcap
        go_enter Tryz.func30, Tryz.ntmps30
        go_wp2
        go_ret
        exact ⟨rfl, pgrown_below (Below.refl _ _), fun e => by cases e⟩
      · have hge : (L.length : Int) ≤ k := by
          unfold Pp.nodeAt at hx
          rw [if_neg hk] at hx
          have := List.getElem?_eq_none_iff.1 hx
          omega
        clear hr hx hcap
        go_enter Tryz.func30, Tryz.ntmps30
        go_wp2
        go_ret
        exact ⟨rfl, pgrown_below (Below.refl _ _), fun e => by cases e⟩
    | some x =>
      rw [hx] at hr
      obtain ⟨b, o, c, m, A, n, cp, hv, hc, hF, hb, rfl, hm, hkI, hn, hcell⟩ := hw.ns.node hx
      injection hv with e1 e2 e3
      subst e1 e3
      have hk0 : ¬ ((m : Int) < 0) := by omega
      have hk1 : ¬ ((L.length : Int) ≤ (m : Int)) := by omega
      have hk2 : (0 : Int) ≤ (m : Int) ∧ (m : Int) < (L.length : Int) := by omega
      have i1 : (0 : Int) ≤ (m : Int) := by omega
      have i2 : (m : Int) < (L.length : Int) := by omega
      have cb := hw.bit hm
      rw [show (m : Int).toNat = m by omega] at hr
      cases hs : sn.getD m true with
      | true =>
        rw [hs] at cb
        simp only [hs, if_true] at hr
        obtain rfl := Option.some.inj hr
        clear hr hx hcap hcell hkI
        go_enter Tryz.func30, Tryz.ntmps30
        go_wp2
        go_ret
        exact ⟨rfl, pgrown_below (Below.refl _ _), fun e => by cases e⟩
      | false =>
        rw [hs] at cb
        simp only [hs, Bool.false_eq_true, if_false] at hr
        have hw1 := hw.mark m
        have fz := blk_frozen hw.seen m
        have HW := Lib.hid (And.intro hw hw1)
        have HX := Lib.hid (And.intro hx (And.intro hr hn))
        have hne : b ≠ Sb := hF
        have d0 : (w.setCell ⟨Sb, m, none⟩ (.bool true)).cell? ⟨Wk, 0, none⟩ = _ := sfar c0 hw.ne
        have d2 : (w.setCell ⟨Sb, m, none⟩ (.bool true)).cell? ⟨Wk, 2, none⟩ = _ := sfar c2 hw.ne
        have n0 : (w.setCell ⟨Sb, m, none⟩ (.bool true)).cell? ⟨b, o + m * 11, none⟩ = _ := sfar (hcell 0 _ rfl) hne
        have n1 : (w.setCell ⟨Sb, m, none⟩ (.bool true)).cell? ⟨b, o + m * 11 + 1, none⟩ = _ := sfar (hcell 1 _ rfl) hne
        have n2 : (w.setCell ⟨Sb, m, none⟩ (.bool true)).cell? ⟨b, o + m * 11 + 2, none⟩ = _ := sfar (hcell 2 _ rfl) hne
        have n3 : (w.setCell ⟨Sb, m, none⟩ (.bool true)).cell? ⟨b, o + m * 11 + 3, none⟩ = _ := sfar (hcell 3 _ rfl) hne
        have n4 : (w.setCell ⟨Sb, m, none⟩ (.bool true)).cell? ⟨b, o + m * 11 + 4, none⟩ = _ := sfar (hcell 4 _ rfl) hne
        have n5 : (w.setCell ⟨Sb, m, none⟩ (.bool true)).cell? ⟨b, o + m * 11 + 5, none⟩ = _ := sfar (hcell 5 _ rfl) hne
        have n6 : (w.setCell ⟨Sb, m, none⟩ (.bool true)).cell? ⟨b, o + m * 11 + 6, none⟩ = _ := sfar (hcell 6 _ rfl) hne
        have n7 : (w.setCell ⟨Sb, m, none⟩ (.bool true)).cell? ⟨b, o + m * 11 + 7, none⟩ = _ := sfar (hcell 7 _ rfl) hne
        have n8 : (w.setCell ⟨Sb, m, none⟩ (.bool true)).cell? ⟨b, o + m * 11 + 8, none⟩ = _ := sfar (hcell 8 _ rfl) hne
        have n9 : (w.setCell ⟨Sb, m, none⟩ (.bool true)).cell? ⟨b, o + m * 11 + 9, none⟩ = _ := sfar (hcell 9 _ rfl) hne
        have n10 : (w.setCell ⟨Sb, m, none⟩ (.bool true)).cell? ⟨b, o + m * 11 + 10, none⟩ = _ := sfar (hcell 10 _ rfl) hne
        have hKI := Lib.hid hkI
        have hnm : n ≤ 9223372036854775807 := by
          obtain ⟨_, _, e', g2, g3, _⟩ := hkI
          injection e' with e1 e2 e3
          have : maxLen ≤ 9223372036854775807 := by decide
          omega
        have HK := Lib.hid (kids_any x.1 x.2 A cp)
        have HF := Lib.hid (fine_any x.1 (.slice A n cp) Wk g)
        unfold ndV at HK HF
        rw [← hn] at HK
        have hXa := below_alloc (Below.refl (w.setCell ⟨Sb, m, none⟩ (.bool true)).heap.size (w.setCell ⟨Sb, m, none⟩ (.bool true))) (.cells #[.int .u8 x.1.op, .int .u8 x.1.c, .int .u64 x.1.s0, .int .u64 x.1.s1, .int .u64 x.1.s2, .int .u64 x.1.s3, .int .i64 x.1.mn, .int .i64 x.1.mx, .bool x.1.lz, .int .i64 x.1.n, .slice A n cp] 35)
        have hXn := alloc_at (w.setCell ⟨Sb, m, none⟩ (.bool true)) (.cells #[.int .u8 x.1.op, .int .u8 x.1.c, .int .u64 x.1.s0, .int .u64 x.1.s1, .int .u64 x.1.s2, .int .u64 x.1.s3, .int .i64 x.1.mn, .int .i64 x.1.mx, .bool x.1.lz, .int .i64 x.1.n, .slice A n cp] 35)
        have hXw := hw1.far hXa
        have hXg := pgrown_then (G := Sb) (pgrown_set (pgrown_below (Below.refl w.heap.size w)) (p := ⟨Sb, m, none⟩) (.inl rfl) (.bool true)) (hXa.mono (by simp [World.setCell]))
        have hsz : (w.setCell ⟨Sb, m, none⟩ (.bool true)).heap.size = w.heap.size := by simp [World.setCell]
        rw [hsz] at hXn hXa
        clear hr hx hcap hcell hw hw1 hn hkI
        go_enter Tryz.func30, Tryz.ntmps30
        go_wp2_with fail
        obtain ⟨X, hX⟩ : ∃ X, (w.setCell ⟨Sb, m, none⟩ (.bool true)).alloc (.cells #[.int .u8 x.1.op, .int .u8 x.1.c, .int .u64 x.1.s0, .int .u64 x.1.s1, .int .u64 x.1.s2, .int .u64 x.1.s3, .int .i64 x.1.mn, .int .i64 x.1.mx, .bool x.1.lz, .int .i64 x.1.n, .slice A n cp] 35) = X := ⟨_, rfl⟩
        rw [hX] at hXa hXn hXw hXg ⊢
        clear hX n0 n1 n2 n3 n4 n5 n6 n7 n8 n9 n10 d0 d2 fz
        refine (HK.out _).mono ?_
        rintro e w2 ⟨rfl, hb2⟩
        have h2w := hXw.far hb2
        have h2n := (hb2.block _ (blk_lt hXn)).trans hXn
        have h2g := pgrown_then hXg (hb2.mono hXg.size)
        clear hXa hXn hXw hXg hb2
        cases hkp : Pp.kidsP x.1 x.2 with
        | false =>
          have hr := HX.out.2.1
          rw [hkp, Bool.false_and, if_pos rfl] at hr
          obtain rfl := Option.some.inj hr
          have H2 := Lib.hid h2g
          clear hr h2w h2n h2g
          go_wp2
          go_ret
          exact ⟨rfl, H2.out, fun e => by cases e⟩
        | true =>
        obtain ⟨e0, e1, e2, e3, e4, e5, e6, e7, e8, e9, e10⟩ := node_cells h2n
        have g2 := h2w.cells.2.1
        have HF2 := Lib.hid (HF.out w2 rfl g2 (blk_lt h2w.box))
        have H2 := Lib.hid (And.intro h2w (And.intro h2n h2g))
        clear h2w h2n h2g
        go_wp2_with fail
        refine HF2.out.mono ?_
        rintro e w3 ⟨rfl, hb3⟩
        have h3w := H2.out.1.far hb3
        have h3n := (hb3.block _ (blk_lt H2.out.2.1)).trans H2.out.2.1
        have h3g := pgrown_then H2.out.2.2 (hb3.mono H2.out.2.2.size)
        clear hb3 e0 e1 e2 e3 e4 e5 e6 e7 e8 e9 e10 g2
        cases hfp : Pp.fineP g x.1 with
        | false =>
          have hr := HX.out.2.1
          rw [hfp, Bool.and_false, if_pos rfl] at hr
          obtain rfl := Option.some.inj hr
          have H3 := Lib.hid h3g
          clear hr h3w h3n h3g
          go_wp2
          go_ret
          exact ⟨rfl, H3.out, fun e => by cases e⟩
        | true =>
        have hr := HX.out.2.1
        rw [hkp, hfp, Bool.true_and, if_neg (by decide)] at hr
        obtain ⟨e0, e1, e2, e3, e4, e5, e6, e7, e8, e9, e10⟩ := node_cells h3n
        have H3 := Lib.hid (And.intro h3w (And.intro h3n h3g))
        have HR := Lib.hid hr
        clear hr h3w h3n h3g
        go_wp2
        have HE := H3.out.1
        go_loopw [55] (fun v55 wr => ∃ (j : Nat) (snj : List Bool), v55 = .int .i64 j ∧ j ≤ n ∧ WkM wr Wk Sb (.slice (some ⟨b, o, none⟩) L.length cap0) root g cs L snj ∧ w.grownBy wr (some Sb) ∧ wr.heap[w.heap.size]? = some (.cells #[.int .u8 x.1.op, .int .u8 x.1.c, .int .u64 x.1.s0, .int .u64 x.1.s1, .int .u64 x.1.s2, .int .u64 x.1.s3, .int .i64 x.1.mn, .int .i64 x.1.mx, .bool x.1.lz, .int .i64 x.1.n, .slice A n cp] 35 (0, 0)) ∧ Pp.soundAll (Pp.soundP L g f) (x.2.drop j) snj = Pp.soundAll (Pp.soundP L g f) x.2 (sn.set m true)) (fun v55 _ => n - (intOf v55).toNat)
        case atStart => exact ⟨0, sn.set m true, rfl, Nat.zero_le _, HE, H3.out.2.2, H3.out.2.1, rfl⟩
        case round =>
          clear e0 e1 e2 e3 e4 e5 e6 e7 e8 e9 e10
          obtain ⟨j, snj, rfl, hj, hwr, hgr, hxr, hall⟩ := hrel
          by_cases hjn : j < n
          · obtain ⟨q, hq⟩ : ∃ q, x.2[j]? = some q := ⟨_, List.getElem?_eq_getElem (by rw [← HX.out.2.2]; exact hjn)⟩
            have hdrop : x.2.drop j = q :: x.2.drop (j + 1) := by
              obtain ⟨h1, h2⟩ := List.getElem?_eq_some_iff.1 hq
              rw [List.drop_eq_getElem_cons h1, h2]
            have hkc : ∃ bk ok, A = some ⟨bk, ok, none⟩ ∧ n ≤ cp ∧ wr.cell? ⟨bk, ok + j, none⟩ = some (.int .i64 q) := by
              obtain ⟨A', c', e', g2, _, h4⟩ := hKI.out
              injection e' with e1 e2 e3
              subst e1 e3
              obtain ⟨bk, ok, e6, hF6, hl6, hc6⟩ := h4 (by rw [← e2]; omega)
              exact ⟨bk, ok, e6, by omega, (World.cell?_of_block (a := ⟨bk, ok + j, none⟩) (hgr.block bk hl6 (fun e => hF6 (Option.some.inj e)))).trans (hc6 j q hq)⟩
            obtain ⟨bk, ok, rfl, hcp, kc⟩ := hkc
            rw [hdrop] at hall
            replace hall : (match Pp.soundP L g f q snj with | none => none | some (false, sn1) => some (false, sn1) | some (true, sn1) => Pp.soundAll (Pp.soundP L g f) (x.2.drop (j + 1)) sn1) = Pp.soundAll (Pp.soundP L g f) x.2 (sn.set m true) := hall
            have i1 : (0 : Int) ≤ (j : Int) := by omega
            have i2 : (j : Int) < (n : Int) := by omega
            cases hrec : Pp.soundP L g f q snj with
            | none =>
              rw [hrec] at hall
              have h9 := HR.out
              rw [← hall] at h9
              cases h9
            | some bq =>
              obtain ⟨bq, sq⟩ := bq
              rw [hrec] at hall
              have HC := Lib.hid (REC.out q snj _ _ hwr hrec)
              have HG := Lib.hid (And.intro hgr (And.intro hxr hall))
              have hXl : w.heap.size < wr.heap.size := blk_lt hxr
              have hSl : Sb < w.heap.size := blk_lt HW.out.1.seen
              have HL := Lib.hid (And.intro hXl hSl)
              clear hwr hrec hgr hxr hall hdrop hq hXl hSl
              go_wp2_with fail
              refine HC.out.mono ?_
              rintro e w5 ⟨rfl, hg5, hw5⟩
              cases bq with
              | false =>
                have hr := HR.out
                rw [← HG.out.2.2] at hr
                obtain rfl := Option.some.inj hr
                have H5 := Lib.hid (pgrown_trans HG.out.1 hg5)
                clear hr hg5 hw5
                go_wp2
                go_ret
                exact ⟨rfl, H5.out, fun e => by cases e⟩
              | true =>
                have H5 := Lib.hid (And.intro (pgrown_trans HG.out.1 hg5) (And.intro (hw5 rfl) ((hg5.block w.heap.size HL.out.1 (fun e => by have := Option.some.inj e; have := HL.out.2; omega)).trans HG.out.2.1)))
                clear hg5 hw5
                go_wp2
                go_roundw
                case rel => exact ⟨j + 1, sq, by go_num, by omega, H5.out.2.1, H5.out.1, H5.out.2.2, HG.out.2.2⟩
                case measure => simp [intOf]; omega
          · obtain rfl : j = n := by omega
            have hall2 : Pp.soundAll (Pp.soundP L g f) x.2 (sn.set m true) = some (true, snj) := by
              rw [← hall, HX.out.2.2, List.drop_length]
              rfl
            have hr := HR.out
            rw [hall2] at hr
            obtain ⟨e0, e1, e2, e3, e4, e5, e6, e7, e8, e9, e10⟩ := node_cells hxr
            simp only at hr
            by_cases h7 : x.1.op = 7
            · rw [if_pos h7] at hr
              have hl1 : x.2.length = 1 := by
                have h9 := hkp
                unfold Pp.kidsP at h9
                rw [if_pos (.inl h7)] at h9
                simpa using h9
              obtain ⟨q, hq⟩ : ∃ q, x.2 = [q] := List.length_eq_one_iff.1 hl1
              rw [hq, List.headD_cons] at hr
              cases hy : Pp.nodeAt L q with
              | none => rw [hy] at hr; cases hr
              | some y =>
              rw [hy] at hr
              obtain rfl := Option.some.inj hr
              obtain ⟨b', o', c', my, Ay, ny, cy, hv', hc', hF', hb', rfl, hmy, hkY, hny, hcy⟩ := hwr.ns.node hy
              injection hv' with e1' e2' e3'
              injection e1' with e1'
              injection e1' with e4' e5'
              subst e4' e5' e3'
              have hkc : ∃ bk ok, A = some ⟨bk, ok, none⟩ ∧ 1 ≤ cp ∧ wr.cell? ⟨bk, ok, none⟩ = some (.int .i64 (my : Int)) := by
                obtain ⟨A', c', e', g2, _, h4⟩ := hKI.out
                injection e' with e1 e2 e3
                subst e1 e3
                obtain ⟨bk, ok, e6, hF6, hl6, hc6⟩ := h4 (by omega)
                exact ⟨bk, ok, e6, by omega, (World.cell?_of_block (a := ⟨bk, ok, none⟩) (hgr.block bk hl6 (fun e => hF6 (Option.some.inj e)))).trans (hc6 0 my (by rw [hq]; rfl))⟩
              obtain ⟨bk, ok, rfl, hcp, kc⟩ := hkc
              have y0 : wr.cell? ⟨b, o + my * 11, none⟩ = _ := hcy 0 _ rfl
              have y1 := hcy 1 _ rfl
              have y2 := hcy 2 _ rfl
              have y3 := hcy 3 _ rfl
              have y4 := hcy 4 _ rfl
              have y5 := hcy 5 _ rfl
              have y6 := hcy 6 _ rfl
              have y7 := hcy 7 _ rfl
              have y8 := hcy 8 _ rfl
              have y9 := hcy 9 _ rfl
              have y10 := hcy 10 _ rfl
              have w0 := hwr.cells.1
              have h5 : y.1.op ≠ 5 := hnc x (by
                have := HX.out.1
                unfold Pp.nodeAt at this
                rw [if_neg (by omega)] at this
                exact List.mem_of_getElem? this) h7 y (by rw [hq]; exact hy)
              have HS := Lib.hid (fun W => single_any y.1 (.slice Ay ny cy) Wk W rfl h5 L y.2)
              unfold ndV at HS
              rw [h7] at e0
              have j1 : (0 : Int) ≤ (my : Int) := by omega
              have j2 : (my : Int) < (L.length : Int) := by omega
              have hn1 : j = 1 := by have := HX.out.2.2; omega
              have HG := Lib.hid (And.intro hgr hwr)
              have HN := Lib.hid hn1
              have hn2 : (0 : Int) < (j : Int) := by omega
              have hn3 : 0 < j := by omega
              clear hr hall hall2 hwr hgr hxr hcy hkY hny hl1 hy hn1 hq h5
              go_wp2
              go_still_tail 16, (by kernel_rfl)
              go_wp2_with fail
              refine (HS.out _).mono ?_
              rintro e w5 ⟨rfl, hb5⟩
              have H5 := Lib.hid (And.intro (pgrown_then HG.out.1 ((Below.refl _ _).drew.trans (hb5.mono (show w.heap.size ≤ wr.drew.heap.size from HG.out.1.size)))) (HG.out.2.far ((Below.refl _ _).drew.trans hb5)))
              clear hb5
              go_wp2
              go_ret
              exact ⟨rfl, H5.out.1, fun _ => H5.out.2⟩
            · rw [if_neg h7] at hr
              obtain rfl := Option.some.inj hr
              have b7 : (x.1.op == 7) = false := beq_eq_false_iff_ne.2 h7
              have b7' : (x.1.op != 7) = true := by simp [bne, b7]
              have HG := Lib.hid (And.intro hgr hwr)
              clear hr hall hall2 hwr hgr hxr
              go_wp2
              go_region
              go_wp2
              go_ret
              exact ⟨by simp [b7'], pgrown_then HG.out.1 (Below.refl _ _).drew, fun _ => HG.out.2.far (Below.refl _ _).drew⟩
end Go.Proofs.YtjdlbejmdjcajaaGreat
