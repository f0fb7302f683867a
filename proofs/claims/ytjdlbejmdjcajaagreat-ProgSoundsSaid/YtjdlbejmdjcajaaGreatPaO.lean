/- pat's branches: walked. -/
import Derived.Test.YtjdlbejmdjcajaaGreatPaN
set_option linter.unusedVariables false
set_option linter.unusedSimpArgs false
namespace Go.Proofs.YtjdlbejmdjcajaaGreat
open Go.RowKit Go.Shelf Go.Maps Go.Proofs.YtjdlbejmdjcajaaGreatW.PrintWords Go.Proofs.YtjdlbejmdjcajaaGreatW.PrintLast

theorem field_sgn (a b c d e f g h i k l m : Value) (z : Value) (W : World) : (Instr.field 91 (.agg #[a, b, c, d, e, f, g, h, i, k, l, m, z]) 0).run Tryz.prog W = .ok a W := by kernel_rfl
section
variable {w w' : World} {G : Nat} {s last : ByteArray} {r : Pp.Rs} {v v1 : Value} {L N : List (Pp.Nd × Value)}
theorem CurA.start (h : Rdr w G s last r v L) {r1 : Pp.Rs} {w1 : World} (h1 : Rdr w1 G s last r1 v1 (L ++ N)) (hp : Pf w w1 G v v1) (hN : ∀ x ∈ N, Is w1 (fun b => w.heap.size ≤ b ∧ b ≠ G ∧ v1.ownBlock ≠ some b) x.2 x.1.kids) (k : Nat) :
    CurA w (w1.alloc (.cells #[.int .i64 (k : Int)] 3)) G s last r1 v v1 (.slice (some ⟨w1.heap.size, 0, none⟩) 1 1) L N [k] := by
  have hG := blk_lt h1.box
  have hvl := own_lt h1.row
  have h0 : CurA w w1 G s last r1 v v1 (.slice none 0 0) L N [] := ⟨h1, ⟨rfl, .inl ⟨rfl, rfl⟩⟩, hp, fun b e => by simp [Value.ownBlock] at e, fun x hx => (hN x hx).wide fun b hF _ => ⟨hF.1, hF.2.1, hF.2.2, by simp [Value.ownBlock]⟩, h.kids, blk_lt h.box, own_lt h.row⟩
  have hb := below_alloc (Below.refl w1.heap.size w1) (.cells #[.int .i64 (k : Int)] 3)
  refine h0.app ⟨rfl, .inr ⟨w1.heap.size, 1, #[.int .i64 (k : Int)], rfl, Nat.zero_le _, alloc_at w1 _, Nat.le_refl _, by decide, rfl, rfl⟩⟩ (pgrown_below hb) (.inr rfl)
set_option maxRecDepth 100000 in
set_option maxHeartbeats 8000000 in
theorem branches_any {sgn : UInt8 → Nat → Pp.Br → Pp.Res Pp.Br} (hs : SignOk sgn G s last) (h : Rdr w G s last r v L) {within : Bool} {k k1 : Nat} {r1 r' : Pp.R} {n0 n1 : Nat} (hb : Pp.branchL sgn s.data.toList within n0 ⟨(r, L.map Prod.fst), [], false⟩ = some (.ok (k1, r1))) (hb2 : Pp.branchesL sgn s.data.toList within n1 [k1] r1 = some (.ok (k, r'))) (hsz : s.size ≤ 10000) :
    Calls Tryz.prog 25 #[.pointer (some ⟨G, 0, none⟩), .bool within] w (BrPost w G s last v L k r') := by
  have HBR := Lib.hid (branch_any hs h hb hsz)
  have HE := Lib.hid (Pp.branchL_end hb)
  have HS := Lib.hid hs
  have HB2 := Lib.hid hb2
  have HSZ := Lib.hid hsz
  have HH := Lib.hid h
  obtain ⟨i0, hi0, hz0, hz1, hz2⟩ := info_parts infoI64
  have HINF := Lib.hid (And.intro hi0 (And.intro hz0 (And.intro hz1 hz2)))
  clear hi0 hz0 hz1 hz2
  clear hs h hb hb2 hsz
  go_enter Tryz.func25, Tryz.ntmps25
  go_wp2_with fail
  refine HBR.out.mono ?_
  rintro e w1 ⟨v1, N, rfl, h1, hp1, hm1, hN1⟩
  have HC := Lib.hid (And.intro (CurA.start HH.out h1 hp1 hN1 k1) hm1)
  clear h1 hp1 hm1 hN1
  go_wp2
  go_loopw [5, 6] (fun v5 v6 wr => ∃ (n : Nat) (ks : List Nat) (rr : Pp.Rs) (v2 : Value) (N2 : List (Pp.Nd × Value)) (bn : List Pp.Nd), CurA w wr G s last rr v v2 v5 L N2 ks ∧ (L ++ N2).map Prod.fst = bn ∧ Pp.branchesL sgn s.data.toList within n ks (rr, bn) = some (.ok (k, r')) ∧ ks.length ≤ rr.pos + 1 ∧ rr.pos ≤ 50000 ∧ bn.length ≤ 50001) (fun _ _ wr => s.size + 1 - posOf G wr)
  case atStart => exact ⟨n1, [k1], r1.1, v1, N, r1.2, HC.out.1, HC.out.2, HB2.out, by simp, HE.out.2.1, HE.out.2.2⟩
  case round =>
    obtain ⟨n, ks, rr, v2, N2, bn, hc, hm, hbl, hl1, hl2, hl3⟩ := hrel
    obtain ⟨A, c, rfl⟩ := int_slice hc.row
    have hnl : (L ++ N2).length ≤ 100000 := by
      have : (L ++ N2).length = bn.length := by rw [← hm]; simp
      omega
    have hpos := hc.rd.box.posOf
    obtain ⟨_, _, c2, c4, _, _⟩ := hc.rd.box.cells
    cases n with
    | zero => cases hbl
    | succ n =>
    unfold Pp.branchesL at hbl
    by_cases hend : s.data.toList.length ≤ rr.pos
    · simp only [if_pos hend] at hbl
      have hge : ¬ ((rr.pos : Int) < (s.size : Int)) := by
        have : s.data.toList.length = s.size := by simp
        omega
      have HR := Lib.hid ((hc.below (Below.refl _ _).drew).done hm (Except.ok.inj (Option.some.inj hbl)) hnl)
      obtain ⟨q, hq⟩ : ∃ q, ks.length = q := ⟨_, rfl⟩
      rw [hq] at HR ⊢
      clear hc hm hbl hnl hpos hend hl1 hl2 hl3 hq
      go_wp2
      go_region_held3 (fun V => V.cell? ⟨G, 2, none⟩ = some (.string s) ∧ V.cell? ⟨G, 4, none⟩ = some (.int .i64 rr.pos)) (first | exact ⟨c2, c4⟩ | go_keep) (fail)
      go_wp2_with fail
      refine HR.out.mono ?_
      rintro e w1 ⟨v', N', rfl, h1⟩
      have H1 := Lib.hid h1
      clear h1
      go_wp2
      go_ret
      exact ⟨v', N', rfl, H1.out⟩
    · simp only [if_neg hend] at hbl
      have hlt : (rr.pos : Int) < (s.size : Int) := by
        have : s.data.toList.length = s.size := by simp
        omega
      cases hnx : Pp.nextP s.data.toList rr with
      | none => rw [hnx] at hbl; cases hbl
      | some tr =>
      obtain ⟨t, r2⟩ := tr
      rw [hnx] at hbl
      simp only at hbl
      have hcX := hc.below (Below.refl _ _).drew
      have HNX := Lib.hid (show Calls Tryz.prog 38 #[.pointer (some ⟨G, 0, none⟩)] wr.drew fun e W => e = .returned (tkV t) ∧ CurA w W G s last r2 v v2 (.slice A ks.length c) L N2 ks from (next_any hcX.rd.box (by omega) hnx).mono fun e W h9 => ⟨h9.1, hcX.reads h9.2.1 h9.2.2⟩)
      by_cases ht : t = .sign 124
      · subst ht
        simp only [if_pos] at hbl
        cases hbr : Pp.branchL sgn s.data.toList within (s.data.toList.length + 1) ⟨(r2, bn), [], false⟩ with
        | none => rw [hbr] at hbl; cases hbl
        | some er =>
        cases er with
        | error er => rw [hbr] at hbl; cases hbl
        | ok kr =>
        obtain ⟨k2, r3⟩ := kr
        rw [hbr] at hbl
        simp only at hbl
        have HE2 := Lib.hid (Pp.branchL_end hbr)
        have HPP := Lib.hid (Pp.nextP_pos hnx)
        have HBR2 := Lib.hid fun W (hW : CurA w W G s last r2 v v2 (.slice A ks.length c) L N2 ks) => branch_any HS.out hW.rd (by rw [hm]; exact hbr) HSZ.out
        have HBL := Lib.hid hbl
        have HNL := Lib.hid (And.intro hpos (And.intro hl1 hm))
        have e124 : (((124 : UInt8).toNat : Nat) : Int) = 124 := rfl
        simp only [tkV, tokV, Pp.nd0, e124] at HNX
        obtain ⟨q, hq⟩ : ∃ q, ks.length = q := ⟨_, rfl⟩
        rw [hq] at HNX HBR2 ⊢
        have HQ := Lib.hid hq
        clear hc hm hbl hnl hpos hend hl1 hl2 hl3 hq hcX hnx hbr
        go_wp2
        go_region_held3 (fun V => V.cell? ⟨G, 2, none⟩ = some (.string s) ∧ V.cell? ⟨G, 4, none⟩ = some (.int .i64 rr.pos)) (first | exact ⟨c2, c4⟩ | go_keep) (fail)
        go_wp2_with fail
        refine HNX.out.mono ?_
        rintro e W ⟨rfl, hcw⟩
        have HW := Lib.hid hcw
        clear hcw
        have hfd := field_sgn (.int .u8 124) (.int .u8 0) (.int .u8 0) (.int .u64 0) (.int .u64 0) (.int .u64 0) (.int .u64 0) (.int .i64 0) (.int .i64 0) (.bool false) (.int .i64 0) (.slice none 0 0) (.bool false) W
        go_wp2_with fail
        refine (HBR2.out W HW.out).mono ?_
        rintro e W2 ⟨v3, N3, rfl, h3, hp3, hm3, hN3⟩
        have hcm := HW.out.more h3 hp3 hN3
        have hcb := hcm.below (below_alloc (Below.refl W2.heap.size W2) (.cells #[.int .i64 (k2 : Int)] 3))
        have hm4 : (L ++ (N2 ++ N3)).map Prod.fst = r3.2 := by rw [← List.append_assoc]; exact hm3
        have HROW := Lib.hid (And.intro hcb hm4)
        have hql : q ≤ 50001 := by have h1 := HNL.out.2.1; have h2 := HQ.out; have h3 := HPP.out; have h4 := HE2.out.1; have h5 := HE2.out.2.1; have h6 : r2.pos ≤ r3.1.pos := h4; omega
        have hrw := HROW.out.1.row
        rw [HQ.out] at hrw
        have HRR := Lib.hid hrw
        clear h3 hp3 hm3 hN3 hcm hcb hm4 hrw
        go_wp2_with (at_builtin; refine wpList_append_own_at _ rfl _ _ 33 rfl 0 3 i0 (.int .i64 0) 1 8 Tryz.underlying33 HINF.out.1 HINF.out.2.1 HINF.out.2.2.1 HINF.out.2.2.2 rfl (by decide) (.slice A q c) q (cN ks) rfl HRR.out ⟨W2.heap.size, 0, none⟩ 1 1 [.int .i64 (k2 : Int)] rfl rfl ?hcell ?hone (by unfold maxLen; omega) (by omega) (by omega) ?_; rotate_left 2; intro v9 w9 hr9 hg9 _ ha9; obtain ⟨A9, q9, hv9⟩ := int_slice hr9; subst hv9; have HN := Lib.hid (And.intro hr9 (And.intro hg9 ha9)); clear hr9 hg9 ha9)
        case hcell =>
          intro j u hu
          match j, hu with
          | 0, hu =>
            rw [← hu, Addr.add_lit]
            rw [blk_cell (alloc_at W2 _)]
            rfl
        case hone =>
          intro u hu
          obtain rfl : u = .int .i64 (k2 : Int) := by simpa using hu
          rfl
        have hr9 := HN.out.1
        have hro : w9.ownsRow 0 3 1 (.slice A9 (q + 1) q9) (ks ++ [k2]).length (cN (ks ++ [k2])) := by
          have e1 : (ks ++ [k2]).length = q + 1 := by simp [HQ.out]
          have e2 : cN (ks ++ [k2]) = cN ks ++ [.int .i64 (k2 : Int)] := by simp [cN]
          rw [e1, e2]
          exact hr9
        have hc9 := HROW.out.1.app hro HN.out.2.1 HN.out.2.2
        have hz : r2.pos ≤ r3.1.pos := HE2.out.1
        have hz2 := HPP.out
        refine ⟨⟨n, ks ++ [k2], r3.1, v3, N2 ++ N3, r3.2, hc9, HROW.out.2, HBL.out, ?_, HE2.out.2.1, HE2.out.2.2⟩, ?_⟩
        · have := HNL.out.2.1
          simp only [List.length_append, List.length_singleton]
          omega
        · rw [hc9.rd.box.posOf, HNL.out.1]
          omega
      · have hbl3 : some (Except.ok (Pp.rowP 6 ks ({ r2 with pos := rr.pos }, bn)) : Except (Int × Nat) (Nat × Pp.R)) = some (.ok (k, r')) := by
          cases t with
          | none => exact hbl
          | lit c => exact hbl
          | sign c =>
            simp only at hbl
            rw [if_neg (fun e => ht (by rw [e]))] at hbl
            exact hbl
        have x124 : (tkS t == 124) = false := by
          cases t with
          | none => rfl
          | lit c => rfl
          | sign c => exact beq_eq_false_iff_ne.2 fun e => ht (by rw [UInt8.toNat_inj.1 (show c.toNat = (124 : UInt8).toNat by simpa using Int.ofNat.inj e)])
        rw [tkV_eq] at HNX
        unfold tokV at HNX
        have HR := Lib.hid fun W (hW : CurA w W G s last { r2 with pos := rr.pos } v v2 (.slice A ks.length c) L N2 ks) => hW.done hm (Except.ok.inj (Option.some.inj hbl3)) hnl
        have HL2 := Lib.hid hl2
        obtain ⟨q, hq⟩ : ∃ q, ks.length = q := ⟨_, rfl⟩
        rw [hq] at HNX HR ⊢
        clear hc hm hbl hnl hpos hend hl1 hl2 hl3 hq hcX hnx hbl3
        go_wp2
        go_region_held3 (fun V => V.cell? ⟨G, 2, none⟩ = some (.string s) ∧ V.cell? ⟨G, 4, none⟩ = some (.int .i64 rr.pos)) (first | exact ⟨c2, c4⟩ | go_keep) (fail)
        go_wp2_with fail
        refine HNX.out.mono ?_
        rintro e W ⟨rfl, hcw⟩
        obtain ⟨d0, d1, d2, d4, d5, d6⟩ := hcw.rd.box.cells
        have f4 := blk_frozen hcw.rd.box 4
        have HW := Lib.hid hcw
        clear hcw
        have hfd := field_sgn (.int .u8 (tkS t)) (.int .u8 (tkD t).op) (.int .u8 (tkD t).c) (.int .u64 (tkD t).s0) (.int .u64 (tkD t).s1) (.int .u64 (tkD t).s2) (.int .u64 (tkD t).s3) (.int .i64 (tkD t).mn) (.int .i64 (tkD t).mx) (.bool (tkD t).lz) (.int .i64 (tkD t).n) (.slice none 0 0) (.bool (tkN t)) W
        have HP := Lib.hid (HW.out.reads (HW.out.rd.box.pos rr.pos rfl) (pgrown_set (pgrown_below (Below.refl W.heap.size W)) (p := ⟨G, 4, none⟩) (.inl rfl) (.int .i64 (rr.pos : Int))))
        have HRW := Lib.hid (HR.out _ HP.out)
        go_wp2_with fail
        refine HRW.out.mono ?_
        rintro e W1 ⟨v', N', rfl, h1⟩
        have H1 := Lib.hid h1
        clear h1
        go_wp2
        go_ret
        exact ⟨v', N', rfl, H1.out⟩
end
end Go.Proofs.YtjdlbejmdjcajaaGreat
