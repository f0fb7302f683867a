/- prog: node: walked. -/
import Derived.Test.YtjdlbejmdjcajaaGreatPcF
set_option linter.unusedVariables false
set_option linter.unusedSimpArgs false
namespace Go.Proofs.YtjdlbejmdjcajaaGreat
open Go.RowKit Go.Shelf Go.Maps Go.Proofs.YtjdlbejmdjcajaaGreatW.PrintWords Go.Proofs.YtjdlbejmdjcajaaGreatW.PrintLast

section
variable {rec : Int → Pp.Cd → Pp.Er Pp.Cd} (hm : RecLe rec)
include hm
theorem Pp.timesP_le {kid : Int} : ∀ (n : Nat) (c c' : Pp.Cd), Pp.timesP rec kid n c = .ok c' → c.1.length ≤ c'.1.length
  | 0, c, c', h => by cases h; exact Nat.le_refl _
  | n + 1, c, c', h => by
    unfold Pp.timesP at h
    split at h
    · cases h
    · rename_i c1 h1
      exact Nat.le_trans (hm _ _ _ h1) (Pp.timesP_le n _ _ h)
theorem Pp.roundsP_le {kid : Int} : ∀ (n : Nat) (ws : List Nat) (c : Pp.Cd) (r : List Nat × Pp.Cd), Pp.roundsP rec kid n ws c = .ok r → c.1.length ≤ r.2.1.length
  | 0, ws, c, r, h => by cases h; exact Nat.le_refl _
  | n + 1, ws, c, r, h => by
    unfold Pp.roundsP at h
    split at h
    · cases h
    · rename_i c1 h1
      exact Nat.le_trans (Nat.le_of_lt (Pp.roundP_le hm h1)) (Pp.roundsP_le n _ _ _ h)
theorem Pp.altsC_le : ∀ (ks : List Int) (js : List Nat) (c : Pp.Cd) (r : List Nat × Pp.Cd), Pp.altsC rec ks js c = .ok r → c.1.length ≤ r.2.1.length
  | [], js, c, r, h => by cases h; exact Nat.le_refl _
  | k :: ks, js, c, r, h => by
    unfold Pp.altsC at h
    split at h
    · cases h
    rename_i c1 h1
    split at h
    · cases h
    rename_i c2 h2
    split at h
    · cases h
    rename_i c3 h3
    have a1 := (Pp.layP_ok h1).1
    have a2 := hm _ _ _ h2
    have a3 := (Pp.layP_ok h3).1
    have a4 := Pp.altsC_le ks _ _ _ h
    subst a1 a3
    simp [Pp.wayP] at a2 a4 ⊢
    omega
theorem Pp.catC_le : ∀ (ks : List Int) (c c' : Pp.Cd), Pp.catC rec ks c = .ok c' → c.1.length ≤ c'.1.length
  | [], c, c', h => by cases h; exact Nat.le_refl _
  | k :: ks, c, c', h => by
    unfold Pp.catC at h
    split at h
    · cases h
    · rename_i c1 h1
      exact Nat.le_trans (hm _ _ _ h1) (Pp.catC_le ks _ _ h)
theorem Pp.manyC_le {d : Pp.Nd} {kid : Int} {c c' : Pp.Cd} (h : Pp.manyC rec d kid c = .ok c') : c.1.length ≤ c'.1.length := by
  unfold Pp.manyC at h
  split at h
  · cases h
  split at h
  · cases h
  rename_i c1 h1
  have a1 := Pp.timesP_le hm _ _ _ h1
  split at h
  · split at h
    · cases h
    rename_i c2 h2
    split at h
    · cases h
    rename_i c3 h3
    have a2 := Pp.roundP_le hm h2
    have a3 := (Pp.layP_ok h3).1
    cases h
    subst a3
    simp [Pp.wayP]
    omega
  · split at h
    · cases h
    rename_i ws c2 h2
    have a2 := Pp.roundsP_le hm _ _ _ _ h2
    cases h
    rw [Pp.waysP_len]
    exact Nat.le_trans a1 a2
end
theorem Pp.tosP_len : ∀ (ws : List Nat) (c : Pp.Cd), (Pp.tosP ws c).1.length = c.1.length
  | [], c => rfl
  | k :: ws, c => by
    unfold Pp.tosP
    rw [Pp.tosP_len ws]
    simp [Pp.toP]
theorem nodeC_le (L : List Pp.Nk) : ∀ f, RecLe (Pp.nodeC L f)
  | 0 => fun kid c c' h => by cases h
  | f + 1 => fun kid c c' h => by
    have hm := nodeC_le L f
    unfold Pp.nodeC at h
    split at h
    · cases h
    rename_i x hx
    split at h
    · cases h; exact Nat.le_refl _
    split at h
    · exact Pp.catC_le hm _ _ _ h
    split at h
    · split at h
      · cases h
      unfold Pp.altC at h
      split at h
      · cases h
      split at h
      · cases h
      rename_i js c1 h1
      split at h
      · cases h
      rename_i c2 h2
      cases h
      rw [Pp.tosP_len]
      exact Nat.le_trans (Pp.altsC_le hm _ _ _ _ h1) (hm _ _ _ h2)
    split at h
    · split at h
      · cases h
      · exact Pp.manyC_le hm h
    split at h
    · split at h
      · cases h
      split at h
      · cases h
      split at h
      · cases h
      rename_i c1 h1
      split at h
      · cases h
      rename_i c2 h2
      have a1 := (Pp.layP_ok h1).1
      have a2 := hm _ _ _ h2
      have a3 := (Pp.layP_ok h).1
      subst a1 a3
      simp at a2 ⊢
      omega
    · have a3 := (Pp.layP_ok h).1
      subst a3
      simp
set_option maxRecDepth 100000 in
set_option maxHeartbeats 8000000 in
theorem cnode_any (L : List Pp.Nk) (Wb : Nat) (nv : Value) : ∀ f, NodeOk (Pp.nodeC L f) L Wb nv
  | 0 => fun k c w cv h hne => absurd rfl hne
  | f + 1 => fun k c w cv h hne => by
    have hREC := cnode_any L Wb nv f
    have hle := nodeC_le L f
    obtain ⟨R, hR⟩ : ∃ R, Pp.nodeC L (f + 1) k c = R := ⟨_, rfl⟩
    rw [hR] at hne ⊢
    unfold Pp.nodeC at hR
    cases hx : Pp.nodeAt L k with
    | none => rw [hx] at hR; exact absurd hR.symm hne
    | some x =>
    rw [hx] at hR
    simp only at hR
    obtain ⟨b, o, cn, m, A, n, cp, rfl, hcn, hF, hb, rfl, hm, hkI, hn, hcell⟩ := h.ns.node hx
    obtain ⟨c0, c1, c2⟩ := h.cells
    have i1 : (0 : Int) ≤ (m : Int) := by omega
    have i2 : (m : Int) < (L.length : Int) := by omega
    have n0 : w.cell? ⟨b, o + m * 11, none⟩ = _ := hcell 0 _ rfl
    have n1 : w.cell? ⟨b, o + m * 11 + 1, none⟩ = _ := hcell 1 _ rfl
    have n2 : w.cell? ⟨b, o + m * 11 + 2, none⟩ = _ := hcell 2 _ rfl
    have n3 : w.cell? ⟨b, o + m * 11 + 3, none⟩ = _ := hcell 3 _ rfl
    have n4 : w.cell? ⟨b, o + m * 11 + 4, none⟩ = _ := hcell 4 _ rfl
    have n5 : w.cell? ⟨b, o + m * 11 + 5, none⟩ = _ := hcell 5 _ rfl
    have n6 : w.cell? ⟨b, o + m * 11 + 6, none⟩ = _ := hcell 6 _ rfl
    have n7 : w.cell? ⟨b, o + m * 11 + 7, none⟩ = _ := hcell 7 _ rfl
    have n8 : w.cell? ⟨b, o + m * 11 + 8, none⟩ = _ := hcell 8 _ rfl
    have n9 : w.cell? ⟨b, o + m * 11 + 9, none⟩ = _ := hcell 9 _ rfl
    have n10 : w.cell? ⟨b, o + m * 11 + 10, none⟩ = _ := hcell 10 _ rfl
    have hal := below_alloc (Below.refl w.heap.size w) (.cells #[.int .u8 x.1.op, .int .u8 x.1.c, .int .u64 x.1.s0, .int .u64 x.1.s1, .int .u64 x.1.s2, .int .u64 x.1.s3, .int .i64 x.1.mn, .int .i64 x.1.mx, .bool x.1.lz, .int .i64 x.1.n, .slice A n cp] 35)
    have hNB := alloc_at w (.cells #[.int .u8 x.1.op, .int .u8 x.1.c, .int .u64 x.1.s0, .int .u64 x.1.s1, .int .u64 x.1.s2, .int .u64 x.1.s3, .int .i64 x.1.mn, .int .i64 x.1.mx, .bool x.1.lz, .int .i64 x.1.n, .slice A n cp] 35)
    have hX := h.far hal
    have hpX := Pf.below (G := Wb) (v := cv) hal
    have hWl := blk_lt h.box
    have hol := iown_lt h.row
    have hN1 : w.heap.size ≠ Wb := by omega
    have hN2 : cv.ownBlock ≠ some w.heap.size := fun e => by have := hol _ e; omega
    have hkI2 : IsI (w.alloc (.cells #[.int .u8 x.1.op, .int .u8 x.1.c, .int .u64 x.1.s0, .int .u64 x.1.s1, .int .u64 x.1.s2, .int .u64 x.1.s3, .int .i64 x.1.mn, .int .i64 x.1.mx, .bool x.1.lz, .int .i64 x.1.n, .slice A n cp] 35)) (fun b => b ≠ Wb ∧ cv.ownBlock ≠ some b) (.slice A n cp) x.2 := hkI.step hal.size fun b hF hl => ⟨hal.block b hl, hF⟩
    obtain ⟨xd, ks⟩ := x
    simp only at hR n0 n1 n2 n3 n4 n5 n6 n7 n8 n9 n10 hal hNB hX hpX hkI2 hn
    subst hn
    have HREC := Lib.hid hREC
    have HX := Lib.hid (And.intro hX (And.intro hpX (And.intro hNB (And.intro hN1 (And.intro hN2 hkI2)))))
    clear hREC h hx hkI hcell hal hNB hX hpX hN1 hN2 hol hkI2
    obtain ⟨op, hop⟩ : ∃ op, xd.op = op := ⟨_, rfl⟩
    by_cases h1 : op = 1
    · subst h1
      rw [hop] at n0
      rw [if_pos hop] at hR
      subst hR
      clear hne
      go_enter Tryz.func18, Tryz.ntmps18
      go_wp2
      first | go_end0 | refine bodyPost_ret (results_none rfl _ _ _) rfl ?_
      have h9 := HX.out
      rw [hop] at h9
      exact ⟨cv, rfl, h9.1, h9.2.1⟩
    have HKF := Lib.hid (fun (W : World) (cvW : Value) (hp : Pf (w.alloc (.cells #[.int .u8 xd.op, .int .u8 xd.c, .int .u64 xd.s0, .int .u64 xd.s1, .int .u64 xd.s2, .int .u64 xd.s3, .int .i64 xd.mn, .int .i64 xd.mx, .bool xd.lz, .int .i64 xd.n, .slice A ks.length cp] 35)) W Wb cv cvW) (bk ok : Nat) (hA : A = some ⟨bk, ok, none⟩) (j : Nat) (q : Int) (hq : ks[j]? = some q) => (kid_at HX.out.2.2.2.2.2 (fun b hF hb => hp.block b hb hF.1 hF.2) (by rw [hA]) hq : W.cell? ⟨bk, ok + j, none⟩ = some (.int .i64 q)))
    have HAS := Lib.hid (show 0 < ks.length → ∃ bk ok, A = some ⟨bk, ok, none⟩ ∧ bk < (w.alloc (.cells #[.int .u8 xd.op, .int .u8 xd.c, .int .u64 xd.s0, .int .u64 xd.s1, .int .u64 xd.s2, .int .u64 xd.s3, .int .i64 xd.mn, .int .i64 xd.mx, .bool xd.lz, .int .i64 xd.n, .slice A ks.length cp] 35)).heap.size ∧ ks.length ≤ cp ∧ ks.length ≤ maxLen from fun h0 => by
      obtain ⟨A', c', e, g2, g3, h4⟩ := HX.out.2.2.2.2.2
      injection e with e1 e2 e3
      subst e1 e3
      obtain ⟨bk, ok, e, _, hl, _⟩ := h4 h0
      exact ⟨bk, ok, e, hl, g2, Nat.le_trans g2 g3⟩)
    by_cases h5 : op = 5
    · subst h5
      rw [if_neg (by rw [hop]; decide), if_pos hop] at hR
      rw [hop] at n0 HX HKF HAS
      have HR := Lib.hid hR
      have hnl : ks.length ≤ 9223372036854775807 := by
        by_cases h0 : 0 < ks.length
        · obtain ⟨_, _, _, _, _, h9⟩ := HAS.out h0
          exact Nat.le_trans h9 (by decide)
        · omega
      clear hR hop h1
      obtain ⟨nk, hnk⟩ : ∃ nk, ks.length = nk := ⟨_, rfl⟩
      rw [hnk] at n10 HX HKF hnl
      have HNK := Lib.hid hnk
      clear hnk
      go_enter Tryz.func18, Tryz.ntmps18
      go_wp2
      go_loopw [27] (fun v27 wr => ∃ (j : Nat) (cj : Pp.Cd) (cvj : Value), v27 = .int .i64 j ∧ j ≤ nk ∧ WrM wr Wb (.slice (some ⟨b, o, none⟩) L.length cn) cvj L cj ∧ Pf (w.alloc (.cells #[.int .u8 5, .int .u8 xd.c, .int .u64 xd.s0, .int .u64 xd.s1, .int .u64 xd.s2, .int .u64 xd.s3, .int .i64 xd.mn, .int .i64 xd.mx, .bool xd.lz, .int .i64 xd.n, .slice A nk cp] 35)) wr Wb cv cvj ∧ Pp.catC (Pp.nodeC L f) (ks.drop j) cj = Pp.catC (Pp.nodeC L f) ks c) (fun v27 _ => nk - (intOf v27).toNat)
      case atStart => exact ⟨0, c, cv, rfl, Nat.zero_le _, HX.out.1, Pf.refl _ _ _, rfl⟩
      case round =>
        obtain ⟨j, cj, cvj, rfl, hj, hwr, hpf, hT⟩ := hrel
        by_cases hjn : j < nk
        · obtain ⟨q0, hq0⟩ : ∃ q0, ks[j]? = some q0 := ⟨_, List.getElem?_eq_getElem (by rw [HNK.out]; exact hjn)⟩
          have hdrop : ks.drop j = q0 :: ks.drop (j + 1) := by
            obtain ⟨h1, h2⟩ := List.getElem?_eq_some_iff.1 hq0
            rw [List.drop_eq_getElem_cons h1, h2]
          obtain ⟨bk, ok, rfl, _, hcp, _⟩ := HAS.out (by rw [HNK.out]; omega)
          have kc := HKF.out wr cvj hpf bk ok rfl j q0 hq0
          have hcp2 : nk ≤ cp := by have := HNK.out; omega
          rw [hdrop] at hT
          replace hT : (match Pp.nodeC L f q0 cj with | .error e => .error e | .ok c1 => Pp.catC (Pp.nodeC L f) (ks.drop (j + 1)) c1) = Pp.catC (Pp.nodeC L f) ks c := hT
          have herr : ∀ b, Pp.catC (Pp.nodeC L f) ks c = .error b → R = .error b := fun b e => HR.out.symm.trans e
          have hnr : Pp.nodeC L f q0 cj ≠ .error false := fun e => by
            rw [e] at hT
            exact hne (herr _ hT.symm)
          have HN := Lib.hid (HREC.out q0 cj wr cvj hwr hnr)
          have HP := Lib.hid (And.intro hpf (And.intro herr hnr))
          have HT := Lib.hid hT
          have i3 : (0 : Int) ≤ (j : Int) := by omega
          have i4 : (j : Int) < (nk : Int) := by omega
          clear hwr hpf hT herr hnr hdrop hq0 hcp
          go_wp2_with fail
          refine HN.out.mono ?_
          intro e w3 hpo
          have hT := HT.out
          cases h3 : Pp.nodeC L f q0 cj with
          | error b =>
            rw [h3] at hT hpo
            cases b with
            | false => exact absurd h3 HP.out.2.2
            | true =>
              obtain rfl := HP.out.2.1 _ hT.symm
              obtain ⟨rfl, cv3, hp3⟩ := hpo
              exact ⟨rfl, rfl, cv3, (HX.out.2.1.trans HP.out.1).trans hp3⟩
          | ok c3 =>
          rw [h3] at hT hpo
          obtain ⟨cv3, rfl, hw3, hp3⟩ := hpo
          have H3 := Lib.hid (And.intro hw3 (HP.out.1.trans hp3))
          have HT2 := Lib.hid hT
          clear hw3 hp3 hT h3
          go_wp2
          go_roundw
          case rel => exact ⟨j + 1, c3, cv3, by go_num, by omega, H3.out.1, H3.out.2, HT2.out⟩
          case measure => simp [intOf]; omega
        · obtain rfl : j = nk := by omega
          rw [List.drop_of_length_le (by rw [HNK.out]; exact Nat.le_refl _)] at hT
          have hR := HR.out
          rw [← hT] at hR
          replace hR : (.ok cj : Pp.Er Pp.Cd) = R := hR
          subst hR
          have HZ := Lib.hid (And.intro hwr (HX.out.2.1.trans hpf))
          clear hwr hpf hT
          go_wp2
          first | go_end0 | refine bodyPost_ret (results_none rfl _ _ _) rfl ?_
          exact ⟨cvj, rfl, HZ.out.1, HZ.out.2⟩
    by_cases h6 : op = 6
    · subst h6
      rw [if_neg (by rw [hop]; decide), if_neg (by rw [hop]; decide), if_pos hop] at hR
      rw [hop] at n0 HX HKF HAS
      by_cases hk9 : 1000 < ks.length
      · rw [if_pos hk9] at hR
        exact absurd hR.symm hne
      rw [if_neg hk9] at hR
      have hk0 : 0 < ks.length := by
        rcases Nat.eq_zero_or_pos ks.length with h9 | h9
        · rw [List.length_eq_zero_iff] at h9
          subst h9
          exact absurd hR.symm hne
        · exact h9
      obtain ⟨bk, ok, rfl, _, _, _⟩ := HAS.out hk0
      have HAL := Lib.hid (alt_any HREC.out hle HX.out.1 HX.out.2.2.2.2.2 hk0 (by omega) hR hne)
      have HP := Lib.hid HX.out.2.1
      clear hR hop h1 h5
      go_enter Tryz.func18, Tryz.ntmps18
      go_wp2_with fail
      refine HAL.out.mono ?_
      intro e w3 hpo
      cases R with
      | error b =>
        cases b with
        | false => exact absurd rfl hne
        | true =>
          obtain ⟨rfl, cv3, hp3⟩ := hpo
          exact ⟨rfl, rfl, cv3, HP.out.trans hp3⟩
      | ok c3 =>
        obtain ⟨cv3, rfl, hw3, hp3⟩ := hpo
        have HZ := Lib.hid (And.intro hw3 (HP.out.trans hp3))
        clear hw3 hp3
        go_wp2
        first | go_end0 | refine bodyPost_ret (results_none rfl _ _ _) rfl ?_
        exact ⟨cv3, rfl, HZ.out.1, HZ.out.2⟩
    by_cases h7 : op = 7
    · subst h7
      rw [if_neg (by rw [hop]; decide), if_neg (by rw [hop]; decide), if_neg (by rw [hop]; decide), if_pos hop] at hR
      cases ks with
      | nil => exact absurd hR.symm hne
      | cons kid kt =>
      simp only at hR
      obtain ⟨bk, ok, rfl, hbl, hcp, _⟩ := HAS.out (by simp)
      have hkc := HKF.out _ cv (Pf.refl _ _ _) bk ok rfl 0 kid rfl
      rw [Nat.add_zero] at hkc
      have HM := Lib.hid (many_any HREC.out hle HX.out.1 xd kid hbl (by simp) hcp hkc hR hne)
      unfold ndV at HM
      have HP := Lib.hid HX.out.2.1
      rw [hop] at n0 HX HM HP
      clear hR hop h1 h5 h6 hkc
      go_enter Tryz.func18, Tryz.ntmps18
      go_wp2_with fail
      refine HM.out.mono ?_
      intro e w3 hpo
      cases R with
      | error b =>
        cases b with
        | false => exact absurd rfl hne
        | true =>
          obtain ⟨rfl, cv3, hp3⟩ := hpo
          exact ⟨rfl, rfl, cv3, HP.out.trans hp3⟩
      | ok c3 =>
        obtain ⟨cv3, rfl, hw3, hp3⟩ := hpo
        have HZ := Lib.hid (And.intro hw3 (HP.out.trans hp3))
        clear hw3 hp3
        go_wp2
        first | go_end0 | refine bodyPost_ret (results_none rfl _ _ _) rfl ?_
        exact ⟨cv3, rfl, HZ.out.1, HZ.out.2⟩
    by_cases h8 : op = 8
    · subst h8
      rw [if_neg (by rw [hop]; decide), if_neg (by rw [hop]; decide), if_neg (by rw [hop]; decide), if_neg (by rw [hop]; decide), if_pos hop] at hR
      cases ks with
      | nil => exact absurd hR.symm hne
      | cons kid kt =>
      simp only at hR
      by_cases hgn : xd.n < 0 ∨ 1000 < xd.n
      · rw [if_pos hgn] at hR
        exact absurd hR.symm hne
      rw [if_neg hgn] at hR
      have g1 : 0 ≤ xd.n := by omega
      have g2 : xd.n ≤ 1000 := by omega
      obtain ⟨bk, ok, rfl, hbl, hcp, _⟩ := HAS.out (by simp)
      have HL := Lib.hid (lay_any HX.out.1 { Pp.in0 with op := 6, x := 2 * xd.n })
      unfold inV inC at HL
      simp only [Pp.in0] at HL hR
      rw [hop] at n0 HX HKF HL
      have HR := Lib.hid hR
      have hcp1 : (kid :: kt).length ≤ cp := hcp
      have hk1 : 0 < (kid :: kt).length := by simp
      obtain ⟨nk, hnk⟩ : ∃ nk, (kid :: kt).length = nk := ⟨_, rfl⟩
      rw [hnk] at n10 HX HKF HL hcp1 hk1
      have hk2 : (0 : Int) < (nk : Int) := by omega
      clear hR hop h1 h5 h6 h7 hgn HAS hnk hcp
      go_enter Tryz.func18, Tryz.ntmps18
      go_wp2_with fail
      refine HL.out.mono ?_
      intro e w2 hpo
      have hR := HR.out
      cases h2 : Pp.layP { op := 6, c := 0, s0 := 0, s1 := 0, s2 := 0, s3 := 0, x := 2 * xd.n, y := 0 } c with
      | error b =>
        rw [h2] at hR hpo
        cases b with
        | false => exact absurd h2 Pp.layP_ne
        | true =>
          subst hR
          obtain ⟨rfl, cv3, hp3⟩ := hpo
          exact ⟨rfl, rfl, cv3, HX.out.2.1.trans hp3⟩
      | ok c2 =>
      rw [h2] at hR hpo
      simp only at hR
      obtain ⟨cv2, rfl, hw2, hp2⟩ := hpo
      have hnr : Pp.nodeC L f kid c2 ≠ .error false := fun e => by rw [e] at hR; exact hne hR.symm
      have HN := Lib.hid (HREC.out kid c2 w2 cv2 hw2 hnr)
      have hnd := nd_step HX.out.2.2.1 hp2 HX.out.2.2.2.1 HX.out.2.2.2.2.1
      have hnc := hp2.new (blk_lt HX.out.2.2.1) HX.out.2.2.2.2.1
      have kc := HKF.out w2 cv2 hp2 bk ok rfl 0 kid rfl
      rw [Nat.add_zero] at kc
      obtain ⟨e0, e1, e2, e3, e4, e5, e6, e7, e8, e9, e10⟩ := node_cells (d := { xd with op := 8 }) hnd
      simp only at e0 e1 e2 e3 e4 e5 e6 e7 e8 e9
      have H2 := Lib.hid (And.intro (HX.out.2.1.trans hp2) (And.intro hnd hnc))
      have HR2 := Lib.hid hR
      clear hw2 hp2 hnd hnc hR h2
      go_wp2_with fail
      refine HN.out.mono ?_
      intro e w3 hpo
      have hR := HR2.out
      cases h3 : Pp.nodeC L f kid c2 with
      | error b =>
        rw [h3] at hR hpo
        cases b with
        | false => exact absurd h3 hnr
        | true =>
          subst hR
          obtain ⟨rfl, cv3, hp3⟩ := hpo
          exact ⟨rfl, rfl, cv3, H2.out.1.trans hp3⟩
      | ok c3 =>
      rw [h3] at hR hpo
      simp only at hR
      obtain ⟨cv3, rfl, hw3, hp3⟩ := hpo
      have hnd3 := nd_step H2.out.2.1 hp3 HX.out.2.2.2.1 H2.out.2.2
      clear e0 e1 e2 e3 e4 e5 e6 e7 e8 e9 e10 kc
      obtain ⟨e0, e1, e2, e3, e4, e5, e6, e7, e8, e9, e10⟩ := node_cells (d := { xd with op := 8 }) hnd3
      simp only at e0 e1 e2 e3 e4 e5 e6 e7 e8 e9
      have HL3 := Lib.hid (lay_any hw3 { Pp.in0 with op := 6, x := 2 * xd.n + 1 })
      unfold inV inC at HL3
      simp only [Pp.in0] at HL3
      have H3 := Lib.hid (H2.out.1.trans hp3)
      clear hw3 hp3 hnd3 h3 hnr
      go_wp2_with fail
      refine HL3.out.mono ?_
      intro e w4 hpo
      rw [hR] at hpo
      cases R with
      | error b =>
        cases b with
        | false => exact absurd rfl hne
        | true =>
          obtain ⟨rfl, cv4, hp4⟩ := hpo
          exact ⟨rfl, rfl, cv4, H3.out.trans hp4⟩
      | ok c4 =>
        obtain ⟨cv4, rfl, hw4, hp4⟩ := hpo
        have HZ := Lib.hid (And.intro hw4 (H3.out.trans hp4))
        clear hw4 hp4 hR
        go_wp2
        first | go_end0 | refine bodyPost_ret (results_none rfl _ _ _) rfl ?_
        exact ⟨cv4, rfl, HZ.out.1, HZ.out.2⟩
    · rw [if_neg (by rw [hop]; exact h1), if_neg (by rw [hop]; exact h5), if_neg (by rw [hop]; exact h6), if_neg (by rw [hop]; exact h7), if_neg (by rw [hop]; exact h8)] at hR
      have HS := Lib.hid (csingle_any xd (.slice A ks.length cp))
      unfold ndV at HS
      rw [hop] at n0 HX HS
      have b1 : (op == 1) = false := beq_eq_false_iff_ne.2 h1
      have b5 : (op == 5) = false := beq_eq_false_iff_ne.2 h5
      have b6 : (op == 6) = false := beq_eq_false_iff_ne.2 h6
      have b7 : (op == 7) = false := beq_eq_false_iff_ne.2 h7
      have b8 : (op == 8) = false := beq_eq_false_iff_ne.2 h8
      clear hop h1 h5 h6 h7 h8 HKF HAS
      go_enter Tryz.func18, Tryz.ntmps18
      go_wp2_with fail
      refine (HS.out _).mono ?_
      rintro e w2 ⟨rfl, hb2⟩
      have HL := Lib.hid (lay_any (HX.out.1.far hb2) (Pp.singleC xd))
      have HP := Lib.hid (HX.out.2.1.trans (Pf.below hb2))
      clear hb2
      go_wp2_with fail
      refine HL.out.mono ?_
      intro e w3 hpo
      rw [hR] at hpo
      cases R with
      | error b =>
        cases b with
        | false => exact absurd rfl hne
        | true =>
          obtain ⟨rfl, cv4, hp4⟩ := hpo
          exact ⟨rfl, rfl, cv4, HP.out.trans hp4⟩
      | ok c4 =>
        obtain ⟨cv4, rfl, hw4, hp4⟩ := hpo
        have HZ := Lib.hid (And.intro hw4 (HP.out.trans hp4))
        clear hw4 hp4 hR
        go_wp2
        first | go_end0 | refine bodyPost_ret (results_none rfl _ _ _) rfl ?_
        exact ⟨cv4, rfl, HZ.out.1, HZ.out.2⟩
end Go.Proofs.YtjdlbejmdjcajaaGreat
