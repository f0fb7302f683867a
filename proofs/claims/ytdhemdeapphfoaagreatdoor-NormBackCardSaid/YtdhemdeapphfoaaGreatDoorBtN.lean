/- The tree's merge, walked. -/
import Derived.Test.YtdhemdeapphfoaaGreatDoorBtH
import Derived.Deep.RegionLaw
import Derived.Deep.RegionHeld3
set_option linter.unusedVariables false
set_option linter.unusedSimpArgs false
namespace Go.Proofs.YtdhemdeapphfoaaGreatDoor
open Go.RowKit Go.Shelf Go.Proofs.YtdhemdeapphfoaaGreatDoorW.PrintWords Go.Proofs.YtdhemdeapphfoaaGreatDoorW.PrintLast

theorem Rw.src {P : Program} {w : World} {e t e' : TypeId} {v : Value} {cs : List Value} (h : Rw w e v cs) (ht : P.underlying t = some (.slice e')) : Src P 1 t v cs.length cs w := by
  rcases h.2 with ⟨rfl, rfl⟩ | ⟨g, cap, rest, rfl, _⟩
  · exact Src.ofNil _ ht 0
  · exact Src.ofSlice _ ht ⟨g, 0, none⟩ cs.length cap cs (by simp) (fun j u hu => by rw [Addr.add_lit, Nat.zero_add]; exact h.cell hu) h.1

set_option maxRecDepth 100000 in
set_option maxHeartbeats 2000000 in
theorem merge_any {w : World} {F : Nat → Prop} {B : Nat} {A : List Bt.Nd} {fr : List Nat} {root : Nat} (h : Ta w F B A fr root) {k n a b : Nat} {xk xa xb : Bt.Nd} {p1 p2 : List Nat} (hka : k ≠ a) (hkb : k ≠ b) (hab : a ≠ b) (hxk : A[k]? = some xk) (hxa : A[a]? = some xa) (hxb : A[b]? = some xb)
    (hks : xk.ks = p1 ++ a :: b :: p2) (hn : p1.length = n) {A' : List Bt.Nd} (hA' : A' = ((A.set a ⟨xa.ls ++ xb.ls, xa.ks ++ xb.ks, xa.ct⟩).set b Bt.Nd.z).set k ⟨xk.ls, p1 ++ a :: p2, xk.ct⟩)
    (hs : (∀ j ∈ xa.ks ++ xb.ks, j ≠ a ∧ ∃ y, A'[j]? = some y ∧ 0 ≤ y.ct) ∧ (((xa.ls ++ xb.ls).length : Nat) : Int) + Bt.cts A' (xa.ks ++ xb.ks) ≤ 4611686018427387904)
    (hF : ∀ b, w.heap.size ≤ b → F b) (hfr : fr.length ≤ 1000000000000) (hbk : xk.ks.length ≤ 100000000000) (hb1 : xa.ls.length + xb.ls.length ≤ 100000000000) (hb2 : xa.ks.length + xb.ks.length ≤ 100000000000) :
    Calls Tryz.prog 190 #[.pointer (some ⟨B, 0, none⟩), .int .i64 k, .int .i64 n] w fun e w' => e = .returned (.tuple #[]) ∧ Ta w' F B (Bt.setSum A' a) (fr ++ [b]) root ∧ Chg F w w' := by
  obtain ⟨N, cap, fv, bytes, L, hT, rfl⟩ := h
  obtain ⟨zk, hzk, rfl⟩ := pus_some hxk
  obtain ⟨za, hza, rfl⟩ := pus_some hxa
  obtain ⟨zb, hzb, rfl⟩ := pus_some hxb
  have hks : zk.ks = p1 ++ a :: b :: p2 := hks
  have hbk : zk.ks.length ≤ 100000000000 := hbk
  have hb1 : za.ls.length + zb.ls.length ≤ 100000000000 := hb1
  have hb2 : za.ks.length + zb.ks.length ≤ 100000000000 := hb2
  have b0 := hT.c0
  have k1 := hT.n1 hzk
  have a0 := hT.n0 hza
  have a1 := hT.n1 hza
  have e0 := hT.n0 hzb
  have e1 := hT.n1 hzb
  have az0 := hT.zN (a * 3)
  have az1 := hT.zN (a * 3 + 1)
  have hkl := (List.getElem?_eq_some_iff.1 hzk).1
  have hal := (List.getElem?_eq_some_iff.1 hza).1
  have hbl := (List.getElem?_eq_some_iff.1 hzb).1
  have hfit := hT.fit
  have hle := hT.le
  unfold maxLen at hfit
  have hkl' : (k : Int) < L.length := by omega
  have hal' : (a : Int) < L.length := by omega
  have hbl' : (b : Int) < L.length := by omega
  have hkn : n + 2 ≤ zk.ks.length := by rw [hks]; simp; omega
  obtain ⟨Ak, ck, hvk, hlk, hmk, hAk⟩ := (hT.kids _ zk hzk).slice
  obtain ⟨Aa, ca, hva, hla, hma, _⟩ := (hT.lines _ za hza).slice
  obtain ⟨Aa', ca', hva', hla', hma', _⟩ := (hT.kids _ za hza).slice
  obtain ⟨Ab, cb, hvb, hlb, hmb, _⟩ := (hT.lines _ zb hzb).slice
  obtain ⟨Ab', cb', hvb', hlb', hmb', _⟩ := (hT.kids _ zb hzb).slice
  rw [cK_len] at hvk hlk hAk hva' hla' hvb' hlb'
  rw [cS_len] at hva hla hvb hlb
  obtain ⟨g, rfl⟩ := hAk (by omega)
  rw [hvk] at k1
  rw [hva] at a0
  rw [hva'] at a1
  rw [hvb] at e0
  rw [hvb'] at e1
  unfold maxLen at hmk hma hma' hmb hmb'
  have hrk := hT.kids _ zk hzk
  rw [hvk, hks] at hrk
  have ke1 := hrk.cell (j := n) (cK_at (show (p1 ++ a :: b :: p2)[n]? = some a by rw [← hn]; simp))
  have ke2 := hrk.cell (j := n + 1) (cK_at (show (p1 ++ a :: b :: p2)[n + 1]? = some b by rw [← hn, List.getElem?_append_right (by omega)]; simp))
  have hn1 : ((n : Nat) : Int) + 1 < zk.ks.length := by omega
  have hn0 : ((n : Nat) : Int) < zk.ks.length := by omega
  have HT := Lib.hid hT
  have HZK := Lib.hid hzk
  have HZA := Lib.hid hza
  have HZB := Lib.hid hzb
  have HKS := Lib.hid hks
  have HVK := Lib.hid hvk
  have HVA := Lib.hid hva
  have HVA' := Lib.hid hva'
  have HVB := Lib.hid hvb
  have HVB' := Lib.hid hvb'
  have HF := Lib.hid hF
  have HS := Lib.hid hs
  have HN := Lib.hid hn
  have HA' := Lib.hid hA'
  obtain ⟨i0, hi0, hz0, hz1, hz2⟩ := info_parts infoS
  have HINF := Lib.hid (And.intro hi0 (And.intro hz0 (And.intro hz1 hz2)))
  clear hi0 hz0 hz1 hz2
  obtain ⟨i1, hi0, hz0, hz1, hz2⟩ := info_parts infoI
  have HINI := Lib.hid (And.intro hi0 (And.intro hz0 (And.intro hz1 hz2)))
  clear hi0 hz0 hz1 hz2
  clear hT hzk hza hzb hks hvk hva hva' hvb hvb' hF hs hn hA' hrk hAk hxk hxa hxb
  go_enter Tryz.func190, Tryz.ntmps190
  go_wp2
  go_quiet (fail)
  obtain ⟨q1, rfl⟩ : ∃ q1, q1 = nq := ⟨_, rfl⟩
  go_wp2
  go_quiet (fail)
  obtain ⟨q2, rfl⟩ : ∃ q2, q2 = nq := ⟨_, rfl⟩
  go_wp2
  have HRA := Lib.hid (HT.out.lines _ za HZA.out)
  have HRB := Lib.hid (HT.out.lines _ zb HZB.out)
  rw [HVA.out] at HRA
  rw [HVB.out] at HRB
  have HSB := Lib.hid (HRB.out.src (P := Tryz.prog) Tryz.underlying23)
  have HBG := Lib.hid (show ((cS za.ls).length + (cS zb.ls).length) * 16 ≤ 140737488355328 ∧ (cS za.ls).length + (cS zb.ls).length ≤ 140737488355328 by rw [cS_len, cS_len]; omega)
  go_region_law (refine step_append_rw (v := .slice Aa za.ls.length ca) (cs := cS za.ls) _ rfl (.tmp 44) (.tmp 48) 23 23 rfl 9 i0 (.string ⟨#[]⟩) 16 Tryz.underlying23 HINF.out.1 HINF.out.2.1 HINF.out.2.2.1 HINF.out.2.2.2 rfl (by simp [Act.eval, Act.put]) (HRA.out.drewN _) (.slice Ab zb.ls.length cb) (cS zb.ls).length (cS zb.ls) (by simp [Act.eval, Act.put]) ((HRB.out.drewN _).src Tryz.underlying23) HBG.out.1 HBG.out.2 ?_; intro v1 w1 hr1 hg1 ha1; have hrg := (HT.out.drewN (q1 + q2 + 1)).row_grown (HRA.out.drewN (q1 + q2 + 1)) (by decide) hg1; have ga0 := (hrg (a * 3)).1.trans ((HT.out.drewN (q1 + q2 + 1)).n0 HZA.out); have gaz := (hrg (a * 3)).2; clear hrg; obtain ⟨A4, c4, hv4, _⟩ := hr1.slice; rw [show (cS za.ls ++ cS zb.ls).length = za.ls.length + zb.ls.length by simp [cS_len]] at hv4; have HR1 := Lib.hid hr1; have HG1 := Lib.hid hg1; have HA1 := Lib.hid ha1; clear hr1 hg1 ha1; subst hv4)
  all_goals
    have hFa : ∀ b, (w.drewN (q1 + q2 + 1)).heap.size ≤ b → F b := HF.out
    have hr1 := HR1.out
    rw [show cS za.ls ++ cS zb.ls = cS (za.ls ++ zb.ls) by simp [cS]] at hr1
    have hT2 := (HT.out.drewN (q1 + q2 + 1)).setLs HZA.out (w2 := w1) (v := .slice A4 (za.ls.length + zb.ls.length) c4) (ls := za.ls ++ zb.ls) (by rw [HVA.out]; exact HG1.out) hr1 ((HT.out.drewN (q1 + q2 + 1)).at_l hFa HZA.out (by rw [HVA.out]; exact HA1.out))
    have HC2 := Lib.hid ((((Chg.refl F w).drewN (q1 + q2 + 1)).grown HG1.out (fun b hb => HT.out.footL _ za b HZA.out (by rw [HVA.out]; exact hb))).setCell (p := ⟨N, a * 3, none⟩) HT.out.footN (.slice A4 (za.ls.length + zb.ls.length) c4))
    have hza2 : (L.set a ⟨.slice A4 (za.ls.length + zb.ls.length) c4, za.vk, za.ls ++ zb.ls, za.ks, za.ct⟩)[a]? = some ⟨.slice A4 (za.ls.length + zb.ls.length) c4, za.vk, za.ls ++ zb.ls, za.ks, za.ct⟩ := by simp [hal]
    have hzb2 : (L.set a ⟨.slice A4 (za.ls.length + zb.ls.length) c4, za.vk, za.ls ++ zb.ls, za.ks, za.ct⟩)[b]? = some zb := by rw [List.getElem?_set, if_neg hab]; exact HZB.out
    have hzk2 : (L.set a ⟨.slice A4 (za.ls.length + zb.ls.length) c4, za.vk, za.ls ++ zb.ls, za.ks, za.ct⟩)[k]? = some zk := by rw [List.getElem?_set, if_neg (fun e => hka e.symm)]; exact HZK.out
    have h2a1 := hT2.n1 hza2
    have h2e1 := hT2.n1 hzb2
    have h2z := hT2.zN (a * 3 + 1)
    simp only at h2a1
    rw [HVA'.out] at h2a1
    rw [HVB'.out] at h2e1
    have hra2 := hT2.kids _ _ hza2
    have hrb2 := hT2.kids _ _ hzb2
    simp only at hra2
    rw [HVA'.out] at hra2
    rw [HVB'.out] at hrb2
    obtain ⟨W2, hW2⟩ : ∃ W2, W2 = w1.setCell ⟨N, a * 3, none⟩ (.slice A4 (za.ls.length + zb.ls.length) c4) := ⟨_, rfl⟩
    rw [← hW2] at hT2 h2a1 h2e1 h2z hra2 hrb2 HC2
    have HT2 := Lib.hid hT2
    have HZA2 := Lib.hid hza2
    have HZB2 := Lib.hid hzb2
    have HZK2 := Lib.hid hzk2
    have HRA2 := Lib.hid hra2
    have HRB2 := Lib.hid hrb2
    have HW2 := Lib.hid hW2
    have HBG2 := Lib.hid (show ((cK za.ks).length + (cK zb.ks).length) * 8 ≤ 140737488355328 ∧ (cK za.ks).length + (cK zb.ks).length ≤ 140737488355328 by rw [cK_len, cK_len]; omega)
    clear hT2 hza2 hzb2 hzk2 hra2 hrb2 hr1 hFa b0 k1 a0 a1 e0 e1 az0 az1 ke1 ke2 ga0 gaz
    go_wp2
    rw [← HW2.out]
    clear HW2 hW2
    go_region_law (refine step_append_rw (v := .slice Aa' za.ks.length ca') (cs := cK za.ks) _ rfl (.tmp 56) (.tmp 60) 72 72 rfl 3 i1 (.int .i64 0) 8 Tryz.underlying72 HINI.out.1 HINI.out.2.1 HINI.out.2.2.1 HINI.out.2.2.2 rfl (by simp [Act.eval, Act.put]) (HRA2.out.drewN 1) (.slice Ab' zb.ks.length cb') (cK zb.ks).length (cK zb.ks) (by simp [Act.eval, Act.put]) ((HRB2.out.drewN 1).src Tryz.underlying72) HBG2.out.1 HBG2.out.2 ?_; intro v2 w2 hr1 hg1 ha1; have hrg := (HT2.out.drewN 1).row_grown (HRA2.out.drewN 1) (by decide) hg1; have ga1 := (hrg (a * 3 + 1)).1.trans ((HT2.out.drewN 1).n1 HZA2.out); have gaz1 := (hrg (a * 3 + 1)).2; clear hrg; obtain ⟨A5, c5, hv5, _⟩ := hr1.slice; rw [show (cK za.ks ++ cK zb.ks).length = za.ks.length + zb.ks.length by simp [cK_len]] at hv5; have HR2 := Lib.hid hr1; have HG2 := Lib.hid hg1; have HA2 := Lib.hid ha1; clear hr1 hg1 ha1; subst hv5)
    all_goals
      have hFa : ∀ b, (W2.drewN 1).heap.size ≤ b → F b := fun b hb => HF.out b (Nat.le_trans HC2.out.size hb)
      have hr2 := HR2.out
      rw [show cK za.ks ++ cK zb.ks = cK (za.ks ++ zb.ks) from (cK_app _ _).symm] at hr2
      have hT3 := (HT2.out.drewN 1).setKs HZA2.out (w2 := w2) (v := .slice A5 (za.ks.length + zb.ks.length) c5) (ks := za.ks ++ zb.ks) (by simp only; rw [HVA'.out]; exact HG2.out) hr2 ((HT2.out.drewN 1).at_k hFa HZA2.out (by simp only; rw [HVA'.out]; exact HA2.out))
      have HC3 := Lib.hid (((HC2.out.drewN 1).grown HG2.out (fun b hb => HT2.out.footK _ _ b HZA2.out (by simp only; rw [HVA'.out]; exact hb))).setCell (p := ⟨N, a * 3 + 1, none⟩) HT.out.footN (.slice A5 (za.ks.length + zb.ks.length) c5))
      have hL3 : (L.set a ⟨.slice A4 (za.ls.length + zb.ls.length) c4, za.vk, za.ls ++ zb.ls, za.ks, za.ct⟩).set a (NV.mk (.slice A4 (za.ls.length + zb.ls.length) c4) (.slice A5 (za.ks.length + zb.ks.length) c5) (za.ls ++ zb.ls) (za.ks ++ zb.ks) za.ct) = L.set a (NV.mk (.slice A4 (za.ls.length + zb.ls.length) c4) (.slice A5 (za.ks.length + zb.ks.length) c5) (za.ls ++ zb.ls) (za.ks ++ zb.ks) za.ct) := by rw [List.set_set]
      simp only at hT3
      rw [hL3] at hT3
      obtain ⟨zn, hzn⟩ : ∃ zn, zn = NV.mk (.slice A4 (za.ls.length + zb.ls.length) c4) (.slice A5 (za.ks.length + zb.ks.length) c5) (za.ls ++ zb.ls) (za.ks ++ zb.ks) za.ct := ⟨_, rfl⟩
      have HZN := Lib.hid (show zn.pu = ⟨za.ls ++ zb.ls, za.ks ++ zb.ks, za.ct⟩ by rw [hzn]; rfl)
      rw [← hzn] at hT3
      have HT3 := Lib.hid hT3
      have HF3 := Lib.hid (show ∀ b, (w2.setCell ⟨N, a * 3 + 1, none⟩ (.slice A5 (za.ks.length + zb.ks.length) c5)).heap.size ≤ b → F b from fun b hb => HF.out b (Nat.le_trans HC3.out.size hb))
      have hzb3 : (L.set a zn)[b]? = some zb := by rw [List.getElem?_set, if_neg hab]; exact HZB.out
      have HZB3 := Lib.hid hzb3
      clear hT3 hL3 hr2 hFa hzn hzb3 ga1 gaz1 h2a1 h2e1 h2z
      go_wp2_with fail
      go_at_call 170
      refine (drop_tw HT3.out HZB3.out hfr HF3.out).mono ?_
      rintro e w3 ⟨rfl, ⟨fv4, hT4⟩, ch4, _⟩
      have HC4 := Lib.hid (HC3.out.trans ch4)
      have hzk4 : ((L.set a zn).set b ⟨.slice none 0 0, .slice none 0 0, [], [], 0⟩)[k]? = some zk := by rw [List.getElem?_set, if_neg (fun e => hkb e.symm), List.getElem?_set, if_neg (fun e => hka e.symm)]; exact HZK.out
      have b0 := hT4.c0
      rw [List.length_set, List.length_set] at b0
      have k1 := hT4.n1 hzk4
      rw [HVK.out] at k1
      have kz := hT4.zN (k * 3 + 1)
      have hrk := hT4.kids _ _ hzk4
      rw [HVK.out] at hrk
      have HRK := Lib.hid hrk
      have HT4 := Lib.hid hT4
      have HZK4 := Lib.hid hzk4
      have hBN := hT4.BN
      have hNB : ¬ N = B := fun e => hBN e.symm
      have HW1 := Lib.hid (show IntKind.i64.wrap ((n : Int) + 1) = ((n + 1 : Nat) : Int) by rw [IntKind.wrap_i64]; omega)
      have HW2 := Lib.hid (show IntKind.i64.wrap ((n : Int) + 2) = ((n + 1 : Nat) : Int) + 1 by rw [IntKind.wrap_i64]; omega)
      have HER := Lib.hid (show cI ((kI zk.ks).eraseIdx (n + 1)) = cK (p1 ++ a :: p2) by
        rw [HKS.out, ← HN.out, show kI (p1 ++ a :: b :: p2) = kI p1 ++ (Int.ofNat a :: Int.ofNat b :: kI p2) by simp [kI], List.eraseIdx_append_of_length_le (by simp [kI])]
        simp [kI, cK, cI])
      obtain ⟨m6, hm6⟩ : ∃ m6, (p1 ++ a :: p2).length = m6 := ⟨_, rfl⟩
      have HM6 := Lib.hid hm6
      clear hm6
      have HNL := Lib.hid (show n + 1 < (kI zk.ks).length by simp [kI]; omega)
      clear hT4 hzk4 hrk ch4
      go_wp2_with fail
      go_region_held3 (fun W => W.cell? ⟨B, 0, none⟩ = some (.slice (some ⟨N, 0, none⟩) L.length cap)) (first | exact b0 | exact gb0 | go_keep) (first | (go_at_call 192; refine (delI_rw _ (.slice (some ⟨g, 0, none⟩) zk.ks.length ck) (kI zk.ks) (n + 1) (IntKind.i64.wrap ((n : Int) + 1)) (IntKind.i64.wrap ((n : Int) + 2)) HW1.out HW2.out (HRK.out.drewN 1) HNL.out).mono ?_; rintro e w4 ⟨v5, rfl, hr5, hg5, hb5⟩; have hrg := (HT4.out.drewN 1).row_grown (HRK.out.drewN 1) (by decide) hg5 (k * 3 + 1); have g0 := hrg.1.trans ((HT4.out.drewN 1).n1 HZK4.out); have gz := hrg.2; clear hrg; have gb0 := ((HT4.out.drewN 1).box_grown (HRK.out.drewN 1) (by decide) hg5 0).1.trans (HT4.out.drewN 1).c0; rw [List.length_set, List.length_set] at gb0; rw [HER.out] at hr5; obtain ⟨A6, c6, hv6, _⟩ := hr5.slice; rw [cK_len, HM6.out] at hv6; have HR5 := Lib.hid hr5; have HG5 := Lib.hid hg5; have HB5 := Lib.hid hb5; clear hr5 hg5 hb5; subst hv6))
      all_goals
        have hT5 := (HT4.out.drewN 1).setKs HZK4.out (w2 := w4) (v := .slice A6 m6 c6) (ks := p1 ++ a :: p2) (by rw [HVK.out]; exact HG5.out) HR5.out ((HT4.out.drewN 1).at_k (fun b hb => HF.out b (Nat.le_trans HC4.out.size hb)) HZK4.out (.inl (by rw [HVK.out]; exact HB5.out)))
        have HC5 := Lib.hid (((HC4.out.drewN 1).grown HG5.out (fun b hb => HT4.out.footK _ _ b HZK4.out (by rw [HVK.out]; exact hb))).setCell (p := ⟨N, k * 3 + 1, none⟩) HT4.out.footN (.slice A6 m6 c6))
        have hA5 : pus (((L.set a zn).set b ⟨.slice none 0 0, .slice none 0 0, [], [], 0⟩).set k (NV.mk zk.vl (.slice A6 m6 c6) zk.ls (p1 ++ a :: p2) zk.ct)) = A' := by
          rw [HA'.out, pus_set, pus_set, pus_set, HZN.out]
          rfl
        have HTA5 := Lib.hid (hT5.ta hA5)
        have hget : A'[a]? = some ⟨za.ls ++ zb.ls, za.ks ++ zb.ks, za.ct⟩ := by
          rw [HA'.out, Bt.set_other (fun e => hka e.symm), Bt.set_other hab]
          exact Bt.set_self (by rw [pus_length]; exact hal)
        have HGET := Lib.hid hget
        clear hT5 hA5 hget b0 k1 kz g0 gz gb0
        go_wp2_with fail
        go_at_call 50
        refine (sum_ta HTA5.out HGET.out HS.out.1 HS.out.2).mono ?_
        rintro e w5 ⟨rfl, ta5, ch5⟩
        have HTA6 := Lib.hid ta5
        have HC6 := Lib.hid (HC5.out.trans ch5)
        clear ta5 ch5
        go_wp2
        go_end0
        exact ⟨rfl, HTA6.out, HC6.out⟩
end Go.Proofs.YtdhemdeapphfoaaGreatDoor
