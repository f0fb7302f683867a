/- slices.Concat of rows of lines. -/
import Derived.Test.YtdmldkpjdfmgeaaGwSh
import Derived.Test.YtdmldkpjdfmgeaaBuA
set_option linter.unusedVariables false
set_option linter.unusedSimpArgs false
namespace Go.Proofs.Ytdmldkpjdfmgeaa
open Go.RowKit Go.Shelf Go.Proofs.YtdmldkpjdfmgeaaW.PrintWords Go.Proofs.YtdmldkpjdfmgeaaW.PrintLast

theorem grow_nil (w : World) (n : Nat) (hn : n ≤ 1000000000) : Calls Try.prog 55 #[.slice none 0 0, .int .i64 n] w (OwnPost w.heap.size w []) := by
  by_cases h0 : n = 0
  · subst h0
    refine (Any8.slices_Grow_room Try.growS none 0 0 0 w (Nat.le_refl _) (by decide) (by decide) (by decide)).mono ?_
    rintro e w' ⟨rfl, rfl⟩
    exact ⟨_, rfl, Rw.nil _ _, fun b hb => by (cases hb), Below.refl _ _⟩
  · obtain ⟨i0, hi0, hz0, hz1, hz2⟩ := info_parts infoS
    refine (Any8.slices_Grow_grow Try.growS i0 (.string ⟨#[]⟩) hi0 hz0 (by rw [hz1]; decide) none 0 0 n [] w (Nat.le_refl _) (by omega) (by rw [hz2]; omega) (by omega) (by simp) (fun _ => rfl) (fun a ha => by cases ha)).mono ?_
    rintro e w' ⟨rfl, rfl⟩
    have hge := grownCap_ge w (0 + n) 0 (Try.growS_ren.t 25)
    have hcm := grownCap_le_maxLen w (0 + n) 0 (Try.growS_ren.t 25) (by unfold maxLen; omega)
    generalize hK : grownCap w (0 + n) 0 (Try.growS_ren.t 25) = K at hge hcm ⊢
    have hzl : (([] : List Value).toArray ++ Builtin.zeroCells #[Value.string ⟨#[]⟩] (0 + n - 0) ++ Builtin.zeroCells #[Value.string ⟨#[]⟩] (K - (0 + n))).toList.length = K := by
      rw [Array.toList_append, List.length_append, Array.toList_append, List.length_append, zlen, zlen]
      simp
      omega
    refine ⟨_, rfl, ⟨fun c hc => by (cases hc), .inr ⟨w.heap.size, K, _, rfl, (heap_alloc_new w.drew _).trans (congrArg (fun z : Array Value => some (Obj.cells z 9 (0, 0))) (Array.toArray_toList (xs := _)).symm), Nat.zero_le _, ?_, hcm⟩⟩, fun b hb => Nat.le_of_eq (Option.some.inj hb), ?_⟩
    · show _ ≤ 0 + _
      rw [Nat.zero_add]
      exact Nat.le_of_eq hzl.symm
    · exact below_alloc ((Below.refl w.heap.size w).drew) _

theorem Ls.src {P : Program} {w : World} {G : Nat → Prop} {t e' : TypeId} {v : Value} {xs : List ByteArray} (h : Ls w G v xs) (ht : P.underlying t = some (.slice e')) : Src P 1 t v xs.length (cS xs) w := by
  obtain ⟨A, c, rfl, h1, h2, h3⟩ := h
  by_cases h0 : 0 < xs.length
  · obtain ⟨b, o, rfl, _, _, hc⟩ := h3 h0
    refine Src.ofSlice _ ht ⟨b, o, none⟩ xs.length c (cS xs) (by simp [cS]) (fun j u hu => ?_) cS_one
    rw [Addr.add_lit]
    simp only [cS, List.getElem?_map, Option.map_eq_some_iff] at hu
    obtain ⟨x, hx, rfl⟩ := hu
    exact hc j x hx
  · have hx : xs = [] := List.eq_nil_of_length_eq_zero (by omega)
    subst hx
    cases A with
    | none => exact Src.ofNil _ ht c
    | some a => exact Src.ofSlice _ ht a 0 c [] rfl (fun j u hu => by simp at hu) (by simp)

theorem take_flat {α : Type} {l : List (List α)} {j : Nat} {x : List α} (h : l[j]? = some x) : (l.take (j + 1)).flatten = (l.take j).flatten ++ x := by
  obtain ⟨hj, rfl⟩ := List.getElem?_eq_some_iff.1 h
  rw [List.take_succ_eq_append_getElem hj, List.flatten_append]
  simp
theorem take_flat_le {α : Type} (l : List (List α)) (j : Nat) : (l.take j).flatten.length ≤ l.flatten.length := by
  have := congrArg (fun l => (List.flatten l).length) (List.take_append_drop j l)
  simp only [List.flatten_append, List.length_append] at this
  omega

set_option maxRecDepth 100000 in
set_option maxHeartbeats 1000000 in
theorem concat_any {w : World} {G : Nat → Prop} {b : Nat} {rows : List Value} {xss : List (List ByteArray)} (hn : rows.length = xss.length) (hbl : b < w.heap.size) (hc : ∀ (k : Nat) v, rows[k]? = some v → w.cell? ⟨b, k, none⟩ = some v)
    (hl : ∀ (k : Nat) (v : Value) xs, rows[k]? = some v → xss[k]? = some xs → Ls w G v xs) (hs : xss.flatten.length ≤ 1000000000) (hm : rows.length ≤ 1000) :
    Calls Try.prog 40 #[.slice (some ⟨b, 0, none⟩) rows.length rows.length] w (OwnPost w.heap.size w xss.flatten) := by
  obtain ⟨i0, hi0, hz0, hz1, hz2⟩ := info_parts infoS
  have HINF := Lib.hid (And.intro hi0 (And.intro hz0 (And.intro hz1 hz2)))
  have HC := Lib.hid hc
  have HL := Lib.hid hl
  have HBL := Lib.hid hbl
  obtain ⟨tot, htot⟩ : ∃ tot : Nat → Nat, ∀ k, tot k = (xss.take k).flatten.length := ⟨_, fun _ => rfl⟩
  have HTOT := Lib.hid htot
  have htn : tot rows.length = xss.flatten.length := by rw [htot, hn, List.take_length]
  have HG := Lib.hid (grow_nil w xss.flatten.length hs)
  rw [← htn] at HG
  have HHS := Lib.hid hs
  obtain ⟨N, hN⟩ : ∃ N, N = rows.length := ⟨_, rfl⟩
  rw [← hN] at hm HG ⊢
  have HN := Lib.hid (And.intro hN hn)
  clear hi0 hz0 hz1 hz2 hc hl hN hn hbl htot htn hs
  go_enter Try.func40, Try.ntmps40
  go_wp2
  go_loopw [3, 11] (fun v3 v11 wr => ∃ k : Nat, v11 = .int .i64 k ∧ k ≤ N ∧ v3 = .int .i64 (tot k : Nat) ∧ w = wr) (fun _ v11 _ => N - (intOf v11).toNat)
  case atStart => exact ⟨0, rfl, Nat.zero_le _, by rw [HTOT.out]; rfl, rfl⟩
  case round =>
    obtain ⟨k, rfl, hk, rfl, rfl⟩ := hrel
    by_cases hlt : k < N
    · obtain ⟨v, hv⟩ : ∃ v, rows[k]? = some v := ⟨_, List.getElem?_eq_getElem (by rw [← HN.out.1]; exact hlt)⟩
      obtain ⟨xs, hx⟩ : ∃ xs, xss[k]? = some xs := ⟨_, List.getElem?_eq_getElem (by rw [← HN.out.2, ← HN.out.1]; exact hlt)⟩
      have hcell := HC.out k v hv
      obtain ⟨A, c, rfl, _⟩ := HL.out k v xs hv hx
      have h1 := take_flat hx
      have h2 := take_flat_le xss (k + 1)
      have h3 : tot (k + 1) = tot k + xs.length := by rw [HTOT.out, HTOT.out, h1, List.length_append]
      have h4 : tot k + xs.length ≤ 1000000000 := by rw [← h3, HTOT.out]; exact Nat.le_trans h2 HHS.out
      have H3 := Lib.hid (And.intro hlt h3)
      have hlt' : (k : Int) < N := by omega
      clear hv hx h1 h2 h3 hlt
      go_wp2
      go_roundw
      case rel => exact ⟨k + 1, by go_num, H3.out.1, by rw [H3.out.2]; go_num, by trivial⟩
      case measure => have := H3.out.1; simp [intOf]; omega
    · obtain rfl : k = N := by omega
      have hlt' : ¬ (k : Int) < k := by omega
      clear hlt
      have htk : xss.take k = xss := List.take_of_length_le (by rw [← HN.out.2, ← HN.out.1]; exact Nat.le_refl _)
      go_wp2_with (go_at_call 55; refine HG.out.mono ?_; rintro e w2 ⟨v2, rfl, h21, h22, h23⟩; have H2 := Lib.hid (And.intro h21 (And.intro h22 h23)); clear h21 h22 h23)
      go_loopw [6, 27] (fun v6 v27 wr => ∃ j : Nat, v27 = .int .i64 j ∧ j ≤ k ∧ Own w.heap.size w wr v6 (xss.take j).flatten) (fun _ v27 _ => k - (intOf v27).toNat)
      case atStart => exact ⟨0, rfl, Nat.zero_le _, H2.out.1, H2.out.2.1, H2.out.2.2⟩
      case round =>
        obtain ⟨j, rfl, hj, hrw, hrN, hbl⟩ := hrel
        obtain ⟨A0, c0, hv0, hl0, hm0, _⟩ := hrw.slice
        rw [cS_len, ← HTOT.out] at hv0 hl0
        subst hv0
        unfold maxLen at hm0
        have HRW := Lib.hid hrw
        have HRN := Lib.hid hrN
        have HBl := Lib.hid hbl
        clear hrw hrN hbl
        by_cases hlt : j < k
        · obtain ⟨v, hv⟩ : ∃ v, rows[j]? = some v := ⟨_, List.getElem?_eq_getElem (by rw [← HN.out.1]; exact hlt)⟩
          obtain ⟨xs, hx⟩ : ∃ xs, xss[j]? = some xs := ⟨_, List.getElem?_eq_getElem (by rw [← HN.out.2, ← HN.out.1]; exact hlt)⟩
          have hcell := (World.cell?_of_block (w := w) (w' := wr) (a := ⟨b, j, none⟩) (HBl.out.block b HBL.out)).trans (HC.out j v hv)
          have hls := (HL.out j v xs hv hx).step (w' := wr) HBl.out.size (fun b' hb' _ => HBl.out.block b' hb')
          obtain ⟨A, c, rfl, _⟩ := id hls
          have h1 := take_flat hx
          have h2 := take_flat_le xss (j + 1)
          have h3 : tot (j + 1) = tot j + xs.length := by rw [HTOT.out, HTOT.out, h1, List.length_append]
          have h4 : tot j + xs.length ≤ 1000000000 := by rw [← h3, HTOT.out]; exact Nat.le_trans h2 HHS.out
          have H4 := Lib.hid h4
          have H3 := Lib.hid (And.intro hlt h1)
          have HLS := Lib.hid hls
          have hlt' : (j : Int) < k := by omega
          clear hv hx h1 h2 h3 h4 hlt hls
          go_wp2_with (at_builtin; refine wpList_append_rw (v := .slice A0 (tot j) c0) (cs := cS (xss.take j).flatten) _ rfl _ _ 22 22 rfl 9 i0 (.string ⟨#[]⟩) 16 Try.underlying22 HINF.out.1 HINF.out.2.1 HINF.out.2.2.1 HINF.out.2.2.2 rfl rfl HRW.out (.slice A xs.length c) xs.length (cS xs) rfl (HLS.out.src Try.underlying22) ?c1 ?c2 ?_; rotate_left 2; intro v1 w1 hr1 hg1 ha1; have HR1 := Lib.hid hr1; have HG1 := Lib.hid hg1; have HA1 := Lib.hid ha1; clear hr1 hg1 ha1)
          case c1 => rw [cS_len, ← HTOT.out]; have := H4.out; omega
          case c2 => rw [cS_len, ← HTOT.out]; have := H4.out; omega
          have h5 := HR1.out
          rw [show cS (xss.take j).flatten ++ cS xs = cS (xss.take (j + 1)).flatten by rw [H3.out.2]; simp [cS]] at h5
          have h6 : ∀ b, v1.ownBlock = some b → w.heap.size ≤ b := HA1.out.from HRN.out HBl.out.size
          have h7 : Below w.heap.size w w1 := HBl.out.grown HG1.out HBl.out.size HRN.out
          have H5 := Lib.hid (And.intro h5 (And.intro h6 h7))
          clear h5 h6 h7
          go_roundw
          case rel => first | exact ⟨j + 1, by go_num, H3.out.1, H5.out.1, H5.out.2.1, H5.out.2.2⟩ | ((repeat apply Exists.intro); exact ⟨⟨j + 1, by go_num, H3.out.1, H5.out.1, H5.out.2.1, H5.out.2.2⟩, rfl⟩)
          case measure => have := H3.out.1; simp [intOf]; omega
        · obtain rfl : j = k := by omega
          have hlt' : ¬ (j : Int) < j := by omega
          clear hlt
          go_wp2
          go_ret
          have h9 := HRW.out
          rw [htk] at h9
          exact ⟨_, rfl, htk ▸ HRW.out, HRN.out, HBl.out⟩
end Go.Proofs.Ytdmldkpjdfmgeaa
