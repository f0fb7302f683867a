/- The tree's span, Splice and New, walked. -/
import Derived.Test.YtdhemdeapphfoaaGreatDoorBtV
import Derived.Test.YtdhemdeapphfoaaGreatDoorBtPx
import Derived.WalkLawsBesides
import Derived.WalkSpells
set_option linter.unusedVariables false
set_option linter.unusedSimpArgs false
namespace Go.Proofs.YtdhemdeapphfoaaGreatDoor
open Go.RowKit Go.Shelf Go.Proofs.YtdhemdeapphfoaaGreatDoorW.PrintWords Go.Proofs.YtdhemdeapphfoaaGreatDoorW.PrintLast

/-- lines that are read; their block is one of G -/
def Ls (w : World) (G : Nat → Prop) (v : Value) (xs : List ByteArray) : Prop :=
  ∃ A c, v = .slice A xs.length c ∧ xs.length ≤ c ∧ c ≤ maxLen ∧ (0 < xs.length → ∃ b o, A = some ⟨b, o, none⟩ ∧ G b ∧ b < w.heap.size ∧ ∀ j x, xs[j]? = some x → w.cell? ⟨b, o + j, none⟩ = some (.string x))
theorem Ls.step {w w' : World} {G : Nat → Prop} {v : Value} {xs : List ByteArray} (h : Ls w G v xs) (hsz : w.heap.size ≤ w'.heap.size) (hs : ∀ b, b < w.heap.size → G b → w'.heap[b]? = w.heap[b]?) : Ls w' G v xs := by
  obtain ⟨A, c, hv, h1, h2, h3⟩ := h
  refine ⟨A, c, hv, h1, h2, fun h0 => ?_⟩
  obtain ⟨b, o, ha, hg, hl, hc⟩ := h3 h0
  exact ⟨b, o, ha, hg, Nat.lt_of_lt_of_le hl hsz, fun j x hx => (World.cell?_of_block (w := w) (a := ⟨b, o + j, none⟩) (hs b hl hg)).trans (hc j x hx)⟩
theorem Ls.chg {w w' : World} {F G : Nat → Prop} {v : Value} {xs : List ByteArray} (h : Ls w G v xs) (hc : Chg F w w') (hd : ∀ b, b < w.heap.size → G b → ¬ F b) : Ls w' G v xs := h.step hc.size fun b hl hg => hc.block b hl (hd b hl hg)
theorem Ls.of_rw {w : World} {v : Value} {xs : List ByteArray} (h : Rw w 9 v (cS xs)) : Ls w (fun b => v.ownBlock = some b) v xs := by
  rcases h.2 with ⟨rfl, h0⟩ | ⟨g, cap, rest, rfl, hg, h1, h2, h3⟩
  · have hx : xs = [] := by rw [cS, List.map_eq_nil_iff] at h0; exact h0
    subst hx
    exact ⟨none, 0, rfl, Nat.le_refl _, Nat.zero_le _, fun h => absurd h (by simp)⟩
  · rw [cS_len] at h1
    refine ⟨_, cap, by rw [cS_len], h1, h3, fun h0 => ⟨g, 0, rfl, rfl, blk_lt hg, fun j x hx => ?_⟩⟩
    rw [Nat.zero_add]
    exact h.cell (cS_at hx)

set_option maxRecDepth 100000 in
theorem span_any {w : World} {F : Nat → Prop} {B : Nat} {ls : List ByteArray} (h : TreeIs w F B ls) {i n : Nat} (hi : i + n ≤ ls.length) (hl : ls.length ≤ 1000000000) :
    Calls Tryz.prog 150 #[.pointer (some ⟨B, 0, none⟩), .int .i64 i, .int .i64 n] w fun e w' => e = .returned (.bool true) ∧ ∃ q, w' = w.drewN q := by
  have HT := Lib.hid h
  have h1 : (i : Int) ≤ ls.length := by omega
  have h2 : (n : Int) ≤ (ls.length : Int) - i := by omega
  clear h
  go_enter Tryz.func150, Tryz.ntmps150
  go_wp2_with fail
  go_at_call 22
  refine (len_is HT.out).mono ?_
  rintro e w1 ⟨rfl, q, rfl⟩
  go_wp2_with fail
  go_at_call 22
  refine (len_is (HT.out.drewN q)).mono ?_
  rintro e w1 ⟨rfl, q2, rfl⟩
  go_wp2
  all_goals first | (exfalso; omega) | skip
  go_ret
  exact ⟨by simp, _, rfl⟩

set_option maxRecDepth 100000 in
set_option maxHeartbeats 1000000 in
theorem Splice_any {w : World} {F G : Nat → Prop} {B : Nat} {ls xs : List ByteArray} {v : Value} (h : TreeIs w F B ls) (hv : Ls w G v xs) (hd : ∀ b, b < w.heap.size → G b → ¬ F b) {i n : Nat} (hi : i + n ≤ ls.length) (hb : ls.length + xs.length + 2 ≤ 1000000000)
    (hF : ∀ b, w.heap.size ≤ b → F b) (hx : ∀ x ∈ xs, x.size ≤ 1000000000) :
    Calls Tryz.prog 124 #[.pointer (some ⟨B, 0, none⟩), .int .i64 i, .int .i64 n, v] w fun e w' => e = .returned (.bool true) ∧ TreeIs w' F B (Bt.splice ls i n xs) ∧ Chg F w w' := by
  obtain ⟨A, c, rfl, hlc, hcm, hA⟩ := id hv
  unfold maxLen at hcm
  have HT := Lib.hid h
  have HV := Lib.hid hv
  have HD := Lib.hid hd
  have HF := Lib.hid hF
  have HX := Lib.hid hx
  have HSP := Lib.hid (fun q => span_any (h.drewN q) hi (by omega))
  have HSP0 := Lib.hid (span_any h hi (by omega))
  have HA := Lib.hid hA
  obtain ⟨s, hs⟩ : ∃ s : Nat, min (n : Int) (xs.length : Int) = s := ⟨min n xs.length, by omega⟩
  have hs1 : s ≤ n := by omega
  have hs2 : s ≤ xs.length := by omega
  have hs3 : s = n ∨ s = xs.length := by omega
  have HS3 := Lib.hid hs3
  have hs1' : (s : Int) ≤ n := by omega
  clear h hv hd hF hx hA hs3
  have hcase : (∃ b o, A = some ⟨b, o, none⟩ ∧ (0 < xs.length ∧ G b ∧ b < w.heap.size ∧ ∀ j x, xs[j]? = some x → w.cell? ⟨b, o + j, none⟩ = some (.string x))) ∨ xs.length ≤ 0 := by
    rcases Nat.lt_or_ge 0 xs.length with h0 | h0
    · obtain ⟨b, o, ha, hr⟩ := HA.out h0
      exact .inl ⟨b, o, ha, h0, hr⟩
    · exact .inr h0
  clear HA HV
  rcases hcase with ⟨b, o, rfl, hall⟩ | hz
  · have HALL := Lib.hid hall
    clear hall
    have hcs : c = s ∨ ¬ c = s := by omega
    rcases hcs with hcs | hcs
    all_goals
      have HCS := Lib.hid hcs
      go_enter Tryz.func124, Tryz.ntmps124
      go_wp2_with (go_at_call 150; refine HSP0.out.mono ?_; rintro e w1 ⟨rfl, q, rfl⟩)
      go_loopw [27] (fun v27 wr => ∃ k : Nat, v27 = .int .i64 k ∧ k ≤ s ∧ TreeIs wr F B (Bt.L1 ls xs i k) ∧ Chg F w wr) (fun v27 _ => s - (intOf v27).toNat)
      case atStart => exact ⟨0, rfl, Nat.zero_le _, by rw [Bt.L1_zero]; exact HT.out.drewN q, (Chg.refl F w).drewN q⟩
      case round =>
        obtain ⟨k, rfl, hk, ht, hc⟩ := hrel
        have HTk := Lib.hid ht
        have HCk := Lib.hid hc
        clear ht hc
        by_cases hlt : k < s
        · have hlt' : (k : Int) < s := by omega
          obtain ⟨_, hg, hbl, hcell⟩ := HALL.out
          have hkx := List.getElem?_eq_getElem (show k < xs.length by omega)
          obtain ⟨x, hxe⟩ : ∃ x, x = xs[k] := ⟨_, rfl⟩
          rw [← hxe] at hkx
          have hkc := (World.cell?_of_block (w := w) (a := ⟨b, o + k, none⟩) (HCk.out.block b hbl (HD.out b hbl hg))).trans (hcell k x hkx)
          have hset := Set_any HTk.out (i := i + k) (line := x) (by rw [Bt.L1_length (by omega) (by omega)]; omega) (by rw [Bt.L1_length (by omega) (by omega)]; omega) (HX.out x (List.mem_of_getElem? hkx))
          rw [Bt.L1_step hkx (by omega), show ((i + k : Nat) : Int) = (i : Int) + k by omega] at hset
          have HSET := Lib.hid hset
          clear hset hxe hkx hcell hg hbl hcs
          go_wp2_with fail
          go_at_call 151
          refine HSET.out.mono ?_
          rintro e w2 ⟨rfl, ht2, hc2⟩
          have HT2 := Lib.hid ht2
          have HC2 := Lib.hid (HCk.out.trans hc2)
          clear ht2 hc2 hkc
          go_wp2
          go_roundw
          case rel => exact ⟨k + 1, by go_num, by omega, HT2.out, HC2.out⟩
          case measure => simp [intOf]; omega
        · obtain rfl : s = k := by omega
          have hlt' : ¬ (s : Int) < s := by omega
          clear hlt
          go_wp2
          go_loopw [42] (fun v42 wr2 => ∃ m : Nat, v42 = .int .i64 m ∧ m ≤ n - s ∧ TreeIs wr2 F B (Bt.L2 ls xs i s m) ∧ Chg F w wr2) (fun v42 _ => (n - s) - (intOf v42).toNat)
          case atStart => exact ⟨0, rfl, Nat.zero_le _, HTk.out, HCk.out⟩
          case round =>
            obtain ⟨m, rfl, hm, ht, hc⟩ := hrel
            have HTm := Lib.hid ht
            have HCm := Lib.hid hc
            clear ht hc HTk HCk
            by_cases hlt : m < n - s
            · have hlt2 : (m : Int) < (n : Int) - s := by omega
              have hlen := Bt.L2_length (ls := ls) (xs := xs) (i := i) (s := s) (m := m) hs2 (by omega)
              have hdel := Delete_any HTm.out (i := i + s) (by rw [hlen]; omega) (by rw [hlen]; omega) (fun b hb => HF.out b (Nat.le_trans HCm.out.size hb))
              rw [Bt.L2_step hs2 (by omega), show ((i + s : Nat) : Int) = (i : Int) + s by omega] at hdel
              have HDEL := Lib.hid hdel
              clear hdel hlen hcs
              go_wp2_with fail
              go_at_call 152
              refine HDEL.out.mono ?_
              rintro e w2 ⟨rfl, ht2, hc2⟩
              have HT2 := Lib.hid ht2
              have HC2 := Lib.hid (HCm.out.trans hc2)
              clear ht2 hc2
              go_wp2
              go_roundw
              case rel => exact ⟨m + 1, by go_num, by omega, HT2.out, HC2.out⟩
              case measure => simp [intOf]; omega
            · obtain rfl : m = n - s := by omega
              have hT3 := HTm.out
              rw [Bt.L23 hs1] at hT3
              have HT3 := Lib.hid hT3
              have hlt2 : ¬ ((n - s : Nat) : Int) < (n : Int) - s := by omega
              clear hT3 hlt HTm
              go_wp2
              go_loopw [54] (fun v54 wr3 => ∃ k : Nat, v54 = .int .i64 k ∧ k ≤ xs.length - s ∧ TreeIs wr3 F B (Bt.L3 ls xs i n s k) ∧ Chg F w wr3) (fun v54 _ => (xs.length - s) - (intOf v54).toNat)
              case atStart => exact ⟨0, rfl, Nat.zero_le _, HT3.out, HCm.out⟩
              case round =>
                obtain ⟨k, rfl, hk3, ht, hc⟩ := hrel
                have HTn := Lib.hid ht
                have HCn := Lib.hid hc
                clear ht hc HT3 HCm
                by_cases hlt : k < xs.length - s
                · first
                  | (exfalso; have := HCS.out; omega)
                  | (have hlt3 : (k : Int) < ((xs.length - s : Nat) : Int) := by omega
                     obtain ⟨_, hg, hbl, hcell⟩ := HALL.out
                     have hkx := List.getElem?_eq_getElem (show s + k < xs.length by omega)
                     obtain ⟨x, hxe⟩ : ∃ x, x = xs[s + k] := ⟨_, rfl⟩
                     rw [← hxe] at hkx
                     have hkc := (World.cell?_of_block (w := w) (a := ⟨b, o + (s + k), none⟩) (HCn.out.block b hbl (HD.out b hbl hg))).trans (hcell (s + k) x hkx)
                     rw [← Nat.add_assoc] at hkc
                     have hlen := Bt.L3_length (ls := ls) (xs := xs) (i := i) (n := n) (s := s) (k := k) (by omega) hi
                     have hins := Insert_any HTn.out (i := i + s + k) (line := x) (by rw [hlen]; omega) (by rw [hlen]; omega) (fun b hb => HF.out b (Nat.le_trans HCn.out.size hb)) (HX.out x (List.mem_of_getElem? hkx))
                     rw [Bt.L3_step hkx hi, show ((i + s + k : Nat) : Int) = (i : Int) + s + k by omega] at hins
                     have HINS := Lib.hid hins
                     clear hins hxe hkx hcell hg hbl hlen
                     go_wp2_with fail
                     go_at_call 31
                     refine HINS.out.mono ?_
                     rintro e w2 ⟨rfl, ht2, hc2⟩
                     have HT2 := Lib.hid ht2
                     have HC2 := Lib.hid (HCn.out.trans hc2)
                     clear ht2 hc2 hkc
                     go_wp2
                     go_roundw
                     case rel => first | exact ⟨k + 1, by go_num, by omega, HT2.out, HC2.out⟩ | ((repeat apply Exists.intro); exact ⟨⟨k + 1, by go_num, by omega, HT2.out, HC2.out⟩, rfl⟩)
                     case measure => simp [intOf]; omega)
                · obtain rfl : k = xs.length - s := by omega
                  have hT4 := HTn.out
                  rw [Bt.L3_end (by omega)] at hT4
                  have HT4 := Lib.hid hT4
                  have hlt3 : ¬ ((xs.length - s : Nat) : Int) < ((xs.length - s : Nat) : Int) := by omega
                  clear hT4 HTn hlt
                  go_wp2
                  go_ret
                  exact ⟨rfl, HT4.out, HCn.out⟩
  · have hcs : c = s ∨ ¬ c = s := by omega
    rcases hcs with hcs | hcs
    all_goals
      have HCS := Lib.hid hcs
      go_enter Tryz.func124, Tryz.ntmps124
      go_wp2_with (go_at_call 150; refine HSP0.out.mono ?_; rintro e w1 ⟨rfl, q, rfl⟩)
      go_loopw [27] (fun v27 wr => ∃ k : Nat, v27 = .int .i64 k ∧ k ≤ s ∧ TreeIs wr F B (Bt.L1 ls xs i k) ∧ Chg F w wr) (fun v27 _ => s - (intOf v27).toNat)
      case atStart => exact ⟨0, rfl, Nat.zero_le _, by rw [Bt.L1_zero]; exact HT.out.drewN q, (Chg.refl F w).drewN q⟩
      case round =>
        obtain ⟨k, rfl, hk, ht, hc⟩ := hrel
        have HTk := Lib.hid ht
        have HCk := Lib.hid hc
        clear ht hc
        by_cases hlt : k < s
        · exfalso
          omega
        · obtain rfl : s = k := by omega
          have hlt' : ¬ (s : Int) < s := by omega
          clear hlt
          go_wp2
          go_loopw [42] (fun v42 wr2 => ∃ m : Nat, v42 = .int .i64 m ∧ m ≤ n - s ∧ TreeIs wr2 F B (Bt.L2 ls xs i s m) ∧ Chg F w wr2) (fun v42 _ => (n - s) - (intOf v42).toNat)
          case atStart => exact ⟨0, rfl, Nat.zero_le _, HTk.out, HCk.out⟩
          case round =>
            obtain ⟨m, rfl, hm, ht, hc⟩ := hrel
            have HTm := Lib.hid ht
            have HCm := Lib.hid hc
            clear ht hc HTk HCk
            by_cases hlt : m < n - s
            · have hlt2 : (m : Int) < (n : Int) - s := by omega
              have hlen := Bt.L2_length (ls := ls) (xs := xs) (i := i) (s := s) (m := m) hs2 (by omega)
              have hdel := Delete_any HTm.out (i := i + s) (by rw [hlen]; omega) (by rw [hlen]; omega) (fun b hb => HF.out b (Nat.le_trans HCm.out.size hb))
              rw [Bt.L2_step hs2 (by omega), show ((i + s : Nat) : Int) = (i : Int) + s by omega] at hdel
              have HDEL := Lib.hid hdel
              clear hdel hlen hcs
              go_wp2_with fail
              go_at_call 152
              refine HDEL.out.mono ?_
              rintro e w2 ⟨rfl, ht2, hc2⟩
              have HT2 := Lib.hid ht2
              have HC2 := Lib.hid (HCm.out.trans hc2)
              clear ht2 hc2
              go_wp2
              go_roundw
              case rel => exact ⟨m + 1, by go_num, by omega, HT2.out, HC2.out⟩
              case measure => simp [intOf]; omega
            · obtain rfl : m = n - s := by omega
              have hT3 := HTm.out
              rw [Bt.L23 hs1] at hT3
              have HT3 := Lib.hid hT3
              have hlt2 : ¬ ((n - s : Nat) : Int) < (n : Int) - s := by omega
              clear hT3 hlt HTm
              go_wp2
              go_loopw [54] (fun v54 wr3 => ∃ k : Nat, v54 = .int .i64 k ∧ k ≤ xs.length - s ∧ TreeIs wr3 F B (Bt.L3 ls xs i n s k) ∧ Chg F w wr3) (fun v54 _ => (xs.length - s) - (intOf v54).toNat)
              case atStart => exact ⟨0, rfl, Nat.zero_le _, HT3.out, HCm.out⟩
              case round =>
                obtain ⟨k, rfl, hk3, ht, hc⟩ := hrel
                have HTn := Lib.hid ht
                have HCn := Lib.hid hc
                clear ht hc HT3 HCm
                by_cases hlt : k < xs.length - s
                · exfalso
                  omega
                · obtain rfl : k = xs.length - s := by omega
                  have hT4 := HTn.out
                  rw [Bt.L3_end (by omega)] at hT4
                  have HT4 := Lib.hid hT4
                  have hlt3 : ¬ ((xs.length - s : Nat) : Int) < ((xs.length - s : Nat) : Int) := by omega
                  clear hT4 HTn hlt
                  go_wp2
                  go_ret
                  exact ⟨rfl, HT4.out, HCn.out⟩
end Go.Proofs.YtdhemdeapphfoaaGreatDoor
