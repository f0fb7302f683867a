/- The tree's Part, walked. -/
import Derived.Test.YtdhemdeapphfoaaGreatDoorBtZ
set_option linter.unusedVariables false
set_option linter.unusedSimpArgs false
namespace Go.Proofs.YtdhemdeapphfoaaGreatDoor
open Go.RowKit Go.Shelf Go.Proofs.YtdhemdeapphfoaaGreatDoorW.PrintWords Go.Proofs.YtdhemdeapphfoaaGreatDoorW.PrintLast

def PartPost (N0 : Nat) (w : World) (xs : List ByteArray) (e : Ending) (w' : World) : Prop := ∃ v, e = .returned (.tuple #[v, .bool true]) ∧ Own N0 w w' v xs

set_option maxRecDepth 100000 in
set_option maxHeartbeats 1000000 in
theorem Part_any {w : World} {F : Nat → Prop} {B : Nat} {ls : List ByteArray} (h0 : TreeIs w F B ls) {i n : Nat} (hi : i + n ≤ ls.length) (hl : ls.length ≤ 1000000000) :
    Calls Tryz.prog 123 #[.pointer (some ⟨B, 0, none⟩), .int .i64 i, .int .i64 n] w (PartPost w.heap.size w ((ls.drop i).take n)) := by
  have h := h0.tight
  clear h0
  have HT := Lib.hid h
  have HSP0 := Lib.hid (span_any h hi (by omega))
  have hn' : (n : Int) ≤ 1000000000 := by omega
  obtain ⟨i0, hi0, hz0, hz1, hz2⟩ := info_parts infoS
  have HINF := Lib.hid (And.intro hi0 (And.intro hz0 (And.intro hz1 hz2)))
  clear h hi0 hz0 hz1 hz2
  go_enter Tryz.func123, Tryz.ntmps123
  go_wp2_with (go_at_call 150; refine HSP0.out.mono ?_; rintro e w1 ⟨rfl, q, rfl⟩)
  go_loopw [8, 18] (fun v8 v18 wr => ∃ k : Nat, v18 = .int .i64 k ∧ k ≤ n ∧ Own w.heap.size w wr v8 ((ls.drop i).take k)) (fun _ v18 _ => n - (intOf v18).toNat)
  case atStart => exact ⟨0, rfl, Nat.zero_le _, Rw.nil _ _, fun b hb => (by cases hb), pw_below_drewN (Below.refl _ _) q⟩
  case round =>
    obtain ⟨k, rfl, hk, hrw, hrN, hbl⟩ := hrel
    obtain ⟨A0, c0, hv0, hl0, hm0, _⟩ := hrw.slice
    have hlen0 : ((ls.drop i).take k).length = k := by rw [List.length_take, List.length_drop]; omega
    rw [cS_len, hlen0] at hv0 hl0
    subst hv0
    unfold maxLen at hm0
    have HRW := Lib.hid hrw
    have HRN := Lib.hid hrN
    have HBl := Lib.hid hbl
    clear hrw hrN hbl
    by_cases hlt : k < n
    · have hlt' : (k : Int) < n := by omega
      have hta : TreeIs wr (fun b => F b ∧ b < w.heap.size) B ls := HT.out.step (fun b hl hf => HBl.out.block b hf.2)
      have hget := Get_any hta (i := i + k) (by omega) hl
      rw [show ((i + k : Nat) : Int) = (i : Int) + k by omega] at hget
      have hik : (ls.drop i)[k]? = some (ls.getD (i + k) ByteArray.empty) := by rw [List.getElem?_drop, List.getD_eq_getElem?_getD, List.getElem?_eq_getElem (by omega)]; rfl
      obtain ⟨x, hxe⟩ : ∃ x, x = ls.getD (i + k) ByteArray.empty := ⟨_, rfl⟩
      rw [← hxe] at hget hik
      have HGET := Lib.hid hget
      have htk : (ls.drop i).take (k + 1) = (ls.drop i).take k ++ [x] := by
        obtain ⟨h1, h2⟩ := List.getElem?_eq_some_iff.1 hik
        rw [List.take_succ_eq_append_getElem h1, h2]
      have HTK := Lib.hid htk
      have HL0 := Lib.hid hlen0
      clear hget htk hik hxe hta hlen0
      have HGO := Lib.hid (And.intro hlt hlt')
      go_wp2_with (first
        | (go_at_call 34; refine HGET.out.mono ?_; rintro e w3 ⟨rfl, q3, rfl⟩)
        | (at_builtin; refine wpList_append_rw (v := .slice A0 k c0) (cs := cS ((ls.drop i).take k)) _ rfl _ _ 23 23 rfl 9 i0 (.string ⟨#[]⟩) 16 Tryz.underlying23 HINF.out.1 HINF.out.2.1 HINF.out.2.2.1 HINF.out.2.2.2 rfl rfl ((HRW.out.drewN q3).alloc _) (.slice (some ⟨wr.heap.size, 0, none⟩) 1 1) 1 [.string x] rfl (src_blk _ _ _ _ Tryz.underlying23 _ rfl (new_at _ _ rfl _)) ?c1 ?c2 ?_; rotate_left 2; intro v1 w1 hr1 hg1 ha1; have HR1 := Lib.hid hr1; have HG1 := Lib.hid hg1; have HA1 := Lib.hid ha1; clear hr1 hg1 ha1))
      case c1 => rw [cS_len, HL0.out]; omega
      case c2 => rw [cS_len, HL0.out]; omega
      have h5 := HR1.out
      rw [show cS ((ls.drop i).take k) ++ [Value.string x] = cS ((ls.drop i).take (k + 1)) by rw [HTK.out]; simp [cS]] at h5
      have hsz : w.heap.size ≤ ((wr.drewN q3).alloc (.cells #[.string x] 9)).heap.size := Nat.le_trans HBl.out.size (by simp)
      have h6 : ∀ b, v1.ownBlock = some b → w.heap.size ≤ b := HA1.out.from HRN.out hsz
      have h7 : Below w.heap.size w w1 := ((pw_below_drewN HBl.out q3).alloc (Nat.le_trans HBl.out.size (by simp)) (.cells #[.string x] 9)).grown HG1.out hsz HRN.out
      have H5 := Lib.hid (And.intro h5 (And.intro h6 h7))
      clear h5 h6 h7 hsz
      go_roundw
      case rel => first | exact ⟨k + 1, by go_num, HGO.out.1, H5.out.1, H5.out.2.1, H5.out.2.2⟩ | ((repeat apply Exists.intro); exact ⟨⟨k + 1, by go_num, HGO.out.1, H5.out.1, H5.out.2.1, H5.out.2.2⟩, rfl⟩)
      case measure => have := HGO.out.1; simp [intOf]; omega
    · obtain rfl : k = n := by omega
      have hlt' : ¬ (k : Int) < k := by omega
      clear hlt
      go_wp2
      go_ret2
      exact ⟨_, rfl, HRW.out, HRN.out, HBl.out⟩
end Go.Proofs.YtdhemdeapphfoaaGreatDoor
