/- the document's marks: All, walked. -/
import Derived.Test.YtccalibapiiifaaMe
namespace Go.Proofs.Ytccalibapiiifaa
open Go.RowKit Go.Maps Go.Proofs.YtccalibapiiifaaW.PrintWords Go.Proofs.YtccalibapiiifaaW.PrintLast Go.Proofs.YtccalibapiiifaaW.PrintMore

def marksU (f : Int → Int) (n : Nat) : List MK := ((List.range n).map fun (i : Nat) => ((97 + (i : Int), f (97 + (i : Int))) : MK)).filter fun p => decide (p.2 ≠ 0)
theorem marksU_all (f : Int → Int) : marksU f 26 = marksL f := rfl
theorem marksU_yes {f : Int → Int} {i : Nat} (h : f (97 + (i : Int)) ≠ 0) : marksU f (i + 1) = marksU f i ++ [(97 + (i : Int), f (97 + (i : Int)))] := by
  unfold marksU
  rw [List.range_succ, List.map_append, List.filter_append]
  simp [h]
theorem marksU_no {f : Int → Int} {i : Nat} (h : f (97 + (i : Int)) = 0) : marksU f (i + 1) = marksU f i := by
  unfold marksU
  rw [List.range_succ, List.map_append, List.filter_append]
  simp [h]
theorem marksU_len (f : Int → Int) (i : Nat) : (marksU f i).length ≤ i := by
  unfold marksU
  refine Nat.le_trans (List.length_filter_le _ _) ?_
  simp

set_option maxRecDepth 100000 in
set_option maxHeartbeats 2000000 in
theorem refAll {w : World} {r : Nat} {f : Int → Int} (h : RefAt w r f) (hw : Wide f) :
    Calls Try.prog 34 #[.pointer (some ⟨r, 0, none⟩)] w fun e w' => ∃ A c, e = .returned (.slice A (marksL f).length c) ∧ kdM.C w' A (marksL f).length (marksL f) ∧ Below w.heap.size w w' ∧
      (0 < (marksL f).length → ∃ g, A = some ⟨g, 0, none⟩) := by
  have H := Lib.hid h
  have HW := Lib.hid hw
  clear h hw
  go_enter Try.func34, Try.ntmps34
  go_wp2
  go_loopw [3, 4] (fun v3 v4 wr => ∃ (i : Nat), v4 = .int .i64 i ∧ i ≤ 26 ∧ Kd.R kdM 51 wr w.heap.size (fun _ => True) v3 (marksU f i) ∧ Below w.heap.size w wr) (fun _ v4 _ => 26 - (intOf v4).toNat)
  case atStart => exact ⟨0, rfl, by omega, Kd.R_nil _ _ _ _ _, Below.refl _ _⟩
  case round =>
    obtain ⟨i, rfl, hi, hr, hb⟩ := hrel
    have HR := Lib.hid hr
    have HB := Lib.hid hb
    clear hr hb
    by_cases hil : i < 26
    · have hRef := H.out.below HB.out
      have hc0 := hRef.cell hil
      have hz0 := hRef.frozen i
      clear hRef
      obtain ⟨p, hp⟩ : ∃ p, f (97 + (i : Int)) = p := ⟨_, rfl⟩
      have hpb := HW.out (97 + (i : Int))
      rw [hp] at hc0 hpb
      have HP := Lib.hid hp
      have hlen := marksU_len f i
      clear hp
      have hil' : (i : Int) < 26 := by omega
      by_cases d1 : 0 < p
      · have HU := Lib.hid (marksU_yes (f := f) (i := i) (by rw [HP.out]; omega))
        rw [HP.out] at HU
        obtain ⟨xs, hxs⟩ : ∃ xs, marksU f i = xs := ⟨_, rfl⟩
        rw [hxs] at HU HR hlen
        clear hxs
        go_wp2_with (first
          | ((with_reducible refine gate_builtin (b := .append) (xs := #[.tmp 16, .tmp 27]) rfl ?_); at_builtin; refine Kd.R_append kdM (w0 := w) w.heap.size rfl (.tmp 16) (.tmp 27) 48 51 (.agg #[(.int .u8 0), (.int .i64 0)]) 16 rfl Try.underlying48 infoM rfl (by decide) (by omega) u3 xs (97 + (i : Int), p) [.int .u8 (97 + (i : Int)), .int .i64 p] (fun _ => True) (fun _ => False) rfl (by first | (go_simp; done) | (go_simp; rfl)) ?aP (fun _ hk => hk.elim) ?aF ?aO ?aB ?aS ?aL ?_; (case aP => exact kdM_mkM _ _ _ (97 + (i : Int), p)); (case aF => exact (fun _ _ => trivial)); (case aO => exact HR.out); (case aB => exact HB.out); (case aS => exact HB.out.size); (case aL => omega); intro v1 w2 hr2 hb2 hg2 _; have HR2 := Lib.hid hr2; have HB2 := Lib.hid hb2; clear hr2 hb2 hg2)
          | go_in)
        go_roundw
        case rel => exact ⟨i + 1, by first | rfl | simp, by omega, by rw [HU.out]; exact HR2.out, HB2.out⟩
        case measure => simp [intOf]; omega
      · have HU := Lib.hid (marksU_no (f := f) (i := i) (by rw [HP.out]; omega))
        go_wp2
        go_roundw
        case rel => exact ⟨i + 1, by first | rfl | simp, by omega, by rw [HU.out]; exact HR.out, HB.out⟩
        case measure => simp [intOf]; omega
    · obtain rfl : i = 26 := by omega
      go_wp2
      go_ret
      have hR := HR.out
      rw [marksU_all] at hR
      obtain ⟨A, c, rfl, _, hC⟩ := Kd.R_reads hR
      refine ⟨A, c, rfl, hC, HB.out, fun hn => ?_⟩
      obtain ⟨g, cap, e, _⟩ := Kd.R_form hR hn
      injection e with e
      exact ⟨g, e⟩

end Go.Proofs.Ytccalibapiiifaa
