/- marks: All: what it hands back is the marks by their names. -/
import Derived.Test.YtccalibapiiifaaMkAll
import Derived.Test.YtccalibapiiifaaWLast
import Derived.Test.YtccalibapiiifaaWMore
namespace Go.Proofs.Ytccalibapiiifaa
open Go.RowKit Go.Maps Go.Proofs.YtccalibapiiifaaW.PrintWords Go.Proofs.YtccalibapiiifaaW.PrintLast Go.Proofs.YtccalibapiiifaaW.PrintMore

theorem sort_own {f : Int → Int} (hL : Letters f) {xs : List MK} (hm : ∀ p, p ∈ xs ↔ p.2 ≠ 0 ∧ f p.1 = p.2) (hn : (xs.map Prod.fst).Nodup) (hlen : xs.length ≤ 1000000) {w wr : World} (hb : Below w.heap.size w wr) {ok : Nat → Prop} {v : Value}
    (hr : Kd.R kdM 51 wr w.heap.size ok v xs) :
    Calls Try.prog 46 #[v, .func (.func 47) #[] #[]] wr fun e w' => e = .returned (.tuple #[]) ∧
      ∃ A c, v = .slice A (marksL f).length c ∧ kdM.C w' A (marksL f).length (marksL f) ∧ Below w.heap.size w w' ∧ (0 < (marksL f).length → ∃ g, A = some ⟨g, 0, none⟩ ∧ w.heap.size ≤ g ∧ g < w'.heap.size) := by
  cases hxs : xs with
  | nil =>
    subst hxs
    have hml : ([] : List MK) = marksL f := sorted_marks hL [] [] hm (by simp) (List.Perm.refl _) (fun i j hi => by simp at hi)
    obtain ⟨A, c, rfl, _, _⟩ := Kd.R_reads hr
    refine (Go.Proofs.AnyF.slices_SortFunc_none Try.sortMk A c _ wr).mono ?_
    rintro e w' ⟨rfl, rfl⟩
    rw [← hml]
    exact ⟨rfl, A, c, rfl, ⟨rfl, by simp, fun h => by simp at h⟩, hb, fun h => by simp at h⟩
  | cons x0 x1 =>
    have hpos : 0 < xs.length := by rw [hxs]; simp
    clear hxs
    obtain ⟨g, cap, rfl, hg, hgl, cells, hcells⟩ := Kd.R_form hr hpos
    obtain ⟨_, _, hC⟩ := Kd.R_reads' hr
    have hH := holdsM hcells hC
    have eg : ∀ args w, (callFunc 47 args).run Try.prog w = .ok (.enter 47 args) w := enter_run Try.func47 (by kernel_rfl) (by kernel_rfl)
    have hcon := Go.Proofs.AnyQ.slices_SortFunc Try.sortMk 2 Try.isAgg51 Try.sizeOf51 encM (fun _ => rfl) (fun x v hv => by simp [encM] at hv; rcases hv with rfl | rfl <;> rfl) cfM swoM 47 #[] g 0 cap xs.toArray wr eg (cmpLaysM g 0 xs.toArray.size wr) hH hgl (by simp; omega)
    refine (show Calls Try.prog 46 #[.slice (some ⟨g, 0, none⟩) xs.length cap, .func (.func 47) #[] #[]] wr _ from hcon).mono ?_
    rintro e w' ⟨rfl, d, m, os, hp, hs, rfl⟩
    have hd := sorted_list hp hs hL hm hn
    have hsz : d.size = xs.length := by rw [hp.1]; simp
    have hH2 := Go.Proofs.holdsK_sortWorldK encM 2 wr g 0 m xs.toArray d os hgl hH (by rw [hsz]; simp)
    have hR := readsM hH2 (by omega)
    have hl : (marksL f).length = xs.length := by rw [← hd]; simpa using hsz
    rw [hd] at hR
    exact ⟨rfl, some ⟨g, 0, none⟩, cap, by rw [hl], hR, sort_below hb hg m d os, fun _ => ⟨g, rfl, hg, Go.Proofs.lt_sortWorldK encM 2 wr g 0 m d os hgl⟩⟩

theorem infoM : (Try.prog.info? 51).map (fun i => (i.zero, i.size, i.bytes)) = some (some (.agg #[(.int .u8 0), (.int .i64 0)]), 2, 16) := by kernel_rfl

set_option maxRecDepth 100000 in
set_option maxHeartbeats 2000000 in
theorem all_any (b mb n : Nat) (f : Int → Int) (w : World) (c0 : w.cell? ⟨b, 0, none⟩ = some (.map (some mb))) (hM : MapOf w mb n f) (hmb : mb < w.heap.size) (hL : Letters f) (hn : n ≤ 1000000) :
    Calls Try.prog 26 #[.pointer (some ⟨b, 0, none⟩)] w fun e w' => ∃ A c, e = .returned (.slice A (marksL f).length c) ∧ kdM.C w' A (marksL f).length (marksL f) ∧ Below w.heap.size w w' ∧ (0 < (marksL f).length → ∃ g, A = some ⟨g, 0, none⟩ ∧ w.heap.size ≤ g ∧ g < w'.heap.size) := by
  obtain ⟨D, hown, hD⟩ := hM
  have HD : Hid (Reads D f) := hD
  have hsz := hown.size_le
  clear hD
  go_enter Try.func26, Try.ntmps26
  go_wp2_with (first
    | (at_range; refine wpList_range_own _ rfl _ 61 rfl 5 3 law5 Try.underlying61 _ mb n _ rfl hown ?_; intro w0 hrg0 hg0 hs0)
    | go_in)
  go_frame
  go_loopw [3] (fun v3 wr => AllRel mb n w.heap.size f w v3 wr) (fun _ wr => wr.rangeLeft mb w.heap.size)
  case atStart => exact AllRel.start HD.out hrg0 hg0 hsz
  case round =>
    obtain ⟨D1, left, cnt, xs, hrg, hb0, hr0, hD1, hlen, hA1, hA2, hA3, hA4⟩ := hrel
    have HB := Lib.hid hb0
    have HR := Lib.hid hr0
    have HD1 := Lib.hid hD1
    have H1 := Lib.hid hA1
    have H2 := Lib.hid hA2
    have H3 := Lib.hid hA3
    have H4 := Lib.hid hA4
    clear hb0 hr0 hD1 hA1 hA2 hA3 hA4
    go_wp2_with (first
      | (at_next; refine wpList_next_ranges_ii _ rfl _ rfl 5 3 .u8 .i64 law5 Try.underlying5 Try.underlying3 mb w.heap.size n _ _ _ rfl hrg ?_ ?_)
      | go_in)
    · intro _ hl0
      have HL := Lib.hid (AllRel.done hL hl0 H2.out H3.out)
      clear hl0
      have HS := Lib.hid (sort_own hL HL.out H4.out (by omega) HB.out HR.out)
      clear hrg
      go_wp2_with (first
        | (go_at_call 46; (with_reducible refine HS.out.mono ?_); rintro e w' ⟨rfl, A, c, rfl, hC, hbe, hblk⟩)
        | go_in)
      go_ret
      exact ⟨A, c, rfl, hC, hbe, hblk⟩
    · intro x c w1 cnt1 hwx hwc hlx hat hrg1 hlt hg1 hs1 hen
      have HA : Hid (∀ zd, D1.atKey (.int .u8 x) zd = .lit (.int .i64 c)) := hat
      have HX : Hid (left (.int .u8 x) = true) := hlx
      have hu8 := bounds_u8 hwx
      have HC : Hid (f x = c) := Lib.hid (by
        have := (HD1.out x hu8.1 hu8.2).1
        rw [HA.out] at this
        simpa using this.symm)
      have HB1 := Lib.hid (HB.out.grown hg1 HB.out.size (fun k hk => by cases hk; exact Nat.le_refl _))
      have HR1 := Lib.hid (Kd.R_grown HR.out hg1 (fun k hk => by simpa using hk))
      have HRG := Lib.hid hrg1
      clear hat hlx hrg1 hs1
      go_wp2_with (first
        | ((with_reducible refine gate_builtin (b := .append) (xs := #[.tmp 16, .tmp 20]) rfl ?_); at_builtin; refine Kd.R_append kdM (w0 := w) w.heap.size rfl (.tmp 16) (.tmp 20) 48 51 (.agg #[(.int .u8 0), (.int .i64 0)]) 16 rfl Try.underlying48 infoM rfl (by decide) (by omega) u3 xs (x, c) [.int .u8 x, .int .i64 c] (fun k => k ≠ w.heap.size) (fun _ => False) rfl (by first | (go_simp; done) | (go_simp; rfl)) ?aP (fun _ hk => hk.elim) ?aF ?aO ?aB ?aS ?aL ?_; (case aP => exact kdM_mkM _ _ _ (x, c)); (case aF => exact (fun k hk => by have := HRG.out.lt; omega)); (case aO => exact HR1.out); (case aB => exact HB1.out); (case aS => exact HB1.out.size); (case aL => omega); intro v1 w2 hr2 hb2 hg2 _; have HR2 := Lib.hid hr2; have HB2 := Lib.hid hb2; have HG2 := Lib.hid hg2; clear hr2 hb2 hg2)
        | go_in)
      have hne1 : some mb ≠ u3.ownBlock := fun e => by have := Kd.R_base HR1.out mb e.symm; omega
      have hne2 : some w.heap.size ≠ u3.ownBlock := Kd.R_away HR1.out (fun _ h => h)
      have hrg2 := HRG.out.kept HG2.out hne1 hne2
      go_roundw
      case rel => exact AllRel.more hrg2 HB2.out HR2.out HD1.out hlen hlt H1.out H2.out H3.out H4.out HX.out hu8.1 hu8.2 HC.out
      case measure => rw [hrg2.left_eq, hrg.left_eq]; omega

theorem all_held {B : Nat} {w0 w : World} {p mb n : Nat} {f : Int → Int} (h : Held B w0 w p mb n f) (hL : Letters f) (hn : n ≤ 1000000) :
    Calls Try.prog 26 #[.pointer (some ⟨p, 0, none⟩)] w fun e w' => ∃ A c, e = .returned (.slice A (marksL f).length c) ∧ kdM.C w' A (marksL f).length (marksL f) ∧ Held B w0 w' p mb n f ∧ Below w.heap.size w w' ∧
      (0 < (marksL f).length → ∃ g, A = some ⟨g, 0, none⟩ ∧ w.heap.size ≤ g ∧ g < w'.heap.size) := by
  refine (all_any p mb n f w h.cell h.map h.map.lt hL hn).mono ?_
  rintro e w' ⟨A, c, he, hC, hb, hg⟩
  exact ⟨A, c, he, hC, h.later hb, hb, hg⟩

end Go.Proofs.Ytccalibapiiifaa
