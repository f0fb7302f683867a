/- The tree's Delete, walked. -/
import Derived.Test.YtdhemdeapphfoaaGreatDoorBtS
import Derived.Test.YtdhemdeapphfoaaGreatDoorBtPx
set_option linter.unusedVariables false
set_option linter.unusedSimpArgs false
namespace Go.Proofs.YtdhemdeapphfoaaGreatDoor
open Go.RowKit Go.Shelf Go.Proofs.YtdhemdeapphfoaaGreatDoorW.PrintWords Go.Proofs.YtdhemdeapphfoaaGreatDoorW.PrintLast

set_option maxRecDepth 100000 in
set_option maxHeartbeats 2000000 in
theorem Delete_any {w : World} {F : Nat → Prop} {B : Nat} {ls : List ByteArray} (h : TreeIs w F B ls) {i : Nat} (hi : i < ls.length) (hb : ls.length ≤ 1000000000) (hF : ∀ b, w.heap.size ≤ b → F b) :
    Calls Tryz.prog 152 #[.pointer (some ⟨B, 0, none⟩), .int .i64 i] w fun e w' => e = .returned (.bool true) ∧ TreeIs w' F B (ls.eraseIdx i) ∧ Chg F w w' := by
  obtain ⟨A, fr, root, d, p, hT, ho⟩ := h
  have hfew := ho.few
  obtain ⟨k2, ⟨by0, k3⟩, kz, kF⟩ := hT.box
  have hpl := ho.perm.length_eq
  rw [List.length_range, List.length_append] at hpl
  have hrm := fun q => remove_any d (hT.drewN q) ho.rep (i := i) (by rw [ho.lines]; exact hi) ho.nodup (by have := ho.root2; exact this) hF (by rw [ho.lines]; omega) (by omega)
  rw [ho.id] at hrm
  have HRM := Lib.hid hrm
  have HT := Lib.hid hT
  have HO := Lib.hid ho
  have HF := Lib.hid hF
  have hi' : (i : Int) < ls.length := by omega
  clear hT ho hF hrm kz
  go_enter Tryz.func152, Tryz.ntmps152
  go_wp2_with (go_at_call 22; refine (len_ta HT.out HO.out).mono ?_; rintro e w1 ⟨rfl, q, rfl⟩)
  go_region_with (go_at_call 169; refine (HRM.out _).mono ?_; rintro e w2 ⟨A1, fr1, q1, rfl, ta2, ch2, hrem⟩; obtain ⟨k2', ⟨by2, k3'⟩, kz, _⟩ := ta2.box; have kz3 := kz 3; have HTA2 := Lib.hid ta2; have HC2 := Lib.hid ch2; have HREM := Lib.hid hrem; clear ta2 ch2 hrem kz)
  all_goals
    obtain ⟨n, hn, hok1, hok2⟩ := Bt.ok_rem HO.out HREM.out
    obtain ⟨N, cap, fv, bytes, L, hT2, hp2⟩ := HTA2.out
    rw [← hp2] at hn
    obtain ⟨x, hx, rfl⟩ := pus_some hn
    rw [HO.out.lines] at hok1 hok2
    have b0 := hT2.c0
    have n1 := hT2.n1 hx
    have hkl := (List.getElem?_eq_some_iff.1 hx).1
    have hf := hT2.fit
    have hle := hT2.le
    unfold maxLen at hf
    have hkl' : (root : Int) < L.length := by omega
    have hBN := hT2.BN
    have hNB : ¬ N = B := fun e => hBN e.symm
    have hT2l := HREM.out.length
    have hfl := HREM.out.perm.length_eq
    rw [List.length_append, List.length_append] at hfl
    have hfr1 : fr1.length ≤ 1000000000000 := by omega
    obtain ⟨A2, c2, hv2, hl2, hm2, hA2⟩ := (hT2.kids _ x hx).slice
    rw [cK_len] at hv2 hl2 hA2
    rw [hv2] at n1
    unfold maxLen at hm2
    have hrow := hT2.kids _ x hx
    rw [hv2] at hrow
    have HROW := Lib.hid hrow
    have HA2 := Lib.hid hA2
    have HV2 := Lib.hid hv2
    have HX := Lib.hid hx
    have HT2 := Lib.hid hT2
    have HP2 := Lib.hid hp2
    have HOK1 := Lib.hid hok1
    have HOK2 := Lib.hid hok2
    clear hn hok1 hok2 hT2 hp2 hx hT2l hfl hA2 hrow hv2 hpl
    by_cases h1 : x.ks.length = 1
    · have hb1 : (((x.ks.length : Nat) : Int) == 1) = true := by rw [h1]; rfl
      obtain ⟨y, d2, hyk, hok⟩ := HOK2.out h1
      have hyk : x.ks = [y.id] := hyk
      have HOK := Lib.hid hok
      obtain ⟨g, rfl⟩ := HA2.out (by omega)
      have hrow := HROW.out
      rw [hyk] at hrow
      have hgc := hrow.cell (j := 0) (cK_at (show [y.id][0]? = some y.id from rfl))
      have hgl : g < w2.heap.size := hrow.lt g rfl
      have hgN : g ≠ N := fun e => by
        obtain ⟨rest, hr, _⟩ := HT2.out.row
        exact hrow.ne hr (by decide) (by rw [e]; rfl)
      have hgB : g ≠ B := fun e => HT2.out.B_rows hrow (by decide) g rfl e
      have hgF : fv.ownBlock ≠ some g := HT2.out.apartF root x g HX.out (by rw [HV2.out]; rfl)
      have HG := Lib.hid (And.intro hgc (And.intro hgl (And.intro hgN (And.intro hgB hgF))))
      have HYK := Lib.hid hyk
      have hpos : (0 : Int) < ((x.ks.length : Nat) : Int) := by omega
      clear hrow hgc hgN hgB hgF hok hyk h1
      go_wp2
      go_quiet (fail)
      go_wp2_with fail
      go_at_call 170
      refine (drop_tw ((HT2.out.setBytes _).drewN _) HX.out hfr1 (fun b hb => HF.out b (Nat.le_trans HC2.out.size (by simpa [World.setCell] using hb)))).mono ?_
      rintro e w3 ⟨rfl, ⟨fv4, hT4⟩, ch4, hkeep⟩
      obtain ⟨hgc, hgl, hgN, hgB, hgF⟩ := HG.out
      have hgc3 : w3.cell? ⟨g, 0, none⟩ = some (.int .i64 y.id) := by
        have hk := hkeep g (by simpa [World.setCell] using hgl) hgN hgB hgF
        refine (World.cell?_of_block (a := ⟨g, 0, none⟩) hk).trans ?_
        refine Eq.trans ?_ hgc
        exact World.cell?_of_block (w := w2) (a := ⟨g, 0, none⟩) (Below.heap_setCell w2 ⟨B, 3, none⟩ _ g hgB)
      have k4 := hT4.c2
      have kz4 := hT4.zB 2
      have HT4 := Lib.hid hT4
      have HC4 := Lib.hid (((((Chg.refl F w).drewN _).trans HC2.out).setCell (p := ⟨B, 3, none⟩) kF _).drewN _ |>.trans ch4)
      clear hT4 ch4 hkeep hgc hgN hgB hgF
      go_wp2
      go_ret
      have hOKf : Bt.Ok (pus (L.set root ⟨.slice none 0 0, .slice none 0 0, [], [], 0⟩)) (fr1 ++ [root]) y.id (ls.eraseIdx i) d2 y := by
        rw [pus_set, HP2.out]
        exact HOK.out
      exact ⟨rfl, ⟨_, _, _, d2, y, (HT4.out.setRoot y.id).ta rfl, hOKf⟩, HC4.out.setCell kF _⟩
    · have hb1 : (((x.ks.length : Nat) : Int) == 1) = false := by
        have : ((x.ks.length : Nat) : Int) ≠ 1 := by omega
        simpa using this
      have H1 := Lib.hid h1
      clear h1
      go_wp2
      go_quiet (fail)
      go_wp2
      all_goals first | (exfalso; omega) | skip
      go_ret
      have hOKf := HOK1.out H1.out
      exact ⟨rfl, ⟨_, _, _, _, _, (HTA2.out.setBytes _).drewN _, hOKf⟩, (((((Chg.refl F w).drewN _).trans HC2.out).setCell kF _).drewN _)⟩
end Go.Proofs.YtdhemdeapphfoaaGreatDoor
