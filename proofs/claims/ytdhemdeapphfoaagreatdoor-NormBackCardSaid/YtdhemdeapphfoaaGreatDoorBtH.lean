/- The tree's Len and Insert, walked. -/
import Derived.Test.YtdhemdeapphfoaaGreatDoorBtG
import Derived.Test.YtdhemdeapphfoaaGreatDoorBtPx
set_option linter.unusedVariables false
set_option linter.unusedSimpArgs false
namespace Go.Proofs.YtdhemdeapphfoaaGreatDoor
open Go.RowKit Go.Shelf Go.Proofs.YtdhemdeapphfoaaGreatDoorW.PrintWords Go.Proofs.YtdhemdeapphfoaaGreatDoorW.PrintLast

/-- a tree in memory, of these lines -/
def TreeIs (w : World) (F : Nat → Prop) (B : Nat) (ls : List ByteArray) : Prop := ∃ (A : List Bt.Nd) (fr : List Nat) (root d : Nat) (p : Bt.Part), Ta w F B A fr root ∧ Bt.Ok A fr root ls d p
theorem TreeIs.step {w w' : World} {F : Nat → Prop} {B : Nat} {ls : List ByteArray} (h : TreeIs w F B ls) (hs : ∀ b, b < w.heap.size → F b → w'.heap[b]? = w.heap[b]?) : TreeIs w' F B ls := by
  obtain ⟨A, fr, root, d, p, h, ho⟩ := h
  exact ⟨A, fr, root, d, p, h.step hs, ho⟩
theorem TreeIs.drewN {w : World} {F : Nat → Prop} {B : Nat} {ls : List ByteArray} (h : TreeIs w F B ls) (n : Nat) : TreeIs (w.drewN n) F B ls := h.step fun _ _ _ => rfl
theorem TreeIs.below {w w' : World} {F : Nat → Prop} {B : Nat} {ls : List ByteArray} (h : TreeIs w F B ls) (hb : Below w.heap.size w w') : TreeIs w' F B ls := h.step fun b hl _ => hb.block b hl

theorem len_ta {w : World} {F : Nat → Prop} {B : Nat} {A : List Bt.Nd} {fr : List Nat} {root d : Nat} {p : Bt.Part} {ls : List ByteArray} (h : Ta w F B A fr root) (ho : Bt.Ok A fr root ls d p) :
    Calls Tryz.prog 22 #[.pointer (some ⟨B, 0, none⟩)] w fun e w' => e = .returned (.int .i64 (ls.length : Nat)) ∧ ∃ n, w' = w.drewN n := by
  obtain ⟨N, cap, fv, bytes, L, hT, rfl⟩ := h
  obtain ⟨y, hy, hc⟩ := ho.rep.get
  rw [ho.id] at hy
  obtain ⟨x, hx, rfl⟩ := pus_some hy
  refine (len_any hT hx).mono ?_
  rintro e w' ⟨rfl, hw⟩
  refine ⟨?_, hw⟩
  rw [show x.ct = p.ls.length from hc, ho.lines]

theorem Ta.box {w : World} {F : Nat → Prop} {B : Nat} {A : List Bt.Nd} {fr : List Nat} {root : Nat} (h : Ta w F B A fr root) : w.cell? ⟨B, 2, none⟩ = some (.int .i64 root) ∧ (∃ bytes, w.cell? ⟨B, 3, none⟩ = some (.int .i64 bytes)) ∧ (∀ j, w.frozen? ⟨B, j, none⟩ = false) ∧ F B := by
  obtain ⟨N, cap, fv, bytes, L, hT, _⟩ := h
  exact ⟨hT.c2, ⟨bytes, hT.c3⟩, hT.zB, hT.footB⟩
theorem Ta.setRoot {w : World} {F : Nat → Prop} {B : Nat} {A : List Bt.Nd} {fr : List Nat} {root : Nat} (h : Ta w F B A fr root) (r : Nat) : Ta (w.setCell ⟨B, 2, none⟩ (.int .i64 r)) F B A fr r := by
  obtain ⟨N, cap, fv, bytes, L, hT, hA⟩ := h
  exact (hT.setRoot r).ta hA
theorem Ta.setBytes {w : World} {F : Nat → Prop} {B : Nat} {A : List Bt.Nd} {fr : List Nat} {root : Nat} (h : Ta w F B A fr root) (r : Int) : Ta (w.setCell ⟨B, 3, none⟩ (.int .i64 r)) F B A fr root := by
  obtain ⟨N, cap, fv, bytes, L, hT, hA⟩ := h
  exact (hT.setBytes r).ta hA

/-- make of a node of two kids -/
theorem make_ta {w : World} {F : Nat → Prop} {B : Nat} {A : List Bt.Nd} {fr : List Nat} {root : Nat} (h : Ta w F B A fr root) (hF : ∀ b, w.heap.size ≤ b → F b) (hlen : A.length + 1 ≤ 1000000000000) (hfr : ∀ j ∈ fr, j < A.length) {a b : Nat}
    {A' : List Bt.Nd} {fr' : List Nat} {m : Nat} (hm : Bt.mk A fr ⟨[], [a, b], 0⟩ = (A', fr', m)) :
    Calls Tryz.prog 49 #[.pointer (some ⟨B, 0, none⟩), .agg #[.slice none 0 0, .slice (some ⟨w.heap.size, 0, none⟩) 2 2, .int .i64 0]] (w.alloc (.cells #[.int .i64 a, .int .i64 b] 3)) fun e w' => e = .returned (.int .i64 m) ∧ Ta w' F B A' fr' root ∧ Chg F w w' := by
  obtain ⟨N, cap, fv, bytes, L, hT, rfl⟩ := h
  rw [pus_length] at hlen hfr
  have hy : Fresh (w.alloc (.cells #[.int .i64 a, .int .i64 b] 3)) F fv L ⟨.slice none 0 0, .slice (some ⟨w.heap.size, 0, none⟩) 2 2, [], [a, b], 0⟩ := by
    refine ⟨Rw.nil _ _, ⟨cK_one, .inr ⟨w.heap.size, 2, [], rfl, ?_, Nat.le_refl _, Nat.le_refl _, by unfold maxLen; omega⟩⟩, fun b hb => (by cases hb), fun b hb => ?_⟩
    · simpa [cK, kI, cI] using heap_alloc_new w (.cells #[.int .i64 (a : Int), .int .i64 (b : Int)] 3)
    · injection hb with hb
      simp only at hb
      subst hb
      exact ⟨hF _ (Nat.le_refl _), fun e => absurd (hT.free.lt _ e) (Nat.lt_irrefl _), fun j z hz e => absurd (hT.own_lt_k hz _ e) (Nat.lt_irrefl _)⟩
  refine (make_any (hT.alloc _) (fun b hb => hF b (by simp at hb; omega)) hy hlen hfr).mono ?_
  rintro e w' ⟨rfl, h1, h2⟩
  have e1 : Bt.mk (pus L) fr (NV.pu ⟨.slice none 0 0, .slice (some ⟨w.heap.size, 0, none⟩) 2 2, [], [a, b], 0⟩) = (A', fr', m) := hm
  rw [e1] at h1 ⊢
  exact ⟨rfl, h1, ((Chg.refl F w).alloc _).trans h2⟩

set_option maxRecDepth 100000 in
set_option maxHeartbeats 1000000 in
theorem Insert_any {w : World} {F : Nat → Prop} {B : Nat} {ls : List ByteArray} (h : TreeIs w F B ls) {i : Nat} {line : ByteArray} (hi : i ≤ ls.length) (hb : ls.length + 2 ≤ 1000000000) (hF : ∀ b, w.heap.size ≤ b → F b) (hline : line.size ≤ 1000000000) :
    Calls Tryz.prog 31 #[.pointer (some ⟨B, 0, none⟩), .int .i64 i, .string line] w fun e w' => e = .returned (.bool true) ∧ TreeIs w' F B (Bt.insAt ls i line) ∧ Chg F w w' := by
  obtain ⟨A, fr, root, d, p, hT, ho⟩ := h
  have hdeep := ho.deep
  have hfew := ho.few
  obtain ⟨k2, ⟨by0, k3⟩, kz, kF⟩ := hT.box
  have HT := Lib.hid hT
  have HO := Lib.hid ho
  have HF := Lib.hid hF
  have hin := fun q => insert_any d (hT.drewN q) ho.rep (i := i) (line := line) (by rw [ho.lines]; exact hi) ho.nodup ho.free hF (by rw [ho.lines]; omega) (by omega)
  rw [ho.id, ho.lines] at hin
  have HIN := Lib.hid hin
  have hil : (Bt.insAt ls i line).length = ls.length + 1 := by unfold Bt.insAt; rw [List.length_append, List.length_cons, List.length_take, List.length_drop]; omega
  have HIL := Lib.hid hil
  clear hT ho hF hin hil k3 kz
  go_enter Tryz.func31, Tryz.ntmps31
  go_wp2_with (go_at_call 22; refine (len_ta HT.out HO.out).mono ?_; rintro e w1 ⟨rfl, q, rfl⟩)
  go_at_call 48
  refine (HIN.out _).mono ?_
  rintro e w2 ⟨A1, fr1, oth, q1, r1, t1, rfl, ta2, ch2, hins⟩
  have HC2 := Lib.hid (((Chg.refl F w).drewN q).trans ch2)
  rcases oth with _ | o
  · have hok := Bt.ok_ins_none HO.out hins (by rw [HIL.out]; omega)
    have HOK := Lib.hid hok
    have HTA2 := Lib.hid ta2
    obtain ⟨_, ⟨by2, k3⟩, kz, _⟩ := ta2.box
    have kz3 := kz 3
    clear ta2 ch2 hins hok kz k2
    unfold othV
    go_wp2
    go_ret
    exact ⟨rfl, ⟨_, _, _, _, _, HTA2.out.setBytes _, HOK.out⟩, HC2.out.setCell kF _⟩
  · obtain ⟨g1, g2, g3, g4, A2, fr2, m, t2, y, em, m1, m2, m3, m4, hok⟩ := Bt.ok_ins_some HO.out hins (by rw [HIL.out]; omega)
    have HG := Lib.hid (And.intro g1 (And.intro g2 (And.intro m1 (And.intro m2 (And.intro m3 (And.intro m4 hok))))))
    have hone : ¬ ((o : Int) = -1) := by omega
    have HTA2 := Lib.hid ta2
    obtain ⟨k2', _, _, _⟩ := ta2.box
    have HEM := Lib.hid em
    clear ta2 ch2 hins g1 g2 g3 g4 m1 m2 m3 m4 hok em k2
    unfold othV
    go_wp2_with fail
    go_at_call 49
    refine (make_ta HTA2.out (fun b hb => HF.out b (Nat.le_trans HC2.out.size hb)) (by have := HG.out.2.1; omega) HG.out.1 HEM.out).mono ?_
    rintro e w3 ⟨rfl, ta3, ch3⟩
    obtain ⟨k2, _, kz, _⟩ := ta3.box
    have kz2 := kz 2
    have HTA3 := Lib.hid (ta3.setRoot m)
    have HC3 := Lib.hid ((HC2.out.trans ch3).setCell (p := ⟨B, 2, none⟩) kF (.int .i64 m))
    clear ta3 ch3 kz k2'
    go_wp2_with fail
    go_at_call 50
    have hg := HG.out
    refine (sum_ta HTA3.out hg.2.2.1 hg.2.2.2.1 (by have := hg.2.2.2.2.1; rw [this, HIL.out]; simp only [List.length_nil]; omega)).mono ?_
    rintro e w4 ⟨rfl, ta4, ch4⟩
    obtain ⟨_, ⟨by4, k3⟩, kz, _⟩ := ta4.box
    have kz3 := kz 3
    have HTA4 := Lib.hid ta4
    have HC4 := Lib.hid (HC3.out.trans ch4)
    clear ta4 ch4 kz hg k2 kz2
    go_wp2
    go_ret
    exact ⟨rfl, ⟨_, _, _, _, _, HTA4.out.setBytes _, HG.out.2.2.2.2.2.2⟩, HC4.out.setCell kF _⟩
end Go.Proofs.YtdhemdeapphfoaaGreatDoor
