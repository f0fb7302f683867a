
import Derived.Test.YtdhemdeapphfoaaGreatDoorEmX
set_option linter.unusedVariables false
set_option linter.unusedSimpArgs false

/- norm's to, leap, and Do of the keys j, k, G, gg: walked. -/
set_option linter.unusedVariables false
set_option linter.unusedSimpArgs false
namespace Go.Proofs.YtdhemdeapphfoaaGreatDoor
open Go.RowKit Go.Shelf Go.Maps Go.Proofs.YtdhemdeapphfoaaGreatDoorW.PrintWords Go.Proofs.YtdhemdeapphfoaaGreatDoorW.PrintLast

/-- a key that is done, in memory -/
def Wn (w : World) (W B : Nat) (vr : Value) (cnt : Int) (op arg : ByteArray) (reg n here : Int) (text : ByteArray) : Prop :=
  w.heap[W]? = some (.cells #[.int .i64 cnt, .string op, .string arg, .pointer (some ⟨B, 0, none⟩), vr, .int .u8 reg, .int .i64 n, .int .i64 here, .string text] 66 (0, 0))

section
variable {N0 : Nat} {w0 : Base} {w w' : World} {B W : Nat} {s : Bs} {vr : Value} {cnt reg n here : Int} {op arg text : ByteArray}
theorem Bf.wn (h : Bf N0 w0 w B s) (hP : w0.P W) (hw : Wn w0.z W B vr cnt op arg reg n here text) : Wn w W B vr cnt op arg reg n here text := (h.prot W hP).2.trans hw

set_option maxRecDepth 100000 in
set_option maxHeartbeats 1000000 in
/-- Do of a key: what its 'does' answers -/
theorem ndo_any (h : Bf N0 w0 w B s) {R : Nat} {Q : Value → World → Prop} {k : Nat} (hk : s.cur = (k : Int) + 1) (hk1 : k < s.ls.length) (hl : s.ls.length ≤ 1000000) (c0 : 0 ≤ cnt) (hreg : n = min (max cnt 1) 2000) (hd : ∀ (W : Nat) (V : World), w.heap.size ≤ W → W < V.heap.size → Below w.heap.size w V → Wn V W B (.pointer (some ⟨R, 0, none⟩)) cnt op arg (if reg = 0 then 34 else reg) n ((k : Int) + 1) (s.ls.getD k ByteArray.empty) → Calls Tryz.prog 24 #[.pointer (some ⟨W, 0, none⟩)] V fun e w' => ∃ v, e = .returned v ∧ Q v w') :
    Calls Tryz.prog 10 #[.pointer (some ⟨B, 0, none⟩), .pointer (some ⟨R, 0, none⟩), .agg #[.int .i64 cnt, .string op, .string arg], .int .u8 reg] w fun e w' => ∃ v, e = .returned v ∧ Q v w' := by
  have HCU := Lib.hid (fun V (hb : Below w.heap.size w V) => hk ▸ cursor_any (h.new hb))
  have HLI := Lib.hid (fun V (hb : Below w.heap.size w V) => line_any (h.new hb) hk1 (by omega) (a := (k : Int) + 1) rfl)
  have HD := Lib.hid hd
  have b1 : ¬ (cnt < 0) := by omega
  have hal : Below w.heap.size w (w.alloc (.cells #[.int .i64 cnt, .string op, .string arg] 34)) := below_alloc (Below.refl _ w) _
  have hC : (w.alloc (.cells #[.int .i64 cnt, .string op, .string arg] 34)).heap[w.heap.size]? = some (.cells #[.int .i64 cnt, .string op, .string arg] 34 (0, 0)) := World.alloc_heap_new w _
  have e0 : (w.alloc (.cells #[.int .i64 cnt, .string op, .string arg] 34)).cell? ⟨w.heap.size, 0, none⟩ = some (.int .i64 cnt) := by rw [blk_cell hC]; rfl
  have e1 : (w.alloc (.cells #[.int .i64 cnt, .string op, .string arg] 34)).cell? ⟨w.heap.size, 1, none⟩ = some (.string op) := by rw [blk_cell hC]; rfl
  have e2 : (w.alloc (.cells #[.int .i64 cnt, .string op, .string arg] 34)).cell? ⟨w.heap.size, 2, none⟩ = some (.string arg) := by rw [blk_cell hC]; rfl
  have HBC := Lib.hid hal.drew
  clear h hd hal hC
  obtain ⟨x, hx⟩ : ∃ x, s.ls.getD k ByteArray.empty = x := ⟨_, rfl⟩
  rw [hx] at HLI HD
  obtain ⟨b, hb⟩ : ∃ b, (reg == 0) = b := ⟨_, rfl⟩
  obtain ⟨r, hr⟩ : ∃ r, (if reg = 0 then (34 : Int) else reg) = r := ⟨_, rfl⟩
  rw [hr] at HD
  cases b
  · rw [beq_eq_false_iff_ne] at hb
    rw [if_neg hb] at hr
    subst hr
    have hb' : (reg == 0) = false := by rw [beq_eq_false_iff_ne]; exact hb
    go_enter Tryz.func10, Tryz.ntmps10
    go_wp2
    go_region_held3 (fun V => V.cell? ⟨w.heap.size, 0, none⟩ = some (.int .i64 cnt) ∧ V.cell? ⟨w.heap.size, 1, none⟩ = some (.string op) ∧ V.cell? ⟨w.heap.size, 2, none⟩ = some (.string arg)) (first | exact ⟨e0, e1, e2⟩ | go_keep) (first | (go_at_call 11; (with_reducible refine (HCU.out _ HBC.out).mono ?_); rintro e w2 ⟨rfl, rfl⟩))
    go_wp2_with fail
    all_goals
      have hB2 : Below w.heap.size w ((w.alloc (.cells #[.int .i64 cnt, .string op, .string arg] 34)).alloc (.cells #[.int .i64 cnt, .string op, .string arg, .pointer (some ⟨B, 0, none⟩), .pointer (some ⟨R, 0, none⟩), .int .u8 reg, .int .i64 (min (max cnt 1) 2000), .int .i64 ((k : Int) + 1), .string ⟨#[]⟩] 66)).drew := (below_alloc (below_alloc (Below.refl _ w) _) _).drew
      have hW2 : ((w.alloc (.cells #[.int .i64 cnt, .string op, .string arg] 34)).alloc (.cells #[.int .i64 cnt, .string op, .string arg, .pointer (some ⟨B, 0, none⟩), .pointer (some ⟨R, 0, none⟩), .int .u8 reg, .int .i64 (min (max cnt 1) 2000), .int .i64 ((k : Int) + 1), .string ⟨#[]⟩] 66)).drew.heap[w.heap.size + 1]? = some (.cells #[.int .i64 cnt, .string op, .string arg, .pointer (some ⟨B, 0, none⟩), .pointer (some ⟨R, 0, none⟩), .int .u8 reg, .int .i64 (min (max cnt 1) 2000), .int .i64 ((k : Int) + 1), .string ⟨#[]⟩] 66 (0, 0)) := by
        have := heap_alloc_new (w.alloc (.cells #[.int .i64 cnt, .string op, .string arg] 34)) (.cells #[.int .i64 cnt, .string op, .string arg, .pointer (some ⟨B, 0, none⟩), .pointer (some ⟨R, 0, none⟩), .int .u8 reg, .int .i64 (min (max cnt 1) 2000), .int .i64 ((k : Int) + 1), .string ⟨#[]⟩] 66)
        rwa [show (w.alloc (.cells #[.int .i64 cnt, .string op, .string arg] 34)).heap.size = w.heap.size + 1 by simp] at this
      obtain ⟨U, hU⟩ : ∃ U, ((w.alloc (.cells #[.int .i64 cnt, .string op, .string arg] 34)).alloc (.cells #[.int .i64 cnt, .string op, .string arg, .pointer (some ⟨B, 0, none⟩), .pointer (some ⟨R, 0, none⟩), .int .u8 reg, .int .i64 (min (max cnt 1) 2000), .int .i64 ((k : Int) + 1), .string ⟨#[]⟩] 66)).drew = U := ⟨_, rfl⟩
      rw [hU] at hB2 hW2 ⊢
      clear hU e0 e1 e2
      refine (HLI.out _ hB2).mono ?_
      rintro e w3 ⟨rfl, q3, rfl⟩
      have hW3 : (U.drewN q3).heap[w.heap.size + 1]? = _ := hW2
      have z8 : (U.drewN q3).frozen? ⟨w.heap.size + 1, 8, none⟩ = false := blk_frozen hW3 8
      have c8 : (U.drewN q3).cell? ⟨w.heap.size + 1, 8, none⟩ = some (.string ⟨#[]⟩) := by rw [blk_cell hW3]; rfl
      have hB4 : Below w.heap.size w ((U.drewN q3).setCell ⟨w.heap.size + 1, 8, none⟩ (.string x)) := (pw_below_drewN hB2 q3).setCell (p := ⟨w.heap.size + 1, 8, none⟩) (Nat.le_succ _) _
      have hW4 := blk_set hW3 8 (.string x)
      have hD4 := HD.out (w.heap.size + 1) _ (Nat.le_succ _) (blk_lt hW4) hB4 (by subst hreg; exact hW4)
      have HD4 := Lib.hid hD4
      clear hB4 hW4 hD4 hB2 hW2 hW3
      go_wp2_with fail
      refine HD4.out.mono ?_
      rintro e w5 ⟨v5, rfl, h5⟩
      have H5 := Lib.hid h5
      clear h5
      go_wp2
      go_ret
      exact ⟨_, rfl, H5.out⟩
  · rw [beq_iff_eq] at hb
    subst hb
    rw [if_pos rfl] at hr
    subst hr
    go_enter Tryz.func10, Tryz.ntmps10
    go_wp2
    go_region_held3 (fun V => V.cell? ⟨w.heap.size, 0, none⟩ = some (.int .i64 cnt) ∧ V.cell? ⟨w.heap.size, 1, none⟩ = some (.string op) ∧ V.cell? ⟨w.heap.size, 2, none⟩ = some (.string arg)) (first | exact ⟨e0, e1, e2⟩ | go_keep) (first | (go_at_call 11; (with_reducible refine (HCU.out _ HBC.out).mono ?_); rintro e w2 ⟨rfl, rfl⟩))
    go_wp2_with fail
    all_goals
      have hB2 : Below w.heap.size w ((w.alloc (.cells #[.int .i64 cnt, .string op, .string arg] 34)).alloc (.cells #[.int .i64 cnt, .string op, .string arg, .pointer (some ⟨B, 0, none⟩), .pointer (some ⟨R, 0, none⟩), .int .u8 34, .int .i64 (min (max cnt 1) 2000), .int .i64 ((k : Int) + 1), .string ⟨#[]⟩] 66)).drew := (below_alloc (below_alloc (Below.refl _ w) _) _).drew
      have hW2 : ((w.alloc (.cells #[.int .i64 cnt, .string op, .string arg] 34)).alloc (.cells #[.int .i64 cnt, .string op, .string arg, .pointer (some ⟨B, 0, none⟩), .pointer (some ⟨R, 0, none⟩), .int .u8 34, .int .i64 (min (max cnt 1) 2000), .int .i64 ((k : Int) + 1), .string ⟨#[]⟩] 66)).drew.heap[w.heap.size + 1]? = some (.cells #[.int .i64 cnt, .string op, .string arg, .pointer (some ⟨B, 0, none⟩), .pointer (some ⟨R, 0, none⟩), .int .u8 34, .int .i64 (min (max cnt 1) 2000), .int .i64 ((k : Int) + 1), .string ⟨#[]⟩] 66 (0, 0)) := by
        have := heap_alloc_new (w.alloc (.cells #[.int .i64 cnt, .string op, .string arg] 34)) (.cells #[.int .i64 cnt, .string op, .string arg, .pointer (some ⟨B, 0, none⟩), .pointer (some ⟨R, 0, none⟩), .int .u8 34, .int .i64 (min (max cnt 1) 2000), .int .i64 ((k : Int) + 1), .string ⟨#[]⟩] 66)
        rwa [show (w.alloc (.cells #[.int .i64 cnt, .string op, .string arg] 34)).heap.size = w.heap.size + 1 by simp] at this
      obtain ⟨U, hU⟩ : ∃ U, ((w.alloc (.cells #[.int .i64 cnt, .string op, .string arg] 34)).alloc (.cells #[.int .i64 cnt, .string op, .string arg, .pointer (some ⟨B, 0, none⟩), .pointer (some ⟨R, 0, none⟩), .int .u8 34, .int .i64 (min (max cnt 1) 2000), .int .i64 ((k : Int) + 1), .string ⟨#[]⟩] 66)).drew = U := ⟨_, rfl⟩
      rw [hU] at hB2 hW2 ⊢
      clear hU e0 e1 e2
      refine (HLI.out _ hB2).mono ?_
      rintro e w3 ⟨rfl, q3, rfl⟩
      have hW3 : (U.drewN q3).heap[w.heap.size + 1]? = _ := hW2
      have z8 : (U.drewN q3).frozen? ⟨w.heap.size + 1, 8, none⟩ = false := blk_frozen hW3 8
      have c8 : (U.drewN q3).cell? ⟨w.heap.size + 1, 8, none⟩ = some (.string ⟨#[]⟩) := by rw [blk_cell hW3]; rfl
      have hB4 : Below w.heap.size w ((U.drewN q3).setCell ⟨w.heap.size + 1, 8, none⟩ (.string x)) := (pw_below_drewN hB2 q3).setCell (p := ⟨w.heap.size + 1, 8, none⟩) (Nat.le_succ _) _
      have hW4 := blk_set hW3 8 (.string x)
      have hD4 := HD.out (w.heap.size + 1) _ (Nat.le_succ _) (blk_lt hW4) hB4 (by subst hreg; exact hW4)
      have HD4 := Lib.hid hD4
      clear hB4 hW4 hD4 hB2 hW2 hW3
      go_wp2_with fail
      refine HD4.out.mono ?_
      rintro e w5 ⟨v5, rfl, h5⟩
      have H5 := Lib.hid h5
      clear h5
      go_wp2
      go_ret
      exact ⟨_, rfl, H5.out⟩
end
end Go.Proofs.YtdhemdeapphfoaaGreatDoor

/- norm's Do of the keys j, k, G, gg, by what they do to the cursor. -/
set_option linter.unusedVariables false
set_option linter.unusedSimpArgs false
namespace Go.Proofs.YtdhemdeapphfoaaGreatDoor
open Go.RowKit Go.Shelf Go.Maps Go.Proofs.YtdhemdeapphfoaaGreatDoorW.PrintWords Go.Proofs.YtdhemdeapphfoaaGreatDoorW.PrintLast

/-- a text, told by its lines and its cursor -/
def NBf (N0 : Nat) (wb w : World) (B : Nat) (X : List ByteArray) (k : Nat) : Prop := ∃ (w0 : Base) (s : Bs), w0.w = wb ∧ Bf N0 w0 w B s ∧ s.ls = X ∧ s.cur = (k : Int)
section
variable {N0 : Nat} {wb w w' : World} {B k : Nat} {X : List ByteArray}
theorem NBf.new (h : NBf N0 wb w B X k) (hb : Below w.heap.size w w') : NBf N0 wb w' B X k := by
  obtain ⟨w0, s, h1, h2, h3, h4⟩ := h
  exact ⟨w0, s, h1, h2.new hb, h3, h4⟩
theorem NBf.below (h : NBf N0 wb w B X k) : Below N0 wb w := by
  obtain ⟨w0, s, h1, h2, h3, h4⟩ := h
  exact h1 ▸ h2.below
theorem NBf.cursor (h : NBf N0 wb w B X k) : Calls Tryz.prog 11 #[.pointer (some ⟨B, 0, none⟩)] w fun e w' => e = .returned (.int .i64 (k : Int)) ∧ w' = w := by
  obtain ⟨w0, s, h1, h2, h3, h4⟩ := h
  exact h4 ▸ cursor_any h2

section
variable {w0 : Base} {W : Nat} {s : Bs} {vr : Value} {cnt reg n here : Int} {arg text : ByteArray}
end

end
end Go.Proofs.YtdhemdeapphfoaaGreatDoor
