import Derived.Test.YtdhemdeapphfoaaGreatDoorEmX
set_option linter.unusedVariables false
set_option linter.unusedSimpArgs false

/- norm's to, leap, and Do of the keys j, k, G, gg: walked. -/
set_option linter.unusedVariables false
set_option linter.unusedSimpArgs false
namespace Go.Proofs.YtdhemdeapphfoaaGreatDoor
open Go.RowKit Go.Shelf Go.Maps Go.Proofs.YtdhemdeapphfoaaGreatDoorW.PrintWords Go.Proofs.YtdhemdeapphfoaaGreatDoorW.PrintLast

/-- a key that is done, in memory -/
def Wn (w : World) (W B : Nat) (vr : Value) (cnt : Int) (op arg : ByteArray) (reg n here : Int) (text : ByteArray) : Prop :=
  w.heap[W]? = some (.cells #[.int .i64 cnt, .string op, .string arg, .pointer (some ⟨B, 0, none⟩), vr, .int .u8 reg, .int .i64 n, .int .i64 here, .string text] 66 (0, 0))

section
variable {N0 : Nat} {w0 : Base} {w w' : World} {B W : Nat} {s : Bs} {vr : Value} {cnt reg n here : Int} {op arg text : ByteArray}
theorem Bf.wn (h : Bf N0 w0 w B s) (hP : w0.P W) (hw : Wn w0.z W B vr cnt op arg reg n here text) : Wn w W B vr cnt op arg reg n here text := (h.prot W hP).2.trans hw

set_option maxRecDepth 100000 in
set_option maxHeartbeats 1000000 in
theorem to_ok (h : Bf N0 w0 w B s) (hP : w0.P W) (hw : Wn w0.z W B vr cnt op arg reg n here text) {t : Int} (h1 : 1 ≤ t) (h2 : t ≤ s.ls.length) :
    Calls Tryz.prog 35 #[.pointer (some ⟨W, 0, none⟩), .int .i64 t] w (BfPost N0 w0 B (putS s t) (.int .u16 0)) := by
  obtain ⟨T, hlen⟩ := h.lenW
  obtain ⟨k0, _⟩ := hlen w (Below.refl _ _)
  have HL := Lib.hid hlen
  have k3 : w.cell? ⟨W, 3, none⟩ = some (.pointer (some ⟨B, 0, none⟩)) := by rw [blk_cell (h.wn hP hw)]; rfl
  have HW := Lib.hid hw
  have HH := Lib.hid h
  have HPU := Lib.hid (fun V (hb : Below w.heap.size w V) => bput_any (h.new hb) t)
  have hS := Lib.hid (show ∀ V, Below w.heap.size w V → V.cell? ⟨W, 3, none⟩ = some (.pointer (some ⟨B, 0, none⟩)) from fun V hb => (World.cell?_of_block (a := ⟨W, 3, none⟩) (hb.block W (cell_lt k3))).trans k3)
  have b1 : ¬ (t < 1) := by omega
  have b2 : ¬ ((s.ls.length : Int) < t) := by omega
  clear h hw hlen
  go_enter Tryz.func35, Tryz.ntmps35
  go_wp2_with (first
    | (go_at_call 22; refine (HL.out _ (Below.refl _ _)).2.mono ?_; rintro e wa ⟨rfl, n1, rfl⟩)
    | (go_at_call 9; refine (HPU.out _ (below_drewN w _)).mono ?_; rintro e w3 ⟨rfl, b3, _, _⟩; have H3 := Lib.hid b3; clear b3))
  go_ret
  exact ⟨rfl, H3.out⟩
set_option maxRecDepth 100000 in
set_option maxHeartbeats 1000000 in
theorem to_no (h : Bf N0 w0 w B s) (hP : w0.P W) (hw : Wn w0.z W B vr cnt op arg reg n here text) {t : Int} (h1 : t < 1 ∨ (s.ls.length : Int) < t) :
    Calls Tryz.prog 35 #[.pointer (some ⟨W, 0, none⟩), .int .i64 t] w (BfPost N0 w0 B s (.int .u16 190)) := by
  obtain ⟨T, hlen⟩ := h.lenW
  obtain ⟨k0, _⟩ := hlen w (Below.refl _ _)
  have HL := Lib.hid hlen
  have k3 : w.cell? ⟨W, 3, none⟩ = some (.pointer (some ⟨B, 0, none⟩)) := by rw [blk_cell (h.wn hP hw)]; rfl
  have HH := Lib.hid h
  clear h hw hlen
  by_cases b1 : t < 1
  · clear h1
    go_enter Tryz.func35, Tryz.ntmps35
    go_wp2_with (first
      | (go_at_call 22; refine (HL.out _ (Below.refl _ _)).2.mono ?_; rintro e wa ⟨rfl, n1, rfl⟩))
    go_ret
    exact ⟨rfl, HH.out⟩
  · have b2 : (s.ls.length : Int) < t := by omega
    clear h1
    go_enter Tryz.func35, Tryz.ntmps35
    go_wp2_with (first
      | (go_at_call 22; refine (HL.out _ (Below.refl _ _)).2.mono ?_; rintro e wa ⟨rfl, n1, rfl⟩))
    go_ret
    exact ⟨rfl, HH.out.new (below_drewN w _)⟩

set_option maxRecDepth 100000 in
set_option maxHeartbeats 1000000 in
theorem leap_any (h : Bf N0 w0 w B s) (hP : w0.P W) (hw : Wn w0.z W B vr cnt op arg reg n here text) (line : Int) :
    Calls Tryz.prog 36 #[.pointer (some ⟨W, 0, none⟩), .int .i64 line] w (BfPost N0 w0 B (putS s (if 0 < cnt then cnt else line)) (.int .u16 0)) := by
  have hk := h.wn hP hw
  have k3 : w.cell? ⟨W, 3, none⟩ = some (.pointer (some ⟨B, 0, none⟩)) := by rw [blk_cell hk]; rfl
  have k0 : w.cell? ⟨W, 0, none⟩ = some (.int .i64 cnt) := by rw [blk_cell hk]; rfl
  have HPU := Lib.hid (fun t V (hb : Below w.heap.size w V) => bput_any (h.new hb) t)
  clear h hw hk
  by_cases hc : 0 < cnt
  · rw [if_pos hc]
    go_enter Tryz.func36, Tryz.ntmps36
    go_wp2_with (first
      | (go_at_call 9; refine (HPU.out _ _ (Below.refl _ w)).mono ?_; rintro e w3 ⟨rfl, b3, _, _⟩; have H3 := Lib.hid b3; clear b3))
    go_ret
    exact ⟨rfl, H3.out⟩
  · rw [if_neg hc]
    go_enter Tryz.func36, Tryz.ntmps36
    go_wp2_with (first
      | (go_at_call 9; refine (HPU.out _ _ (Below.refl _ w)).mono ?_; rintro e w3 ⟨rfl, b3, _, _⟩; have H3 := Lib.hid b3; clear b3))
    go_ret
    exact ⟨rfl, H3.out⟩

/-- what 'to' does -/
def toP (s : Bs) (t : Int) : Bs × Int := if 1 ≤ t ∧ t ≤ s.ls.length then (putS s t, 0) else (s, 190)
theorem to_any (h : Bf N0 w0 w B s) (hP : w0.P W) (hw : Wn w0.z W B vr cnt op arg reg n here text) (t : Int) :
    Calls Tryz.prog 35 #[.pointer (some ⟨W, 0, none⟩), .int .i64 t] w (BfPost N0 w0 B (toP s t).1 (.int .u16 (toP s t).2)) := by
  unfold toP
  by_cases hc : 1 ≤ t ∧ t ≤ s.ls.length
  · rw [if_pos hc]
    exact to_ok h hP hw hc.1 hc.2
  · rw [if_neg hc]
    exact to_no h hP hw (by omega)

set_option maxRecDepth 100000 in
set_option maxHeartbeats 1000000 in
/-- Do of a key: what its 'does' answers -/
theorem ndo_any (h : Bf N0 w0 w B s) {R : Nat} {Q : Value → World → Prop} {k : Nat} (hk : s.cur = (k : Int) + 1) (hk1 : k < s.ls.length) (hl : s.ls.length ≤ 1000000) (c0 : 0 ≤ cnt) (hreg : n = min (max cnt 1) 2000) (hd : ∀ (W : Nat) (V : World), w.heap.size ≤ W → W < V.heap.size → Below w.heap.size w V → Wn V W B (.pointer (some ⟨R, 0, none⟩)) cnt op arg (if reg = 0 then 34 else reg) n ((k : Int) + 1) (s.ls.getD k ByteArray.empty) → Calls Tryz.prog 24 #[.pointer (some ⟨W, 0, none⟩)] V fun e w' => ∃ v, e = .returned v ∧ Q v w') :
    Calls Tryz.prog 10 #[.pointer (some ⟨B, 0, none⟩), .pointer (some ⟨R, 0, none⟩), .agg #[.int .i64 cnt, .string op, .string arg], .int .u8 reg] w fun e w' => ∃ v, e = .returned v ∧ Q v w' := by
  have HCU := Lib.hid (fun V (hb : Below w.heap.size w V) => hk ▸ cursor_any (h.new hb))
  have HLI := Lib.hid (fun V (hb : Below w.heap.size w V) => line_any (h.new hb) hk1 (by omega) (a := (k : Int) + 1) rfl)
  have HD := Lib.hid hd
  have b1 : ¬ (cnt < 0) := by omega
  have hal : Below w.heap.size w (w.alloc (.cells #[.int .i64 cnt, .string op, .string arg] 34)) := below_alloc (Below.refl _ w) _
  have hC : (w.alloc (.cells #[.int .i64 cnt, .string op, .string arg] 34)).heap[w.heap.size]? = some (.cells #[.int .i64 cnt, .string op, .string arg] 34 (0, 0)) := World.alloc_heap_new w _
  have e0 : (w.alloc (.cells #[.int .i64 cnt, .string op, .string arg] 34)).cell? ⟨w.heap.size, 0, none⟩ = some (.int .i64 cnt) := by rw [blk_cell hC]; rfl
  have e1 : (w.alloc (.cells #[.int .i64 cnt, .string op, .string arg] 34)).cell? ⟨w.heap.size, 1, none⟩ = some (.string op) := by rw [blk_cell hC]; rfl
  have e2 : (w.alloc (.cells #[.int .i64 cnt, .string op, .string arg] 34)).cell? ⟨w.heap.size, 2, none⟩ = some (.string arg) := by rw [blk_cell hC]; rfl
  have HBC := Lib.hid hal.drew
  clear h hd hal hC
  obtain ⟨x, hx⟩ : ∃ x, s.ls.getD k ByteArray.empty = x := ⟨_, rfl⟩
  rw [hx] at HLI HD
  obtain ⟨b, hb⟩ : ∃ b, (reg == 0) = b := ⟨_, rfl⟩
  obtain ⟨r, hr⟩ : ∃ r, (if reg = 0 then (34 : Int) else reg) = r := ⟨_, rfl⟩
  rw [hr] at HD
  cases b
  · rw [beq_eq_false_iff_ne] at hb
    rw [if_neg hb] at hr
    subst hr
    have hb' : (reg == 0) = false := by rw [beq_eq_false_iff_ne]; exact hb
    go_enter Tryz.func10, Tryz.ntmps10
    go_wp2
    go_region_held3 (fun V => V.cell? ⟨w.heap.size, 0, none⟩ = some (.int .i64 cnt) ∧ V.cell? ⟨w.heap.size, 1, none⟩ = some (.string op) ∧ V.cell? ⟨w.heap.size, 2, none⟩ = some (.string arg)) (first | exact ⟨e0, e1, e2⟩ | go_keep) (first | (go_at_call 11; (with_reducible refine (HCU.out _ HBC.out).mono ?_); rintro e w2 ⟨rfl, rfl⟩))
    go_wp2_with fail
    all_goals
      have hB2 : Below w.heap.size w ((w.alloc (.cells #[.int .i64 cnt, .string op, .string arg] 34)).alloc (.cells #[.int .i64 cnt, .string op, .string arg, .pointer (some ⟨B, 0, none⟩), .pointer (some ⟨R, 0, none⟩), .int .u8 reg, .int .i64 (min (max cnt 1) 2000), .int .i64 ((k : Int) + 1), .string ⟨#[]⟩] 66)).drew := (below_alloc (below_alloc (Below.refl _ w) _) _).drew
      have hW2 : ((w.alloc (.cells #[.int .i64 cnt, .string op, .string arg] 34)).alloc (.cells #[.int .i64 cnt, .string op, .string arg, .pointer (some ⟨B, 0, none⟩), .pointer (some ⟨R, 0, none⟩), .int .u8 reg, .int .i64 (min (max cnt 1) 2000), .int .i64 ((k : Int) + 1), .string ⟨#[]⟩] 66)).drew.heap[w.heap.size + 1]? = some (.cells #[.int .i64 cnt, .string op, .string arg, .pointer (some ⟨B, 0, none⟩), .pointer (some ⟨R, 0, none⟩), .int .u8 reg, .int .i64 (min (max cnt 1) 2000), .int .i64 ((k : Int) + 1), .string ⟨#[]⟩] 66 (0, 0)) := by
        have := heap_alloc_new (w.alloc (.cells #[.int .i64 cnt, .string op, .string arg] 34)) (.cells #[.int .i64 cnt, .string op, .string arg, .pointer (some ⟨B, 0, none⟩), .pointer (some ⟨R, 0, none⟩), .int .u8 reg, .int .i64 (min (max cnt 1) 2000), .int .i64 ((k : Int) + 1), .string ⟨#[]⟩] 66)
        rwa [show (w.alloc (.cells #[.int .i64 cnt, .string op, .string arg] 34)).heap.size = w.heap.size + 1 by simp] at this
      obtain ⟨U, hU⟩ : ∃ U, ((w.alloc (.cells #[.int .i64 cnt, .string op, .string arg] 34)).alloc (.cells #[.int .i64 cnt, .string op, .string arg, .pointer (some ⟨B, 0, none⟩), .pointer (some ⟨R, 0, none⟩), .int .u8 reg, .int .i64 (min (max cnt 1) 2000), .int .i64 ((k : Int) + 1), .string ⟨#[]⟩] 66)).drew = U := ⟨_, rfl⟩
      rw [hU] at hB2 hW2 ⊢
      clear hU e0 e1 e2
      refine (HLI.out _ hB2).mono ?_
      rintro e w3 ⟨rfl, q3, rfl⟩
      have hW3 : (U.drewN q3).heap[w.heap.size + 1]? = _ := hW2
      have z8 : (U.drewN q3).frozen? ⟨w.heap.size + 1, 8, none⟩ = false := blk_frozen hW3 8
      have c8 : (U.drewN q3).cell? ⟨w.heap.size + 1, 8, none⟩ = some (.string ⟨#[]⟩) := by rw [blk_cell hW3]; rfl
      have hB4 : Below w.heap.size w ((U.drewN q3).setCell ⟨w.heap.size + 1, 8, none⟩ (.string x)) := (pw_below_drewN hB2 q3).setCell (p := ⟨w.heap.size + 1, 8, none⟩) (Nat.le_succ _) _
      have hW4 := blk_set hW3 8 (.string x)
      have hD4 := HD.out (w.heap.size + 1) _ (Nat.le_succ _) (blk_lt hW4) hB4 (by subst hreg; exact hW4)
      have HD4 := Lib.hid hD4
      clear hB4 hW4 hD4 hB2 hW2 hW3
      go_wp2_with fail
      refine HD4.out.mono ?_
      rintro e w5 ⟨v5, rfl, h5⟩
      have H5 := Lib.hid h5
      clear h5
      go_wp2
      go_ret
      exact ⟨_, rfl, H5.out⟩
  · rw [beq_iff_eq] at hb
    subst hb
    rw [if_pos rfl] at hr
    subst hr
    go_enter Tryz.func10, Tryz.ntmps10
    go_wp2
    go_region_held3 (fun V => V.cell? ⟨w.heap.size, 0, none⟩ = some (.int .i64 cnt) ∧ V.cell? ⟨w.heap.size, 1, none⟩ = some (.string op) ∧ V.cell? ⟨w.heap.size, 2, none⟩ = some (.string arg)) (first | exact ⟨e0, e1, e2⟩ | go_keep) (first | (go_at_call 11; (with_reducible refine (HCU.out _ HBC.out).mono ?_); rintro e w2 ⟨rfl, rfl⟩))
    go_wp2_with fail
    all_goals
      have hB2 : Below w.heap.size w ((w.alloc (.cells #[.int .i64 cnt, .string op, .string arg] 34)).alloc (.cells #[.int .i64 cnt, .string op, .string arg, .pointer (some ⟨B, 0, none⟩), .pointer (some ⟨R, 0, none⟩), .int .u8 34, .int .i64 (min (max cnt 1) 2000), .int .i64 ((k : Int) + 1), .string ⟨#[]⟩] 66)).drew := (below_alloc (below_alloc (Below.refl _ w) _) _).drew
      have hW2 : ((w.alloc (.cells #[.int .i64 cnt, .string op, .string arg] 34)).alloc (.cells #[.int .i64 cnt, .string op, .string arg, .pointer (some ⟨B, 0, none⟩), .pointer (some ⟨R, 0, none⟩), .int .u8 34, .int .i64 (min (max cnt 1) 2000), .int .i64 ((k : Int) + 1), .string ⟨#[]⟩] 66)).drew.heap[w.heap.size + 1]? = some (.cells #[.int .i64 cnt, .string op, .string arg, .pointer (some ⟨B, 0, none⟩), .pointer (some ⟨R, 0, none⟩), .int .u8 34, .int .i64 (min (max cnt 1) 2000), .int .i64 ((k : Int) + 1), .string ⟨#[]⟩] 66 (0, 0)) := by
        have := heap_alloc_new (w.alloc (.cells #[.int .i64 cnt, .string op, .string arg] 34)) (.cells #[.int .i64 cnt, .string op, .string arg, .pointer (some ⟨B, 0, none⟩), .pointer (some ⟨R, 0, none⟩), .int .u8 34, .int .i64 (min (max cnt 1) 2000), .int .i64 ((k : Int) + 1), .string ⟨#[]⟩] 66)
        rwa [show (w.alloc (.cells #[.int .i64 cnt, .string op, .string arg] 34)).heap.size = w.heap.size + 1 by simp] at this
      obtain ⟨U, hU⟩ : ∃ U, ((w.alloc (.cells #[.int .i64 cnt, .string op, .string arg] 34)).alloc (.cells #[.int .i64 cnt, .string op, .string arg, .pointer (some ⟨B, 0, none⟩), .pointer (some ⟨R, 0, none⟩), .int .u8 34, .int .i64 (min (max cnt 1) 2000), .int .i64 ((k : Int) + 1), .string ⟨#[]⟩] 66)).drew = U := ⟨_, rfl⟩
      rw [hU] at hB2 hW2 ⊢
      clear hU e0 e1 e2
      refine (HLI.out _ hB2).mono ?_
      rintro e w3 ⟨rfl, q3, rfl⟩
      have hW3 : (U.drewN q3).heap[w.heap.size + 1]? = _ := hW2
      have z8 : (U.drewN q3).frozen? ⟨w.heap.size + 1, 8, none⟩ = false := blk_frozen hW3 8
      have c8 : (U.drewN q3).cell? ⟨w.heap.size + 1, 8, none⟩ = some (.string ⟨#[]⟩) := by rw [blk_cell hW3]; rfl
      have hB4 : Below w.heap.size w ((U.drewN q3).setCell ⟨w.heap.size + 1, 8, none⟩ (.string x)) := (pw_below_drewN hB2 q3).setCell (p := ⟨w.heap.size + 1, 8, none⟩) (Nat.le_succ _) _
      have hW4 := blk_set hW3 8 (.string x)
      have hD4 := HD.out (w.heap.size + 1) _ (Nat.le_succ _) (blk_lt hW4) hB4 (by subst hreg; exact hW4)
      have HD4 := Lib.hid hD4
      clear hB4 hW4 hD4 hB2 hW2 hW3
      go_wp2_with fail
      refine HD4.out.mono ?_
      rintro e w5 ⟨v5, rfl, h5⟩
      have H5 := Lib.hid h5
      clear h5
      go_wp2
      go_ret
      exact ⟨_, rfl, H5.out⟩
end
end Go.Proofs.YtdhemdeapphfoaaGreatDoor

/- norm's Do of the keys j, k, G, gg, by what they do to the cursor. -/
set_option linter.unusedVariables false
set_option linter.unusedSimpArgs false
namespace Go.Proofs.YtdhemdeapphfoaaGreatDoor
open Go.RowKit Go.Shelf Go.Maps Go.Proofs.YtdhemdeapphfoaaGreatDoorW.PrintWords Go.Proofs.YtdhemdeapphfoaaGreatDoorW.PrintLast

/-- a text, told by its lines and its cursor -/
def NBf (N0 : Nat) (wb w : World) (B : Nat) (X : List ByteArray) (k : Nat) : Prop := ∃ (w0 : Base) (s : Bs), w0.w = wb ∧ Bf N0 w0 w B s ∧ s.ls = X ∧ s.cur = (k : Int)
section
variable {N0 : Nat} {wb w w' : World} {B k : Nat} {X : List ByteArray}
theorem NBf.new (h : NBf N0 wb w B X k) (hb : Below w.heap.size w w') : NBf N0 wb w' B X k := by
  obtain ⟨w0, s, h1, h2, h3, h4⟩ := h
  exact ⟨w0, s, h1, h2.new hb, h3, h4⟩
theorem NBf.below (h : NBf N0 wb w B X k) : Below N0 wb w := by
  obtain ⟨w0, s, h1, h2, h3, h4⟩ := h
  exact h1 ▸ h2.below
theorem NBf.cursor (h : NBf N0 wb w B X k) : Calls Tryz.prog 11 #[.pointer (some ⟨B, 0, none⟩)] w fun e w' => e = .returned (.int .i64 (k : Int)) ∧ w' = w := by
  obtain ⟨w0, s, h1, h2, h3, h4⟩ := h
  exact h4 ▸ cursor_any h2

section
variable {w0 : Base} {W : Nat} {s : Bs} {vr : Value} {cnt reg n here : Int} {arg text : ByteArray}
set_option maxRecDepth 100000 in
set_option maxHeartbeats 1000000 in
theorem does_j (h : Bf N0 w0 w B s) (hP : w0.P W) (hw : Wn w0.z W B vr cnt ⟨#[106]⟩ arg reg n here text) (hb : -1000000000 ≤ here + n ∧ here + n ≤ 1000000000) :
    Calls Tryz.prog 24 #[.pointer (some ⟨W, 0, none⟩)] w (BfPost N0 w0 B (toP s (here + n)).1 (.int .u16 (toP s (here + n)).2)) := by
  have hk := h.wn hP hw
  have hc : w.cell? ⟨W, 1, none⟩ = some (.string ⟨#[106]⟩) ∧ w.cell? ⟨W, 6, none⟩ = some (.int .i64 n) ∧ w.cell? ⟨W, 7, none⟩ = some (.int .i64 here) := ⟨by rw [blk_cell hk]; rfl, by rw [blk_cell hk]; rfl, by rw [blk_cell hk]; rfl⟩
  obtain ⟨k1, k6, k7⟩ := hc
  have HT := Lib.hid (to_any (h.new (Below.refl w.heap.size w).drew) hP hw (here + n))
  have HW := Lib.hid hw
  have iw1 := iw (here + n) (here + n) rfl (by omega) (by omega)
  clear h hw hk
  go_enter Tryz.func24, Tryz.ntmps24
  go_wp2
  go_region_held3 (fun V => V.cell? ⟨W, 6, none⟩ = some (.int .i64 n) ∧ V.cell? ⟨W, 7, none⟩ = some (.int .i64 here)) (first | exact ⟨k6, k7⟩ | exact hd | go_keep) (first | (go_at_call 35; (with_reducible refine HT.out.mono ?_); rintro e w2 ⟨rfl, b2⟩; have hd : w2.cell? ⟨W, 6, none⟩ = some (.int .i64 n) ∧ w2.cell? ⟨W, 7, none⟩ = some (.int .i64 here) := (by have h9 := b2.wn hP HW.out; exact ⟨by rw [blk_cell h9]; rfl, by rw [blk_cell h9]; rfl⟩); have H2 := Lib.hid b2; clear b2))
  go_wp2
  go_ret
  exact ⟨rfl, H2.out⟩
set_option maxRecDepth 100000 in
set_option maxHeartbeats 1000000 in
theorem does_k (h : Bf N0 w0 w B s) (hP : w0.P W) (hw : Wn w0.z W B vr cnt ⟨#[107]⟩ arg reg n here text) (hb : -1000000000 ≤ here - n ∧ here - n ≤ 1000000000) :
    Calls Tryz.prog 24 #[.pointer (some ⟨W, 0, none⟩)] w (BfPost N0 w0 B (toP s (here - n)).1 (.int .u16 (toP s (here - n)).2)) := by
  have hk := h.wn hP hw
  have hc : w.cell? ⟨W, 1, none⟩ = some (.string ⟨#[107]⟩) ∧ w.cell? ⟨W, 6, none⟩ = some (.int .i64 n) ∧ w.cell? ⟨W, 7, none⟩ = some (.int .i64 here) := ⟨by rw [blk_cell hk]; rfl, by rw [blk_cell hk]; rfl, by rw [blk_cell hk]; rfl⟩
  obtain ⟨k1, k6, k7⟩ := hc
  have HT := Lib.hid (to_any (h.new (Below.refl w.heap.size w).drew) hP hw (here - n))
  have HW := Lib.hid hw
  have iw1 := iw (here - n) (here - n) rfl (by omega) (by omega)
  clear h hw hk
  go_enter Tryz.func24, Tryz.ntmps24
  go_wp2
  go_region_held3 (fun V => V.cell? ⟨W, 6, none⟩ = some (.int .i64 n) ∧ V.cell? ⟨W, 7, none⟩ = some (.int .i64 here)) (first | exact ⟨k6, k7⟩ | exact hd | go_keep) (first | (go_at_call 35; (with_reducible refine HT.out.mono ?_); rintro e w2 ⟨rfl, b2⟩; have hd : w2.cell? ⟨W, 6, none⟩ = some (.int .i64 n) ∧ w2.cell? ⟨W, 7, none⟩ = some (.int .i64 here) := (by have h9 := b2.wn hP HW.out; exact ⟨by rw [blk_cell h9]; rfl, by rw [blk_cell h9]; rfl⟩); have H2 := Lib.hid b2; clear b2))
  go_wp2
  go_ret
  exact ⟨rfl, H2.out⟩
set_option maxRecDepth 100000 in
set_option maxHeartbeats 1000000 in
theorem does_G (h : Bf N0 w0 w B s) (hP : w0.P W) (hw : Wn w0.z W B vr cnt ⟨#[71]⟩ arg reg n here text) :
    Calls Tryz.prog 24 #[.pointer (some ⟨W, 0, none⟩)] w (BfPost N0 w0 B (putS s (if 0 < cnt then cnt else s.ls.length)) (.int .u16 0)) := by
  have hk := h.wn hP hw
  have hc : w.cell? ⟨W, 1, none⟩ = some (.string ⟨#[71]⟩) ∧ w.cell? ⟨W, 3, none⟩ = some (.pointer (some ⟨B, 0, none⟩)) := ⟨by rw [blk_cell hk]; rfl, by rw [blk_cell hk]; rfl⟩
  obtain ⟨k1, k3⟩ := hc
  obtain ⟨T, hlen⟩ := h.lenW
  obtain ⟨k0, _⟩ := hlen w (Below.refl _ _)
  have HL := Lib.hid hlen
  have HT := Lib.hid (fun q => leap_any (h.new (below_drewN w q)) hP hw (s.ls.length : Int))
  obtain ⟨t, ht⟩ : ∃ t, (if 0 < cnt then cnt else (s.ls.length : Int)) = t := ⟨_, rfl⟩
  rw [ht] at HT ⊢
  clear ht
  clear h hw hk hlen
  go_enter Tryz.func24, Tryz.ntmps24
  go_wp2_with (first
    | (go_at_call 22; refine (HL.out _ (Below.refl _ _)).2.mono ?_; rintro e wa ⟨rfl, n1, rfl⟩)
    | (go_at_call 36; (with_reducible refine (HT.out _).mono ?_); rintro e w2 ⟨rfl, b2⟩; have H2 := Lib.hid b2; clear b2))
  go_ret
  exact ⟨rfl, H2.out⟩
set_option maxRecDepth 100000 in
set_option maxHeartbeats 1000000 in
theorem does_gg (h : Bf N0 w0 w B s) (hP : w0.P W) (hw : Wn w0.z W B vr cnt ⟨#[103, 103]⟩ arg reg n here text) :
    Calls Tryz.prog 24 #[.pointer (some ⟨W, 0, none⟩)] w (BfPost N0 w0 B (putS s (if 0 < cnt then cnt else 1)) (.int .u16 0)) := by
  have hk := h.wn hP hw
  have k1 : w.cell? ⟨W, 1, none⟩ = some (.string ⟨#[103, 103]⟩) := by rw [blk_cell hk]; rfl
  have HT := Lib.hid (leap_any h hP hw 1)
  obtain ⟨t, ht⟩ : ∃ t, (if 0 < cnt then cnt else (1 : Int)) = t := ⟨_, rfl⟩
  rw [ht] at HT ⊢
  clear ht
  clear h hw hk
  go_enter Tryz.func24, Tryz.ntmps24
  go_wp2_with (first
    | (go_at_call 36; (with_reducible refine HT.out.mono ?_); rintro e w2 ⟨rfl, b2⟩; have H2 := Lib.hid b2; clear b2))
  go_ret
  exact ⟨rfl, H2.out⟩
end

def NkPost (N0 : Nat) (wb : World) (B : Nat) (X : List ByteArray) (r : Int) (k : Nat) (e : Ending) (w' : World) : Prop := e = .returned (.int .u16 r) ∧ NBf N0 wb w' B X k
theorem nk_any (h : NBf N0 wb w B X k) (h1 : 1 ≤ k) (h2 : k ≤ X.length) (hl : X.length ≤ 1000000) {c : Nat} (hc : c ≤ 300) {R : Nat} {op arg : ByteArray} {r : Int} {k' : Nat}
    (hd : ∀ (w0 : Base) (s : Bs) (W : Nat) (V : World), w0.P W → Bf N0 w0 V B s → s.ls = X → s.cur = (k : Int) → Wn w0.z W B (.pointer (some ⟨R, 0, none⟩)) c op arg 34 (max (c : Int) 1) (k : Int) (s.ls.getD (k - 1) ByteArray.empty) → ∃ s' : Bs, s'.ls = X ∧ s'.cur = (k' : Int) ∧ Calls Tryz.prog 24 #[.pointer (some ⟨W, 0, none⟩)] V (BfPost N0 w0 B s' (.int .u16 r))) :
    Calls Tryz.prog 10 #[.pointer (some ⟨B, 0, none⟩), .pointer (some ⟨R, 0, none⟩), .agg #[.int .i64 (c : Int), .string op, .string arg], .int .u8 0] w (NkPost N0 wb B X r k') := by
  obtain ⟨w0, s, e1, h9, rfl, e3⟩ := h
  have hn : max (c : Int) 1 = min (max (c : Int) 1) 2000 := by omega
  refine (ndo_any h9 (R := R) (Q := fun v w' => v = .int .u16 r ∧ NBf N0 wb w' B s.ls k') (k := k - 1) (n := max (c : Int) 1) (reg := 0) (by omega) (by omega) hl (by omega) hn fun W V a1 a2 a3 a4 => ?_).mono ?_
  · rw [show ((k - 1 : Nat) : Int) + 1 = k by omega] at a4
    obtain ⟨s', b1, b2, b3⟩ := hd ⟨w0.w, fun b => w0.P b ∨ (w.heap.size ≤ b ∧ b < V.heap.size), V⟩ s W V (.inr ⟨a1, a2⟩) (h9.guard a3) rfl e3 a4
    refine b3.mono ?_
    rintro e w' ⟨rfl, b4⟩
    exact ⟨_, rfl, rfl, ⟨w0.w, fun b => w0.P b ∨ (w.heap.size ≤ b ∧ b < V.heap.size), V⟩, s', e1, b4, b1, b2⟩
  · rintro e w' ⟨v, rfl, rfl, b4⟩
    exact ⟨rfl, b4⟩

theorem nk_j (h : NBf N0 wb w B X k) (h1 : 1 ≤ k) (h2 : k ≤ X.length) (hl : X.length ≤ 1000000) {c : Nat} (hc : c ≤ 300) {R : Nat} {r : Int} {k' : Nat} (hr : (k + max c 1 ≤ X.length ∧ r = 0 ∧ k' = k + max c 1) ∨ (X.length < k + max c 1 ∧ r = 190 ∧ k' = k)) :
    Calls Tryz.prog 10 #[.pointer (some ⟨B, 0, none⟩), .pointer (some ⟨R, 0, none⟩), .agg #[.int .i64 (c : Int), .string ⟨#[106]⟩, .string ⟨#[]⟩], .int .u8 0] w (NkPost N0 wb B X r k') :=
  nk_any h h1 h2 hl hc fun w0 s W V hP hb hX hk hw => by
    have := does_j hb hP hw (by omega)
    rcases hr with ⟨c1, rfl, rfl⟩ | ⟨c1, rfl, rfl⟩
    · have e1 : toP s ((k : Int) + max (c : Int) 1) = (putS s ((k : Int) + max (c : Int) 1), 0) := if_pos (by rw [hX]; omega)
      rw [e1] at this
      exact ⟨putS s ((k : Int) + max (c : Int) 1), hX, by show min (max ((k : Int) + max (c : Int) 1) 1) (s.ls.length : Int) = _; rw [hX]; omega, this⟩
    · have e1 : toP s ((k' : Int) + max (c : Int) 1) = (s, 190) := if_neg (by rw [hX]; omega)
      rw [e1] at this
      exact ⟨s, hX, hk, this⟩
theorem nk_k (h : NBf N0 wb w B X k) (h1 : 1 ≤ k) (h2 : k ≤ X.length) (hl : X.length ≤ 1000000) {c : Nat} (hc : c ≤ 300) {R : Nat} (hr : max c 1 < k) :
    Calls Tryz.prog 10 #[.pointer (some ⟨B, 0, none⟩), .pointer (some ⟨R, 0, none⟩), .agg #[.int .i64 (c : Int), .string ⟨#[107]⟩, .string ⟨#[]⟩], .int .u8 0] w (NkPost N0 wb B X 0 (k - max c 1)) :=
  nk_any h h1 h2 hl hc fun w0 s W V hP hb hX hk hw => by
    have := does_k hb hP hw (by omega)
    have e1 : toP s ((k : Int) - max (c : Int) 1) = (putS s ((k : Int) - max (c : Int) 1), 0) := if_pos (by rw [hX]; omega)
    rw [e1] at this
    exact ⟨putS s ((k : Int) - max (c : Int) 1), hX, by show min (max ((k : Int) - max (c : Int) 1) 1) (s.ls.length : Int) = _; rw [hX]; omega, this⟩
theorem nk_G (h : NBf N0 wb w B X k) (h1 : 1 ≤ k) (h2 : k ≤ X.length) (hl : X.length ≤ 1000000) {c : Nat} (hc : c ≤ 300) {R : Nat} :
    Calls Tryz.prog 10 #[.pointer (some ⟨B, 0, none⟩), .pointer (some ⟨R, 0, none⟩), .agg #[.int .i64 (c : Int), .string ⟨#[71]⟩, .string ⟨#[]⟩], .int .u8 0] w (NkPost N0 wb B X 0 (if c = 0 then X.length else min c X.length)) :=
  nk_any h h1 h2 hl hc fun w0 s W V hP hb hX hk hw => by
    refine ⟨putS s (if 0 < (c : Int) then (c : Int) else (s.ls.length : Int)), hX, ?_, does_G hb hP hw⟩
    show min (max (if 0 < (c : Int) then (c : Int) else (s.ls.length : Int)) 1) (s.ls.length : Int) = _
    rw [hX]
    by_cases h0 : c = 0
    · rw [if_neg (by omega), if_pos h0]; omega
    · rw [if_pos (by omega), if_neg h0]; omega
theorem nk_gg (h : NBf N0 wb w B X k) (h1 : 1 ≤ k) (h2 : k ≤ X.length) (hl : X.length ≤ 1000000) {c : Nat} (hc : c ≤ 300) {R : Nat} :
    Calls Tryz.prog 10 #[.pointer (some ⟨B, 0, none⟩), .pointer (some ⟨R, 0, none⟩), .agg #[.int .i64 (c : Int), .string ⟨#[103, 103]⟩, .string ⟨#[]⟩], .int .u8 0] w (NkPost N0 wb B X 0 (if c = 0 then 1 else min c X.length)) :=
  nk_any h h1 h2 hl hc fun w0 s W V hP hb hX hk hw => by
    refine ⟨putS s (if 0 < (c : Int) then (c : Int) else (1 : Int)), hX, ?_, does_gg hb hP hw⟩
    show min (max (if 0 < (c : Int) then (c : Int) else 1) 1) (s.ls.length : Int) = _
    rw [hX]
    by_cases h0 : c = 0
    · rw [if_neg (by omega), if_pos h0]; omega
    · rw [if_pos (by omega), if_neg h0]; omega
end
end Go.Proofs.YtdhemdeapphfoaaGreatDoor
