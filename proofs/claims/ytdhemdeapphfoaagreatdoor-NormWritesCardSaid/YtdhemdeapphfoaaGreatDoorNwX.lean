import Derived.Test.YtdhemdeapphfoaaGreatDoorNvY
import Derived.Test.YtdhemdeapphfoaaGreatDoorShelf
import Derived.Laws.DeepStrings4
set_option linter.unusedVariables false
set_option linter.unusedSimpArgs false

/- norm's set and spelled; Do of the keys A and I: walked. -/
set_option linter.unusedVariables false
set_option linter.unusedSimpArgs false
namespace Go.Proofs.YtdhemdeapphfoaaGreatDoor
open Go.RowKit Go.Shelf Go.Maps Go.Proofs.YtdhemdeapphfoaaGreatDoorW.PrintWords Go.Proofs.YtdhemdeapphfoaaGreatDoorW.PrintLast

section
variable {N0 : Nat} {w0 : Base} {w w' : World} {B W : Nat} {s : Bs} {vr : Value} {cnt reg n here : Int} {op arg text : ByteArray}
set_option maxRecDepth 100000 in
set_option maxHeartbeats 1000000 in
theorem nset_any (h : Bf N0 w0 w B s) (hP : w0.P W) (hw : Wn w0.z W B vr cnt op arg reg n here text) {G : Nat → Prop} {v : Value} {xs : List ByteArray} (hv : Ls w G v xs) {i : Nat} (hh : here = (i : Int) + 1) (hi : i + 1 ≤ s.ls.length) (hl : s.ls.length + xs.length ≤ 1 + 2000) (hsl : s.ls.length ≤ 1000000) (hlg : isLong xs = false) (hx : ∀ x ∈ xs, x.size ≤ 1000000000) (ho : s.opn.length ≤ 1000000) (hnm : s.nm < maxLen) :
    Calls Tryz.prog 41 #[.pointer (some ⟨W, 0, none⟩), v] w (BfPost N0 w0 B (putS (spliceS s i 1 (sputs s.ls.length 1 xs)) here) (.int .u16 0)) := by
  have HS := Lib.hid (bsplice_any (a := (i : Int) + 1) (k := 1) (h.new (Below.refl w.heap.size w).drew) (hv.step (w' := w.drew) (Nat.le_refl _) fun _ _ _ => rfl) rfl hi hl hsl (by omega) hlg (by omega) hx ho hnm)
  have hk := h.wn hP hw
  have g3 : w.cell? ⟨W, 3, none⟩ = some (.pointer (some ⟨B, 0, none⟩)) := by rw [blk_cell hk]; rfl
  have g7 : w.cell? ⟨W, 7, none⟩ = some (.int .i64 ((i : Int) + 1)) := by rw [blk_cell hk, ← hh]; rfl
  have HW := Lib.hid hw
  obtain ⟨Av, cv, hvs, _⟩ := id hv
  subst hvs hh
  clear h hv hw hk hx
  go_enter Tryz.func41, Tryz.ntmps41
  go_wp2
  go_region_held3 (fun V => V.cell? ⟨W, 3, none⟩ = some (.pointer (some ⟨B, 0, none⟩)) ∧ V.cell? ⟨W, 7, none⟩ = some (.int .i64 ((i : Int) + 1))) (first | exact ⟨g3, g7⟩ | exact ⟨q3, q7⟩ | go_keep) (first
    | (go_at_call 62; refine HS.out.mono ?_; rintro e w2 ⟨rfl, b2⟩; have q3 : w2.cell? ⟨W, 3, none⟩ = some (.pointer (some ⟨B, 0, none⟩)) := (by rw [blk_cell (b2.wn hP HW.out)]; rfl); have q7 : w2.cell? ⟨W, 7, none⟩ = some (.int .i64 ((i : Int) + 1)) := (by rw [blk_cell (b2.wn hP HW.out)]; rfl); have H2 := Lib.hid b2; clear b2))
  have hpu := bput_any (H2.out.new (Below.refl _ _).drew) ((i : Int) + 1)
  have HPU := Lib.hid hpu
  clear hpu
  go_wp2
  go_region_held3 (fun V => V.cell? ⟨W, 3, none⟩ = some (.pointer (some ⟨B, 0, none⟩)) ∧ V.cell? ⟨W, 7, none⟩ = some (.int .i64 ((i : Int) + 1))) (first | exact ⟨q3, q7⟩ | exact ⟨r3, r7⟩ | go_keep) (first
    | (go_at_call 9; refine HPU.out.mono ?_; rintro e w3 ⟨rfl, b3, _, _⟩; have r3 : w3.cell? ⟨W, 3, none⟩ = some (.pointer (some ⟨B, 0, none⟩)) := (by rw [blk_cell (b3.wn hP HW.out)]; rfl); have r7 : w3.cell? ⟨W, 7, none⟩ = some (.int .i64 ((i : Int) + 1)) := (by rw [blk_cell (b3.wn hP HW.out)]; rfl); have H3 := Lib.hid b3; clear b3))
  go_wp2
  go_ret
  exact ⟨rfl, H3.out⟩

/-- a text so many times -/
def repB (s : ByteArray) (c : Nat) : ByteArray := ⟨(Lib.repeatL s.data.toList c).toArray⟩
theorem repB_size (s : ByteArray) (c : Nat) : (repB s c).size = s.size * c := by
  have : ∀ (l : List UInt8) (c : Nat), (Lib.repeatL l c).length = l.length * c := fun l c => by
    induction c with
    | zero => simp [Lib.repeatL]
    | succ c ih => simp [Lib.repeatL, ih, Nat.mul_succ]; omega
  unfold repB
  rw [ByteArray.size, List.size_toArray, this]
  simp
theorem repB_snoc (s : ByteArray) (c : Nat) : repB s c ++ s = repB s (c + 1) := by
  have : ∀ (l : List UInt8) (c : Nat), Lib.repeatL l c ++ l = Lib.repeatL l (c + 1) := fun l c => by
    induction c with
    | zero => simp [Lib.repeatL]
    | succ c ih => simp [Lib.repeatL] at ih ⊢; simp [ih]
  apply ByteArray.ext
  rw [← Array.toList_inj]
  unfold repB
  simp only [ByteArray.data_append, Array.toList_append]
  exact this s.data.toList c

set_option maxRecDepth 100000 in
set_option maxHeartbeats 1000000 in
theorem spelled_any {w : World} {W B : Nat} {c : Nat} (hw : Wn w W B vr cnt op arg reg (c : Int) here text) (hc : c ≤ 9) (ha : arg.size ≤ 60) :
    Calls Tryz.prog 42 #[.pointer (some ⟨W, 0, none⟩)] w fun e w' => e = .returned (.string (repB arg c)) ∧ Below w.heap.size w w' := by
  have g2 : w.cell? ⟨W, 2, none⟩ = some (.string arg) := by rw [blk_cell hw]; rfl
  have g6 : w.cell? ⟨W, 6, none⟩ = some (.int .i64 (c : Int)) := by rw [blk_cell hw]; rfl
  have HR := Lib.hid (Tryz.strings_Repeat arg c w (by omega) (Nat.le_trans (Nat.mul_le_mul ha hc) (by decide)))
  clear hw
  by_cases h0 : arg.size = 0
  · have d0 : ¬ ((0 : Int) < (arg.size : Int)) := by omega
    go_enter Tryz.func42, Tryz.ntmps42
    go_wp2_with fail
    refine HR.out.mono ?_
    rintro e w1 ⟨rfl, hb⟩
    have HB := Lib.hid hb
    clear hb
    go_wp2
    go_ret
    exact ⟨rfl, HB.out⟩
  · have d0 : (0 : Int) < (arg.size : Int) := by omega
    have d1 : ¬ ((arg.size : Int) = 0) := by omega
    have d2 : ((arg.size : Int) == 0) = false := by rw [beq_eq_false_iff_ne]; exact d1
    have d4 : 16 ≤ 1000 / arg.size := by
      rw [Nat.le_div_iff_mul_le (by omega)]
      omega
    have d5 : 1000 / arg.size ≤ 1000 := Nat.div_le_self _ _
    have d3 : (1000 : Int) / (arg.size : Int) = ((1000 / arg.size : Nat) : Int) := rfl
    obtain ⟨K, hK⟩ : ∃ K, 1000 / arg.size = K := ⟨_, rfl⟩
    rw [hK] at d3 d4 d5
    have d6 : min (c : Int) ((K : Int) + 1) = c := by omega
    clear hK
    go_enter Tryz.func42, Tryz.ntmps42
    go_wp2_with fail
    refine HR.out.mono ?_
    rintro e w1 ⟨rfl, hb⟩
    have HB := Lib.hid hb
    clear hb
    go_wp2
    go_ret
    exact ⟨rfl, HB.out⟩
end
end Go.Proofs.YtdhemdeapphfoaaGreatDoor

/- regs' Cut at a small letter; norm's cut; does of the keys A, I, x: walked. -/
set_option linter.unusedVariables false
set_option linter.unusedSimpArgs false
namespace Go.Proofs.YtdhemdeapphfoaaGreatDoor
open Go.RowKit Go.Shelf Go.Maps Go.Proofs.YtdhemdeapphfoaaGreatDoorW.PrintWords Go.Proofs.YtdhemdeapphfoaaGreatDoorW.PrintLast

set_option maxRecDepth 100000 in
set_option maxHeartbeats 1000000 in
theorem zcut_any {w : World} {R mb n : Nat} {ρ : Int → Option Value} (h : Rg w R mb n ρ) (hn : n + 1 < maxLen) {c : Int} (c0 : 97 ≤ c) (c1 : c ≤ 122) (hsh : Shp ρ) {G : Nat → Prop} {v : Value} {xs : List ByteArray} (hv : Ls w G v xs) (h0 : 0 < xs.length) (hl : xs.length ≤ 300) (hs : ∀ x ∈ xs, x.size ≤ 1000) (hsum : sumS xs ≤ 20000) (b : Bool) :
    Calls Tryz.prog 60 #[.pointer (some ⟨R, 0, none⟩), .int .u8 c, .agg #[v, .bool b]] w (YankPost w R mb n ρ c b xs) := by
  have HH := Lib.hid h
  have hRl := h.ltR
  have hMl := h.ltM
  have HCL := Lib.hid (fun W (hb : Below w.heap.size w W) => rclone_any (hv.step hb.size fun b hlt _ => hb.block b hlt) h0 (by omega) b)
  have HXS := Lib.hid (And.intro hs hsum)
  have b1 : (c == 34) = false := by rw [beq_eq_false_iff_ne]; omega
  have b2 : (c != 34) = true := by rw [bne_iff_ne]; omega
  obtain ⟨Av, cv, hvs, _⟩ := id hv
  subst hvs
  clear h hv hs hsum
  go_enter Tryz.func60, Tryz.ntmps60
  go_wp2_with fail
  have hal : Below w.heap.size w (w.alloc (.cells #[.slice Av xs.length cv, .bool b] 48)) := below_alloc (Below.refl _ w) _
  refine (HCL.out _ hal).mono ?_
  rintro e w2 ⟨v2, rfl, h21, h22, h23⟩
  obtain ⟨A2, c2, hv2', _⟩ := h21.slice
  rw [cS_len] at hv2'
  subst hv2'
  have hC2 : w2.heap[w.heap.size]? = some (.cells #[.slice Av xs.length cv, .bool b] 48 (0, 0)) := (h23.block _ (by simp only [World.size_alloc]; omega)).trans (World.alloc_heap_new w _)
  have d0 : w2.cell? ⟨w.heap.size, 0, none⟩ = some (.slice Av xs.length cv) := by rw [blk_cell hC2]; rfl
  have d1 : w2.cell? ⟨w.heap.size, 1, none⟩ = some (.bool b) := by rw [blk_cell hC2]; rfl
  have g0 : w2.frozen? ⟨w.heap.size, 0, none⟩ = false := blk_frozen hC2 0
  have g1 : w2.frozen? ⟨w.heap.size, 1, none⟩ = false := blk_frozen hC2 1
  have hne : ∀ m, m ≤ w.heap.size → (Value.slice A2 xs.length c2).ownBlock ≠ some m := fun m hm e => by
    have := h22 m e
    simp only [World.size_alloc] at this
    omega
  have hrw := (h21.setCell (p := ⟨w.heap.size, 0, none⟩) (hne _ (by dsimp only; omega)) (.slice A2 xs.length c2)).setCell (p := ⟨w.heap.size, 1, none⟩) (hne _ (by dsimp only; omega)) (.bool b)
  have hbl := ((below_then hal hal.size h23).setCell (p := ⟨w.heap.size, 0, none⟩) (Nat.le_refl _) (.slice A2 xs.length c2)).setCell (p := ⟨w.heap.size, 1, none⟩) (Nat.le_refl _) (.bool b)
  have HRW := Lib.hid (And.intro hrw (And.intro hbl h22))
  clear h21 h22 h23 hC2 hrw hbl hal
  go_wp2_with fail
  obtain ⟨W4, hW4⟩ : ∃ W4, (w2.setCell ⟨w.heap.size, 0, none⟩ (.slice A2 xs.length c2)).setCell ⟨w.heap.size, 1, none⟩ (.bool b) = W4 := ⟨_, rfl⟩
  rw [hW4] at HRW ⊢
  clear hW4 d0 d1 g0 g1
  obtain ⟨Ao, lo, co, bo, hold⟩ := hsh.getD c
  have hlay := lay_gen (HH.out.step HRW.out.2.1) hn (c := c) (by omega) (by omega) (by omega) (Small_small c c0 c1) (Known_small c c0 c1) hold (Ls.of_rw HRW.out.1) hl HXS.out.1 HXS.out.2 b
  refine hlay.mono ?_
  rintro e w5 ⟨rfl, hrg, hgr⟩
  have hge : ∀ k, (Value.slice A2 xs.length c2).ownBlock = some k → w.heap.size ≤ k ∧ k ≠ mb := fun k hk => by
    have := HRW.out.2.2 k hk
    simp only [World.size_alloc] at this
    omega
  have HF := Lib.hid (And.intro (show Ls w5 (fun k => w.heap.size ≤ k) (.slice A2 xs.length c2) xs from ((Ls.of_rw HRW.out.1).step hgr.size fun k hlt hk => hgr.block k hlt (fun e => (hge k hk).2 (Option.some.inj e))).wide fun k _ hk => (hge k hk).1) (And.intro hrg (show w.grownBy w5 (some mb) from ⟨hgr.os.trans HRW.out.2.1.os, hgr.tape.trans HRW.out.2.1.tape, hgr.output.trans HRW.out.2.1.output, Nat.le_trans HRW.out.2.1.size hgr.size, fun k hk hne => (hgr.block k (Nat.lt_of_lt_of_le hk HRW.out.2.1.size) hne).trans (HRW.out.2.1.block k hk)⟩)))
  clear hrg hgr hlay hge
  go_wp2
  go_ret
  exact ⟨_, rfl, HF.out.1, HF.out.2.1, HF.out.2.2⟩


section
variable {N0 : Nat} {w0 : Base} {w w' : World} {B R mb W m : Nat} {s : Bs} {vr : Value} {cnt reg n here : Int} {op arg text : ByteArray} {ρ : Int → Option Value}
theorem zset_same (ρ : Int → Option Value) (c d : Int) (v : Value) : setR (setR ρ c v) d v c = some v := by
  unfold setR
  split
  · rfl
  · simp
theorem long_one {t : ByteArray} (h : t.size ≤ 1000) : isLong [t] = false := by
  unfold isLong
  simp
  omega
theorem one_le {y : ByteArray} {n : Nat} (h : y.size ≤ n) : ∀ x ∈ [y], x.size ≤ n := fun x hx => by
  obtain rfl : x = y := by simpa using hx
  exact h
theorem ls_one (w : World) (x : ByteArray) : Ls (w.alloc (.cells #[.string x] 9)) (fun k => w.heap.size ≤ k) (.slice (some ⟨w.heap.size, 0, none⟩) 1 1) [x] :=
  ((ls_lit w [x] (by unfold maxLen; simp)).wide fun b _ hb => by omega)

/-- what is left when bytes were cut off: the text, and what is in the register -/
def ZcPost (N0 : Nat) (wb : World) (B R mb : Nat) (s : Bs) (m : Nat) (c : Int) (y : ByteArray) (e : Ending) (w' : World) : Prop :=
  ∃ (w0 : Base) (ρ : Int → Option Value) (v : Value), e = .returned (.int .u16 0) ∧ w0.w = wb ∧ Ed N0 w0 w' B R mb s (m + 2) ρ ∧ ρ c = some (.agg #[v, .bool false]) ∧ Ls w' w0.P v [y]

set_option maxRecDepth 100000 in
set_option maxHeartbeats 1000000 in
theorem ncut_none (h : Bf N0 w0 w B s) (hP : w0.P W) (hw : Wn w0.z W B vr cnt op arg reg n here ⟨#[]⟩) (k : Int) :
    Calls Tryz.prog 39 #[.pointer (some ⟨W, 0, none⟩), .int .i64 k] w fun e w' => e = .returned (.int .u16 190) ∧ w' = w := by
  have g8 : w.cell? ⟨W, 8, none⟩ = some (.string ⟨#[]⟩) := by rw [blk_cell (h.wn hP hw)]; rfl
  clear h hw
  go_enter Tryz.func39, Tryz.ntmps39
  go_wp2_with fail
  go_ret
  exact ⟨rfl, rfl⟩

set_option maxRecDepth 100000 in
set_option maxHeartbeats 2000000 in
theorem ncut_some (h : Ed N0 w0 w B R mb s m ρ) (hm : m + 20 < maxLen) (hP : w0.P W) (hWm : W ≠ mb) {c : Int} (c0 : 97 ≤ c) (c1 : c ≤ 122) (hw : Wn w0.z W B (.pointer (some ⟨R, 0, none⟩)) cnt op arg c n here text) (ht : text.size ≠ 0) (ht2 : text.size ≤ 1000) {k q : Nat} (hq : min k text.size = q) (hk1 : 1 ≤ k) (hk2 : k ≤ 1000000) {i : Nat} (hh : here = (i : Int) + 1) (hi : i + 1 ≤ s.ls.length) (hl : s.ls.length ≤ 1500) (ho : s.opn.length ≤ 1000000) (hnm : s.nm < maxLen) :
    Calls Tryz.prog 39 #[.pointer (some ⟨W, 0, none⟩), .int .i64 (k : Int)] w (ZcPost N0 w0.w B R mb (putS (spliceS s i 1 [text.extract q text.size]) here) m c (text.extract 0 q)) := by
  have hwk := h.bf.wn hP hw
  have g8 : w.cell? ⟨W, 8, none⟩ = some (.string text) := by rw [blk_cell hwk]; rfl
  have g4 : w.cell? ⟨W, 4, none⟩ = some (.pointer (some ⟨R, 0, none⟩)) := by rw [blk_cell hwk]; rfl
  have g5 : w.cell? ⟨W, 5, none⟩ = some (.int .u8 c) := by rw [blk_cell hwk]; rfl
  have e1 : text.toList.isEmpty = false := by
    rw [ByteArray.toList_eq]
    cases h9 : text.data.toList with
    | nil => exact absurd (show text.data.size = 0 by rw [← Array.length_toList, h9]; rfl) ht
    | cons a b => rfl
  have e2 : min (k : Int) (text.size : Int) = (q : Int) := by omega
  have q1 : 0 < q := by omega
  have q2 : q ≤ text.size := by omega
  have q3 : (q : Int) ≤ (text.size : Int) := by omega
  have hWl := blk_lt hwk
  have hz1 : (text.extract 0 q).size ≤ 1000 := by simp; omega
  have hz2 : (text.extract q text.size).size ≤ 1000 := by simp; omega
  have hblV : Below w.heap.size w (w.alloc (.cells #[.string (text.extract 0 q)] 9)).drew := (below_alloc (Below.refl _ w) _).drew
  have hls : Ls (w.alloc (.cells #[.string (text.extract 0 q)] 9)).drew (fun k => w.heap.size ≤ k) (.slice (some ⟨w.heap.size, 0, none⟩) 1 1) [text.extract 0 q] := (ls_one w _).step (Nat.le_refl _) fun _ _ _ => rfl
  have hcut := zcut_any (h.rg.step hblV) (by omega) c0 c1 h.shp hls (by simp) (by simp) (one_le hz1) (by show (text.extract 0 q).size + 1 + 0 ≤ _; omega) false
  have HCUT := Lib.hid hcut
  have HB := Lib.hid hblV
  have HZ := Lib.hid (And.intro hz1 (And.intro hz2 hwk))
  have HH := Lib.hid h
  clear h hw hwk hz1 hz2 hcut hls hblV
  go_enter Tryz.func39, Tryz.ntmps39
  go_wp2
  go_region_held3 (fun V => V.cell? ⟨W, 4, none⟩ = some (.pointer (some ⟨R, 0, none⟩)) ∧ V.cell? ⟨W, 5, none⟩ = some (.int .u8 c) ∧ V.cell? ⟨W, 8, none⟩ = some (.string text)) (first | exact ⟨g4, g5, g8⟩ | exact z3 | go_keep) (first | (go_at_call 60; refine HCUT.out.mono ?_; rintro e w3 ⟨v3, rfl, h31, h32, h33⟩; have hwk3 : Wn w3 W B (.pointer (some ⟨R, 0, none⟩)) cnt op arg c n here text := (h33.block W (Nat.lt_of_lt_of_le hWl HB.out.size) (fun e => hWm (Option.some.inj e))).trans ((HB.out.block W hWl).trans HZ.out.2.2); have z3 : w3.cell? ⟨W, 4, none⟩ = some (.pointer (some ⟨R, 0, none⟩)) ∧ w3.cell? ⟨W, 5, none⟩ = some (.int .u8 c) ∧ w3.cell? ⟨W, 8, none⟩ = some (.string text) := ⟨by rw [blk_cell hwk3]; rfl, by rw [blk_cell hwk3]; rfl, by rw [blk_cell hwk3]; rfl⟩; have H3 := Lib.hid (And.intro h31 (And.intro h32 (And.intro h33 hwk3))); clear h31 h32 h33 hwk3))
  all_goals
    obtain ⟨z4, z5, z8⟩ := z3
    obtain ⟨A3, c3, hv3, _⟩ := id H3.out.1
    subst hv3
    have ed3 := (HH.out.new HB.out).turn H3.out.2.2.1 H3.out.2.1 ((HH.out.shp.set c A3 _ c3 false).set 34 A3 _ c3 false)
    have hset := nset_any (ed3.bf.new (below_alloc (Below.refl _ w3) (.cells #[.string (text.extract q text.size)] 9))) (.inl hP) H3.out.2.2.2 (ls_one w3 (text.extract q text.size)) hh hi (by show s.ls.length + 1 ≤ _; omega) (by omega) (long_one HZ.out.2.1) (one_le (Nat.le_trans HZ.out.2.1 (by decide))) ho hnm
    have hsp : sputs s.ls.length 1 [text.extract q text.size] = [text.extract q text.size] := if_neg (by simp)
    rw [hsp] at hset
    have HSET := Lib.hid hset
    have HED := Lib.hid ed3
    clear hset ed3 hsp
    go_wp2_with fail
    refine HSET.out.mono ?_
    rintro e w5 ⟨rfl, h5⟩
    have H5 := Lib.hid h5
    clear h5
    go_wp2
    go_ret
    refine ⟨⟨w0.w, fun b => w0.P b ∨ ((w.alloc (.cells #[.string (text.extract 0 q)] 9)).drew.heap.size ≤ b ∧ b < w3.heap.size), w3⟩, _, _, rfl, rfl, HED.out.text H5.out, zset_same _ _ _ _, ?_⟩
    exact (H3.out.1.wide (H := fun b => w0.P b ∨ ((w.alloc (.cells #[.string (text.extract 0 q)] 9)).drew.heap.size ≤ b ∧ b < w3.heap.size)) fun b hlt hk => .inr ⟨hk, hlt⟩).kept fun c hc hw => H5.out.prot c hw
end
end Go.Proofs.YtdhemdeapphfoaaGreatDoor

/- norm's Do of the keys A, I, x: what it does to text and registers. -/
set_option linter.unusedVariables false
set_option linter.unusedSimpArgs false
namespace Go.Proofs.YtdhemdeapphfoaaGreatDoor
open Go.RowKit Go.Shelf Go.Maps Go.Proofs.YtdhemdeapphfoaaGreatDoorW.PrintWords Go.Proofs.YtdhemdeapphfoaaGreatDoorW.PrintLast

section
variable {N0 : Nat} {w0 : Base} {w w' : World} {B R mb W m : Nat} {s : Bs} {vr : Value} {cnt reg n here : Int} {op arg text : ByteArray} {ρ : Int → Option Value}
set_option maxRecDepth 100000 in
set_option maxHeartbeats 1000000 in
theorem does_A (h : Bf N0 w0 w B s) (hP : w0.P W) {c : Nat} (hw : Wn w0.z W B vr cnt ⟨#[65]⟩ arg reg (c : Int) here text) (hc : c ≤ 9) (ha : arg.size ≤ 60) (ht : text.size ≤ 300) {i : Nat} (hh : here = (i : Int) + 1) (hi : i + 1 ≤ s.ls.length) (hl : s.ls.length ≤ 1000) (ho : s.opn.length ≤ 1000000) (hnm : s.nm < maxLen) :
    Calls Tryz.prog 24 #[.pointer (some ⟨W, 0, none⟩)] w (BfPost N0 w0 B (putS (spliceS s i 1 [text ++ repB arg c]) here) (.int .u16 0)) := by
  have hwk := h.wn hP hw
  have k1 : w.cell? ⟨W, 1, none⟩ = some (.string ⟨#[65]⟩) := by rw [blk_cell hwk]; rfl
  have k8 : w.cell? ⟨W, 8, none⟩ = some (.string text) := by rw [blk_cell hwk]; rfl
  have hz := repB_size arg c
  have hz2 : arg.size * c ≤ 540 := Nat.le_trans (Nat.mul_le_mul ha hc) (by decide)
  have hz4 : (repB arg c).size ≤ 540 := by omega
  have hz5 : ¬ (9223372036854775807 < text.size + (repB arg c).size) := by omega
  have hz3 : (text ++ repB arg c).size ≤ 840 := by rw [ByteArray.size_append]; omega
  have hWl := blk_lt hwk
  have HSP := Lib.hid (fun V (hb : Below w.heap.size w V) => spelled_any (w := V) ((hb.block W hWl).trans hwk) hc ha)
  have HS := Lib.hid (show ∀ V, Below w.heap.size w V → V.cell? ⟨W, 8, none⟩ = some (.string text) from fun V hb => by rw [blk_cell ((hb.block W hWl).trans hwk)]; rfl)
  have hsp : sputs s.ls.length 1 [text ++ repB arg c] = [text ++ repB arg c] := if_neg (by simp)
  have HSET := Lib.hid (fun V (hb : Below w.heap.size w V) => nset_any (h.new (below_alloc hb (.cells #[.string (text ++ repB arg c)] 9))) hP hw (ls_one V (text ++ repB arg c)) hh hi (by simp only [List.length_singleton]; omega) (by omega) (long_one (Nat.le_trans hz3 (by decide))) (one_le (Nat.le_trans hz3 (by decide))) ho hnm)
  have HSETD := Lib.hid (fun V (hb : Below w.heap.size w V) => nset_any (h.new (below_alloc hb (.cells #[.string (text ++ repB arg c)] 9)).drew) hP hw ((ls_one V (text ++ repB arg c)).step (w' := (V.alloc (.cells #[.string (text ++ repB arg c)] 9)).drew) (Nat.le_refl _) fun _ _ _ => rfl) hh hi (by simp only [List.length_singleton]; omega) (by omega) (long_one (Nat.le_trans hz3 (by decide))) (one_le (Nat.le_trans hz3 (by decide))) ho hnm)
  rw [hsp] at HSET HSETD
  have HBC := Lib.hid (Below.refl w.heap.size w)
  have HBD := Lib.hid ((Below.refl w.heap.size w).drew)
  have HW := Lib.hid hw
  clear h hw hwk hsp hz hz2
  go_enter Tryz.func24, Tryz.ntmps24
  go_wp2
  go_region_held3 (fun V => V.cell? ⟨W, 8, none⟩ = some (.string text)) (first | exact k8 | exact y8 | exact z8 | go_keep) (first
    | (go_at_call 42; (with_reducible refine (HSP.out _ HBC.out).mono ?_); rintro e w2 ⟨rfl, b2⟩; have y8 := HS.out _ (below_then HBC.out HBC.out.size b2); have HBC := Lib.hid (below_then HBC.out HBC.out.size b2); have HBD := Lib.hid (HBC.out.drew); clear b2)
    | (go_at_call 42; (with_reducible refine (HSP.out _ HBD.out).mono ?_); rintro e w2 ⟨rfl, b2⟩; have y8 := HS.out _ (below_then HBD.out HBD.out.size b2); have HBC := Lib.hid (below_then HBD.out HBD.out.size b2); have HBD := Lib.hid (HBC.out.drew); clear b2)
    | (go_at_call 41; (with_reducible refine (HSET.out _ HBC.out).mono ?_); rintro e w3 ⟨rfl, b3⟩; have z8 : w3.cell? ⟨W, 8, none⟩ = some (.string text) := (by rw [blk_cell (b3.wn hP HW.out)]; rfl); have H3 := Lib.hid b3; clear b3)
    | (go_at_call 41; (with_reducible refine (HSETD.out _ HBC.out).mono ?_); rintro e w3 ⟨rfl, b3⟩; have z8 : w3.cell? ⟨W, 8, none⟩ = some (.string text) := (by rw [blk_cell (b3.wn hP HW.out)]; rfl); have H3 := Lib.hid b3; clear b3))
  all_goals
    go_wp2
    go_ret
    exact ⟨rfl, H3.out⟩
set_option maxRecDepth 100000 in
set_option maxHeartbeats 1000000 in
theorem does_I (h : Bf N0 w0 w B s) (hP : w0.P W) {c : Nat} (hw : Wn w0.z W B vr cnt ⟨#[73]⟩ arg reg (c : Int) here text) (hc : c ≤ 9) (ha : arg.size ≤ 60) (ht : text.size ≤ 300) {i : Nat} (hh : here = (i : Int) + 1) (hi : i + 1 ≤ s.ls.length) (hl : s.ls.length ≤ 1000) (ho : s.opn.length ≤ 1000000) (hnm : s.nm < maxLen) :
    Calls Tryz.prog 24 #[.pointer (some ⟨W, 0, none⟩)] w (BfPost N0 w0 B (putS (spliceS s i 1 [repB arg c ++ text]) here) (.int .u16 0)) := by
  have hwk := h.wn hP hw
  have k1 : w.cell? ⟨W, 1, none⟩ = some (.string ⟨#[73]⟩) := by rw [blk_cell hwk]; rfl
  have k8 : w.cell? ⟨W, 8, none⟩ = some (.string text) := by rw [blk_cell hwk]; rfl
  have hz := repB_size arg c
  have hz2 : arg.size * c ≤ 540 := Nat.le_trans (Nat.mul_le_mul ha hc) (by decide)
  have hz4 : (repB arg c).size ≤ 540 := by omega
  have hz5 : ¬ (9223372036854775807 < (repB arg c).size + text.size) := by omega
  have hz3 : (repB arg c ++ text).size ≤ 840 := by rw [ByteArray.size_append]; omega
  have hWl := blk_lt hwk
  have HSP := Lib.hid (fun V (hb : Below w.heap.size w V) => spelled_any (w := V) ((hb.block W hWl).trans hwk) hc ha)
  have HS := Lib.hid (show ∀ V, Below w.heap.size w V → V.cell? ⟨W, 8, none⟩ = some (.string text) from fun V hb => by rw [blk_cell ((hb.block W hWl).trans hwk)]; rfl)
  have hsp : sputs s.ls.length 1 [repB arg c ++ text] = [repB arg c ++ text] := if_neg (by simp)
  have HSET := Lib.hid (fun V (hb : Below w.heap.size w V) => nset_any (h.new (below_alloc hb (.cells #[.string (repB arg c ++ text)] 9))) hP hw (ls_one V (repB arg c ++ text)) hh hi (by simp only [List.length_singleton]; omega) (by omega) (long_one (Nat.le_trans hz3 (by decide))) (one_le (Nat.le_trans hz3 (by decide))) ho hnm)
  have HSETD := Lib.hid (fun V (hb : Below w.heap.size w V) => nset_any (h.new (below_alloc hb (.cells #[.string (repB arg c ++ text)] 9)).drew) hP hw ((ls_one V (repB arg c ++ text)).step (w' := (V.alloc (.cells #[.string (repB arg c ++ text)] 9)).drew) (Nat.le_refl _) fun _ _ _ => rfl) hh hi (by simp only [List.length_singleton]; omega) (by omega) (long_one (Nat.le_trans hz3 (by decide))) (one_le (Nat.le_trans hz3 (by decide))) ho hnm)
  rw [hsp] at HSET HSETD
  have HBC := Lib.hid (Below.refl w.heap.size w)
  have HBD := Lib.hid ((Below.refl w.heap.size w).drew)
  have HW := Lib.hid hw
  clear h hw hwk hsp hz hz2
  go_enter Tryz.func24, Tryz.ntmps24
  go_wp2
  go_region_held3 (fun V => V.cell? ⟨W, 8, none⟩ = some (.string text)) (first | exact k8 | exact y8 | exact z8 | go_keep) (first
    | (go_at_call 42; (with_reducible refine (HSP.out _ HBC.out).mono ?_); rintro e w2 ⟨rfl, b2⟩; have y8 := HS.out _ (below_then HBC.out HBC.out.size b2); have HBC := Lib.hid (below_then HBC.out HBC.out.size b2); have HBD := Lib.hid (HBC.out.drew); clear b2)
    | (go_at_call 42; (with_reducible refine (HSP.out _ HBD.out).mono ?_); rintro e w2 ⟨rfl, b2⟩; have y8 := HS.out _ (below_then HBD.out HBD.out.size b2); have HBC := Lib.hid (below_then HBD.out HBD.out.size b2); have HBD := Lib.hid (HBC.out.drew); clear b2)
    | (go_at_call 41; (with_reducible refine (HSET.out _ HBC.out).mono ?_); rintro e w3 ⟨rfl, b3⟩; have z8 : w3.cell? ⟨W, 8, none⟩ = some (.string text) := (by rw [blk_cell (b3.wn hP HW.out)]; rfl); have H3 := Lib.hid b3; clear b3)
    | (go_at_call 41; (with_reducible refine (HSETD.out _ HBC.out).mono ?_); rintro e w3 ⟨rfl, b3⟩; have z8 : w3.cell? ⟨W, 8, none⟩ = some (.string text) := (by rw [blk_cell (b3.wn hP HW.out)]; rfl); have H3 := Lib.hid b3; clear b3))
  all_goals
    go_wp2
    go_ret
    exact ⟨rfl, H3.out⟩
set_option maxRecDepth 100000 in
set_option maxHeartbeats 1000000 in
theorem does_x (h : Ed N0 w0 w B R mb s m ρ) (hm : m + 20 < maxLen) (hP : w0.P W) (hWm : W ≠ mb) {c : Int} (c0 : 97 ≤ c) (c1 : c ≤ 122) {k q : Nat} (hw : Wn w0.z W B (.pointer (some ⟨R, 0, none⟩)) cnt ⟨#[120]⟩ arg c (k : Int) here text) (ht : text.size ≠ 0) (ht2 : text.size ≤ 1000) (hq : min k text.size = q) (hk1 : 1 ≤ k) (hk2 : k ≤ 1000000) {i : Nat} (hh : here = (i : Int) + 1) (hi : i + 1 ≤ s.ls.length) (hl : s.ls.length ≤ 1500) (ho : s.opn.length ≤ 1000000) (hnm : s.nm < maxLen) :
    Calls Tryz.prog 24 #[.pointer (some ⟨W, 0, none⟩)] w (ZcPost N0 w0.w B R mb (putS (spliceS s i 1 [text.extract q text.size]) here) m c (text.extract 0 q)) := by
  have hwk := h.bf.wn hP hw
  have k1 : w.cell? ⟨W, 1, none⟩ = some (.string ⟨#[120]⟩) := by rw [blk_cell hwk]; rfl
  have k6 : w.cell? ⟨W, 6, none⟩ = some (.int .i64 (k : Int)) := by rw [blk_cell hwk]; rfl
  have HC := Lib.hid (ncut_some h hm hP hWm c0 c1 hw ht ht2 hq hk1 hk2 hh hi hl ho hnm)
  clear h hw hwk
  go_enter Tryz.func24, Tryz.ntmps24
  go_wp2_with fail
  refine HC.out.mono ?_
  rintro e w2 ⟨w1, ρ1, v1, rfl, h1, h2, h3, h4⟩
  have H := Lib.hid (And.intro h1 (And.intro h2 (And.intro h3 h4)))
  clear h1 h2 h3 h4
  go_wp2
  go_ret
  exact ⟨w1, ρ1, v1, rfl, H.out⟩
set_option maxRecDepth 100000 in
set_option maxHeartbeats 1000000 in
theorem does_x0 (h : Bf N0 w0 w B s) (hP : w0.P W) {k : Int} (hw : Wn w0.z W B vr cnt ⟨#[120]⟩ arg reg k here ⟨#[]⟩) :
    Calls Tryz.prog 24 #[.pointer (some ⟨W, 0, none⟩)] w fun e w' => e = .returned (.int .u16 190) ∧ Below w.heap.size w w' := by
  have hwk := h.wn hP hw
  have k1 : w.cell? ⟨W, 1, none⟩ = some (.string ⟨#[120]⟩) := by rw [blk_cell hwk]; rfl
  have k6 : w.cell? ⟨W, 6, none⟩ = some (.int .i64 k) := by rw [blk_cell hwk]; rfl
  have HC := Lib.hid (ncut_none h hP hw k)
  clear h hw hwk
  go_enter Tryz.func24, Tryz.ntmps24
  go_wp2_with fail
  refine HC.out.mono ?_
  rintro e w2 ⟨rfl, rfl⟩
  go_wp2
  go_ret
  exact ⟨rfl, Below.refl _ _⟩
end
end Go.Proofs.YtdhemdeapphfoaaGreatDoor

/- norm.Do of the keys A, I, x over text and registers; Get of a register in which nothing is. -/
set_option linter.unusedVariables false
set_option linter.unusedSimpArgs false
namespace Go.Proofs.YtdhemdeapphfoaaGreatDoor
open Go.RowKit Go.Shelf Go.Maps Go.Proofs.YtdhemdeapphfoaaGreatDoorW.PrintWords Go.Proofs.YtdhemdeapphfoaaGreatDoorW.PrintLast

/-- a text, told by its lines and its cursor, and its registers -/
def NEd (N0 : Nat) (wb w : World) (B R mb : Nat) (X : List ByteArray) (k q m : Nat) (ρ : Int → Option Value) : Prop :=
  ∃ (w0 : Base) (s : Bs), w0.w = wb ∧ Ed N0 w0 w B R mb s m ρ ∧ s.ls = X ∧ s.cur = (k : Int) ∧ s.opn.length ≤ q ∧ s.nm = 0
/-- the same, and what is in a register -/
def NEz (N0 : Nat) (wb w : World) (B R mb : Nat) (X : List ByteArray) (c : Int) (y : ByteArray) : Prop :=
  ∃ (w0 : Base) (s : Bs) (m : Nat) (ρ : Int → Option Value) (v : Value), w0.w = wb ∧ Ed N0 w0 w B R mb s m ρ ∧ s.ls = X ∧ ρ c = some (.agg #[v, .bool false]) ∧ Ls w w0.P v [y]
section
variable {N0 : Nat} {wb w w' : World} {B R mb k q m : Nat} {X : List ByteArray} {ρ : Int → Option Value}
theorem NEd.new (h : NEd N0 wb w B R mb X k q m ρ) (hb : Below w.heap.size w w') : NEd N0 wb w' B R mb X k q m ρ := by
  obtain ⟨w0, s, h1, h2, h3⟩ := h
  exact ⟨w0, s, h1, h2.new hb, h3⟩
theorem NEd.below (h : NEd N0 wb w B R mb X k q m ρ) : Below N0 wb w := by
  obtain ⟨w0, s, h1, h2, h3⟩ := h
  exact h1 ▸ h2.bf.below
theorem Bf.linesW {w0 : Base} {s : Bs} (h : Bf N0 w0 w B s) (hl : s.ls.length ≤ 1000000000) : ∃ T, ∀ V, Below w.heap.size w V → V.cell? ⟨B, 0, none⟩ = some (.pointer (some ⟨T, 0, none⟩)) ∧ Calls Tryz.prog 12 #[.pointer (some ⟨T, 0, none⟩)] V (OwnPost V.heap.size V s.ls) := by
  obtain ⟨T, k, F, t⟩ := h.len
  exact ⟨T, fun V hb => ⟨(World.cell?_of_block (a := ⟨B, 0, none⟩) (hb.block B (cell_lt k))).trans k, Lines_any (t.step fun c hc _ => hb.block c hc) hl⟩⟩
theorem NEd.lines (h : NEd N0 wb w B R mb X k q m ρ) (hl : X.length ≤ 1000000000) : ∃ T, ∀ V, Below w.heap.size w V → V.cell? ⟨B, 0, none⟩ = some (.pointer (some ⟨T, 0, none⟩)) ∧ Calls Tryz.prog 12 #[.pointer (some ⟨T, 0, none⟩)] V (OwnPost V.heap.size V X) := by
  obtain ⟨w0, s, h1, h2, rfl, h4⟩ := h
  exact h2.bf.linesW hl
theorem NEz.lines {c : Int} {y : ByteArray} (h : NEz N0 wb w B R mb X c y) (hl : X.length ≤ 1000000000) : ∃ T, ∀ V, Below w.heap.size w V → V.cell? ⟨B, 0, none⟩ = some (.pointer (some ⟨T, 0, none⟩)) ∧ Calls Tryz.prog 12 #[.pointer (some ⟨T, 0, none⟩)] V (OwnPost V.heap.size V X) := by
  obtain ⟨w0, s, m, ρ, v, h1, h2, rfl, h4⟩ := h
  exact h2.bf.linesW hl
theorem NEz.below {c : Int} {y : ByteArray} (h : NEz N0 wb w B R mb X c y) : Below N0 wb w := by
  obtain ⟨w0, s, m, ρ, v, h1, h2, h3⟩ := h
  exact h1 ▸ h2.bf.below
theorem NEz.get {c : Int} {y : ByteArray} (h : NEz N0 wb w B R mb X c y) (c0 : 97 ≤ c) (c1 : c ≤ 122) : Calls Tryz.prog 14 #[.pointer (some ⟨R, 0, none⟩), .int .u8 c] w (GetRPost w false [y]) := by
  obtain ⟨w0, s, m, ρ, v, h1, h2, h3, h4, h5⟩ := h
  exact rget_any h2.rg c0 c1 h4 h5 (by simp) (by simp)

/-- Do of a key, over text and registers -/
theorem ned_do (h : NEd N0 wb w B R mb X k q m ρ) (h1 : 1 ≤ k) (h2 : k ≤ X.length) (hl : X.length ≤ 1000000) {c : Nat} {op arg : ByteArray} {reg : Int} {Q : Value → World → Prop}
    (hd : ∀ (w0 : Base) (s : Bs) (W : Nat) (V : World), w0.w = wb → w0.P W → W ≠ mb → Ed N0 w0 V B R mb s m ρ → s.ls = X → s.cur = (k : Int) → s.opn.length ≤ q → s.nm = 0 → Wn w0.z W B (.pointer (some ⟨R, 0, none⟩)) c op arg (if reg = 0 then 34 else reg) (min (max (c : Int) 1) 2000) (k : Int) (X.getD (k - 1) ByteArray.empty) → Calls Tryz.prog 24 #[.pointer (some ⟨W, 0, none⟩)] V fun e w' => ∃ v, e = .returned v ∧ Q v w') :
    Calls Tryz.prog 10 #[.pointer (some ⟨B, 0, none⟩), .pointer (some ⟨R, 0, none⟩), .agg #[.int .i64 (c : Int), .string op, .string arg], .int .u8 reg] w fun e w' => ∃ v, e = .returned v ∧ Q v w' := by
  obtain ⟨w0, s, e1, h9, rfl, e3, e4, e5⟩ := h
  refine ndo_any h9.bf (R := R) (Q := Q) (k := k - 1) (n := min (max (c : Int) 1) 2000) (by omega) (by omega) hl (by omega) rfl fun W V a1 a2 a3 a4 => ?_
  rw [show ((k - 1 : Nat) : Int) + 1 = k by omega] at a4
  exact hd ⟨w0.w, fun b => w0.P b ∨ (w.heap.size ≤ b ∧ b < V.heap.size), V⟩ s W V e1 (.inr ⟨a1, a2⟩) (by have := h9.rg.ltM; omega) (h9.guard a3) rfl e3 e4 e5 a4
end

section
variable {N0 : Nat} {wb w w' : World} {B R mb q m : Nat} {X : List ByteArray} {ρ : Int → Option Value} {t arg : ByteArray} {c : Nat}
theorem ned_A (h : NEd N0 wb w B R mb [t] 1 q m ρ) (hq : q ≤ 1000000) (ht : t.size ≤ 300) (ha : arg.size ≤ 60) (hc1 : 1 ≤ c) (hc : c ≤ 9) :
    Calls Tryz.prog 10 #[.pointer (some ⟨B, 0, none⟩), .pointer (some ⟨R, 0, none⟩), .agg #[.int .i64 (c : Int), .string ⟨#[65]⟩, .string arg], .int .u8 0] w fun e w' => ∃ v, e = .returned v ∧ v = .int .u16 0 ∧ NEd N0 wb w' B R mb [t ++ repB arg c] 1 (q + 1) m ρ := by
  refine ned_do h (by simp) (by simp) (by simp) (Q := fun v w' => v = .int .u16 0 ∧ NEd N0 wb w' B R mb [t ++ repB arg c] 1 (q + 1) m ρ) fun w0 s W V e1 hP hW he hX hk hq2 hn hw => ?_
  rw [show min (max (c : Int) 1) 2000 = (c : Int) by omega] at hw
  refine (does_A (i := 0) he.bf hP hw hc ha ht rfl (by rw [hX]; simp) (by rw [hX]; simp) (by omega) (by rw [hn]; decide)).mono ?_
  rintro e w9 ⟨rfl, b9⟩
  refine ⟨_, rfl, rfl, w0, _, e1, he.text b9, ?_, ?_, ?_, hn⟩
  · show Bt.splice s.ls 0 1 [t ++ repB arg c] = _
    rw [hX]
    rfl
  · show min (max ((1 : Nat) : Int) 1) ((Bt.splice s.ls 0 1 [t ++ repB arg c]).length : Int) = _
    rw [hX]
    rfl
  · show (s.opn ++ [_]).length ≤ _
    rw [List.length_append]
    simp
    omega
theorem ned_I (h : NEd N0 wb w B R mb [t] 1 q m ρ) (hq : q ≤ 1000000) (ht : t.size ≤ 300) (ha : arg.size ≤ 60) (hc1 : 1 ≤ c) (hc : c ≤ 9) :
    Calls Tryz.prog 10 #[.pointer (some ⟨B, 0, none⟩), .pointer (some ⟨R, 0, none⟩), .agg #[.int .i64 (c : Int), .string ⟨#[73]⟩, .string arg], .int .u8 0] w fun e w' => ∃ v, e = .returned v ∧ v = .int .u16 0 ∧ NEd N0 wb w' B R mb [repB arg c ++ t] 1 (q + 1) m ρ := by
  refine ned_do h (by simp) (by simp) (by simp) (Q := fun v w' => v = .int .u16 0 ∧ NEd N0 wb w' B R mb [repB arg c ++ t] 1 (q + 1) m ρ) fun w0 s W V e1 hP hW he hX hk hq2 hn hw => ?_
  rw [show min (max (c : Int) 1) 2000 = (c : Int) by omega] at hw
  refine (does_I (i := 0) he.bf hP hw hc ha ht rfl (by rw [hX]; simp) (by rw [hX]; simp) (by omega) (by rw [hn]; decide)).mono ?_
  rintro e w9 ⟨rfl, b9⟩
  refine ⟨_, rfl, rfl, w0, _, e1, he.text b9, ?_, ?_, ?_, hn⟩
  · show Bt.splice s.ls 0 1 [repB arg c ++ t] = _
    rw [hX]
    rfl
  · show min (max ((1 : Nat) : Int) 1) ((Bt.splice s.ls 0 1 [repB arg c ++ t]).length : Int) = _
    rw [hX]
    rfl
  · show (s.opn ++ [_]).length ≤ _
    rw [List.length_append]
    simp
    omega
theorem ned_x (h : NEd N0 wb w B R mb [t] 1 q m ρ) (hm : m + 20 < maxLen) (hq : q ≤ 1000000) (ht : t.size ≤ 1000) (ht0 : t.size ≠ 0) (hc1 : 1 ≤ c) (hc : c ≤ 9) {z : Int} (z0 : 97 ≤ z) (z1 : z ≤ 122) {p : Nat} (hp : min c t.size = p) {arg : ByteArray} :
    Calls Tryz.prog 10 #[.pointer (some ⟨B, 0, none⟩), .pointer (some ⟨R, 0, none⟩), .agg #[.int .i64 (c : Int), .string ⟨#[120]⟩, .string arg], .int .u8 z] w fun e w' => ∃ v, e = .returned v ∧ v = .int .u16 0 ∧ NEz N0 wb w' B R mb [t.extract p t.size] z (t.extract 0 p) := by
  refine ned_do h (by simp) (by simp) (by simp) (Q := fun v w' => v = .int .u16 0 ∧ NEz N0 wb w' B R mb [t.extract p t.size] z (t.extract 0 p)) fun w0 s W V e1 hP hW he hX hk hq2 hn hw => ?_
  rw [show min (max (c : Int) 1) 2000 = (c : Int) by omega, if_neg (by omega)] at hw
  refine (does_x (i := 0) he hm hP hW z0 z1 hw ht0 ht hp hc1 (by omega) rfl (by rw [hX]; simp) (by rw [hX]; simp) (by omega) (by rw [hn]; decide)).mono ?_
  rintro e w9 ⟨w1, ρ1, v1, rfl, b1, b2, b3, b4⟩
  refine ⟨_, rfl, rfl, w1, _, _, _, _, b1.trans e1, b2, ?_, b3, b4⟩
  show Bt.splice s.ls 0 1 [t.extract p t.size] = _
  rw [hX]
  rfl
theorem ned_x0 (h : NEd N0 wb w B R mb [(⟨#[]⟩ : ByteArray)] 1 q m ρ) (hc1 : 1 ≤ c) (hc : c ≤ 9) {z : Int} {arg : ByteArray} :
    Calls Tryz.prog 10 #[.pointer (some ⟨B, 0, none⟩), .pointer (some ⟨R, 0, none⟩), .agg #[.int .i64 (c : Int), .string ⟨#[120]⟩, .string arg], .int .u8 z] w fun e w' => ∃ v, e = .returned v ∧ v = .int .u16 190 ∧ NEd N0 wb w' B R mb [(⟨#[]⟩ : ByteArray)] 1 q m ρ := by
  refine ned_do h (by simp) (by simp) (by simp) (Q := fun v w' => v = .int .u16 190 ∧ NEd N0 wb w' B R mb [(⟨#[]⟩ : ByteArray)] 1 q m ρ) fun w0 s W V e1 hP hW he hX hk hq2 hn hw => ?_
  refine (does_x0 he.bf hP hw).mono ?_
  rintro e w9 ⟨rfl, b9⟩
  exact ⟨_, rfl, rfl, w0, s, e1, he.new b9, hX, hk, hq2, hn⟩
end
end Go.Proofs.YtdhemdeapphfoaaGreatDoor
