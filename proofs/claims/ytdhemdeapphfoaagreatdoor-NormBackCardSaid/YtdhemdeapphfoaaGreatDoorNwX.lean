
import Derived.Test.YtdhemdeapphfoaaGreatDoorNvY
import Derived.Test.YtdhemdeapphfoaaGreatDoorShelf
import Derived.Laws.DeepStrings4
set_option linter.unusedVariables false
set_option linter.unusedSimpArgs false

/- norm's set and spelled; Do of the keys A and I: walked. -/
set_option linter.unusedVariables false
set_option linter.unusedSimpArgs false
namespace Go.Proofs.YtdhemdeapphfoaaGreatDoor
open Go.RowKit Go.Shelf Go.Maps Go.Proofs.YtdhemdeapphfoaaGreatDoorW.PrintWords Go.Proofs.YtdhemdeapphfoaaGreatDoorW.PrintLast

section
variable {N0 : Nat} {w0 : Base} {w w' : World} {B W : Nat} {s : Bs} {vr : Value} {cnt reg n here : Int} {op arg text : ByteArray}
set_option maxRecDepth 100000 in
set_option maxHeartbeats 1000000 in
theorem nset_any (h : Bf N0 w0 w B s) (hP : w0.P W) (hw : Wn w0.z W B vr cnt op arg reg n here text) {G : Nat → Prop} {v : Value} {xs : List ByteArray} (hv : Ls w G v xs) {i : Nat} (hh : here = (i : Int) + 1) (hi : i + 1 ≤ s.ls.length) (hl : s.ls.length + xs.length ≤ 1 + 2000) (hsl : s.ls.length ≤ 1000000) (hlg : isLong xs = false) (hx : ∀ x ∈ xs, x.size ≤ 1000000000) (ho : s.opn.length ≤ 1000000) (hnm : s.nm < maxLen) :
    Calls Tryz.prog 41 #[.pointer (some ⟨W, 0, none⟩), v] w (BfPost N0 w0 B (putS (spliceS s i 1 (sputs s.ls.length 1 xs)) here) (.int .u16 0)) := by
  have HS := Lib.hid (bsplice_any (a := (i : Int) + 1) (k := 1) (h.new (Below.refl w.heap.size w).drew) (hv.step (w' := w.drew) (Nat.le_refl _) fun _ _ _ => rfl) rfl hi hl hsl (by omega) hlg (by omega) hx ho hnm)
  have hk := h.wn hP hw
  have g3 : w.cell? ⟨W, 3, none⟩ = some (.pointer (some ⟨B, 0, none⟩)) := by rw [blk_cell hk]; rfl
  have g7 : w.cell? ⟨W, 7, none⟩ = some (.int .i64 ((i : Int) + 1)) := by rw [blk_cell hk, ← hh]; rfl
  have HW := Lib.hid hw
  obtain ⟨Av, cv, hvs, _⟩ := id hv
  subst hvs hh
  clear h hv hw hk hx
  go_enter Tryz.func41, Tryz.ntmps41
  go_wp2
  go_region_held3 (fun V => V.cell? ⟨W, 3, none⟩ = some (.pointer (some ⟨B, 0, none⟩)) ∧ V.cell? ⟨W, 7, none⟩ = some (.int .i64 ((i : Int) + 1))) (first | exact ⟨g3, g7⟩ | exact ⟨q3, q7⟩ | go_keep) (first
    | (go_at_call 62; refine HS.out.mono ?_; rintro e w2 ⟨rfl, b2⟩; have q3 : w2.cell? ⟨W, 3, none⟩ = some (.pointer (some ⟨B, 0, none⟩)) := (by rw [blk_cell (b2.wn hP HW.out)]; rfl); have q7 : w2.cell? ⟨W, 7, none⟩ = some (.int .i64 ((i : Int) + 1)) := (by rw [blk_cell (b2.wn hP HW.out)]; rfl); have H2 := Lib.hid b2; clear b2))
  have hpu := bput_any (H2.out.new (Below.refl _ _).drew) ((i : Int) + 1)
  have HPU := Lib.hid hpu
  clear hpu
  go_wp2
  go_region_held3 (fun V => V.cell? ⟨W, 3, none⟩ = some (.pointer (some ⟨B, 0, none⟩)) ∧ V.cell? ⟨W, 7, none⟩ = some (.int .i64 ((i : Int) + 1))) (first | exact ⟨q3, q7⟩ | exact ⟨r3, r7⟩ | go_keep) (first
    | (go_at_call 9; refine HPU.out.mono ?_; rintro e w3 ⟨rfl, b3, _, _⟩; have r3 : w3.cell? ⟨W, 3, none⟩ = some (.pointer (some ⟨B, 0, none⟩)) := (by rw [blk_cell (b3.wn hP HW.out)]; rfl); have r7 : w3.cell? ⟨W, 7, none⟩ = some (.int .i64 ((i : Int) + 1)) := (by rw [blk_cell (b3.wn hP HW.out)]; rfl); have H3 := Lib.hid b3; clear b3))
  go_wp2
  go_ret
  exact ⟨rfl, H3.out⟩

end
end Go.Proofs.YtdhemdeapphfoaaGreatDoor

/- regs' Cut at a small letter; norm's cut; does of the keys A, I, x: walked. -/
set_option linter.unusedVariables false
set_option linter.unusedSimpArgs false
namespace Go.Proofs.YtdhemdeapphfoaaGreatDoor
open Go.RowKit Go.Shelf Go.Maps Go.Proofs.YtdhemdeapphfoaaGreatDoorW.PrintWords Go.Proofs.YtdhemdeapphfoaaGreatDoorW.PrintLast

set_option maxRecDepth 100000 in
set_option maxHeartbeats 1000000 in
theorem zcut_any {w : World} {R mb n : Nat} {ρ : Int → Option Value} (h : Rg w R mb n ρ) (hn : n + 1 < maxLen) {c : Int} (c0 : 97 ≤ c) (c1 : c ≤ 122) (hsh : Shp ρ) {G : Nat → Prop} {v : Value} {xs : List ByteArray} (hv : Ls w G v xs) (h0 : 0 < xs.length) (hl : xs.length ≤ 300) (hs : ∀ x ∈ xs, x.size ≤ 1000) (hsum : sumS xs ≤ 20000) (b : Bool) :
    Calls Tryz.prog 60 #[.pointer (some ⟨R, 0, none⟩), .int .u8 c, .agg #[v, .bool b]] w (YankPost w R mb n ρ c b xs) := by
  have HH := Lib.hid h
  have hRl := h.ltR
  have hMl := h.ltM
  have HCL := Lib.hid (fun W (hb : Below w.heap.size w W) => rclone_any (hv.step hb.size fun b hlt _ => hb.block b hlt) h0 (by omega) b)
  have HXS := Lib.hid (And.intro hs hsum)
  have b1 : (c == 34) = false := by rw [beq_eq_false_iff_ne]; omega
  have b2 : (c != 34) = true := by rw [bne_iff_ne]; omega
  obtain ⟨Av, cv, hvs, _⟩ := id hv
  subst hvs
  clear h hv hs hsum
  go_enter Tryz.func60, Tryz.ntmps60
  go_wp2_with fail
  have hal : Below w.heap.size w (w.alloc (.cells #[.slice Av xs.length cv, .bool b] 48)) := below_alloc (Below.refl _ w) _
  refine (HCL.out _ hal).mono ?_
  rintro e w2 ⟨v2, rfl, h21, h22, h23⟩
  obtain ⟨A2, c2, hv2', _⟩ := h21.slice
  rw [cS_len] at hv2'
  subst hv2'
  have hC2 : w2.heap[w.heap.size]? = some (.cells #[.slice Av xs.length cv, .bool b] 48 (0, 0)) := (h23.block _ (by simp only [World.size_alloc]; omega)).trans (World.alloc_heap_new w _)
  have d0 : w2.cell? ⟨w.heap.size, 0, none⟩ = some (.slice Av xs.length cv) := by rw [blk_cell hC2]; rfl
  have d1 : w2.cell? ⟨w.heap.size, 1, none⟩ = some (.bool b) := by rw [blk_cell hC2]; rfl
  have g0 : w2.frozen? ⟨w.heap.size, 0, none⟩ = false := blk_frozen hC2 0
  have g1 : w2.frozen? ⟨w.heap.size, 1, none⟩ = false := blk_frozen hC2 1
  have hne : ∀ m, m ≤ w.heap.size → (Value.slice A2 xs.length c2).ownBlock ≠ some m := fun m hm e => by
    have := h22 m e
    simp only [World.size_alloc] at this
    omega
  have hrw := (h21.setCell (p := ⟨w.heap.size, 0, none⟩) (hne _ (by dsimp only; omega)) (.slice A2 xs.length c2)).setCell (p := ⟨w.heap.size, 1, none⟩) (hne _ (by dsimp only; omega)) (.bool b)
  have hbl := ((below_then hal hal.size h23).setCell (p := ⟨w.heap.size, 0, none⟩) (Nat.le_refl _) (.slice A2 xs.length c2)).setCell (p := ⟨w.heap.size, 1, none⟩) (Nat.le_refl _) (.bool b)
  have HRW := Lib.hid (And.intro hrw (And.intro hbl h22))
  clear h21 h22 h23 hC2 hrw hbl hal
  go_wp2_with fail
  obtain ⟨W4, hW4⟩ : ∃ W4, (w2.setCell ⟨w.heap.size, 0, none⟩ (.slice A2 xs.length c2)).setCell ⟨w.heap.size, 1, none⟩ (.bool b) = W4 := ⟨_, rfl⟩
  rw [hW4] at HRW ⊢
  clear hW4 d0 d1 g0 g1
  obtain ⟨Ao, lo, co, bo, hold⟩ := hsh.getD c
  have hlay := lay_gen (HH.out.step HRW.out.2.1) hn (c := c) (by omega) (by omega) (by omega) (Small_small c c0 c1) (Known_small c c0 c1) hold (Ls.of_rw HRW.out.1) hl HXS.out.1 HXS.out.2 b
  refine hlay.mono ?_
  rintro e w5 ⟨rfl, hrg, hgr⟩
  have hge : ∀ k, (Value.slice A2 xs.length c2).ownBlock = some k → w.heap.size ≤ k ∧ k ≠ mb := fun k hk => by
    have := HRW.out.2.2 k hk
    simp only [World.size_alloc] at this
    omega
  have HF := Lib.hid (And.intro (show Ls w5 (fun k => w.heap.size ≤ k) (.slice A2 xs.length c2) xs from ((Ls.of_rw HRW.out.1).step hgr.size fun k hlt hk => hgr.block k hlt (fun e => (hge k hk).2 (Option.some.inj e))).wide fun k _ hk => (hge k hk).1) (And.intro hrg (show w.grownBy w5 (some mb) from ⟨hgr.os.trans HRW.out.2.1.os, hgr.tape.trans HRW.out.2.1.tape, hgr.output.trans HRW.out.2.1.output, Nat.le_trans HRW.out.2.1.size hgr.size, fun k hk hne => (hgr.block k (Nat.lt_of_lt_of_le hk HRW.out.2.1.size) hne).trans (HRW.out.2.1.block k hk)⟩)))
  clear hrg hgr hlay hge
  go_wp2
  go_ret
  exact ⟨_, rfl, HF.out.1, HF.out.2.1, HF.out.2.2⟩


section
variable {N0 : Nat} {w0 : Base} {w w' : World} {B R mb W m : Nat} {s : Bs} {vr : Value} {cnt reg n here : Int} {op arg text : ByteArray} {ρ : Int → Option Value}
theorem zset_same (ρ : Int → Option Value) (c d : Int) (v : Value) : setR (setR ρ c v) d v c = some v := by
  unfold setR
  split
  · rfl
  · simp
theorem long_one {t : ByteArray} (h : t.size ≤ 1000) : isLong [t] = false := by
  unfold isLong
  simp
  omega
theorem one_le {y : ByteArray} {n : Nat} (h : y.size ≤ n) : ∀ x ∈ [y], x.size ≤ n := fun x hx => by
  obtain rfl : x = y := by simpa using hx
  exact h
theorem ls_one (w : World) (x : ByteArray) : Ls (w.alloc (.cells #[.string x] 9)) (fun k => w.heap.size ≤ k) (.slice (some ⟨w.heap.size, 0, none⟩) 1 1) [x] :=
  ((ls_lit w [x] (by unfold maxLen; simp)).wide fun b _ hb => by omega)

end
end Go.Proofs.YtdhemdeapphfoaaGreatDoor

/- norm's Do of the keys A, I, x: what it does to text and registers. -/
set_option linter.unusedVariables false
set_option linter.unusedSimpArgs false
namespace Go.Proofs.YtdhemdeapphfoaaGreatDoor
open Go.RowKit Go.Shelf Go.Maps Go.Proofs.YtdhemdeapphfoaaGreatDoorW.PrintWords Go.Proofs.YtdhemdeapphfoaaGreatDoorW.PrintLast

section
variable {N0 : Nat} {w0 : Base} {w w' : World} {B R mb W m : Nat} {s : Bs} {vr : Value} {cnt reg n here : Int} {op arg text : ByteArray} {ρ : Int → Option Value}
end
end Go.Proofs.YtdhemdeapphfoaaGreatDoor

/- norm.Do of the keys A, I, x over text and registers; Get of a register in which nothing is. -/
set_option linter.unusedVariables false
set_option linter.unusedSimpArgs false
namespace Go.Proofs.YtdhemdeapphfoaaGreatDoor
open Go.RowKit Go.Shelf Go.Maps Go.Proofs.YtdhemdeapphfoaaGreatDoorW.PrintWords Go.Proofs.YtdhemdeapphfoaaGreatDoorW.PrintLast

/-- a text, told by its lines and its cursor, and its registers -/
def NEd (N0 : Nat) (wb w : World) (B R mb : Nat) (X : List ByteArray) (k q m : Nat) (ρ : Int → Option Value) : Prop :=
  ∃ (w0 : Base) (s : Bs), w0.w = wb ∧ Ed N0 w0 w B R mb s m ρ ∧ s.ls = X ∧ s.cur = (k : Int) ∧ s.opn.length ≤ q ∧ s.nm = 0
/-- the same, and what is in a register -/
def NEz (N0 : Nat) (wb w : World) (B R mb : Nat) (X : List ByteArray) (c : Int) (y : ByteArray) : Prop :=
  ∃ (w0 : Base) (s : Bs) (m : Nat) (ρ : Int → Option Value) (v : Value), w0.w = wb ∧ Ed N0 w0 w B R mb s m ρ ∧ s.ls = X ∧ ρ c = some (.agg #[v, .bool false]) ∧ Ls w w0.P v [y]
section
variable {N0 : Nat} {wb w w' : World} {B R mb k q m : Nat} {X : List ByteArray} {ρ : Int → Option Value}
theorem NEd.new (h : NEd N0 wb w B R mb X k q m ρ) (hb : Below w.heap.size w w') : NEd N0 wb w' B R mb X k q m ρ := by
  obtain ⟨w0, s, h1, h2, h3⟩ := h
  exact ⟨w0, s, h1, h2.new hb, h3⟩
theorem NEd.below (h : NEd N0 wb w B R mb X k q m ρ) : Below N0 wb w := by
  obtain ⟨w0, s, h1, h2, h3⟩ := h
  exact h1 ▸ h2.bf.below
theorem Bf.linesW {w0 : Base} {s : Bs} (h : Bf N0 w0 w B s) (hl : s.ls.length ≤ 1000000000) : ∃ T, ∀ V, Below w.heap.size w V → V.cell? ⟨B, 0, none⟩ = some (.pointer (some ⟨T, 0, none⟩)) ∧ Calls Tryz.prog 12 #[.pointer (some ⟨T, 0, none⟩)] V (OwnPost V.heap.size V s.ls) := by
  obtain ⟨T, k, F, t⟩ := h.len
  exact ⟨T, fun V hb => ⟨(World.cell?_of_block (a := ⟨B, 0, none⟩) (hb.block B (cell_lt k))).trans k, Lines_any (t.step fun c hc _ => hb.block c hc) hl⟩⟩
theorem NEd.lines (h : NEd N0 wb w B R mb X k q m ρ) (hl : X.length ≤ 1000000000) : ∃ T, ∀ V, Below w.heap.size w V → V.cell? ⟨B, 0, none⟩ = some (.pointer (some ⟨T, 0, none⟩)) ∧ Calls Tryz.prog 12 #[.pointer (some ⟨T, 0, none⟩)] V (OwnPost V.heap.size V X) := by
  obtain ⟨w0, s, h1, h2, rfl, h4⟩ := h
  exact h2.bf.linesW hl
theorem NEz.lines {c : Int} {y : ByteArray} (h : NEz N0 wb w B R mb X c y) (hl : X.length ≤ 1000000000) : ∃ T, ∀ V, Below w.heap.size w V → V.cell? ⟨B, 0, none⟩ = some (.pointer (some ⟨T, 0, none⟩)) ∧ Calls Tryz.prog 12 #[.pointer (some ⟨T, 0, none⟩)] V (OwnPost V.heap.size V X) := by
  obtain ⟨w0, s, m, ρ, v, h1, h2, rfl, h4⟩ := h
  exact h2.bf.linesW hl
theorem NEz.below {c : Int} {y : ByteArray} (h : NEz N0 wb w B R mb X c y) : Below N0 wb w := by
  obtain ⟨w0, s, m, ρ, v, h1, h2, h3⟩ := h
  exact h1 ▸ h2.bf.below
theorem NEz.get {c : Int} {y : ByteArray} (h : NEz N0 wb w B R mb X c y) (c0 : 97 ≤ c) (c1 : c ≤ 122) : Calls Tryz.prog 14 #[.pointer (some ⟨R, 0, none⟩), .int .u8 c] w (GetRPost w false [y]) := by
  obtain ⟨w0, s, m, ρ, v, h1, h2, h3, h4, h5⟩ := h
  exact rget_any h2.rg c0 c1 h4 h5 (by simp) (by simp)

end

section
variable {N0 : Nat} {wb w w' : World} {B R mb q m : Nat} {X : List ByteArray} {ρ : Int → Option Value} {t arg : ByteArray} {c : Nat}
end
end Go.Proofs.YtdhemdeapphfoaaGreatDoor
