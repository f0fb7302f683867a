import Derived.Test.YtoejfgmfdjoonaaGreatDoorEyDx
set_option linter.unusedVariables false
set_option linter.unusedSimpArgs false

/- regs' Yank and Get, walked. -/
set_option linter.unusedVariables false
set_option linter.unusedSimpArgs false
namespace Go.Proofs.YtoejfgmfdjoonaaGreatDoor
open Go.RowKit Go.Shelf Go.Maps Go.Proofs.YtoejfgmfdjoonaaGreatDoorW.PrintWords Go.Proofs.YtoejfgmfdjoonaaGreatDoorW.PrintLast

def YankPost (w : World) (R mb n : Nat) (ρ : Int → Option Value) (c : Int) (b : Bool) (xs : List ByteArray) (e : Ending) (w' : World) : Prop :=
  ∃ v, e = .returned (.int .u16 0) ∧ Ls w' (fun k => w.heap.size ≤ k) v xs ∧ Rg w' R mb (n + 2) (setR (setR ρ c (.agg #[v, .bool b])) 34 (.agg #[v, .bool b])) ∧ w.grownBy w' (some mb)

set_option maxRecDepth 100000 in
set_option maxHeartbeats 1000000 in
theorem yank_any {w : World} {R mb n : Nat} {ρ : Int → Option Value} (h : Rg w R mb n ρ) (hn : n + 1 < maxLen) {c : Int} (c0 : 97 ≤ c) (c1 : c ≤ 122) (hρ : ρ c = none) {G : Nat → Prop} {v : Value} {xs : List ByteArray} (hv : Ls w G v xs) (h0 : 0 < xs.length) (hl : xs.length ≤ 300) (hs : ∀ x ∈ xs, x.size ≤ 1000) (hsum : sumS xs ≤ 20000) (b : Bool) :
    Calls Tryz.prog 84 #[.pointer (some ⟨R, 0, none⟩), .int .u8 c, .agg #[v, .bool b]] w (YankPost w R mb n ρ c b xs) := by
  have HH := Lib.hid h
  have hRl := h.ltR
  have hMl := h.ltM
  have HCL := Lib.hid (fun W (hb : Below w.heap.size w W) => rclone_any (hv.step hb.size fun b hlt _ => hb.block b hlt) h0 (by omega) b)
  have HXS := Lib.hid (And.intro hs hsum)
  have b1 : (c == 34) = false := by rw [beq_eq_false_iff_ne]; omega
  obtain ⟨Av, cv, hvs, _⟩ := id hv
  subst hvs
  clear h hv hs hsum
  go_enter Tryz.func84, Tryz.ntmps84
  go_wp2_with fail
  have hal : Below w.heap.size w (w.alloc (.cells #[.slice Av xs.length cv, .bool b] 56)) := below_alloc (Below.refl _ w) _
  refine (HCL.out _ hal).mono ?_
  rintro e w2 ⟨v2, rfl, h21, h22, h23⟩
  obtain ⟨A2, c2, hv2', _⟩ := h21.slice
  rw [cS_len] at hv2'
  subst hv2'
  have hC2 : w2.heap[w.heap.size]? = some (.cells #[.slice Av xs.length cv, .bool b] 56 (0, 0)) := (h23.block _ (by simp only [World.size_alloc]; omega)).trans (World.alloc_heap_new w _)
  have d0 : w2.cell? ⟨w.heap.size, 0, none⟩ = some (.slice Av xs.length cv) := by rw [blk_cell hC2]; rfl
  have d1 : w2.cell? ⟨w.heap.size, 1, none⟩ = some (.bool b) := by rw [blk_cell hC2]; rfl
  have g0 : w2.frozen? ⟨w.heap.size, 0, none⟩ = false := blk_frozen hC2 0
  have g1 : w2.frozen? ⟨w.heap.size, 1, none⟩ = false := blk_frozen hC2 1
  have hne : ∀ m, m ≤ w.heap.size → (Value.slice A2 xs.length c2).ownBlock ≠ some m := fun m hm e => by
    have := h22 m e
    simp only [World.size_alloc] at this
    omega
  have hrw := (h21.setCell (p := ⟨w.heap.size, 0, none⟩) (hne _ (by dsimp only; omega)) (.slice A2 xs.length c2)).setCell (p := ⟨w.heap.size, 1, none⟩) (hne _ (by dsimp only; omega)) (.bool b)
  have hbl := ((below_then hal hal.size h23).setCell (p := ⟨w.heap.size, 0, none⟩) (Nat.le_refl _) (.slice A2 xs.length c2)).setCell (p := ⟨w.heap.size, 1, none⟩) (Nat.le_refl _) (.bool b)
  have HRW := Lib.hid (And.intro hrw (And.intro hbl h22))
  clear h21 h22 h23 hC2 hrw hbl hal
  go_wp2_with fail
  obtain ⟨W4, hW4⟩ : ∃ W4, (w2.setCell ⟨w.heap.size, 0, none⟩ (.slice A2 xs.length c2)).setCell ⟨w.heap.size, 1, none⟩ (.bool b) = W4 := ⟨_, rfl⟩
  rw [hW4] at HRW ⊢
  clear hW4 d0 d1 g0 g1
  have hlay := lay_any (HH.out.step HRW.out.2.1) hn c0 c1 hρ (Ls.of_rw HRW.out.1) hl HXS.out.1 HXS.out.2 b
  refine hlay.mono ?_
  rintro e w5 ⟨rfl, hrg, hgr⟩
  have hge : ∀ k, (Value.slice A2 xs.length c2).ownBlock = some k → w.heap.size ≤ k ∧ k ≠ mb := fun k hk => by
    have := HRW.out.2.2 k hk
    simp only [World.size_alloc] at this
    omega
  have HF := Lib.hid (And.intro (show Ls w5 (fun k => w.heap.size ≤ k) (.slice A2 xs.length c2) xs from ((Ls.of_rw HRW.out.1).step hgr.size fun k hlt hk => hgr.block k hlt (fun e => (hge k hk).2 (Option.some.inj e))).wide fun k _ hk => (hge k hk).1) (And.intro hrg (show w.grownBy w5 (some mb) from ⟨hgr.os.trans HRW.out.2.1.os, hgr.tape.trans HRW.out.2.1.tape, hgr.output.trans HRW.out.2.1.output, Nat.le_trans HRW.out.2.1.size hgr.size, fun k hk hne => (hgr.block k (Nat.lt_of_lt_of_le hk HRW.out.2.1.size) hne).trans (HRW.out.2.1.block k hk)⟩)))
  clear hrg hgr hlay hge
  go_wp2
  go_ret
  exact ⟨_, rfl, HF.out.1, HF.out.2.1, HF.out.2.2⟩

/-- Get of a register in which something is -/
def GetRPost (w : World) (b : Bool) (xs : List ByteArray) (e : Ending) (w' : World) : Prop := ∃ v, e = .returned (.tuple #[.agg #[v, .bool b], .int .u16 0]) ∧ Own w.heap.size w w' v xs
set_option maxRecDepth 100000 in
set_option maxHeartbeats 1000000 in
theorem rget_any {w : World} {R mb n : Nat} {ρ : Int → Option Value} (h : Rg w R mb n ρ) {c : Int} (c0 : 97 ≤ c) (c1 : c ≤ 122) {v : Value} {b : Bool} (hρ : ρ c = some (.agg #[v, .bool b])) {G : Nat → Prop} {xs : List ByteArray} (hv : Ls w G v xs) (h0 : 0 < xs.length) (hl : xs.length ≤ 300) :
    Calls Tryz.prog 18 #[.pointer (some ⟨R, 0, none⟩), .int .u8 c] w (GetRPost w b xs) := by
  have hRl := h.ltR
  have hMl := h.ltM
  have k0 : w.cell? ⟨R, 0, none⟩ = some (.map (some mb)) := by rw [blk_cell h.1]; rfl
  have HCL := Lib.hid (fun W (hb : Below w.heap.size w W) => rclone_any (hv.step hb.size fun b hlt _ => hb.block b hlt) h0 (by omega) b)
  have HSL := Lib.hid (Small_small c c0 c1)
  have HKN := Lib.hid (Known_small c c0 c1)
  have hlk0 : ∀ W : World, W.heap[mb]? = w.heap[mb]? → (Instr.lookup 65 (.map (some mb)) (.int .u8 c) true).run Tryz.prog W = .ok (.tuple #[.agg #[v, .bool b], .bool true]) W := fun W hW => by
    have h9 := (h.2.1.step (w' := W) hW).look (x := c) (by omega) (by omega)
    rw [hρ] at h9
    exact h9
  have hlk1 : ∀ o, (Instr.lookup 65 (.map (some mb)) (.int .u8 c) true).run Tryz.prog (w.alloc o).drew = .ok (.tuple #[.agg #[v, .bool b], .bool true]) (w.alloc o).drew := fun o => hlk0 _ (Below.heap_alloc w o mb hMl)
  have hlk2 : ∀ o o', (Instr.lookup 65 (.map (some mb)) (.int .u8 c) true).run Tryz.prog ((w.alloc o).alloc o').drew = .ok (.tuple #[.agg #[v, .bool b], .bool true]) ((w.alloc o).alloc o').drew := fun o o' => hlk0 _ ((Below.heap_alloc (w.alloc o) o' mb (by simp only [World.size_alloc]; omega)).trans (Below.heap_alloc w o mb hMl))
  clear hlk0
  obtain ⟨Av, cv, hvs, _⟩ := id hv
  subst hvs
  clear h hv
  go_enter Tryz.func18, Tryz.ntmps18
  go_wp2
  go_region_held3 (fun W => W.cell? ⟨R, 0, none⟩ = some (.map (some mb))) (first | exact k0 | go_keep) (first | (go_at_call 34; refine (HSL.out _).mono ?_; rintro e w1 ⟨rfl, rfl⟩))
  all_goals
    have hB : Below w.heap.size w ((w.alloc (.cells #[.slice none 0 0, .bool false] 56)).alloc (.cells #[.slice Av xs.length cv, .bool b] 56)).drew := (below_alloc (below_alloc (Below.refl _ w) _) _).drew
    have e0 : ((w.alloc (.cells #[.slice none 0 0, .bool false] 56)).alloc (.cells #[.slice Av xs.length cv, .bool b] 56)).drew.heap[w.heap.size]? = some (.cells #[.slice none 0 0, .bool false] 56 (0, 0)) := (Below.heap_alloc (w.alloc _) _ _ (by simp only [World.size_alloc]; omega)).trans (World.alloc_heap_new w _)
    have e1 : ((w.alloc (.cells #[.slice none 0 0, .bool false] 56)).alloc (.cells #[.slice Av xs.length cv, .bool b] 56)).drew.heap[w.heap.size + 1]? = some (.cells #[.slice Av xs.length cv, .bool b] 56 (0, 0)) := by
      have := World.alloc_heap_new (w.alloc (.cells #[.slice none 0 0, .bool false] 56)) (.cells #[.slice Av xs.length cv, .bool b] 56)
      rwa [show (w.alloc (.cells #[.slice none 0 0, .bool false] 56)).heap.size = w.heap.size + 1 by simp] at this
    have hsz : ((w.alloc (.cells #[.slice none 0 0, .bool false] 56)).alloc (.cells #[.slice Av xs.length cv, .bool b] 56)).drew.heap.size = w.heap.size + 2 := by simp
    obtain ⟨W, hW⟩ : ∃ W, ((w.alloc (.cells #[.slice none 0 0, .bool false] 56)).alloc (.cells #[.slice Av xs.length cv, .bool b] 56)).drew = W := ⟨_, rfl⟩
    rw [hW] at hB e0 e1 hsz ⊢
    clear hW hlk1 hlk2 k0
    have x0 : W.cell? ⟨w.heap.size + 1, 0, none⟩ = some (.slice Av xs.length cv) := by rw [blk_cell e1]; rfl
    have x1 : W.cell? ⟨w.heap.size + 1, 1, none⟩ = some (.bool b) := by rw [blk_cell e1]; rfl
    go_wp2_with (first | (go_at_call 35; refine (HKN.out _).mono ?_; rintro e w1 ⟨rfl, rfl⟩))
    refine (HCL.out _ hB).mono ?_
    rintro e w2 ⟨v2, rfl, h21, h22, h23⟩
    obtain ⟨A2, c2, hv2, _⟩ := h21.slice
    rw [cS_len] at hv2
    subst hv2
    have f0 : w2.heap[w.heap.size]? = some (.cells #[.slice none 0 0, .bool false] 56 (0, 0)) := (h23.block _ (by omega)).trans e0
    have g0 : w2.frozen? ⟨w.heap.size, 0, none⟩ = false := blk_frozen f0 0
    have g1 : w2.frozen? ⟨w.heap.size, 1, none⟩ = false := blk_frozen f0 1
    have d0 : w2.cell? ⟨w.heap.size, 0, none⟩ = some (.slice none 0 0) := by rw [blk_cell f0]; rfl
    have d1 : w2.cell? ⟨w.heap.size, 1, none⟩ = some (.bool false) := by rw [blk_cell f0]; rfl
    have hne : (Value.slice A2 xs.length c2).ownBlock ≠ some w.heap.size := fun e => by
      have := h22 _ e
      omega
    have hge : ∀ k, (Value.slice A2 xs.length c2).ownBlock = some k → w.heap.size ≤ k := fun k hk => by
      have := h22 k hk
      omega
    have hrw := (h21.setCell (p := ⟨w.heap.size, 0, none⟩) hne (.slice A2 xs.length c2)).setCell (p := ⟨w.heap.size, 1, none⟩) hne (.bool b)
    have hbl := ((below_then hB (by omega) h23).setCell (p := ⟨w.heap.size, 0, none⟩) (Nat.le_refl _) (.slice A2 xs.length c2)).setCell (p := ⟨w.heap.size, 1, none⟩) (Nat.le_refl _) (.bool b)
    have hbk := blk_set (blk_set f0 0 (.slice A2 xs.length c2)) 1 (.bool b)
    have HF := Lib.hid (And.intro hrw (And.intro hbl hge))
    clear h21 h22 h23 e0 e1 x0 x1 hB f0
    go_wp2_with fail
    obtain ⟨W4, hW4⟩ : ∃ W4, (w2.setCell ⟨w.heap.size, 0, none⟩ (.slice A2 xs.length c2)).setCell ⟨w.heap.size, 1, none⟩ (.bool b) = W4 := ⟨_, rfl⟩
    rw [hW4] at HF hbk ⊢
    have r0 : W4.cell? ⟨w.heap.size, 0, none⟩ = some (.slice A2 xs.length c2) := by rw [blk_cell hbk]; rfl
    have r1 : W4.cell? ⟨w.heap.size, 1, none⟩ = some (.bool b) := by rw [blk_cell hbk]; rfl
    clear hW4 hbk hrw hbl d0 d1 g0 g1
    refine bodyPost_ret (by simp [results, Tryz.results18, r0, r1, go_sem]; try rfl) rfl ?_
    exact ⟨_, rfl, HF.out.1, HF.out.2.2, HF.out.2.1⟩
end Go.Proofs.YtoejfgmfdjoonaaGreatDoor

/- edit.Do of the command y, walked. -/
set_option linter.unusedVariables false
set_option linter.unusedSimpArgs false
namespace Go.Proofs.YtoejfgmfdjoonaaGreatDoor
open Go.RowKit Go.Shelf Go.Maps Go.Proofs.YtoejfgmfdjoonaaGreatDoorW.PrintWords Go.Proofs.YtoejfgmfdjoonaaGreatDoorW.PrintLast

section
variable {N0 : Nat} {w0 : Base} {w w' : World} {B : Nat} {s : Bs}
theorem sumS_app (a b : List ByteArray) : sumS (a ++ b) = sumS a + sumS b := by simp [sumS]
theorem sumS_sub (l : List ByteArray) (i n : Nat) : sumS ((l.drop i).take n) ≤ sumS l := by
  have h1 : sumS (l.take i) + sumS (l.drop i) = sumS l := by rw [← sumS_app, List.take_append_drop]
  have h2 : sumS ((l.drop i).take n) + sumS ((l.drop i).drop n) = sumS (l.drop i) := by rw [← sumS_app, List.take_append_drop]
  omega
/-- a kept block turns -/
theorem Bf.turn (h : Bf N0 w0 w B s) {mb : Nat} (hm : w0.P mb) (hN : N0 ≤ mb) (hg : w.grownBy w' (some mb)) : Bf N0 ⟨w0.w, fun b => w0.P b ∨ (w.heap.size ≤ b ∧ b < w'.heap.size), w'⟩ w' B s := by
  obtain ⟨col, T, p1, U, vl, vm, vo, L, h⟩ := h
  have hcm := (h.prot mb hm).2.1
  have hblk : ∀ b, b < w.heap.size → b ≠ mb → w'.heap[b]? = w.heap[b]? := fun b hb hne => hg.block b hb fun e => hne (Option.some.inj e)
  have keep : ∀ {X : World → (Nat → Prop) → Prop}, Loc X → ∀ {j : Nat}, j ≠ 7 → X w (fun b => col b = j) → X w' (fun b => recol col w.heap.size 7 b = j) := fun hX _ hj hx =>
    hX.step (hX.wide hx fun b hb he => (recol_old hb).trans he) hg.size fun b hlt he => hblk b hlt fun e => by
      rw [recol_old hlt, e, hcm] at he
      exact hj he.symm
  refine ⟨recol col w.heap.size 7, T, p1, U, vl, vm, vo, L, ?_⟩
  exact {
    box := (hblk B (blk_lt h.box) fun e => by
      have := h.cB
      rw [e, hcm] at this
      cases this).trans h.box
    cB := h.cB' 7
    tree := keep (loc_tree _ _) (by decide) h.tree
    mar := keep (loc_mk _ _ _) (by decide) h.mar
    smk := keep (loc_sm _ _ _ _) (by decide) h.smk
    undo := keep (loc_ut _ _ _) (by decide) h.undo
    opr := keep (loc_or _ _) (by decide) h.opr
    ope := keep (loc_oe _ _) (by decide) h.ope
    sls := keep (loc_ls _ _) (by decide) h.sls
    new := h.new' 7
    prot := fun b hp => by
      rcases hp with hp | ⟨h1, h2⟩
      · obtain ⟨a1, a2, _⟩ := h.prot b hp
        exact ⟨Nat.lt_of_lt_of_le a1 hg.size, (recol_old a1).trans a2, rfl⟩
      · exact ⟨h2, recol_new h1, rfl⟩
    below := h.below.trans ⟨hg.os, hg.tape, hg.output, hg.size, fun b hb => hblk b (Nat.lt_of_lt_of_le hb h.le) (by omega)⟩
    le := Nat.le_trans h.le hg.size }

theorem reg_any {W R : Nat} {vr vd : Value} {nm p1 p2 p3 p4 : ByteArray} {bang : Bool} {reg cnt f t d : Int} (hw : Wk w W B R vr vd nm p1 p2 p3 p4 bang reg cnt f t d) (hr : reg ≠ 0) :
    Calls Tryz.prog 82 #[.pointer (some ⟨W, 0, none⟩)] w fun e w' => e = .returned (.int .u8 reg) ∧ w' = w := by
  have g3 : w.cell? ⟨W, 3, none⟩ = some (.int .u8 reg) := by rw [blk_cell hw]; rfl
  have b1 : (reg == 0) = false := by rw [beq_eq_false_iff_ne]; exact hr
  clear hw
  go_enter Tryz.func82, Tryz.ntmps82
  go_wp2
  go_ret
  exact ⟨rfl, rfl⟩

set_option maxRecDepth 100000 in
set_option maxHeartbeats 1000000 in
theorem yank_cmd (h : Bf N0 w0 w B s) {W R mb m : Nat} {ρ : Int → Option Value} (hrg : Rg w R mb m ρ) (hm : m + 1 < maxLen) (hWm : W ≠ mb) {vr vd : Value} {nm p1 p2 p3 p4 : ByteArray} {bang : Bool} {c cnt d : Int} {i n : Nat} {f t : Int} (hw : Wk w W B R vr vd nm p1 p2 p3 p4 bang c cnt f t d) (hf : f = (i : Int) + 1) (ht : t = (i : Int) + n) (hn : 0 < n) (hi : i + n ≤ s.ls.length) (hl : s.ls.length ≤ 300) (hsz : ∀ x ∈ s.ls, x.size ≤ 1000) (hsum : sumS s.ls ≤ 20000)
    (c0 : 97 ≤ c) (c1 : c ≤ 122) (hρ : ρ c = none) :
    Calls Tryz.prog 48 #[.pointer (some ⟨W, 0, none⟩)] w (YankPost w R mb m ρ c true ((s.ls.drop i).take n)) := by
  have hln : ((s.ls.drop i).take n).length = n := by rw [List.length_take, List.length_drop]; omega
  have hsm : sumS ((s.ls.drop i).take n) ≤ 20000 := Nat.le_trans (sumS_sub s.ls i n) hsum
  have hmem : ∀ x ∈ (s.ls.drop i).take n, x.size ≤ 1000 := fun x hx => hsz x (List.mem_of_mem_drop (List.mem_of_mem_take hx))
  have HPL := Lib.hid (And.intro hln (And.intro hsm hmem))
  have HLI := Lib.hid (lines_any (h.new ((Below.refl w.heap.size w).drew)) (show Wk w.drew W B R vr vd nm p1 p2 p3 p4 bang c cnt f t d from hw) hf ht hi (by omega))
  have HRG := Lib.hid (fun V (hb : Below w.heap.size w V) => reg_any (w := V) (show Wk V W B R vr vd nm p1 p2 p3 p4 bang c cnt f t d from (hb.block W (blk_lt hw)).trans hw) (by omega))
  have c11 : w.cell? ⟨W, 11, none⟩ = some (.pointer (some ⟨R, 0, none⟩)) := by rw [blk_cell hw]; rfl
  have HW := Lib.hid hw
  have hWl := blk_lt hw
  have HR := Lib.hid hrg
  have HBC := Lib.hid ((Below.refl w.heap.size w).drew)
  have HS := Lib.hid (show ∀ V, Below w.heap.size w V → V.cell? ⟨W, 11, none⟩ = some (.pointer (some ⟨R, 0, none⟩)) from fun V hb => (World.cell?_of_block (a := ⟨W, 11, none⟩) (hb.block W (blk_lt hw))).trans c11)
  clear h hw hrg hsm hmem hsz hsum
  go_enter Tryz.func48, Tryz.ntmps48
  go_wp2
  go_region_held3 (fun V => V.cell? ⟨W, 11, none⟩ = some (.pointer (some ⟨R, 0, none⟩))) (first | exact y11 | exact c11 | exact HS.out _ HBC.out | go_keep) (first
    | (go_at_call 82; refine (HRG.out _ HBC.out).mono ?_; rintro e w1 ⟨rfl, rfl⟩)
    | (go_at_call 30; refine HLI.out.mono ?_; rintro e w2 ⟨v2, rfl, h21, h22, h23⟩; obtain ⟨A2, c2, hv2, _⟩ := h21.slice; rw [cS_len, HPL.out.1] at hv2; subst hv2; have HO := Lib.hid (And.intro h21 (And.intro h22 h23)); have HBC := Lib.hid (below_then HBC.out HBC.out.size h23); clear h21 h22 h23)
    | (go_at_call 84; refine (yank_any (HR.out.step HBC.out) hm c0 c1 hρ (Ls.of_rw HO.out.1) (by rw [HPL.out.1]; exact hn) (by rw [HPL.out.1]; omega) HPL.out.2.2 HPL.out.2.1 true).mono ?_; rintro e w3 ⟨v3, rfl, h31, h32, h33⟩; have y11 := (World.cell?_of_block (a := ⟨W, 11, none⟩) (h33.block W (Nat.lt_of_lt_of_le hWl HBC.out.size) (fun e => hWm (Option.some.inj e)))).trans (HS.out _ HBC.out); have H3 := Lib.hid (And.intro h31 (And.intro h32 h33)); clear h31 h32 h33))
  all_goals
    go_wp2
    go_ret
    have hsz9 := HBC.out.size
    exact ⟨v3, rfl, H3.out.1.wide fun k _ hk => Nat.le_trans hsz9 hk, H3.out.2.1, ⟨H3.out.2.2.os.trans HBC.out.os, H3.out.2.2.tape.trans HBC.out.tape, H3.out.2.2.output.trans HBC.out.output, Nat.le_trans hsz9 H3.out.2.2.size, fun k hk hne => (H3.out.2.2.block k (Nat.lt_of_lt_of_le hk hsz9) hne).trans (HBC.out.block k hk)⟩⟩
end
end Go.Proofs.YtoejfgmfdjoonaaGreatDoor

/- edit.Do of the command y, walked. -/
set_option linter.unusedVariables false
set_option linter.unusedSimpArgs false
namespace Go.Proofs.YtoejfgmfdjoonaaGreatDoor
open Go.RowKit Go.Shelf Go.Maps Go.Proofs.YtoejfgmfdjoonaaGreatDoorW.PrintWords Go.Proofs.YtoejfgmfdjoonaaGreatDoorW.PrintLast

set_option maxRecDepth 100000 in
theorem way_y {w : World} {W B R : Nat} {vr vd : Value} {p1 p2 p3 p4 : ByteArray} {bang : Bool} {reg cnt f t d : Int} (hw : Wk w W B R vr vd ⟨#[121]⟩ p1 p2 p3 p4 bang reg cnt f t d) :
    Calls Tryz.prog 31 #[.pointer (some ⟨W, 0, none⟩)] w fun e w' => e = .returned (.func (.func 48) #[.pointer (some ⟨W, 0, none⟩)] #[]) ∧ w' = w := by
  have g1 : w.cell? ⟨W, 1, none⟩ = some (.string ⟨#[121]⟩) := by rw [blk_cell hw]; rfl
  clear hw
  go_enter Tryz.func31, Tryz.ntmps31
  go_wp2
  go_ret
  exact ⟨rfl, rfl⟩

/-- what Do of y answers -/
def DoYPost (w : World) (R mb m : Nat) (ρ : Int → Option Value) (c : Int) (xs : List ByteArray) (e : Ending) (w' : World) : Prop :=
  ∃ v, e = .returned (.tuple #[.slice none 0 0, .int .u16 0]) ∧ Ls w' (fun k => w.heap.size ≤ k) v xs ∧ Rg w' R mb (m + 2) (setR (setR ρ c (.agg #[v, .bool true])) 34 (.agg #[v, .bool true])) ∧ w.grownBy w' (some mb)
section
variable {N0 : Nat} {w0 : Base} {w w' : World} {B : Nat} {s : Bs}
set_option maxRecDepth 100000 in
set_option maxHeartbeats 1000000 in
theorem do_y (h : Bf N0 w0 w B s) {R mb m : Nat} {ρ : Int → Option Value} (hrg : Rg w R mb m ρ) (hm : m + 1 < maxLen) {i n : Nat} {f t d c : Int} (hf : f = (i : Int) + 1) (ht : t = (i : Int) + n) (hn : 0 < n) (hi : i + n ≤ s.ls.length) (hl : s.ls.length ≤ 300) (hsz : ∀ x ∈ s.ls, x.size ≤ 1000) (hsum : sumS s.ls ≤ 20000) (c0 : 97 ≤ c) (c1 : c ≤ 122) (hρ : ρ c = none) :
    Calls Tryz.prog 10 #[.pointer (some ⟨B, 0, none⟩), .pointer (some ⟨R, 0, none⟩), .agg #[.slice none 0 0, .string ⟨#[121]⟩, .bool false, .int .u8 c, .int .i64 (-1), .slice none 0 0, .string ⟨#[]⟩, .string ⟨#[]⟩, .string ⟨#[]⟩, .string ⟨#[]⟩], .int .i64 f, .int .i64 t, .int .i64 d] w (DoYPost w R mb m ρ c ((s.ls.drop i).take n)) := by
  obtain ⟨T, hlen⟩ := h.lenW
  have HL := Lib.hid hlen
  have HH := Lib.hid h
  obtain ⟨k0, _⟩ := hlen w (Below.refl _ _)
  have hBl := cell_lt k0
  dsimp only at hBl
  subst hf ht
  have b1 : decide ((i : Int) + 1 < 0) = false := by simp; omega
  have b2 : decide ((i : Int) + n < i + 1) = false := by simp; omega
  have b2' : decide ((n : Int) < 1) = false := by simp; omega
  have b3 : decide ((s.ls.length : Int) < i + n) = false := by simp; omega
  have b4 : ((i : Int) + 1 == 0) = false := by rw [beq_eq_false_iff_ne]; omega
  have HJC := Lib.hid (And.intro hsz hsum)
  have HR := Lib.hid hrg
  clear h hlen hsz hsum hrg
  go_enter Tryz.func10, Tryz.ntmps10
  go_wp2_with (first
    | (go_at_call 15; refine (HL.out _ (below_alloc (Below.refl _ w) _)).2.mono ?_; rintro e wa ⟨rfl, n1, rfl⟩))
  have hbx := boxed (w := w) (n1 := n1) (.cells #[Value.slice none 0 0, Value.string { data := #[121] }, Value.bool false, Value.int IntKind.u8 c, Value.int IntKind.i64 (-1), Value.slice none 0 0, Value.string { data := #[] }, Value.string { data := #[] }, Value.string { data := #[] }, Value.string { data := #[] }] 36) (.cells #[Value.slice none 0 0, Value.string { data := #[121] }, Value.bool false, Value.int IntKind.u8 c, Value.int IntKind.i64 (-1), Value.slice none 0 0, Value.string { data := #[] }, Value.string { data := #[] }, Value.string { data := #[] }, Value.string { data := #[] }, Value.pointer (some { block := B, off := 0 }), Value.pointer (some { block := R, off := 0 }), Value.int IntKind.i64 ((i : Int) + 1), Value.int IntKind.i64 ((i : Int) + n), Value.int IntKind.i64 d] 73)
  obtain ⟨V, hV⟩ : ∃ V, ((w.alloc (.cells #[Value.slice none 0 0, Value.string { data := #[121] }, Value.bool false, Value.int IntKind.u8 c, Value.int IntKind.i64 (-1), Value.slice none 0 0, Value.string { data := #[] }, Value.string { data := #[] }, Value.string { data := #[] }, Value.string { data := #[] }] 36)).drewN n1).alloc (.cells #[Value.slice none 0 0, Value.string { data := #[121] }, Value.bool false, Value.int IntKind.u8 c, Value.int IntKind.i64 (-1), Value.slice none 0 0, Value.string { data := #[] }, Value.string { data := #[] }, Value.string { data := #[] }, Value.string { data := #[] }, Value.pointer (some { block := B, off := 0 }), Value.pointer (some { block := R, off := 0 }), Value.int IntKind.i64 ((i : Int) + 1), Value.int IntKind.i64 ((i : Int) + n), Value.int IntKind.i64 d] 73) = V := ⟨_, rfl⟩
  rw [hV] at hbx ⊢
  clear hV
  obtain ⟨hb1, hb2⟩ := hbx
  have hwk : Wk V (w.heap.size + 1) B R _ _ _ _ _ _ _ _ _ _ _ _ _ := hb2
  have hyc := yank_cmd (HH.out.new hb1) (HR.out.step hb1) hm (by have := HR.out.ltM; omega) hwk rfl rfl hn hi hl HJC.out.1 HJC.out.2 c0 c1 hρ
  have HJ := Lib.hid hyc
  have HB := Lib.hid hb1
  clear hyc hb1 hb2
  refine (way_y hwk).mono ?_
  rintro e w3 ⟨rfl, rfl⟩
  clear hwk
  go_wp2_with fail
  refine HJ.out.mono ?_
  rintro e w4 ⟨v4, rfl, h41, h42, h43⟩
  have H4 := Lib.hid (And.intro h41 (And.intro h42 h43))
  clear h41 h42 h43
  go_wp2
  go_ret2
  have hsz9 := HB.out.size
  exact ⟨v4, rfl, H4.out.1.wide fun k _ hk => Nat.le_trans hsz9 hk, H4.out.2.1, ⟨H4.out.2.2.os.trans HB.out.os, H4.out.2.2.tape.trans HB.out.tape, H4.out.2.2.output.trans HB.out.output, Nat.le_trans hsz9 H4.out.2.2.size, fun k hk hne => (H4.out.2.2.block k (Nat.lt_of_lt_of_le hk hsz9) hne).trans (HB.out.block k hk)⟩⟩
end

end Go.Proofs.YtoejfgmfdjoonaaGreatDoor

/- The document's Same of registers, walked; a new map of registers. -/
set_option linter.unusedVariables false
set_option linter.unusedSimpArgs false
namespace Go.Proofs.YtoejfgmfdjoonaaGreatDoor
open Go.RowKit Go.Shelf Go.Maps Go.Proofs.YtoejfgmfdjoonaaGreatDoorW.PrintWords Go.Proofs.YtoejfgmfdjoonaaGreatDoorW.PrintLast

set_option maxRecDepth 100000 in
set_option maxHeartbeats 1000000 in
theorem same11 {w : World} {G H : Nat → Prop} {u v : Value} {xs : List ByteArray} (h : Ls w G u xs) (k : Ls w H v xs) (hl : xs.length ≤ 1000000000) (b : Bool) :
    Calls Tryz.prog 19 #[.agg #[u, .bool b], .agg #[v, .bool b]] w fun e w' => e = .returned (.bool true) ∧ Below w.heap.size w w' := by
  obtain ⟨A1, c1, rfl, _, _, h3⟩ := h
  obtain ⟨A2, c2, rfl, _, _, k3⟩ := k
  have H3 := Lib.hid h3
  have K3 := Lib.hid k3
  clear h3 k3
  go_enter Tryz.func19, Tryz.ntmps19
  go_wp2_with fail
  have hal : Below w.heap.size w ((w.alloc (.cells #[.slice A1 xs.length c1, .bool b] 56)).alloc (.cells #[.slice A2 xs.length c2, .bool b] 56)) := below_alloc (below_alloc (Below.refl _ w) _) _
  have e0 : ((w.alloc (.cells #[.slice A1 xs.length c1, .bool b] 56)).alloc (.cells #[.slice A2 xs.length c2, .bool b] 56)).heap[w.heap.size]? = some (.cells #[.slice A1 xs.length c1, .bool b] 56 (0, 0)) := (Below.heap_alloc (w.alloc _) _ _ (by simp only [World.size_alloc]; omega)).trans (World.alloc_heap_new w _)
  have e1 : ((w.alloc (.cells #[.slice A1 xs.length c1, .bool b] 56)).alloc (.cells #[.slice A2 xs.length c2, .bool b] 56)).heap[w.heap.size + 1]? = some (.cells #[.slice A2 xs.length c2, .bool b] 56 (0, 0)) := by
    have := World.alloc_heap_new (w.alloc (.cells #[.slice A1 xs.length c1, .bool b] 56)) (.cells #[.slice A2 xs.length c2, .bool b] 56)
    rwa [show (w.alloc (.cells #[.slice A1 xs.length c1, .bool b] 56)).heap.size = w.heap.size + 1 by simp] at this
  have hsz : ((w.alloc (.cells #[.slice A1 xs.length c1, .bool b] 56)).alloc (.cells #[.slice A2 xs.length c2, .bool b] 56)).heap.size = w.heap.size + 2 := by simp
  obtain ⟨W, hW⟩ : ∃ W, ((w.alloc (.cells #[.slice A1 xs.length c1, .bool b] 56)).alloc (.cells #[.slice A2 xs.length c2, .bool b] 56)) = W := ⟨_, rfl⟩
  rw [hW] at hal e0 e1 hsz ⊢
  clear hW
  have hcell : ∀ V, Below W.heap.size W V → V.cell? ⟨w.heap.size, 0, none⟩ = some (.slice A1 xs.length c1) ∧ V.cell? ⟨w.heap.size, 1, none⟩ = some (.bool b) ∧ V.cell? ⟨w.heap.size + 1, 0, none⟩ = some (.slice A2 xs.length c2) ∧ V.cell? ⟨w.heap.size + 1, 1, none⟩ = some (.bool b) := fun V hb => by
    have a0 := (hb.block _ (by omega)).trans e0
    have a1 := (hb.block _ (by omega)).trans e1
    refine ⟨?_, ?_, ?_, ?_⟩
    · rw [blk_cell a0]; rfl
    · rw [blk_cell a0]; rfl
    · rw [blk_cell a1]; rfl
    · rw [blk_cell a1]; rfl
  have HC := Lib.hid hcell
  obtain ⟨x0, x1, y0, y1⟩ := hcell W (Below.refl _ _)
  have HAL := Lib.hid hal
  clear e0 e1 hcell hal hsz
  have b1 : (b == b) = true := by simp
  go_wp2
  have hnd : (!b == b) = false := by cases b <;> rfl
  try simp only [hnd]
  go_wp2
  clear x0 x1 y0 y1
  go_loopw [5] (fun v5 wr => ∃ j : Nat, v5 = .int .i64 j ∧ j ≤ xs.length ∧ Below W.heap.size W wr) (fun v5 _ => xs.length - (intOf v5).toNat)
  case atStart => exact ⟨0, rfl, by omega, Below.refl _ _⟩
  case round =>
    obtain ⟨j, rfl, hj, hbl⟩ := hrel
    obtain ⟨x0, x1, y0, y1⟩ := HC.out wr hbl
    by_cases hlt : j < xs.length
    · obtain ⟨b1, o1, rfl, _, hb1, hc1⟩ := H3.out (by omega)
      obtain ⟨b2, o2, rfl, _, hb2, hc2⟩ := K3.out (by omega)
      obtain ⟨x, hx⟩ : ∃ x, xs[j]? = some x := ⟨_, List.getElem?_eq_getElem hlt⟩
      have hbl2 := below_then HAL.out HAL.out.size hbl
      have d1 := (World.cell?_of_block (w := w) (w' := wr) (a := ⟨b1, o1 + j, none⟩) (hbl2.block b1 hb1)).trans (hc1 j x hx)
      have d2 := (World.cell?_of_block (w := w) (w' := wr) (a := ⟨b2, o2 + j, none⟩) (hbl2.block b2 hb2)).trans (hc2 j x hx)
      have HBL := Lib.hid hbl
      have hlt' : (j : Int) < xs.length := by omega
      clear hc1 hc2 hx hbl hbl2
      go_wp2
      go_region
      all_goals
        go_wp2
        go_roundw
        case rel => exact ⟨j + 1, by go_num, by omega, below_drew HBL.out⟩
        case measure => simp [intOf]; omega
    · obtain rfl : j = xs.length := by omega
      go_wp2
      go_ret
      exact ⟨rfl, below_then HAL.out HAL.out.size hbl⟩

/-- new registers -/
theorem regsNew_rg (w : World) : Calls Tryz.prog 8 #[] w fun e w' => (∃ R mb, e = .returned (.pointer (some ⟨R, 0, none⟩)) ∧ Rg w' R mb 0 (fun _ => none) ∧ w.heap.size ≤ R ∧ w.heap.size ≤ mb) ∧ Below w.heap.size w w' := by
  have hmm := @run_makeMap Tryz.prog
  go_enter Tryz.func8, Tryz.ntmps8
  go_wp2
  go_ret
  refine ⟨⟨w.heap.size + 1, w.heap.size, rfl, ⟨?_, ?_, by omega⟩, by omega, Nat.le_refl _⟩, below_alloc (below_alloc (Below.refl _ _) _) _⟩
  · have e2 := World.alloc_heap_new (w.alloc (.map #[] 0)) (.cells #[.map (some w.heap.size)] 67)
    rw [World.size_alloc] at e2
    exact e2
  · exact ⟨.map [], Go.ownsMap_at rfl _, fun x _ _ => ⟨rfl, rfl⟩⟩
end Go.Proofs.YtoejfgmfdjoonaaGreatDoor
