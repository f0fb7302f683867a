
import Derived.Test.YtdhemdeapphfoaaGreatDoorEeX
import Derived.Test.YtdhemdeapphfoaaGreatDoorEyX
import Derived.Maps.OwnSet
set_option linter.unusedVariables false
set_option linter.unusedSimpArgs false

/- the law's bare; buf's Splice where a line is too long; edit's put: walked. -/
set_option linter.unusedVariables false
set_option linter.unusedSimpArgs false
namespace Go.Proofs.YtdhemdeapphfoaaGreatDoor
open Go.RowKit Go.Shelf Go.Maps Go.Proofs.YtdhemdeapphfoaaGreatDoorW.PrintWords Go.Proofs.YtdhemdeapphfoaaGreatDoorW.PrintLast

section
variable {N0 : Nat} {w0 : Base} {w w' : World} {B : Nat} {s : Bs}
end
end Go.Proofs.YtdhemdeapphfoaaGreatDoor

/- edit's put, walked. -/
set_option linter.unusedVariables false
set_option linter.unusedSimpArgs false
namespace Go.Proofs.YtdhemdeapphfoaaGreatDoor
open Go.RowKit Go.Shelf Go.Maps Go.Proofs.YtdhemdeapphfoaaGreatDoorW.PrintWords Go.Proofs.YtdhemdeapphfoaaGreatDoorW.PrintLast

/-- a command's block is kept -/
theorem Bf.wk {N0 : Nat} {w0 : Base} {w : World} {B : Nat} {s : Bs} (h : Bf N0 w0 w B s) {W R : Nat} {vr vd : Value} {nm p1 p2 p3 p4 : ByteArray} {bang : Bool} {reg cnt f t d : Int} (hP : w0.P W) (hw : Wk w0.z W B R vr vd nm p1 p2 p3 p4 bang reg cnt f t d) : Wk w W B R vr vd nm p1 p2 p3 p4 bang reg cnt f t d := (h.prot W hP).2.trans hw

section
variable {N0 : Nat} {w0 : Base} {w w' : World} {B : Nat} {s : Bs}
set_option maxRecDepth 100000 in
set_option maxHeartbeats 1000000 in
theorem put_ok (h : Bf N0 w0 w B s) {W R : Nat} {vr vd : Value} {nm p1 p2 p3 p4 : ByteArray} {bang : Bool} {reg cnt f t d : Int} (hP : w0.P W) (hw : Wk w0.z W B R vr vd nm p1 p2 p3 p4 bang reg cnt f t d) {G : Nat → Prop} {v : Value} {xs : List ByteArray} (hv : Ls w G v xs) {i k : Nat} {a c : Int} (ha : a = i + 1) (hi : i + k ≤ s.ls.length) (hl : s.ls.length + xs.length ≤ k + 2000) (hsl : s.ls.length ≤ 1000000) (hpos : 0 < s.ls.length) (hlg : isLong xs = false) (hne : ¬ (k < 1 ∧ xs.length < 1)) (hx : ∀ x ∈ xs, x.size ≤ 1000000000) (ho : s.opn.length ≤ 1000000) (hnm : s.nm < maxLen) :
    Calls Tryz.prog 143 #[.pointer (some ⟨W, 0, none⟩), .int .i64 a, .int .i64 k, v, .int .i64 c] w (BfPost N0 w0 B (putS (spliceS s i k (sputs s.ls.length k xs)) c) (.int .u16 0)) := by
  have HS := Lib.hid (bsplice_any h hv ha hi hl hsl hpos hlg hne hx ho hnm)
  have g10 : w.cell? ⟨W, 10, none⟩ = some (.pointer (some ⟨B, 0, none⟩)) := by rw [blk_cell (h.wk hP hw)]; rfl
  have HW := Lib.hid hw
  obtain ⟨Av, cv, hvs, _⟩ := id hv
  subst hvs
  clear h hv hw ha hne hx
  go_enter Tryz.func143, Tryz.ntmps143
  go_wp2_with (first
    | (go_at_call 62; refine HS.out.mono ?_; rintro e w2 ⟨rfl, b2⟩; have g2 : w2.cell? ⟨W, 10, none⟩ = some (.pointer (some ⟨B, 0, none⟩)) := (by rw [blk_cell (b2.wk hP HW.out)]; rfl); have HPU := Lib.hid (bput_any b2 c); clear b2)
    | (go_at_call 9; refine HPU.out.mono ?_; rintro e w3 ⟨rfl, b3, _, _⟩; have H3 := Lib.hid b3; clear b3))
  go_ret
  exact ⟨rfl, H3.out⟩
end
end Go.Proofs.YtdhemdeapphfoaaGreatDoor

/- regs' lay and Get at the register without a name, walked. -/
set_option linter.unusedVariables false
set_option linter.unusedSimpArgs false
namespace Go.Proofs.YtdhemdeapphfoaaGreatDoor
open Go.RowKit Go.Shelf Go.Maps Go.Proofs.YtdhemdeapphfoaaGreatDoorW.PrintWords Go.Proofs.YtdhemdeapphfoaaGreatDoorW.PrintLast

theorem great_34 (w : World) : Calls Tryz.prog 44 #[.int .u8 34] w fun e w' => e = .returned (.bool false) ∧ w' = w := by
  have HB := Lib.hid (fun w => between_any 34 65 90 w)
  go_enter Tryz.func44, Tryz.ntmps44
  go_wp2_with (go_at_call 64; refine (HB.out _).mono ?_; rintro e w1 ⟨rfl, rfl⟩)
  go_ret
  exact ⟨rfl, rfl⟩
theorem Small_34 (w : World) : Calls Tryz.prog 26 #[.int .u8 34] w fun e w' => e = .returned (.int .u8 34) ∧ w' = w := by
  have HB := Lib.hid great_34
  go_enter Tryz.func26, Tryz.ntmps26
  go_wp2_with (go_at_call 44; refine (HB.out _).mono ?_; rintro e w1 ⟨rfl, rfl⟩)
  go_ret
  exact ⟨rfl, rfl⟩
theorem Known_34 (w : World) : Calls Tryz.prog 27 #[.int .u8 34] w fun e w' => e = .returned (.bool true) ∧ w' = w := by
  go_enter Tryz.func27, Tryz.ntmps27
  go_wp2
  go_ret
  exact ⟨rfl, rfl⟩
set_option maxRecDepth 100000 in
set_option maxHeartbeats 1000000 in
theorem lay_gen {w : World} {R mb n : Nat} {ρ : Int → Option Value} (h : Rg w R mb n ρ) (hn : n + 1 < maxLen) {c : Int} (c0 : 0 ≤ c) (c1 : c ≤ 255) (c95 : c ≠ 95) (hsm : ∀ W, Calls Tryz.prog 26 #[.int .u8 c] W fun e w' => e = .returned (.int .u8 c) ∧ w' = W) (hkn : ∀ W, Calls Tryz.prog 27 #[.int .u8 c] W fun e w' => e = .returned (.bool true) ∧ w' = W) {Ao : Option Addr} {lo co : Nat} {bo : Bool} (hρ : (ρ c).getD zeroReg = .agg #[.slice Ao lo co, .bool bo]) {G : Nat → Prop} {v : Value} {xs : List ByteArray} (hv : Ls w G v xs) (hl : xs.length ≤ 300) (hs : ∀ x ∈ xs, x.size ≤ 1000) (hsum : sumS xs ≤ 20000) (b : Bool) :
    Calls Tryz.prog 80 #[.pointer (some ⟨R, 0, none⟩), .int .u8 c, .agg #[v, .bool b]] w (LayPost w R mb (n + 2) (setR (setR ρ c (.agg #[v, .bool b])) 34 (.agg #[v, .bool b]))) := by
  have k0 : w.cell? ⟨R, 0, none⟩ = some (.map (some mb)) := by rw [blk_cell h.1]; rfl
  have hRl := h.ltR
  have hMl := h.ltM
  have HH := Lib.hid h
  have HSM := Lib.hid (fun W (hb : Below w.heap.size w W) => rsize_any (hv.step hb.size fun b hlt _ => hb.block b hlt) hl hs b)
  have HSL := Lib.hid hsm
  have HKN := Lib.hid hkn
  obtain ⟨bis, hbis⟩ : ∃ bis, (ρ c).isSome = bis := ⟨_, rfl⟩
  have hlk : ∀ o, (Instr.lookup 58 (.map (some mb)) (.int .u8 c) true).run Tryz.prog (w.alloc o) = .ok (.tuple #[.agg #[.slice Ao lo co, .bool bo], .bool bis]) (w.alloc o) := fun o => by
    have h9 := (h.2.1.step (w' := w.alloc o) (Below.heap_alloc w o mb hMl)).look (x := c) (by omega) (by omega)
    rw [hρ, hbis] at h9
    exact h9
  have b1 : (c == 95) = false := by rw [beq_eq_false_iff_ne]; exact c95
  have b2 : decide (20000 < ((sumS xs : Nat) : Int)) = false := by simp; omega
  obtain ⟨Av, cv, hvs, _⟩ := id hv
  subst hvs
  clear h hv hs
  go_enter Tryz.func80, Tryz.ntmps80
  go_wp2_with (first
    | (go_at_call 26; refine (HSL.out _).mono ?_; rintro e w1 ⟨rfl, rfl⟩)
    | (go_at_call 27; refine (HKN.out _).mono ?_; rintro e w1 ⟨rfl, rfl⟩))
  have hal : Below w.heap.size w ((w.alloc (.cells #[.slice Av xs.length cv, .bool b] 48)).alloc (.cells #[.slice Ao lo co, .bool bo] 48)) := below_alloc (below_alloc (Below.refl _ w) _) _
  have hCb : ((w.alloc (.cells #[.slice Av xs.length cv, .bool b] 48)).alloc (.cells #[.slice Ao lo co, .bool bo] 48)).heap[w.heap.size]? = some (.cells #[.slice Av xs.length cv, .bool b] 48 (0, 0)) :=
    (Below.heap_alloc _ _ _ (by simp only [World.size_alloc]; omega)).trans (World.alloc_heap_new w _)
  have hsz : w.heap.size < ((w.alloc (.cells #[.slice Av xs.length cv, .bool b] 48)).alloc (.cells #[.slice Ao lo co, .bool bo] 48)).heap.size := by simp only [World.size_alloc]; omega
  have hS := HSM.out _ hal
  refine hS.mono ?_
  rintro e w3 ⟨rfl, hb3⟩
  have hB3 := below_then hal hal.size hb3
  have hC3 := (hb3.block _ hsz).trans hCb
  have h3 := HH.out.step hB3
  obtain ⟨C, hC⟩ : ∃ C, w.heap.size = C := ⟨_, rfl⟩
  have HC0 := Lib.hid hC
  have hCm : C ≠ mb := by omega
  rw [hC] at hC3 ⊢
  have r3 : w3.cell? ⟨R, 0, none⟩ = some (.map (some mb)) := by rw [blk_cell h3.1]; rfl
  have x30 : w3.cell? ⟨C, 0, none⟩ = some (.slice Av xs.length cv) := by rw [blk_cell hC3]; rfl
  have x31 : w3.cell? ⟨C, 1, none⟩ = some (.bool b) := by rw [blk_cell hC3]; rfl
  have hm3 : RgMap w3.drew mb n ρ := h3.2.1.step rfl
  obtain ⟨v1, s1, wa, he1, ht1, hs1⟩ := hm3.entry (by omega) (x := c) (by omega) (by omega)
  obtain ⟨wb, he2, hm4, ht2⟩ := hs1 (.agg #[.slice Av xs.length cv, .bool b])
  obtain ⟨v2, s2, wc, he3, ht3, hs3⟩ := hm4.entry hn (x := 34) (by omega) (by omega)
  obtain ⟨wd, he4, hm5, ht4⟩ := hs3 (.agg #[.slice Av xs.length cv, .bool b])
  have he1 : (Instr.mapEntry 58 (.map (some mb)) (.int .u8 c)).run Tryz.prog w3.drew = .ok (.tuple #[v1, .int .i64 s1]) wa := he1
  have he2 : (Instr.entryStore 58 (.map (some mb)) (.int .i64 s1) (.agg #[.slice Av xs.length cv, .bool b])).run Tryz.prog wa = .ok () wb := he2
  have he3 : (Instr.mapEntry 58 (.map (some mb)) (.int .u8 34)).run Tryz.prog wb = .ok (.tuple #[v2, .int .i64 s2]) wc := he3
  have he4 : (Instr.entryStore 58 (.map (some mb)) (.int .i64 s2) (.agg #[.slice Av xs.length cv, .bool b])).run Tryz.prog wc = .ok () wd := he4
  have hcell : ∀ {u u' : World} {k j : Nat} {z : Value}, u.mapTurned u' mb → k ≠ mb → k < u.heap.size → u.cell? ⟨k, j, none⟩ = some z → u'.cell? ⟨k, j, none⟩ = some z := fun ht hk hlt hz => (World.cell?_of_block (a := ⟨_, _, none⟩) (ht.grown.block _ hlt (fun e => hk (Option.some.inj e)))).trans hz
  have hR3 : R < w3.heap.size := blk_lt h3.1
  have hC3l : C < w3.heap.size := blk_lt hC3
  have hRm : R ≠ mb := h3.2.2
  have fa : wa.cell? ⟨R, 0, none⟩ = some (.map (some mb)) ∧ wa.cell? ⟨C, 0, none⟩ = some (.slice Av xs.length cv) ∧ wa.cell? ⟨C, 1, none⟩ = some (.bool b) := ⟨hcell ht1 hRm hR3 r3, hcell ht1 hCm hC3l x30, hcell ht1 hCm hC3l x31⟩
  have fb : wb.cell? ⟨R, 0, none⟩ = some (.map (some mb)) ∧ wb.cell? ⟨C, 0, none⟩ = some (.slice Av xs.length cv) ∧ wb.cell? ⟨C, 1, none⟩ = some (.bool b) := ⟨hcell ht2 hRm hR3 r3, hcell ht2 hCm hC3l x30, hcell ht2 hCm hC3l x31⟩
  have zb : w3.heap.size ≤ wb.heap.size := ht2.grown.size
  have fc : wc.cell? ⟨R, 0, none⟩ = some (.map (some mb)) ∧ wc.cell? ⟨C, 0, none⟩ = some (.slice Av xs.length cv) ∧ wc.cell? ⟨C, 1, none⟩ = some (.bool b) := ⟨hcell ht3 hRm (by omega) fb.1, hcell ht3 hCm (by omega) fb.2.1, hcell ht3 hCm (by omega) fb.2.2⟩
  have fd : wd.cell? ⟨R, 0, none⟩ = some (.map (some mb)) ∧ wd.cell? ⟨C, 0, none⟩ = some (.slice Av xs.length cv) ∧ wd.cell? ⟨C, 1, none⟩ = some (.bool b) := ⟨hcell ht4 hRm (by omega) fb.1, hcell ht4 hCm (by omega) fb.2.1, hcell ht4 hCm (by omega) fb.2.2⟩
  have hgr : w.grownBy wd (some mb) := by
    have g2 := ht2.grown
    have g4 := ht4.grown
    exact ⟨(g4.os.trans g2.os).trans hB3.os, (g4.tape.trans g2.tape).trans hB3.tape, (g4.output.trans g2.output).trans hB3.output, Nat.le_trans hB3.size (Nat.le_trans g2.size g4.size), fun k hk hne => ((g4.block k (Nat.lt_of_lt_of_le hk (Nat.le_trans hB3.size g2.size)) hne).trans (g2.block k (Nat.lt_of_lt_of_le hk hB3.size) hne)).trans (hB3.block k hk)⟩
  have hRd : wd.heap[R]? = some (.cells #[.map (some mb)] 60 (0, 0)) := (hgr.block R hRl (fun e => hRm (Option.some.inj e))).trans HH.out.1
  have HFIN := Lib.hid (And.intro (show Rg wd R mb (n + 2) (setR (setR ρ c (.agg #[.slice Av xs.length cv, .bool b])) 34 (.agg #[.slice Av xs.length cv, .bool b])) from ⟨hRd, hm5, hRm⟩) hgr)
  clear hs1 hs3 ht1 ht2 ht3 ht4 hm3 hm4 hm5 hcell hgr hRd hB3 hb3 h3 hC3 hS hal hCb hsz zb hlk
  go_wp2_with fail
  refine start_ (n := 17) (S := fun w' => w'.cell? ⟨R, 0, none⟩ = some (.map (some mb)) ∧ w'.cell? ⟨C, 0, none⟩ = some (.slice Av xs.length cv) ∧ w'.cell? ⟨C, 1, none⟩ = some (.bool b)) (ds := []) #[false, false, false, false, false, false, false, false, false, false, false, false, false, false, false, false, false] (by kernel_rfl) rfl rfl ⟨(by first | exact r3 | go_keep), (by first | exact x30 | go_keep), (by first | exact x31 | go_keep)⟩ (fun hHeld => ?_)
  refine pure_ (i := 0) (N := some 41) (v := ?_) (a' := ?_) #[true, false, false, false, false, false, false, false, false, false, false, false, false, false, false, false, false] rfl rfl (by kernel_rfl) (fun _ _ _ h => h) (Or.inl ⟨by rfl, ?_⟩) ?_ ?_
  rotate_left
  · intro w'
    go_simp
    with_reducible rfl
  rotate_left
  · simp only [Act.put, List.setIfInBounds_toArray, List.set_cons_zero, List.set_cons_succ]
    rfl
  refine pure_ (i := 1) (N := some 42) (v := ?_) (a' := ?_) #[true, true, false, false, false, false, false, false, false, false, false, false, false, false, false, false, false] rfl rfl (by kernel_rfl) (fun _ _ _ h => h) (Or.inl ⟨by rfl, ?_⟩) ?_ ?_
  rotate_left
  · intro w'
    go_simp
    with_reducible rfl
  rotate_left
  · simp only [Act.put, List.setIfInBounds_toArray, List.set_cons_zero, List.set_cons_succ]
    rfl
  refine pure_ (i := 2) (N := some 43) (v := ?_) (a' := ?_) #[true, true, true, false, false, false, false, false, false, false, false, false, false, false, false, false, false] rfl rfl (by kernel_rfl) (fun _ _ _ h => h) (Or.inl ⟨by rfl, ?_⟩) ?_ ?_
  rotate_left
  · intro w'
    go_simp
    with_reducible rfl
  rotate_left
  · simp only [Act.put, List.setIfInBounds_toArray, List.set_cons_zero, List.set_cons_succ]
    rfl
  refine pure_ (i := 4) (N := some 45) (v := ?_) (a' := ?_) #[true, true, true, false, true, false, false, false, false, false, false, false, false, false, false, false, false] rfl rfl (by kernel_rfl) (fun _ _ _ h => h) (Or.inl ⟨by rfl, ?_⟩) ?_ ?_
  rotate_left
  · intro w'
    go_simp
    with_reducible rfl
  rotate_left
  · simp only [Act.put, List.setIfInBounds_toArray, List.set_cons_zero, List.set_cons_succ]
    rfl
  refine pure_ (i := 5) (N := some 46) (v := ?_) (a' := ?_) #[true, true, true, false, true, true, false, false, false, false, false, false, false, false, false, false, false] rfl rfl (by kernel_rfl) (fun _ _ _ h => h) (Or.inl ⟨by rfl, ?_⟩) ?_ ?_
  rotate_left
  · intro w'
    go_simp
    with_reducible rfl
  rotate_left
  · simp only [Act.put, List.setIfInBounds_toArray, List.set_cons_zero, List.set_cons_succ]
    rfl
  refine pure_ (i := 6) (N := some 47) (v := ?_) (a' := ?_) #[true, true, true, false, true, true, true, false, false, false, false, false, false, false, false, false, false] rfl rfl (by kernel_rfl) (fun _ _ _ h => h) (Or.inl ⟨by rfl, ?_⟩) ?_ ?_
  rotate_left
  · intro w'
    go_simp
    with_reducible rfl
  rotate_left
  · simp only [Act.put, List.setIfInBounds_toArray, List.set_cons_zero, List.set_cons_succ]
    rfl
  refine pure_ (i := 7) (N := some 48) (v := ?_) (a' := ?_) #[true, true, true, false, true, true, true, true, false, false, false, false, false, false, false, false, false] rfl rfl (by kernel_rfl) (fun _ _ _ h => h) (Or.inl ⟨by rfl, ?_⟩) ?_ ?_
  rotate_left
  · intro w'
    go_simp
    with_reducible rfl
  rotate_left
  · simp only [Act.put, List.setIfInBounds_toArray, List.set_cons_zero, List.set_cons_succ]
    rfl
  refine take_ (i := 3) (N := some 44) (v := ?_) (a' := ?_) #[true, true, true, true, true, true, true, true, false, false, false, false, false, false, false, false, false] rfl rfl (by kernel_rfl) (fun _ _ _ h => h) (Or.inl ⟨by rfl, ?_⟩) hHeld ?_ ?_
  rotate_left
  · rintro w' ⟨s0, s1, s2⟩
    go_simp
    with_reducible rfl
  rotate_left
  · simp only [Act.put, List.setIfInBounds_toArray, List.set_cons_zero, List.set_cons_succ]
    rfl
  refine take_ (i := 8) (N := some 49) (v := ?_) (a' := ?_) #[true, true, true, true, true, true, true, true, true, false, false, false, false, false, false, false, false] rfl rfl (by kernel_rfl) (fun _ _ _ h => h) (Or.inl ⟨by rfl, ?_⟩) hHeld ?_ ?_
  rotate_left
  · rintro w' ⟨s0, s1, s2⟩
    go_simp
    with_reducible rfl
  rotate_left
  · simp only [Act.put, List.setIfInBounds_toArray, List.set_cons_zero, List.set_cons_succ]
    rfl
  refine take_ (i := 9) (N := some 50) (v := ?_) (a' := ?_) #[true, true, true, true, true, true, true, true, true, true, false, false, false, false, false, false, false] rfl rfl (by kernel_rfl) (fun _ _ _ h => h) (Or.inl ⟨by rfl, ?_⟩) hHeld ?_ ?_
  rotate_left
  · rintro w' ⟨s0, s1, s2⟩
    go_simp
    with_reducible rfl
  rotate_left
  · simp only [Act.put, List.setIfInBounds_toArray, List.set_cons_zero, List.set_cons_succ]
    rfl
  refine take_ (i := 10) (N := some 51) (v := ?_) (a' := ?_) #[true, true, true, true, true, true, true, true, true, true, true, false, false, false, false, false, false] rfl rfl (by kernel_rfl) (fun _ _ _ h => h) (Or.inl ⟨by rfl, ?_⟩) hHeld ?_ ?_
  rotate_left
  · rintro w' ⟨s0, s1, s2⟩
    go_simp
    with_reducible rfl
  rotate_left
  · simp only [Act.put, List.setIfInBounds_toArray, List.set_cons_zero, List.set_cons_succ]
    rfl
  refine one_ (i := 11) (N := some 52) #[true, true, true, true, true, true, true, true, true, true, true, true, false, false, false, false, false] rfl rfl (by kernel_rfl) (by decide) (fun K hK => ?_)
  refine value_ (w1 := ?_) (v := ?_) (by rfl) rfl ?_ ?_
  rotate_left 2
  · go_simp
    constructor
    · rfl
    · rfl
  refine hK.out _ _ ⟨fa.1, fa.2.1, fa.2.2⟩ (fun hHeld => ?_)
  clear hK K
  refine norm_ (a' := ?_) ?_ ?_
  rotate_left
  · show Act.put _ (some 52) _ = _
    simp only [Act.put, List.setIfInBounds_toArray, List.set_cons_zero, List.set_cons_succ]
    rfl
  refine pure_ (i := 12) (N := some 53) (v := ?_) (a' := ?_) #[true, true, true, true, true, true, true, true, true, true, true, true, true, false, false, false, false] rfl rfl (by kernel_rfl) (fun _ _ _ h => h) (Or.inl ⟨by rfl, ?_⟩) ?_ ?_
  rotate_left
  · intro w'
    go_simp
    with_reducible rfl
  rotate_left
  · simp only [Act.put, List.setIfInBounds_toArray, List.set_cons_zero, List.set_cons_succ]
    rfl
  refine one_ (i := 13) (N := none) #[true, true, true, true, true, true, true, true, true, true, true, true, true, true, false, false, false] rfl rfl (by kernel_rfl) (by decide) (fun K hK => ?_)
  refine skip_ (w1 := ?_) (by rfl) rfl ?_ ?_
  rotate_left
  · go_simp
    rfl
  refine hK.out _ _ ⟨fb.1, fb.2.1, fb.2.2⟩ (fun hHeld => ?_)
  clear hK K
  refine one_ (i := 14) (N := some 54) #[true, true, true, true, true, true, true, true, true, true, true, true, true, true, true, false, false] rfl rfl (by kernel_rfl) (by decide) (fun K hK => ?_)
  refine value_ (w1 := ?_) (v := ?_) (by rfl) rfl ?_ ?_
  rotate_left 2
  · go_simp
    constructor
    · rfl
    · rfl
  refine hK.out _ _ ⟨fc.1, fc.2.1, fc.2.2⟩ (fun hHeld => ?_)
  clear hK K
  refine norm_ (a' := ?_) ?_ ?_
  rotate_left
  · show Act.put _ (some 54) _ = _
    simp only [Act.put, List.setIfInBounds_toArray, List.set_cons_zero, List.set_cons_succ]
    rfl
  refine pure_ (i := 15) (N := some 55) (v := ?_) (a' := ?_) #[true, true, true, true, true, true, true, true, true, true, true, true, true, true, true, true, false] rfl rfl (by kernel_rfl) (fun _ _ _ h => h) (Or.inl ⟨by rfl, ?_⟩) ?_ ?_
  rotate_left
  · intro w'
    go_simp
    with_reducible rfl
  rotate_left
  · simp only [Act.put, List.setIfInBounds_toArray, List.set_cons_zero, List.set_cons_succ]
    rfl
  refine one_ (i := 16) (N := none) #[true, true, true, true, true, true, true, true, true, true, true, true, true, true, true, true, true] rfl rfl (by kernel_rfl) (by decide) (fun K hK => ?_)
  refine skip_ (w1 := ?_) (by rfl) rfl ?_ ?_
  rotate_left
  · go_simp
    rfl
  refine hK.out _ _ ⟨fd.1, fd.2.1, fd.2.2⟩ (fun hHeld => ?_)
  clear hK K
  refine done_ (by kernel_rfl) ?_
  go_wp2
  go_ret
  exact ⟨rfl, HFIN.out.1, HFIN.out.2⟩
end Go.Proofs.YtdhemdeapphfoaaGreatDoor

/- regs' Get and Cut at the register without a name, walked. -/
set_option linter.unusedVariables false
set_option linter.unusedSimpArgs false
namespace Go.Proofs.YtdhemdeapphfoaaGreatDoor
open Go.RowKit Go.Shelf Go.Maps Go.Proofs.YtdhemdeapphfoaaGreatDoorW.PrintWords Go.Proofs.YtdhemdeapphfoaaGreatDoorW.PrintLast

set_option maxRecDepth 100000 in
set_option maxHeartbeats 1000000 in
theorem rget_gen {w : World} {R mb n : Nat} {ρ : Int → Option Value} (h : Rg w R mb n ρ) {c : Int} (c0 : 0 ≤ c) (c1 : c ≤ 255) (hsm : ∀ W, Calls Tryz.prog 26 #[.int .u8 c] W fun e w' => e = .returned (.int .u8 c) ∧ w' = W) (hkn : ∀ W, Calls Tryz.prog 27 #[.int .u8 c] W fun e w' => e = .returned (.bool true) ∧ w' = W) {v : Value} {b : Bool} (hρ : ρ c = some (.agg #[v, .bool b])) {G : Nat → Prop} {xs : List ByteArray} (hv : Ls w G v xs) (h0 : 0 < xs.length) (hl : xs.length ≤ 300) :
    Calls Tryz.prog 14 #[.pointer (some ⟨R, 0, none⟩), .int .u8 c] w (GetRPost w b xs) := by
  have hRl := h.ltR
  have hMl := h.ltM
  have k0 : w.cell? ⟨R, 0, none⟩ = some (.map (some mb)) := by rw [blk_cell h.1]; rfl
  have HCL := Lib.hid (fun W (hb : Below w.heap.size w W) => rclone_any (hv.step hb.size fun b hlt _ => hb.block b hlt) h0 (by omega) b)
  have HSL := Lib.hid hsm
  have HKN := Lib.hid hkn
  have hlk0 : ∀ W : World, W.heap[mb]? = w.heap[mb]? → (Instr.lookup 58 (.map (some mb)) (.int .u8 c) true).run Tryz.prog W = .ok (.tuple #[.agg #[v, .bool b], .bool true]) W := fun W hW => by
    have h9 := (h.2.1.step (w' := W) hW).look (x := c) (by omega) (by omega)
    rw [hρ] at h9
    exact h9
  have hlk1 : ∀ o, (Instr.lookup 58 (.map (some mb)) (.int .u8 c) true).run Tryz.prog (w.alloc o).drew = .ok (.tuple #[.agg #[v, .bool b], .bool true]) (w.alloc o).drew := fun o => hlk0 _ (Below.heap_alloc w o mb hMl)
  have hlk2 : ∀ o o', (Instr.lookup 58 (.map (some mb)) (.int .u8 c) true).run Tryz.prog ((w.alloc o).alloc o').drew = .ok (.tuple #[.agg #[v, .bool b], .bool true]) ((w.alloc o).alloc o').drew := fun o o' => hlk0 _ ((Below.heap_alloc (w.alloc o) o' mb (by simp only [World.size_alloc]; omega)).trans (Below.heap_alloc w o mb hMl))
  clear hlk0
  obtain ⟨Av, cv, hvs, _⟩ := id hv
  subst hvs
  clear h hv
  go_enter Tryz.func14, Tryz.ntmps14
  go_wp2
  go_region_held3 (fun W => W.cell? ⟨R, 0, none⟩ = some (.map (some mb))) (first | exact k0 | go_keep) (first | (go_at_call 26; refine (HSL.out _).mono ?_; rintro e w1 ⟨rfl, rfl⟩))
  all_goals
    have hB : Below w.heap.size w ((w.alloc (.cells #[.slice none 0 0, .bool false] 48)).alloc (.cells #[.slice Av xs.length cv, .bool b] 48)).drew := (below_alloc (below_alloc (Below.refl _ w) _) _).drew
    have e0 : ((w.alloc (.cells #[.slice none 0 0, .bool false] 48)).alloc (.cells #[.slice Av xs.length cv, .bool b] 48)).drew.heap[w.heap.size]? = some (.cells #[.slice none 0 0, .bool false] 48 (0, 0)) := (Below.heap_alloc (w.alloc _) _ _ (by simp only [World.size_alloc]; omega)).trans (World.alloc_heap_new w _)
    have e1 : ((w.alloc (.cells #[.slice none 0 0, .bool false] 48)).alloc (.cells #[.slice Av xs.length cv, .bool b] 48)).drew.heap[w.heap.size + 1]? = some (.cells #[.slice Av xs.length cv, .bool b] 48 (0, 0)) := by
      have := World.alloc_heap_new (w.alloc (.cells #[.slice none 0 0, .bool false] 48)) (.cells #[.slice Av xs.length cv, .bool b] 48)
      rwa [show (w.alloc (.cells #[.slice none 0 0, .bool false] 48)).heap.size = w.heap.size + 1 by simp] at this
    have hsz : ((w.alloc (.cells #[.slice none 0 0, .bool false] 48)).alloc (.cells #[.slice Av xs.length cv, .bool b] 48)).drew.heap.size = w.heap.size + 2 := by simp
    obtain ⟨W, hW⟩ : ∃ W, ((w.alloc (.cells #[.slice none 0 0, .bool false] 48)).alloc (.cells #[.slice Av xs.length cv, .bool b] 48)).drew = W := ⟨_, rfl⟩
    rw [hW] at hB e0 e1 hsz ⊢
    clear hW hlk1 hlk2 k0
    have x0 : W.cell? ⟨w.heap.size + 1, 0, none⟩ = some (.slice Av xs.length cv) := by rw [blk_cell e1]; rfl
    have x1 : W.cell? ⟨w.heap.size + 1, 1, none⟩ = some (.bool b) := by rw [blk_cell e1]; rfl
    go_wp2_with (first | (go_at_call 27; refine (HKN.out _).mono ?_; rintro e w1 ⟨rfl, rfl⟩))
    refine (HCL.out _ hB).mono ?_
    rintro e w2 ⟨v2, rfl, h21, h22, h23⟩
    obtain ⟨A2, c2, hv2, _⟩ := h21.slice
    rw [cS_len] at hv2
    subst hv2
    have f0 : w2.heap[w.heap.size]? = some (.cells #[.slice none 0 0, .bool false] 48 (0, 0)) := (h23.block _ (by omega)).trans e0
    have g0 : w2.frozen? ⟨w.heap.size, 0, none⟩ = false := blk_frozen f0 0
    have g1 : w2.frozen? ⟨w.heap.size, 1, none⟩ = false := blk_frozen f0 1
    have d0 : w2.cell? ⟨w.heap.size, 0, none⟩ = some (.slice none 0 0) := by rw [blk_cell f0]; rfl
    have d1 : w2.cell? ⟨w.heap.size, 1, none⟩ = some (.bool false) := by rw [blk_cell f0]; rfl
    have hne : (Value.slice A2 xs.length c2).ownBlock ≠ some w.heap.size := fun e => by
      have := h22 _ e
      omega
    have hge : ∀ k, (Value.slice A2 xs.length c2).ownBlock = some k → w.heap.size ≤ k := fun k hk => by
      have := h22 k hk
      omega
    have hrw := (h21.setCell (p := ⟨w.heap.size, 0, none⟩) hne (.slice A2 xs.length c2)).setCell (p := ⟨w.heap.size, 1, none⟩) hne (.bool b)
    have hbl := ((below_then hB (by omega) h23).setCell (p := ⟨w.heap.size, 0, none⟩) (Nat.le_refl _) (.slice A2 xs.length c2)).setCell (p := ⟨w.heap.size, 1, none⟩) (Nat.le_refl _) (.bool b)
    have hbk := blk_set (blk_set f0 0 (.slice A2 xs.length c2)) 1 (.bool b)
    have HF := Lib.hid (And.intro hrw (And.intro hbl hge))
    clear h21 h22 h23 e0 e1 x0 x1 hB f0
    go_wp2_with fail
    obtain ⟨W4, hW4⟩ : ∃ W4, (w2.setCell ⟨w.heap.size, 0, none⟩ (.slice A2 xs.length c2)).setCell ⟨w.heap.size, 1, none⟩ (.bool b) = W4 := ⟨_, rfl⟩
    rw [hW4] at HF hbk ⊢
    have r0 : W4.cell? ⟨w.heap.size, 0, none⟩ = some (.slice A2 xs.length c2) := by rw [blk_cell hbk]; rfl
    have r1 : W4.cell? ⟨w.heap.size, 1, none⟩ = some (.bool b) := by rw [blk_cell hbk]; rfl
    clear hW4 hbk hrw hbl d0 d1 g0 g1
    refine bodyPost_ret (by simp [results, Tryz.results14, r0, r1, go_sem]; try rfl) rfl ?_
    exact ⟨_, rfl, HF.out.1, HF.out.2.2, HF.out.2.1⟩

/-- what stands in registers are lines -/
def Shp (ρ : Int → Option Value) : Prop := ∀ y v, ρ y = some v → ∃ A l c b, v = .agg #[.slice A l c, .bool b]
theorem Shp.getD {ρ : Int → Option Value} (h : Shp ρ) (y : Int) : ∃ A l c b, (ρ y).getD zeroReg = .agg #[.slice A l c, .bool b] := by
  cases hq : ρ y with
  | none => exact ⟨none, 0, 0, false, rfl⟩
  | some v =>
    obtain ⟨A, l, c, b, e⟩ := h y v hq
    exact ⟨A, l, c, b, e⟩
theorem Shp.set {ρ : Int → Option Value} (h : Shp ρ) (x : Int) (A : Option Addr) (l c : Nat) (b : Bool) : Shp (setR ρ x (.agg #[.slice A l c, .bool b])) := fun y v hv => by
  unfold setR at hv
  split at hv
  · injection hv with hv
    exact ⟨A, l, c, b, hv.symm⟩
  · exact h y v hv
def delR (ρ : Int → Option Value) (x : Int) : Int → Option Value := fun y => if y = x then none else ρ y
theorem Shp.cut {ρ : Int → Option Value} (h : Shp ρ) (x : Int) : Shp (delR ρ x) := fun y v hv => by
  unfold delR at hv
  split at hv
  · cases hv
  · exact h y v hv

set_option maxRecDepth 100000 in
theorem wpList_delete_rg {ops : Array Oper} {rest : List Oper} {o : Oper} {a : Act} {w : World} {Q : Exit → Act → World → Prop} (hg : o.guard = none) (m x : Operand) (hop : o.op = Op.call { callee := Callee.builtin Builtin.delete, args := #[m, x], argTypes := #[58, 5] }) {b n : Nat} {ρ : Int → Option Value} (h : RgMap w b n ρ) (hm : a.eval m = .map (some b)) {c : Int} (c0 : 0 ≤ c) (c1 : c ≤ 255) (hx : a.eval x = .int .u8 c)
    (hK : ∀ w', RgMap w' b n (delR ρ c) → w.mapTurned w' b → wpList Tryz.prog ops Q rest (a.put o.dst (.tuple #[])) w') : wpList Tryz.prog ops Q (o :: rest) a w := by
  obtain ⟨D, hown, hD⟩ := h
  refine wpList_delete_own _ hg m x 58 5 hop 48 law5 Tryz.underlying58 _ b n D hm hown _ _ hx (keyOf_int_mk Tryz.underlying5 (u8wf c0 c1)) ?_
  intro w1 hown1 hturn1
  refine hK w1 ⟨_, hown1, fun y y0 y1 => ?_⟩ hturn1
  unfold delR
  by_cases hy : y = c
  · subst hy
    rw [atKey_del_same, has_del_same]
    simp
  · rw [atKey_del_other (by simpa using hy), has_del_other (by simpa using hy)]
    simp only [hy, if_false]
    exact hD y y0 y1
end Go.Proofs.YtdhemdeapphfoaaGreatDoor

/- regs' Cut at the register without a name, walked. -/
set_option linter.unusedVariables false
set_option linter.unusedSimpArgs false
namespace Go.Proofs.YtdhemdeapphfoaaGreatDoor
open Go.RowKit Go.Shelf Go.Maps Go.Proofs.YtdhemdeapphfoaaGreatDoorW.PrintWords Go.Proofs.YtdhemdeapphfoaaGreatDoorW.PrintLast

theorem grown_then {w w1 w2 : World} {r : Option Nat} (h : w.grownBy w1 r) (k : w1.grownBy w2 r) : w.grownBy w2 r :=
  ⟨k.os.trans h.os, k.tape.trans h.tape, k.output.trans h.output, Nat.le_trans h.size k.size, fun b hb hne => (k.block b (Nat.lt_of_lt_of_le hb h.size) hne).trans (h.block b hb hne)⟩
theorem grown_below {w w1 : World} {r : Option Nat} (h : Below w.heap.size w w1) : w.grownBy w1 r := ⟨h.os, h.tape, h.output, h.size, fun b hb _ => h.block b hb⟩

theorem Rg.turned {w w' : World} {R mb n n' : Nat} {ρ ρ' : Int → Option Value} (h : Rg w R mb n ρ) (ht : w.mapTurned w' mb) (hm : RgMap w' mb n' ρ') : Rg w' R mb n' ρ' :=
  ⟨(ht.grown.block R h.ltR (fun e => h.2.2 (Option.some.inj e))).trans h.1, hm, h.2.2⟩
theorem Rg.drew {w : World} {R mb n : Nat} {ρ : Int → Option Value} (h : Rg w R mb n ρ) : Rg w.drew R mb n ρ := ⟨h.1, h.2.1.step rfl, h.2.2⟩
theorem Rg.alloc {w : World} {R mb n : Nat} {ρ : Int → Option Value} (h : Rg w R mb n ρ) (o : Obj) : Rg (w.alloc o) R mb n ρ := h.step (below_alloc (Below.refl _ w) o)

def CutPost (w : World) (R mb n : Nat) (b : Bool) (xs : List ByteArray) (e : Ending) (w' : World) : Prop :=
  ∃ v n' ρ', e = .returned (.int .u16 0) ∧ Ls w' (fun k => w.heap.size ≤ k) v xs ∧ Rg w' R mb n' ρ' ∧ n' ≤ n + 11 ∧ Shp ρ' ∧ ρ' 34 = some (.agg #[v, .bool b]) ∧ w.grownBy w' (some mb)

set_option maxRecDepth 100000 in
set_option maxHeartbeats 2000000 in
theorem cut_any {w : World} {R mb n : Nat} {ρ : Int → Option Value} (h : Rg w R mb n ρ) (hsh : Shp ρ) (hn : n + 20 < maxLen) {G : Nat → Prop} {v : Value} {xs : List ByteArray} (hv : Ls w G v xs) (h0 : 0 < xs.length) (hl : xs.length ≤ 300) (hs : ∀ x ∈ xs, x.size ≤ 1000) (hsum : sumS xs ≤ 20000) (b : Bool) :
    Calls Tryz.prog 60 #[.pointer (some ⟨R, 0, none⟩), .int .u8 34, .agg #[v, .bool b]] w (CutPost w R mb n b xs) := by
  have HH := Lib.hid h
  have hRl := h.ltR
  have hMl := h.ltM
  have hRm := h.2.2
  have HCL := Lib.hid (fun W (hb : Below w.heap.size w W) => rclone_any (hv.step hb.size fun b hlt _ => hb.block b hlt) h0 (by omega) b)
  have HXS := Lib.hid (And.intro hs (And.intro hsum hsh))
  obtain ⟨Av, cv, hvs, _⟩ := id hv
  subst hvs
  clear h hv hs hsum hsh
  go_enter Tryz.func60, Tryz.ntmps60
  go_wp2_with fail
  have hal : Below w.heap.size w (w.alloc (.cells #[.slice Av xs.length cv, .bool b] 48)) := below_alloc (Below.refl _ w) _
  refine (HCL.out _ hal).mono ?_
  rintro e w2 ⟨v2, rfl, h21, h22, h23⟩
  obtain ⟨A2, c2, hv2', _⟩ := h21.slice
  rw [cS_len] at hv2'
  subst hv2'
  have hC2 : w2.heap[w.heap.size]? = some (.cells #[.slice Av xs.length cv, .bool b] 48 (0, 0)) := (h23.block _ (by simp only [World.size_alloc]; omega)).trans (World.alloc_heap_new w _)
  have d0 : w2.cell? ⟨w.heap.size, 0, none⟩ = some (.slice Av xs.length cv) := by rw [blk_cell hC2]; rfl
  have d1 : w2.cell? ⟨w.heap.size, 1, none⟩ = some (.bool b) := by rw [blk_cell hC2]; rfl
  have g0 : w2.frozen? ⟨w.heap.size, 0, none⟩ = false := blk_frozen hC2 0
  have g1 : w2.frozen? ⟨w.heap.size, 1, none⟩ = false := blk_frozen hC2 1
  have hne : ∀ m, m ≤ w.heap.size → (Value.slice A2 xs.length c2).ownBlock ≠ some m := fun m hm e => by
    have := h22 m e
    simp only [World.size_alloc] at this
    omega
  have hrw := (h21.setCell (p := ⟨w.heap.size, 0, none⟩) (hne _ (by dsimp only; omega)) (.slice A2 xs.length c2)).setCell (p := ⟨w.heap.size, 1, none⟩) (hne _ (by dsimp only; omega)) (.bool b)
  have hbl := ((below_then hal hal.size h23).setCell (p := ⟨w.heap.size, 0, none⟩) (Nat.le_refl _) (.slice A2 xs.length c2)).setCell (p := ⟨w.heap.size, 1, none⟩) (Nat.le_refl _) (.bool b)
  have hbk := blk_set (blk_set hC2 0 (.slice A2 xs.length c2)) 1 (.bool b)
  have HRW := Lib.hid (And.intro hrw (And.intro hbl (And.intro h22 hbk)))
  clear h21 h22 h23 hC2 hrw hbl hal hbk
  go_wp2_with fail
  obtain ⟨W4, hW4⟩ : ∃ W4, (w2.setCell ⟨w.heap.size, 0, none⟩ (.slice A2 xs.length c2)).setCell ⟨w.heap.size, 1, none⟩ (.bool b) = W4 := ⟨_, rfl⟩
  rw [hW4] at HRW ⊢
  clear hW4 d0 d1 g0 g1
  obtain ⟨Ao, lo, co, bo, hold⟩ := HXS.out.2.2.getD 34
  have hlay := lay_gen (HH.out.step HRW.out.2.1) (by omega) (c := 34) (by omega) (by omega) (by omega) Small_34 Known_34 hold (Ls.of_rw HRW.out.1) hl HXS.out.1 HXS.out.2.1 b
  refine hlay.mono ?_
  clear hlay
  rintro e w5 ⟨rfl, hrg, hgr⟩
  have hge : ∀ k, (Value.slice A2 xs.length c2).ownBlock = some k → w.heap.size ≤ k ∧ k ≠ mb := fun k hk => by
    have := HRW.out.2.2.1 k hk
    simp only [World.size_alloc] at this
    omega
  have HF := Lib.hid (And.intro (show Ls w5 (fun k => w.heap.size ≤ k) (.slice A2 xs.length c2) xs from ((Ls.of_rw HRW.out.1).step hgr.size fun k hlt hk => hgr.block k hlt (fun e => (hge k hk).2 (Option.some.inj e))).wide fun k _ hk => (hge k hk).1) (And.intro hrg (show w.grownBy w5 (some mb) from grown_then (grown_below HRW.out.2.1) hgr)))
  have hC5 : w5.heap[w.heap.size]? = some (.cells #[.slice A2 xs.length c2, .bool b] 48 (0, 0)) := (hgr.block _ (blk_lt HRW.out.2.2.2) (fun e => by have := Option.some.inj e; omega)).trans HRW.out.2.2.2
  have HC5 := Lib.hid hC5
  obtain ⟨C, hC⟩ : ∃ C, w.heap.size = C := ⟨_, rfl⟩
  have hCm : C ≠ mb := by omega
  have hC5l := blk_lt hC5
  have hRl5 : R < w5.heap.size := by have := HF.out.2.2.size; omega
  clear hrg hgr hge hC5
  go_wp2_with fail
  rw [hC] at HC5 hC5l
  go_loopw [8] (fun v8 wr => ∃ (k n' : Nat) (ρ' : Int → Option Value), v8 = .int .u8 (57 - (k : Int)) ∧ k ≤ 8 ∧ Rg wr R mb n' ρ' ∧ n' ≤ n + 2 + k ∧ Shp ρ' ∧ ρ' 34 = some (.agg #[.slice A2 xs.length c2, .bool b]) ∧ w5.grownBy wr (some mb)) (fun v8 _ => (intOf v8).toNat - 49)
  case atStart => exact ⟨0, n + 2, _, rfl, Nat.zero_le _, HF.out.2.1, Nat.le_refl _, (HXS.out.2.2.set 34 A2 _ c2 b).set 34 A2 _ c2 b, by simp [setR], ⟨rfl, rfl, rfl, Nat.le_refl _, fun _ _ _ => rfl⟩⟩
  case round =>
    obtain ⟨k, n', ρ', rfl, hk, hrg, hn', hsh, h34, hgr⟩ := hrel
    have r0 : wr.cell? ⟨R, 0, none⟩ = some (.map (some mb)) := by rw [blk_cell hrg.1]; rfl
    have HRG := Lib.hid (And.intro hrg (And.intro hsh (And.intro h34 hgr)))
    by_cases hlt : k < 8
    · have hlt' : (49 : Int) < 57 - k := by omega
      obtain ⟨A9, l9, c9, b9, e9⟩ := hsh.getD (57 - (k : Int) - 1)
      have hlk := hrg.2.1.look (x := 57 - (k : Int) - 1) (by omega) (by omega)
      rw [e9] at hlk
      clear hrg hsh h34 hgr
      obtain ⟨bis, hbis⟩ : ∃ bis, (ρ' (57 - (k : Int) - 1)).isSome = bis := ⟨_, rfl⟩
      rw [hbis] at hlk
      have r1 : ∀ o, (wr.alloc o).cell? ⟨R, 0, none⟩ = some (.map (some mb)) := fun o => (World.cell?_of_block (a := ⟨R, 0, none⟩) (Below.heap_alloc wr o R HRG.out.1.ltR)).trans r0
      have hmA : ∀ o, RgMap (wr.alloc o) mb n' ρ' := fun o => HRG.out.1.2.1.step (Below.heap_alloc wr o mb HRG.out.1.ltM)
      have HMA := Lib.hid hmA
      clear hmA
      cases bis
      · go_wp2_with (at_delete; refine wpList_delete_rg rfl _ _ rfl (HMA.out _) rfl (c := 57 - (k : Int)) (by omega) (by omega) rfl ?_; intro w9 hm9 ht9; have H9 := Lib.hid (And.intro hm9 ht9); clear hm9 ht9)
        obtain ⟨q1, q2, q3, q4⟩ := HRG.out
        refine ⟨⟨k + 1, n', delR ρ' (57 - (k : Int)), congrArg (Value.int .u8) (by omega), by omega, (q1.alloc _).turned H9.out.2 H9.out.1, by omega, q2.cut _, ?_, grown_then q4 (grown_then (grown_below (below_alloc (Below.refl _ wr) _)) H9.out.2.grown)⟩, by simp only [intOf]; omega⟩
        unfold delR
        rw [if_neg (by omega)]
        exact q3
      · obtain ⟨X, hX⟩ : ∃ X, wr.heap.size = X := ⟨_, rfl⟩
        have hRa := (HRG.out.1.alloc (.cells #[.slice A9 l9 c9, .bool b9] 48)).drew
        obtain ⟨w9, hput, hm9, ht9⟩ := hRa.2.1.put (by omega) (x := 57 - (k : Int)) (by omega) (by omega) (.agg #[.slice A9 l9 c9, .bool b9])
        have r9 : w9.cell? ⟨R, 0, none⟩ = some (.map (some mb)) := by rw [blk_cell (hRa.turned ht9 hm9).1]; rfl
        have e8 : (wr.alloc (.cells #[.slice A9 l9 c9, .bool b9] 48)).drew.heap[X]? = some (.cells #[.slice A9 l9 c9, .bool b9] 48 (0, 0)) := hX ▸ World.alloc_heap_new wr _
        have e9 := (ht9.grown.block X (blk_lt e8) (fun e => by have := Option.some.inj e; have := HRG.out.1.ltM; omega)).trans e8
        have x0 : (wr.alloc (.cells #[.slice A9 l9 c9, .bool b9] 48)).drew.cell? ⟨X, 0, none⟩ = some (.slice A9 l9 c9) := by rw [blk_cell e8]; rfl
        have x1 : (wr.alloc (.cells #[.slice A9 l9 c9, .bool b9] 48)).drew.cell? ⟨X, 1, none⟩ = some (.bool b9) := by rw [blk_cell e8]; rfl
        have y0 : w9.cell? ⟨X, 0, none⟩ = some (.slice A9 l9 c9) := by rw [blk_cell e9]; rfl
        have y1 : w9.cell? ⟨X, 1, none⟩ = some (.bool b9) := by rw [blk_cell e9]; rfl
        have rd : (wr.alloc (.cells #[.slice A9 l9 c9, .bool b9] 48)).drew.cell? ⟨R, 0, none⟩ = some (.map (some mb)) := by rw [blk_cell hRa.1]; rfl
        have H9 := Lib.hid (And.intro hm9 ht9)
        clear hm9 ht9 e8 e9 hRa
        go_wp2
        go_region_held3 (fun V => V.cell? ⟨R, 0, none⟩ = some (.map (some mb)) ∧ V.cell? ⟨X, 0, none⟩ = some (.slice A9 l9 c9) ∧ V.cell? ⟨X, 1, none⟩ = some (.bool b9)) (first | exact ⟨rd, x0, x1⟩ | exact ⟨r9, y0, y1⟩ | go_keep) (fail)
        all_goals
          go_wp2
          obtain ⟨q1, q2, q3, q4⟩ := HRG.out
          refine ⟨⟨k + 1, n' + 1, setR ρ' (57 - (k : Int)) (.agg #[.slice A9 l9 c9, .bool b9]), congrArg (Value.int .u8) (by omega), by omega, ((q1.alloc _).drew).turned H9.out.2 H9.out.1, by omega, q2.set _ _ _ _ _, ?_, grown_then q4 (grown_then (grown_below ((below_alloc (Below.refl _ wr) _).drew)) H9.out.2.grown)⟩, by simp only [intOf]; omega⟩
          unfold setR
          rw [if_neg (by omega)]
          exact q3
    · obtain rfl : k = 8 := by omega
      clear hsh h34
      have eC := (hgr.block C hC5l (fun e => hCm (Option.some.inj e))).trans HC5.out
      have hRa := hrg.drew
      obtain ⟨w9, hput, hm9, ht9⟩ := hRa.2.1.put (by omega) (x := 49) (by omega) (by omega) (.agg #[.slice A2 xs.length c2, .bool b])
      have r9 : w9.cell? ⟨R, 0, none⟩ = some (.map (some mb)) := by rw [blk_cell (hRa.turned ht9 hm9).1]; rfl
      have eCd : wr.drew.heap[C]? = some (.cells #[.slice A2 xs.length c2, .bool b] 48 (0, 0)) := eC
      have e9 := (ht9.grown.block C (blk_lt eCd) (fun e => hCm (Option.some.inj e))).trans eCd
      have x0 : wr.drew.cell? ⟨C, 0, none⟩ = some (.slice A2 xs.length c2) := by rw [blk_cell eCd]; rfl
      have x1 : wr.drew.cell? ⟨C, 1, none⟩ = some (.bool b) := by rw [blk_cell eCd]; rfl
      have y0 : w9.cell? ⟨C, 0, none⟩ = some (.slice A2 xs.length c2) := by rw [blk_cell e9]; rfl
      have y1 : w9.cell? ⟨C, 1, none⟩ = some (.bool b) := by rw [blk_cell e9]; rfl
      have rd : wr.drew.cell? ⟨R, 0, none⟩ = some (.map (some mb)) := by rw [blk_cell hRa.1]; rfl
      have H9 := Lib.hid (And.intro hm9 ht9)
      clear hm9 ht9 eC eCd e9 hRa hrg hgr
      go_wp2
      go_region_held3 (fun V => V.cell? ⟨R, 0, none⟩ = some (.map (some mb)) ∧ V.cell? ⟨C, 0, none⟩ = some (.slice A2 xs.length c2) ∧ V.cell? ⟨C, 1, none⟩ = some (.bool b)) (first | exact ⟨rd, x0, x1⟩ | exact ⟨r9, y0, y1⟩ | go_keep) (fail)
      all_goals
        go_wp2
        go_ret
        obtain ⟨q1, q2, q3, q4⟩ := HRG.out
        have hg5 : w5.grownBy w9 (some mb) := grown_then q4 (grown_then (grown_below ((Below.refl _ wr).drew)) H9.out.2.grown)
        refine ⟨_, n' + 1, setR ρ' 49 (.agg #[.slice A2 xs.length c2, .bool b]), rfl, HF.out.1.step hg5.size fun c hc hw => hg5.block c hc fun e => ?_, q1.drew.turned H9.out.2 H9.out.1, by omega, q2.set _ _ _ _ _, ?_, grown_then HF.out.2.2 hg5⟩
        · have := Option.some.inj e
          omega
        · unfold setR
          rw [if_neg (by omega)]
          exact q3
end Go.Proofs.YtdhemdeapphfoaaGreatDoor

/- edit's remove; Do of the command d: walked. -/
set_option linter.unusedVariables false
set_option linter.unusedSimpArgs false
namespace Go.Proofs.YtdhemdeapphfoaaGreatDoor
open Go.RowKit Go.Shelf Go.Maps Go.Proofs.YtdhemdeapphfoaaGreatDoorW.PrintWords Go.Proofs.YtdhemdeapphfoaaGreatDoorW.PrintLast

theorem Ls.nil (w : World) (G : Nat → Prop) : Ls w G (.slice none 0 0) [] := ⟨none, 0, rfl, Nat.le_refl _, by decide, fun h => absurd h (by decide)⟩

section
variable {N0 : Nat} {w0 : Base} {w w' : World} {B R mb n n' : Nat} {s s' : Bs} {ρ ρ' : Int → Option Value}
/-- a text and its registers, kept apart -/
structure Ed (N0 : Nat) (w0 : Base) (w : World) (B R mb : Nat) (s : Bs) (n : Nat) (ρ : Int → Option Value) : Prop where
  bf : Bf N0 w0 w B s
  rg : Rg w R mb n ρ
  shp : Shp ρ
  pR : w0.P R
  pM : w0.P mb
  le : N0 ≤ mb
theorem Ed.new (h : Ed N0 w0 w B R mb s n ρ) (hb : Below w.heap.size w w') : Ed N0 w0 w' B R mb s n ρ := ⟨h.bf.new hb, h.rg.step hb, h.shp, h.pR, h.pM, h.le⟩
theorem Ed.guard (h : Ed N0 w0 w B R mb s n ρ) (hb : Below w.heap.size w w') : Ed N0 ⟨w0.w, fun b => w0.P b ∨ (w.heap.size ≤ b ∧ b < w'.heap.size), w'⟩ w' B R mb s n ρ := ⟨h.bf.guard hb, h.rg.step hb, h.shp, .inl h.pR, .inl h.pM, h.le⟩
theorem Ed.turn (h : Ed N0 w0 w B R mb s n ρ) (hg : w.grownBy w' (some mb)) (hr : Rg w' R mb n' ρ') (hs : Shp ρ') : Ed N0 ⟨w0.w, fun b => w0.P b ∨ (w.heap.size ≤ b ∧ b < w'.heap.size), w'⟩ w' B R mb s n' ρ' := ⟨h.bf.turn h.pM h.le hg, hr, hs, .inl h.pR, .inl h.pM, h.le⟩
/-- the text turns -/
theorem Ed.text (h : Ed N0 w0 w B R mb s n ρ) (hb : Bf N0 w0 w' B s') : Ed N0 w0 w' B R mb s' n ρ :=
  ⟨hb, ⟨((hb.prot R h.pR).2.trans (h.bf.prot R h.pR).2.symm).trans h.rg.1, h.rg.2.1.step ((hb.prot mb h.pM).2.trans (h.bf.prot mb h.pM).2.symm), h.rg.2.2⟩, h.shp, h.pR, h.pM, h.le⟩

set_option maxRecDepth 100000 in
theorem way_d {w : World} {W B R : Nat} {vr vd : Value} {p1 p2 p3 p4 : ByteArray} {bang : Bool} {reg cnt f t d : Int} (hw : Wk w W B R vr vd ⟨#[100]⟩ p1 p2 p3 p4 bang reg cnt f t d) :
    Calls Tryz.prog 79 #[.pointer (some ⟨W, 0, none⟩)] w fun e w' => e = .returned (.func (.func 112) #[.pointer (some ⟨W, 0, none⟩)] #[]) ∧ w' = w := by
  have g1 : w.cell? ⟨W, 1, none⟩ = some (.string ⟨#[100]⟩) := by rw [blk_cell hw]; rfl
  clear hw
  go_enter Tryz.func79, Tryz.ntmps79
  go_wp2
  go_ret
  exact ⟨rfl, rfl⟩

end
end Go.Proofs.YtdhemdeapphfoaaGreatDoor

/- edit's paste; Do of the command pu: walked. -/
set_option linter.unusedVariables false
set_option linter.unusedSimpArgs false
namespace Go.Proofs.YtdhemdeapphfoaaGreatDoor
open Go.RowKit Go.Shelf Go.Maps Go.Proofs.YtdhemdeapphfoaaGreatDoorW.PrintWords Go.Proofs.YtdhemdeapphfoaaGreatDoorW.PrintLast

section
variable {N0 : Nat} {w0 : Base} {w w' : World} {B R mb n n' : Nat} {s s' : Bs} {ρ ρ' : Int → Option Value}
def PasteW (w W4 : World) (X : Nat) (A : Option Addr) (c : Nat) (ys : List ByteArray) : Prop :=
  Below w.heap.size w W4 ∧ W4.heap[X]? = some (.cells #[.slice A ys.length c, .bool true] 48 (0, 0)) ∧ Ls W4 (fun _ => True) (.slice A ys.length c) ys
theorem paste_a {w w3 : World} {A : Option Addr} {c : Nat} {ys : List ByteArray} (h1 : Rw w3 9 (.slice A ys.length c) (cS ys)) (h2 : Below w.drew.heap.size w.drew w3) : PasteW w (w3.alloc (.cells #[.slice A ys.length c, .bool true] 48)) w3.heap.size A c ys :=
  ⟨below_then (Below.refl _ w).drew (Nat.le_refl _) (below_alloc h2 _), World.alloc_heap_new w3 _, (Ls.of_rw (h1.alloc _)).wide fun _ _ _ => trivial⟩
theorem paste_b {w w3 : World} {A : Option Addr} {c : Nat} {ys : List ByteArray} (h0 : Below w.heap.size w w3) (h1 : Rw w3 9 (.slice A ys.length c) (cS ys)) (h2 : ∀ k, (Value.slice A ys.length c).ownBlock = some k → w.heap.size + 1 ≤ k) (f0 : w3.heap[w.heap.size]? = some (.cells #[.slice none 0 0, .bool false] 48 (0, 0))) : PasteW w ((w3.setCell ⟨w.heap.size, 0, none⟩ (.slice A ys.length c)).setCell ⟨w.heap.size, 1, none⟩ (.bool true)) w.heap.size A c ys :=
  have hne : (Value.slice A ys.length c).ownBlock ≠ some w.heap.size := fun e => by
    have := h2 _ e
    omega
  ⟨(h0.setCell (p := ⟨w.heap.size, 0, none⟩) (Nat.le_refl _) (.slice A ys.length c)).setCell (p := ⟨w.heap.size, 1, none⟩) (Nat.le_refl _) (.bool true), blk_set (blk_set f0 0 (.slice A ys.length c)) 1 (.bool true), (Ls.of_rw ((h1.setCell (p := ⟨w.heap.size, 0, none⟩) hne _).setCell (p := ⟨w.heap.size, 1, none⟩) hne _)).wide fun _ _ _ => trivial⟩

end
end Go.Proofs.YtdhemdeapphfoaaGreatDoor

/- edit's copy and move; Do of the commands t and m: walked. -/
set_option linter.unusedVariables false
set_option linter.unusedSimpArgs false
namespace Go.Proofs.YtdhemdeapphfoaaGreatDoor
open Go.RowKit Go.Shelf Go.Maps Go.Proofs.YtdhemdeapphfoaaGreatDoorW.PrintWords Go.Proofs.YtdhemdeapphfoaaGreatDoorW.PrintLast

section
variable {N0 : Nat} {w0 : Base} {w w' : World} {B R mb n n' : Nat} {s s' : Bs} {ρ ρ' : Int → Option Value}
end
end Go.Proofs.YtdhemdeapphfoaaGreatDoor

/- edit's commands by what they do to the lines alone. -/
set_option linter.unusedVariables false
set_option linter.unusedSimpArgs false
namespace Go.Proofs.YtdhemdeapphfoaaGreatDoor
open Go.RowKit Go.Shelf Go.Maps Go.Proofs.YtdhemdeapphfoaaGreatDoorW.PrintWords Go.Proofs.YtdhemdeapphfoaaGreatDoorW.PrintLast

/-- a text, told by its lines; its registers; what is in the one without a name -/
def EdL (N0 : Nat) (wb w : World) (B R mb : Nat) (X : List ByteArray) (q m : Nat) (Y : Option (List ByteArray)) : Prop :=
  ∃ (w0 : Base) (s : Bs) (n : Nat) (ρ : Int → Option Value), w0.w = wb ∧ Ed N0 w0 w B R mb s n ρ ∧ s.ls = X ∧ s.opn.length ≤ q ∧ s.nm = 0 ∧ n ≤ m ∧ ∀ ys, Y = some ys → ∃ v, ρ 34 = some (.agg #[v, .bool true]) ∧ Ls w w0.P v ys

section
variable {N0 : Nat} {wb w w' : World} {B R mb q m : Nat} {X : List ByteArray} {Y : Option (List ByteArray)}
theorem EdL.new (h : EdL N0 wb w B R mb X q m Y) (hb : Below w.heap.size w w') : EdL N0 wb w' B R mb X q m Y := by
  obtain ⟨w0, s, n, ρ, h1, h2, h3, h4, h5, h6, h7⟩ := h
  exact ⟨w0, s, n, ρ, h1, h2.new hb, h3, h4, h5, h6, fun ys hy => by
    obtain ⟨v, a, b⟩ := h7 ys hy
    exact ⟨v, a, b.step hb.size fun c hc _ => hb.block c hc⟩⟩
theorem EdL.below (h : EdL N0 wb w B R mb X q m Y) : Below N0 wb w := by
  obtain ⟨w0, s, n, ρ, h1, h2, h3, h4, h5, h6, h7⟩ := h
  exact h1 ▸ h2.bf.below
theorem EdL.lines (h : EdL N0 wb w B R mb X q m Y) (hl : X.length ≤ 1000000000) : ∃ T, ∀ V, Below w.heap.size w V → V.cell? ⟨B, 0, none⟩ = some (.pointer (some ⟨T, 0, none⟩)) ∧ Calls Tryz.prog 12 #[.pointer (some ⟨T, 0, none⟩)] V (OwnPost V.heap.size V X) := by
  obtain ⟨w0, s, n, ρ, h1, h2, rfl, h4, h5, h6, h7⟩ := h
  obtain ⟨T, k, F, t⟩ := h2.bf.len
  exact ⟨T, fun V hb => ⟨(World.cell?_of_block (a := ⟨B, 0, none⟩) (hb.block B (cell_lt k))).trans k, Lines_any (t.step fun c hc _ => hb.block c hc) hl⟩⟩
end
end Go.Proofs.YtdhemdeapphfoaaGreatDoor
