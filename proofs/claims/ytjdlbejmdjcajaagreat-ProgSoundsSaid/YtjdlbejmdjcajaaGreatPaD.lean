/- pat's slash at a mode's letter; next: walked. -/
import Derived.Test.YtjdlbejmdjcajaaGreatPaK
set_option linter.unusedVariables false
set_option linter.unusedSimpArgs false
namespace Go.Proofs.YtjdlbejmdjcajaaGreat
open Go.RowKit Go.Shelf Go.Maps Go.Proofs.YtjdlbejmdjcajaaGreatW.PrintWords Go.Proofs.YtjdlbejmdjcajaaGreatW.PrintLast

section
variable {w w' : World} {G : Nat} {s last : ByteArray} {r : Pp.Rs} {v : Value}
theorem tk_read {C : Nat} {sign : Int} {d : Pp.Nd} {kv : Value} {nn : Bool} (h9 : w.heap[C]? = some (.cells (tkL sign d kv nn).toArray 91 (0, 0))) :
    w.cell? ⟨C, 0, none⟩ = some (.int .u8 sign) ∧ w.cell? ⟨C, 1, none⟩ = some (.int .u8 d.op) ∧ w.cell? ⟨C, 2, none⟩ = some (.int .u8 d.c) ∧ w.cell? ⟨C, 3, none⟩ = some (.int .u64 d.s0) ∧ w.cell? ⟨C, 4, none⟩ = some (.int .u64 d.s1) ∧ w.cell? ⟨C, 5, none⟩ = some (.int .u64 d.s2) ∧ w.cell? ⟨C, 6, none⟩ = some (.int .u64 d.s3) ∧ w.cell? ⟨C, 7, none⟩ = some (.int .i64 d.mn) ∧ w.cell? ⟨C, 8, none⟩ = some (.int .i64 d.mx) ∧ w.cell? ⟨C, 9, none⟩ = some (.bool d.lz) ∧ w.cell? ⟨C, 10, none⟩ = some (.int .i64 d.n) ∧ w.cell? ⟨C, 11, none⟩ = some kv ∧ w.cell? ⟨C, 12, none⟩ = some (.bool nn) := by
  refine ⟨?_, ?_, ?_, ?_, ?_, ?_, ?_, ?_, ?_, ?_, ?_, ?_, ?_⟩ <;> (rw [blk_cell h9]; rfl)
theorem mode_no {d : UInt8} (h : isMode (d.toNat : Int)) : hasB sgB d = false := by
  have : d = 118 ∨ d = 109 ∨ d = 77 ∨ d = 86 := by
    rcases h with h | h | h | h
    · exact .inl (UInt8.toNat_inj.1 (by simpa using Int.ofNat.inj h))
    · exact .inr (.inl (UInt8.toNat_inj.1 (by simpa using Int.ofNat.inj h)))
    · exact .inr (.inr (.inl (UInt8.toNat_inj.1 (by simpa using Int.ofNat.inj h))))
    · exact .inr (.inr (.inr (UInt8.toNat_inj.1 (by simpa using Int.ofNat.inj h))))
  rcases this with rfl | rfl | rfl | rfl <;> rfl
set_option maxRecDepth 100000 in
set_option maxHeartbeats 4000000 in
theorem slash_mode (h : RdM w G s last r v) (hk : r.pos + 1 < s.size) (hp : r.pos ≤ 1000000) (hd : isMode (s[r.pos + 1].toNat : Int)) :
    Calls Tryz.prog 53 #[.pointer (some ⟨G, 0, none⟩)] w (NextPost w G s last v .none { r with pos := r.pos + 2, mode := s[r.pos + 1].toNat }) := by
  obtain ⟨c0, c1, c2, c4, c5, c6⟩ := h.cells
  have hG := blk_lt h
  have hal := below_alloc (Below.refl w.heap.size w) tok0
  unfold tok0 at hal
  have h1 := h.step (hal.block G hG)
  obtain ⟨d0, d1, d2, d4, d5, d6⟩ := h1.cells
  have f4 := blk_frozen h1 4
  have HPK := Lib.hid (peek_some h1 (k := r.pos + 1) hk)
  rw [show ((r.pos + 1 : Nat) : Int) = (r.pos : Int) + 1 by omega] at HPK
  have HS0 := Lib.hid (fun W => has_any sgB s[r.pos + 1] W)
  rw [mode_no hd] at HS0
  unfold sgB at HS0
  have HCN := Lib.hid (control_mode hd)
  have HOF := Lib.hid (of_mode hd)
  have HH := Lib.hid h
  clear h h1 hal
  obtain ⟨d, hdv⟩ : ∃ d : Int, (s[r.pos + 1].toNat : Int) = d := ⟨_, rfl⟩
  have sz : ∀ x, (w.setCell ⟨G, 4, none⟩ x).heap.size = w.heap.size := fun x => by simp [World.setCell]
  have HR4 := Lib.hid (HH.out.pos (r.pos + 2) (x := (r.pos : Int) + 2) (by omega))
  have HG4 := Lib.hid (pgrown_set (G := G) (pgrown_below (Below.refl w.heap.size w)) (p := ⟨G, 4, none⟩) (.inl rfl) (.int .i64 ((r.pos : Int) + 2)))
  rw [hdv] at HPK HS0 HCN HOF hd ⊢
  have HDV := Lib.hid hdv
  clear hdv
  have hm : ((d == 118) = true ∨ (d == 118) = false ∧ (d == 109) = true) ∨ ((d == 118) = false ∧ (d == 109) = false ∧ (d == 77) = true) ∨ ((d == 118) = false ∧ (d == 109) = false ∧ (d == 77) = false ∧ (d == 86) = true) := by
    rcases hd with rfl | rfl | rfl | rfl <;> decide
  clear hd
  have hX := below_alloc (Below.refl (w.setCell ⟨G, 4, none⟩ (.int .i64 ((r.pos : Int) + 2))).heap.size (w.setCell ⟨G, 4, none⟩ (.int .i64 ((r.pos : Int) + 2)))) tok0
  have hC0 := alloc_at (w.setCell ⟨G, 4, none⟩ (.int .i64 ((r.pos : Int) + 2))) tok0
  rw [sz] at hC0 hX
  have HX := Lib.hid (And.intro hX hC0)
  clear hX hC0
  have HLT := Lib.hid hG
  rcases hm with (m1 | ⟨m1, m2⟩) | ⟨m1, m2, m3⟩ | ⟨m1, m2, m3, m4⟩
  all_goals
    go_enter Tryz.func53, Tryz.ntmps53
    go_wp2_with (first
      | (go_at_call 67; refine HPK.out.mono ?_; rintro e w1 ⟨rfl, rfl⟩)
      | (go_at_call 54; refine (HS0.out _).mono ?_; rintro e w1 ⟨rfl, rfl⟩)
      | (go_at_call 68; refine (HCN.out _).mono ?_; rintro e w1 ⟨rfl, rfl⟩))
    refine (HOF.out _).mono ?_
    rintro e w1 ⟨rfl, hb1⟩
    have hC1 : w1.heap[w.heap.size]? = some tok0 := (hb1.block _ (by simp [World.setCell])).trans HX.out.2
    have hb2 : Below w.heap.size (w.setCell ⟨G, 4, none⟩ (.int .i64 ((r.pos : Int) + 2))) w1 := below_then HX.out.1 (by have := HX.out.1.size; rwa [sz] at this) (by simpa [tok0, World.setCell] using hb1)
    have hR1 := HR4.out.step (hb2.block G hG)
    obtain ⟨q0, _, _, _, _, _⟩ := hR1.cells
    have qf := blk_frozen hR1 0
    have hs1 : w.heap.size < w1.heap.size := blk_lt hC1
    have hGne : G ≠ w.heap.size := by omega
    have hG1 : G < w1.heap.size := by omega
    have hRA := hR1.md d
    have hgA := pgrown_set (G := G) (pgrown_then HG4.out hb2) (p := ⟨G, 0, none⟩) (.inl rfl) (.int .u8 d)
    have hCA : (w1.setCell ⟨G, 0, none⟩ (.int .u8 d)).heap[w.heap.size]? = some tok0 := (Below.heap_setCell _ ⟨G, 0, none⟩ _ _ (fun e => hGne e.symm)).trans hC1
    obtain ⟨t0, t1, t2, t3, t4, t5, t6, t7, t8, t9, t10, t11, t12, tf⟩ := tok0_cells hC1
    have H1 := Lib.hid (And.intro hRA (And.intro hgA hCA))
    clear hb1 hb2 hC1 hR1 hRA hgA hCA
    go_wp2
    show bodyPost _ _ _ _ _ (((w1.setCell ⟨G, 0, none⟩ (.int .u8 d)).setCells w.heap.size 0 (tkL 0 Pp.nd0 (.slice none 0 0) true)).alloc (.cells #[.int .u64 0, .int .u64 0, .int .u64 0, .int .u64 0] 32))
    have hR := H1.out.1.step (w' := (w1.setCell ⟨G, 0, none⟩ (.int .u8 d)).setCells w.heap.size 0 (tkL 0 Pp.nd0 (.slice none 0 0) true)) (setCells_far hGne _ _ _)
    have hD := tok_grown (Nat.le_refl _) (tkL 0 Pp.nd0 (.slice none 0 0) true) 0 H1.out.2.1
    have hB := setCells_blk H1.out.2.2 (tkL 0 Pp.nd0 (.slice none 0 0) true) rfl
    obtain ⟨W2, hW2⟩ : ∃ W2, (w1.setCell ⟨G, 0, none⟩ (.int .u8 d)).setCells w.heap.size 0 (tkL 0 Pp.nd0 (.slice none 0 0) true) = W2 := ⟨_, rfl⟩
    rw [hW2] at hR hD hB ⊢
    clear hW2
    have hb4 := below_alloc (Below.refl W2.heap.size W2) (.cells #[.int .u64 0, .int .u64 0, .int .u64 0, .int .u64 0] 32)
    have hR' := hR.step (hb4.block G (blk_lt hR))
    have hD' := pgrown_then hD (hb4.mono hD.size)
    have hB' := (hb4.block _ (blk_lt hB)).trans hB
    obtain ⟨W3, hW3⟩ : ∃ W3, W2.alloc (.cells #[.int .u64 0, .int .u64 0, .int .u64 0, .int .u64 0] 32) = W3 := ⟨_, rfl⟩
    rw [hW3] at hR' hD' hB' ⊢
    clear hW3 hb4
    obtain ⟨k0, k1, k2, k3, k4, k5, k6, k7, k8, k9, k10, k11, k12⟩ := tk_read hB'
    simp only [Pp.nd0] at k0 k1 k2 k3 k4 k5 k6 k7 k8 k9 k10 k11 k12
    refine bodyPost_ret (by simp [results, Tryz.results53, go_sem, k0, k1, k2, k3, k4, k5, k6, k7, k8, k9, k10, k11, k12]; try rfl) rfl ?_
    exact ⟨rfl, hR', hD'⟩
def tkS : Pp.Tk → Int
  | .sign c => c.toNat
  | _ => 0
def tkD : Pp.Tk → Pp.Nd
  | .lit c => Pp.lit c
  | _ => Pp.nd0
def tkN : Pp.Tk → Bool
  | .none => true
  | _ => false
theorem tkV_eq (t : Pp.Tk) : tkV t = tokV (tkS t) (tkD t) (.slice none 0 0) (tkN t) := by cases t <;> rfl
theorem pgrown_trans {X W : World} (h : w.grownBy X (some G)) (k : X.grownBy W (some G)) : w.grownBy W (some G) :=
  ⟨k.os.trans h.os, k.tape.trans h.tape, k.output.trans h.output, Nat.le_trans h.size k.size, fun b hb hne => (k.block b (Nat.lt_of_lt_of_le hb h.size) hne).trans (h.block b hb hne)⟩
set_option maxRecDepth 100000 in
set_option maxHeartbeats 2000000 in
theorem next_bs (h : RdM w G s last r v) (hk : r.pos < s.size) (hc : s[r.pos] = 92) {t : Pp.Tk} {r' : Pp.Rs} (hsl : ∀ W, RdM W G s last r v → Calls Tryz.prog 53 #[.pointer (some ⟨G, 0, none⟩)] W (NextPost W G s last v t r')) :
    Calls Tryz.prog 38 #[.pointer (some ⟨G, 0, none⟩)] w (NextPost w G s last v t r') := by
  obtain ⟨c0, c1, c2, c4, c5, c6⟩ := h.cells
  have hG := blk_lt h
  have hal := below_alloc (Below.refl w.heap.size w) tok0
  unfold tok0 at hal
  have h1 := h.step (hal.block G hG)
  obtain ⟨d0, d1, d2, d4, d5, d6⟩ := h1.cells
  have f4 := blk_frozen h1 4
  have h2 : (r.pos : Int) < (s.size : Int) := by omega
  have b92 : ((s[r.pos].toNat : Int) == 92) = true := by rw [hc]; rfl
  have hA := (below_alloc (Below.refl w.heap.size w) tok0).drew
  have HSL := Lib.hid (hsl _ (h.step (hA.block G hG)))
  have hC0 : (w.alloc tok0).drew.heap[w.heap.size]? = some tok0 := alloc_at w tok0
  have HC0 := Lib.hid (And.intro hC0 (pgrown_below (g := some G) hA))
  have hsz : (w.alloc tok0).drew.heap.size = w.heap.size + 1 := by simp
  have HSZ := Lib.hid hsz
  unfold tok0 at HSL
  clear h h1 hal hsl hA hC0 hsz hc
  go_enter Tryz.func38, Tryz.ntmps38
  go_wp2
  go_region_held3 (fun V => V.cell? ⟨G, 2, none⟩ = some (.string s) ∧ V.cell? ⟨G, 4, none⟩ = some (.int .i64 r.pos)) (first | exact ⟨d2, d4⟩ | go_keep) (fail)
  go_wp2_with fail
  refine HSL.out.mono ?_
  rintro e w1 ⟨rfl, hr1, hg1⟩
  have hgw := pgrown_trans HC0.out.2 (by simpa only [tok0] using hg1)
  have hC1 : w1.heap[w.heap.size]? = some tok0 := ((by simpa only [tok0] using hg1 : (w.alloc tok0).drew.grownBy w1 (some G)).block _ (by rw [HSZ.out]; omega) (fun e => by have := Option.some.inj e; omega)).trans HC0.out.1
  rw [tkV_eq]
  obtain ⟨S, hS⟩ : ∃ S, tkS t = S := ⟨_, rfl⟩
  obtain ⟨D, hD⟩ : ∃ D, tkD t = D := ⟨_, rfl⟩
  obtain ⟨N, hN⟩ : ∃ N, tkN t = N := ⟨_, rfl⟩
  have HT := Lib.hid (tkV_eq t)
  rw [hS, hD, hN] at HT ⊢
  clear hS hD hN
  obtain ⟨t0, t1, t2, t3, t4, t5, t6, t7, t8, t9, t10, t11, t12, tf⟩ := tok0_cells hC1
  have H1 := Lib.hid (And.intro hr1 (And.intro hgw hC1))
  clear hr1 hg1 hgw hC1
  unfold tokV
  go_wp2
  show bodyPost _ _ _ _ _ (w1.setCells w.heap.size 0 (tkL S D (.slice none 0 0) N))
  have hR := H1.out.1.step (w' := w1.setCells w.heap.size 0 (tkL S D (.slice none 0 0) N)) (setCells_far (by omega) _ _ _)
  have hD := tok_grown (Nat.le_refl _) (tkL S D (.slice none 0 0) N) 0 H1.out.2.1
  have hB := setCells_blk H1.out.2.2 (tkL S D (.slice none 0 0) N) rfl
  obtain ⟨W2, hW2⟩ : ∃ W2, w1.setCells w.heap.size 0 (tkL S D (.slice none 0 0) N) = W2 := ⟨_, rfl⟩
  rw [hW2] at hR hD hB ⊢
  clear hW2
  obtain ⟨k0, k1, k2, k3, k4, k5, k6, k7, k8, k9, k10, k11, k12⟩ := tk_read hB
  refine bodyPost_ret (by simp [results, Tryz.results38, go_sem, k0, k1, k2, k3, k4, k5, k6, k7, k8, k9, k10, k11, k12]; try rfl) rfl ?_
  exact ⟨congrArg Ending.returned HT.out.symm, hR, hD⟩
end
end Go.Proofs.YtjdlbejmdjcajaaGreat
