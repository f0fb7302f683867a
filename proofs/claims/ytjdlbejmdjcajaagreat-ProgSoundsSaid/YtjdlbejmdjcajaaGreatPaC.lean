/- pat's slash and next at a backslash: walked. -/
import Derived.Test.YtjdlbejmdjcajaaGreatPaB
set_option linter.unusedVariables false
set_option linter.unusedSimpArgs false
namespace Go.Proofs.YtjdlbejmdjcajaaGreat
open Go.RowKit Go.Shelf Go.Maps Go.Proofs.YtjdlbejmdjcajaaGreatW.PrintWords Go.Proofs.YtjdlbejmdjcajaaGreatW.PrintLast

section
variable {w w' : World} {G : Nat} {s last : ByteArray} {r : Pp.Rs} {v : Value}
set_option maxRecDepth 100000 in
set_option maxHeartbeats 2000000 in
theorem slash_sign (h : RdM w G s last r v) (hk : r.pos + 1 < s.size) (hp : r.pos ≤ 1000000) (hd : hasB sgB s[r.pos + 1] = true) :
    Calls Tryz.prog 53 #[.pointer (some ⟨G, 0, none⟩)] w (NextPost w G s last v (if hasB (plainB r.mode) s[r.pos + 1] then .lit s[r.pos + 1] else .sign s[r.pos + 1]) { r with pos := r.pos + 2 }) := by
  obtain ⟨c0, c1, c2, c4, c5, c6⟩ := h.cells
  have hG := blk_lt h
  have hal := below_alloc (Below.refl w.heap.size w) tok0
  unfold tok0 at hal
  have h1 := h.step (hal.block G hG)
  obtain ⟨d0, d1, d2, d4, d5, d6⟩ := h1.cells
  have f4 := blk_frozen h1 4
  have HPK := Lib.hid (peek_some h1 (k := r.pos + 1) hk)
  rw [show ((r.pos + 1 : Nat) : Int) = (r.pos : Int) + 1 by omega] at HPK
  have HS0 := Lib.hid (fun W => has_any sgB s[r.pos + 1] W)
  rw [hd] at HS0
  unfold sgB at HS0
  have HP := Lib.hid (plain_any r.mode)
  have HS := Lib.hid (fun W => has_any (plainB r.mode) s[r.pos + 1] W)
  have HL := Lib.hid (literal_any s[r.pos + 1])
  simp only [tkV, tokV, Pp.lit, Pp.nd0] at HL
  have HH := Lib.hid h
  clear h h1 hal hd
  have sz : ∀ x, (w.setCell ⟨G, 4, none⟩ x).heap.size = w.heap.size := fun x => by simp [World.setCell]
  have HR4 := Lib.hid (HH.out.pos (r.pos + 2) (x := (r.pos : Int) + 2) (by omega))
  have HG4 := Lib.hid (pgrown_set (G := G) (pgrown_below (Below.refl w.heap.size w)) (p := ⟨G, 4, none⟩) (.inl rfl) (.int .i64 ((r.pos : Int) + 2)))
  cases hh : hasB (plainB r.mode) s[r.pos + 1]
  all_goals
    rw [hh] at HS
    go_enter Tryz.func53, Tryz.ntmps53
    go_wp2_with (first
      | (go_at_call 67; refine HPK.out.mono ?_; rintro e w1 ⟨rfl, rfl⟩)
      | (go_at_call 54; refine (HS0.out _).mono ?_; rintro e w1 ⟨rfl, rfl⟩)
      | (go_at_call 55; refine (HP.out _).mono ?_; rintro e w1 ⟨rfl, rfl⟩)
      | (go_at_call 54; refine (HS.out _).mono ?_; rintro e w1 ⟨rfl, rfl⟩))
  · have hA := below_alloc (Below.refl (w.setCell ⟨G, 4, none⟩ (.int .i64 ((r.pos : Int) + 2))).heap.size (w.setCell ⟨G, 4, none⟩ (.int .i64 ((r.pos : Int) + 2)))) (.cells (tkL (s[r.pos + 1].toNat : Int) Pp.nd0 (.slice none 0 0) false).toArray 91)
    rw [sz] at hA
    refine bodyPost_ret (by simp [results, Tryz.results53, go_sem]; try rfl) rfl ?_
    exact ⟨rfl, HR4.out.step (hA.block G hG), pgrown_then HG4.out hA⟩
  · have hX := below_alloc (Below.refl (w.setCell ⟨G, 4, none⟩ (.int .i64 ((r.pos : Int) + 2))).heap.size (w.setCell ⟨G, 4, none⟩ (.int .i64 ((r.pos : Int) + 2)))) tok0
    have hC0 := alloc_at (w.setCell ⟨G, 4, none⟩ (.int .i64 ((r.pos : Int) + 2))) tok0
    rw [sz] at hC0 hX
    have HX := Lib.hid (And.intro hX hC0)
    clear hX hC0
    refine (HL.out _).mono ?_
    rintro e w1 ⟨rfl, hb1⟩
    have hC1 : w1.heap[w.heap.size]? = some tok0 := (hb1.block _ (by simp [World.setCell])).trans HX.out.2
    have hb2 : Below w.heap.size (w.setCell ⟨G, 4, none⟩ (.int .i64 ((r.pos : Int) + 2))) w1 := below_then HX.out.1 (by have := HX.out.1.size; rwa [sz] at this) (by simpa [tok0, World.setCell] using hb1)
    obtain ⟨t0, t1, t2, t3, t4, t5, t6, t7, t8, t9, t10, t11, t12, tf⟩ := tok0_cells hC1
    have HC1 := Lib.hid hC1
    have H1 := Lib.hid (And.intro (HR4.out.step (hb2.block G hG)) (pgrown_then HG4.out hb2))
    clear hb1 hb2 hC1
    go_wp2
    show bodyPost _ _ _ _ _ (w1.setCells w.heap.size 0 (tkL 0 (Pp.lit s[r.pos + 1]) (.slice none 0 0) false))
    have hR := H1.out.1.step (w' := w1.setCells w.heap.size 0 (tkL 0 (Pp.lit s[r.pos + 1]) (.slice none 0 0) false)) (setCells_far (by omega) _ _ _)
    have hD := tok_grown (Nat.le_refl _) (tkL 0 (Pp.lit s[r.pos + 1]) (.slice none 0 0) false) 0 H1.out.2
    have hK := tk_cells (HC1.out) 0 (Pp.lit s[r.pos + 1]) (.slice none 0 0) false
    obtain ⟨W2, hW2⟩ : ∃ W2, w1.setCells w.heap.size 0 (tkL 0 (Pp.lit s[r.pos + 1]) (.slice none 0 0) false) = W2 := ⟨_, rfl⟩
    rw [hW2] at hR hD hK ⊢
    clear hW2
    obtain ⟨k0, k1, k2, k3, k4, k5, k6, k7, k8, k9, k10, k11, k12⟩ := hK
    simp only [Pp.lit, Pp.nd0] at k0 k1 k2 k3 k4 k5 k6 k7 k8 k9 k10 k11 k12
    refine bodyPost_ret (by simp [results, Tryz.results53, go_sem, k0, k1, k2, k3, k4, k5, k6, k7, k8, k9, k10, k11, k12]; try rfl) rfl ?_
    exact ⟨rfl, hR, hD⟩

end
end Go.Proofs.YtjdlbejmdjcajaaGreat
