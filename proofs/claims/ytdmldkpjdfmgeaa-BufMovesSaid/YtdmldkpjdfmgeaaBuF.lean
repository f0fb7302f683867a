/- undo.clone, walked. -/
import Derived.Test.YtdmldkpjdfmgeaaBuA
set_option linter.unusedVariables false
set_option linter.unusedSimpArgs false
namespace Go.Proofs.Ytdmldkpjdfmgeaa
open Go.RowKit Go.Shelf Go.Proofs.YtdmldkpjdfmgeaaW.PrintWords Go.Proofs.YtdmldkpjdfmgeaaW.PrintLast

set_option maxRecDepth 100000 in
set_option maxHeartbeats 1000000 in
theorem clone_any {w : World} {F : Nat → Prop} {v : Value} {ds : List Dl} (h : Dr w F v ds) (hn : ds.length ≤ 1000000000) (hb : ∀ d ∈ ds, d.old.length ≤ 1000000000 ∧ d.new.length ≤ 1000000000) :
    Calls Try.prog 49 #[v] w (DrPost w ds) := by
  obtain ⟨L, h⟩ := h
  have hrow := h.row
  rw [h.len] at hrow
  have hcl := dcl_any w hrow (dflat_one h.one) (by omega) (by unfold maxLen; omega)
  have HCL := Lib.hid hcl
  have HD := Lib.hid h
  have HB := Lib.hid hb
  clear hcl h hrow hb
  go_enter Try.func49, Try.ntmps49
  go_wp2_with fail
  go_at_call 64
  refine HCL.out.mono ?_
  rintro e w1 ⟨v1, rfl, hr1, hb1⟩
  have hv1 : ∃ A c, v1 = .slice A ds.length c ∧ (0 < ds.length → ∃ g, A = some ⟨g, 0, none⟩) := by
    rcases hr1.2 with ⟨rfl, h0⟩ | ⟨g, cap, cur, rfl, _⟩
    · exact ⟨none, 0, by rw [h0], fun h => absurd h (by omega)⟩
    · exact ⟨_, _, rfl, fun _ => ⟨g, rfl⟩⟩
  obtain ⟨A, c, rfl, hA⟩ := hv1
  have hst : Half w.heap.size w w1 (.slice A ds.length c) L ds 0 := ⟨L, hr1, HD.out.len, hb1, fun k x d hx hd => ⟨(HD.out.els k x d hx hd).1, fun hk => absurd hk (by omega), fun _ => hx⟩⟩
  have HST := Lib.hid hst
  have HA := Lib.hid hA
  clear hst hr1 hb1 hA
  go_wp2
  go_loopw [9] (fun v9 wr => ∃ j : Nat, v9 = .int .i64 j ∧ j ≤ ds.length ∧ Half w.heap.size w wr (.slice A ds.length c) L ds j) (fun v9 _ => ds.length - (intOf v9).toNat)
  case atStart => exact ⟨0, rfl, by omega, HST.out⟩
  case round =>
    obtain ⟨j, rfl, hj, L', hrow, hlen, hbl, hels⟩ := hrel
    by_cases hlt : j < ds.length
    · obtain ⟨g, rfl⟩ := HA.out (by omega)
      obtain ⟨x, hx⟩ : ∃ x, L'[j]? = some x := ⟨_, List.getElem?_eq_getElem (by omega)⟩
      obtain ⟨d, hd⟩ : ∃ d, ds[j]? = some d := ⟨_, List.getElem?_eq_getElem (by omega)⟩
      obtain ⟨_, _, hxL⟩ := hels j x d hx hd
      obtain ⟨_, ho, hn'⟩ := HD.out.els j x d (hxL (Nat.le_refl _)) hd
      have ho2 := ho.step hbl.size (fun b hb _ => hbl.block b hb)
      have hn2 := hn'.step hbl.size (fun b hb _ => hbl.block b hb)
      have hbb := HB.out d (List.mem_of_getElem? hd)
      have hgl := owns_lt hrow g rfl
      have hg0 : w.heap.size ≤ g := by
        rcases hrow.2 with ⟨hv, _⟩ | ⟨g', cap, cur, hv, hb, _⟩
        · cases hv
        · injection hv with ha _ _
          injection ha with ha
          injection ha with ha _ _
          rw [ha]
          exact hb
      have cc : ∀ i u, (dflat L')[i]? = some u → wr.cell? ⟨g, i, none⟩ = some u := fun i u hu => by
        have := hrow.cells (g := g) rfl i u hu
        rw [Addr.add_lit, Nat.zero_add] at this
        exact this
      have c1 := cc (j * 3 + 1) x.vo (by rw [dflat_at (j := 1) hx (by omega)]; rfl)
      have c2 := cc (j * 3 + 2) x.vn (by rw [dflat_at (j := 2) hx (by omega)]; rfl)
      have fz : ∀ i, wr.frozen? ⟨g, i, none⟩ = false := fun i => by
        rcases hrow.2 with ⟨hv, _⟩ | ⟨g', cap, cur, hv, hb, hg, _⟩
        · cases hv
        · injection hv with ha _ _
          injection ha with ha
          injection ha with ha _ _
          subst ha
          exact blk_frozen hg i
      have f1 := fz (j * 3 + 1)
      have f2 := fz (j * 3 + 2)
      have hlt' : (j : Int) < ds.length := by omega
      have hC1 : ∀ W, Below wr.heap.size wr W → Calls Try.prog 29 #[x.vo] W (OwnPost W.heap.size W d.old) := fun W hW => cloL (ho2.step hW.size fun b hb _ => hW.block b hb) (by omega)
      have hC2 : ∀ W, Below wr.heap.size wr W → Calls Try.prog 29 #[x.vn] W (OwnPost W.heap.size W d.new) := fun W hW => cloL (hn2.step hW.size fun b hb _ => hW.block b hb) (by omega)
      have HC1 := Lib.hid hC1
      have HC2 := Lib.hid hC2
      obtain ⟨vo, hvo⟩ : ∃ vo, x.vo = vo := ⟨_, rfl⟩
      obtain ⟨vn, hvn⟩ : ∃ vn, x.vn = vn := ⟨_, rfl⟩
      rw [hvo] at c1 HC1
      rw [hvn] at c2 HC2
      have HALL := Lib.hid (And.intro hrow (And.intro hlen (And.intro hbl hels)))
      have HXD := Lib.hid (And.intro hx hd)
      clear hrow hlen hbl hels hx hd hxL ho hn' ho2 hn2 hC1 hC2 cc fz hvo hvn hbb
      go_wp2
      have HBC := Lib.hid ((Below.refl wr.heap.size wr).drew)
      go_region_law (first | (go_simp; go_at_call 29; refine (HC1.out _ HBC.out).mono ?_; rintro e w3 ⟨v3, rfl, h31, h32, h33⟩; have hz : g < _ := Nat.lt_of_lt_of_le hgl HBC.out.size; have c1 := (World.cell?_of_block (a := ⟨g, j * 3 + 1, none⟩) (h33.block g hz)).trans c1; have c2 := (World.cell?_of_block (a := ⟨g, j * 3 + 2, none⟩) (h33.block g hz)).trans c2; have f1 := (World.frozen?_of_block (a := ⟨g, j * 3 + 1, none⟩) (h33.block g hz)).trans f1; have f2 := (World.frozen?_of_block (a := ⟨g, j * 3 + 2, none⟩) (h33.block g hz)).trans f2; have HBC := Lib.hid (below_then HBC.out HBC.out.size h33); have HO1 := Lib.hid (And.intro h31 (And.intro h32 h33)); obtain ⟨A1, k1, hv, _⟩ := h31.slice; subst hv; clear h31 h32 h33 hz) | (go_simp; go_at_call 29; refine (HC2.out _ HBC.out).mono ?_; rintro e w3 ⟨v3, rfl, h31, h32, h33⟩; have hz : g < _ := Nat.lt_of_lt_of_le hgl HBC.out.size; have c1 := (World.cell?_of_block (a := ⟨g, j * 3 + 1, none⟩) (h33.block g hz)).trans c1; have c2 := (World.cell?_of_block (a := ⟨g, j * 3 + 2, none⟩) (h33.block g hz)).trans c2; have f1 := (World.frozen?_of_block (a := ⟨g, j * 3 + 1, none⟩) (h33.block g hz)).trans f1; have f2 := (World.frozen?_of_block (a := ⟨g, j * 3 + 2, none⟩) (h33.block g hz)).trans f2; have HBC := Lib.hid (below_then HBC.out HBC.out.size h33); have HO2 := Lib.hid (And.intro h31 (And.intro h32 h33)); obtain ⟨A2, k2, hv, _⟩ := h31.slice; subst hv; clear h31 h32 h33 hz))
      all_goals
        have hnx : Half w.heap.size w ((w3.setCell ⟨g, j * 3 + 1, none⟩ (.slice A1 (cS d.old).length k1)).setCell ⟨g, j * 3 + 2, none⟩ (.slice A2 (cS d.new).length k2)) (.slice (some ⟨g, 0, none⟩) ds.length c) L ds (j + 1) := by
          first
          | exact half_next HALL.out.2.2.1.size hg0 HALL.out.1 HALL.out.2.1 HALL.out.2.2.1 HALL.out.2.2.2 HXD.out.1 HXD.out.2 HBC.out (HO1.out.1.step fun b hb => HO2.out.2.2.block b (HO1.out.1.lt b hb)) (fun b hb => Nat.le_trans (Nat.le_refl _) (HO1.out.2.1 b hb)) HO2.out.1 (fun b hb => Nat.le_trans HO1.out.2.2.size (HO2.out.2.1 b hb))
          | exact half_next HALL.out.2.2.1.size hg0 HALL.out.1 HALL.out.2.1 HALL.out.2.2.1 HALL.out.2.2.2 HXD.out.1 HXD.out.2 HBC.out HO1.out.1 (fun b hb => Nat.le_trans HO2.out.2.2.size (HO1.out.2.1 b hb)) (HO2.out.1.step fun b hb => HO1.out.2.2.block b (HO2.out.1.lt b hb)) (fun b hb => Nat.le_trans (Nat.le_refl _) (HO2.out.2.1 b hb))
        have HNX := Lib.hid hnx
        clear hnx c1 c2 f1 f2
        go_wp2
        go_roundw
        case rel => exact ⟨j + 1, by go_num, by omega, HNX.out⟩
        case measure => simp [intOf]; omega
    · obtain rfl : j = ds.length := by omega
      have hdn := half_done (v := .slice A ds.length c) ⟨L', hrow, hlen, hbl, hels⟩
      have HDN := Lib.hid hdn
      have HBL := Lib.hid hbl
      clear hrow hlen hels hbl hdn
      go_wp2
      go_ret
      exact ⟨_, rfl, HDN.out, HBL.out⟩
end Go.Proofs.Ytdmldkpjdfmgeaa
