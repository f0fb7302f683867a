/- buf's Put and change, walked. -/
import Derived.Test.YtdhemdeapphfoaaGreatDoorBvAx
set_option linter.unusedVariables false
set_option linter.unusedSimpArgs false
namespace Go.Proofs.YtdhemdeapphfoaaGreatDoor
open Go.RowKit Go.Shelf Go.Maps Go.Proofs.YtdhemdeapphfoaaGreatDoorW.PrintWords Go.Proofs.YtdhemdeapphfoaaGreatDoorW.PrintLast

section
variable {N0 : Nat} {w0 : Base} {w w' : World} {col : Nat → Nat} {B T p1 U : Nat} {s : Bs} {vl vm vo : Value} {L : List DV}
theorem Bw.drewN (h : Bw N0 w0 w col B s T p1 U vl vm vo L) (n : Nat) : Bw N0 w0 (w.drewN n) col B s T p1 U vl vm vo L where
  box := h.box
  cB := h.cB
  tree := (loc_tree _ _).step h.tree (Nat.le_refl _) fun _ _ _ => rfl
  mar := (loc_mk _ _ _).step h.mar (Nat.le_refl _) fun _ _ _ => rfl
  smk := (loc_sm _ _ _ _).step h.smk (Nat.le_refl _) fun _ _ _ => rfl
  undo := (loc_ut _ _ _).step h.undo (Nat.le_refl _) fun _ _ _ => rfl
  opr := (loc_or _ _).step h.opr (Nat.le_refl _) fun _ _ _ => rfl
  ope := (loc_oe _ _).step h.ope (Nat.le_refl _) fun _ _ _ => rfl
  sls := (loc_ls _ _).step h.sls (Nat.le_refl _) fun _ _ _ => rfl
  new := h.new
  prot := h.prot
  below := ⟨h.below.os, h.below.tape, h.below.output, h.below.size, h.below.block⟩
  le := h.le
theorem Bw.hB (h : Bw N0 w0 w col B s T p1 U vl vm vo L) : N0 ≤ B := by
  rcases Nat.lt_or_ge B N0 with hlt | hge
  · have := h.new B hlt
    rw [h.cB] at this
    cases this
  · exact hge
/-- the cursor -/
theorem Bw.setCur (h : Bw N0 w0 w col B s T p1 U vl vm vo L) (c : Int) : Bw N0 w0 (w.setCell ⟨B, 7, none⟩ (.int .i64 c)) col B { s with cur := c } T p1 U vl vm vo L :=
  h.onBox (by simp [World.setCell]) ((Below.refl N0 w).setCell (p := ⟨B, 7, none⟩) h.hB _) (fun b hb => Below.heap_setCell _ _ _ _ hb) (by rw [blk_set h.box]; rfl) h.tree h.mar h.smk h.undo h.opr h.ope h.sls
/-- the open changes -/
theorem Bw.setOpn (h : Bw N0 w0 w col B s T p1 U vl vm vo L) {v : Value} {L' : List DV} {ds : List Dl} (h5 : Or w (fun b => col b = 5) v L') (h8 : Oe w (fun b => col b = 8) L' ds) : Bw N0 w0 (w.setCell ⟨B, 6, none⟩ v) col B { s with opn := ds } T p1 U vl vm v L' :=
  h.onBox (by simp [World.setCell]) ((Below.refl N0 w).setCell (p := ⟨B, 6, none⟩) h.hB _) (fun b hb => Below.heap_setCell _ _ _ _ hb) (by rw [blk_set h.box]; rfl) h.tree h.mar h.smk h.undo h5 h8 h.sls

set_option maxRecDepth 100000 in
theorem put_bw (h : Bw N0 w0 w col B s T p1 U vl vm vo L) (n : Int) : Calls Tryz.prog 9 #[.pointer (some ⟨B, 0, none⟩), .int .i64 n] w fun e w' => e = .returned (.tuple #[]) ∧ Bw N0 w0 w' col B { s with cur := min (max n 1) s.ls.length } T p1 U vl vm vo L ∧ w.heap.size ≤ w'.heap.size ∧ ∀ b, b ≠ B → w'.heap[b]? = w.heap[b]? := by
  have k0 : w.cell? ⟨B, 0, none⟩ = some (.pointer (some ⟨T, 0, none⟩)) := by rw [blk_cell h.box]; rfl
  have k7 : w.cell? ⟨B, 7, none⟩ = some (.int .i64 s.cur) := by rw [blk_cell h.box]; rfl
  have f7 : w.frozen? ⟨B, 7, none⟩ = false := blk_frozen h.box 7
  have HL := Lib.hid (len_is h.tree)
  have HH := Lib.hid h
  clear h
  go_enter Tryz.func9, Tryz.ntmps9
  go_wp2_with (go_at_call 22; refine HL.out.mono ?_; rintro e w3 ⟨rfl, k, rfl⟩)
  all_goals
    go_end0
    refine ⟨rfl, ?_⟩
    have h9 := (HH.out.drewN k).setCur (min (max n 1) s.ls.length)
    exact ⟨h9, Nat.le_of_eq (by simp [World.setCell]), fun b hb => Below.heap_setCell _ _ _ _ hb⟩

/-- a change more is open -/
theorem Bw.onOpn (h : Bw N0 w0 w col B s T p1 U vl vm vo L) (hc : Chg (fun b => col b = 5 ∨ w.heap.size ≤ b) w w') {v : Value} {L' : List DV} {ds : List Dl} (h5 : Or w' (fun b => col b = 5 ∨ w.heap.size ≤ b) v L') (h8 : Oe w (fun b => col b = 8) L' ds) :
    Bw N0 w0 (w'.setCell ⟨B, 6, none⟩ v) (recol col w.heap.size 5) B { s with opn := ds } T p1 U vl vm v L' := by
  have hcB := h.cB' 5
  have go : ∀ {X : World → (Nat → Prop) → Prop}, Loc X → ∀ {j : Nat}, 0 ≠ j → X w' (fun b => recol col w.heap.size 5 b = j) → X (w'.setCell ⟨B, 6, none⟩ v) (fun b => recol col w.heap.size 5 b = j) := fun hX _ hj hx =>
    hX.step hx (Nat.le_of_eq (by simp [World.setCell])) fun b _ he => Below.heap_setCell _ _ _ _ fun e => by
      rw [e, hcB] at he
      exact hj he
  exact {
    box := by rw [blk_set ((h.box' (by decide) hc).trans h.box)]; rfl
    cB := hcB
    tree := go (loc_tree _ _) (by decide) ((loc_tree _ _).other h.tree (by decide) hc)
    mar := go (loc_mk _ _ _) (by decide) ((loc_mk _ _ _).other h.mar (by decide) hc)
    smk := go (loc_sm _ _ _ _) (by decide) ((loc_sm _ _ _ _).other h.smk (by decide) hc)
    undo := go (loc_ut _ _ _) (by decide) ((loc_ut _ _ _).other h.undo (by decide) hc)
    opr := go (loc_or _ _) (by decide) ((loc_or v L').own (w := w) h5)
    ope := go (loc_oe _ _) (by decide) ((loc_oe _ _).other h8 (by decide) hc)
    sls := go (loc_ls _ _) (by decide) ((loc_ls _ _).other h.sls (by decide) hc)
    new := h.new' 5
    prot := fun b hp => by
      obtain ⟨h1, h2, h3⟩ := h.prot' (by decide) hc b hp
      refine ⟨by simpa [World.setCell] using h1, h2, (Below.heap_setCell _ _ _ _ fun e => ?_).trans h3⟩
      rw [e, hcB] at h2
      cases h2
    below := (h.below' (by decide) hc).setCell (p := ⟨B, 6, none⟩) h.hB v
    le := Nat.le_trans h.le (Nat.le_trans hc.size (Nat.le_of_eq (by simp [World.setCell]))) }

def changeS (s : Bs) (i k : Nat) (xs : List ByteArray) : Bs := { s with ls := Bt.splice s.ls i k xs, opn := s.opn ++ [⟨i, (s.ls.drop i).take k, xs⟩] }

set_option maxRecDepth 100000 in
set_option maxHeartbeats 1000000 in
theorem change_any (h : Bw N0 w0 w col B s T p1 U vl vm vo L) {v : Value} {xs : List ByteArray} (hv : Ls w (fun b => col b = 8) v xs) {i k : Nat} {a : Int} (ha : a = i + 1) (hi : i + k ≤ s.ls.length) (hl : s.ls.length + xs.length + 2 ≤ 1000000000) (hx : ∀ x ∈ xs, x.size ≤ 1000000000) (ho : s.opn.length ≤ 1000000) :
    Calls Tryz.prog 82 #[.pointer (some ⟨B, 0, none⟩), .int .i64 a, .int .i64 k, v] w (BfPost N0 w0 B (changeS s i k xs) (.tuple #[])) := by
  have k0 : w.cell? ⟨B, 0, none⟩ = some (.pointer (some ⟨T, 0, none⟩)) := by rw [blk_cell h.box]; rfl
  have hp := Part_any h.tree hi (by omega)
  obtain ⟨Av, cv, hvs, _⟩ := id hv
  subst hvs
  have HP := Lib.hid hp
  have HH := Lib.hid (And.intro h hv)
  have HX := Lib.hid hx
  have HW := Lib.hid (show IntKind.i64.wrap (a - 1) = (i : Int) by rw [IntKind.wrap_i64]; omega)
  have haw : a - 1 = (i : Int) := by omega
  obtain ⟨i0, hi0, hz0, hz1, hz2⟩ := info_parts infoD
  have HINF := Lib.hid (And.intro hi0 (And.intro hz0 (And.intro hz1 hz2)))
  clear hp h hv hx hi0 hz0 hz1 hz2
  subst ha
  go_enter Tryz.func82, Tryz.ntmps82
  go_wp2_with fail
  refine HP.out.mono ?_
  rintro e w3 ⟨v3, rfl, h31, h32, h33⟩
  obtain ⟨A3, c3, hv3, _⟩ := h31.slice
  subst hv3
  have b3 := HH.out.1.onNew 8 (by decide) h33
  have o3 := (loc_ls _ _).fresh (col := col) (i := 8) (n := w.heap.size) ((Ls.of_rw h31).wide fun b _ hb => h32 b hb)
  have p3 := (loc_ls _ _).keepNew (i := 8) HH.out.2 h33
  have hs3 := Splice_any (F := fun b => recol col w.heap.size 8 b = 1 ∨ w3.heap.size ≤ b) ((loc_tree _ _).open b3.tree) p3 (fun b hb he => by omega) hi hl (fun b hb => .inr hb) HX.out
  have k0' : w3.cell? ⟨B, 0, none⟩ = some (.pointer (some ⟨T, 0, none⟩)) := by rw [blk_cell b3.box]; rfl
  have H3 := Lib.hid (And.intro b3 (And.intro o3 p3))
  have HS := Lib.hid hs3
  clear b3 o3 p3 hs3 h31 h32 h33
  go_wp2_with fail
  go_at_call 124
  refine HS.out.mono ?_
  rintro e w4 ⟨rfl, h41, h42⟩
  have b4 := H3.out.1.onTree h42 h41
  have o4 := (loc_ls _ _).other H3.out.2.1 (by decide) h42
  have p4 := (loc_ls _ _).other H3.out.2.2 (by decide) h42
  have k6 : w4.cell? ⟨B, 6, none⟩ = some vo := by rw [blk_cell b4.box]; rfl
  have ba := fun o => b4.onNew 5 (by decide) (below_alloc (Below.refl _ w4) o)
  have hrow := fun o => (ba o).opr.1
  have fz : ∀ i, w4.frozen? ⟨B, i, none⟩ = false := blk_frozen b4.box
  have hBlt := blk_lt b4.box
  have hLlen := b4.ope.1
  have hne : vo.ownBlock ≠ some B := fun e => by
    have h9 := b4.opr.2 B e
    exact absurd (Eq.trans (Eq.symm b4.cB) h9) (by decide)
  have HB4 := Lib.hid (And.intro b4 (And.intro o4 p4))
  have HBA := Lib.hid ba
  have HROW := Lib.hid hrow
  have hkeep : ∀ (o : Obj) (w5 : World), (w4.alloc o).grownBy w5 vo.ownBlock → w5.heap[B]? = w4.heap[B]? := fun o w5 hg => (hg.block B (by simp; omega) (fun e => hne e.symm)).trans (Below.heap_alloc w4 o B hBlt)
  have HK := Lib.hid hkeep
  clear b4 o4 p4 ba hrow hkeep h41 h42 k0 k0'
  have hLo : L.length ≤ 1000000 := by rw [hLlen]; exact ho
  go_wp2_with (at_builtin; refine wpList_append_own_at _ rfl _ _ 43 rfl 0 178 i0 _ 3 56 Tryz.underlying43 HINF.out.1 HINF.out.2.1 HINF.out.2.2.1 HINF.out.2.2.2 rfl (by decide) vo L.length (dflat L) rfl (HROW.out _) ⟨w4.heap.size, 0, none⟩ 1 1 [.int .i64 i, .slice A3 (cS ((s.ls.drop i).take k)).length c3, .slice Av xs.length cv] rfl rfl ?hcell ?hone (by unfold maxLen; omega) (by omega) (by simp) ?_; rotate_left 2; intro v1 w5 hr1 hg1 _ ha1; have hk := HK.out _ w5 hg1; have a6 := (World.cell?_of_block (a := ⟨B, 6, none⟩) hk).trans k6; have f6 := (World.frozen?_of_block (a := ⟨B, 6, none⟩) hk).trans (fz 6); obtain ⟨g1, cap1, rfl⟩ := ownsRow_succ hr1; have HR1 := Lib.hid (And.intro hr1 (And.intro hg1 ha1)); clear hr1 hg1 ha1 hk)
  case hcell =>
    intro j u hu
    match j, hu with
    | 0, hu => rw [← hu, Addr.add_lit, blk_cell (World.alloc_heap_new w4 _)]; rfl
    | 1, hu => rw [← hu, Addr.add_lit, blk_cell (World.alloc_heap_new w4 _)]; rfl
    | 2, hu => rw [← hu, Addr.add_lit, blk_cell (World.alloc_heap_new w4 _)]; rfl
  case hone =>
    intro u hu
    simp at hu
    rcases hu with rfl | rfl | rfl <;> rfl
  go_end0
  refine ⟨rfl, ?_⟩
  have BA := HBA.out (.cells #[.int .i64 i, .slice A3 (cS ((s.ls.drop i).take k)).length c3, .slice Av xs.length cv] 178)
  have ob := (loc_ls _ _).keepNew (i := 5) HB4.out.2.1 (below_alloc (Below.refl _ w4) (.cells #[.int .i64 i, .slice A3 (cS ((s.ls.drop i).take k)).length c3, .slice Av xs.length cv] 178))
  have pb := (loc_ls _ _).keepNew (i := 5) HB4.out.2.2 (below_alloc (Below.refl _ w4) (.cells #[.int .i64 i, .slice A3 (cS ((s.ls.drop i).take k)).length c3, .slice Av xs.length cv] 178))
  have hr := HR1.out.1
  have hat := HR1.out.2.2
  rw [← hLlen]
  refine ⟨_, _, _, _, _, _, _, _, BA.onOpn ((Chg.refl _ _).grown HR1.out.2.1 fun i hi => .inl (BA.opr.2 i hi)) (L' := L ++ [⟨i, .slice A3 (cS ((s.ls.drop i).take k)).length c3, .slice Av xs.length cv⟩]) ⟨?_, fun b hb => ?_⟩ ⟨?_, fun m x d hx hd => ?_⟩⟩
  · rw [List.length_append, dflat_append]
    exact hr
  · rcases hat with e | e
    · exact .inl (BA.opr.2 b (e ▸ hb))
    · rw [e] at hb
      exact .inr (Nat.le_of_eq (Option.some.inj hb))
  · rw [List.length_append, List.length_append]
    exact congrArg (· + 1) hLlen
  · rw [List.getElem?_append] at hx hd
    split at hx
    · rename_i hm
      rw [if_pos (by rw [← hLlen]; exact hm)] at hd
      exact BA.ope.2 m x d hx hd
    · rename_i hm
      rw [if_neg (by rw [← hLlen]; exact hm)] at hd
      have hm0 : m - L.length = 0 := by
        have := (List.getElem?_eq_some_iff.1 hx).1
        simp at this
        omega
      rw [← hLlen] at hd
      rw [hm0] at hx hd
      cases hx
      cases hd
      exact ⟨rfl, ob, pb⟩
end
end Go.Proofs.YtdhemdeapphfoaaGreatDoor
