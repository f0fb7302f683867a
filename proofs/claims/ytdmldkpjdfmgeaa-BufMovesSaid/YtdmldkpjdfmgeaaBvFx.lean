import Derived.Test.YtdmldkpjdfmgeaaBvE
set_option linter.unusedVariables false
set_option linter.unusedSimpArgs false

/- buf's Back, walked. -/
namespace Go.Proofs.Ytdmldkpjdfmgeaa
open Go.RowKit Go.Shelf Go.Maps Go.Proofs.YtdmldkpjdfmgeaaW.PrintWords Go.Proofs.YtdmldkpjdfmgeaaW.PrintLast

def BfU (N0 : Nat) (w0 : Base) (w : World) (B : Nat) (s : Bs) (U : Nat) : Prop := ∃ col T p1 vl vm vo L, Bw N0 w0 w col B s T p1 U vl vm vo L
theorem BfU.bf {N0 : Nat} {w0 : Base} {w : World} {B : Nat} {s : Bs} {U : Nat} (h : BfU N0 w0 w B s U) : Bf N0 w0 w B s := by
  obtain ⟨col, T, p1, vl, vm, vo, L, h⟩ := h
  exact ⟨col, T, p1, U, vl, vm, vo, L, h⟩
def BfUPost (N0 : Nat) (w0 : Base) (B : Nat) (s : Bs) (U : Nat) (v : Value) (e : Ending) (w' : World) : Prop := e = .returned v ∧ BfU N0 w0 w' B s U
def backS (s : Bs) : Bs := { s with ls := s.sls, mar := s.smk, nm := s.ns, cur := s.scur, opn := [] }
section
variable {N0 : Nat} {w0 : Base} {w w' : World} {col : Nat → Nat} {B T p1 U : Nat} {s : Bs} {vl vm vo : Value} {L : List DV}
set_option maxRecDepth 100000 in
set_option maxHeartbeats 1000000 in
theorem back_any (h : BfU N0 w0 w B s U) (hk : s.kept = true) (hl : s.sls.length + 2 ≤ 1000000000) (hx : ∀ x ∈ s.sls, x.size ≤ 1000000000) :
    Calls Try.prog 51 #[.pointer (some ⟨B, 0, none⟩)] w (BfUPost N0 w0 B (backS s) U (.tuple #[])) := by
  obtain ⟨col, T, p1, vl, vm, vo, L, h⟩ := h
  obtain ⟨q, hvm, _⟩ := h.smk hk
  subst hvm
  have k0 : w.cell? ⟨B, 0, none⟩ = some (.pointer (some ⟨T, 0, none⟩)) := by rw [blk_cell h.box]; rfl
  have k1 : w.cell? ⟨B, 1, none⟩ = some vl := by rw [blk_cell h.box]; rfl
  obtain ⟨Al, cl, hvl, _⟩ := id h.sls
  subst hvl
  have f0 : w.frozen? ⟨B, 0, none⟩ = false := blk_frozen h.box 0
  have HT := Lib.hid (New_any (h.sls.wide fun _ _ _ => trivial) hl hx)
  have HH := Lib.hid h
  have hBlt := blk_lt h.box
  clear h
  go_enter Try.func51, Try.ntmps51
  go_wp2_with fail
  refine HT.out.mono ?_
  rintro e w2 ⟨T2, rfl, _, ht2, hc2⟩
  have hb2 := chg_below hc2
  have b2 := HH.out.onNew 1 (by decide) hb2
  have t2 := (loc_tree T2 s.sls).fresh (col := col) (i := 1) ht2
  have b3 : Bw N0 w0 (w2.setCell ⟨B, 0, none⟩ (.pointer (some ⟨T2, 0, none⟩))) (recol col w.heap.size 1) B { s with ls := s.sls } T2 p1 U (.slice Al s.sls.length cl) (.pointer (some ⟨q, 0, none⟩)) vo L :=
    b2.onBox (by simp [World.setCell]) ((Below.refl N0 w2).setCell (p := ⟨B, 0, none⟩) HH.out.hB _) (fun b hb => Below.heap_setCell _ _ _ _ hb) (by rw [blk_set b2.box]; rfl) t2 b2.mar b2.smk b2.undo b2.opr b2.ope b2.sls
  have g0 : w2.cell? ⟨B, 0, none⟩ = some (.pointer (some ⟨T, 0, none⟩)) := by rw [blk_cell b2.box]; rfl
  have gf := blk_frozen b2.box 0
  have H3 := Lib.hid b3
  clear b2 t2 b3 ht2 hc2 hb2 k0 k1 f0
  go_wp2
  obtain ⟨W3, hW3⟩ : ∃ W3, w2.setCell ⟨B, 0, none⟩ (.pointer (some ⟨T2, 0, none⟩)) = W3 := ⟨_, rfl⟩
  rw [hW3] at H3 ⊢
  clear hW3 g0 gf
  obtain ⟨q', hvq, hq⟩ := H3.out.smk hk
  injection hvq with hvq
  injection hvq with hvq
  injection hvq with hvq _ _
  subst hvq
  have hlt := blk_lt H3.out.box
  have hAll : ∀ W, Below W3.heap.size W3 W → (W.cell? ⟨B, 2, none⟩ = some (.pointer (some ⟨q, 0, none⟩)) ∧ W.cell? ⟨B, 3, none⟩ = some (.int .i64 s.scur)) ∧
      W.cell? ⟨B, 4, none⟩ = some (.pointer (some ⟨p1, 0, none⟩)) ∧ W.cell? ⟨B, 7, none⟩ = some (.int .i64 s.cur) ∧ W.cell? ⟨B, 6, none⟩ = some vo ∧ ∀ i, W.frozen? ⟨B, i, none⟩ = false := fun W hb => by
    have hx := (hb.block B hlt).trans H3.out.box
    refine ⟨⟨?_, ?_⟩, ?_, ?_, ?_, blk_frozen hx⟩ <;> (rw [blk_cell hx]; rfl)
  have hC : ∀ W, Below W3.heap.size W3 W → Calls Try.prog 45 #[.pointer (some ⟨q, 0, none⟩)] W (CopyPost W s.ns s.smk) := fun W hb => copy_mk ((loc_mk _ _ _).step hq hb.size fun b hlt _ => hb.block b hlt)
  have HC := Lib.hid hC
  have HBC := Lib.hid ((Below.refl W3.heap.size W3).drew)
  obtain ⟨⟨k2, k3⟩, _⟩ := hAll W3 (Below.refl _ _)
  have HALL := Lib.hid hAll
  clear hAll hC hq
  go_region_held3 (fun W => W.cell? ⟨B, 2, none⟩ = some (.pointer (some ⟨q, 0, none⟩)) ∧ W.cell? ⟨B, 3, none⟩ = some (.int .i64 s.scur)) (first | exact ⟨k2, k3⟩ | exact (HALL.out _ HBC.out).1 | (refine ⟨?_, ?_⟩ <;> (rw [World.cell?_setCell_other _ _ _ _ (by simp)]; assumption)) | (refine ⟨?_, ?_⟩ <;> (rw [World.cell?_setCell_other _ _ _ _ (by simp), World.cell?_setCell_other _ _ _ _ (by simp)]; assumption)) | go_keep) (first
    | (go_at_call 45; refine (HC.out _ HBC.out).mono ?_; rintro e w4 ⟨r, rfl, h31, h33⟩; have HBC := Lib.hid (below_then HBC.out HBC.out.size h33); obtain ⟨⟨x2, x3⟩, t4, t7, t6, tf⟩ := HALL.out _ HBC.out; have tf4 := tf 4; have tf7 := tf 7; have tf6 := tf 6; clear tf; have HO2 := Lib.hid (And.intro h31 (below_undrew h33)); clear h31 h33))
  all_goals
    have b4 := H3.out.onNew 2 (by decide) HO2.out.2
    have m4 := (loc_mk _ _ _).fresh (col := recol col w.heap.size 1) (i := 2) HO2.out.1
    have H4 := Lib.hid (And.intro b4 m4)
    clear b4 m4 x2 x3 k2 k3
    go_wp2
    go_end0
    refine ⟨rfl, _, T2, r, _, _, .slice none 0 0, [], H4.out.1.onBox (by simp [World.setCell]) (((((Below.refl N0 w4).setCell (p := ⟨B, 4, none⟩) H3.out.hB _).setCell (p := ⟨B, 7, none⟩) H3.out.hB _).setCell (p := ⟨B, 6, none⟩) H3.out.hB _)) (fun b hb => ?_) ?_ H4.out.1.tree H4.out.2 H4.out.1.smk H4.out.1.undo ⟨World.ownsRow_nil _ _ _ _, fun b hb => by (cases hb)⟩ ⟨rfl, fun k x d hx => by (simp at hx)⟩ H4.out.1.sls⟩
    · rw [Below.heap_setCell _ _ _ _ hb, Below.heap_setCell _ _ _ _ hb, Below.heap_setCell _ _ _ _ hb]
    · rw [blk_set (blk_set (blk_set H4.out.1.box _ _) _ _) _ _]
      rfl
end
end Go.Proofs.Ytdmldkpjdfmgeaa

/- buf's Commit, walked (something is open, there is room). -/
namespace Go.Proofs.Ytdmldkpjdfmgeaa
open Go.RowKit Go.Shelf Go.Maps Go.Proofs.YtdmldkpjdfmgeaaW.PrintWords Go.Proofs.YtdmldkpjdfmgeaaW.PrintLast

def keepS (s : Bs) : Bs := { s with sls := s.ls, scur := s.cur, smk := s.mar, ns := s.nm, opn := [], kept := true }
def commitS (s : Bs) (st : St) : Bs := keepS { s with us := addUs s.us st s.opn, nu := s.nu + 1 }
section
variable {N0 : Nat} {w0 : Base} {w w' : World} {col : Nat → Nat} {B T p1 U : Nat} {s : Bs} {vl vm vo : Value} {L : List DV}
set_option maxRecDepth 100000 in
set_option maxHeartbeats 1000000 in
theorem commit_any (h : Bf N0 w0 w B s) {st : St} (hs : s.us.all s.us.now = some st) (hnx : s.us.all s.us.next = none) (h0 : 0 ≤ s.us.next) (h1 : s.us.next ≤ 1000000000) (hm : (s.nu : Int) + 1 ≤ s.us.most) (hmm : s.us.most ≤ 1000000) (hkl : st.kids.length ≤ 1000000000)
    (ho : 0 < s.opn.length) (hn : s.opn.length ≤ 1000000000) (hb : ∀ d ∈ s.opn, d.old.length ≤ 1000000000 ∧ d.new.length ≤ 1000000000) (hl : s.ls.length ≤ 1000000000) :
    Calls Try.prog 14 #[.pointer (some ⟨B, 0, none⟩)] w (BfPost N0 w0 B (commitS s st) (.tuple #[.int .i64 s.us.next, .bool true])) := by
  obtain ⟨col, T, p1, U, vl, vm, vo, L, h⟩ := h
  have hvo : ∃ g c, vo = .slice (some ⟨g, 0, none⟩) s.opn.length c := by
    have hl := h.ope.1
    rcases h.opr.1.2 with ⟨_, h9⟩ | ⟨g, cap, cur, rfl, _⟩
    · omega
    · exact ⟨g, cap, by rw [hl]⟩
  obtain ⟨g, c, rfl⟩ := hvo
  have k5 : w.cell? ⟨B, 5, none⟩ = some (.pointer (some ⟨U, 0, none⟩)) := by rw [blk_cell h.box]; rfl
  have k6 : w.cell? ⟨B, 6, none⟩ = some (.slice (some ⟨g, 0, none⟩) s.opn.length c) := by rw [blk_cell h.box]; rfl
  have hd := h.drewN 1
  have hadd := add_any (F := fun b => col b = 4 ∨ (w.drewN 1).heap.size ≤ b) ((loc_ut _ _ _).open hd.undo) hs hnx h0 h1 hm hmm hkl (H := fun b => col b = 5 ∨ col b = 8) (hd.opr.dr hd.ope (fun _ h => .inl h) (fun _ h => .inr h)) (fun b hb he => by omega) hn hb (fun b hb => .inr hb)
  have HADD := Lib.hid hadd
  have HH := Lib.hid hd
  have ho' : ¬ s.opn.length = 0 := by omega
  clear h hd hadd hs hb
  go_enter Try.func14, Try.ntmps14
  go_wp2
  go_region_held3 (fun W => W.cell? ⟨B, 5, none⟩ = some (.pointer (some ⟨U, 0, none⟩)) ∧ W.cell? ⟨B, 6, none⟩ = some (.slice (some ⟨g, 0, none⟩) s.opn.length c)) (first | exact ⟨k5, k6⟩ | exact gk | go_keep) (first
    | (go_at_call 34; refine HADD.out.mono ?_; rintro e w4 ⟨rfl, hu4, hc4⟩; have b4 := HH.out.onUndo hc4 hu4; have gk : w4.cell? ⟨B, 5, none⟩ = some (.pointer (some ⟨U, 0, none⟩)) ∧ w4.cell? ⟨B, 6, none⟩ = some (.slice (some ⟨g, 0, none⟩) s.opn.length c) := ⟨by rw [blk_cell b4.box]; rfl, by rw [blk_cell b4.box]; rfl⟩; have HKP := Lib.hid (keep_any ⟨_, _, _, _, _, _, _, _, b4⟩ hl); clear b4 hu4 hc4))
  all_goals
    clear gk k5 k6
    go_wp2_with (go_at_call 28; refine HKP.out.mono ?_; rintro e w5 ⟨rfl, hb5⟩; have H5 := Lib.hid hb5; clear hb5)
    go_ret2
    exact ⟨rfl, H5.out⟩
end
end Go.Proofs.Ytdmldkpjdfmgeaa
