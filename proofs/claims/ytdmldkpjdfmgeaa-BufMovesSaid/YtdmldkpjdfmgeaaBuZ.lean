/- undo's Add, walked (there is room). -/
import Derived.Test.YtdmldkpjdfmgeaaBuVx
set_option linter.unusedVariables false
set_option linter.unusedSimpArgs false
namespace Go.Proofs.Ytdmldkpjdfmgeaa
open Go.RowKit Go.Shelf Go.Maps Go.Proofs.YtdmldkpjdfmgeaaW.PrintWords Go.Proofs.YtdmldkpjdfmgeaaW.PrintLast

def addUs (s : Us) (st : St) (ds : List Dl) : Us :=
  { s with now := s.next, next := s.next + 1, all := upd (upd s.all s.now { st with kids := st.kids ++ [s.next], on_ := s.next }) s.next ⟨s.now, -1, ds, []⟩ }
def AddPost (F : Nat → Prop) (U n : Nat) (s s' : Us) (w : World) (e : Ending) (w' : World) : Prop :=
  e = .returned (.int .i64 s.next) ∧ Ut w' F U s' n ∧ Chg F w w'

theorem Dr.slice {w : World} {F : Nat → Prop} {v : Value} {ds : List Dl} (h : Dr w F v ds) : ∃ A n c, v = .slice A n c := by
  obtain ⟨L, h⟩ := h
  rcases h.row.2 with ⟨rfl, _⟩ | ⟨g, cap, cur, rfl, _⟩
  · exact ⟨_, _, _, rfl⟩
  · exact ⟨_, _, _, rfl⟩

section
variable {w : World} {F H : Nat → Prop} {U n : Nat} {s : Us}
set_option maxRecDepth 100000 in
set_option maxHeartbeats 1000000 in
theorem add_any (h : Ut w F U s n) {st : St} (hs : s.all s.now = some st) (hnx : s.all s.next = none) (h0 : 0 ≤ s.next) (h1 : s.next ≤ 1000000000) (hm : (n : Int) + 1 ≤ s.most) (hmm : s.most ≤ 1000000) (hkl : st.kids.length ≤ 1000000000) {v : Value} {ds : List Dl} (hd : Dr w H v ds) (hH : ∀ b, b < w.heap.size → H b → ¬ F b)
    (hn : ds.length ≤ 1000000000) (hb : ∀ d ∈ ds, d.old.length ≤ 1000000000 ∧ d.new.length ≤ 1000000000) (hF : ∀ b, w.heap.size ≤ b → F b) :
    Calls Try.prog 34 #[.pointer (some ⟨U, 0, none⟩), v] w (AddPost F U (n + 1) s (addUs s st ds) w) := by
  obtain ⟨G, mb, M, h⟩ := h
  obtain ⟨a, ha, hab, _, hak⟩ := h.now hs
  have hM : M s.next = none := by
    cases e : M s.next with
    | none => rfl
    | some c =>
      obtain ⟨st', h2, _⟩ := h.st _ _ e
      rw [hnx] at h2
      cases h2
  have u0 : w.cell? ⟨U, 0, none⟩ = some (.int .i64 s.most) := by rw [blk_cell h.box]; rfl
  have u1 : w.cell? ⟨U, 1, none⟩ = some (.int .i64 s.now) := by rw [blk_cell h.box]; rfl
  have u2 : w.cell? ⟨U, 2, none⟩ = some (.int .i64 s.next) := by rw [blk_cell h.box]; rfl
  have u4 : w.cell? ⟨U, 4, none⟩ = some (.map (some mb)) := by rw [blk_cell h.box]; rfl
  have uf1 : w.frozen? ⟨U, 1, none⟩ = false := blk_frozen h.box 1
  have uf2 : w.frozen? ⟨U, 2, none⟩ = false := blk_frozen h.box 2
  have s2 : w.cell? ⟨a.b, 2, none⟩ = some (.int .i64 st.on_) := by rw [blk_cell hab]; rfl
  have s4 : w.cell? ⟨a.b, 4, none⟩ = some a.vk := by rw [blk_cell hab]; rfl
  have sf2 : w.frozen? ⟨a.b, 2, none⟩ = false := blk_frozen hab 2
  have sf4 : w.frozen? ⟨a.b, 4, none⟩ = false := blk_frozen hab 4
  obtain ⟨next, hnxt⟩ : ∃ next, s.next = next := ⟨_, rfl⟩
  obtain ⟨now, hnow⟩ : ∃ now, s.now = now := ⟨_, rfl⟩
  have hA : Uw (w.setCell ⟨U, 2, none⟩ (.int .i64 (next + 1))) F G U { s with next := next + 1 } mb n M := h.setU (i := 2) (s' := { s with next := next + 1 }) rfl rfl
  have hl := (hA.map.step (w' := (w.setCell ⟨U, 2, none⟩ (.int .i64 (next + 1))).drew) rfl).look (h.wf _ _ ha)
  rw [ha] at hl
  unfold ptrV at hl
  dsimp only [Option.map] at hl
  rw [hnxt] at u2 h0 h1
  rw [hnow] at u1 hl
  have HW := Lib.hid (show IntKind.i64.wrap (next + 1) = next + 1 by rw [IntKind.wrap_i64]; omega)
  obtain ⟨i0, hi0, hz0, hz1, hz2⟩ := info_parts infoI
  have HINF := Lib.hid (And.intro hi0 (And.intro hz0 (And.intro hz1 hz2)))
  obtain ⟨vk, hvk⟩ : ∃ vk, a.vk = vk := ⟨_, rfl⟩
  rw [hvk] at s4
  have hkne : ∀ {b : Nat} {cells : Array Value} {t : TypeId}, w.heap[b]? = some (.cells cells t (0, 0)) → t ≠ 3 → some b ≠ vk.ownBlock := fun hb ht e => by
    obtain ⟨c2, hc⟩ := owns_typed hak _ (hvk ▸ e.symm)
    exact cells_ne hb hc ht rfl
  have hneU := hkne h.box (by decide)
  have hneS := hkne hab (by decide)
  have hUS := cells_ne h.box hab (by decide)
  have hak' : w.ownsRow 0 3 1 vk st.kids.length (cI st.kids) := hvk ▸ hak
  have hrow : ∀ o, ((w.setCell ⟨U, 2, none⟩ (.int .i64 (next + 1))).alloc o).drew.ownsRow 0 3 1 vk st.kids.length (cI st.kids) := fun o => owns_step hak' fun b hb => by
    have e1 : b ≠ U := fun e => hneU (e ▸ hb.symm)
    have hlt := owns_lt hak' b hb
    show ((w.setCell ⟨U, 2, none⟩ (.int .i64 (next + 1))).alloc o).heap[b]? = _
    rw [Below.heap_alloc _ _ _ (by simpa [World.setCell] using hlt), Below.heap_setCell _ _ _ _ e1]
  have hltU := blk_lt h.box
  have hltS := blk_lt hab
  have hkeep : ∀ (o : Obj) (w1 : World), ((w.setCell ⟨U, 2, none⟩ (.int .i64 (next + 1))).alloc o).drew.grownBy w1 vk.ownBlock → w1.heap[a.b]? = w.heap[a.b]? ∧ w1.heap[U]? = (w.setCell ⟨U, 2, none⟩ (.int .i64 (next + 1))).heap[U]? := fun o w1 hg => by
    have hsz : (w.setCell ⟨U, 2, none⟩ (.int .i64 (next + 1))).heap.size = w.heap.size := by simp [World.setCell]
    constructor
    · refine (hg.block a.b (by show a.b < ((w.setCell ⟨U, 2, none⟩ (.int .i64 (next + 1))).alloc o).heap.size; simp; omega) hneS).trans ?_
      show ((w.setCell ⟨U, 2, none⟩ (.int .i64 (next + 1))).alloc o).heap[a.b]? = _
      rw [Below.heap_alloc _ _ _ (by omega), Below.heap_setCell _ _ _ _ (show a.b ≠ U from fun e => hUS e.symm)]
    · refine (hg.block U (by show U < ((w.setCell ⟨U, 2, none⟩ (.int .i64 (next + 1))).alloc o).heap.size; simp; omega) hneU).trans ?_
      show ((w.setCell ⟨U, 2, none⟩ (.int .i64 (next + 1))).alloc o).heap[U]? = _
      rw [Below.heap_alloc _ _ _ (by omega)]
  have HK := Lib.hid hkeep
  have HROW := Lib.hid hrow
  have HA := Lib.hid hA
  have HH := Lib.hid (And.intro h (And.intro ha (And.intro hs (And.intro hM hvk))))
  have HD := Lib.hid (And.intro hd (And.intro hH hF))
  have HN := Lib.hid (And.intro hn hb)
  clear h ha hab hak hs hM hA hrow hkeep hak' hd hH hF hn hb hkne hi0 hz0 hz1 hz2 hnx
  go_enter Try.func34, Try.ntmps34
  go_wp2
  go_region
  go_wp2_with (at_builtin; refine wpList_append_own_at _ rfl _ _ 62 rfl 0 3 i0 (.int .i64 0) 1 8 Try.underlying62 HINF.out.1 HINF.out.2.1 HINF.out.2.2.1 HINF.out.2.2.2 rfl (by decide) vk st.kids.length (cI st.kids) rfl (HROW.out _) ⟨w.heap.size, 0, none⟩ 1 1 [.int .i64 next] rfl rfl ?hcell ?hone (by unfold maxLen; omega) (by omega) (by omega) ?_; rotate_left 2; intro v1 w1 hr1 hg1 _ ha1; have hk := HK.out _ w1 hg1; have a2 := (World.cell?_of_block (a := ⟨a.b, 2, none⟩) hk.1).trans s2; have a4 := (World.cell?_of_block (a := ⟨a.b, 4, none⟩) hk.1).trans s4; have f2 := (World.frozen?_of_block (a := ⟨a.b, 2, none⟩) hk.1).trans sf2; have f4 := (World.frozen?_of_block (a := ⟨a.b, 4, none⟩) hk.1).trans sf4; obtain ⟨g1, cap1, rfl⟩ := ownsRow_succ hr1; have HR1 := Lib.hid (And.intro hr1 (And.intro hg1 (And.intro ha1 hk))); clear hr1 hg1 ha1 hk)
  case hcell =>
    intro j u hu
    have hsz : (w.setCell ⟨U, 2, none⟩ (.int .i64 (next + 1))).heap.size = w.heap.size := by simp [World.setCell]
    match j, hu with
    | 0, hu =>
      rw [← hu, Addr.add_lit]
      show ((w.setCell ⟨U, 2, none⟩ (.int .i64 (next + 1))).alloc _).cell? _ = _
      rw [← hsz, blk_cell (World.alloc_heap_new _ _)]
      rfl
  case hone =>
    intro u hu
    simp at hu
    rw [hu]
    rfl
  have hsz : (w.setCell ⟨U, 2, none⟩ (.int .i64 (next + 1))).heap.size = w.heap.size := by simp [World.setCell]
  have hsz1 : w.heap.size ≤ w1.heap.size := by
    have := HR1.out.2.1.size
    have h2 : ((w.setCell ⟨U, 2, none⟩ (.int .i64 (next + 1))).alloc (.cells #[.int .i64 next] 3)).heap.size ≤ w1.heap.size := this
    rw [World.size_alloc, hsz] at h2
    omega
  have hU6 : Uw ((w1.setCell ⟨a.b, 4, none⟩ (.slice (some ⟨g1, 0, none⟩) (st.kids.length + 1) cap1)).setCell ⟨a.b, 2, none⟩ (.int .i64 next)) F G U { s with next := next + 1, all := upd s.all now { st with kids := st.kids ++ [next], on_ := next } } mb n (upd M now { a with vk := .slice (some ⟨g1, 0, none⟩) (st.kids.length + 1) cap1 }) := by
    have hk := HA.out.setKids (w2 := w1) (x := now) (a := a) (st := st) (hnow ▸ HH.out.2.1) (hnow ▸ HH.out.2.2.1) (by rw [hsz]; exact hsz1) (fun b hb hbk => by
      rw [HH.out.2.2.2.2] at hbk
      refine (HR1.out.2.1.block b (by show b < ((w.setCell ⟨U, 2, none⟩ (.int .i64 (next + 1))).alloc (.cells #[.int .i64 next] 3)).heap.size; rw [World.size_alloc]; omega) hbk).trans ?_
      exact Below.heap_alloc _ _ _ hb)
      (ks := st.kids ++ [next]) (v := .slice (some ⟨g1, 0, none⟩) (st.kids.length + 1) cap1) (by
        have h9 := HR1.out.1
        rw [List.length_append]
        rw [cI, List.map_append]
        exact h9) (by
        rw [HH.out.2.2.2.2]
        rcases HR1.out.2.2.1 with e | e
        · exact .inl e
        · refine .inr ⟨_, e, ?_⟩
          show (w.setCell ⟨U, 2, none⟩ (.int .i64 (next + 1))).heap.size ≤ ((w.setCell ⟨U, 2, none⟩ (.int .i64 (next + 1))).alloc (.cells #[.int .i64 next] 3)).heap.size
          rw [World.size_alloc]
          omega) (fun b hb => HD.out.2.2 b (hsz ▸ hb))
    have h2 := hk.setOn (x := now) (upd_same _ _ _) (upd_same _ _ _) next
    have e : upd (upd s.all now { st with kids := st.kids ++ [next] }) now { st with kids := st.kids ++ [next], on_ := next } = upd s.all now { st with kids := st.kids ++ [next], on_ := next } := by
      funext y
      unfold upd
      split <;> rfl
    dsimp only at h2
    rw [e] at h2
    exact h2
  have hCh : Chg F w ((w1.setCell ⟨a.b, 4, none⟩ (.slice (some ⟨g1, 0, none⟩) (st.kids.length + 1) cap1)).setCell ⟨a.b, 2, none⟩ (.int .i64 next)) := by
    have hFs := HH.out.1.footS _ _ HH.out.2.1
    have c1 : Chg F w ((w.setCell ⟨U, 2, none⟩ (.int .i64 (next + 1))).alloc (.cells #[.int .i64 next] 3)).drew := (((Chg.refl F w).setCell (p := ⟨U, 2, none⟩) HH.out.1.footU _).alloc _).drew
    have c2 := c1.grown HR1.out.2.1 (fun k hk => HH.out.1.footK _ _ k HH.out.2.1 (by rw [HH.out.2.2.2.2]; exact hk))
    exact (c2.setCell (p := ⟨a.b, 4, none⟩) hFs _).setCell (p := ⟨a.b, 2, none⟩) hFs _
  obtain ⟨W6, hW6⟩ : ∃ W6, ((w1.setCell ⟨a.b, 4, none⟩ (.slice (some ⟨g1, 0, none⟩) (st.kids.length + 1) cap1)).setCell ⟨a.b, 2, none⟩ (.int .i64 next)) = W6 := ⟨_, rfl⟩
  rw [hW6] at hU6 hCh ⊢
  clear hW6
  have hD6 : Dr W6 H v ds := HD.out.1.step hCh.size fun b hb hh => hCh.block b hb (HD.out.2.1 b hb hh)
  have k0 : W6.cell? ⟨U, 0, none⟩ = some (.int .i64 s.most) := by rw [blk_cell hU6.box]; rfl
  have k1 : W6.cell? ⟨U, 1, none⟩ = some (.int .i64 now) := by rw [blk_cell hU6.box, ← hnow]; rfl
  have k4 : W6.cell? ⟨U, 4, none⟩ = some (.map (some mb)) := by rw [blk_cell hU6.box]; rfl
  have hUlt := blk_lt hU6.box
  have hcl : ∀ W, W.heap = W6.heap → Calls Try.prog 49 #[v] W (DrPost W ds) := fun W hW => clone_any (hD6.step (Nat.le_of_eq (congrArg Array.size hW.symm)) fun b _ _ => by rw [hW]) HN.out.1 HN.out.2
  have HCL := Lib.hid hcl
  have H6 := Lib.hid (And.intro hU6 hCh)
  have HSZ := Lib.hid hsz1
  clear hcl hU6 hCh hD6 a2 a4 f2 f4 u0 u1 u2 u4 uf1 uf2 s2 s4 sf2 sf4 hl hsz hsz1 HR1
  have hwx : (Lit.int .i64 next).wf = true := WalkArith.wf_i64 (by omega)
  have hne4 : ∀ (w4 : World), Below W6.heap.size W6 w4 → w4.cell? ⟨U, 4, none⟩ = some (.map (some mb)) ∧ w4.cell? ⟨U, 1, none⟩ = some (.int .i64 now) := fun w4 hb => ⟨(hb.cell (p := ⟨U, 4, none⟩) hUlt).trans k4, (hb.cell (p := ⟨U, 1, none⟩) hUlt).trans k1⟩
  have HK4 := Lib.hid hne4
  have hst : ∀ (w4 : World), Below W6.heap.size W6 w4 → ∀ (o : Obj) (q : Nat), ∃ (D : DataW Unit) (w5 : World), (Instr.mapUpdate 85 (.map (some mb)) (.int .i64 next) (.pointer (some ⟨q, 0, none⟩))).run Try.prog (w4.alloc o) = .ok () w5 ∧ w5.ownsMap Try.prog 3 ptrE mb (n + 1) (D.put (.int .i64 next) (encP (some q))) ∧ (w4.alloc o).mapTurned w5 mb ∧ IsMap D ∧ (∀ y, (Lit.int .i64 y).wf = true → D.atKey (.int .i64 y) (encP none) = encP (((upd M now { a with vk := .slice (some ⟨g1, 0, none⟩) (st.kids.length + 1) cap1 }) y).map SV.b)) := fun w4 hb o q => by
    have hm6 := H6.out.1.map
    have hlt := hm6.lt
    obtain ⟨D, ho, hD⟩ := hm6.step (w' := w4.alloc o) ((Below.heap_alloc w4 o mb (Nat.lt_of_lt_of_le hlt hb.size)).trans (hb.block mb hlt))
    have hsz := ho.size_le
    obtain ⟨w5, r1, r2, r3⟩ := ho.store (t := 85) (e := 82) keyedI Try.underlying85 (show n < maxLen by unfold maxLen; omega) (keyOf_int_mk (a := next) Try.underlying3 hwx) (ptrE_mk (some q))
    exact ⟨D, w5, r1, r2, r3, ho.isMap, hD⟩
  have hne5 : ∀ (w4 : World), Below W6.heap.size W6 w4 → ∀ (o : Obj) (w5 : World), (w4.alloc o).mapTurned w5 mb → w5.cell? ⟨U, 4, none⟩ = some (.map (some mb)) ∧ w5.cell? ⟨U, 1, none⟩ = some (.int .i64 now) ∧ w5.cell? ⟨U, 0, none⟩ = some (.int .i64 s.most) ∧ w5.frozen? ⟨U, 1, none⟩ = false := fun w4 hb o w5 ht => by
    obtain ⟨es, clock, hm⟩ := H6.out.1.map.mapObj
    have e1 : w5.heap[U]? = W6.heap[U]? := ((ht.grown.block U (by rw [World.size_alloc]; exact Nat.lt_succ_of_lt (Nat.lt_of_lt_of_le hUlt hb.size)) (fun e => map_ne H6.out.1.box hm (Option.some.inj e))).trans (Below.heap_alloc w4 o U (Nat.lt_of_lt_of_le hUlt hb.size))).trans (hb.block U hUlt)
    exact ⟨(World.cell?_of_block (a := ⟨U, 4, none⟩) e1).trans k4, (World.cell?_of_block (a := ⟨U, 1, none⟩) e1).trans k1, (World.cell?_of_block (a := ⟨U, 0, none⟩) e1).trans k0, (World.frozen?_of_block (a := ⟨U, 1, none⟩) e1).trans (blk_frozen H6.out.1.box 1)⟩
  have HK5 := Lib.hid hne5
  have HST := Lib.hid hst
  clear hst hne4 hne5
  go_region_held3 (fun W => W.cell? ⟨U, 4, none⟩ = some (.map (some mb)) ∧ W.cell? ⟨U, 1, none⟩ = some (.int .i64 now)) (first | exact ⟨k4, k1⟩ | exact gk4 | exact ⟨gk5.1, gk5.2.1⟩ | go_keep) (first | (go_at_call 49; refine (HCL.out W6.drew rfl).mono ?_; rintro e w4 ⟨v4, rfl, h41, h42⟩; have hb4 := below_then (Below.refl _ W6).drew (Nat.le_refl _) h42; have gk4 := HK4.out w4 hb4; obtain ⟨A4, n4, c4, hv4⟩ := h41.slice; subst hv4; obtain ⟨D, w5, hrun, r2, r3, r4, r5⟩ := HST.out w4 hb4 (.cells #[.int .i64 next, .int .i64 now, .int .i64 (-1), .slice A4 n4 c4, .slice none 0 0] 84) w4.heap.size; have gk5 := HK5.out w4 hb4 _ w5 r3; have H4 := Lib.hid (And.intro h41 (And.intro hb4 (And.intro r2 (And.intro r3 (And.intro r4 r5))))); clear h41 h42 hb4 r2 r3 r4 r5))
  have h7 : Uw (w5.setCell ⟨U, 1, none⟩ (.int .i64 next)) F (fun b => G b ∨ (W6.heap.size ≤ b ∧ b < w4.heap.size)) U (addUs s st ds) mb (n + 1) (upd (upd M now { a with vk := .slice (some ⟨g1, 0, none⟩) (st.kids.length + 1) cap1 }) next ⟨w4.heap.size, .slice A4 n4 c4, .slice none 0 0⟩) := by
    have hMx : upd M now { a with vk := .slice (some ⟨g1, 0, none⟩) (st.kids.length + 1) cap1 } next = none := by
      have hne : next ≠ now := by
        intro e
        have h9 := HH.out.2.1
        have h10 := HH.out.2.2.2.1
        rw [hnow, ← e, ← hnxt, h10] at h9
        cases h9
      rw [upd_other _ _ hne, ← hnxt]
      exact HH.out.2.2.2.1
    have hp := H6.out.1.put (x := next) (frm := now) hwx hMx H4.out.2.1 H4.out.1 H4.out.2.2.2.2.2 H4.out.2.2.2.2.1 H4.out.2.2.1 H4.out.2.2.2.1 (fun b hb => HD.out.2.2 b (Nat.le_trans H6.out.2.size hb))
    have h8 := hp.setU (i := 1) (v := .int .i64 next) (s' := addUs s st ds) (by unfold addUs usCells; rw [hnxt]; rfl) (by unfold addUs; rw [hnxt, hnow])
    exact h8
  have hCh7 : Chg F w (w5.setCell ⟨U, 1, none⟩ (.int .i64 next)) :=
    (((H6.out.2.below H4.out.2.1).alloc _).grown H4.out.2.2.2.1.grown (fun k hk => by rw [← Option.some.inj hk]; exact H6.out.1.footM)).setCell (p := ⟨U, 1, none⟩) H6.out.1.footU _
  have H7 := Lib.hid (And.intro h7 hCh7)
  have c0 := gk5.2.2.1
  have c1 := gk5.2.1
  have c4' := gk5.1
  have cf := gk5.2.2.2
  clear h7 hCh7 gk5 gk4 k0 k1 k4
  go_wp2
  obtain ⟨W7, hW7⟩ : ∃ W7, w5.setCell ⟨U, 1, none⟩ (.int .i64 next) = W7 := ⟨_, rfl⟩
  rw [hW7] at H7 ⊢
  have d0 : W7.cell? ⟨U, 0, none⟩ = some (.int .i64 s.most) := by rw [blk_cell H7.out.1.box]; rfl
  have d4 : W7.cell? ⟨U, 4, none⟩ = some (.map (some mb)) := by rw [blk_cell H7.out.1.box]; rfl
  obtain ⟨D7, ho7, _⟩ := H7.out.1.map
  have hs7 := ho7.size_le
  have hs7' : ((Maps.size D7 : Nat) : Int) ≤ s.most := by omega
  have hln := (show W7.drew.ownsMap Try.prog 3 ptrE mb (n + 1) D7 from ho7).len (t := 85) (e := 82) Try.underlying85 3
  clear ho7 hW7 c0 c1 c4' cf hrun
  go_loop [59] (fun _ => True) (fun _ => 0)
  case atStart => trivial
  case round =>
    go_wp2
    go_region
    all_goals
      go_wp2
      go_ret
      refine ⟨by rw [hnxt]; rfl, ⟨_, _, _, H7.out.1.step (Nat.le_refl _) fun _ _ _ => rfl⟩, ?_⟩
      first | exact H7.out.2 | exact H7.out.2.drew | exact H7.out.2.drewN _
end
end Go.Proofs.Ytdmldkpjdfmgeaa
