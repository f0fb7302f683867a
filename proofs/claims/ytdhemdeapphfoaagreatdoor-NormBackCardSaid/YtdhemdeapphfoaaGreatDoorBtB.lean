/- The tree's small functions, walked: drop, make. -/
import Derived.Test.YtdhemdeapphfoaaGreatDoorBtA
import Derived.Laws.Rows
set_option linter.unusedVariables false
set_option linter.unusedSimpArgs false
namespace Go.Proofs.YtdhemdeapphfoaaGreatDoor
open Go.RowKit Go.Shelf Go.Proofs.YtdhemdeapphfoaaGreatDoorW.PrintWords Go.Proofs.YtdhemdeapphfoaaGreatDoorW.PrintLast

theorem infoI : (Tryz.prog.info? 3).map (fun i => (i.zero, i.size, i.bytes)) = some (some (.int .i64 0), 1, 8) := by kernel_rfl
theorem infoS : (Tryz.prog.info? 9).map (fun i => (i.zero, i.size, i.bytes)) = some (some (.string ⟨#[]⟩), 1, 16) := by kernel_rfl
theorem cK_one {ks : List Nat} : ∀ c ∈ cK ks, c.oneCell' = true := by
  intro c hc
  obtain ⟨x, _, rfl⟩ := List.mem_map.1 hc
  rfl
theorem cK_app (a b : List Nat) : cK (a ++ b) = cK a ++ cK b := by simp [cK, kI, cI]
theorem grown_id (w : World) (r : Option Nat) : w.grownBy w r := ⟨rfl, rfl, rfl, Nat.le_refl _, fun _ _ _ => rfl⟩
theorem src_blk (w : World) (b : Nat) (t e : TypeId) (ht : Tryz.prog.underlying t = some (.slice e)) (u : Value) (hu : u.oneCell' = true) (hb : w.heap[b]? = some (.cells #[u] e (0, 0))) : Src Tryz.prog 1 t (.slice (some ⟨b, 0, none⟩) 1 1) 1 [u] w :=
  Src.ofSlice _ ht ⟨b, 0, none⟩ 1 1 [u] rfl (World.news_of_block (cs := #[u]) (t := e) (fr := (0, 0)) hb) (by simpa using hu)
theorem new_at (w : World) (b : Nat) (hb : b = w.heap.size) (o : Obj) : (w.alloc o).heap[b]? = some o := by subst hb; exact heap_alloc_new w o
theorem size_set (w : World) (a : Addr) (v : Value) : (w.setCell a v).heap.size = w.heap.size := by simp [World.setCell]

section
variable {w : World} {F : Nat → Prop} {B N cap : Nat} {fv : Value} {L : List NV} {fr : List Nat} {root : Nat} {bytes : Int}
/-- where a row came to lie: its place among the tree's others -/
theorem Tw.at_l (h : Tw w F B N cap fv L fr root bytes) (hF : ∀ b, w.heap.size ≤ b → F b) {k : Nat} {x : NV} (hx : L[k]? = some x) {v : Value} (ha : At w x.vl v) : ∀ b, v.ownBlock = some b → F b ∧ ∀ (j : Nat) (z : NV), L[j]? = some z → j ≠ k → z.vl.ownBlock ≠ some b := by
  intro b hb
  rcases ha with ha | ⟨k2, h1, h2⟩
  · rw [ha] at hb
    exact ⟨h.footL k x b hx hb, fun j z hz hj e => hj (h.apartL j k z x b hz hx e hb)⟩
  · rw [h1] at hb
    injection hb with hb
    subst hb
    exact ⟨hF _ h2, fun j z hz _ e => absurd (h.own_lt_l hz _ e) (by omega)⟩
theorem Tw.at_k (h : Tw w F B N cap fv L fr root bytes) (hF : ∀ b, w.heap.size ≤ b → F b) {k : Nat} {x : NV} (hx : L[k]? = some x) {v : Value} (ha : At w x.vk v) : ∀ b, v.ownBlock = some b → F b ∧ fv.ownBlock ≠ some b ∧ ∀ (j : Nat) (z : NV), L[j]? = some z → j ≠ k → z.vk.ownBlock ≠ some b := by
  intro b hb
  rcases ha with ha | ⟨k2, h1, h2⟩
  · rw [ha] at hb
    exact ⟨h.footK k x b hx hb, h.apartF k x b hx hb, fun j z hz hj e => hj (h.apartK j k z x b hz hx e hb)⟩
  · rw [h1] at hb
    injection hb with hb
    subst hb
    exact ⟨hF _ h2, fun e => absurd (h.free.lt _ e) (by omega), fun j z hz _ e => absurd (h.own_lt_k hz _ e) (by omega)⟩
theorem Tw.at_f (h : Tw w F B N cap fv L fr root bytes) (hF : ∀ b, w.heap.size ≤ b → F b) {v : Value} (ha : At w fv v) : ∀ b, v.ownBlock = some b → F b ∧ ∀ (j : Nat) (z : NV), L[j]? = some z → z.vk.ownBlock ≠ some b := by
  intro b hb
  rcases ha with ha | ⟨k2, h1, h2⟩
  · rw [ha] at hb
    exact ⟨h.footF b hb, fun j z hz e => h.apartF j z b hz e hb⟩
  · rw [h1] at hb
    injection hb with hb
    subst hb
    exact ⟨hF _ h2, fun j z hz e => absurd (h.own_lt_k hz _ e) (by omega)⟩
/-- the box, while a row of the tree's turns -/
theorem Tw.box_grown (h : Tw w F B N cap fv L fr root bytes) {w2 : World} {e : TypeId} {u : Value} {cs : List Value} (hu : Rw w e u cs) (he : e ≠ 74) (hg : w.grownBy w2 u.ownBlock) (j : Nat) : w2.cell? ⟨B, j, none⟩ = w.cell? ⟨B, j, none⟩ ∧ w2.frozen? ⟨B, j, none⟩ = false := by
  have hb : w2.heap[B]? = w.heap[B]? := hg.block B h.ltB (fun e2 => hu.ne h.box he e2.symm)
  exact ⟨World.cell?_of_block (w := w) (a := ⟨B, j, none⟩) hb, blk_frozen (hb.trans h.box) j⟩
theorem Tw.row_grown (h : Tw w F B N cap fv L fr root bytes) {w2 : World} {e : TypeId} {u : Value} {cs : List Value} (hu : Rw w e u cs) (he : e ≠ 100) (hg : w.grownBy w2 u.ownBlock) (j : Nat) : w2.cell? ⟨N, j, none⟩ = w.cell? ⟨N, j, none⟩ ∧ w2.frozen? ⟨N, j, none⟩ = false := by
  obtain ⟨rest, hr, _⟩ := h.row
  have hb : w2.heap[N]? = w.heap[N]? := hg.block N h.ltN (fun e2 => hu.ne hr he e2.symm)
  exact ⟨World.cell?_of_block (w := w) (a := ⟨N, j, none⟩) hb, blk_frozen (hb.trans hr) j⟩
theorem At.after {w w2 : World} {v v' : Value} (h : At w2 v v') (hs : w.heap.size ≤ w2.heap.size) : At w v v' := h.imp id fun ⟨k, a, b⟩ => ⟨k, a, Nat.le_trans hs b⟩
/-- all of a node -/
theorem Tw.setNil (h : Tw w F B N cap fv L fr root bytes) {k : Nat} {x : NV} (hx : L[k]? = some x) :
    Tw (((w.setCell ⟨N, k * 3, none⟩ (.slice none 0 0)).setCell ⟨N, k * 3 + 1, none⟩ (.slice none 0 0)).setCell ⟨N, k * 3 + 2, none⟩ (.int .i64 0)) F B N cap fv (L.set k ⟨.slice none 0 0, .slice none 0 0, [], [], 0⟩) fr root bytes := by
  have hk := (List.getElem?_eq_some_iff.1 hx).1
  have h1 := h.setLs hx (grown_id w _) (v := .slice none 0 0) (ls := []) (Rw.nil w _) (fun b hb => by cases hb)
  have h2 := h1.setKs (k := k) (x := ⟨.slice none 0 0, x.vk, [], x.ks, x.ct⟩) (by simp [hk]) (grown_id _ _) (v := .slice none 0 0) (ks := []) (Rw.nil _ _) (fun b hb => by cases hb)
  have h3 := h2.setCt (k := k) (x := ⟨.slice none 0 0, .slice none 0 0, [], [], x.ct⟩) (by simp [hk]) 0
  simpa only [List.set_set] using h3
end

/-- the free ones' place forgotten -/
def TwF (w : World) (F : Nat → Prop) (B N cap : Nat) (L : List NV) (fr : List Nat) (root : Nat) (bytes : Int) : Prop := ∃ fv, Tw w F B N cap fv L fr root bytes

/-- the other blocks -/
def DropKeep (w w' : World) (N B : Nat) (fv : Value) : Prop := ∀ b, b < w.heap.size → b ≠ N → b ≠ B → fv.ownBlock ≠ some b → w'.heap[b]? = w.heap[b]?

set_option maxRecDepth 100000 in
theorem drop_tw {w : World} {F : Nat → Prop} {B N cap : Nat} {fv : Value} {L : List NV} {fr : List Nat} {root : Nat} {bytes : Int} (h : Tw w F B N cap fv L fr root bytes) {k : Nat} {x : NV} (hx : L[k]? = some x)
    (hfr : fr.length ≤ 1000000000000) (hF : ∀ b, w.heap.size ≤ b → F b) :
    Calls Tryz.prog 170 #[.pointer (some ⟨B, 0, none⟩), .int .i64 k] w fun e w' => e = .returned (.tuple #[]) ∧ TwF w' F B N cap (L.set k ⟨.slice none 0 0, .slice none 0 0, [], [], 0⟩) (fr ++ [k]) root bytes ∧ Chg F w w' ∧ DropKeep w w' N B fv := by
  have b0 := h.c0
  have b1 := h.c1
  have y1 := h.zB 1
  have n0 := h.n0 hx
  have n1 := h.n1 hx
  have n2 := h.n2 hx
  have hkl := (List.getElem?_eq_some_iff.1 hx).1
  have hf := h.fit
  have hle := h.le
  unfold maxLen at hf
  have hkl' : (k : Int) < L.length := by omega
  have z0 := h.zN (k * 3)
  have z1 := h.zN (k * 3 + 1)
  have z2 := h.zN (k * 3 + 2)
  have hBN := h.BN
  have hNB : ¬ N = B := fun e => hBN e.symm
  have H3 := Lib.hid (h.setNil hx)
  have HF := Lib.hid hF
  have HC := Lib.hid ((((Chg.refl F w).setCell (p := ⟨N, k * 3, none⟩) h.footN (.slice none 0 0)).setCell (p := ⟨N, k * 3 + 1, none⟩) h.footN (.slice none 0 0)).setCell (p := ⟨N, k * 3 + 2, none⟩) h.footN (.int .i64 0))
  obtain ⟨i0, hi, hz0, hz1, hz2⟩ := info_parts infoI
  have HI := Lib.hid (And.intro hi (And.intro hz0 (And.intro hz1 hz2)))
  clear h hF hi hz0 hz1 hz2 hx
  go_enter Tryz.func170, Tryz.ntmps170
  go_wp2_with (at_builtin; refine wpList_append_rw (v := fv) (cs := cK fr) _ rfl _ _ 72 72 rfl 3 i0 (.int .i64 0) 8 Tryz.underlying72 HI.out.1 HI.out.2.1 HI.out.2.2.1 HI.out.2.2.2 rfl rfl ?g6 (.slice (some ⟨w.heap.size, 0, none⟩) 1 1) 1 [.int .i64 k] rfl ?g8 ?c1 ?c2 ?_; rotate_left 4; intro v1 w1 hr1 hg1 hat1; have hRF := Lib.hid (H3.out.alloc (.cells #[.int .i64 k] 3)); have hbx := hRF.out.box_grown hRF.out.free (by decide) hg1 1; have hb1 := hbx.1.trans hRF.out.c1; have hb2 := hbx.2; clear hbx; obtain ⟨A1, c1, hv1, _⟩ := hr1.slice; rw [show (cK fr ++ [Value.int .i64 (k : Int)]).length = (cK fr).length + 1 by simp] at hv1; have HR1 := Lib.hid hr1; have HG1 := Lib.hid hg1; have HA1 := Lib.hid hat1; clear hr1 hg1 hat1; subst hv1)
  case g6 => exact (H3.out.alloc _).free
  case g8 => exact (src_blk _ _ _ _ Tryz.underlying72 _ rfl (new_at _ _ (by simp only [size_set]) _))
  case c1 => rw [cK_len]; omega
  case c2 => rw [cK_len]; omega
  go_end0
  have hsz : w.heap.size ≤ ((((w.setCell ⟨N, k * 3, none⟩ (.slice none 0 0)).setCell ⟨N, k * 3 + 1, none⟩ (.slice none 0 0)).setCell ⟨N, k * 3 + 2, none⟩ (.int .i64 0)).alloc (.cells #[.int .i64 k] 3)).heap.size := by simp [World.setCell]
  have hv9 : Rw w1 3 (.slice A1 ((cK fr).length + 1) c1) (cK (fr ++ [k])) := by rw [cK_app]; exact HR1.out
  have hF9 : ∀ b, ((((w.setCell ⟨N, k * 3, none⟩ (.slice none 0 0)).setCell ⟨N, k * 3 + 1, none⟩ (.slice none 0 0)).setCell ⟨N, k * 3 + 2, none⟩ (.int .i64 0)).alloc (.cells #[.int .i64 k] 3)).heap.size ≤ b → F b := fun b hb => HF.out b (Nat.le_trans hsz hb)
  refine ⟨rfl, ⟨_, hRF.out.setFr HG1.out hv9 (hRF.out.at_f hF9 HA1.out)⟩, ?_⟩
  refine ⟨((HC.out.alloc _).grown HG1.out hRF.out.footF).setCell hRF.out.footB _, fun b hb h1 h2 h3 => ?_⟩
  rw [Below.heap_setCell _ _ _ _ h2, HG1.out.block b (Nat.lt_of_lt_of_le hb hsz) (fun e => h3 e.symm), Below.heap_alloc _ _ _ (by simpa [World.setCell] using hb), Below.heap_setCell _ _ _ _ h1, Below.heap_setCell _ _ _ _ h1, Below.heap_setCell _ _ _ _ h1]

theorem drop_any {w : World} {F : Nat → Prop} {B N cap : Nat} {fv : Value} {L : List NV} {fr : List Nat} {root : Nat} {bytes : Int} (h : Tw w F B N cap fv L fr root bytes) {k : Nat} {x : NV} (hx : L[k]? = some x)
    (hfr : fr.length ≤ 1000000000000) (hF : ∀ b, w.heap.size ≤ b → F b) :
    Calls Tryz.prog 170 #[.pointer (some ⟨B, 0, none⟩), .int .i64 k] w fun e w' => e = .returned (.tuple #[]) ∧ Ta w' F B ((pus L).set k Bt.Nd.z) (fr ++ [k]) root ∧ Chg F w w' := by
  refine (drop_tw h hx hfr hF).mono ?_
  rintro e w' ⟨h1, ⟨fv', h2⟩, h3, _⟩
  exact ⟨h1, h2.ta (pus_set _ _ _), h3⟩
end Go.Proofs.YtdhemdeapphfoaaGreatDoor
