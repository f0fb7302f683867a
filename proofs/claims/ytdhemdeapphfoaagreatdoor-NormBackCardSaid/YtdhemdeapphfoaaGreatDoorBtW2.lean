/- A tree in memory: what a store, a new block, another's step leave of it. -/
import Derived.Test.YtdhemdeapphfoaaGreatDoorBtW
set_option linter.unusedVariables false
set_option linter.unusedSimpArgs false
namespace Go.Proofs.YtdhemdeapphfoaaGreatDoor
open Go.RowKit Go.Shelf Go.Proofs.YtdhemdeapphfoaaGreatDoorW.PrintWords Go.Proofs.YtdhemdeapphfoaaGreatDoorW.PrintLast

section
variable {w w' : World} {F : Nat → Prop} {B N cap : Nat} {fv : Value} {L : List NV} {fr : List Nat} {root : Nat} {bytes : Int}

theorem Tw.own_lt_l (h : Tw w F B N cap fv L fr root bytes) {k : Nat} {x : NV} (hx : L[k]? = some x) : ∀ b, x.vl.ownBlock = some b → b < w.heap.size := (h.lines k x hx).lt
theorem Tw.own_lt_k (h : Tw w F B N cap fv L fr root bytes) {k : Nat} {x : NV} (hx : L[k]? = some x) : ∀ b, x.vk.ownBlock = some b → b < w.heap.size := (h.kids k x hx).lt
theorem Tw.ltB (h : Tw w F B N cap fv L fr root bytes) : B < w.heap.size := blk_lt h.box
theorem Tw.ltN (h : Tw w F B N cap fv L fr root bytes) : N < w.heap.size := by
  obtain ⟨rest, hr, _⟩ := h.row
  exact blk_lt hr

/-- another's step -/
theorem Tw.step (h : Tw w F B N cap fv L fr root bytes) (hs : ∀ b, b < w.heap.size → F b → w'.heap[b]? = w.heap[b]?) : Tw w' F B N cap fv L fr root bytes := by
  obtain ⟨rest, hr, hc⟩ := h.row
  exact { h with
    box := by rw [hs B h.ltB h.footB]; exact h.box
    row := ⟨rest, by rw [hs N h.ltN h.footN]; exact hr, hc⟩
    free := h.free.step fun b hb => hs b (h.free.lt b hb) (h.footF b hb)
    lines := fun k x hx => (h.lines k x hx).step fun b hb => hs b (h.own_lt_l hx b hb) (h.footL k x b hx hb)
    kids := fun k x hx => (h.kids k x hx).step fun b hb => hs b (h.own_lt_k hx b hb) (h.footK k x b hx hb) }
theorem Tw.below (h : Tw w F B N cap fv L fr root bytes) (hb : Below w.heap.size w w') : Tw w' F B N cap fv L fr root bytes := h.step fun b hl _ => hb.block b hl
theorem Tw.drewN (h : Tw w F B N cap fv L fr root bytes) (n : Nat) : Tw (w.drewN n) F B N cap fv L fr root bytes := h.step fun _ _ _ => rfl
theorem Tw.drew (h : Tw w F B N cap fv L fr root bytes) : Tw w.drew F B N cap fv L fr root bytes := h.step fun _ _ _ => rfl
theorem Tw.alloc (h : Tw w F B N cap fv L fr root bytes) (o : Obj) : Tw (w.alloc o) F B N cap fv L fr root bytes := h.step fun b hl _ => Below.heap_alloc w o b hl

theorem pus_set (L : List NV) (k : Nat) (x : NV) : pus (L.set k x) = (pus L).set k x.pu := by simp [pus, List.map_set]
theorem set_get {L : List NV} {k : Nat} {x y z : NV} {j : Nat} (hx : L[k]? = some x) (h : (L.set k y)[j]? = some z) : (j = k ∧ z = y) ∨ (j ≠ k ∧ L[j]? = some z) := by
  rw [List.getElem?_set] at h
  by_cases e : k = j
  · subst e
    rw [if_pos rfl, if_pos (List.getElem?_eq_some_iff.1 hx).1] at h
    injection h with h
    exact .inl ⟨rfl, h.symm⟩
  · rw [if_neg e] at h
    exact .inr ⟨fun e2 => e e2.symm, h⟩

theorem row_set {w : World} {L : List NV} {N cap k j : Nat} {x y : NV} {v : Value} (hr : ∃ rest, w.heap[N]? = some (.cells (flat L ++ rest).toArray 100 (0, 0)) ∧ cap * 3 ≤ (flat L ++ rest).length) (hx : L[k]? = some x) (hj : j < 3) (hy : y.cells = x.cells.set j v) :
    ∃ rest, (w.setCell ⟨N, k * 3 + j, none⟩ v).heap[N]? = some (.cells (flat (L.set k y) ++ rest).toArray 100 (0, 0)) ∧ cap * 3 ≤ (flat (L.set k y) ++ rest).length := by
  obtain ⟨rest, hr, hc⟩ := hr
  have hk := (List.getElem?_eq_some_iff.1 hx).1
  refine ⟨rest, ?_, ?_⟩
  · rw [blk_set hr, ← flat_set hx hj hy]
    refine congrArg (fun z : Array Value => some (Obj.cells z _ (0, 0))) ?_
    apply Array.ext'
    rw [Array.toList_setIfInBounds]
    simp only [List.set_append]
    rw [if_pos (by rw [flat_length]; omega)]
  · rw [List.length_append, flat_length] at hc ⊢
    rw [List.length_set]
    exact hc

/-- a node's lines -/
theorem Tw.setLs (h : Tw w F B N cap fv L fr root bytes) {k : Nat} {x : NV} (hx : L[k]? = some x) {w2 : World} (hg : w.grownBy w2 x.vl.ownBlock) {v : Value} {ls : List ByteArray} (hv : Rw w2 9 v (cS ls))
    (hF : ∀ b, v.ownBlock = some b → F b ∧ ∀ (j : Nat) (z : NV), L[j]? = some z → j ≠ k → z.vl.ownBlock ≠ some b) : Tw (w2.setCell ⟨N, k * 3, none⟩ v) F B N cap fv (L.set k ⟨v, x.vk, ls, x.ks, x.ct⟩) fr root bytes := by
  have hkeep : ∀ b, b < w.heap.size → some b ≠ x.vl.ownBlock → b ≠ N → (w2.setCell ⟨N, k * 3, none⟩ v).heap[b]? = w.heap[b]? := fun b h1 h2 h3 => by rw [Below.heap_setCell _ _ _ _ h3]; exact hg.block b h1 h2
  have hlX := h.lines k x hx
  have neT : ∀ {b : Nat} {cells : Array Value} {t : TypeId}, w.heap[b]? = some (.cells cells t (0, 0)) → 9 ≠ t → some b ≠ x.vl.ownBlock := fun hb ht e => hlX.ne hb ht e.symm
  have hN2 : ∃ rest, w2.heap[N]? = some (.cells (flat L ++ rest).toArray 100 (0, 0)) ∧ cap * 3 ≤ (flat L ++ rest).length := by
    obtain ⟨rest, hr, hc⟩ := h.row
    exact ⟨rest, by rw [hg.block N h.ltN (neT hr (by decide))]; exact hr, hc⟩
  have hne2 : ∀ {e : TypeId} {u : Value} {cs : List Value}, Rw w e u cs → e ≠ 100 → ∀ b, u.ownBlock = some b → b ≠ N := fun hu he b hb e => by
    obtain ⟨rest, hr, _⟩ := h.row
    exact hu.ne hr he (e ▸ hb)
  have hneI : ∀ {u : Value} {cs : List Value}, Rw w 3 u cs → ∀ b, u.ownBlock = some b → some b ≠ x.vl.ownBlock := fun hu b hb e => by
    obtain ⟨c2, h2⟩ := hu.typed b hb
    exact neT h2 (by decide) e
  exact {
    box := by rw [hkeep B h.ltB (neT h.box (by decide)) h.BN, List.length_set]; exact h.box
    row := row_set (j := 0) hN2 hx (by omega) rfl
    le := by rw [List.length_set]; exact h.le
    fit := h.fit
    free := h.free.step fun b hb => hkeep b (h.free.lt b hb) (hneI h.free b hb) (hne2 h.free (by decide) b hb)
    lines := fun j z hz => by
      rcases set_get hx hz with ⟨rfl, rfl⟩ | ⟨hj, hz'⟩
      · refine hv.step fun b hb => Below.heap_setCell _ _ _ _ ?_
        obtain ⟨c2, h2⟩ := hv.typed b hb
        intro e
        have e : b = N := e
        obtain ⟨rest, hr, _⟩ := hN2
        rw [e, hr] at h2
        injection h2 with h2
        injection h2 with _ h2 _
        exact absurd h2 (by decide)
      · exact (h.lines j z hz').step fun b hb => hkeep b (h.own_lt_l hz' b hb) (fun e => hj (h.apartL j k z x b hz' hx hb e.symm)) (hne2 (h.lines j z hz') (by decide) b hb)
    kids := fun j z hz => by
      rcases set_get hx hz with ⟨rfl, rfl⟩ | ⟨hj, hz'⟩
      · exact (h.kids j x hx).step fun b hb => hkeep b (h.own_lt_k hx b hb) (hneI (h.kids j x hx) b hb) (hne2 (h.kids j x hx) (by decide) b hb)
      · exact (h.kids j z hz').step fun b hb => hkeep b (h.own_lt_k hz' b hb) (hneI (h.kids j z hz') b hb) (hne2 (h.kids j z hz') (by decide) b hb)
    apartL := fun i j y z b hy hz h1 h2 => by
      rcases set_get hx hy with ⟨rfl, rfl⟩ | ⟨hi, hy'⟩
      · rcases set_get hx hz with ⟨rfl, rfl⟩ | ⟨hj, hz'⟩
        · rfl
        · exact absurd h2 ((hF b h1).2 j z hz' hj)
      · rcases set_get hx hz with ⟨rfl, rfl⟩ | ⟨hj, hz'⟩
        · exact absurd h1 ((hF b h2).2 i y hy' hi)
        · exact h.apartL i j y z b hy' hz' h1 h2
    apartK := fun i j y z b hy hz h1 h2 => by
      rcases set_get hx hy with ⟨rfl, rfl⟩ | ⟨hi, hy'⟩
      · rcases set_get hx hz with ⟨rfl, rfl⟩ | ⟨hj, hz'⟩
        · rfl
        · exact h.apartK i j x z b hx hz' h1 h2
      · rcases set_get hx hz with ⟨rfl, rfl⟩ | ⟨hj, hz'⟩
        · exact h.apartK i j y x b hy' hx h1 h2
        · exact h.apartK i j y z b hy' hz' h1 h2
    apartF := fun i y b hy h1 => by
      rcases set_get hx hy with ⟨rfl, rfl⟩ | ⟨hi, hy'⟩
      · exact h.apartF i x b hx h1
      · exact h.apartF i y b hy' h1
    footB := h.footB
    footN := h.footN
    footF := h.footF
    footL := fun j z b hz hb => by
      rcases set_get hx hz with ⟨rfl, rfl⟩ | ⟨_, hz'⟩
      · exact (hF b hb).1
      · exact h.footL j z b hz' hb
    footK := fun j z b hz hb => by
      rcases set_get hx hz with ⟨rfl, rfl⟩ | ⟨_, hz'⟩
      · exact h.footK j x b hx hb
      · exact h.footK j z b hz' hb }

/-- a node's kids -/
theorem Tw.setKs (h : Tw w F B N cap fv L fr root bytes) {k : Nat} {x : NV} (hx : L[k]? = some x) {w2 : World} (hg : w.grownBy w2 x.vk.ownBlock) {v : Value} {ks : List Nat} (hv : Rw w2 3 v (cK ks))
    (hF : ∀ b, v.ownBlock = some b → F b ∧ fv.ownBlock ≠ some b ∧ ∀ (j : Nat) (z : NV), L[j]? = some z → j ≠ k → z.vk.ownBlock ≠ some b) : Tw (w2.setCell ⟨N, k * 3 + 1, none⟩ v) F B N cap fv (L.set k ⟨x.vl, v, x.ls, ks, x.ct⟩) fr root bytes := by
  have hkeep : ∀ b, b < w.heap.size → some b ≠ x.vk.ownBlock → b ≠ N → (w2.setCell ⟨N, k * 3 + 1, none⟩ v).heap[b]? = w.heap[b]? := fun b h1 h2 h3 => by rw [Below.heap_setCell _ _ _ _ h3]; exact hg.block b h1 h2
  have hlX := h.kids k x hx
  have neT : ∀ {b : Nat} {cells : Array Value} {t : TypeId}, w.heap[b]? = some (.cells cells t (0, 0)) → 3 ≠ t → some b ≠ x.vk.ownBlock := fun hb ht e => hlX.ne hb ht e.symm
  have hN2 : ∃ rest, w2.heap[N]? = some (.cells (flat L ++ rest).toArray 100 (0, 0)) ∧ cap * 3 ≤ (flat L ++ rest).length := by
    obtain ⟨rest, hr, hc⟩ := h.row
    exact ⟨rest, by rw [hg.block N h.ltN (neT hr (by decide))]; exact hr, hc⟩
  have hne2 : ∀ {e : TypeId} {u : Value} {cs : List Value}, Rw w e u cs → e ≠ 100 → ∀ b, u.ownBlock = some b → b ≠ N := fun hu he b hb e => by
    obtain ⟨rest, hr, _⟩ := h.row
    exact hu.ne hr he (e ▸ hb)
  have hneS : ∀ {u : Value} {cs : List Value}, Rw w 9 u cs → ∀ b, u.ownBlock = some b → some b ≠ x.vk.ownBlock := fun hu b hb e => by
    obtain ⟨c2, h2⟩ := hu.typed b hb
    exact neT h2 (by decide) e
  exact {
    box := by rw [hkeep B h.ltB (neT h.box (by decide)) h.BN, List.length_set]; exact h.box
    row := row_set (j := 1) hN2 hx (by omega) rfl
    le := by rw [List.length_set]; exact h.le
    fit := h.fit
    free := h.free.step fun b hb => hkeep b (h.free.lt b hb) (fun e => h.apartF k x b hx e.symm hb) (hne2 h.free (by decide) b hb)
    lines := fun j z hz => by
      rcases set_get hx hz with ⟨rfl, rfl⟩ | ⟨hj, hz'⟩
      · exact (h.lines j x hx).step fun b hb => hkeep b (h.own_lt_l hx b hb) (hneS (h.lines j x hx) b hb) (hne2 (h.lines j x hx) (by decide) b hb)
      · exact (h.lines j z hz').step fun b hb => hkeep b (h.own_lt_l hz' b hb) (hneS (h.lines j z hz') b hb) (hne2 (h.lines j z hz') (by decide) b hb)
    kids := fun j z hz => by
      rcases set_get hx hz with ⟨rfl, rfl⟩ | ⟨hj, hz'⟩
      · refine hv.step fun b hb => Below.heap_setCell _ _ _ _ ?_
        obtain ⟨c2, h2⟩ := hv.typed b hb
        intro e
        have e : b = N := e
        obtain ⟨rest, hr, _⟩ := hN2
        rw [e, hr] at h2
        injection h2 with h2
        injection h2 with _ h2 _
        exact absurd h2 (by decide)
      · exact (h.kids j z hz').step fun b hb => hkeep b (h.own_lt_k hz' b hb) (fun e => hj (h.apartK j k z x b hz' hx hb e.symm)) (hne2 (h.kids j z hz') (by decide) b hb)
    apartK := fun i j y z b hy hz h1 h2 => by
      rcases set_get hx hy with ⟨rfl, rfl⟩ | ⟨hi, hy'⟩
      · rcases set_get hx hz with ⟨rfl, rfl⟩ | ⟨hj, hz'⟩
        · rfl
        · exact absurd h2 ((hF b h1).2.2 j z hz' hj)
      · rcases set_get hx hz with ⟨rfl, rfl⟩ | ⟨hj, hz'⟩
        · exact absurd h1 ((hF b h2).2.2 i y hy' hi)
        · exact h.apartK i j y z b hy' hz' h1 h2
    apartL := fun i j y z b hy hz h1 h2 => by
      rcases set_get hx hy with ⟨rfl, rfl⟩ | ⟨hi, hy'⟩
      · rcases set_get hx hz with ⟨rfl, rfl⟩ | ⟨hj, hz'⟩
        · rfl
        · exact h.apartL i j x z b hx hz' h1 h2
      · rcases set_get hx hz with ⟨rfl, rfl⟩ | ⟨hj, hz'⟩
        · exact h.apartL i j y x b hy' hx h1 h2
        · exact h.apartL i j y z b hy' hz' h1 h2
    apartF := fun i y b hy h1 => by
      rcases set_get hx hy with ⟨rfl, rfl⟩ | ⟨hi, hy'⟩
      · exact (hF b h1).2.1
      · exact h.apartF i y b hy' h1
    footB := h.footB
    footN := h.footN
    footF := h.footF
    footL := fun j z b hz hb => by
      rcases set_get hx hz with ⟨rfl, rfl⟩ | ⟨_, hz'⟩
      · exact h.footL j x b hx hb
      · exact h.footL j z b hz' hb
    footK := fun j z b hz hb => by
      rcases set_get hx hz with ⟨rfl, rfl⟩ | ⟨_, hz'⟩
      · exact (hF b hb).1
      · exact h.footK j z b hz' hb }

/-- a node's count -/
theorem Tw.setCt (h : Tw w F B N cap fv L fr root bytes) {k : Nat} {x : NV} (hx : L[k]? = some x) (c : Int) : Tw (w.setCell ⟨N, k * 3 + 2, none⟩ (.int .i64 c)) F B N cap fv (L.set k ⟨x.vl, x.vk, x.ls, x.ks, c⟩) fr root bytes := by
  have hkeep : ∀ b, b ≠ N → (w.setCell ⟨N, k * 3 + 2, none⟩ (.int .i64 c)).heap[b]? = w.heap[b]? := fun b h3 => Below.heap_setCell _ _ _ _ h3
  have hne2 : ∀ {e : TypeId} {u : Value} {cs : List Value}, Rw w e u cs → e ≠ 100 → ∀ b, u.ownBlock = some b → b ≠ N := fun hu he b hb e => by
    obtain ⟨rest, hr, _⟩ := h.row
    exact hu.ne hr he (e ▸ hb)
  exact {
    box := by rw [hkeep B h.BN, List.length_set]; exact h.box
    row := row_set (j := 2) h.row hx (by omega) rfl
    le := by rw [List.length_set]; exact h.le
    fit := h.fit
    free := h.free.step fun b hb => hkeep b (hne2 h.free (by decide) b hb)
    lines := fun j z hz => by
      rcases set_get hx hz with ⟨rfl, rfl⟩ | ⟨hj, hz'⟩
      · exact (h.lines j x hx).step fun b hb => hkeep b (hne2 (h.lines j x hx) (by decide) b hb)
      · exact (h.lines j z hz').step fun b hb => hkeep b (hne2 (h.lines j z hz') (by decide) b hb)
    kids := fun j z hz => by
      rcases set_get hx hz with ⟨rfl, rfl⟩ | ⟨hj, hz'⟩
      · exact (h.kids j x hx).step fun b hb => hkeep b (hne2 (h.kids j x hx) (by decide) b hb)
      · exact (h.kids j z hz').step fun b hb => hkeep b (hne2 (h.kids j z hz') (by decide) b hb)
    apartL := fun i j y z b hy hz h1 h2 => by
      rcases set_get hx hy with ⟨rfl, rfl⟩ | ⟨hi, hy'⟩
      · rcases set_get hx hz with ⟨rfl, rfl⟩ | ⟨hj, hz'⟩
        · rfl
        · exact h.apartL i j x z b hx hz' h1 h2
      · rcases set_get hx hz with ⟨rfl, rfl⟩ | ⟨hj, hz'⟩
        · exact h.apartL i j y x b hy' hx h1 h2
        · exact h.apartL i j y z b hy' hz' h1 h2
    apartK := fun i j y z b hy hz h1 h2 => by
      rcases set_get hx hy with ⟨rfl, rfl⟩ | ⟨hi, hy'⟩
      · rcases set_get hx hz with ⟨rfl, rfl⟩ | ⟨hj, hz'⟩
        · rfl
        · exact h.apartK i j x z b hx hz' h1 h2
      · rcases set_get hx hz with ⟨rfl, rfl⟩ | ⟨hj, hz'⟩
        · exact h.apartK i j y x b hy' hx h1 h2
        · exact h.apartK i j y z b hy' hz' h1 h2
    apartF := fun i y b hy h1 => by
      rcases set_get hx hy with ⟨rfl, rfl⟩ | ⟨hi, hy'⟩
      · exact h.apartF i x b hx h1
      · exact h.apartF i y b hy' h1
    footB := h.footB
    footN := h.footN
    footF := h.footF
    footL := fun j z b hz hb => by
      rcases set_get hx hz with ⟨rfl, rfl⟩ | ⟨_, hz'⟩
      · exact h.footL j x b hx hb
      · exact h.footL j z b hz' hb
    footK := fun j z b hz hb => by
      rcases set_get hx hz with ⟨rfl, rfl⟩ | ⟨_, hz'⟩
      · exact h.footK j x b hx hb
      · exact h.footK j z b hz' hb }

theorem Tw.B_rows (h : Tw w F B N cap fv L fr root bytes) {e : TypeId} {u : Value} {cs : List Value} (hu : Rw w e u cs) (he : e ≠ 74) : ∀ b, u.ownBlock = some b → b ≠ B := fun b hb e2 => hu.ne h.box he (e2 ▸ hb)
/-- the free ones -/
theorem Tw.setFr (h : Tw w F B N cap fv L fr root bytes) {w2 : World} (hg : w.grownBy w2 fv.ownBlock) {v : Value} {fr2 : List Nat} (hv : Rw w2 3 v (cK fr2)) (hF : ∀ b, v.ownBlock = some b → F b ∧ ∀ (j : Nat) (z : NV), L[j]? = some z → z.vk.ownBlock ≠ some b) :
    Tw (w2.setCell ⟨B, 1, none⟩ v) F B N cap v L fr2 root bytes := by
  have hkeep : ∀ b, b < w.heap.size → some b ≠ fv.ownBlock → b ≠ B → (w2.setCell ⟨B, 1, none⟩ v).heap[b]? = w.heap[b]? := fun b h1 h2 h3 => by rw [Below.heap_setCell _ _ _ _ h3]; exact hg.block b h1 h2
  have neT : ∀ {b : Nat} {cells : Array Value} {t : TypeId}, w.heap[b]? = some (.cells cells t (0, 0)) → 3 ≠ t → some b ≠ fv.ownBlock := fun hb ht e => h.free.ne hb ht e.symm
  obtain ⟨rest, hr, hc⟩ := h.row
  have hB2 : w2.heap[B]? = w.heap[B]? := hg.block B h.ltB (neT h.box (by decide))
  exact { h with
    box := by rw [blk_set (hB2.trans h.box)]; simp
    row := ⟨rest, by rw [hkeep N h.ltN (neT hr (by decide)) (fun e => h.BN e.symm)]; exact hr, hc⟩
    free := hv.step fun b hb => Below.heap_setCell _ _ _ _ (by
      obtain ⟨c2, h2⟩ := hv.typed b hb
      intro e
      have e : b = B := e
      rw [e, hB2, h.box] at h2
      injection h2 with h2
      injection h2 with _ h2 _
      exact absurd h2 (by decide))
    lines := fun j z hz => (h.lines j z hz).step fun b hb => hkeep b (h.own_lt_l hz b hb) (by
      obtain ⟨c2, h2⟩ := (h.lines j z hz).typed b hb
      exact neT h2 (by decide)) (h.B_rows (h.lines j z hz) (by decide) b hb)
    kids := fun j z hz => (h.kids j z hz).step fun b hb => hkeep b (h.own_lt_k hz b hb) (fun e => h.apartF j z b hz hb e.symm) (h.B_rows (h.kids j z hz) (by decide) b hb)
    apartF := fun i y b hy h1 e => (hF b e).2 i y hy h1
    footF := fun b hb => (hF b hb).1 }
theorem Tw.setRoot (h : Tw w F B N cap fv L fr root bytes) (r : Nat) : Tw (w.setCell ⟨B, 2, none⟩ (.int .i64 r)) F B N cap fv L fr r bytes := by
  have hkeep : ∀ b, b ≠ B → (w.setCell ⟨B, 2, none⟩ (.int .i64 r)).heap[b]? = w.heap[b]? := fun b h3 => Below.heap_setCell _ _ _ _ h3
  obtain ⟨rest, hr, hc⟩ := h.row
  exact { h with
    box := by rw [blk_set h.box]; simp
    row := ⟨rest, by rw [hkeep N (fun e => h.BN e.symm)]; exact hr, hc⟩
    free := h.free.step fun b hb => hkeep b (h.B_rows h.free (by decide) b hb)
    lines := fun j z hz => (h.lines j z hz).step fun b hb => hkeep b (h.B_rows (h.lines j z hz) (by decide) b hb)
    kids := fun j z hz => (h.kids j z hz).step fun b hb => hkeep b (h.B_rows (h.kids j z hz) (by decide) b hb) }
theorem Tw.setBytes (h : Tw w F B N cap fv L fr root bytes) (r : Int) : Tw (w.setCell ⟨B, 3, none⟩ (.int .i64 r)) F B N cap fv L fr root r := by
  have hkeep : ∀ b, b ≠ B → (w.setCell ⟨B, 3, none⟩ (.int .i64 r)).heap[b]? = w.heap[b]? := fun b h3 => Below.heap_setCell _ _ _ _ h3
  obtain ⟨rest, hr, hc⟩ := h.row
  exact { h with
    box := by rw [blk_set h.box]; simp
    row := ⟨rest, by rw [hkeep N (fun e => h.BN e.symm)]; exact hr, hc⟩
    free := h.free.step fun b hb => hkeep b (h.B_rows h.free (by decide) b hb)
    lines := fun j z hz => (h.lines j z hz).step fun b hb => hkeep b (h.B_rows (h.lines j z hz) (by decide) b hb)
    kids := fun j z hz => (h.kids j z hz).step fun b hb => hkeep b (h.B_rows (h.kids j z hz) (by decide) b hb) }

/-- a tree in memory, its places forgotten -/
def Ta (w : World) (F : Nat → Prop) (B : Nat) (A : List Bt.Nd) (fr : List Nat) (root : Nat) : Prop := ∃ (N cap : Nat) (fv : Value) (bytes : Int) (L : List NV), Tw w F B N cap fv L fr root bytes ∧ pus L = A
theorem Tw.ta (h : Tw w F B N cap fv L fr root bytes) {A : List Bt.Nd} (hA : pus L = A) : Ta w F B A fr root := ⟨N, cap, fv, bytes, L, h, hA⟩
theorem Ta.step {A : List Bt.Nd} (h : Ta w F B A fr root) (hs : ∀ b, b < w.heap.size → F b → w'.heap[b]? = w.heap[b]?) : Ta w' F B A fr root := by
  obtain ⟨N, cap, fv, bytes, L, h, hA⟩ := h
  exact (h.step hs).ta hA
theorem Ta.below {A : List Bt.Nd} (h : Ta w F B A fr root) (hb : Below w.heap.size w w') : Ta w' F B A fr root := h.step fun b hl _ => hb.block b hl
theorem Ta.drewN {A : List Bt.Nd} (h : Ta w F B A fr root) (n : Nat) : Ta (w.drewN n) F B A fr root := h.step fun _ _ _ => rfl
theorem Ta.drew {A : List Bt.Nd} (h : Ta w F B A fr root) : Ta w.drew F B A fr root := h.step fun _ _ _ => rfl
theorem Ta.alloc {A : List Bt.Nd} (h : Ta w F B A fr root) (o : Obj) : Ta (w.alloc o) F B A fr root := h.step fun b hl _ => Below.heap_alloc w o b hl

/-- what may have turned: blocks in F, and new ones -/
structure Chg (F : Nat → Prop) (w w' : World) : Prop where
  os : w'.os = w.os
  tape : w'.tape = w.tape
  output : w'.output = w.output
  size : w.heap.size ≤ w'.heap.size
  block : ∀ k, k < w.heap.size → ¬ F k → w'.heap[k]? = w.heap[k]?
theorem Chg.refl (F : Nat → Prop) (w : World) : Chg F w w := ⟨rfl, rfl, rfl, Nat.le_refl _, fun _ _ _ => rfl⟩
theorem Chg.trans {a b c : World} (h : Chg F a b) (k : Chg F b c) : Chg F a c :=
  ⟨k.os.trans h.os, k.tape.trans h.tape, k.output.trans h.output, Nat.le_trans h.size k.size, fun i hi hf => (k.block i (Nat.lt_of_lt_of_le hi h.size) hf).trans (h.block i hi hf)⟩
theorem Chg.grown {a b c : World} {r : Option Nat} (h : Chg F a b) (k : b.grownBy c r) (hr : ∀ i, r = some i → F i) : Chg F a c :=
  h.trans ⟨k.os, k.tape, k.output, k.size, fun i hi hf => k.block i hi (fun e => hf (hr i e.symm))⟩
theorem Chg.below {a b c : World} (h : Chg F a b) (k : Below b.heap.size b c) : Chg F a c :=
  h.trans ⟨k.os, k.tape, k.output, k.size, fun i hi _ => k.block i hi⟩
theorem Chg.setCell {a b : World} (h : Chg F a b) {p : Addr} (hp : F p.block) (v : Value) : Chg F a (b.setCell p v) :=
  h.trans ⟨rfl, rfl, rfl, by simp [World.setCell], fun i _ hf => Below.heap_setCell _ _ _ _ (fun e => hf (e ▸ hp))⟩
theorem Chg.alloc {a b : World} (h : Chg F a b) (o : Obj) : Chg F a (b.alloc o) :=
  h.trans ⟨rfl, rfl, rfl, by simp, fun i hi _ => Below.heap_alloc _ _ _ hi⟩
theorem Chg.drewN {a b : World} (h : Chg F a b) (n : Nat) : Chg F a (b.drewN n) := ⟨h.os, h.tape, h.output, h.size, h.block⟩
theorem Chg.drew {a b : World} (h : Chg F a b) : Chg F a b.drew := ⟨h.os, h.tape, h.output, h.size, h.block⟩
end
end Go.Proofs.YtdhemdeapphfoaaGreatDoor
