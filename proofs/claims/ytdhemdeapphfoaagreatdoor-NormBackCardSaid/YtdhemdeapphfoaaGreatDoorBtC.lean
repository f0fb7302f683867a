/- The tree's make, walked. -/
import Derived.Test.YtdhemdeapphfoaaGreatDoorBtB
set_option linter.unusedVariables false
set_option linter.unusedSimpArgs false
namespace Go.Proofs.YtdhemdeapphfoaaGreatDoor
open Go.RowKit Go.Shelf Go.Proofs.YtdhemdeapphfoaaGreatDoorW.PrintWords Go.Proofs.YtdhemdeapphfoaaGreatDoorW.PrintLast

def NV.agg (y : NV) : Value := .agg #[y.vl, y.vk, .int .i64 y.ct]
/-- a node that is not in the tree yet -/
structure Fresh (w : World) (F : Nat → Prop) (fv : Value) (L : List NV) (y : NV) : Prop where
  lines : Rw w 9 y.vl (cS y.ls)
  kids : Rw w 3 y.vk (cK y.ks)
  footL : ∀ b, y.vl.ownBlock = some b → F b ∧ ∀ (j : Nat) (z : NV), L[j]? = some z → z.vl.ownBlock ≠ some b
  footK : ∀ b, y.vk.ownBlock = some b → F b ∧ fv.ownBlock ≠ some b ∧ ∀ (j : Nat) (z : NV), L[j]? = some z → z.vk.ownBlock ≠ some b

theorem slice_one {w : World} {e : TypeId} {v : Value} {cs : List Value} (h : Rw w e v cs) : v.oneCell' = true := by
  rcases h.2 with ⟨rfl, _⟩ | ⟨g, cap, rest, rfl, _⟩ <;> rfl

section
variable {w : World} {F : Nat → Prop} {B N cap : Nat} {fv : Value} {L : List NV} {fr : List Nat} {root : Nat} {bytes : Int}
/-- all of a node -/
theorem Tw.setNode (h : Tw w F B N cap fv L fr root bytes) {k : Nat} {x : NV} (hx : L[k]? = some x) {y : NV} (h1 : Rw w 9 y.vl (cS y.ls)) (h2 : Rw w 3 y.vk (cK y.ks))
    (hF1 : ∀ b, y.vl.ownBlock = some b → F b ∧ ∀ (j : Nat) (z : NV), L[j]? = some z → j ≠ k → z.vl.ownBlock ≠ some b) (hF2 : ∀ b, y.vk.ownBlock = some b → F b ∧ fv.ownBlock ≠ some b ∧ ∀ (j : Nat) (z : NV), L[j]? = some z → j ≠ k → z.vk.ownBlock ≠ some b) :
    Tw (((w.setCell ⟨N, k * 3, none⟩ y.vl).setCell ⟨N, k * 3 + 1, none⟩ y.vk).setCell ⟨N, k * 3 + 2, none⟩ (.int .i64 y.ct)) F B N cap fv (L.set k y) fr root bytes := by
  have hk := (List.getElem?_eq_some_iff.1 hx).1
  have hneN : ∀ {e : TypeId} {u : Value} {cs : List Value}, Rw w e u cs → e ≠ 100 → ∀ b, u.ownBlock = some b → b ≠ N := fun hu he b hb e => by
    obtain ⟨rest, hr, _⟩ := h.row
    exact hu.ne hr he (e ▸ hb)
  have a1 := h.setLs hx (grown_id w _) (v := y.vl) (ls := y.ls) h1 hF1
  have g2 : Rw (w.setCell ⟨N, k * 3, none⟩ y.vl) 3 y.vk (cK y.ks) := h2.step fun b hb => Below.heap_setCell _ _ _ _ (hneN h2 (by decide) b hb)
  have a2 := a1.setKs (k := k) (x := ⟨y.vl, x.vk, y.ls, x.ks, x.ct⟩) (by simp [hk]) (grown_id _ _) (v := y.vk) (ks := y.ks) g2 (fun b hb => ⟨(hF2 b hb).1, (hF2 b hb).2.1, fun j z hz hj => by
    rw [List.getElem?_set, if_neg (fun e => hj e.symm)] at hz
    exact (hF2 b hb).2.2 j z hz hj⟩)
  have a3 := a2.setCt (k := k) (x := ⟨y.vl, y.vk, y.ls, y.ks, x.ct⟩) (by simp [hk]) y.ct
  simpa only [List.set_set] using a3
end

set_option maxRecDepth 100000 in
theorem make_old {w : World} {F : Nat → Prop} {B N cap : Nat} {fv : Value} {L : List NV} {fr : List Nat} {m root : Nat} {bytes : Int} (h : Tw w F B N cap fv L (fr ++ [m]) root bytes) {x : NV} (hx : L[m]? = some x)
    (hF : ∀ b, w.heap.size ≤ b → F b) {y : NV} (hy : Fresh w F fv L y) :
    Calls Tryz.prog 49 #[.pointer (some ⟨B, 0, none⟩), y.agg] w fun e w' => e = .returned (.int .i64 m) ∧ Ta w' F B ((pus L).set m y.pu) fr root ∧ Chg F w w' := by
  have b0 := h.c0
  have b1 := h.c1
  have y1 := h.zB 1
  have n0 := h.n0 hx
  have n1 := h.n1 hx
  have n2 := h.n2 hx
  have hml := (List.getElem?_eq_some_iff.1 hx).1
  have hf := h.fit
  have hle := h.le
  unfold maxLen at hf
  have hml' : (m : Int) < L.length := by omega
  have z0 := h.zN (m * 3)
  have z1 := h.zN (m * 3 + 1)
  have z2 := h.zN (m * 3 + 2)
  have hBN := h.BN
  have hNB : ¬ N = B := fun e => hBN e.symm
  have hBl := h.ltB
  have hNl := h.ltN
  obtain ⟨A, c, hv, hlc, hcm, hA⟩ := h.free.slice
  rw [cK_len, List.length_append, List.length_singleton] at hv hlc hA
  obtain ⟨g, rfl⟩ := hA (by omega)
  unfold maxLen at hcm
  have hrow := h.free
  rw [hv] at hrow b1
  have hcell := hrow.cell (j := fr.length) (cK_at (k := m) (by simp))
  have hgl : g < w.heap.size := h.free.lt g (by rw [hv]; rfl)
  have hgB : ¬ g = B := fun e => h.B_rows h.free (by decide) g (by rw [hv]; rfl) e
  have HT := Lib.hid h
  have HR := Lib.hid hrow
  have HV := Lib.hid hv
  have HF := Lib.hid hF
  obtain ⟨yl, yk, ls, ks, ct⟩ := y
  obtain ⟨A1, c1, hv1, _⟩ := hy.lines.slice
  obtain ⟨A2, c2, hv2, _⟩ := hy.kids.slice
  simp only at hv1 hv2
  rw [cS_len] at hv1
  rw [cK_len] at hv2
  subst hv1 hv2
  have HY := Lib.hid hy
  have HX := Lib.hid hx
  clear hv h hx hA hrow hy hF
  unfold NV.agg
  go_enter Tryz.func49, Tryz.ntmps49
  go_wp2
  go_region
  go_wp2
  go_ret
  have hR9 : Rw w 3 (.slice (some ⟨g, 0, none⟩) fr.length c) (cK fr) := by
    have h9 := HR.out.take (m := fr.length) (c' := c) (by omega) (by omega) (Nat.le_refl _)
    rw [cK_app, List.take_left' (cK_len fr)] at h9
    exact h9
  have t1 := HT.out.setFr (grown_id w _) hR9 (fun b hb => HT.out.at_f HF.out (v := fv) (.inl rfl) b (by rw [HV.out]; exact hb))
  have t2 := t1.setNode HX.out (y := ⟨.slice A1 ls.length c1, .slice A2 ks.length c2, ls, ks, ct⟩) (HY.out.lines.step fun b hb => Below.heap_setCell _ _ _ _ (HT.out.B_rows HY.out.lines (by decide) b hb)) (HY.out.kids.step fun b hb => Below.heap_setCell _ _ _ _ (HT.out.B_rows HY.out.kids (by decide) b hb))
    (fun b hb => ⟨(HY.out.footL b hb).1, fun j z hz _ => (HY.out.footL b hb).2 j z hz⟩) (fun b hb => ⟨(HY.out.footK b hb).1, fun e => (HY.out.footK b hb).2.1 (by rw [HV.out]; exact e), fun j z hz _ => (HY.out.footK b hb).2.2 j z hz⟩)
  exact ⟨rfl, ((t2.alloc _).drew).ta (pus_set _ _ _), ((((((Chg.refl F w).setCell (p := ⟨B, 1, none⟩) HT.out.footB _).setCell (p := ⟨N, m * 3, none⟩) HT.out.footN _).setCell (p := ⟨N, m * 3 + 1, none⟩) HT.out.footN _).setCell (p := ⟨N, m * 3 + 2, none⟩) HT.out.footN _).alloc _).drew⟩

theorem infoN : (Tryz.prog.info? 100).map (fun i => (i.zero, i.size, i.bytes)) = some (some (.agg #[.slice none 0 0, .slice none 0 0, .int .i64 0]), 3, 56) := by kernel_rfl

section
variable {w : World} {F : Nat → Prop} {B N cap : Nat} {fv : Value} {L : List NV} {fr : List Nat} {root : Nat} {bytes : Int}
theorem run_append_nd (h : Tw w F B N cap fv L fr root bytes) (y : NV) {xv : Value} {ty : TypeId} (hs : Src Tryz.prog 3 71 xv 1 y.cells w) (hlen : L.length + 1 ≤ 1000000000000) :
    ∃ (N' cap' : Nat) (w' : World), (Builtin.append_ #[71, 71] ty #[.slice (some ⟨N, 0, none⟩) L.length cap, xv]).run Tryz.prog w = .ok (.slice (some ⟨N', 0, none⟩) (L.length + 1) cap') w' ∧ w.grownBy w' (some N) ∧ (N' = N ∨ w.heap.size ≤ N') ∧
      (∃ rest, w'.heap[N']? = some (.cells (flat (L ++ [y]) ++ rest).toArray 100 (0, 0)) ∧ cap' * 3 ≤ (flat (L ++ [y]) ++ rest).length) ∧ L.length + 1 ≤ cap' ∧ cap' ≤ maxLen := by
  obtain ⟨i, hi, hz0, hz1, hz2⟩ := info_parts infoN
  have hfl : flat (L ++ [y]) = flat L ++ y.cells := by simp [flat]
  have hle := h.le
  have hfit := h.fit
  obtain ⟨rest, hr, hc⟩ := h.row
  have hs' : Src Tryz.prog i.size 71 xv 1 y.cells w := by rw [hz1]; exact hs
  by_cases hroom : L.length + 1 ≤ cap
  · rw [List.length_append, flat_length] at hc
    have hsome : ∀ j, j < y.cells.length → (w.cell? ⟨N, 0 + L.length * i.size + j, none⟩).isSome = true := fun j hj => by
      rw [hz1, blk_cell hr, List.getElem?_toArray, List.getElem?_eq_getElem (by rw [List.length_append, flat_length]; simp [NV.cells] at hj; omega)]
      rfl
    have hrun := run_append_room_src (P := Tryz.prog) w 71 71 ty 100 i Tryz.underlying71 hi N 0 L.length cap xv 1 y.cells hs' hroom hsome (fun j _ => blk_frozen hr _)
    obtain ⟨old, post, rfl, hol⟩ : ∃ old post, rest = old ++ post ∧ old.length = y.cells.length := ⟨rest.take 3, rest.drop 3, (List.take_append_drop _ _).symm, by rw [List.length_take]; simp [NV.cells]; omega⟩
    have h5 := blk_setCells y.cells w (flat L) old post hr hol
    rw [hz1, Nat.zero_add, ← flat_length] at hrun
    refine ⟨N, cap, _, hrun, grown_setCells N _ _ _, .inl rfl, ⟨post, ?_, ?_⟩, hroom, hfit⟩
    · rw [h5, hfl, List.append_assoc]
    · rw [hfl, List.length_append, List.length_append, flat_length]
      rw [List.length_append, hol] at hc
      omega
  · have hfc : (Builtin.firstCells i.size L.length (.slice (some ⟨N, 0, none⟩) L.length cap)).run Tryz.prog w.drew = .ok (flat L).toArray w.drew := by
      refine run_firstCells_some w.drew i.size L.length ⟨N, 0, none⟩ L.length cap (flat L) (by rw [hz1, flat_length]) (fun j u hu => ?_)
      rw [Addr.add_lit, Nat.zero_add]
      have hj := (List.getElem?_eq_some_iff.1 hu).1
      show w.cell? _ = _
      rw [blk_cell hr, List.getElem?_toArray, List.getElem?_append_left hj]
      exact hu
    have hrun := run_append_grow_src (P := Tryz.prog) w 71 71 ty 100 i _ Tryz.underlying71 hi hz0 (some ⟨N, 0, none⟩) L.length cap (flat L) hfc xv 1 y.cells hs' (by omega) (by omega) (growslice_fits (by omega) (by rw [hz2]; omega))
    have hge := grownCap_ge w (L.length + 1) cap 100
    have hcm := grownCap_le_maxLen w (L.length + 1) cap 100 (by unfold maxLen; omega)
    refine ⟨w.heap.size, _, _, hrun, ⟨rfl, rfl, rfl, by simp, fun k hk _ => Below.heap_alloc w.drew _ k hk⟩, .inr (Nat.le_refl _), ⟨(Builtin.zeroCells (Value.agg #[.slice none 0 0, .slice none 0 0, .int .i64 0]).cells (grownCap w (L.length + 1) cap 100 - (L.length + 1))).toList, ?_, ?_⟩, hge, hcm⟩
    · refine (heap_alloc_new w.drew _).trans ?_
      refine congrArg (fun z : Array Value => some (Obj.cells z 100 (0, 0))) ?_
      apply Array.ext'
      rw [hfl]
      simp
    · rw [List.length_append, flat_length, zlen, show (Value.agg #[.slice none 0 0, .slice none 0 0, .int .i64 0]).cells.size = 3 from rfl, List.length_append]
      simp only [List.length_singleton]
      omega

theorem Tw.box_nodes (h : Tw w F B N cap fv L fr root bytes) {w2 : World} (hg : w.grownBy w2 (some N)) (j : Nat) : w2.cell? ⟨B, j, none⟩ = w.cell? ⟨B, j, none⟩ ∧ w2.frozen? ⟨B, j, none⟩ = false := by
  have hb : w2.heap[B]? = w.heap[B]? := hg.block B h.ltB (fun e => h.BN (by injection e))
  exact ⟨World.cell?_of_block (w := w) (a := ⟨B, j, none⟩) hb, blk_frozen (hb.trans h.box) j⟩
theorem Tw.setNodes (h : Tw w F B N cap fv L fr root bytes) {w' : World} {N' cap' : Nat} {y : NV} (hg : w.grownBy w' (some N)) (hN : F N') (hy : Fresh w F fv L y)
    (hr : ∃ rest, w'.heap[N']? = some (.cells (flat (L ++ [y]) ++ rest).toArray 100 (0, 0)) ∧ cap' * 3 ≤ (flat (L ++ [y]) ++ rest).length) (hle : L.length + 1 ≤ cap') (hfit : cap' ≤ maxLen) :
    Tw (w'.setCell ⟨B, 0, none⟩ (.slice (some ⟨N', 0, none⟩) (L.length + 1) cap')) F B N' cap' fv (L ++ [y]) fr root bytes := by
  have hB : w'.heap[B]? = w.heap[B]? := hg.block B h.ltB (fun e => h.BN (by injection e))
  have hneN : ∀ {e : TypeId} {u : Value} {cs : List Value}, Rw w e u cs → e ≠ 100 → ∀ b, u.ownBlock = some b → b ≠ N := fun hu he b hb e => by
    obtain ⟨rest, hr, _⟩ := h.row
    exact hu.ne hr he (e ▸ hb)
  have keep : ∀ {e : TypeId} {u : Value} {cs : List Value}, Rw w e u cs → e ≠ 100 → e ≠ 74 → Rw (w'.setCell ⟨B, 0, none⟩ (.slice (some ⟨N', 0, none⟩) (L.length + 1) cap')) e u cs := fun hu h1 h2 => hu.step fun b hb => by
    rw [Below.heap_setCell _ _ _ _ (h.B_rows hu h2 b hb)]
    exact hg.block b (hu.lt b hb) (fun e => hneN hu h1 b hb (by injection e))
  have cases_ : ∀ {j : Nat} {z : NV}, (L ++ [y])[j]? = some z → (L[j]? = some z ∧ j < L.length) ∨ (j = L.length ∧ z = y) := fun {j z} hz => by
    rcases Nat.lt_or_ge j L.length with hj | hj
    · rw [List.getElem?_append_left hj] at hz
      exact .inl ⟨hz, hj⟩
    · rw [List.getElem?_append_right hj] at hz
      obtain ⟨h1, h2⟩ := List.getElem?_eq_some_iff.1 hz
      have h3 : j - L.length = 0 := by simpa using h1
      refine .inr ⟨by omega, ?_⟩
      rw [← h2]
      simp
  obtain ⟨rest, hr, hrc⟩ := hr
  have hne : N' ≠ B := fun e => by
    rw [e, hB, h.box] at hr
    injection hr with hr
    injection hr with _ hr _
    exact absurd hr (by decide)
  exact {
    box := by rw [blk_set (hB.trans h.box)]; simp
    row := ⟨rest, by rw [Below.heap_setCell _ _ _ _ hne]; exact hr, hrc⟩
    le := by rw [List.length_append]; exact hle
    fit := hfit
    free := keep h.free (by decide) (by decide)
    lines := fun j z hz => by
      rcases cases_ hz with ⟨hz, _⟩ | ⟨_, rfl⟩
      · exact keep (h.lines j z hz) (by decide) (by decide)
      · exact keep hy.lines (by decide) (by decide)
    kids := fun j z hz => by
      rcases cases_ hz with ⟨hz, _⟩ | ⟨_, rfl⟩
      · exact keep (h.kids j z hz) (by decide) (by decide)
      · exact keep hy.kids (by decide) (by decide)
    apartL := fun i j u z b hu hz h1 h2 => by
      rcases cases_ hu with ⟨hu', hi⟩ | ⟨hi, rfl⟩
      · rcases cases_ hz with ⟨hz', hj⟩ | ⟨hj, rfl⟩
        · exact h.apartL i j u z b hu' hz' h1 h2
        · exact absurd h1 ((hy.footL b h2).2 i u hu')
      · rcases cases_ hz with ⟨hz', hj⟩ | ⟨hj, rfl⟩
        · exact absurd h2 ((hy.footL b h1).2 j z hz')
        · omega
    apartK := fun i j u z b hu hz h1 h2 => by
      rcases cases_ hu with ⟨hu', hi⟩ | ⟨hi, rfl⟩
      · rcases cases_ hz with ⟨hz', hj⟩ | ⟨hj, rfl⟩
        · exact h.apartK i j u z b hu' hz' h1 h2
        · exact absurd h1 ((hy.footK b h2).2.2 i u hu')
      · rcases cases_ hz with ⟨hz', hj⟩ | ⟨hj, rfl⟩
        · exact absurd h2 ((hy.footK b h1).2.2 j z hz')
        · omega
    apartF := fun i u b hu h1 => by
      rcases cases_ hu with ⟨hu', hi⟩ | ⟨hi, rfl⟩
      · exact h.apartF i u b hu' h1
      · exact (hy.footK b h1).2.1
    footB := h.footB
    footN := hN
    footF := h.footF
    footL := fun j z b hz hb => by
      rcases cases_ hz with ⟨hz, _⟩ | ⟨_, rfl⟩
      · exact h.footL j z b hz hb
      · exact (hy.footL b hb).1
    footK := fun j z b hz hb => by
      rcases cases_ hz with ⟨hz, _⟩ | ⟨_, rfl⟩
      · exact h.footK j z b hz hb
      · exact (hy.footK b hb).1 }

theorem step_append_nd (h : Tw w F B N cap fv L fr root bytes) {ops : Array Oper} {o : Oper} {a : Act} {K : Act → World → Prop} {Q : Exit → Act → World → Prop} {E : Prop} (hgd : o.guard = none) (s x : Operand)
    (ho : o.op = .call { callee := .builtin .append, args := #[s, x], argTypes := #[71, 71] }) (y : NV) {xv : Value} (hv : a.eval s = .slice (some ⟨N, 0, none⟩) L.length cap) (hx : a.eval x = xv) (hs : Src Tryz.prog 3 71 xv 1 y.cells w) (hlen : L.length + 1 ≤ 1000000000000)
    (hK : ∀ N' cap' w', w.grownBy w' (some N) → (N' = N ∨ w.heap.size ≤ N') →
      (∃ rest, w'.heap[N']? = some (.cells (flat (L ++ [y]) ++ rest).toArray 100 (0, 0)) ∧ cap' * 3 ≤ (flat (L ++ [y]) ++ rest).length) → L.length + 1 ≤ cap' → cap' ≤ maxLen → K (a.put o.dst (.slice (some ⟨N', 0, none⟩) (L.length + 1) cap')) w') :
    if Region.wanted o (yielded ops a.tmps) = true then Oper.wp Tryz.prog o a w K Q else E := by
  have hw : Region.wanted o (yielded ops a.tmps) = true := by simp [Region.wanted, hgd]
  rw [if_pos hw]
  obtain ⟨N', cap', w', hrun, h1, h2, h3, h4, h5⟩ := run_append_nd h y (ty := o.type) hs hlen
  unfold Oper.wp execOp
  simp only [ho, resolve, invoke, builtin, Sem.run_bind, Sem.run_pure, Result.andThen_ok, List.map_toArray, List.map_cons, List.map_nil, hv, hx, hrun]
  exact hK N' cap' w' h1 h2 h3 h4 h5
end

set_option maxRecDepth 100000 in
theorem make_new {w : World} {F : Nat → Prop} {B N cap : Nat} {fv : Value} {L : List NV} {root : Nat} {bytes : Int} (h : Tw w F B N cap fv L [] root bytes)
    (hF : ∀ b, w.heap.size ≤ b → F b) {y : NV} (hy : Fresh w F fv L y) (hlen : L.length + 1 ≤ 1000000000000) :
    Calls Tryz.prog 49 #[.pointer (some ⟨B, 0, none⟩), y.agg] w fun e w' => e = .returned (.int .i64 L.length) ∧ Ta w' F B (pus L ++ [y.pu]) [] root ∧ Chg F w w' := by
  have b0 := h.c0
  have b1 := h.c1
  have y0 := h.zB 0
  have hf := h.fit
  have hle := h.le
  unfold maxLen at hf
  have hBl := h.ltB
  have hNl := h.ltN
  have hBN := h.BN
  have hNB : ¬ N = B := fun e => hBN e.symm
  obtain ⟨A, c, hv, hlc, hcm, _⟩ := h.free.slice
  rw [cK_len, List.length_nil] at hv hlc
  unfold maxLen at hcm
  rw [hv] at b1
  have HT := Lib.hid h
  have HF := Lib.hid hF
  obtain ⟨yl, yk, ls, ks, ct⟩ := y
  obtain ⟨A1, c1, hv1, _⟩ := hy.lines.slice
  obtain ⟨A2, c2, hv2, _⟩ := hy.kids.slice
  simp only at hv1 hv2
  rw [cS_len] at hv1
  rw [cK_len] at hv2
  subst hv1 hv2
  have HY := Lib.hid hy
  have HT2 := Lib.hid ((h.alloc (.cells #[Value.slice A1 ls.length c1, Value.slice A2 ks.length c2, Value.int IntKind.i64 ct] 100)).alloc (.cells #[Value.slice A1 ls.length c1, Value.slice A2 ks.length c2, Value.int IntKind.i64 ct] 100)).drew
  have HS : Hid (Src Tryz.prog 3 71 (.slice (some ⟨w.heap.size + 1, 0, none⟩) 1 1) 1 (NV.cells ⟨.slice A1 ls.length c1, .slice A2 ks.length c2, ls, ks, ct⟩) ((w.alloc (.cells #[Value.slice A1 ls.length c1, Value.slice A2 ks.length c2, Value.int IntKind.i64 ct] 100)).alloc (.cells #[Value.slice A1 ls.length c1, Value.slice A2 ks.length c2, Value.int IntKind.i64 ct] 100)).drew) := by
    refine Src.ofSlice _ Tryz.underlying71 ⟨w.heap.size + 1, 0, none⟩ 1 1 _ rfl (World.news_of_block (cs := #[Value.slice A1 ls.length c1, Value.slice A2 ks.length c2, Value.int IntKind.i64 ct]) (t := 100) (fr := (0, 0)) ?_) ?_
    · exact new_at _ _ (by simp) _
    · intro u hu
      simp only [NV.cells, List.mem_cons, List.not_mem_nil, or_false] at hu
      rcases hu with rfl | rfl | rfl <;> rfl
  clear hv h hy hF
  unfold NV.agg
  go_enter Tryz.func49, Tryz.ntmps49
  go_wp2
  go_region_law (refine step_append_nd HT2.out rfl (.tmp 44) (.tmp 46) rfl ⟨.slice A1 ls.length c1, .slice A2 ks.length c2, ls, ks, ct⟩ (xv := .slice (some ⟨w.heap.size + 1, 0, none⟩) 1 1) (by simp [Act.eval, Act.put]) (by simp [Act.eval, Act.put]) HS.out hlen ?_; intro N' cap' w1 hg hN hr hle1 hcap1; have HR1 := Lib.hid (And.intro hg (And.intro hN (And.intro hr (And.intro hle1 hcap1)))); have hb1 := (HT2.out.box_nodes hg 0).1.trans HT2.out.c0; have hb2 := (HT2.out.box_nodes hg 0).2; clear hg hN hr hle1 hcap1)
  all_goals
    go_wp2
    go_ret
    obtain ⟨hg, hN, hr, hle1, hcap1⟩ := HR1.out
    have hN9 : F N' := hN.elim (fun e => e ▸ HT.out.footN) (fun hN => HF.out _ (by simp at hN; omega))
    have hY9 : Fresh (((w.alloc (.cells #[Value.slice A1 ls.length c1, Value.slice A2 ks.length c2, Value.int IntKind.i64 ct] 100)).alloc (.cells #[Value.slice A1 ls.length c1, Value.slice A2 ks.length c2, Value.int IntKind.i64 ct] 100)).drew) F fv L ⟨.slice A1 ls.length c1, .slice A2 ks.length c2, ls, ks, ct⟩ :=
      ⟨HY.out.lines.step fun b hb => (Below.heap_alloc _ _ _ (by simp; have := HY.out.lines.lt b hb; omega)).trans (Below.heap_alloc _ _ _ (HY.out.lines.lt b hb)), HY.out.kids.step fun b hb => (Below.heap_alloc _ _ _ (by simp; have := HY.out.kids.lt b hb; omega)).trans (Below.heap_alloc _ _ _ (HY.out.kids.lt b hb)), HY.out.footL, HY.out.footK⟩
    exact ⟨rfl, (HT2.out.setNodes hg hN9 hY9 hr hle1 hcap1).ta (by simp [pus]), ((((Chg.refl F w).alloc _).alloc _).drew.grown hg (fun i e => by injection e with e; exact e ▸ HT.out.footN)).setCell HT.out.footB _⟩
end Go.Proofs.YtdhemdeapphfoaaGreatDoor
