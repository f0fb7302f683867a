/- prog: the writer in memory; lay: walked. -/
import Derived.Test.YtjdlbejmdjcajaaGreatPsC
set_option linter.unusedVariables false
set_option linter.unusedSimpArgs false
namespace Go.Proofs.YtjdlbejmdjcajaaGreat
open Go.RowKit Go.Shelf Go.Maps Go.Proofs.YtjdlbejmdjcajaaGreatW.PrintWords Go.Proofs.YtjdlbejmdjcajaaGreatW.PrintLast

def zI : Value := .agg #[.int .u8 0, .int .u8 0, .int .u64 0, .int .u64 0, .int .u64 0, .int .u64 0, .int .i64 0, .int .i64 0]
def iBytes : Nat := 56
theorem infoI : (Tryz.prog.info? 47).map (fun i => (i.zero, i.size, i.bytes)) = some (some zI, 8, iBytes) := by kernel_rfl
/-- an instruction's cells -/
def inC (d : Pp.In) : List Value := [.int .u8 d.op, .int .u8 d.c, .int .u64 d.s0, .int .u64 d.s1, .int .u64 d.s2, .int .u64 d.s3, .int .i64 d.x, .int .i64 d.y]
def inV (d : Pp.In) : Value := .agg (inC d).toArray
theorem inC_one (d : Pp.In) : ∀ u ∈ inC d, u.oneCell' = true := by
  intro u hu
  simp only [inC, List.mem_cons, List.not_mem_nil, or_false] at hu
  rcases hu with rfl | rfl | rfl | rfl | rfl | rfl | rfl | rfl
  all_goals rfl
theorem irow_slice {w : World} {n : Nat} {v : Value} {cs : List Value} (h : w.ownsRow 0 47 8 v n cs) : ∃ A c, v = .slice A n c := by
  rcases h.2 with ⟨hv, rfl, _⟩ | ⟨g, cap, cur, hv, _⟩
  · exact ⟨none, 0, hv⟩
  · exact ⟨_, cap, hv⟩
theorem iown_lt {w : World} {n : Nat} {v : Value} {cs : List Value} (h : w.ownsRow 0 47 8 v n cs) : ∀ b, v.ownBlock = some b → b < w.heap.size := by
  intro b hb
  rcases h.2 with ⟨hv, _⟩ | ⟨g, cap, cur, hv, _, hg, _⟩
  · rw [hv] at hb
    cases hb
  · rw [hv] at hb
    obtain rfl : g = b := by simpa [Value.ownBlock] using hb
    exact blk_lt hg
/-- a writer in memory -/
structure WrM (w : World) (Wb : Nat) (nv cv : Value) (L : List Pp.Nk) (c : Pp.Cd) : Prop where
  box : w.heap[Wb]? = some (.cells #[nv, cv, .int .i64 (c.2 : Int)] 56 (0, 0))
  row : w.ownsRow 0 47 8 cv c.1.length (c.1.flatMap inC)
  ne : cv.ownBlock ≠ some Wb
  ns : NsI w (fun b => b ≠ Wb ∧ cv.ownBlock ≠ some b) nv L
  le : c.1.length ≤ 2000
  rle : c.2 ≤ 1000000000000 + c.1.length
theorem WrM.cells {w : World} {Wb : Nat} {nv cv : Value} {L : List Pp.Nk} {c : Pp.Cd} (h : WrM w Wb nv cv L c) : w.cell? ⟨Wb, 0, none⟩ = some nv ∧ w.cell? ⟨Wb, 1, none⟩ = some cv ∧ w.cell? ⟨Wb, 2, none⟩ = some (.int .i64 (c.2 : Int)) := by
  refine ⟨?_, ?_, ?_⟩ <;> (rw [blk_cell h.box]; rfl)
theorem WrM.far {w w' : World} {Wb : Nat} {nv cv : Value} {L : List Pp.Nk} {c : Pp.Cd} (h : WrM w Wb nv cv L c) (hb : Below w.heap.size w w') : WrM w' Wb nv cv L c :=
  ⟨(hb.block _ (blk_lt h.box)).trans h.box, own_move h.row fun b e => hb.block b (iown_lt h.row b e), h.ne, h.ns.step hb.size fun b hF hl => ⟨hb.block b hl, hF⟩, h.le, h.rle⟩
theorem Pf.below {w w' : World} {G : Nat} {v : Value} (hb : Below w.heap.size w w') : Pf w w' G v v := ⟨hb.os, hb.tape, hb.output, hb.size, fun b hl _ _ => hb.block b hl, fun _ h => .inl h⟩
/-- the panic of one too many -/
def longP : List PanicEntry := [{ v := .iface 53 (.agg #[]), recovered := false }]
/-- what is laid, and what stays; or too many -/
def WPost (u : Value) (w : World) (Wb : Nat) (nv cv : Value) (L : List Pp.Nk) : Pp.Er Pp.Cd → Ending → World → Prop
  | .ok c', e, w' => ∃ cv', e = .returned u ∧ WrM w' Wb nv cv' L c' ∧ Pf w w' Wb cv cv'
  | .error true, e, w' => e = .panicked longP ∧ ∃ cv', Pf w w' Wb cv cv'
  | .error false, _, _ => True
section
variable {w w' : World} {Wb : Nat} {nv cv : Value} {L : List Pp.Nk} {c : Pp.Cd}
set_option maxRecDepth 100000 in
set_option maxHeartbeats 1000000 in
theorem lay_long (h : WrM w Wb nv cv L c) (d : Pp.In) (hl : c.1.length = 2000) :
    Calls Tryz.prog 19 #[.pointer (some ⟨Wb, 0, none⟩), inV d] w fun e w' => e = .panicked longP ∧ ∃ cv', Pf w w' Wb cv cv' := by
  obtain ⟨c0, c1, c2⟩ := h.cells
  obtain ⟨A, cp, rfl⟩ := irow_slice h.row
  have hal := below_alloc (Below.refl w.heap.size w) (.cells (inC d).toArray 47)
  have a1 : (w.alloc (.cells #[.int .u8 d.op, .int .u8 d.c, .int .u64 d.s0, .int .u64 d.s1, .int .u64 d.s2, .int .u64 d.s3, .int .i64 d.x, .int .i64 d.y] 47)).cell? ⟨Wb, 1, none⟩ = _ := (World.cell?_of_block (a := ⟨Wb, 1, none⟩) (hal.block Wb (blk_lt h.box))).trans c1
  have HA := Lib.hid (Pf.below (G := Wb) (v := .slice A c.1.length cp) hal)
  rw [hl] at a1 HA ⊢
  clear h c0 c1 c2 hal
  unfold inV inC
  go_enter Tryz.func19, Tryz.ntmps19
  go_wp2
  exact ⟨rfl, rfl, _, HA.out⟩
set_option maxRecDepth 100000 in
set_option maxHeartbeats 4000000 in
theorem lay_short (h : WrM w Wb nv cv L c) (d : Pp.In) (hl : c.1.length < 2000) :
    Calls Tryz.prog 19 #[.pointer (some ⟨Wb, 0, none⟩), inV d] w (WPost (.int .i64 (c.1.length : Int)) w Wb nv cv L (.ok (c.1 ++ [d], c.2))) := by
  obtain ⟨A0, c0, rfl⟩ := irow_slice h.row
  have hG := blk_lt h.box
  have hol := iown_lt h.row
  have hnB : (Value.slice A0 c.1.length c0).ownBlock ≠ some w.heap.size := fun e => by have := hol _ e; omega
  have hnW := h.ne
  have hal := (below_alloc (Below.refl w.heap.size w) (.cells (inC d).toArray 47)).drew
  have hbk : (w.alloc (.cells (inC d).toArray 47)).drew.heap[w.heap.size]? = some (.cells (inC d).toArray 47 (0, 0)) := alloc_at w _
  have hrow := own_move h.row (w1 := (w.alloc (.cells (inC d).toArray 47)).drew) fun k hk => hal.block k (hol k hk)
  have hbx := (hal.block Wb hG).trans h.box
  have hW2 := h.far hal
  have a1 := hW2.cells.2.1
  have z1 : (w.alloc (.cells #[.int .u8 d.op, .int .u8 d.c, .int .u64 d.s0, .int .u64 d.s1, .int .u64 d.s2, .int .u64 d.s3, .int .i64 d.x, .int .i64 d.y] 47)).cell? ⟨Wb, 1, none⟩ = some (Value.slice A0 c.1.length c0) := a1
  have n0 := (blk_cell hbk 0)
  have n1 := (blk_cell hbk 1)
  have n2 := (blk_cell hbk 2)
  have n3 := (blk_cell hbk 3)
  have n4 := (blk_cell hbk 4)
  have n5 := (blk_cell hbk 5)
  have n6 := (blk_cell hbk 6)
  have n7 := (blk_cell hbk 7)
  have hal2 := below_alloc (Below.refl (w.alloc (.cells (inC d).toArray 47)).drew.heap.size (w.alloc (.cells (inC d).toArray 47)).drew) (.cells (inC d).toArray 47)
  have hbk2 := (hal2.block _ (blk_lt hbk)).trans hbk
  have b1 := (World.cell?_of_block (a := ⟨Wb, 1, none⟩) (hal2.block Wb (blk_lt hbx))).trans a1
  have m0 := (blk_cell hbk2 0)
  have m1 := (blk_cell hbk2 1)
  have m2 := (blk_cell hbk2 2)
  have m3 := (blk_cell hbk2 3)
  have m4 := (blk_cell hbk2 4)
  have m5 := (blk_cell hbk2 5)
  have m6 := (blk_cell hbk2 6)
  have m7 := (blk_cell hbk2 7)
  have HH := Lib.hid h
  have HAL := Lib.hid (And.intro hal (And.intro hbx hrow))
  have hl2 : ((c.1.length : Int) == 2000) = false := beq_eq_false_iff_ne.2 (by omega)
  clear h hal hbx hrow hal2 hbk2 hW2
  unfold inV inC
  go_enter Tryz.func19, Tryz.ntmps19
  go_wp2
  refine start_ (n := 11) (S := fun w' => w'.cell? ⟨Wb, 1, none⟩ = some (Value.slice A0 c.1.length c0) ∧ w'.cell? ⟨w.heap.size, 0, none⟩ = some (.int .u8 d.op) ∧ w'.cell? ⟨w.heap.size, 1, none⟩ = some (.int .u8 d.c) ∧ w'.cell? ⟨w.heap.size, 2, none⟩ = some (.int .u64 d.s0) ∧ w'.cell? ⟨w.heap.size, 3, none⟩ = some (.int .u64 d.s1) ∧ w'.cell? ⟨w.heap.size, 4, none⟩ = some (.int .u64 d.s2) ∧ w'.cell? ⟨w.heap.size, 5, none⟩ = some (.int .u64 d.s3) ∧ w'.cell? ⟨w.heap.size, 6, none⟩ = some (.int .i64 d.x) ∧ w'.cell? ⟨w.heap.size, 7, none⟩ = some (.int .i64 d.y)) (ds := [10]) #[false, false, false, false, false, false, false, false, false, false, false] (by kernel_rfl) rfl rfl ⟨a1, n0, n1, n2, n3, n4, n5, n6, n7⟩ (fun hHeld => ?_)
  refine pure_ (i := 0) (N := some 13) (v := ?_) (a' := ?_) #[true, false, false, false, false, false, false, false, false, false, false] rfl rfl (by kernel_rfl) (fun _ _ _ h => h) (Or.inl ⟨by rfl, ?_⟩) ?_ ?_
  rotate_left
  · intro w'
    go_simp
    with_reducible rfl
  rotate_left
  · simp only [Act.put, List.setIfInBounds_toArray, List.set_cons_zero, List.set_cons_succ, i64_w, i32_w]
    rfl
  refine pure_ (i := 1) (N := some 14) (v := ?_) (a' := ?_) #[true, true, false, false, false, false, false, false, false, false, false] rfl rfl (by kernel_rfl) (fun _ _ _ h => h) (Or.inl ⟨by rfl, ?_⟩) ?_ ?_
  rotate_left
  · intro w'
    go_simp
    with_reducible rfl
  rotate_left
  · simp only [Act.put, List.setIfInBounds_toArray, List.set_cons_zero, List.set_cons_succ, i64_w, i32_w]
    rfl
  refine pure_ (i := 2) (N := some 15) (v := ?_) (a' := ?_) #[true, true, true, false, false, false, false, false, false, false, false] rfl rfl (by kernel_rfl) (fun _ _ _ h => h) (Or.inl ⟨by rfl, ?_⟩) ?_ ?_
  rotate_left
  · intro w'
    go_simp
    with_reducible rfl
  rotate_left
  · simp only [Act.put, List.setIfInBounds_toArray, List.set_cons_zero, List.set_cons_succ, i64_w, i32_w]
    rfl
  refine pure_ (i := 3) (N := some 16) (v := ?_) (a' := ?_) #[true, true, true, true, false, false, false, false, false, false, false] rfl rfl (by kernel_rfl) (fun _ _ _ h => h) (Or.inl ⟨by rfl, ?_⟩) ?_ ?_
  rotate_left
  · intro w'
    go_simp
    with_reducible rfl
  rotate_left
  · simp only [Act.put, List.setIfInBounds_toArray, List.set_cons_zero, List.set_cons_succ, i64_w, i32_w]
    rfl
  refine take_ (i := 4) (N := some 17) (v := ?_) (a' := ?_) #[true, true, true, true, true, false, false, false, false, false, false] rfl rfl (by kernel_rfl) (fun _ _ _ h => h) (Or.inl ⟨by rfl, ?_⟩) hHeld ?_ ?_
  rotate_left
  · rintro w' ⟨s0, s1, s2, s3, s4, s5, s6, s7, s8⟩
    go_simp
    with_reducible rfl
  rotate_left
  · simp only [Act.put, List.setIfInBounds_toArray, List.set_cons_zero, List.set_cons_succ, i64_w, i32_w]
    rfl
  refine take_ (i := 5) (N := some 18) (v := ?_) (a' := ?_) #[true, true, true, true, true, true, false, false, false, false, false] rfl rfl (by kernel_rfl) (fun _ _ _ h => h) (Or.inl ⟨by rfl, ?_⟩) hHeld ?_ ?_
  rotate_left
  · rintro w' ⟨s0, s1, s2, s3, s4, s5, s6, s7, s8⟩
    go_simp
    with_reducible rfl
  rotate_left
  · simp only [Act.put, List.setIfInBounds_toArray, List.set_cons_zero, List.set_cons_succ, i64_w, i32_w]
    rfl
  refine one_ (i := 6) (N := some 19) #[true, true, true, true, true, true, true, false, false, false, false] rfl rfl (by kernel_rfl) (by decide) (fun K hK => ?_)
  refine value_ (w1 := ?_) (v := ?_) (by rfl) rfl ?_ ?_
  rotate_left 2
  · go_simp
    constructor
    · rfl
    · rfl
  refine hK.out _ _ ⟨(by first | exact b1 | go_keep), (by first | exact m0 | go_keep), (by first | exact m1 | go_keep), (by first | exact m2 | go_keep), (by first | exact m3 | go_keep), (by first | exact m4 | go_keep), (by first | exact m5 | go_keep), (by first | exact m6 | go_keep), (by first | exact m7 | go_keep)⟩ (fun hHeld => ?_)
  clear hK K
  refine norm_ (a' := ?_) ?_ ?_
  rotate_left
  · show Act.put _ (some 19) _ = _
    simp only [Act.put, List.setIfInBounds_toArray, List.set_cons_zero, List.set_cons_succ, i64_w, i32_w]
    rfl
  refine one_ (i := 7) (N := some 20) #[true, true, true, true, true, true, true, true, false, false, false] rfl rfl (by kernel_rfl) (by decide) (fun K hK => ?_)
  rw [show ((w.alloc (.cells #[.int .u8 d.op, .int .u8 d.c, .int .u64 d.s0, .int .u64 d.s1, .int .u64 d.s2, .int .u64 d.s3, .int .i64 d.x, .int .i64 d.y] 47)).alloc (.cells #[.int .u8 d.op, .int .u8 d.c, .int .u64 d.s0, .int .u64 d.s1, .int .u64 d.s2, .int .u64 d.s3, .int .i64 d.x, .int .i64 d.y] 47)).drew = ((w.alloc (.cells #[.int .u8 d.op, .int .u8 d.c, .int .u64 d.s0, .int .u64 d.s1, .int .u64 d.s2, .int .u64 d.s3, .int .i64 d.x, .int .i64 d.y] 47)).drew).alloc (.cells #[.int .u8 d.op, .int .u8 d.c, .int .u64 d.s0, .int .u64 d.s1, .int .u64 d.s2, .int .u64 d.s3, .int .i64 d.x, .int .i64 d.y] 47) from rfl]
  refine step_append_cells (W := (w.alloc (.cells #[.int .u8 d.op, .int .u8 d.c, .int .u64 d.s0, .int .u64 d.s1, .int .u64 d.s2, .int .u64 d.s3, .int .i64 d.x, .int .i64 d.y] 47)).drew) 0 (by rfl) _ _ 22 47 zI 8 iBytes rfl Tryz.underlying22 infoI rfl (by decide) (by decide) (Value.slice A0 c.1.length c0) c.1.length (c.1.flatMap inC) [.int .u8 d.op, .int .u8 d.c, .int .u64 d.s0, .int .u64 d.s1, .int .u64 d.s2, .int .u64 d.s3, .int .i64 d.x, .int .i64 d.y] rfl (by show Value.slice (some ⟨w.heap.size + 1, 0, none⟩) 1 1 = _; simp) rfl (inC_one d) HAL.out.2.2 (Below.refl 0 _) (Nat.zero_le _) (by unfold iBytes; omega) ?_
  intro v1 w1 hr1 _ hg1 ha1
  obtain ⟨A1, q1, hv1⟩ := irow_slice hr1
  subst hv1
  have HN := Lib.hid (And.intro hr1 (And.intro hg1 ha1))
  have hkG := hg1.block Wb (by simp; omega) (fun e => hnW e.symm)
  have hkB := hg1.block w.heap.size (by simp) (fun e => hnB e.symm)
  have e1 : w1.cell? ⟨Wb, 1, none⟩ = some (Value.slice A0 c.1.length c0) := (World.cell?_of_block (a := ⟨Wb, 1, none⟩) hkG).trans a1
  have fG := blk_frozen (hkG.trans HAL.out.2.1) 1
  have l0 := (World.cell?_of_block (w' := w1) (a := ⟨w.heap.size, 0, none⟩) hkB).trans n0
  have l1 := (World.cell?_of_block (w' := w1) (a := ⟨w.heap.size, 1, none⟩) hkB).trans n1
  have l2 := (World.cell?_of_block (w' := w1) (a := ⟨w.heap.size, 2, none⟩) hkB).trans n2
  have l3 := (World.cell?_of_block (w' := w1) (a := ⟨w.heap.size, 3, none⟩) hkB).trans n3
  have l4 := (World.cell?_of_block (w' := w1) (a := ⟨w.heap.size, 4, none⟩) hkB).trans n4
  have l5 := (World.cell?_of_block (w' := w1) (a := ⟨w.heap.size, 5, none⟩) hkB).trans n5
  have l6 := (World.cell?_of_block (w' := w1) (a := ⟨w.heap.size, 6, none⟩) hkB).trans n6
  have l7 := (World.cell?_of_block (w' := w1) (a := ⟨w.heap.size, 7, none⟩) hkB).trans n7
  clear hr1 hg1 ha1
  refine hK.out _ _ ⟨(by first | exact e1 | go_keep), (by first | exact l0 | go_keep), (by first | exact l1 | go_keep), (by first | exact l2 | go_keep), (by first | exact l3 | go_keep), (by first | exact l4 | go_keep), (by first | exact l5 | go_keep), (by first | exact l6 | go_keep), (by first | exact l7 | go_keep)⟩ (fun hHeld => ?_)
  clear hK K
  refine norm_ (a' := ?_) ?_ ?_
  rotate_left
  · show Act.put _ (some 20) _ = _
    simp only [Act.put, List.setIfInBounds_toArray, List.set_cons_zero, List.set_cons_succ, i64_w, i32_w]
    rfl
  refine pure_ (i := 8) (N := some 21) (v := ?_) (a' := ?_) #[true, true, true, true, true, true, true, true, true, false, false] rfl rfl (by kernel_rfl) (fun _ _ _ h => h) (Or.inl ⟨by rfl, ?_⟩) ?_ ?_
  rotate_left
  · intro w'
    go_simp
    with_reducible rfl
  rotate_left
  · simp only [Act.put, List.setIfInBounds_toArray, List.set_cons_zero, List.set_cons_succ, i64_w, i32_w]
    rfl
  refine pure_ (i := 9) (N := some 22) (v := ?_) (a' := ?_) #[true, true, true, true, true, true, true, true, true, true, false] rfl rfl (by kernel_rfl) (fun _ _ _ h => h) (Or.inl ⟨by rfl, ?_⟩) ?_ ?_
  rotate_left
  · intro w'
    go_simp
    with_reducible rfl
  rotate_left
  · simp only [Act.put, List.setIfInBounds_toArray, List.set_cons_zero, List.set_cons_succ, i64_w, i32_w]
    rfl
  refine last_ (i := 10) (N := none) #[true, true, true, true, true, true, true, true, true, true, true] rfl rfl (by kernel_rfl) (by decide) (fun K hK => ?_)
  refine skip_ (w1 := ?_) (by rfl) rfl ?_ ?_
  rotate_left
  · go_simp
    rfl
  refine hK.out _ _ ?_
  clear hK K
  refine done_ (by kernel_rfl) ?_

  obtain ⟨hal, hbx, hrow⟩ := HAL.out
  have hg : (w.alloc (.cells (inC d).toArray 47)).drew.grownBy w1 (Value.slice A0 c.1.length c0).ownBlock := HN.out.2.1
  have hWs : (w.alloc (.cells (inC d).toArray 47)).drew.heap.size = w.heap.size + 1 := by simp
  have ha : (Value.slice A1 (c.1.length + 1) q1).ownBlock = (Value.slice A0 c.1.length c0).ownBlock ∨ ∃ b, (Value.slice A1 (c.1.length + 1) q1).ownBlock = some b ∧ w.heap.size + 1 ≤ b := by
    have h9 : (Value.slice A1 (c.1.length + 1) q1).ownBlock = (Value.slice A0 c.1.length c0).ownBlock ∨ ∃ b, (Value.slice A1 (c.1.length + 1) q1).ownBlock = some b ∧ (w.alloc (.cells (inC d).toArray 47)).drew.heap.size ≤ b := HN.out.2.2
    rwa [hWs] at h9
  have hne : (Value.slice A1 (c.1.length + 1) q1).ownBlock ≠ some Wb := by
    rcases ha with h9 | ⟨b, h9, hb⟩
    · rw [h9]; exact hnW
    · rw [h9]
      intro e
      have := Option.some.inj e
      omega
  have hold : ∀ b, b < w.heap.size → b ≠ Wb → (Value.slice A0 c.1.length c0).ownBlock ≠ some b → (w1.setCell ⟨Wb, 1, none⟩ (.slice A1 (c.1.length + 1) q1)).heap[b]? = w.heap[b]? := fun b hb hbG hbv => (Below.heap_setCell w1 ⟨Wb, 1, none⟩ _ b (fun e => hbG e)).trans ((hg.block b (by omega) (fun e => hbv e.symm)).trans (hal.block b hb))
  have hsz : w.heap.size ≤ (w1.setCell ⟨Wb, 1, none⟩ (.slice A1 (c.1.length + 1) q1)).heap.size := by
    have := hg.size
    simp [World.setCell] at *
    omega
  have hbox2 := blk_set (hkG.trans hbx) 1 (.slice A1 (c.1.length + 1) q1)
  have x1 : (w1.setCell ⟨Wb, 1, none⟩ (.slice A1 (c.1.length + 1) q1)).cell? ⟨Wb, 1, none⟩ = some (.slice A1 (c.1.length + 1) q1) := by rw [blk_cell hbox2]; rfl
  have hFIN : WPost (.int .i64 (c.1.length : Int)) w Wb nv (Value.slice A0 c.1.length c0) L (.ok (c.1 ++ [d], c.2)) (.returned (.int .i64 (c.1.length : Int))) (w1.setCell ⟨Wb, 1, none⟩ (.slice A1 (c.1.length + 1) q1)) := by
    refine ⟨_, rfl, ⟨hbox2, ?_, hne, HH.out.ns.step hsz fun b hF hb => ⟨hold b hb hF.1 hF.2, hF.1, fun e => ?_⟩, by simp; omega, by have := HH.out.rle; simp; omega⟩, ⟨hg.os.trans hal.os, hg.tape.trans hal.tape, hg.output.trans hal.output, hsz, hold, ?_⟩⟩
    · have h9 := own_move HN.out.1 (w1 := w1.setCell ⟨Wb, 1, none⟩ (.slice A1 (c.1.length + 1) q1)) fun k hk => Below.heap_setCell w1 ⟨Wb, 1, none⟩ _ k (fun e => hne (by rw [hk, e]))
      rw [List.length_append, List.flatMap_append, List.length_singleton]
      simpa [inC] using h9
    · rcases ha with h9 | ⟨b', h9, hb'⟩
      · exact hF.2 (h9.symm.trans e)
      · rw [h9] at e
        have := Option.some.inj e
        omega
    · intro b hb
      rcases ha with h9 | ⟨b', h9, hb'⟩
      · exact .inl (h9.symm.trans hb)
      · rw [h9] at hb
        have := Option.some.inj hb
        exact .inr (by omega)
  have HF := Lib.hid hFIN
  have hlw : IntKind.i64.wrap ((c.1.length : Int) + 1 - 1) = (c.1.length : Int) := by rw [IntKind.wrap_i64]; omega
  clear hFIN hbox2 hsz hold hne ha hg hal hbx hrow
  go_wp2
  go_ret
  exact HF.out
theorem lay_any (h : WrM w Wb nv cv L c) (d : Pp.In) :
    Calls Tryz.prog 19 #[.pointer (some ⟨Wb, 0, none⟩), inV d] w (WPost (.int .i64 (c.1.length : Int)) w Wb nv cv L (Pp.layP d c)) := by
  unfold Pp.layP
  by_cases hl : 2000 ≤ c.1.length
  · rw [if_pos hl]
    exact lay_long h d (by have := h.le; omega)
  · rw [if_neg hl]
    exact lay_short h d (by omega)
end
end Go.Proofs.YtjdlbejmdjcajaaGreat
