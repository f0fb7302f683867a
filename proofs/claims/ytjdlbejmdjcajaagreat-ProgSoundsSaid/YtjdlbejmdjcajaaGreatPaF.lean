/- the reader's nodes; node: walked. -/
import Derived.Test.YtjdlbejmdjcajaaGreatPaE
set_option linter.unusedVariables false
set_option linter.unusedSimpArgs false
namespace Go.Proofs.YtjdlbejmdjcajaaGreat
open Go.RowKit Go.Shelf Go.Maps Go.Proofs.YtjdlbejmdjcajaaGreatW.PrintWords Go.Proofs.YtjdlbejmdjcajaaGreatW.PrintLast

def zN : Value := .agg #[.int .u8 0, .int .u8 0, .int .u64 0, .int .u64 0, .int .u64 0, .int .u64 0, .int .i64 0, .int .i64 0, .bool false, .int .i64 0, .slice none 0 0]
def nBytes : Nat := 96
theorem infoN : (Tryz.prog.info? 35).map (fun i => (i.zero, i.size, i.bytes)) = some (some zN, 11, nBytes) := by kernel_rfl
/-- a node's cells -/
def ndC (x : Pp.Nd × Value) : List Value := [.int .u8 x.1.op, .int .u8 x.1.c, .int .u64 x.1.s0, .int .u64 x.1.s1, .int .u64 x.1.s2, .int .u64 x.1.s3, .int .i64 x.1.mn, .int .i64 x.1.mx, .bool x.1.lz, .int .i64 x.1.n, x.2]
/-- a row of numbers, as it is read -/
def Is (w : World) (F : Nat → Prop) (v : Value) (ks : List Nat) : Prop :=
  ∃ A c, v = .slice A ks.length c ∧ ks.length ≤ c ∧ c ≤ maxLen ∧ (0 < ks.length → ∃ b o, A = some ⟨b, o, none⟩ ∧ F b ∧ b < w.heap.size ∧ ∀ (j k : Nat), ks[j]? = some k → w.cell? ⟨b, o + j, none⟩ = some (.int .i64 (k : Int)))
theorem Is.one {w : World} {F : Nat → Prop} {v : Value} {ks : List Nat} (h : Is w F v ks) : v.oneCell' = true := by
  obtain ⟨A, c, rfl, _⟩ := h
  rfl
theorem Is.step {w w' : World} {F F' : Nat → Prop} {v : Value} {ks : List Nat} (h : Is w F v ks) (hs : w.heap.size ≤ w'.heap.size) (hb : ∀ b, F b → b < w.heap.size → w'.heap[b]? = w.heap[b]? ∧ F' b) : Is w' F' v ks := by
  obtain ⟨A, c, h1, h2, h3, h4⟩ := h
  refine ⟨A, c, h1, h2, h3, fun h0 => ?_⟩
  obtain ⟨b, o, e, hF, hl, hc⟩ := h4 h0
  exact ⟨b, o, e, (hb b hF hl).2, Nat.lt_of_lt_of_le hl hs, fun j k hj => (World.cell?_of_block (a := ⟨b, o + j, none⟩) (hb b hF hl).1).trans (hc j k hj)⟩
theorem Is.nil (w : World) (F : Nat → Prop) : Is w F (.slice none 0 0) [] := ⟨none, 0, rfl, Nat.le_refl _, by decide, fun h => absurd h (by decide)⟩
theorem ndC_one {d : Pp.Nd} {kv : Value} (h : kv.oneCell' = true) : ∀ u ∈ ndC (d, kv), u.oneCell' = true := by
  intro u hu
  simp only [ndC, List.mem_cons, List.not_mem_nil, or_false] at hu
  rcases hu with rfl | rfl | rfl | rfl | rfl | rfl | rfl | rfl | rfl | rfl | rfl
  all_goals first | rfl | exact h
/-- reader and nodes in memory -/
structure Rdr (w : World) (G : Nat) (s last : ByteArray) (r : Pp.Rs) (v : Value) (L : List (Pp.Nd × Value)) : Prop where
  box : RdM w G s last r v
  row : w.ownsRow 0 35 11 v L.length (L.flatMap ndC)
  ne : v.ownBlock ≠ some G
  kids : ∀ x ∈ L, Is w (fun b => b ≠ G ∧ v.ownBlock ≠ some b) x.2 x.1.kids
/-- what is not the reader's block nor the nodes' row stays -/
structure Pf (w w' : World) (G : Nat) (v v' : Value) : Prop where
  os : w'.os = w.os
  tape : w'.tape = w.tape
  output : w'.output = w.output
  size : w.heap.size ≤ w'.heap.size
  block : ∀ b, b < w.heap.size → b ≠ G → v.ownBlock ≠ some b → w'.heap[b]? = w.heap[b]?
  own : ∀ b, v'.ownBlock = some b → v.ownBlock = some b ∨ w.heap.size ≤ b
theorem Pf.refl (w : World) (G : Nat) (v : Value) : Pf w w G v v := ⟨rfl, rfl, rfl, Nat.le_refl _, fun _ _ _ _ => rfl, fun _ h => .inl h⟩
theorem Pf.trans {w w1 w2 : World} {G : Nat} {v v1 v2 : Value} (h : Pf w w1 G v v1) (k : Pf w1 w2 G v1 v2) : Pf w w2 G v v2 :=
  ⟨k.os.trans h.os, k.tape.trans h.tape, k.output.trans h.output, Nat.le_trans h.size k.size, fun b hb hG hv => (k.block b (Nat.lt_of_lt_of_le hb h.size) hG (fun e => by
    rcases h.own b e with h1 | h1
    · exact hv h1
    · omega)).trans (h.block b hb hG hv), fun b hb => by
    rcases k.own b hb with h1 | h1
    · exact h.own b h1
    · exact .inr (Nat.le_trans h.size h1)⟩
theorem own_lt {w : World} {n : Nat} {v : Value} {cs : List Value} (h : w.ownsRow 0 35 11 v n cs) : ∀ b, v.ownBlock = some b → b < w.heap.size := by
  intro b hb
  rcases h.2 with ⟨hv, _⟩ | ⟨g, cap, cur, hv, _, hg, _⟩
  · rw [hv] at hb
    cases hb
  · rw [hv] at hb
    obtain rfl : g = b := by simpa [Value.ownBlock] using hb
    exact blk_lt hg
theorem nrow_slice {w : World} {n : Nat} {v : Value} {cs : List Value} (h : w.ownsRow 0 35 11 v n cs) : ∃ A c, v = .slice A n c := by
  rcases h.2 with ⟨hv, rfl, _⟩ | ⟨g, cap, cur, hv, _⟩
  · exact ⟨none, 0, hv⟩
  · exact ⟨_, cap, hv⟩
def NodePost (w : World) (G : Nat) (s last : ByteArray) (r : Pp.Rs) (v : Value) (L : List (Pp.Nd × Value)) (k : Nat) (e : Ending) (w' : World) : Prop :=
  ∃ v', e = .returned (.int .i64 (k : Int)) ∧ Rdr w' G s last r v' L ∧ Pf w w' G v v'
section
variable {w w' : World} {G : Nat} {s last : ByteArray} {r : Pp.Rs} {v : Value} {L : List (Pp.Nd × Value)}
set_option maxRecDepth 100000 in
set_option maxHeartbeats 2000000 in
theorem node_any (h : Rdr w G s last r v L) {d : Pp.Nd} {kv : Value} (hk : Is w (fun b => b ≠ G ∧ v.ownBlock ≠ some b) kv d.kids) (hl : L.length ≤ 100000) :
    Calls Tryz.prog 52 #[.pointer (some ⟨G, 0, none⟩), ndV d kv] w (NodePost w G s last r v (L ++ [(d, kv)]) L.length) := by
  have hG := blk_lt h.box
  have hkv := hk.one
  have hol := own_lt h.row
  have hnB : v.ownBlock ≠ some w.heap.size := fun e => by have := hol _ e; omega
  have hnG := h.ne
  have hal := (below_alloc (Below.refl w.heap.size w) (.cells (ndC (d, kv)).toArray 35)).drew
  have hbk : (w.alloc (.cells (ndC (d, kv)).toArray 35)).drew.heap[w.heap.size]? = some (.cells (ndC (d, kv)).toArray 35 (0, 0)) := alloc_at w _
  have hrow := own_move h.row (w1 := (w.alloc (.cells (ndC (d, kv)).toArray 35)).drew) fun k hk => hal.block k (hol k hk)
  have hbx := h.box.step (hal.block G hG)
  obtain ⟨_, _, _, _, a5, _⟩ := hbx.cells
  have n0 := (blk_cell hbk 0)
  have n1 := (blk_cell hbk 1)
  have n2 := (blk_cell hbk 2)
  have n3 := (blk_cell hbk 3)
  have n4 := (blk_cell hbk 4)
  have n5 := (blk_cell hbk 5)
  have n6 := (blk_cell hbk 6)
  have n7 := (blk_cell hbk 7)
  have n8 := (blk_cell hbk 8)
  have n9 := (blk_cell hbk 9)
  have n10 := (blk_cell hbk 10)
  have hal2 := below_alloc (Below.refl (w.alloc (.cells (ndC (d, kv)).toArray 35)).drew.heap.size (w.alloc (.cells (ndC (d, kv)).toArray 35)).drew) (.cells (ndC (d, kv)).toArray 35)
  have hbk2 := (hal2.block _ (blk_lt hbk)).trans hbk
  have b5 := (World.cell?_of_block (a := ⟨G, 5, none⟩) (hal2.block G (blk_lt hbx))).trans a5
  have m0 := (blk_cell hbk2 0)
  have m1 := (blk_cell hbk2 1)
  have m2 := (blk_cell hbk2 2)
  have m3 := (blk_cell hbk2 3)
  have m4 := (blk_cell hbk2 4)
  have m5 := (blk_cell hbk2 5)
  have m6 := (blk_cell hbk2 6)
  have m7 := (blk_cell hbk2 7)
  have m8 := (blk_cell hbk2 8)
  have m9 := (blk_cell hbk2 9)
  have m10 := (blk_cell hbk2 10)
  have HH := Lib.hid h
  have HK := Lib.hid hk
  have HAL := Lib.hid (And.intro hal (And.intro hbx hrow))
  clear h hk hal hbx hrow hal2 hbk2
  unfold ndV
  go_enter Tryz.func52, Tryz.ntmps52
  go_wp2
  refine start_ (n := 11) (S := fun w' => w'.cell? ⟨G, 5, none⟩ = some v ∧ w'.cell? ⟨w.heap.size, 0, none⟩ = some (.int .u8 d.op) ∧ w'.cell? ⟨w.heap.size, 1, none⟩ = some (.int .u8 d.c) ∧ w'.cell? ⟨w.heap.size, 2, none⟩ = some (.int .u64 d.s0) ∧ w'.cell? ⟨w.heap.size, 3, none⟩ = some (.int .u64 d.s1) ∧ w'.cell? ⟨w.heap.size, 4, none⟩ = some (.int .u64 d.s2) ∧ w'.cell? ⟨w.heap.size, 5, none⟩ = some (.int .u64 d.s3) ∧ w'.cell? ⟨w.heap.size, 6, none⟩ = some (.int .i64 d.mn) ∧ w'.cell? ⟨w.heap.size, 7, none⟩ = some (.int .i64 d.mx) ∧ w'.cell? ⟨w.heap.size, 8, none⟩ = some (.bool d.lz) ∧ w'.cell? ⟨w.heap.size, 9, none⟩ = some (.int .i64 d.n) ∧ w'.cell? ⟨w.heap.size, 10, none⟩ = some (kv)) (ds := [10]) #[false, false, false, false, false, false, false, false, false, false, false] (by kernel_rfl) rfl rfl ⟨a5, n0, n1, n2, n3, n4, n5, n6, n7, n8, n9, n10⟩ (fun hHeld => ?_)
  refine pure_ (i := 0) (N := some 5) (v := ?_) (a' := ?_) #[true, false, false, false, false, false, false, false, false, false, false] rfl rfl (by kernel_rfl) (fun _ _ _ h => h) (Or.inl ⟨by rfl, ?_⟩) ?_ ?_
  rotate_left
  · intro w'
    go_simp
    with_reducible rfl
  rotate_left
  · simp only [Act.put, List.setIfInBounds_toArray, List.set_cons_zero, List.set_cons_succ, i64_w, i32_w]
    rfl
  refine pure_ (i := 1) (N := some 6) (v := ?_) (a' := ?_) #[true, true, false, false, false, false, false, false, false, false, false] rfl rfl (by kernel_rfl) (fun _ _ _ h => h) (Or.inl ⟨by rfl, ?_⟩) ?_ ?_
  rotate_left
  · intro w'
    go_simp
    with_reducible rfl
  rotate_left
  · simp only [Act.put, List.setIfInBounds_toArray, List.set_cons_zero, List.set_cons_succ, i64_w, i32_w]
    rfl
  refine pure_ (i := 2) (N := some 7) (v := ?_) (a' := ?_) #[true, true, true, false, false, false, false, false, false, false, false] rfl rfl (by kernel_rfl) (fun _ _ _ h => h) (Or.inl ⟨by rfl, ?_⟩) ?_ ?_
  rotate_left
  · intro w'
    go_simp
    with_reducible rfl
  rotate_left
  · simp only [Act.put, List.setIfInBounds_toArray, List.set_cons_zero, List.set_cons_succ, i64_w, i32_w]
    rfl
  refine pure_ (i := 3) (N := some 8) (v := ?_) (a' := ?_) #[true, true, true, true, false, false, false, false, false, false, false] rfl rfl (by kernel_rfl) (fun _ _ _ h => h) (Or.inl ⟨by rfl, ?_⟩) ?_ ?_
  rotate_left
  · intro w'
    go_simp
    with_reducible rfl
  rotate_left
  · simp only [Act.put, List.setIfInBounds_toArray, List.set_cons_zero, List.set_cons_succ, i64_w, i32_w]
    rfl
  refine take_ (i := 4) (N := some 9) (v := ?_) (a' := ?_) #[true, true, true, true, true, false, false, false, false, false, false] rfl rfl (by kernel_rfl) (fun _ _ _ h => h) (Or.inl ⟨by rfl, ?_⟩) hHeld ?_ ?_
  rotate_left
  · rintro w' ⟨s0, s1, s2, s3, s4, s5, s6, s7, s8, s9, s10, s11⟩
    go_simp
    with_reducible rfl
  rotate_left
  · simp only [Act.put, List.setIfInBounds_toArray, List.set_cons_zero, List.set_cons_succ, i64_w, i32_w]
    rfl
  refine take_ (i := 5) (N := some 10) (v := ?_) (a' := ?_) #[true, true, true, true, true, true, false, false, false, false, false] rfl rfl (by kernel_rfl) (fun _ _ _ h => h) (Or.inl ⟨by rfl, ?_⟩) hHeld ?_ ?_
  rotate_left
  · rintro w' ⟨s0, s1, s2, s3, s4, s5, s6, s7, s8, s9, s10, s11⟩
    go_simp
    with_reducible rfl
  rotate_left
  · simp only [Act.put, List.setIfInBounds_toArray, List.set_cons_zero, List.set_cons_succ, i64_w, i32_w]
    rfl
  refine one_ (i := 6) (N := some 11) #[true, true, true, true, true, true, true, false, false, false, false] rfl rfl (by kernel_rfl) (by decide) (fun K hK => ?_)
  refine value_ (w1 := ?_) (v := ?_) (by rfl) rfl ?_ ?_
  rotate_left 2
  · go_simp
    constructor
    · rfl
    · rfl
  refine hK.out _ _ ⟨(by first | exact b5 | go_keep), (by first | exact m0 | go_keep), (by first | exact m1 | go_keep), (by first | exact m2 | go_keep), (by first | exact m3 | go_keep), (by first | exact m4 | go_keep), (by first | exact m5 | go_keep), (by first | exact m6 | go_keep), (by first | exact m7 | go_keep), (by first | exact m8 | go_keep), (by first | exact m9 | go_keep), (by first | exact m10 | go_keep)⟩ (fun hHeld => ?_)
  clear hK K
  refine norm_ (a' := ?_) ?_ ?_
  rotate_left
  · show Act.put _ (some 11) _ = _
    simp only [Act.put, List.setIfInBounds_toArray, List.set_cons_zero, List.set_cons_succ, i64_w, i32_w]
    rfl
  refine one_ (i := 7) (N := some 12) #[true, true, true, true, true, true, true, true, false, false, false] rfl rfl (by kernel_rfl) (by decide) (fun K hK => ?_)
  rw [show ((w.alloc (.cells #[.int .u8 d.op, .int .u8 d.c, .int .u64 d.s0, .int .u64 d.s1, .int .u64 d.s2, .int .u64 d.s3, .int .i64 d.mn, .int .i64 d.mx, .bool d.lz, .int .i64 d.n, kv] 35)).alloc (.cells #[.int .u8 d.op, .int .u8 d.c, .int .u64 d.s0, .int .u64 d.s1, .int .u64 d.s2, .int .u64 d.s3, .int .i64 d.mn, .int .i64 d.mx, .bool d.lz, .int .i64 d.n, kv] 35)).drew = ((w.alloc (.cells #[.int .u8 d.op, .int .u8 d.c, .int .u64 d.s0, .int .u64 d.s1, .int .u64 d.s2, .int .u64 d.s3, .int .i64 d.mn, .int .i64 d.mx, .bool d.lz, .int .i64 d.n, kv] 35)).drew).alloc (.cells #[.int .u8 d.op, .int .u8 d.c, .int .u64 d.s0, .int .u64 d.s1, .int .u64 d.s2, .int .u64 d.s3, .int .i64 d.mn, .int .i64 d.mx, .bool d.lz, .int .i64 d.n, kv] 35) from rfl]
  refine step_append_cells (W := (w.alloc (.cells #[.int .u8 d.op, .int .u8 d.c, .int .u64 d.s0, .int .u64 d.s1, .int .u64 d.s2, .int .u64 d.s3, .int .i64 d.mn, .int .i64 d.mx, .bool d.lz, .int .i64 d.n, kv] 35)).drew) 0 (by rfl) _ _ 27 35 zN 11 nBytes rfl Tryz.underlying27 infoN rfl (by decide) (by decide) v L.length (L.flatMap ndC) [.int .u8 d.op, .int .u8 d.c, .int .u64 d.s0, .int .u64 d.s1, .int .u64 d.s2, .int .u64 d.s3, .int .i64 d.mn, .int .i64 d.mx, .bool d.lz, .int .i64 d.n, kv] rfl (by show Value.slice (some ⟨w.heap.size + 1, 0, none⟩) 1 1 = _; simp) rfl (ndC_one hkv) HAL.out.2.2 (Below.refl 0 _) (Nat.zero_le _) (by unfold nBytes; omega) ?_
  intro v1 w1 hr1 _ hg1 ha1
  obtain ⟨A1, q1, hv1⟩ := nrow_slice hr1
  subst hv1
  have HN := Lib.hid (And.intro hr1 (And.intro hg1 ha1))
  have hkG := hg1.block G (by simp; omega) (fun e => hnG e.symm)
  have hkB := hg1.block w.heap.size (by simp) (fun e => hnB e.symm)
  have e5 : w1.cell? ⟨G, 5, none⟩ = some v := (World.cell?_of_block (a := ⟨G, 5, none⟩) hkG).trans a5
  have fG := blk_frozen (hkG.trans HAL.out.2.1) 5
  have l0 := (World.cell?_of_block (w' := w1) (a := ⟨w.heap.size, 0, none⟩) hkB).trans n0
  have l1 := (World.cell?_of_block (w' := w1) (a := ⟨w.heap.size, 1, none⟩) hkB).trans n1
  have l2 := (World.cell?_of_block (w' := w1) (a := ⟨w.heap.size, 2, none⟩) hkB).trans n2
  have l3 := (World.cell?_of_block (w' := w1) (a := ⟨w.heap.size, 3, none⟩) hkB).trans n3
  have l4 := (World.cell?_of_block (w' := w1) (a := ⟨w.heap.size, 4, none⟩) hkB).trans n4
  have l5 := (World.cell?_of_block (w' := w1) (a := ⟨w.heap.size, 5, none⟩) hkB).trans n5
  have l6 := (World.cell?_of_block (w' := w1) (a := ⟨w.heap.size, 6, none⟩) hkB).trans n6
  have l7 := (World.cell?_of_block (w' := w1) (a := ⟨w.heap.size, 7, none⟩) hkB).trans n7
  have l8 := (World.cell?_of_block (w' := w1) (a := ⟨w.heap.size, 8, none⟩) hkB).trans n8
  have l9 := (World.cell?_of_block (w' := w1) (a := ⟨w.heap.size, 9, none⟩) hkB).trans n9
  have l10 := (World.cell?_of_block (w' := w1) (a := ⟨w.heap.size, 10, none⟩) hkB).trans n10
  clear hr1 hg1 ha1
  refine hK.out _ _ ⟨(by first | exact e5 | go_keep), (by first | exact l0 | go_keep), (by first | exact l1 | go_keep), (by first | exact l2 | go_keep), (by first | exact l3 | go_keep), (by first | exact l4 | go_keep), (by first | exact l5 | go_keep), (by first | exact l6 | go_keep), (by first | exact l7 | go_keep), (by first | exact l8 | go_keep), (by first | exact l9 | go_keep), (by first | exact l10 | go_keep)⟩ (fun hHeld => ?_)
  clear hK K
  refine norm_ (a' := ?_) ?_ ?_
  rotate_left
  · show Act.put _ (some 12) _ = _
    simp only [Act.put, List.setIfInBounds_toArray, List.set_cons_zero, List.set_cons_succ, i64_w, i32_w]
    rfl
  refine pure_ (i := 8) (N := some 13) (v := ?_) (a' := ?_) #[true, true, true, true, true, true, true, true, true, false, false] rfl rfl (by kernel_rfl) (fun _ _ _ h => h) (Or.inl ⟨by rfl, ?_⟩) ?_ ?_
  rotate_left
  · intro w'
    go_simp
    with_reducible rfl
  rotate_left
  · simp only [Act.put, List.setIfInBounds_toArray, List.set_cons_zero, List.set_cons_succ, i64_w, i32_w]
    rfl
  refine pure_ (i := 9) (N := some 14) (v := ?_) (a' := ?_) #[true, true, true, true, true, true, true, true, true, true, false] rfl rfl (by kernel_rfl) (fun _ _ _ h => h) (Or.inl ⟨by rfl, ?_⟩) ?_ ?_
  rotate_left
  · intro w'
    go_simp
    with_reducible rfl
  rotate_left
  · simp only [Act.put, List.setIfInBounds_toArray, List.set_cons_zero, List.set_cons_succ, i64_w, i32_w]
    rfl
  refine last_ (i := 10) (N := none) #[true, true, true, true, true, true, true, true, true, true, true] rfl rfl (by kernel_rfl) (by decide) (fun K hK => ?_)
  refine skip_ (w1 := ?_) (by rfl) rfl ?_ ?_
  rotate_left
  · go_simp
    rfl
  refine hK.out _ _ ?_
  clear hK K
  refine done_ (by kernel_rfl) ?_

  go_wp2
  go_ret
  have hWs : (w.alloc (.cells (ndC (d, kv)).toArray 35)).drew.heap.size = w.heap.size + 1 := by simp
  obtain ⟨hal, hbx, hrow⟩ := HAL.out
  have hg : (w.alloc (.cells (ndC (d, kv)).toArray 35)).drew.grownBy w1 v.ownBlock := HN.out.2.1
  have ha : (Value.slice A1 (L.length + 1) q1).ownBlock = v.ownBlock ∨ ∃ b, (Value.slice A1 (L.length + 1) q1).ownBlock = some b ∧ w.heap.size + 1 ≤ b := by
    have h9 : (Value.slice A1 (L.length + 1) q1).ownBlock = v.ownBlock ∨ ∃ b, (Value.slice A1 (L.length + 1) q1).ownBlock = some b ∧ (w.alloc (.cells (ndC (d, kv)).toArray 35)).drew.heap.size ≤ b := HN.out.2.2
    rwa [hWs] at h9
  have hne : (Value.slice A1 (L.length + 1) q1).ownBlock ≠ some G := by
    rcases ha with h9 | ⟨b, h9, hb⟩
    · rw [h9]; exact hnG
    · rw [h9]
      intro e
      have := Option.some.inj e
      omega
  have hold : ∀ b, b < w.heap.size → b ≠ G → v.ownBlock ≠ some b → (w1.setCell ⟨G, 5, none⟩ (.slice A1 (L.length + 1) q1)).heap[b]? = w.heap[b]? := fun b hb hbG hbv => (Below.heap_setCell w1 ⟨G, 5, none⟩ _ b (fun e => hbG e)).trans ((hg.block b (by omega) (fun e => hbv e.symm)).trans (hal.block b hb))
  refine ⟨_, rfl, ⟨blk_set (hkG.trans hbx) 5 _, ?_, hne, ?_⟩, ⟨hg.os.trans hal.os, hg.tape.trans hal.tape, hg.output.trans hal.output, ?_, hold, ?_⟩⟩
  · have h9 := own_move HN.out.1 (w1 := w1.setCell ⟨G, 5, none⟩ (.slice A1 (L.length + 1) q1)) fun k hk => Below.heap_setCell w1 ⟨G, 5, none⟩ _ k (fun e => hne (by rw [hk, e]))
    rw [List.length_append, List.flatMap_append, List.length_singleton]
    simpa [ndC] using h9
  · intro x hx
    have hpred : ∀ b, (b ≠ G ∧ v.ownBlock ≠ some b) → b < w.heap.size → (w1.setCell ⟨G, 5, none⟩ (.slice A1 (L.length + 1) q1)).heap[b]? = w.heap[b]? ∧ (b ≠ G ∧ (Value.slice A1 (L.length + 1) q1).ownBlock ≠ some b) := fun b hF hb => ⟨hold b hb hF.1 hF.2, hF.1, fun e => by
      rcases ha with h9 | ⟨b', h9, hb'⟩
      · exact hF.2 (h9.symm.trans e)
      · rw [h9] at e
        have := Option.some.inj e
        omega⟩
    have hsz : w.heap.size ≤ (w1.setCell ⟨G, 5, none⟩ (.slice A1 (L.length + 1) q1)).heap.size := by
      have := hg.size
      simp [World.setCell] at *
      omega
    rcases List.mem_append.1 hx with hx | hx
    · exact (HH.out.kids x hx).step hsz hpred
    · obtain rfl : x = (d, kv) := by simpa using hx
      exact HK.out.step hsz hpred
  · have := hg.size
    simp [World.setCell] at *
    omega
  · intro b hb
    rcases ha with h9 | ⟨b', h9, hb'⟩
    · exact .inl (h9.symm.trans hb)
    · rw [h9] at hb
      have := Option.some.inj hb
      exact .inr (by omega)
end
end Go.Proofs.YtjdlbejmdjcajaaGreat
