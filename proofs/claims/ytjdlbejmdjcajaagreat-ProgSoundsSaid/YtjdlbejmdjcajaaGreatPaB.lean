/- the reader in memory; peek, control, Of at what is no class, slash, next: walked. -/
import Derived.Test.YtjdlbejmdjcajaaGreatPaA
set_option linter.unusedVariables false
set_option linter.unusedSimpArgs false
namespace Go.Proofs.YtjdlbejmdjcajaaGreat
open Go.RowKit Go.Shelf Go.Maps Go.Proofs.YtjdlbejmdjcajaaGreatW.PrintWords Go.Proofs.YtjdlbejmdjcajaaGreatW.PrintLast

/-- a reader in memory: its nodes' row is v -/
def RdM (w : World) (G : Nat) (s last : ByteArray) (r : Pp.Rs) (v : Value) : Prop :=
  w.heap[G]? = some (.cells #[.int .u8 r.mode, .int .u8 r.fold, .string s, .string last, .int .i64 r.pos, v, .int .i64 r.groups, .bool (r.cl 0), .bool (r.cl 1), .bool (r.cl 2), .bool (r.cl 3), .bool (r.cl 4), .bool (r.cl 5), .bool (r.cl 6), .bool (r.cl 7), .bool (r.cl 8), .bool (r.cl 9)] 70 (0, 0))
section
variable {w w' : World} {G : Nat} {s last : ByteArray} {r : Pp.Rs} {v : Value}
/-- at some place -/
theorem RdM.cells (h : RdM w G s last r v) : w.cell? ⟨G, 0, none⟩ = some (.int .u8 r.mode) ∧ w.cell? ⟨G, 1, none⟩ = some (.int .u8 r.fold) ∧ w.cell? ⟨G, 2, none⟩ = some (.string s) ∧ w.cell? ⟨G, 4, none⟩ = some (.int .i64 r.pos) ∧ w.cell? ⟨G, 5, none⟩ = some v ∧ w.cell? ⟨G, 6, none⟩ = some (.int .i64 r.groups) := by
  refine ⟨?_, ?_, ?_, ?_, ?_, ?_⟩ <;> (rw [blk_cell h]; rfl)
theorem RdM.pos (h : RdM w G s last r v) (p : Nat) {x : Int} (hx : x = (p : Int)) : RdM (w.setCell ⟨G, 4, none⟩ (.int .i64 x)) G s last { r with pos := p } v := by
  subst hx
  exact blk_set h 4 _
theorem RdM.md (h : RdM w G s last r v) (m : Int) : RdM (w.setCell ⟨G, 0, none⟩ (.int .u8 m)) G s last { r with mode := m } v := blk_set h 0 _
theorem RdM.step (h : RdM w G s last r v) (hb : w'.heap[G]? = w.heap[G]?) : RdM w' G s last r v := hb.trans h
set_option maxRecDepth 100000 in
theorem peek_some (h : RdM w G s last r v) {k : Nat} (hk : k < s.size) :
    Calls Tryz.prog 67 #[.pointer (some ⟨G, 0, none⟩), .int .i64 (k : Int)] w fun e w' => e = .returned (.tuple #[.int .u8 (s[k].toNat : Int), .bool true]) ∧ w' = w := by
  obtain ⟨_, _, c2, _⟩ := h.cells
  have h1 : ¬ ((s.size : Int) ≤ (k : Int)) := by omega
  have h2 : (k : Int) < (s.size : Int) := by omega
  clear h
  go_enter Tryz.func67, Tryz.ntmps67
  go_wp2
  go_ret2
  exact ⟨rfl, rfl⟩
set_option maxRecDepth 100000 in
theorem peek_none (h : RdM w G s last r v) {k : Nat} (hk : s.size ≤ k) :
    Calls Tryz.prog 67 #[.pointer (some ⟨G, 0, none⟩), .int .i64 (k : Int)] w fun e w' => e = .returned (.tuple #[.int .u8 0, .bool false]) ∧ w' = w := by
  obtain ⟨_, _, c2, _⟩ := h.cells
  have h1 : (s.size : Int) ≤ (k : Int) := by omega
  clear h
  go_enter Tryz.func67, Tryz.ntmps67
  go_wp2
  go_ret2
  exact ⟨rfl, rfl⟩
def NextPost (w : World) (G : Nat) (s last : ByteArray) (v : Value) (t : Pp.Tk) (r : Pp.Rs) (e : Ending) (w' : World) : Prop :=
  e = .returned (tkV t) ∧ RdM w' G s last r v ∧ w.grownBy w' (some G)
theorem pgrown_set {w0 w : World} {G : Nat} (h : w0.grownBy w (some G)) {p : Addr} (hp : p.block = G ∨ w0.heap.size ≤ p.block) (v : Value) : w0.grownBy (w.setCell p v) (some G) :=
  ⟨h.os, h.tape, h.output, by simpa using h.size, fun b hb hne => (Below.heap_setCell w p v b (fun e => by
    rcases hp with hp | hp
    · exact hne (by rw [e, hp])
    · omega)).trans (h.block b hb hne)⟩
theorem pgrown_below {w w1 : World} {g : Option Nat} (h : Below w.heap.size w w1) : w.grownBy w1 g := ⟨h.os, h.tape, h.output, h.size, fun b hb _ => h.block b hb⟩
theorem tok_grown {C : Nat} (hC : w.heap.size ≤ C) : ∀ (vs : List Value) (o : Nat) {W : World}, w.grownBy W (some G) → w.grownBy (W.setCells C o vs) (some G)
  | [], _, _, h => h
  | v :: vs, o, _, h => tok_grown hC vs (o + 1) (pgrown_set h (p := ⟨C, o, none⟩) (.inr hC) v)
theorem pgrown_then {X W : World} (h : w.grownBy X (some G)) (hb : Below w.heap.size X W) : w.grownBy W (some G) :=
  ⟨hb.os.trans h.os, hb.tape.trans h.tape, hb.output.trans h.output, Nat.le_trans h.size hb.size, fun b hlt hne => (hb.block b hlt).trans (h.block b hlt hne)⟩
theorem setCells_far {C g : Nat} (hne : g ≠ C) : ∀ (vs : List Value) (o : Nat) (W : World), (W.setCells C o vs).heap[g]? = W.heap[g]?
  | [], _, _ => rfl
  | v :: vs, o, W => (setCells_far hne vs (o + 1) _).trans (Below.heap_setCell W ⟨C, o, none⟩ v g (fun e => hne e))
theorem alloc_at (w : World) (o : Obj) : (w.alloc o).heap[w.heap.size]? = some o := by
  show (w.heap.push o)[w.heap.size]? = _
  simp
/-- the token that is handed back, before it is written -/
def tok0 : Obj := .cells #[.int .u8 0, .int .u8 0, .int .u8 0, .int .u64 0, .int .u64 0, .int .u64 0, .int .u64 0, .int .i64 0, .int .i64 0, .bool false, .int .i64 0, .slice none 0 0, .bool false] 91
theorem tok0_cells {C : Nat} (h : w.heap[C]? = some tok0) : w.cell? ⟨C, 0, none⟩ = some (.int .u8 0) ∧ w.cell? ⟨C, 1, none⟩ = some (.int .u8 0) ∧ w.cell? ⟨C, 2, none⟩ = some (.int .u8 0) ∧ w.cell? ⟨C, 3, none⟩ = some (.int .u64 0) ∧ w.cell? ⟨C, 4, none⟩ = some (.int .u64 0) ∧ w.cell? ⟨C, 5, none⟩ = some (.int .u64 0) ∧ w.cell? ⟨C, 6, none⟩ = some (.int .u64 0) ∧ w.cell? ⟨C, 7, none⟩ = some (.int .i64 0) ∧ w.cell? ⟨C, 8, none⟩ = some (.int .i64 0) ∧ w.cell? ⟨C, 9, none⟩ = some (.bool false) ∧ w.cell? ⟨C, 10, none⟩ = some (.int .i64 0) ∧ w.cell? ⟨C, 11, none⟩ = some (.slice none 0 0) ∧ w.cell? ⟨C, 12, none⟩ = some (.bool false) ∧ ∀ i, w.frozen? ⟨C, i, none⟩ = false := by
  refine ⟨?_, ?_, ?_, ?_, ?_, ?_, ?_, ?_, ?_, ?_, ?_, ?_, ?_, fun i => blk_frozen h i⟩ <;> (rw [blk_cell h]; rfl)
theorem blkCells {g : Nat} {e : TypeId} : ∀ (vs : List Value) (w : World) (pre old post : List Value), w.heap[g]? = some (.cells (pre ++ (old ++ post)).toArray e (0, 0)) → old.length = vs.length →
    (w.setCells g pre.length vs).heap[g]? = some (.cells (pre ++ (vs ++ post)).toArray e (0, 0))
  | [], w, pre, old, post, h, hl => by
    obtain rfl := List.eq_nil_of_length_eq_zero hl
    exact h
  | v :: vs, w, pre, old, post, h, hl => by
    obtain ⟨o, old', rfl⟩ : ∃ o old', old = o :: old' := by
      cases old with
      | nil => simp at hl
      | cons o old' => exact ⟨o, old', rfl⟩
    have h2 := blk_set h pre.length v
    have e1 : (pre ++ ((o :: old') ++ post)).toArray.setIfInBounds pre.length v = ((pre ++ [v]) ++ (old' ++ post)).toArray := by
      apply Array.ext'
      simp [Array.toList_setIfInBounds, List.set_append]
    rw [e1] at h2
    have h3 := blkCells vs _ (pre ++ [v]) old' post h2 (by simpa using hl)
    simp only [List.length_append, List.length_singleton] at h3
    have e2 : pre ++ (v :: vs ++ post) = pre ++ [v] ++ (vs ++ post) := by simp
    rw [e2]
    exact h3
theorem setCells_blk {C : Nat} {e : TypeId} {cs : Array Value} (h : w.heap[C]? = some (.cells cs e (0, 0))) (vs : List Value) (hl : cs.size = vs.length) : (w.setCells C 0 vs).heap[C]? = some (.cells vs.toArray e (0, 0)) := by
  have := blkCells (g := C) (e := e) vs w [] cs.toList [] (by simpa using h) (by simpa using hl)
  simpa using this
/-- a token is written -/
def tkL (sign : Int) (d : Pp.Nd) (kv : Value) (nn : Bool) : List Value := [.int .u8 sign, .int .u8 d.op, .int .u8 d.c, .int .u64 d.s0, .int .u64 d.s1, .int .u64 d.s2, .int .u64 d.s3, .int .i64 d.mn, .int .i64 d.mx, .bool d.lz, .int .i64 d.n, kv, .bool nn]
theorem tk_cells {C : Nat} (h : w.heap[C]? = some tok0) (sign : Int) (d : Pp.Nd) (kv : Value) (nn : Bool) :
    (w.setCells C 0 (tkL sign d kv nn)).cell? ⟨C, 0, none⟩ = some (.int .u8 sign) ∧ (w.setCells C 0 (tkL sign d kv nn)).cell? ⟨C, 1, none⟩ = some (.int .u8 d.op) ∧ (w.setCells C 0 (tkL sign d kv nn)).cell? ⟨C, 2, none⟩ = some (.int .u8 d.c) ∧ (w.setCells C 0 (tkL sign d kv nn)).cell? ⟨C, 3, none⟩ = some (.int .u64 d.s0) ∧ (w.setCells C 0 (tkL sign d kv nn)).cell? ⟨C, 4, none⟩ = some (.int .u64 d.s1) ∧ (w.setCells C 0 (tkL sign d kv nn)).cell? ⟨C, 5, none⟩ = some (.int .u64 d.s2) ∧ (w.setCells C 0 (tkL sign d kv nn)).cell? ⟨C, 6, none⟩ = some (.int .u64 d.s3) ∧ (w.setCells C 0 (tkL sign d kv nn)).cell? ⟨C, 7, none⟩ = some (.int .i64 d.mn) ∧ (w.setCells C 0 (tkL sign d kv nn)).cell? ⟨C, 8, none⟩ = some (.int .i64 d.mx) ∧ (w.setCells C 0 (tkL sign d kv nn)).cell? ⟨C, 9, none⟩ = some (.bool d.lz) ∧ (w.setCells C 0 (tkL sign d kv nn)).cell? ⟨C, 10, none⟩ = some (.int .i64 d.n) ∧ (w.setCells C 0 (tkL sign d kv nn)).cell? ⟨C, 11, none⟩ = some kv ∧ (w.setCells C 0 (tkL sign d kv nn)).cell? ⟨C, 12, none⟩ = some (.bool nn) := by
  have h9 := setCells_blk (w := w) h (tkL sign d kv nn) rfl
  refine ⟨?_, ?_, ?_, ?_, ?_, ?_, ?_, ?_, ?_, ?_, ?_, ?_, ?_⟩ <;> (rw [blk_cell h9]; rfl)
set_option maxRecDepth 100000 in
set_option maxHeartbeats 1000000 in
theorem next_lit (h : RdM w G s last r v) (hk : r.pos < s.size) (hc : s[r.pos] ≠ 92) (hp : r.pos ≤ 1000000) :
    Calls Tryz.prog 38 #[.pointer (some ⟨G, 0, none⟩)] w (NextPost w G s last v (if hasB (plainB r.mode) s[r.pos] then .sign s[r.pos] else .lit s[r.pos]) { r with pos := r.pos + 1 }) := by
  obtain ⟨c0, c1, c2, c4, c5, c6⟩ := h.cells
  have hG := blk_lt h
  have h2 : (r.pos : Int) < (s.size : Int) := by omega
  have b92 : ((s[r.pos].toNat : Int) == 92) = false := beq_eq_false_iff_ne.2 (fun e => hc (UInt8.toNat_inj.1 (by simpa using Int.ofNat.inj e)))
  have hal := below_alloc (Below.refl w.heap.size w) tok0
  unfold tok0 at hal
  have h1 := h.step (hal.block G hG)
  obtain ⟨d0, d1, d2, d4, d5, d6⟩ := h1.cells
  have f4 := blk_frozen h1 4
  have HP := Lib.hid (plain_any r.mode)
  have HS := Lib.hid (has_any (plainB r.mode) s[r.pos])
  have HL := Lib.hid (literal_any s[r.pos])
  simp only [tkV, tokV, Pp.lit, Pp.nd0] at HL
  have HH := Lib.hid h
  clear h h1 hal
  have sz : ∀ x, (w.setCell ⟨G, 4, none⟩ x).heap.size = w.heap.size := fun x => by simp [World.setCell]
  have HR4 := Lib.hid (HH.out.pos (r.pos + 1) (x := (r.pos : Int) + 1) (by omega))
  have HG4 := Lib.hid (pgrown_set (G := G) (pgrown_below (Below.refl w.heap.size w)) (p := ⟨G, 4, none⟩) (.inl rfl) (.int .i64 ((r.pos : Int) + 1)))
  cases hh : hasB (plainB r.mode) s[r.pos]
  · rw [hh] at HS
    go_enter Tryz.func38, Tryz.ntmps38
    go_wp2
    go_region_held3 (fun V => V.cell? ⟨G, 2, none⟩ = some (.string s) ∧ V.cell? ⟨G, 4, none⟩ = some (.int .i64 r.pos)) (first | exact ⟨d2, d4⟩ | go_keep) (fail)
    go_wp2_with (first
      | (go_at_call 55; refine (HP.out _).mono ?_; rintro e w1 ⟨rfl, rfl⟩)
      | (go_at_call 54; refine (HS.out _).mono ?_; rintro e w1 ⟨rfl, rfl⟩))
    have hX := below_alloc (Below.refl (w.setCell ⟨G, 4, none⟩ (.int .i64 ((r.pos : Int) + 1))).heap.size (w.setCell ⟨G, 4, none⟩ (.int .i64 ((r.pos : Int) + 1)))) tok0
    have hC0 := alloc_at (w.setCell ⟨G, 4, none⟩ (.int .i64 ((r.pos : Int) + 1))) tok0
    rw [sz] at hC0 hX
    have HX := Lib.hid (And.intro hX.drew hC0)
    clear hX hC0
    refine (HL.out _).mono ?_
    rintro e w1 ⟨rfl, hb1⟩
    have hC1 : w1.heap[w.heap.size]? = some tok0 := (hb1.block _ (by simp [World.setCell])).trans HX.out.2
    have hb2 : Below w.heap.size (w.setCell ⟨G, 4, none⟩ (.int .i64 ((r.pos : Int) + 1))) w1 := below_then HX.out.1 (by have := HX.out.1.size; rwa [sz] at this) (by simpa [tok0, World.setCell] using hb1)
    obtain ⟨t0, t1, t2, t3, t4, t5, t6, t7, t8, t9, t10, t11, t12, tf⟩ := tok0_cells hC1
    have HC1 := Lib.hid hC1
    have H1 := Lib.hid (And.intro (HR4.out.step (hb2.block G hG)) (pgrown_then HG4.out hb2))
    clear hb1 hb2 hC1
    go_wp2
    show bodyPost _ _ _ _ _ (w1.setCells w.heap.size 0 (tkL 0 (Pp.lit s[r.pos]) (.slice none 0 0) false))
    have hR : RdM (w1.setCells w.heap.size 0 (tkL 0 (Pp.lit s[r.pos]) (.slice none 0 0) false)) G s last { r with pos := r.pos + 1 } v := H1.out.1.step (setCells_far (by omega) _ _ _)
    have hD := tok_grown (Nat.le_refl _) (tkL 0 (Pp.lit s[r.pos]) (.slice none 0 0) false) 0 H1.out.2
    have hK := tk_cells (HC1.out) 0 (Pp.lit s[r.pos]) (.slice none 0 0) false
    obtain ⟨W2, hW2⟩ : ∃ W2, w1.setCells w.heap.size 0 (tkL 0 (Pp.lit s[r.pos]) (.slice none 0 0) false) = W2 := ⟨_, rfl⟩
    rw [hW2] at hR hD hK ⊢
    clear hW2
    obtain ⟨k0, k1, k2, k3, k4, k5, k6, k7, k8, k9, k10, k11, k12⟩ := hK
    simp only [Pp.lit, Pp.nd0] at k0 k1 k2 k3 k4 k5 k6 k7 k8 k9 k10 k11 k12
    refine bodyPost_ret (by simp [results, Tryz.results38, go_sem, k0, k1, k2, k3, k4, k5, k6, k7, k8, k9, k10, k11, k12]; try rfl) rfl ?_
    exact ⟨rfl, hR, hD⟩
  · rw [hh] at HS
    go_enter Tryz.func38, Tryz.ntmps38
    go_wp2
    go_region_held3 (fun V => V.cell? ⟨G, 2, none⟩ = some (.string s) ∧ V.cell? ⟨G, 4, none⟩ = some (.int .i64 r.pos)) (first | exact ⟨d2, d4⟩ | go_keep) (fail)
    go_wp2_with (first
      | (go_at_call 55; refine (HP.out _).mono ?_; rintro e w1 ⟨rfl, rfl⟩)
      | (go_at_call 54; refine (HS.out _).mono ?_; rintro e w1 ⟨rfl, rfl⟩))
    have hA := below_alloc (Below.refl (w.setCell ⟨G, 4, none⟩ (.int .i64 ((r.pos : Int) + 1))).heap.size (w.setCell ⟨G, 4, none⟩ (.int .i64 ((r.pos : Int) + 1)))) (.cells (tkL (s[r.pos].toNat : Int) Pp.nd0 (.slice none 0 0) false).toArray 91)
    rw [sz] at hA
    have hA2 := hA.drew
    refine bodyPost_ret (by simp [results, Tryz.results38, go_sem]; try rfl) rfl ?_
    exact ⟨rfl, HR4.out.step (hA2.block G hG), pgrown_then HG4.out hA2⟩
end
end Go.Proofs.YtjdlbejmdjcajaaGreat
