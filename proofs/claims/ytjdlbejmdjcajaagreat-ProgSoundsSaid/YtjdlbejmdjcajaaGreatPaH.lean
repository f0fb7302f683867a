/- a branch that is read, reader and branch together; byte, piece: walked. -/
import Derived.Test.YtjdlbejmdjcajaaGreatPaG
set_option linter.unusedVariables false
set_option linter.unusedSimpArgs false
namespace Go.Proofs.YtjdlbejmdjcajaaGreat
open Go.RowKit Go.Shelf Go.Maps Go.Proofs.YtjdlbejmdjcajaaGreatW.PrintWords Go.Proofs.YtjdlbejmdjcajaaGreatW.PrintLast

theorem Is.wide {w : World} {F F' : Nat → Prop} {v : Value} {ks : List Nat} (h : Is w F v ks) (hf : ∀ b, F b → b < w.heap.size → F' b) : Is w F' v ks :=
  h.step (Nat.le_refl _) fun b hb hl => ⟨rfl, hf b hb hl⟩
/-- where the branch began: world w0, nodes L0; since then: nodes N -/
structure Cur (w0 w : World) (G Bk : Nat) (s last : ByteArray) (r : Pp.Rs) (v0 v kv : Value) (L0 N : List (Pp.Nd × Value)) (ks : List Nat) (may : Bool) : Prop where
  rd : Rdr w G s last r v (L0 ++ N)
  br : Bch w G Bk v kv ks may
  pf : Pf w0 w G v0 v
  fB : w0.heap.size ≤ Bk
  fk : ∀ b, kv.ownBlock = some b → w0.heap.size ≤ b
  new : ∀ x ∈ N, Is w (fun b => w0.heap.size ≤ b ∧ b ≠ G ∧ v.ownBlock ≠ some b ∧ b ≠ Bk ∧ kv.ownBlock ≠ some b) x.2 x.1.kids
  old : ∀ x ∈ L0, Is w0 (fun b => b ≠ G ∧ v0.ownBlock ≠ some b) x.2 x.1.kids
  gl : G < w0.heap.size
  vl : ∀ b, v0.ownBlock = some b → b < w0.heap.size
section
variable {w0 w w' : World} {G Bk : Nat} {s last : ByteArray} {r : Pp.Rs} {v0 v kv kn : Value} {L0 N : List (Pp.Nd × Value)} {ks : List Nat} {may : Bool}
def CurPost (w0 : World) (G Bk : Nat) (s last : ByteArray) (r : Pp.Rs) (v0 : Value) (L0 N : List (Pp.Nd × Value)) (ks : List Nat) (may : Bool) (u : Value) (e : Ending) (w' : World) : Prop :=
  ∃ v kv, e = .returned u ∧ Cur w0 w' G Bk s last r v0 v kv L0 N ks may
theorem Cur.ol (h : Cur w0 w G Bk s last r v0 v kv L0 N ks may) : ∀ x ∈ L0, Is w (fun b => b < w0.heap.size ∧ b ≠ G ∧ v.ownBlock ≠ some b) x.2 x.1.kids := fun x hx =>
  ((h.old x hx).wide (F' := fun b => b < w0.heap.size ∧ b ≠ G ∧ v0.ownBlock ≠ some b) fun b hb hl => ⟨hl, hb⟩).step h.pf.size fun b hb hl => ⟨h.pf.block b hl hb.2.1 hb.2.2, hb.1, hb.2.1, fun e => by
    rcases h.pf.own b e with h1 | h1
    · exact hb.2.2 h1
    · omega⟩
theorem cur_node (h : Cur w0 w G Bk s last r v0 v kv L0 N ks may) {d : Pp.Nd} (hk : Is w (fun b => w0.heap.size ≤ b ∧ b ≠ G ∧ v.ownBlock ≠ some b ∧ b ≠ Bk ∧ kv.ownBlock ≠ some b) kn d.kids) (hl : (L0 ++ N).length ≤ 100000) :
    Calls Tryz.prog 52 #[.pointer (some ⟨G, 0, none⟩), ndV d kn] w fun e w' => ∃ v', e = .returned (.int .i64 ((L0 ++ N).length : Int)) ∧ Cur w0 w' G Bk s last r v0 v' kv L0 (N ++ [(d, kn)]) ks may := by
  refine (node_any h.rd (hk.wide fun b hb _ => ⟨hb.2.1, hb.2.2.1⟩) hl).mono ?_
  rintro e w' ⟨v', rfl, h1, h2⟩
  have hB := blk_lt h.br.box
  have hkl := int_lt h.br.row
  have key : ∀ b, (w0.heap.size ≤ b ∧ b ≠ G ∧ v.ownBlock ≠ some b ∧ b ≠ Bk ∧ kv.ownBlock ≠ some b) → b < w.heap.size → w'.heap[b]? = w.heap[b]? ∧ (w0.heap.size ≤ b ∧ b ≠ G ∧ v'.ownBlock ≠ some b ∧ b ≠ Bk ∧ kv.ownBlock ≠ some b) := fun b hb hlt => ⟨h2.block b hlt hb.2.1 hb.2.2.1, hb.1, hb.2.1, fun e => by
    rcases h2.own b e with h9 | h9
    · exact hb.2.2.1 h9
    · omega, hb.2.2.2.1, hb.2.2.2.2⟩
  refine ⟨v', rfl, ⟨by rw [← List.append_assoc]; exact h1, h.br.step h2, h.pf.trans h2, h.fB, h.fk, fun x hx => ?_, h.old, h.gl, h.vl⟩⟩
  rcases List.mem_append.1 hx with hx | hx
  · exact (h.new x hx).step h2.size key
  · obtain rfl : x = (d, kn) := by simpa using hx
    exact hk.step h2.size key
theorem cur_add (h : Cur w0 w G Bk s last r v0 v kv L0 N ks may) {k : Nat} {m : Bool} (hl : ks.length ≤ 100000) :
    Calls Tryz.prog 51 #[.pointer (some ⟨Bk, 0, none⟩), .int .i64 (k : Int), .bool m] w (CurPost w0 G Bk s last r v0 L0 N (ks ++ [k]) m (.tuple #[])) := by
  have hvl := own_lt h.rd.row
  have hG := blk_lt h.rd.box
  refine (add_any h.br hl hvl hG).mono ?_
  rintro e w' ⟨kv', rfl, h1, hs, ho, ht, hp, hb, hw⟩
  have kG : w'.heap[G]? = w.heap[G]? := hb G hG (fun e => h.br.nG.1 e.symm) h.br.nG.2
  have kv_ : ∀ b, v.ownBlock = some b → w'.heap[b]? = w.heap[b]? := fun b e => hb b (hvl b e) (fun e2 => h.br.nv.1 (e2 ▸ e)) (h.br.nv.2 b e)
  have hold : ∀ b, b < w0.heap.size → w'.heap[b]? = w.heap[b]? := fun b hlt => hb b (Nat.lt_of_lt_of_le hlt h.pf.size) (fun e => by have := h.fB; omega) (fun e => by have := h.fk b e; omega)
  have hfk : ∀ b, kv'.ownBlock = some b → w0.heap.size ≤ b := fun b e => by
    rcases hw b e with h9 | h9
    · exact h.fk b h9
    · exact Nat.le_trans h.pf.size h9
  have hnew : ∀ x ∈ N, Is w' (fun b => w0.heap.size ≤ b ∧ b ≠ G ∧ v.ownBlock ≠ some b ∧ b ≠ Bk ∧ kv'.ownBlock ≠ some b) x.2 x.1.kids := fun x hx =>
    (h.new x hx).step hs fun b hbb hlt => ⟨hb b hlt hbb.2.2.2.1 hbb.2.2.2.2, hbb.1, hbb.2.1, hbb.2.2.1, hbb.2.2.2.1, fun e => by
      rcases hw b e with h9 | h9
      · exact hbb.2.2.2.2 h9
      · omega⟩
  refine ⟨v, kv', rfl, ⟨⟨h.rd.box.step kG, own_move h.rd.row kv_, h.rd.ne, fun x hx => ?_⟩, h1, ⟨ho.trans h.pf.os, ht.trans h.pf.tape, hp.trans h.pf.output, Nat.le_trans h.pf.size hs, fun b hlt hbG hbv => (hold b hlt).trans (h.pf.block b hlt hbG hbv), h.pf.own⟩, h.fB, hfk, hnew, h.old, h.gl, h.vl⟩⟩
  rcases List.mem_append.1 hx with hx | hx
  · exact (h.ol x hx).step hs fun b hbb _ => ⟨hold b hbb.1, hbb.2⟩
  · exact (hnew x hx).wide fun b hbb _ => ⟨hbb.2.1, hbb.2.2.1⟩
theorem Cur.bcell (h : Cur w0 w G Bk s last r v0 v kv L0 N ks may) : w.cell? ⟨Bk, 0, none⟩ = some (.pointer (some ⟨G, 0, none⟩)) ∧ w.cell? ⟨Bk, 1, none⟩ = some kv ∧ w.cell? ⟨Bk, 2, none⟩ = some (.bool may) := by
  refine ⟨?_, ?_, ?_⟩ <;> (rw [blk_cell h.br.box]; rfl)
set_option maxRecDepth 100000 in
set_option maxHeartbeats 1000000 in
/-- a piece without more -/
theorem piece_any (h : Cur w0 w G Bk s last r v0 v kv L0 N ks may) (op : Int) (m : Bool) (hl : (L0 ++ N).length ≤ 100000) (hk : ks.length ≤ 100000) :
    Calls Tryz.prog 61 #[.pointer (some ⟨Bk, 0, none⟩), .int .u8 op, .bool m] w (CurPost w0 G Bk s last r v0 L0 (N ++ [({ Pp.nd0 with op := op }, .slice none 0 0)]) (ks ++ [(L0 ++ N).length]) m (.tuple #[])) := by
  obtain ⟨c0, c1, c2⟩ := h.bcell
  have HN := Lib.hid (cur_node h (d := { Pp.nd0 with op := op }) (Is.nil w _) hl)
  unfold ndV at HN
  simp only [Pp.nd0] at HN
  obtain ⟨q, hq⟩ : ∃ q, (L0 ++ N).length = q := ⟨_, rfl⟩
  rw [hq] at HN ⊢
  clear h hl hq
  go_enter Tryz.func61, Tryz.ntmps61
  go_wp2_with fail
  refine HN.out.mono ?_
  rintro e w1 ⟨v1, rfl, h1⟩
  have HA := Lib.hid (cur_add h1 (k := q) (m := m) hk)
  clear h1 HN
  go_wp2_with fail
  refine HA.out.mono ?_
  rintro e w2 ⟨v2, kv2, rfl, h2⟩
  have H2 := Lib.hid h2
  clear h2 HA
  go_wp2
  go_end0
  exact ⟨v2, kv2, rfl, H2.out⟩
/-- what is kept where the world only grows -/
theorem Cur.below (h : Cur w0 w G Bk s last r v0 v kv L0 N ks may) (hb : Below w.heap.size w w') : Cur w0 w' G Bk s last r v0 v kv L0 N ks may := by
  have hkl := int_lt h.br.row
  have hvl := own_lt h.rd.row
  exact ⟨⟨h.rd.box.step (hb.block G (blk_lt h.rd.box)), own_move h.rd.row fun b e => hb.block b (hvl b e), h.rd.ne, fun x hx => (h.rd.kids x hx).step hb.size fun b hF hlt => ⟨hb.block b hlt, hF⟩⟩, ⟨(hb.block Bk (blk_lt h.br.box)).trans h.br.box, own_move h.br.row fun b e => hb.block b (hkl b e), h.br.nG, h.br.nB, h.br.nv⟩, h.pf.trans ⟨hb.os, hb.tape, hb.output, hb.size, fun b hlt _ _ => hb.block b hlt, fun b e => .inl e⟩, h.fB, h.fk, fun x hx => (h.new x hx).step hb.size fun b hF hlt => ⟨hb.block b hlt, hF⟩, h.old, h.gl, h.vl⟩
theorem field_node (a b c d e f g h i k l m : Value) (z : Value) (W : World) : (Instr.field 91 (.agg #[a, b, c, d, e, f, g, h, i, k, l, m, z]) 1).run Tryz.prog W = .ok (.agg #[b, c, d, e, f, g, h, i, k, l, m]) W := by kernel_rfl
set_option maxRecDepth 100000 in
set_option maxHeartbeats 1000000 in
/-- a byte as a piece -/
theorem byte_any (h : Cur w0 w G Bk s last r v0 v kv L0 N ks may) (c : UInt8) (hl : (L0 ++ N).length ≤ 100000) (hk : ks.length ≤ 100000) :
    Calls Tryz.prog 60 #[.pointer (some ⟨Bk, 0, none⟩), .int .u8 (c.toNat : Int)] w (CurPost w0 G Bk s last r v0 L0 (N ++ [(Pp.lit c, .slice none 0 0)]) (ks ++ [(L0 ++ N).length]) true (.tuple #[])) := by
  obtain ⟨c0, c1, c2⟩ := h.bcell
  have HL := Lib.hid (literal_any c w.drew)
  simp only [tkV, tokV, Pp.lit, Pp.nd0] at HL
  have hBl := blk_lt h.br.box
  obtain ⟨q, hq⟩ : ∃ q, (L0 ++ N).length = q := ⟨_, rfl⟩
  have HND := Lib.hid (fun w1 (hb : Below w.heap.size w w1) => cur_node (h.below hb) (d := Pp.lit c) (Is.nil w1 _) hl)
  unfold ndV at HND
  simp only [Pp.lit, Pp.nd0] at HND
  rw [hq] at HND ⊢
  have HBD := Lib.hid ((Below.refl w.heap.size w).drew)
  have hfd := field_node (.int .u8 0) (.int .u8 2) (.int .u8 (c.toNat : Int)) (.int .u64 0) (.int .u64 0) (.int .u64 0) (.int .u64 0) (.int .i64 0) (.int .i64 0) (.bool false) (.int .i64 0) (.slice none 0 0) (.bool false)
  clear h hl hq
  go_enter Tryz.func60, Tryz.ntmps60
  go_wp2
  go_region_held3 (fun V => V.cell? ⟨Bk, 0, none⟩ = some (.pointer (some ⟨G, 0, none⟩))) (first | exact c0 | exact e0 | exact e1 | exact e2 | go_keep) (first
    | (go_at_call 56; (with_reducible refine HL.out.mono ?_); rintro e w1 ⟨rfl, hb1⟩; have HB1 := Lib.hid (below_then HBD.out HBD.out.size hb1); have e0 := (World.cell?_of_block (a := ⟨Bk, 0, none⟩) (HB1.out.block Bk hBl)).trans c0; clear hb1)
    | (go_at_call 52; (with_reducible refine (HND.out _ HB1.out).mono ?_); rintro e w2 ⟨v2, rfl, h2⟩; have e1 := h2.bcell.1; have HA := Lib.hid (cur_add h2 (k := q) (m := true) hk); clear h2)
    | (go_at_call 51; (with_reducible refine HA.out.mono ?_); rintro e w3 ⟨v3, kv3, rfl, h3⟩; have e2 := h3.bcell.1; have H3 := Lib.hid h3; clear h3))
  all_goals
    go_wp2
    go_end0
    exact ⟨v3, kv3, rfl, H3.out⟩
end
end Go.Proofs.YtjdlbejmdjcajaaGreat
