/- pat's branch: walked. -/
import Derived.Test.YtjdlbejmdjcajaaGreatPaJ
set_option linter.unusedVariables false
set_option linter.unusedSimpArgs false
namespace Go.Proofs.YtjdlbejmdjcajaaGreat
open Go.RowKit Go.Shelf Go.Maps Go.Proofs.YtjdlbejmdjcajaaGreatW.PrintWords Go.Proofs.YtjdlbejmdjcajaaGreatW.PrintLast

/-- the place that the reader stands at -/
def posOf (G : Nat) (w : World) : Nat := match w.cell? ⟨G, 4, none⟩ with | some (.int _ x) => x.toNat | _ => 0
theorem RdM.posOf {w : World} {G : Nat} {s last : ByteArray} {r : Pp.Rs} {v : Value} (h : RdM w G s last r v) : posOf G w = r.pos := by
  obtain ⟨_, _, _, c4, _, _⟩ := h.cells
  unfold Go.Proofs.YtjdlbejmdjcajaaGreat.posOf
  rw [c4]
  simp
/-- a branch's state, told -/
def CurB (w0 : World) (G Bk : Nat) (s last : ByteArray) (v0 : Value) (L0 : List (Pp.Nd × Value)) (b : Pp.Br) (w' : World) : Prop :=
  ∃ v kv N, Cur w0 w' G Bk s last b.r.1 v0 v kv L0 N b.kids b.may ∧ (L0 ++ N).map Prod.fst = b.r.2
/-- what is asked of the signs -/
def SignOk (sgn : UInt8 → Nat → Pp.Br → Pp.Res Pp.Br) (G : Nat) (s last : ByteArray) : Prop :=
  ∀ (w0 w : World) (Bk : Nat) (v0 : Value) (L0 : List (Pp.Nd × Value)) (b b2 : Pp.Br) (c : UInt8) (p : Nat), CurB w0 G Bk s last v0 L0 b w → b.r.2.length ≤ 100000 → b.kids.length ≤ 100000 → sgn c p b = some (.ok b2) →
    Calls Tryz.prog 50 #[.pointer (some ⟨Bk, 0, none⟩), .int .u8 (c.toNat : Int), .int .i64 (p : Int)] w fun e w' => e = .returned (.tuple #[]) ∧ CurB w0 G Bk s last v0 L0 b2 w'
def BrPost (w : World) (G : Nat) (s last : ByteArray) (v : Value) (L : List (Pp.Nd × Value)) (k : Nat) (r' : Pp.R) (e : Ending) (w' : World) : Prop :=
  ∃ v' N, e = .returned (.int .i64 (k : Int)) ∧ Rdr w' G s last r'.1 v' (L ++ N) ∧ Pf w w' G v v' ∧ (L ++ N).map Prod.fst = r'.2 ∧ ∀ x ∈ N, Is w' (fun b => w.heap.size ≤ b ∧ b ≠ G ∧ v'.ownBlock ≠ some b) x.2 x.1.kids
section
variable {w w' : World} {G : Nat} {s last : ByteArray} {r : Pp.Rs} {v : Value} {L : List (Pp.Nd × Value)}
theorem cur_start (h : Rdr w G s last r v L) : Cur w (w.alloc (.cells #[.pointer (some ⟨G, 0, none⟩), .slice none 0 0, .bool false] 102)) G w.heap.size s last r v v (.slice none 0 0) L [] [] false := by
  have hal := below_alloc (Below.refl w.heap.size w) (.cells #[.pointer (some ⟨G, 0, none⟩), .slice none 0 0, .bool false] 102)
  have hvl := own_lt h.row
  have hG := blk_lt h.box
  refine ⟨⟨h.box.step (hal.block G hG), ?_, h.ne, fun x hx => ?_⟩, ⟨alloc_at w _, ⟨rfl, .inl ⟨rfl, rfl⟩⟩, ⟨by omega, by simp [Value.ownBlock]⟩, by simp [Value.ownBlock], fun e => by have := hvl _ e; omega, fun b _ => by simp [Value.ownBlock]⟩, ⟨hal.os, hal.tape, hal.output, hal.size, fun b hb _ _ => hal.block b hb, fun b e => .inl e⟩, Nat.le_refl _, fun b e => by simp [Value.ownBlock] at e, (fun x hx => by cases hx), h.kids, hG, hvl⟩
  · rw [List.append_nil]
    exact own_move h.row fun b e => hal.block b (hvl b e)
  · rw [List.append_nil] at hx
    exact (h.kids x hx).step hal.size fun b hF hb => ⟨hal.block b hb, hF⟩
end
theorem Is.of_row {w : World} {F : Nat → Prop} {kv : Value} {ks : List Nat} (h : w.ownsRow 0 3 1 kv ks.length (cN ks)) (hF : ∀ b, kv.ownBlock = some b → F b) : Is w F kv ks := by
  rcases h.2 with ⟨hv, h0⟩ | ⟨g, cap, cur, hv, _, hg, hcap, hmx, _, htk⟩
  · obtain rfl := List.eq_nil_of_length_eq_zero h0
    rw [hv]
    exact Is.nil w F
  · refine ⟨some ⟨g, 0, none⟩, cap, hv, hcap, hmx, fun _ => ⟨g, 0, rfl, hF g (by rw [hv]; rfl), blk_lt hg, fun j k hj => ?_⟩⟩
    rw [blk_cell hg]
    have hjl : j < ks.length := (List.getElem?_eq_some_iff.1 hj).1
    have h9 : (cN ks)[j]? = some (.int .i64 (k : Int)) := by simp [cN, hj]
    rw [← htk, List.getElem?_take_of_lt (by omega)] at h9
    simpa using h9
section
variable {w0 w w' : World} {G Bk : Nat} {s last : ByteArray} {r r1 : Pp.Rs} {v0 v kv kn : Value} {L0 N : List (Pp.Nd × Value)} {ks : List Nat} {may : Bool}
/-- the reader reads on -/
theorem Cur.reads (h : Cur w0 w G Bk s last r v0 v kv L0 N ks may) (hR : RdM w' G s last r1 v) (hg : w.grownBy w' (some G)) : Cur w0 w' G Bk s last r1 v0 v kv L0 N ks may := by
  have hkl := int_lt h.br.row
  have hvl := own_lt h.rd.row
  have hB := blk_lt h.br.box
  have hb : ∀ b, b < w.heap.size → b ≠ G → w'.heap[b]? = w.heap[b]? := fun b hlt hne => hg.block b hlt (fun e => hne (Option.some.inj e))
  have kb : ∀ b, kv.ownBlock = some b → w'.heap[b]? = w.heap[b]? := fun b e => hb b (hkl b e) (fun e2 => h.br.nG.2 (e2 ▸ e))
  have vb : ∀ b, v.ownBlock = some b → w'.heap[b]? = w.heap[b]? := fun b e => hb b (hvl b e) (fun e2 => h.rd.ne (e2 ▸ e))
  exact ⟨⟨hR, own_move h.rd.row vb, h.rd.ne, fun x hx => (h.rd.kids x hx).step hg.size fun b hF hlt => ⟨hb b hlt hF.1, hF⟩⟩, ⟨(hb Bk hB h.br.nG.1).trans h.br.box, own_move h.br.row kb, h.br.nG, h.br.nB, h.br.nv⟩, h.pf.trans ⟨hg.os, hg.tape, hg.output, hg.size, fun b hlt hne _ => hb b hlt hne, fun b e => .inl e⟩, h.fB, h.fk, fun x hx => (h.new x hx).step hg.size fun b hF hlt => ⟨hb b hlt hF.2.1, hF⟩, h.old, h.gl, h.vl⟩
/-- add, with what it leaves -/
theorem cur_add2 (h : Cur w0 w G Bk s last r v0 v kv L0 N ks may) {k : Nat} {m : Bool} (hl : ks.length ≤ 100000) :
    Calls Tryz.prog 51 #[.pointer (some ⟨Bk, 0, none⟩), .int .i64 (k : Int), .bool m] w fun e w' => CurPost w0 G Bk s last r v0 L0 N (ks ++ [k]) m (.tuple #[]) e w' ∧ ∀ b, b < w.heap.size → b ≠ Bk → kv.ownBlock ≠ some b → w'.heap[b]? = w.heap[b]? := by
  have hvl := own_lt h.rd.row
  have hG := blk_lt h.rd.box
  refine (add_any h.br hl hvl hG).mono ?_
  rintro e w' ⟨kv', rfl, h1, hs, ho, ht, hp, hb, hw⟩
  have kG : w'.heap[G]? = w.heap[G]? := hb G hG (fun e => h.br.nG.1 e.symm) h.br.nG.2
  have kv_ : ∀ b, v.ownBlock = some b → w'.heap[b]? = w.heap[b]? := fun b e => hb b (hvl b e) (fun e2 => h.br.nv.1 (e2 ▸ e)) (h.br.nv.2 b e)
  have hold : ∀ b, b < w0.heap.size → w'.heap[b]? = w.heap[b]? := fun b hlt => hb b (Nat.lt_of_lt_of_le hlt h.pf.size) (fun e => by have := h.fB; omega) (fun e => by have := h.fk b e; omega)
  have hfk : ∀ b, kv'.ownBlock = some b → w0.heap.size ≤ b := fun b e => by
    rcases hw b e with h9 | h9
    · exact h.fk b h9
    · exact Nat.le_trans h.pf.size h9
  have hnew : ∀ x ∈ N, Is w' (fun b => w0.heap.size ≤ b ∧ b ≠ G ∧ v.ownBlock ≠ some b ∧ b ≠ Bk ∧ kv'.ownBlock ≠ some b) x.2 x.1.kids := fun x hx =>
    (h.new x hx).step hs fun b hbb hlt => ⟨hb b hlt hbb.2.2.2.1 hbb.2.2.2.2, hbb.1, hbb.2.1, hbb.2.2.1, hbb.2.2.2.1, fun e => by
      rcases hw b e with h9 | h9
      · exact hbb.2.2.2.2 h9
      · omega⟩
  refine ⟨⟨v, kv', rfl, ⟨⟨h.rd.box.step kG, own_move h.rd.row kv_, h.rd.ne, fun x hx => ?_⟩, h1, ⟨ho.trans h.pf.os, ht.trans h.pf.tape, hp.trans h.pf.output, Nat.le_trans h.pf.size hs, fun b hlt hbG hbv => (hold b hlt).trans (h.pf.block b hlt hbG hbv), h.pf.own⟩, h.fB, hfk, hnew, h.old, h.gl, h.vl⟩⟩, hb⟩
  rcases List.mem_append.1 hx with hx | hx
  · exact (h.ol x hx).step hs fun b hbb _ => ⟨hold b hbb.1, hbb.2⟩
  · exact (hnew x hx).wide fun b hbb _ => ⟨hbb.2.1, hbb.2.2.1⟩
theorem cur_row (h : Cur w0 w G Bk s last r v0 v kv L0 N ks may) {bn : List Pp.Nd} (hm : (L0 ++ N).map Prod.fst = bn) {op : Int} {k : Nat} {r' : Pp.R} (hr : Pp.rowP op ks (r, bn) = (k, r')) (hl : (L0 ++ N).length ≤ 100000) :
    Calls Tryz.prog 39 #[.pointer (some ⟨G, 0, none⟩), .int .u8 op, kv] w (BrPost w0 G s last v0 L0 k r') := by
  subst hm
  have hIs : Is w (fun b => w0.heap.size ≤ b ∧ b ≠ G ∧ v.ownBlock ≠ some b) kv ks := Is.of_row h.br.row fun b e => ⟨h.fk b e, fun e2 => h.br.nG.2 (e2 ▸ e), fun e2 => h.br.nv.2 b e2 e⟩
  refine (row_any h.rd (op := op) (hIs.wide fun b hb _ => hb.2) hl).mono ?_
  rintro e w' ⟨v', rfl, h1, h2⟩
  have key : ∀ b, (w0.heap.size ≤ b ∧ b ≠ G ∧ v.ownBlock ≠ some b) → b < w.heap.size → w'.heap[b]? = w.heap[b]? ∧ (w0.heap.size ≤ b ∧ b ≠ G ∧ v'.ownBlock ≠ some b) := fun b hb hlt => ⟨h2.block b hlt hb.2.1 hb.2.2, hb.1, hb.2.1, fun e => by
    rcases h2.own b e with h9 | h9
    · exact hb.2.2 h9
    · omega⟩
  have hN : ∀ x ∈ N, Is w' (fun b => w0.heap.size ≤ b ∧ b ≠ G ∧ v'.ownBlock ≠ some b) x.2 x.1.kids := fun x hx => ((h.new x hx).wide fun b hb _ => ⟨hb.1, hb.2.1, hb.2.2.1⟩).step h2.size key
  have hlen : (L0 ++ N).length = ((L0 ++ N).map Prod.fst).length := by simp
  match ks, hr, h1, hIs with
  | [], hr, h1, hIs =>
    obtain ⟨rfl, rfl⟩ := Prod.mk.inj hr
    refine ⟨v', N ++ [({ Pp.nd0 with op := 1 }, .slice none 0 0)], by rw [← hlen]; rfl, by rw [← List.append_assoc]; exact h1, h.pf.trans h2, by simp, fun x hx => ?_⟩
    rcases List.mem_append.1 hx with hx | hx
    · exact hN x hx
    · obtain rfl : x = ({ Pp.nd0 with op := 1 }, .slice none 0 0) := by simpa using hx
      exact Is.nil _ _
  | [k1], hr, h1, hIs =>
    obtain ⟨rfl, rfl⟩ := Prod.mk.inj hr
    exact ⟨v', N, rfl, h1, h.pf.trans h2, rfl, hN⟩
  | k1 :: k2 :: kt, hr, h1, hIs =>
    obtain ⟨rfl, rfl⟩ := Prod.mk.inj hr
    refine ⟨v', N ++ [({ Pp.nd0 with op := op, kids := k1 :: k2 :: kt }, kv)], by rw [← hlen]; rfl, by rw [← List.append_assoc]; exact h1, h.pf.trans h2, by simp, fun x hx => ?_⟩
    rcases List.mem_append.1 hx with hx | hx
    · exact hN x hx
    · obtain rfl : x = ({ Pp.nd0 with op := op, kids := k1 :: k2 :: kt }, kv) := by simpa using hx
      exact hIs.step h2.size key
end
end Go.Proofs.YtjdlbejmdjcajaaGreat
