/- pat's branches: walked. -/
import Derived.Test.YtjdlbejmdjcajaaGreatPaM
set_option linter.unusedVariables false
set_option linter.unusedSimpArgs false
namespace Go.Proofs.YtjdlbejmdjcajaaGreat
open Go.RowKit Go.Shelf Go.Maps Go.Proofs.YtjdlbejmdjcajaaGreatW.PrintWords Go.Proofs.YtjdlbejmdjcajaaGreatW.PrintLast

theorem Pp.rowP_end {op : Int} {kids : List Nat} {r r' : Pp.R} {k : Nat} (h : Pp.rowP op kids r = (k, r')) : r'.1 = r.1 ∧ r'.2.length ≤ r.2.length + 1 := by
  unfold Pp.rowP Pp.nodeP at h
  split at h <;> (obtain ⟨_, rfl⟩ := Prod.mk.inj h; simp)
theorem Pp.branchL_end {sgn : UInt8 → Nat → Pp.Br → Pp.Res Pp.Br} {s : List UInt8} {within : Bool} : ∀ {n : Nat} {b : Pp.Br} {k : Nat} {r' : Pp.R}, Pp.branchL sgn s within n b = some (.ok (k, r')) → b.r.1.pos ≤ r'.1.pos ∧ r'.1.pos ≤ 50000 ∧ r'.2.length ≤ 50001
  | 0, _, _, _, h => by cases h
  | n + 1, b, k, r', h => by
    unfold Pp.branchL at h
    split at h
    · cases h
    rename_i hg
    split at h
    · obtain ⟨h1, h2⟩ := Pp.rowP_end (Except.ok.inj (Option.some.inj h))
      rw [h1]
      exact ⟨Nat.le_refl _, by omega, by omega⟩
    split at h
    · cases h
    · rename_i r1 hn
      have h1 := Pp.nextP_pos hn
      obtain ⟨h2, h3⟩ := Pp.branchL_end h
      exact ⟨Nat.le_trans (Nat.le_of_lt h1) h2, h3⟩
    · rename_i c r1 hn
      have h1 := Pp.nextP_pos hn
      obtain ⟨h2, h3⟩ := Pp.branchL_end h
      exact ⟨Nat.le_trans (Nat.le_of_lt h1) h2, h3⟩
    · rename_i c r1 hn
      have h1 := Pp.nextP_pos hn
      split at h
      · obtain ⟨h1, h2⟩ := Pp.rowP_end (Except.ok.inj (Option.some.inj h))
        rw [h1]
        exact ⟨Nat.le_refl _, by omega, by omega⟩
      split at h
      · cases h
      split at h
      · cases h
      · cases h
      · rename_i b2 hb2
        split at h
        · cases h
        · rename_i hlo
          obtain ⟨h2, h3⟩ := Pp.branchL_end h
          exact ⟨by omega, h3⟩
/-- branches that are read: reader, and the kids' row -/
structure CurA (w0 w : World) (G : Nat) (s last : ByteArray) (r : Pp.Rs) (v0 v kv : Value) (L0 N : List (Pp.Nd × Value)) (ks : List Nat) : Prop where
  rd : Rdr w G s last r v (L0 ++ N)
  row : w.ownsRow 0 3 1 kv ks.length (cN ks)
  pf : Pf w0 w G v0 v
  fk : ∀ b, kv.ownBlock = some b → w0.heap.size ≤ b ∧ b ≠ G ∧ v.ownBlock ≠ some b
  new : ∀ x ∈ N, Is w (fun b => w0.heap.size ≤ b ∧ b ≠ G ∧ v.ownBlock ≠ some b ∧ kv.ownBlock ≠ some b) x.2 x.1.kids
  old : ∀ x ∈ L0, Is w0 (fun b => b ≠ G ∧ v0.ownBlock ≠ some b) x.2 x.1.kids
  gl : G < w0.heap.size
  vl : ∀ b, v0.ownBlock = some b → b < w0.heap.size
section
variable {w0 w w' : World} {G : Nat} {s last : ByteArray} {r r1 : Pp.Rs} {v0 v kv kn : Value} {L0 N : List (Pp.Nd × Value)} {ks : List Nat}
theorem CurA.reads (h : CurA w0 w G s last r v0 v kv L0 N ks) (hR : RdM w' G s last r1 v) (hg : w.grownBy w' (some G)) : CurA w0 w' G s last r1 v0 v kv L0 N ks := by
  have hkl := int_lt h.row
  have hvl := own_lt h.rd.row
  have hb : ∀ b, b < w.heap.size → b ≠ G → w'.heap[b]? = w.heap[b]? := fun b hlt hne => hg.block b hlt (fun e => hne (Option.some.inj e))
  have kb : ∀ b, kv.ownBlock = some b → w'.heap[b]? = w.heap[b]? := fun b e => hb b (hkl b e) (h.fk b e).2.1
  have vb : ∀ b, v.ownBlock = some b → w'.heap[b]? = w.heap[b]? := fun b e => hb b (hvl b e) (fun e2 => h.rd.ne (e2 ▸ e))
  exact ⟨⟨hR, own_move h.rd.row vb, h.rd.ne, fun x hx => (h.rd.kids x hx).step hg.size fun b hF hlt => ⟨hb b hlt hF.1, hF⟩⟩, own_move h.row kb, h.pf.trans ⟨hg.os, hg.tape, hg.output, hg.size, fun b hlt hne _ => hb b hlt hne, fun b e => .inl e⟩, h.fk, fun x hx => (h.new x hx).step hg.size fun b hF hlt => ⟨hb b hlt hF.2.1, hF⟩, h.old, h.gl, h.vl⟩
theorem CurA.below (h : CurA w0 w G s last r v0 v kv L0 N ks) (hb : Below w.heap.size w w') : CurA w0 w' G s last r v0 v kv L0 N ks :=
  h.reads (h.rd.box.step (hb.block G (blk_lt h.rd.box))) (pgrown_below hb)
/-- one more branch is read -/
theorem CurA.more (h : CurA w0 w G s last r v0 v kv L0 N ks) {v' : Value} {N2 : List (Pp.Nd × Value)} (hR : Rdr w' G s last r1 v' ((L0 ++ N) ++ N2)) (hp : Pf w w' G v v') (hN : ∀ x ∈ N2, Is w' (fun b => w.heap.size ≤ b ∧ b ≠ G ∧ v'.ownBlock ≠ some b) x.2 x.1.kids) : CurA w0 w' G s last r1 v0 v' kv L0 (N ++ N2) ks := by
  have hkl := int_lt h.row
  have key : ∀ b, b < w.heap.size → v.ownBlock ≠ some b → v'.ownBlock ≠ some b := fun b hlt hne e => by
    rcases hp.own b e with h9 | h9
    · exact hne h9
    · omega
  refine ⟨by rw [← List.append_assoc]; exact hR, own_move h.row fun b e => hp.block b (hkl b e) (h.fk b e).2.1 (h.fk b e).2.2, h.pf.trans hp, fun b e => ⟨(h.fk b e).1, (h.fk b e).2.1, key b (hkl b e) (h.fk b e).2.2⟩, fun x hx => ?_, h.old, h.gl, h.vl⟩
  rcases List.mem_append.1 hx with hx | hx
  · exact (h.new x hx).step hp.size fun b hF hlt => ⟨hp.block b hlt hF.2.1 hF.2.2.1, hF.1, hF.2.1, key b hlt hF.2.2.1, hF.2.2.2⟩
  · exact (hN x hx).wide fun b hF _ => ⟨Nat.le_trans h.pf.size hF.1, hF.2.1, hF.2.2, fun e => by have := hkl b e; omega⟩
/-- the kids' row turns -/
theorem CurA.app (h : CurA w0 w G s last r v0 v kv L0 N ks) {kv' : Value} {ks' : List Nat} (hr : w'.ownsRow 0 3 1 kv' ks'.length (cN ks')) (hg : w.grownBy w' kv.ownBlock) (ho : kv'.ownBlock = kv.ownBlock ∨ kv'.ownBlock = some w.heap.size) : CurA w0 w' G s last r v0 v kv' L0 N ks' := by
  have hvl := own_lt h.rd.row
  have hG := blk_lt h.rd.box
  have nG : kv.ownBlock ≠ some G := fun e => (h.fk G e).2.1 rfl
  have hw : ∀ b, kv'.ownBlock = some b → kv.ownBlock = some b ∨ b = w.heap.size := fun b e => by
    rcases ho with h9 | h9
    · exact .inl (h9 ▸ e)
    · exact .inr (Option.some.inj (e.symm.trans h9))
  have key : ∀ b, b < w.heap.size → kv.ownBlock ≠ some b → w'.heap[b]? = w.heap[b]? := fun b hlt hne => hg.block b hlt (fun e => hne e.symm)
  have vb : ∀ b, v.ownBlock = some b → w'.heap[b]? = w.heap[b]? := fun b e => key b (hvl b e) (fun e2 => (h.fk b e2).2.2 e)
  have hnew : ∀ x ∈ N, Is w' (fun b => w0.heap.size ≤ b ∧ b ≠ G ∧ v.ownBlock ≠ some b ∧ kv'.ownBlock ≠ some b) x.2 x.1.kids := fun x hx => (h.new x hx).step hg.size fun b hF hlt => ⟨key b hlt hF.2.2.2, hF.1, hF.2.1, hF.2.2.1, fun e => by
    rcases hw b e with h9 | h9
    · exact hF.2.2.2 h9
    · omega⟩
  have hold : ∀ x ∈ L0, Is w' (fun b => b ≠ G ∧ v.ownBlock ≠ some b) x.2 x.1.kids := fun x hx =>
    ((h.old x hx).wide (F' := fun b => b < w0.heap.size ∧ b ≠ G ∧ v0.ownBlock ≠ some b) fun b hb hl => ⟨hl, hb⟩).step (Nat.le_trans h.pf.size hg.size) fun b hb hl => ⟨(key b (Nat.lt_of_lt_of_le hl h.pf.size) (fun e => by have := (h.fk b e).1; omega)).trans (h.pf.block b hl hb.2.1 hb.2.2), hb.2.1, fun e => by
      rcases h.pf.own b e with h1 | h1
      · exact hb.2.2 h1
      · omega⟩
  refine ⟨⟨h.rd.box.step (key G hG nG), own_move h.rd.row vb, h.rd.ne, fun x hx => ?_⟩, hr, ⟨hg.os.trans h.pf.os, hg.tape.trans h.pf.tape, hg.output.trans h.pf.output, Nat.le_trans h.pf.size hg.size, fun b hlt hne hv => (key b (Nat.lt_of_lt_of_le hlt h.pf.size) (fun e => by have := (h.fk b e).1; omega)).trans (h.pf.block b hlt hne hv), h.pf.own⟩, fun b e => ?_, hnew, h.old, h.gl, h.vl⟩
  · rcases List.mem_append.1 hx with hx | hx
    · exact hold x hx
    · exact (hnew x hx).wide fun b hF _ => ⟨hF.2.1, hF.2.2.1⟩
  · rcases hw b e with h9 | h9
    · exact h.fk b h9
    · subst h9
      exact ⟨h.pf.size, by omega, fun e2 => by have := hvl _ e2; omega⟩
theorem CurA.done (h : CurA w0 w G s last r v0 v kv L0 N ks) {bn : List Pp.Nd} (hm : (L0 ++ N).map Prod.fst = bn) {op : Int} {k : Nat} {r' : Pp.R} (hr : Pp.rowP op ks (r, bn) = (k, r')) (hl : (L0 ++ N).length ≤ 100000) :
    Calls Tryz.prog 39 #[.pointer (some ⟨G, 0, none⟩), .int .u8 op, kv] w (BrPost w0 G s last v0 L0 k r') := by
  subst hm
  have hIs : Is w (fun b => w0.heap.size ≤ b ∧ b ≠ G ∧ v.ownBlock ≠ some b) kv ks := Is.of_row h.row h.fk
  refine (row_any h.rd (op := op) (hIs.wide fun b hb _ => hb.2) hl).mono ?_
  rintro e w' ⟨v', rfl, h1, h2⟩
  have key : ∀ b, (w0.heap.size ≤ b ∧ b ≠ G ∧ v.ownBlock ≠ some b) → b < w.heap.size → w'.heap[b]? = w.heap[b]? ∧ (w0.heap.size ≤ b ∧ b ≠ G ∧ v'.ownBlock ≠ some b) := fun b hb hlt => ⟨h2.block b hlt hb.2.1 hb.2.2, hb.1, hb.2.1, fun e => by
    rcases h2.own b e with h9 | h9
    · exact hb.2.2 h9
    · omega⟩
  have hN : ∀ x ∈ N, Is w' (fun b => w0.heap.size ≤ b ∧ b ≠ G ∧ v'.ownBlock ≠ some b) x.2 x.1.kids := fun x hx => ((h.new x hx).wide fun b hb _ => ⟨hb.1, hb.2.1, hb.2.2.1⟩).step h2.size key
  have hlen : (L0 ++ N).length = ((L0 ++ N).map Prod.fst).length := by simp
  match ks, hr, h1, hIs with
  | [], hr, h1, hIs =>
    obtain ⟨rfl, rfl⟩ := Prod.mk.inj hr
    refine ⟨v', N ++ [({ Pp.nd0 with op := 1 }, .slice none 0 0)], by rw [← hlen]; rfl, by rw [← List.append_assoc]; exact h1, h.pf.trans h2, by simp, fun x hx => ?_⟩
    rcases List.mem_append.1 hx with hx | hx
    · exact hN x hx
    · obtain rfl : x = ({ Pp.nd0 with op := 1 }, .slice none 0 0) := by simpa using hx
      exact Is.nil _ _
  | [k1], hr, h1, hIs =>
    obtain ⟨rfl, rfl⟩ := Prod.mk.inj hr
    exact ⟨v', N, rfl, h1, h.pf.trans h2, rfl, hN⟩
  | k1 :: k2 :: kt, hr, h1, hIs =>
    obtain ⟨rfl, rfl⟩ := Prod.mk.inj hr
    refine ⟨v', N ++ [({ Pp.nd0 with op := op, kids := k1 :: k2 :: kt }, kv)], by rw [← hlen]; rfl, by rw [← List.append_assoc]; exact h1, h.pf.trans h2, by simp, fun x hx => ?_⟩
    rcases List.mem_append.1 hx with hx | hx
    · exact hN x hx
    · obtain rfl : x = ({ Pp.nd0 with op := op, kids := k1 :: k2 :: kt }, kv) := by simpa using hx
      exact hIs.step h2.size key
end
end Go.Proofs.YtjdlbejmdjcajaaGreat
