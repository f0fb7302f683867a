/- pat's row; a branch in memory; add, piece, byte: walked. -/
import Derived.Test.YtjdlbejmdjcajaaGreatPaF
set_option linter.unusedVariables false
set_option linter.unusedSimpArgs false
namespace Go.Proofs.YtjdlbejmdjcajaaGreat
open Go.RowKit Go.Shelf Go.Maps Go.Proofs.YtjdlbejmdjcajaaGreatW.PrintWords Go.Proofs.YtjdlbejmdjcajaaGreatW.PrintLast

/-- what row makes: the place, the nodes -/
def rowL (op : Int) (ks : List Nat) (kv : Value) (L : List (Pp.Nd × Value)) : Nat × List (Pp.Nd × Value) :=
  match ks with
  | [] => (L.length, L ++ [({ Pp.nd0 with op := 1 }, .slice none 0 0)])
  | [k] => (k, L)
  | _ => (L.length, L ++ [({ Pp.nd0 with op := op, kids := ks }, kv)])
section
variable {w w' : World} {G : Nat} {s last : ByteArray} {r : Pp.Rs} {v : Value} {L : List (Pp.Nd × Value)}
set_option maxRecDepth 100000 in
set_option maxHeartbeats 1000000 in
theorem row_any (h : Rdr w G s last r v L) {op : Int} {kv : Value} {ks : List Nat} (hk : Is w (fun b => b ≠ G ∧ v.ownBlock ≠ some b) kv ks) (hl : L.length ≤ 100000) :
    Calls Tryz.prog 39 #[.pointer (some ⟨G, 0, none⟩), .int .u8 op, kv] w (NodePost w G s last r v (rowL op ks kv L).2 (rowL op ks kv L).1) := by
  have hsl := hk
  obtain ⟨A, c, rfl, h1, h2, h3⟩ := hsl
  match ks, hk, h1, h3 with
  | [], hk, h1, h3 =>
    have HN := Lib.hid (node_any h (d := { Pp.nd0 with op := 1 }) (Is.nil w _) hl)
    unfold ndV at HN
    simp only [Pp.nd0] at HN
    go_enter Tryz.func39, Tryz.ntmps39
    go_wp2_with fail
    refine HN.out.mono ?_
    rintro e w1 ⟨v1, rfl, a1, a2⟩
    have H1 := Lib.hid (And.intro a1 a2)
    clear a1 a2
    go_wp2
    go_ret
    exact ⟨v1, rfl, H1.out.1, H1.out.2⟩
  | [k], hk, h1, h3 =>
    obtain ⟨b, o, rfl, hF, hb, hc⟩ := h3 (by simp)
    have hc0 := hc 0 k rfl
    rw [Nat.add_zero] at hc0
    have hcap : 1 ≤ c := h1
    clear hc h3
    go_enter Tryz.func39, Tryz.ntmps39
    go_wp2
    go_ret
    exact ⟨v, rfl, h, Pf.refl _ _ _⟩
  | k :: k2 :: ks, hk, h1, h3 =>
    have HN := Lib.hid (node_any h (d := { Pp.nd0 with op := op, kids := k :: k2 :: ks }) hk hl)
    unfold ndV at HN
    simp only [Pp.nd0] at HN
    have hn0 : ¬ (((k :: k2 :: ks).length : Int) = 0) := by simp; omega
    have hn1 : ¬ (((k :: k2 :: ks).length : Int) = 1) := by simp; omega
    obtain ⟨n, hn⟩ : ∃ n, (k :: k2 :: ks).length = n := ⟨_, rfl⟩
    rw [hn] at hn0 hn1 HN ⊢
    have z0 : ((n : Int) == 0) = false := beq_eq_false_iff_ne.2 hn0
    have z1 : ((n : Int) == 1) = false := beq_eq_false_iff_ne.2 hn1
    clear h1 h3 hk hn0 hn1 hn
    go_enter Tryz.func39, Tryz.ntmps39
    go_wp2_with fail
    refine HN.out.mono ?_
    rintro e w1 ⟨v1, rfl, a1, a2⟩
    have H1 := Lib.hid (And.intro a1 a2)
    clear a1 a2
    go_wp2
    go_ret
    exact ⟨v1, rfl, H1.out.1, H1.out.2⟩
end
def cN (ks : List Nat) : List Value := ks.map fun (k : Nat) => .int .i64 (k : Int)
theorem infoI64 : (Tryz.prog.info? 3).map (fun i => (i.zero, i.size, i.bytes)) = some (some (.int .i64 0), 1, 8) := by kernel_rfl
/-- a branch in memory: its block, its kids' row -/
structure Bch (w : World) (G Bk : Nat) (v kv : Value) (ks : List Nat) (may : Bool) : Prop where
  box : w.heap[Bk]? = some (.cells #[.pointer (some ⟨G, 0, none⟩), kv, .bool may] 102 (0, 0))
  row : w.ownsRow 0 3 1 kv ks.length (cN ks)
  nG : Bk ≠ G ∧ kv.ownBlock ≠ some G
  nB : kv.ownBlock ≠ some Bk
  nv : v.ownBlock ≠ some Bk ∧ ∀ b, v.ownBlock = some b → kv.ownBlock ≠ some b
theorem int_lt {w : World} {n : Nat} {v : Value} {cs : List Value} (h : w.ownsRow 0 3 1 v n cs) : ∀ b, v.ownBlock = some b → b < w.heap.size := by
  intro b hb
  rcases h.2 with ⟨hv, _⟩ | ⟨g, cap, cur, hv, _, hg, _⟩
  · rw [hv] at hb
    cases hb
  · rw [hv] at hb
    obtain rfl : g = b := by simpa [Value.ownBlock] using hb
    exact blk_lt hg
theorem int_slice {w : World} {n : Nat} {v : Value} {cs : List Value} (h : w.ownsRow 0 3 1 v n cs) : ∃ A c, v = .slice A n c := by
  rcases h.2 with ⟨hv, rfl, _⟩ | ⟨g, cap, cur, hv, _⟩
  · exact ⟨none, 0, hv⟩
  · exact ⟨_, cap, hv⟩
section
variable {w w' : World} {G Bk : Nat} {v kv : Value} {ks : List Nat} {may : Bool}
/-- the branch stays while the reader is at work -/
theorem Bch.step (h : Bch w G Bk v kv ks may) {v' : Value} (hp : Pf w w' G v v') : Bch w' G Bk v' kv ks may := by
  have hB := blk_lt h.box
  have hk := int_lt h.row
  refine ⟨(hp.block Bk hB h.nG.1 h.nv.1).trans h.box, own_move h.row fun k e => hp.block k (hk k e) (fun e' => h.nG.2 (e' ▸ e)) (fun e' => h.nv.2 k e' e), h.nG, h.nB, ?_, ?_⟩
  · intro e
    rcases hp.own _ e with h1 | h1
    · exact h.nv.1 h1
    · omega
  · intro b e e2
    rcases hp.own _ e with h1 | h1
    · exact h.nv.2 b h1 e2
    · have := hk b e2
      omega
def AddPost (w : World) (G Bk : Nat) (v kv : Value) (ks : List Nat) (may : Bool) (e : Ending) (w' : World) : Prop :=
  ∃ kv', e = .returned (.tuple #[]) ∧ Bch w' G Bk v kv' ks may ∧ w.heap.size ≤ w'.heap.size ∧ w'.os = w.os ∧ w'.tape = w.tape ∧ w'.output = w.output ∧ (∀ b, b < w.heap.size → b ≠ Bk → kv.ownBlock ≠ some b → w'.heap[b]? = w.heap[b]?) ∧ (∀ b, kv'.ownBlock = some b → kv.ownBlock = some b ∨ w.heap.size ≤ b)
set_option maxRecDepth 100000 in
set_option maxHeartbeats 2000000 in
theorem add_any (h : Bch w G Bk v kv ks may) {k : Nat} {m : Bool} (hl : ks.length ≤ 100000) (hvl : ∀ b, v.ownBlock = some b → b < w.heap.size) (hGl : G < w.heap.size) :
    Calls Tryz.prog 51 #[.pointer (some ⟨Bk, 0, none⟩), .int .i64 (k : Int), .bool m] w (AddPost w G Bk v kv (ks ++ [k]) m) := by
  obtain ⟨i0, hi0, hz0, hz1, hz2⟩ := info_parts infoI64
  have HINF := Lib.hid (And.intro hi0 (And.intro hz0 (And.intro hz1 hz2)))
  have hB := blk_lt h.box
  have hk := int_lt h.row
  have c1 : w.cell? ⟨Bk, 1, none⟩ = some kv := by rw [blk_cell h.box]; rfl
  have c2 : w.cell? ⟨Bk, 2, none⟩ = some (.bool may) := by rw [blk_cell h.box]; rfl
  have hal := below_alloc (Below.refl w.heap.size w) (.cells #[.int .i64 (k : Int)] 3)
  have hrow := own_move h.row (w1 := w.alloc (.cells #[.int .i64 (k : Int)] 3)) fun b e => hal.block b (hk b e)
  have HROW := Lib.hid (And.intro hrow hal)
  have HH := Lib.hid h
  have hnk := h.nB
  clear h hi0 hz0 hz1 hz2 hal hrow
  go_enter Tryz.func51, Tryz.ntmps51
  go_wp2_with (at_builtin; refine wpList_append_own_at _ rfl _ _ 33 rfl 0 3 i0 (.int .i64 0) 1 8 Tryz.underlying33 HINF.out.1 HINF.out.2.1 HINF.out.2.2.1 HINF.out.2.2.2 rfl (by decide) kv ks.length (cN ks) rfl HROW.out.1 ⟨w.heap.size, 0, none⟩ 1 1 [.int .i64 (k : Int)] rfl rfl ?hcell ?hone (by unfold maxLen; omega) (by omega) (by omega) ?_; rotate_left 2; intro v1 w1 hr1 hg1 _ ha1; have hkB := (hg1.block Bk (by simp; omega) (fun e => hnk e.symm)).trans (HROW.out.2.block Bk hB); have hbx := hkB.trans HH.out.box; have d1 : w1.cell? ⟨Bk, 1, none⟩ = some kv := (by rw [blk_cell hbx]; rfl); have d2 : w1.cell? ⟨Bk, 2, none⟩ = some (.bool may) := (by rw [blk_cell hbx]; rfl); have f1 := blk_frozen hbx 1; have f2 := blk_frozen hbx 2; obtain ⟨A1, q1, hv1⟩ := int_slice hr1; subst hv1; have HN := Lib.hid (And.intro hr1 (And.intro hg1 (And.intro ha1 hbx))); clear hr1 hg1 ha1 hkB hbx)
  case hcell =>
    intro j u hu
    match j, hu with
    | 0, hu =>
      rw [← hu, Addr.add_lit]
      rw [blk_cell (alloc_at w _)]
      rfl
  case hone =>
    intro u hu
    obtain rfl : u = .int .i64 (k : Int) := by simpa using hu
    rfl
  go_end0
  have hws : (w.alloc (.cells #[.int .i64 (k : Int)] 3)).heap.size = w.heap.size + 1 := by simp
  obtain ⟨hr1, hg1, ha1, hbx⟩ := HN.out
  rw [hws] at ha1
  have hne : (Value.slice A1 (ks.length + 1) q1).ownBlock ≠ some Bk := by
    rcases ha1 with h9 | h9
    · rw [h9]; exact hnk
    · rw [h9]
      intro e
      have := Option.some.inj e
      omega
  have hown : ∀ b, (Value.slice A1 (ks.length + 1) q1).ownBlock = some b → kv.ownBlock = some b ∨ w.heap.size ≤ b := fun b hb => by
    rcases ha1 with h9 | h9
    · exact .inl (h9.symm.trans hb)
    · rw [h9] at hb
      have := Option.some.inj hb
      exact .inr (by omega)
  have hG := HH.out.nG
  refine ⟨_, rfl, ⟨blk_set (blk_set hbx 1 _) 2 _, ?_, ⟨hG.1, fun e => ?_⟩, hne, HH.out.nv.1, fun b e e2 => ?_⟩, ?_, hg1.os, hg1.tape, hg1.output, fun b hb hbB hbk => ?_, hown⟩
  · have h9 := own_move hr1 (w1 := (w1.setCell ⟨Bk, 1, none⟩ (.slice A1 (ks.length + 1) q1)).setCell ⟨Bk, 2, none⟩ (.bool m)) fun b e => (Below.heap_setCell _ ⟨Bk, 2, none⟩ _ b (fun e' => hne (by rw [e, e']))).trans (Below.heap_setCell w1 ⟨Bk, 1, none⟩ _ b (fun e' => hne (by rw [e, e'])))
    rw [List.length_append, List.length_singleton]
    simpa [cN] using h9
  · rcases hown _ e with h1 | h1
    · exact hG.2 h1
    · exact absurd hGl (by omega)
  · rcases hown _ e2 with h1 | h1
    · exact HH.out.nv.2 b e h1
    · have := hvl b e
      omega
  · have := hg1.size
    simp [World.setCell] at *
    omega
  · exact (Below.heap_setCell _ ⟨Bk, 2, none⟩ _ b (fun e' => hbB e')).trans ((Below.heap_setCell w1 ⟨Bk, 1, none⟩ _ b (fun e' => hbB e')).trans ((hg1.block b (by omega) (fun e => hbk e.symm)).trans (HROW.out.2.block b hb)))
end
end Go.Proofs.YtjdlbejmdjcajaaGreat
