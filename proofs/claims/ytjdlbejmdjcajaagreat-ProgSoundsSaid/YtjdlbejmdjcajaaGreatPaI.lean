/- pat's many at a sign without bounds: walked. -/
import Derived.Test.YtjdlbejmdjcajaaGreatPaH
set_option linter.unusedVariables false
set_option linter.unusedSimpArgs false
namespace Go.Proofs.YtjdlbejmdjcajaaGreat
open Go.RowKit Go.Shelf Go.Maps Go.Proofs.YtjdlbejmdjcajaaGreatW.PrintWords Go.Proofs.YtjdlbejmdjcajaaGreatW.PrintLast

section
variable {w0 w w' : World} {G Bk : Nat} {s last : ByteArray} {r : Pp.Rs} {v0 v kv kn : Value} {L0 N : List (Pp.Nd × Value)} {ks : List Nat} {may : Bool}
/-- a block that neither the reader nor its rows own, of the branch's own, is written -/
theorem Cur.poke (h : Cur w0 w G Bk s last r v0 v kv L0 N ks may) {p : Addr} (x : Value) (hp : p.block = Bk ∨ kv.ownBlock = some p.block) {ks' : List Nat} {may' : Bool} (hb : Bch (w.setCell p x) G Bk v kv ks' may') : Cur w0 (w.setCell p x) G Bk s last r v0 v kv L0 N ks' may' := by
  have hvl := own_lt h.rd.row
  have hpG : p.block ≠ G := by
    rcases hp with e | e
    · rw [e]; exact h.br.nG.1
    · exact fun e2 => h.br.nG.2 (e2 ▸ e)
  have hpv : v.ownBlock ≠ some p.block := by
    rcases hp with e | e
    · rw [e]; exact h.br.nv.1
    · exact fun e2 => h.br.nv.2 _ e2 e
  have hp0 : w0.heap.size ≤ p.block := by
    rcases hp with e | e
    · rw [e]; exact h.fB
    · exact h.fk _ e
  have hfar : ∀ b, b ≠ p.block → (w.setCell p x).heap[b]? = w.heap[b]? := fun b hne => Below.heap_setCell w p x b hne
  have hs : w.heap.size ≤ (w.setCell p x).heap.size := by simp [World.setCell]
  have hnew : ∀ y ∈ N, Is (w.setCell p x) (fun b => w0.heap.size ≤ b ∧ b ≠ G ∧ v.ownBlock ≠ some b ∧ b ≠ Bk ∧ kv.ownBlock ≠ some b) y.2 y.1.kids := fun y hy =>
    (h.new y hy).step hs fun b hF _ => ⟨hfar b (fun e => by
      rcases hp with e2 | e2
      · exact hF.2.2.2.1 (e.trans e2)
      · exact hF.2.2.2.2 (e ▸ e2)), hF⟩
  refine ⟨⟨h.rd.box.step (hfar G hpG.symm), own_setCell h.rd.row (fun e => hpv e.symm) x, h.rd.ne, fun y hy => ?_⟩, hb, ⟨h.pf.os, h.pf.tape, h.pf.output, Nat.le_trans h.pf.size hs, fun b hlt hbG hbv => (hfar b (by omega)).trans (h.pf.block b hlt hbG hbv), h.pf.own⟩, h.fB, h.fk, hnew, h.old, h.gl, h.vl⟩
  · rcases List.mem_append.1 hy with hy | hy
    · exact (h.ol y hy).step hs fun b hF _ => ⟨hfar b (fun e => by have := hF.1; omega), hF.2⟩
    · exact (hnew y hy).wide fun b hF _ => ⟨hF.2.1, hF.2.2.1⟩
theorem Cur.setMay (h : Cur w0 w G Bk s last r v0 v kv L0 N ks may) (m : Bool) : Cur w0 (w.setCell ⟨Bk, 2, none⟩ (.bool m)) G Bk s last r v0 v kv L0 N ks m :=
  h.poke _ (.inl rfl) ⟨blk_set h.br.box 2 _, own_setCell h.br.row (fun e => h.br.nB e.symm) _, h.br.nG, h.br.nB, h.br.nv⟩
theorem Cur.setLast {g c k q : Nat} (h : Cur w0 w G Bk s last r v0 v (.slice (some ⟨g, 0, none⟩) (ks.length + 1) c) L0 N (ks ++ [k]) may) : Cur w0 (w.setCell ⟨g, ks.length, none⟩ (.int .i64 (q : Int))) G Bk s last r v0 v (.slice (some ⟨g, 0, none⟩) (ks.length + 1) c) L0 N (ks ++ [q]) may := by
  have hne : g ≠ Bk := fun e => h.br.nB (by rw [← e]; rfl)
  have hr := h.br.row
  rw [List.length_append, List.length_singleton] at hr
  have hrow := hr.stored ks.length (.int .i64 (q : Int))
  have he : (cN (ks ++ [k])).set ks.length (.int .i64 (q : Int)) = cN (ks ++ [q]) := by simp [cN, List.set_append]
  rw [he] at hrow
  refine h.poke (p := ⟨g, ks.length, none⟩) _ (.inr rfl) ⟨(Below.heap_setCell w ⟨g, ks.length, none⟩ _ Bk hne.symm).trans h.br.box, ?_, h.br.nG, h.br.nB, h.br.nv⟩
  have h9 := hrow.1
  simpa using h9
theorem Cur.lastSet {g c k q m n : Nat} (h : Cur w0 w G Bk s last r v0 v (.slice (some ⟨g, 0, none⟩) m c) L0 N (ks ++ [k]) may) (hm : ks.length + 1 = m) (hn : ks.length = n) : Cur w0 (w.setCell ⟨g, n, none⟩ (.int .i64 (q : Int))) G Bk s last r v0 v (.slice (some ⟨g, 0, none⟩) m c) L0 N (ks ++ [q]) may := by
  subst hm hn
  exact h.setLast
theorem Cur.lastCell {g c k m n : Nat} (h : Cur w0 w G Bk s last r v0 v (.slice (some ⟨g, 0, none⟩) m c) L0 N (ks ++ [k]) may) (hm : ks.length + 1 = m) (hn : ks.length = n) : w.cell? ⟨g, n, none⟩ = some (.int .i64 (k : Int)) ∧ w.frozen? ⟨g, n, none⟩ = false := by
  subst hm hn
  have hr := h.br.row
  rw [List.length_append, List.length_singleton] at hr
  rcases hr.2 with ⟨hv, _⟩ | ⟨g', cap, cur, hv, _, hg, hcap, _, _, htk⟩
  · cases hv
  · obtain rfl : g = g' := by
      injection hv with e
      injection e with e
      injection e
    refine ⟨?_, blk_frozen hg _⟩
    rw [blk_cell hg]
    have h9 : (cN (ks ++ [k]))[ks.length]? = some (.int .i64 (k : Int)) := by simp [cN]
    rw [← htk, List.getElem?_take_of_lt (by omega)] at h9
    simpa using h9
theorem cur_node2 (h : Cur w0 w G Bk s last r v0 v kv L0 N ks may) {d : Pp.Nd} (hk : Is w (fun b => w0.heap.size ≤ b ∧ b ≠ G ∧ v.ownBlock ≠ some b ∧ b ≠ Bk ∧ kv.ownBlock ≠ some b) kn d.kids) (hl : (L0 ++ N).length ≤ 100000) :
    Calls Tryz.prog 52 #[.pointer (some ⟨G, 0, none⟩), ndV d kn] w fun e w' => ∃ v', e = .returned (.int .i64 ((L0 ++ N).length : Int)) ∧ Cur w0 w' G Bk s last r v0 v' kv L0 (N ++ [(d, kn)]) ks may ∧ Pf w w' G v v' := by
  refine (node_any h.rd (hk.wide fun b hb _ => ⟨hb.2.1, hb.2.2.1⟩) hl).mono ?_
  rintro e w' ⟨v', rfl, h1, h2⟩
  have key : ∀ b, (w0.heap.size ≤ b ∧ b ≠ G ∧ v.ownBlock ≠ some b ∧ b ≠ Bk ∧ kv.ownBlock ≠ some b) → b < w.heap.size → w'.heap[b]? = w.heap[b]? ∧ (w0.heap.size ≤ b ∧ b ≠ G ∧ v'.ownBlock ≠ some b ∧ b ≠ Bk ∧ kv.ownBlock ≠ some b) := fun b hb hlt => ⟨h2.block b hlt hb.2.1 hb.2.2.1, hb.1, hb.2.1, fun e => by
    rcases h2.own b e with h9 | h9
    · exact hb.2.2.1 h9
    · omega, hb.2.2.2.1, hb.2.2.2.2⟩
  refine ⟨v', rfl, ⟨by rw [← List.append_assoc]; exact h1, h.br.step h2, h.pf.trans h2, h.fB, h.fk, fun x hx => ?_, h.old, h.gl, h.vl⟩, h2⟩
  rcases List.mem_append.1 hx with hx | hx
  · exact (h.new x hx).step h2.size key
  · obtain rfl : x = (d, kn) := by simpa using hx
    exact hk.step h2.size key
/-- nodes as they are told -/
def CurN (w0 : World) (G Bk : Nat) (s last : ByteArray) (r : Pp.Rs) (v0 : Value) (L0 : List (Pp.Nd × Value)) (ns : List Pp.Nd) (ks : List Nat) (may : Bool) (u : Value) (e : Ending) (w' : World) : Prop :=
  ∃ v kv N, e = .returned u ∧ Cur w0 w' G Bk s last r v0 v kv L0 N ks may ∧ N.map Prod.fst = ns
set_option maxRecDepth 100000 in
set_option maxHeartbeats 4000000 in
theorem many_star {k : Nat} (h : Cur w0 w G Bk s last r v0 v kv L0 N (ks ++ [k]) true) (at_ : Int) (hl : (L0 ++ N).length ≤ 100000) (hkl : ks.length ≤ 100000) :
    Calls Tryz.prog 66 #[.pointer (some ⟨Bk, 0, none⟩), .int .u8 42, .int .i64 at_] w (CurN w0 G Bk s last r v0 L0 (N.map Prod.fst ++ [{ Pp.nd0 with op := 7, mx := -1, kids := [k] }]) (ks ++ [(L0 ++ N).length]) false (.tuple #[])) := by
  obtain ⟨c0, c1, c2⟩ := h.bcell
  have hBl := blk_lt h.br.box
  have hsl : ∃ g c, kv = .slice (some ⟨g, 0, none⟩) (ks.length + 1) c ∧ ks.length + 1 ≤ c ∧ w.cell? ⟨g, ks.length, none⟩ = some (.int .i64 (k : Int)) ∧ w.frozen? ⟨g, ks.length, none⟩ = false := by
    have hr := h.br.row
    rw [List.length_append, List.length_singleton] at hr
    rcases hr.2 with ⟨_, h0⟩ | ⟨g, cap, cur, hv, _, hg, hcap, _, _, htk⟩
    · omega
    · refine ⟨g, cap, hv, hcap, ?_, blk_frozen hg _⟩
      rw [blk_cell hg]
      have h9 : (cN (ks ++ [k]))[ks.length]? = some (.int .i64 (k : Int)) := by simp [cN]
      rw [← htk, List.getElem?_take_of_lt (by omega)] at h9
      simpa using h9
  obtain ⟨g, c, rfl, hcap, hck, hfk⟩ := hsl
  have i1 : (0 : Int) ≤ (ks.length : Int) := by omega
  have i2 : (ks.length : Int) < (ks.length : Int) + 1 := by omega
  have hal := below_alloc (Below.refl w.heap.size w) (.cells #[.int .u8 7, .int .u8 0, .int .u64 0, .int .u64 0, .int .u64 0, .int .u64 0, .int .i64 0, .int .i64 (-1), .bool false, .int .i64 0, .slice none 0 0] 35)
  have d1 := (World.cell?_of_block (a := ⟨Bk, 1, none⟩) (hal.block Bk hBl)).trans c1
  have hgl : g < w.heap.size := int_lt h.br.row g rfl
  have dk := (World.cell?_of_block (a := ⟨g, ks.length, none⟩) (hal.block g hgl)).trans hck
  have HH := Lib.hid h
  clear h hal i1 i2
  obtain ⟨m, hm⟩ : ∃ m, ks.length + 1 = m := ⟨_, rfl⟩
  rw [hm] at c1 d1 HH hcap
  obtain ⟨n, hn⟩ : ∃ n, ks.length = n := ⟨_, rfl⟩
  rw [hn] at hck hfk dk hkl
  have i0 : (m : Int) - 1 = (n : Int) := by omega
  have iw1 : IntKind.i64.wrap ((m : Int) - 1) = (n : Int) := by rw [IntKind.wrap_i64]; omega
  have i1 : (0 : Int) ≤ (n : Int) := by omega
  have i2 : (n : Int) < (m : Int) := by omega
  have HM := Lib.hid (And.intro hm hn)
  clear hm hn
  go_enter Tryz.func66, Tryz.ntmps66
  go_wp2
  go_region
  go_wp2
  have hb1 := below_alloc (Below.refl w.heap.size w) (.cells #[.int .u8 7, .int .u8 0, .int .u64 0, .int .u64 0, .int .u64 0, .int .u64 0, .int .i64 0, .int .i64 (-1), .bool false, .int .i64 0, .slice (some ⟨w.heap.size + 1, 0, none⟩) 1 1] 35)
  have hbX : Below w.heap.size w ((w.alloc (.cells #[.int .u8 7, .int .u8 0, .int .u64 0, .int .u64 0, .int .u64 0, .int .u64 0, .int .i64 0, .int .i64 (-1), .bool false, .int .i64 0, .slice (some ⟨w.heap.size + 1, 0, none⟩) 1 1] 35)).alloc (.cells #[.int .i64 (k : Int)] 3)).drew := (below_alloc hb1 _).drew
  have hP : ((w.alloc (.cells #[.int .u8 7, .int .u8 0, .int .u64 0, .int .u64 0, .int .u64 0, .int .u64 0, .int .i64 0, .int .i64 (-1), .bool false, .int .i64 0, .slice (some ⟨w.heap.size + 1, 0, none⟩) 1 1] 35)).alloc (.cells #[.int .i64 (k : Int)] 3)).drew.heap[w.heap.size]? = some (.cells #[.int .u8 7, .int .u8 0, .int .u64 0, .int .u64 0, .int .u64 0, .int .u64 0, .int .i64 0, .int .i64 (-1), .bool false, .int .i64 0, .slice (some ⟨w.heap.size + 1, 0, none⟩) 1 1] 35 (0, 0)) := ((below_alloc (Below.refl (w.alloc (.cells #[.int .u8 7, .int .u8 0, .int .u64 0, .int .u64 0, .int .u64 0, .int .u64 0, .int .i64 0, .int .i64 (-1), .bool false, .int .i64 0, .slice (some ⟨w.heap.size + 1, 0, none⟩) 1 1] 35)).heap.size _) (.cells #[.int .i64 (k : Int)] 3)).block _ (by simp)).trans (alloc_at w _)
  have hQ : ((w.alloc (.cells #[.int .u8 7, .int .u8 0, .int .u64 0, .int .u64 0, .int .u64 0, .int .u64 0, .int .i64 0, .int .i64 (-1), .bool false, .int .i64 0, .slice (some ⟨w.heap.size + 1, 0, none⟩) 1 1] 35)).alloc (.cells #[.int .i64 (k : Int)] 3)).drew.heap[w.heap.size + 1]? = some (.cells #[.int .i64 (k : Int)] 3 (0, 0)) := by
    have h9 := alloc_at (w.alloc (.cells #[.int .u8 7, .int .u8 0, .int .u64 0, .int .u64 0, .int .u64 0, .int .u64 0, .int .i64 0, .int .i64 (-1), .bool false, .int .i64 0, .slice (some ⟨w.heap.size + 1, 0, none⟩) 1 1] 35)) (.cells #[.int .i64 (k : Int)] 3)
    rw [show (w.alloc (.cells #[.int .u8 7, .int .u8 0, .int .u64 0, .int .u64 0, .int .u64 0, .int .u64 0, .int .i64 0, .int .i64 (-1), .bool false, .int .i64 0, .slice (some ⟨w.heap.size + 1, 0, none⟩) 1 1] 35)).heap.size = w.heap.size + 1 by simp] at h9
    exact h9
  obtain ⟨X, hX⟩ : ∃ X, ((w.alloc (.cells #[.int .u8 7, .int .u8 0, .int .u64 0, .int .u64 0, .int .u64 0, .int .u64 0, .int .i64 0, .int .i64 (-1), .bool false, .int .i64 0, .slice (some ⟨w.heap.size + 1, 0, none⟩) 1 1] 35)).alloc (.cells #[.int .i64 (k : Int)] 3)).drew = X := ⟨_, rfl⟩
  rw [hX] at hbX hP hQ ⊢
  clear hX hb1
  have hcur := HH.out.below hbX.drew
  have hvl := own_lt HH.out.rd.row
  have hfr : ∀ b, w.heap.size ≤ b → (w0.heap.size ≤ b ∧ b ≠ G ∧ v.ownBlock ≠ some b ∧ b ≠ Bk ∧ (Value.slice (some ⟨g, 0, none⟩) m c).ownBlock ≠ some b) := fun b hb => ⟨Nat.le_trans HH.out.pf.size hb, by have := blk_lt HH.out.rd.box; omega, fun e => by have := hvl b e; omega, by omega, fun e => by
    have : g = b := by simpa [Value.ownBlock] using e
    omega⟩
  have hIs : Is X.drew (fun b => w0.heap.size ≤ b ∧ b ≠ G ∧ v.ownBlock ≠ some b ∧ b ≠ Bk ∧ (Value.slice (some ⟨g, 0, none⟩) m c).ownBlock ≠ some b) (.slice (some ⟨w.heap.size + 1, 0, none⟩) 1 1) [k] :=
    ⟨_, 1, rfl, Nat.le_refl _, by decide, fun _ => ⟨_, 0, rfl, hfr _ (by omega), blk_lt hQ, fun j y hj => by
      match j, hj with
      | 0, hj =>
        obtain rfl : k = y := by simpa using hj
        show X.cell? _ = _
        rw [blk_cell hQ]
        rfl⟩⟩
  have HND := Lib.hid (cur_node2 hcur (d := { Pp.nd0 with op := 7, mx := -1, kids := [k] }) hIs hl)
  unfold ndV at HND
  simp only [Pp.nd0] at HND
  obtain ⟨q, hq⟩ : ∃ q, (L0 ++ N).length = q := ⟨_, rfl⟩
  rw [hq] at HND
  have HQ := Lib.hid hq
  have hBX := (hbX.block Bk hBl).trans HH.out.br.box
  have z0 : X.cell? ⟨Bk, 0, none⟩ = some (.pointer (some ⟨G, 0, none⟩)) ∧ X.cell? ⟨w.heap.size, 0, none⟩ = some (.int .u8 7) ∧ X.cell? ⟨w.heap.size, 1, none⟩ = some (.int .u8 0) ∧ X.cell? ⟨w.heap.size, 2, none⟩ = some (.int .u64 0) ∧ X.cell? ⟨w.heap.size, 3, none⟩ = some (.int .u64 0) ∧ X.cell? ⟨w.heap.size, 4, none⟩ = some (.int .u64 0) ∧ X.cell? ⟨w.heap.size, 5, none⟩ = some (.int .u64 0) ∧ X.cell? ⟨w.heap.size, 6, none⟩ = some (.int .i64 0) ∧ X.cell? ⟨w.heap.size, 7, none⟩ = some (.int .i64 (-1)) ∧ X.cell? ⟨w.heap.size, 8, none⟩ = some (.bool false) ∧ X.cell? ⟨w.heap.size, 9, none⟩ = some (.int .i64 0) ∧ X.cell? ⟨w.heap.size, 10, none⟩ = some (.slice (some ⟨w.heap.size + 1, 0, none⟩) 1 1) := ⟨by rw [blk_cell hBX]; rfl, by rw [blk_cell hP]; rfl, by rw [blk_cell hP]; rfl, by rw [blk_cell hP]; rfl, by rw [blk_cell hP]; rfl, by rw [blk_cell hP]; rfl, by rw [blk_cell hP]; rfl, by rw [blk_cell hP]; rfl, by rw [blk_cell hP]; rfl, by rw [blk_cell hP]; rfl, by rw [blk_cell hP]; rfl, by rw [blk_cell hP]; rfl⟩
  have hPne : w.heap.size ≠ g := by omega
  have hBne : Bk ≠ g := fun e => HH.out.br.nB (by rw [e]; rfl)
  have HPQ := Lib.hid (And.intro hP (And.intro hfr hbX))
  clear hP hQ hcur hIs hfr hBX hq hbX
  go_region_held3 (fun V => V.cell? ⟨Bk, 0, none⟩ = some (.pointer (some ⟨G, 0, none⟩)) ∧ V.cell? ⟨w.heap.size, 0, none⟩ = some (.int .u8 7) ∧ V.cell? ⟨w.heap.size, 1, none⟩ = some (.int .u8 0) ∧ V.cell? ⟨w.heap.size, 2, none⟩ = some (.int .u64 0) ∧ V.cell? ⟨w.heap.size, 3, none⟩ = some (.int .u64 0) ∧ V.cell? ⟨w.heap.size, 4, none⟩ = some (.int .u64 0) ∧ V.cell? ⟨w.heap.size, 5, none⟩ = some (.int .u64 0) ∧ V.cell? ⟨w.heap.size, 6, none⟩ = some (.int .i64 0) ∧ V.cell? ⟨w.heap.size, 7, none⟩ = some (.int .i64 (-1)) ∧ V.cell? ⟨w.heap.size, 8, none⟩ = some (.bool false) ∧ V.cell? ⟨w.heap.size, 9, none⟩ = some (.int .i64 0) ∧ V.cell? ⟨w.heap.size, 10, none⟩ = some (.slice (some ⟨w.heap.size + 1, 0, none⟩) 1 1)) (first | exact z0 | exact z2 | exact z3 | go_keep) (first
    | (go_at_call 52; (with_reducible refine HND.out.mono ?_); rintro e w2 ⟨v2, rfl, h2, hpf2⟩; have hP2 := (hpf2.block w.heap.size (Nat.lt_of_lt_of_le (blk_lt HPQ.out.1) (Nat.le_refl _)) (HPQ.out.2.1 _ (Nat.le_refl _)).2.1 (HPQ.out.2.1 _ (Nat.le_refl _)).2.2.1).trans HPQ.out.1; have hB2 := h2.br.box; have z2 : w2.cell? ⟨Bk, 0, none⟩ = some (.pointer (some ⟨G, 0, none⟩)) ∧ w2.cell? ⟨w.heap.size, 0, none⟩ = some (.int .u8 7) ∧ w2.cell? ⟨w.heap.size, 1, none⟩ = some (.int .u8 0) ∧ w2.cell? ⟨w.heap.size, 2, none⟩ = some (.int .u64 0) ∧ w2.cell? ⟨w.heap.size, 3, none⟩ = some (.int .u64 0) ∧ w2.cell? ⟨w.heap.size, 4, none⟩ = some (.int .u64 0) ∧ w2.cell? ⟨w.heap.size, 5, none⟩ = some (.int .u64 0) ∧ w2.cell? ⟨w.heap.size, 6, none⟩ = some (.int .i64 0) ∧ w2.cell? ⟨w.heap.size, 7, none⟩ = some (.int .i64 (-1)) ∧ w2.cell? ⟨w.heap.size, 8, none⟩ = some (.bool false) ∧ w2.cell? ⟨w.heap.size, 9, none⟩ = some (.int .i64 0) ∧ w2.cell? ⟨w.heap.size, 10, none⟩ = some (.slice (some ⟨w.heap.size + 1, 0, none⟩) 1 1) := ⟨by rw [blk_cell hB2]; rfl, by rw [blk_cell hP2]; rfl, by rw [blk_cell hP2]; rfl, by rw [blk_cell hP2]; rfl, by rw [blk_cell hP2]; rfl, by rw [blk_cell hP2]; rfl, by rw [blk_cell hP2]; rfl, by rw [blk_cell hP2]; rfl, by rw [blk_cell hP2]; rfl, by rw [blk_cell hP2]; rfl, by rw [blk_cell hP2]; rfl, by rw [blk_cell hP2]; rfl⟩; have h3 := (h2.lastSet (q := q) HM.out.1 HM.out.2); have z3 : (w2.setCell ⟨g, n, none⟩ (.int .i64 (q : Int))).cell? ⟨Bk, 0, none⟩ = some (.pointer (some ⟨G, 0, none⟩)) ∧ (w2.setCell ⟨g, n, none⟩ (.int .i64 (q : Int))).cell? ⟨w.heap.size, 0, none⟩ = some (.int .u8 7) ∧ (w2.setCell ⟨g, n, none⟩ (.int .i64 (q : Int))).cell? ⟨w.heap.size, 1, none⟩ = some (.int .u8 0) ∧ (w2.setCell ⟨g, n, none⟩ (.int .i64 (q : Int))).cell? ⟨w.heap.size, 2, none⟩ = some (.int .u64 0) ∧ (w2.setCell ⟨g, n, none⟩ (.int .i64 (q : Int))).cell? ⟨w.heap.size, 3, none⟩ = some (.int .u64 0) ∧ (w2.setCell ⟨g, n, none⟩ (.int .i64 (q : Int))).cell? ⟨w.heap.size, 4, none⟩ = some (.int .u64 0) ∧ (w2.setCell ⟨g, n, none⟩ (.int .i64 (q : Int))).cell? ⟨w.heap.size, 5, none⟩ = some (.int .u64 0) ∧ (w2.setCell ⟨g, n, none⟩ (.int .i64 (q : Int))).cell? ⟨w.heap.size, 6, none⟩ = some (.int .i64 0) ∧ (w2.setCell ⟨g, n, none⟩ (.int .i64 (q : Int))).cell? ⟨w.heap.size, 7, none⟩ = some (.int .i64 (-1)) ∧ (w2.setCell ⟨g, n, none⟩ (.int .i64 (q : Int))).cell? ⟨w.heap.size, 8, none⟩ = some (.bool false) ∧ (w2.setCell ⟨g, n, none⟩ (.int .i64 (q : Int))).cell? ⟨w.heap.size, 9, none⟩ = some (.int .i64 0) ∧ (w2.setCell ⟨g, n, none⟩ (.int .i64 (q : Int))).cell? ⟨w.heap.size, 10, none⟩ = some (.slice (some ⟨w.heap.size + 1, 0, none⟩) 1 1) := ⟨by rw [blk_cell ((Below.heap_setCell w2 ⟨g, n, none⟩ _ Bk hBne).trans hB2)]; rfl, by rw [blk_cell ((Below.heap_setCell w2 ⟨g, n, none⟩ _ w.heap.size hPne).trans hP2)]; rfl, by rw [blk_cell ((Below.heap_setCell w2 ⟨g, n, none⟩ _ w.heap.size hPne).trans hP2)]; rfl, by rw [blk_cell ((Below.heap_setCell w2 ⟨g, n, none⟩ _ w.heap.size hPne).trans hP2)]; rfl, by rw [blk_cell ((Below.heap_setCell w2 ⟨g, n, none⟩ _ w.heap.size hPne).trans hP2)]; rfl, by rw [blk_cell ((Below.heap_setCell w2 ⟨g, n, none⟩ _ w.heap.size hPne).trans hP2)]; rfl, by rw [blk_cell ((Below.heap_setCell w2 ⟨g, n, none⟩ _ w.heap.size hPne).trans hP2)]; rfl, by rw [blk_cell ((Below.heap_setCell w2 ⟨g, n, none⟩ _ w.heap.size hPne).trans hP2)]; rfl, by rw [blk_cell ((Below.heap_setCell w2 ⟨g, n, none⟩ _ w.heap.size hPne).trans hP2)]; rfl, by rw [blk_cell ((Below.heap_setCell w2 ⟨g, n, none⟩ _ w.heap.size hPne).trans hP2)]; rfl, by rw [blk_cell ((Below.heap_setCell w2 ⟨g, n, none⟩ _ w.heap.size hPne).trans hP2)]; rfl, by rw [blk_cell ((Below.heap_setCell w2 ⟨g, n, none⟩ _ w.heap.size hPne).trans hP2)]; rfl⟩; have s1 := h2.lastCell HM.out.1 HM.out.2; obtain ⟨s2, s3⟩ := s1; have H3 := Lib.hid h3; clear h2 hpf2 hP2 hB2 h3))
  all_goals
    obtain ⟨b0, b1, b2⟩ := H3.out.bcell
    have bf := blk_frozen H3.out.br.box 2
    go_wp2
    go_end0
    refine ⟨v2, .slice (some ⟨g, 0, none⟩) m c, N ++ [({ Pp.nd0 with op := 7, mx := -1, kids := [k] }, .slice (some ⟨w.heap.size + 1, 0, none⟩) 1 1)], rfl, ?_, by simp⟩
    rw [HQ.out]
    exact H3.out.setMay false
end
end Go.Proofs.YtjdlbejmdjcajaaGreat
