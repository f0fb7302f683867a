/- prog: many: walked, over any node. -/
import Derived.Test.YtjdlbejmdjcajaaGreatPcD
set_option linter.unusedVariables false
set_option linter.unusedSimpArgs false
namespace Go.Proofs.YtjdlbejmdjcajaaGreat
open Go.RowKit Go.Shelf Go.Maps Go.Proofs.YtjdlbejmdjcajaaGreatW.PrintWords Go.Proofs.YtjdlbejmdjcajaaGreatW.PrintLast

/-- instructions that are laid stay -/
def RecLe (rec : Int → Pp.Cd → Pp.Er Pp.Cd) : Prop := ∀ kid c c', rec kid c = .ok c' → c.1.length ≤ c'.1.length
theorem Pp.roundP_le {rec : Int → Pp.Cd → Pp.Er Pp.Cd} (hm : RecLe rec) {kid : Int} {c c' : Pp.Cd} (h : Pp.roundP rec kid c = .ok c') : c.1.length < c'.1.length := by
  unfold Pp.roundP at h
  split at h
  · cases h
  rename_i c1 h1
  split at h
  · cases h
  rename_i c2 h2
  split at h
  · cases h
  rename_i c3 h3
  have a1 := (Pp.layP_ok h1).1
  have a2 := (Pp.layP_ok h2).1
  have a3 := hm _ _ _ h3
  have a4 := (Pp.layP_ok h).1
  subst a1 a2 a4
  simp at a3 ⊢
  omega
theorem Pp.waysP_len (lz : Bool) : ∀ (ws : List Nat) (c : Pp.Cd), (Pp.waysP lz ws c).1.length = c.1.length
  | [], c => rfl
  | k :: ws, c => by
    unfold Pp.waysP
    rw [Pp.waysP_len lz ws]
    simp [Pp.wayP]
section
variable {w w' : World} {Wb g n cp : Nat} {nv cv : Value} {L : List Pp.Nk} {c : Pp.Cd}
/-- a copy of a node stays -/
theorem nd_step {N0 : Nat} {o : Obj} (h : w.heap[N0]? = some o) (hp : Pf w w' Wb cv nv) (hW : N0 ≠ Wb) (hc : cv.ownBlock ≠ some N0) : w'.heap[N0]? = some o := (hp.block N0 (blk_lt h) hW hc).trans h
theorem Pf.new {v v' : Value} (h : Pf w w' Wb v v') {b : Nat} (hb : b < w.heap.size) (hne : v.ownBlock ≠ some b) : v'.ownBlock ≠ some b := fun e => by
  rcases h.own b e with h9 | h9
  · exact hne h9
  · omega
theorem infoFn : (Tryz.prog.info? 57).map (fun i => (i.zero, i.size, i.bytes)) = some (some .nilFunc, 1, 8) := by kernel_rfl
def wayE (y : Nat × Nat × Nat × Nat) : Value := wayV y.2.1 y.2.2.1 y.2.2.2
theorem frow_slice {w : World} {n : Nat} {v : Value} {cs : List Value} (h : w.ownsRow 0 57 1 v n cs) : ∃ A c, v = .slice A n c := by
  rcases h.2 with ⟨hv, rfl, _⟩ | ⟨g, cap, cur, hv, _⟩
  · exact ⟨none, 0, hv⟩
  · exact ⟨_, cap, hv⟩
theorem fown_lt {w : World} {n : Nat} {v : Value} {cs : List Value} (h : w.ownsRow 0 57 1 v n cs) : ∀ b, v.ownBlock = some b → b < w.heap.size := by
  intro b hb
  rcases h.2 with ⟨hv, _⟩ | ⟨g, cap, cur, hv, _, hg, _⟩
  · rw [hv] at hb
    cases hb
  · rw [hv] at hb
    obtain rfl : g = b := by simpa [Value.ownBlock] using hb
    exact blk_lt hg
/-- ways out that are kept -/
structure WaysM (N : Nat) (w : World) (Wb : Nat) (cv : Value) (lz : Bool) (wv : Value) (wl : List (Nat × Nat × Nat × Nat)) (len : Nat) : Prop where
  row : w.ownsRow 0 57 1 wv wl.length (wl.map wayE)
  own : ∀ b, wv.ownBlock = some b → N ≤ b ∧ b ≠ Wb ∧ cv.ownBlock ≠ some b
  each : ∀ y ∈ wl, WayM w Wb cv lz y.1 y.2.1 y.2.2.1 y.2.2.2 ∧ y.1 < len ∧ wv.ownBlock ≠ some y.2.1 ∧ wv.ownBlock ≠ some y.2.2.1 ∧ wv.ownBlock ≠ some y.2.2.2
theorem WaysM.step {N : Nat} {lz : Bool} {wv cv' : Value} {wl : List (Nat × Nat × Nat × Nat)} {len len' : Nat} (h : WaysM N w Wb cv lz wv wl len) (hp : Pf w w' Wb cv cv') (hl : len ≤ len') : WaysM N w' Wb cv' lz wv wl len' :=
  ⟨own_move h.row fun b e => hp.block b (fown_lt h.row b e) (h.own b e).2.1 (h.own b e).2.2, fun b e => ⟨(h.own b e).1, (h.own b e).2.1, hp.new (fown_lt h.row b e) (h.own b e).2.2⟩, fun y hy => ⟨(h.each y hy).1.step hp, by have := (h.each y hy).2.1; omega, (h.each y hy).2.2⟩⟩
/-- one more way is kept -/
theorem WaysM.app {N : Nat} {lz : Bool} {wv wv' : Value} {wl : List (Nat × Nat × Nat × Nat)} {len k p q r : Nat} (h : WaysM N w Wb cv lz wv wl len) (hW : Wb < w.heap.size) (hc : ∀ b, cv.ownBlock = some b → b < w.heap.size) (hN : N ≤ w.heap.size) (hy : WayM w Wb cv lz k p q r) (hk : k < len) (hwv : wv.ownBlock ≠ some p ∧ wv.ownBlock ≠ some q ∧ wv.ownBlock ≠ some r)
    (hr : w'.ownsRow 0 57 1 wv' (wl.length + 1) (wl.map wayE ++ [wayV p q r])) (hg : w.grownBy w' wv.ownBlock) (ho : wv'.ownBlock = wv.ownBlock ∨ wv'.ownBlock = some w.heap.size) : WaysM N w' Wb cv lz wv' (wl ++ [(k, p, q, r)]) len := by
  have hsame : ∀ b, b < w.heap.size → wv.ownBlock ≠ some b → w'.heap[b]? = w.heap[b]? := fun b hb hne => hg.block b hb (fun e => hne e.symm)
  have hne' : ∀ b, b < w.heap.size → wv.ownBlock ≠ some b → wv'.ownBlock ≠ some b := fun b hb hne e => by
    rcases ho with h9 | h9
    · exact hne (h9 ▸ e)
    · have := Option.some.inj (e.symm.trans h9); omega
  have hwm : ∀ k p q r, WayM w Wb cv lz k p q r → wv.ownBlock ≠ some p → wv.ownBlock ≠ some q → wv.ownBlock ≠ some r → WayM w' Wb cv lz k p q r := fun k p q r g g1 g2 g3 =>
    ⟨(World.cell?_of_block (a := ⟨p, 0, none⟩) (hsame p g.lt.1 g1)).trans g.fp, (World.cell?_of_block (a := ⟨q, 0, none⟩) (hsame q g.lt.2.1 g2)).trans g.fq, (World.cell?_of_block (a := ⟨r, 0, none⟩) (hsame r g.lt.2.2 g3)).trans g.fr, ⟨Nat.lt_of_lt_of_le g.lt.1 hg.size, Nat.lt_of_lt_of_le g.lt.2.1 hg.size, Nat.lt_of_lt_of_le g.lt.2.2 hg.size⟩, g.nW, g.nc⟩
  refine ⟨by rw [List.length_append, List.map_append]; exact hr, fun b e => ?_, fun y hy2 => ?_⟩
  · rcases ho with h9 | h9
    · exact h.own b (h9 ▸ e)
    · obtain rfl := Option.some.inj (e.symm.trans h9)
      exact ⟨hN, by omega, fun e2 => by have := hc _ e2; omega⟩
  · rcases List.mem_append.1 hy2 with hy2 | hy2
    · have g := h.each y hy2
      exact ⟨hwm _ _ _ _ g.1 g.2.2.1 g.2.2.2.1 g.2.2.2.2, g.2.1, hne' _ g.1.lt.1 g.2.2.1, hne' _ g.1.lt.2.1 g.2.2.2.1, hne' _ g.1.lt.2.2 g.2.2.2.2⟩
    · obtain rfl : y = (k, p, q, r) := by simpa using hy2
      exact ⟨hwm _ _ _ _ hy hwv.1 hwv.2.1 hwv.2.2, hk, hne' _ hy.lt.1 hwv.1, hne' _ hy.lt.2.1 hwv.2.1, hne' _ hy.lt.2.2 hwv.2.2⟩
/-- the writer stays while a row of others grows -/
theorem WrM.other {w0 : World} {cv0 wv : Value} (h0 : NsI w0 (fun b => b ≠ Wb ∧ cv0.ownBlock ≠ some b) nv L) (hp : Pf w0 w Wb cv0 cv) (h : WrM w Wb nv cv L c) (hg : w.grownBy w' wv.ownBlock) (ho : ∀ b, wv.ownBlock = some b → w0.heap.size ≤ b ∧ b ≠ Wb ∧ cv.ownBlock ≠ some b) : WrM w' Wb nv cv L c ∧ Pf w0 w' Wb cv0 cv := by
  have hold : ∀ b, b < w0.heap.size → b ≠ Wb → cv0.ownBlock ≠ some b → w'.heap[b]? = w0.heap[b]? := fun b hb hne hv => (hg.block b (Nat.lt_of_lt_of_le hb hp.size) (fun e => by have := (ho b e.symm).1; omega)).trans (hp.block b hb hne hv)
  refine ⟨⟨(hg.block _ (blk_lt h.box) (fun e => (ho _ e.symm).2.1 rfl)).trans h.box, own_move h.row fun b e => hg.block b (iown_lt h.row b e) (fun e2 => (ho b e2.symm).2.2 e), h.ne, h0.step (Nat.le_trans hp.size hg.size) fun b hF hb => ⟨hold b hb hF.1 hF.2, hF.1, fun e => ?_⟩, h.le, h.rle⟩, ⟨hg.os.trans hp.os, hg.tape.trans hp.tape, hg.output.trans hp.output, Nat.le_trans hp.size hg.size, hold, hp.own⟩⟩
  rcases hp.own b e with h9 | h9
  · exact hF.2 h9
  · omega
set_option maxRecDepth 100000 in
set_option maxHeartbeats 8000000 in
theorem many_any {rec : Int → Pp.Cd → Pp.Er Pp.Cd} (hrec : NodeOk rec L Wb nv) (hle : RecLe rec) (h : WrM w Wb nv cv L c) (d : Pp.Nd) (kid : Int) {bk ok n0 cp0 : Nat} (hbk : bk < w.heap.size) (hn0 : 0 < n0) (hcp : n0 ≤ cp0) (hkc : w.cell? ⟨bk, ok, none⟩ = some (.int .i64 kid)) {R : Pp.Er Pp.Cd} (hR : Pp.manyC rec d kid c = R) (hne : R ≠ .error false) :
    Calls Tryz.prog 32 #[.pointer (some ⟨Wb, 0, none⟩), ndV d (.slice (some ⟨bk, ok, none⟩) n0 cp0)] w (WPost (.tuple #[]) w Wb nv cv L R) := by
  unfold Pp.manyC at hR
  by_cases hg : d.mn < 0 ∨ 1000 < d.mn ∨ 1000 < d.mx
  · rw [if_pos hg] at hR
    exact absurd hR.symm hne
  rw [if_neg hg] at hR
  obtain ⟨mn, hmn⟩ : ∃ mn : Nat, d.mn = (mn : Int) := ⟨d.mn.toNat, by omega⟩
  have hmn2 : mn ≤ 1000 := by omega
  have hmx : d.mx ≤ 1000 := by omega
  unfold ndV
  rw [hmn, Int.toNat_natCast] at hR
  rw [hmn]
  clear hmn hg
  have hal := below_alloc (Below.refl w.heap.size w) (.cells #[.int .u8 d.op, .int .u8 d.c, .int .u64 d.s0, .int .u64 d.s1, .int .u64 d.s2, .int .u64 d.s3, .int .i64 (mn : Int), .int .i64 d.mx, .bool d.lz, .int .i64 d.n, .slice (some ⟨bk, ok, none⟩) n0 cp0] 35)
  have hN := alloc_at w (.cells #[.int .u8 d.op, .int .u8 d.c, .int .u64 d.s0, .int .u64 d.s1, .int .u64 d.s2, .int .u64 d.s3, .int .i64 (mn : Int), .int .i64 d.mx, .bool d.lz, .int .i64 d.n, .slice (some ⟨bk, ok, none⟩) n0 cp0] 35)
  have hX := h.far hal
  have hkc2 := (World.cell?_of_block (a := ⟨bk, ok, none⟩) (hal.block bk hbk)).trans hkc
  have hWl := blk_lt h.box
  have hol := iown_lt h.row
  have hN1 : w.heap.size ≠ Wb := by omega
  have hN2 : cv.ownBlock ≠ some w.heap.size := fun e => by have := hol _ e; omega
  have HREC := Lib.hid hrec
  have HB0 := Lib.hid h.ns
  have HX := Lib.hid (And.intro hX (And.intro (Pf.below (G := Wb) (v := cv) hal) (And.intro hN (And.intro hN1 hN2))))
  have hn00 : (0 : Int) < (n0 : Int) := by omega
  have HR := Lib.hid hR
  have HG := Lib.hid hmx
  clear h hrec hal hX hkc hmx hR hN hN1 hN2 hol
  go_enter Tryz.func32, Tryz.ntmps32
  go_wp2
  have HX0 := HX.out
  go_loopw [16] (fun v16 wr => ∃ (j : Nat) (cj : Pp.Cd) (cvj : Value), v16 = .int .i64 j ∧ j ≤ mn ∧ WrM wr Wb nv cvj L cj ∧ Pf w wr Wb cv cvj ∧ wr.heap[w.heap.size]? = some (.cells #[.int .u8 d.op, .int .u8 d.c, .int .u64 d.s0, .int .u64 d.s1, .int .u64 d.s2, .int .u64 d.s3, .int .i64 (mn : Int), .int .i64 d.mx, .bool d.lz, .int .i64 d.n, .slice (some ⟨bk, ok, none⟩) n0 cp0] 35 (0, 0)) ∧ cvj.ownBlock ≠ some w.heap.size ∧ Pp.timesP rec kid (mn - j) cj = Pp.timesP rec kid mn c) (fun v16 _ => mn - (intOf v16).toNat)
  case atStart => exact ⟨0, c, cv, rfl, Nat.zero_le _, HX0.1, HX0.2.1, HX0.2.2.1, HX0.2.2.2.2, rfl⟩
  case round =>
    clear hkc2
    obtain ⟨j, cj, cvj, rfl, hj, hwr, hpf, hnd, hnc, hT⟩ := hrel
    by_cases hjm : j < mn
    · rw [show mn - j = (mn - (j + 1)) + 1 by omega] at hT
      replace hT : (match rec kid cj with | .error e => .error e | .ok c1 => Pp.timesP rec kid (mn - (j + 1)) c1) = Pp.timesP rec kid mn c := hT
      have hnr : rec kid cj ≠ .error false := fun e => by
        rw [e] at hT
        have h9 := HR.out
        rw [← hT] at h9
        exact hne h9.symm
      have HN := Lib.hid (HREC.out kid cj wr cvj hwr hnr)
      have HP := Lib.hid (And.intro hpf (And.intro hnd hnc))
      have HT := Lib.hid hT
      have i2 : (j : Int) < (mn : Int) := by omega
      clear hwr hpf hnd hnc hT
      go_wp2_with fail
      refine HN.out.mono ?_
      intro e w3 hpo
      have hT := HT.out
      cases h3 : rec kid cj with
      | error b =>
        rw [h3] at hT hpo
        cases b with
        | false => exact absurd h3 hnr
        | true =>
          have h9 := HR.out
          rw [← hT] at h9
          subst h9
          obtain ⟨rfl, cv3, hp3⟩ := hpo
          exact ⟨rfl, rfl, cv3, HP.out.1.trans hp3⟩
      | ok c3 =>
      rw [h3] at hT hpo
      obtain ⟨cv3, rfl, hw3, hp3⟩ := hpo
      have H3 := Lib.hid (And.intro hw3 (And.intro (HP.out.1.trans hp3) (And.intro (nd_step HP.out.2.1 hp3 HX.out.2.2.2.1 HP.out.2.2) (hp3.new (blk_lt HP.out.2.1) HP.out.2.2))))
      have HT2 := Lib.hid hT
      clear hw3 hp3 hT HT hnr h3
      go_wp2
      go_roundw
      case rel => exact ⟨j + 1, c3, cv3, by go_num, by omega, H3.out.1, H3.out.2.1, H3.out.2.2.1, H3.out.2.2.2, HT2.out⟩
      case measure => simp [intOf]; omega
    · obtain rfl : j = mn := by omega
      rw [Nat.sub_self] at hT
      have hR := HR.out
      rw [← hT] at hR
      replace hR : (if d.mx < 0 then (match Pp.roundP rec kid cj with | .error e => .error e | .ok c2 => match Pp.layP { Pp.in0 with op := 5, x := (cj.1.length : Int) } c2 with | .error e => .error e | .ok c3 => .ok (Pp.wayP d.lz cj.1.length c3.1.length c3)) else (match Pp.roundsP rec kid (d.mx - (j : Int)).toNat [] cj with | .error e => .error e | .ok (ws, c2) => .ok (Pp.waysP d.lz ws c2))) = R := hR
      have hnl : ¬ ((j : Int) < (j : Int)) := by omega
      obtain ⟨e0, e1, e2, e3, e4, e5, e6, e7, e8, e9, e10⟩ := node_cells (d := { d with mn := (j : Int) }) hnd
      simp only at e0 e1 e2 e3 e4 e5 e6 e7 e8 e9
      by_cases hmx : d.mx < 0
      · rw [if_pos hmx] at hR
        obtain ⟨_, w1, _⟩ := hwr.cells
        obtain ⟨Aj, cpj, rfl⟩ := irow_slice hwr.row
        have hnr : Pp.roundP rec kid cj ≠ .error false := fun e => by rw [e] at hR; exact hne hR.symm
        have HRD := Lib.hid (round_any HREC.out hwr kid d.lz rfl hnr)
        have HP := Lib.hid hpf
        have HR2 := Lib.hid hR
        clear hwr hpf hnd hnc hT hR
        go_wp2_with fail
        refine HRD.out.mono ?_
        intro e w2 hpo
        have hR := HR2.out
        cases h2 : Pp.roundP rec kid cj with
        | error b =>
          rw [h2] at hR hpo
          cases b with
          | false => exact absurd h2 hnr
          | true =>
            subst hR
            obtain ⟨rfl, cv3, hp3⟩ := hpo
            exact ⟨rfl, rfl, cv3, HP.out.trans hp3⟩
        | ok c2 =>
        rw [h2] at hR hpo
        simp only at hR
        have hlen := Pp.roundP_le hle h2
        obtain ⟨cv2, p, q, r, rfl, hw2, hp2, hy2, hpqr⟩ := hpo
        have HL := Lib.hid (lay_any hw2 { Pp.in0 with op := 5, x := (cj.1.length : Int) })
        unfold inV inC at HL
        simp only [Pp.in0] at HL
        have H2 := Lib.hid (And.intro (HP.out.trans hp2) hy2)
        have HR3 := Lib.hid hR
        clear hw2 hp2 hy2 hR HR2 w1 e0 e1 e2 e3 e4 e5 e6 e7 e8 e9 e10 hnr h2
        unfold wayV
        go_wp2_with fail
        refine HL.out.mono ?_
        intro e w3 hpo
        have hR := HR3.out
        simp only [Pp.in0] at hR
        cases h3 : Pp.layP { op := 5, c := 0, s0 := 0, s1 := 0, s2 := 0, s3 := 0, x := (cj.1.length : Int), y := 0 } c2 with
        | error b =>
          rw [h3] at hR hpo
          cases b with
          | false => exact absurd h3 Pp.layP_ne
          | true =>
            subst hR
            obtain ⟨rfl, cv3, hp3⟩ := hpo
            exact ⟨rfl, rfl, cv3, H2.out.1.trans hp3⟩
        | ok c3 =>
        rw [h3] at hR hpo
        simp only at hR
        obtain ⟨cv3, rfl, hw3, hp3⟩ := hpo
        have hl3 : cj.1.length < c3.1.length := by
          rw [(Pp.layP_ok h3).1]
          simp
          omega
        have hy3 := H2.out.2.step hp3
        obtain ⟨_, w1, _⟩ := hw3.cells
        obtain ⟨A3, cp3, rfl⟩ := irow_slice hw3.row
        have HW := Lib.hid (way_any (out := c3.1.length) hw3 hy3 hl3)
        have HP3 := Lib.hid (H2.out.1.trans hp3)
        clear hw3 hp3 hy3 hl3 hlen h3 HR3
        go_wp2_with fail
        refine HW.out.mono ?_
        intro e w4 hpo
        obtain ⟨cv4, rfl, hw4, hp4⟩ := hpo
        subst hR
        have H4 := Lib.hid (And.intro hw4 (HP3.out.trans hp4))
        clear hw4 hp4
        go_wp2
        first | go_end0 | refine bodyPost_ret (results_none rfl _ _ _) rfl ?_
        exact ⟨cv4, rfl, H4.out.1, H4.out.2⟩
      · rw [if_neg hmx] at hR
        obtain ⟨D, hD⟩ : ∃ D, (d.mx - (j : Int)).toNat = D := ⟨_, rfl⟩
        rw [hD] at hR
        have hb1 : d.mx ≤ 1000 := HG.out
        have hb2 : 0 ≤ d.mx := by omega
        have hDle : D ≤ 1000 := by omega
        have HD := Lib.hid hD
        have HR2 := Lib.hid hR
        have hinit : WaysM (w.heap.size + 1) wr Wb cvj d.lz (.slice none 0 0) [] cj.1.length := ⟨⟨rfl, .inl ⟨rfl, rfl⟩⟩, fun b e => by simp [Value.ownBlock] at e, fun y hy => by cases hy⟩
        have HI := Lib.hid (And.intro hwr (And.intro hpf (And.intro hnd (And.intro hnc hinit))))
        obtain ⟨i0, hi0, hz0, hz1, hz2⟩ := info_parts infoFn
        have HINF := Lib.hid (And.intro hi0 (And.intro hz0 (And.intro hz1 hz2)))
        clear hwr hpf hnd hnc hT hR hinit hD hi0 hz0 hz1 hz2
        go_wp2
        clear e0 e1 e2 e3 e4 e5 e6 e7 e8 e9 e10
        rename World => wo
        go_loopw [7, 51] (fun v7 v51 wq => ∃ (i : Nat) (ci : Pp.Cd) (cvi : Value) (wl : List (Nat × Nat × Nat × Nat)), v51 = .int .i64 i ∧ i ≤ D ∧ WrM wq Wb nv cvi L ci ∧ Pf w wq Wb cv cvi ∧ wq.heap[w.heap.size]? = some (.cells #[.int .u8 d.op, .int .u8 d.c, .int .u64 d.s0, .int .u64 d.s1, .int .u64 d.s2, .int .u64 d.s3, .int .i64 (j : Int), .int .i64 d.mx, .bool d.lz, .int .i64 d.n, .slice (some ⟨bk, ok, none⟩) n0 cp0] 35 (0, 0)) ∧ cvi.ownBlock ≠ some w.heap.size ∧ WaysM (w.heap.size + 1) wq Wb cvi d.lz v7 wl ci.1.length ∧ wl.length = i ∧ Pp.roundsP rec kid (D - i) (wl.map Prod.fst) ci = Pp.roundsP rec kid D [] cj) (fun _ v51 _ => D - (intOf v51).toNat)
        case atStart => exact ⟨0, cj, cvj, [], rfl, Nat.zero_le _, HI.out.1, HI.out.2.1, HI.out.2.2.1, HI.out.2.2.2.1, HI.out.2.2.2.2, rfl, rfl⟩
        case round =>
          clear HI
          obtain ⟨i, ci, cvi, wl, rfl, hi, hwr, hpf, hnd, hnc, hws, hwl, hT⟩ := hrel
          by_cases hiD : i < D
          · rw [show D - i = (D - (i + 1)) + 1 by omega] at hT
            replace hT : (match Pp.roundP rec kid ci with | .error e => .error e | .ok c1 => Pp.roundsP rec kid (D - (i + 1)) (wl.map Prod.fst ++ [ci.1.length]) c1) = Pp.roundsP rec kid D [] cj := hT
            have hnr : Pp.roundP rec kid ci ≠ .error false := fun e => by
              rw [e] at hT
              have h9 := HR2.out
              rw [← hT] at h9
              exact hne h9.symm
            obtain ⟨e0, e1, e2, e3, e4, e5, e6, e7, e8, e9, e10⟩ := node_cells (d := { d with mn := (j : Int) }) hnd
            simp only at e0 e1 e2 e3 e4 e5 e6 e7 e8 e9
            obtain ⟨Aw, cw, rfl⟩ := frow_slice hws.row
            have HRD := Lib.hid (round_any HREC.out hwr kid d.lz rfl hnr)
            have HP := Lib.hid (And.intro hpf (And.intro hnd (And.intro hnc (And.intro hws hwl))))
            have HT := Lib.hid hT
            have i2 : (i : Int) < d.mx - (j : Int) := by have := HD.out; omega
            have HWL := Lib.hid hwl
            rw [hwl]
            clear hwr hpf hnd hnc hT hws hwl
            go_wp2_with fail
            refine HRD.out.mono ?_
            intro e w2 hpo
            have hT := HT.out
            cases h2 : Pp.roundP rec kid ci with
            | error b =>
              rw [h2] at hT hpo
              cases b with
              | false => exact absurd h2 hnr
              | true =>
                have h9 := HR2.out
                rw [← hT] at h9
                subst h9
                obtain ⟨rfl, cv3, hp3⟩ := hpo
                exact ⟨rfl, rfl, cv3, HP.out.1.trans hp3⟩
            | ok c2 =>
            rw [h2] at hT hpo
            have hlen := Pp.roundP_le hle h2
            obtain ⟨cv2, p, q, r, rfl, hw2, hp2, hy2, hpqr⟩ := hpo
            have hpf2 := HP.out.1.trans hp2
            have hnd2 := nd_step HP.out.2.1 hp2 HX.out.2.2.2.1 HP.out.2.2.1
            have hnc2 := hp2.new (blk_lt HP.out.2.1) HP.out.2.2.1
            have hws2 := HP.out.2.2.2.1.step hp2 (Nat.le_of_lt hlen)
            have hwv : (Value.slice Aw wl.length cw).ownBlock ≠ some p ∧ (Value.slice Aw wl.length cw).ownBlock ≠ some q ∧ (Value.slice Aw wl.length cw).ownBlock ≠ some r := by
              have hlt := fown_lt HP.out.2.2.2.1.row
              refine ⟨fun e => ?_, fun e => ?_, fun e => ?_⟩ <;> (have := hlt _ e; omega)
            have hal := below_alloc (Below.refl w2.heap.size w2) (.cells #[wayV p q r] 57)
            have hacell := alloc_at w2 (.cells #[wayV p q r] 57)
            have hpa := Pf.below (G := Wb) (v := cv2) hal
            have HA := Lib.hid (And.intro (hw2.far hal) (And.intro (hpf2.trans hpa) (And.intro (nd_step hnd2 hpa HX.out.2.2.2.1 hnc2) (And.intro hnc2 (And.intro (hws2.step hpa (Nat.le_refl _)) (And.intro (hy2.step hpa) (And.intro hwv hacell)))))))
            have hro := (hws2.step hpa (Nat.le_refl _)).row
            rw [HWL.out] at hro
            have HROW := Lib.hid hro
            have hwl2 : i ≤ 1000 := by omega
            have HLN := Lib.hid (And.intro hlen hT)
            clear hw2 hp2 hy2 hpqr hpf2 hnd2 hnc2 hws2 hwv hal hacell hpa hlen hT hnr h2 hro e0 e1 e2 e3 e4 e5 e6 e7 e8 e9 e10
            unfold wayV
            go_wp2_with (at_builtin; refine wpList_append_own_at _ rfl _ _ 97 rfl 0 57 i0 .nilFunc 1 8 Tryz.underlying97 HINF.out.1 HINF.out.2.1 HINF.out.2.2.1 HINF.out.2.2.2 rfl (by decide) (.slice Aw i cw) i (wl.map wayE) rfl HROW.out ⟨w2.heap.size, 0, none⟩ 1 1 [wayV p q r] rfl rfl ?hcell ?hone (by unfold maxLen; omega) (by omega) (by omega) ?_; rotate_left 2; intro v9 w9 hr9 hg9 _ ha9; obtain ⟨A9, q9, hv9⟩ := frow_slice hr9; subst hv9; have HN := Lib.hid (And.intro hr9 (And.intro hg9 ha9)); clear hr9 hg9 ha9)
            case hcell =>
              intro t u hu
              match t, hu with
              | 0, hu =>
                rw [← hu, Addr.add_lit]
                exact blk_cell HA.out.2.2.2.2.2.2.2 0
            case hone =>
              intro u hu
              obtain rfl : u = wayV p q r := by simpa using hu
              rfl
            obtain ⟨a1, a2, a3, a4, a5, a6, a7, a8⟩ := HA.out
            have hg9 : (w2.alloc (.cells #[wayV p q r] 57)).grownBy w9 (Value.slice Aw wl.length cw).ownBlock := by
              rw [HWL.out]
              exact HN.out.2.1
            have hr9 := HN.out.1
            rw [← HWL.out] at hr9
            have hap := a5.app (blk_lt a1.box) (iown_lt a1.row) (by have := blk_lt a3; omega) a6 HLN.out.1 a7 hr9 hg9 (by rw [HWL.out]; exact HN.out.2.2)
            have hot := a1.other HB0.out a2 hg9 fun b e => by
              have := a5.own b e
              exact ⟨by omega, this.2⟩
            have hnb := (hg9.block w.heap.size (blk_lt a3) (fun e => by have := (a5.own _ e.symm).1; omega)).trans a3
            have HZ := Lib.hid (And.intro hap (And.intro hot (And.intro hnb a4)))
            clear a1 a2 a3 a4 a5 a6 a7 a8 hr9 hg9 hap hot hnb
            refine ⟨⟨i + 1, c2, cv2, wl ++ [(ci.1.length, p, q, r)], by go_num, by omega, HZ.out.2.1.1, HZ.out.2.1.2, HZ.out.2.2.1, HZ.out.2.2.2, ?_, by simp [HWL.out], ?_⟩, ?_⟩
            · rw [← HWL.out]
              exact HZ.out.1
            · rw [List.map_append]
              exact HLN.out.2
            · simp [intOf]; omega
          · obtain rfl : i = D := by omega
            rw [Nat.sub_self] at hT
            have hR := HR2.out
            rw [← hT] at hR
            replace hR : (.ok (Pp.waysP d.lz (wl.map Prod.fst) ci) : Pp.Er Pp.Cd) = R := hR
            subst hR
            have i3 : ¬ ((i : Int) < d.mx - (j : Int)) := by have := HD.out; omega
            obtain ⟨Aw, cw, rfl⟩ := frow_slice hws.row
            have HQ := Lib.hid (And.intro hwr (And.intro hpf hws))
            have HWL := Lib.hid hwl
            rw [hwl]
            clear hwr hpf hnd hnc hT hws hwl
            go_wp2
            rename World => wo2
            go_loopw [64] (fun v64 wz => ∃ (t : Nat) (ct : Pp.Cd) (cvt : Value), v64 = .int .i64 t ∧ t ≤ i ∧ WrM wz Wb nv cvt L ct ∧ Pf w wz Wb cv cvt ∧ WaysM (w.heap.size + 1) wz Wb cvt d.lz (.slice Aw wl.length cw) wl ct.1.length ∧ Pp.waysP d.lz ((wl.map Prod.fst).drop t) ct = Pp.waysP d.lz (wl.map Prod.fst) ci) (fun v64 _ => i - (intOf v64).toNat)
            case atStart => exact ⟨0, ci, cvi, rfl, Nat.zero_le _, HQ.out.1, HQ.out.2.1, HQ.out.2.2, rfl⟩
            case round =>
              clear HQ
              rename World => wz
              obtain ⟨t, ct, cvt, rfl, ht, hwr, hpf, hws, hT⟩ := hrel
              by_cases hti : t < i
              · obtain ⟨y, hy⟩ : ∃ y, wl[t]? = some y := ⟨_, List.getElem?_eq_getElem (by rw [HWL.out]; exact hti)⟩
                have hdrop : (wl.map Prod.fst).drop t = y.1 :: (wl.map Prod.fst).drop (t + 1) := by
                  obtain ⟨h1, h2⟩ := List.getElem?_eq_some_iff.1 hy
                  rw [List.drop_eq_getElem_cons (by simpa using h1), List.getElem_map, h2]
                rw [hdrop] at hT
                replace hT : Pp.waysP d.lz ((wl.map Prod.fst).drop (t + 1)) (Pp.wayP d.lz y.1 ct.1.length ct) = Pp.waysP d.lz (wl.map Prod.fst) ci := hT
                have hgy := hws.each y (List.mem_of_getElem? hy)
                obtain ⟨_, w1, _⟩ := hwr.cells
                obtain ⟨Ac, cc, rfl⟩ := irow_slice hwr.row
                have hcy : ∃ gw, Aw = some ⟨gw, 0, none⟩ ∧ i ≤ cw ∧ wz.cell? ⟨gw, t, none⟩ = some (wayE y) := by
                  rcases hws.row.2 with ⟨e, h0⟩ | ⟨gw, cap, cur, e, _, hg, hcap, _, _, htk⟩
                  · have := HWL.out; omega
                  · injection e with e1 e2 e3
                    subst e1 e3
                    refine ⟨gw, rfl, by have := HWL.out; omega, ?_⟩
                    rw [blk_cell hg]
                    have h9 : (wl.map wayE)[t]? = some (wayE y) := by rw [List.getElem?_map, hy]; rfl
                    rw [← htk, List.getElem?_take_of_lt (by have := HWL.out; omega)] at h9
                    simpa using h9
                obtain ⟨gw, rfl, hcw, cy⟩ := hcy
                obtain ⟨yk, yp, yq, yr⟩ := y
                have HW := Lib.hid (way_any (out := ct.1.length) hwr hgy.1 hgy.2.1)
                have HP := Lib.hid (And.intro hpf (And.intro hws hT))
                have i1 : (0 : Int) ≤ (t : Int) := by omega
                have i2 : (t : Int) < (i : Int) := by omega
                unfold wayE wayV at cy
                simp only at cy
                clear hwr hpf hws hT hy hdrop hgy
                go_wp2_with fail
                refine HW.out.mono ?_
                intro e w4 hpo
                obtain ⟨cv4, rfl, hw4, hp4⟩ := hpo
                have hl4 : (Pp.wayP d.lz yk ct.1.length ct).1.length = ct.1.length := by simp [Pp.wayP]
                have H4 := Lib.hid (And.intro hw4 (And.intro (HP.out.1.trans hp4) (And.intro (HP.out.2.1.step hp4 (Nat.le_of_eq hl4.symm)) HP.out.2.2)))
                clear hw4 hp4 hl4
                go_wp2
                go_roundw
                case rel => exact ⟨t + 1, _, cv4, by go_num, by omega, H4.out.1, H4.out.2.1, H4.out.2.2.1, H4.out.2.2.2⟩
                case measure => simp [intOf]; omega
              · obtain rfl : t = i := by omega
                rw [List.drop_of_length_le (by rw [List.length_map, HWL.out]; exact Nat.le_refl _)] at hT
                replace hT : ct = Pp.waysP d.lz (wl.map Prod.fst) ci := hT
                rw [← hT]
                have HZ := Lib.hid (And.intro hwr hpf)
                clear hwr hpf hws hT
                go_wp2
                first | go_end0 | refine bodyPost_ret (results_none rfl _ _ _) rfl ?_
                exact ⟨cvt, rfl, HZ.out.1, HZ.out.2⟩
end
end Go.Proofs.YtjdlbejmdjcajaaGreat
