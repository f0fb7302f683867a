/- prog: split and its way out: walked. -/
import Derived.Test.YtjdlbejmdjcajaaGreatPcB
set_option linter.unusedVariables false
set_option linter.unusedSimpArgs false
namespace Go.Proofs.YtjdlbejmdjcajaaGreat
open Go.RowKit Go.Shelf Go.Maps Go.Proofs.YtjdlbejmdjcajaaGreatW.PrintWords Go.Proofs.YtjdlbejmdjcajaaGreatW.PrintLast

theorem flat_in : ∀ (l : List Pp.In) (k i : Nat) (u : Value) (f : Pp.In → Pp.In), i < 8 → (∀ d, (inC d).set i u = inC (f d)) → (l.flatMap inC).set (k * 8 + i) u = (l.modify k f).flatMap inC
  | [], k, i, u, f, hi, hf => by simp
  | d :: l, 0, i, u, f, hi, hf => by
    have hl : (inC d).length = 8 := rfl
    rw [List.modify_cons, if_pos rfl, List.flatMap_cons, List.flatMap_cons, Nat.zero_mul, Nat.zero_add, List.set_append, hl, if_pos hi, hf]
  | d :: l, k + 1, i, u, f, hi, hf => by
    have hl : (inC d).length = 8 := rfl
    rw [List.modify_cons, if_neg (by omega), List.flatMap_cons, List.flatMap_cons, List.set_append, hl, if_neg (by omega), show (k + 1) * 8 + i - 8 = k * 8 + i by omega, Nat.add_sub_cancel, flat_in l k i u f hi hf]
theorem flat_inC : ∀ (L : List Pp.In) (j : Nat) (x : Pp.In), L[j]? = some x → ∀ (i : Nat) (u : Value), (inC x)[i]? = some u → (L.flatMap inC)[j * 8 + i]? = some u
  | [], j, x, h, _, _, _ => by simp at h
  | y :: L, 0, x, h, i, u, hu => by
    obtain rfl : y = x := by simpa using h
    have hi : i < (inC y).length := (List.getElem?_eq_some_iff.1 hu).1
    rw [List.flatMap_cons, Nat.zero_mul, Nat.zero_add, List.getElem?_append_left hi]
    exact hu
  | y :: L, j + 1, x, h, i, u, hu => by
    have h1 : L[j]? = some x := by simpa using h
    have h2 := flat_inC L j x h1 i u hu
    have hl : (inC y).length = 8 := rfl
    rw [List.flatMap_cons, List.getElem?_append_right (by rw [hl]; omega), hl]
    rw [show (j + 1) * 8 + i - 8 = j * 8 + i by omega]
    exact h2
theorem mod2 {α : Type} (f g : α → α) : ∀ (l : List α) (k : Nat), (l.modify k f).modify k g = l.modify k fun a => g (f a)
  | [], k => by simp
  | a :: l, 0 => by simp [List.modify_cons]
  | a :: l, k + 1 => by simp [List.modify_cons, mod2 f g l k]
section
variable {w w' : World} {Wb g n cp : Nat} {nv cv : Value} {L : List Pp.Nk} {c : Pp.Cd}
/-- the row is there, one instruction's cells -/
theorem WrM.at (h : WrM w Wb nv cv L c) {k : Nat} (hk : k < c.1.length) : ∃ g cp x, cv = .slice (some ⟨g, 0, none⟩) c.1.length cp ∧ c.1.length ≤ cp ∧ g < w.heap.size ∧ g ≠ Wb ∧ c.1[k]? = some x ∧ (∀ i, w.frozen? ⟨g, i, none⟩ = false) ∧ ∀ (i : Nat) (u : Value), (inC x)[i]? = some u → w.cell? ⟨g, k * 8 + i, none⟩ = some u := by
  have hrow := h.row
  rcases hrow.2 with ⟨e, h0⟩ | ⟨g, cap, cur, e, _, hg, hcap, hmx, hsz, htk⟩
  · omega
  · refine ⟨g, cap, c.1[k], e, hcap, blk_lt hg, fun e2 => h.ne (by rw [e, ← e2]; rfl), List.getElem?_eq_getElem hk, fun i => blk_frozen hg i, fun i u hu => ?_⟩
    rw [blk_cell hg]
    have h9 := flat_inC c.1 k _ (List.getElem?_eq_getElem hk) i u hu
    have hil : i < 8 := (List.getElem?_eq_some_iff.1 hu).1
    rw [← htk, List.getElem?_take_of_lt (by omega)] at h9
    simpa using h9
/-- a cell of the code is written -/
theorem WrM.put (h : WrM w Wb nv (.slice (some ⟨g, 0, none⟩) n cp) L c) (k i : Nat) (u : Value) (f : Pp.In → Pp.In) (hi : i < 8) (hf : ∀ d, (inC d).set i u = inC (f d)) : WrM (w.setCell ⟨g, k * 8 + i, none⟩ u) Wb nv (.slice (some ⟨g, 0, none⟩) n cp) L (c.1.modify k f, c.2) := by
  have hne : Wb ≠ g := fun e => h.ne (by rw [e]; rfl)
  have hn : c.1.length = n := by
    rcases h.row.2 with ⟨e, _⟩ | ⟨g', cap, cur, e, _⟩
    · cases e
    · injection e with _ e2 _
      exact e2.symm
  have hr := h.row
  rw [hn] at hr
  have h9 := (hr.stored (k * 8 + i) u).1
  rw [flat_in c.1 k i u f hi hf] at h9
  refine ⟨(Below.heap_setCell w ⟨g, k * 8 + i, none⟩ u Wb hne).trans h.box, by rw [List.length_modify, hn]; exact h9, h.ne, h.ns.step (by simp [World.setCell]) fun b hF _ => ⟨Below.heap_setCell w ⟨g, k * 8 + i, none⟩ u b (fun e => hF.2 (by rw [e]; rfl)), hF⟩, by rw [List.length_modify]; exact h.le, by rw [List.length_modify]; exact h.rle⟩
theorem Pf.put {w0 : World} {v0 : Value} (h : Pf w0 w Wb v0 (.slice (some ⟨g, 0, none⟩) n cp)) (i : Nat) (u : Value) : Pf w0 (w.setCell ⟨g, i, none⟩ u) Wb v0 (.slice (some ⟨g, 0, none⟩) n cp) :=
  ⟨h.os, h.tape, h.output, by simpa [World.setCell] using h.size, fun b hb hne hv => (Below.heap_setCell w ⟨g, i, none⟩ u b (fun e => by
    rcases h.own g rfl with h9 | h9
    · exact hv (by rw [e]; exact h9)
    · have : b = g := e
      omega)).trans (h.block b hb hne hv), h.own⟩
/-- a way out, as it was handed back -/
structure WayM (w : World) (Wb : Nat) (cv : Value) (lz : Bool) (k : Nat) (p q r : Nat) : Prop where
  fp : w.cell? ⟨p, 0, none⟩ = some (.pointer (some ⟨Wb, 0, none⟩))
  fq : w.cell? ⟨q, 0, none⟩ = some (.int .i64 (k : Int))
  fr : w.cell? ⟨r, 0, none⟩ = some (.bool lz)
  lt : p < w.heap.size ∧ q < w.heap.size ∧ r < w.heap.size
  nW : p ≠ Wb ∧ q ≠ Wb ∧ r ≠ Wb
  nc : cv.ownBlock ≠ some p ∧ cv.ownBlock ≠ some q ∧ cv.ownBlock ≠ some r
def wayV (p q r : Nat) : Value := .func (.func 59) #[] #[.pointer (some ⟨p, 0, none⟩), .pointer (some ⟨q, 0, none⟩), .pointer (some ⟨r, 0, none⟩)]
theorem WayM.step {lz : Bool} {k p q r : Nat} {cv' : Value} (h : WayM w Wb cv lz k p q r) (hp : Pf w w' Wb cv cv') : WayM w' Wb cv' lz k p q r := by
  have key : ∀ b, b < w.heap.size → cv.ownBlock ≠ some b → cv'.ownBlock ≠ some b := fun b hb hne e => by
    rcases hp.own b e with h9 | h9
    · exact hne h9
    · omega
  exact ⟨(World.cell?_of_block (a := ⟨p, 0, none⟩) (hp.block p h.lt.1 h.nW.1 h.nc.1)).trans h.fp, (World.cell?_of_block (a := ⟨q, 0, none⟩) (hp.block q h.lt.2.1 h.nW.2.1 h.nc.2.1)).trans h.fq, (World.cell?_of_block (a := ⟨r, 0, none⟩) (hp.block r h.lt.2.2 h.nW.2.2 h.nc.2.2)).trans h.fr,
    ⟨Nat.lt_of_lt_of_le h.lt.1 hp.size, Nat.lt_of_lt_of_le h.lt.2.1 hp.size, Nat.lt_of_lt_of_le h.lt.2.2 hp.size⟩, h.nW, ⟨key p h.lt.1 h.nc.1, key q h.lt.2.1 h.nc.2.1, key r h.lt.2.2 h.nc.2.2⟩⟩
set_option maxRecDepth 100000 in
set_option maxHeartbeats 4000000 in
theorem way_any {lz : Bool} {k p q r out : Nat} (h : WrM w Wb nv cv L c) (hy : WayM w Wb cv lz k p q r) (hk : k < c.1.length) :
    Calls Tryz.prog 59 #[.int .i64 (out : Int), .pointer (some ⟨p, 0, none⟩), .pointer (some ⟨q, 0, none⟩), .pointer (some ⟨r, 0, none⟩)] w (WPost (.tuple #[]) w Wb nv cv L (.ok (Pp.wayP lz k out c))) := by
  obtain ⟨g, cp, x, rfl, hcp, hg, hgW, hx, hfz, hcell⟩ := h.at hk
  obtain ⟨_, c1, _⟩ := h.cells
  have x6 := hcell 6 _ rfl
  have x7 := hcell 7 _ rfl
  have hkl := h.le
  have hn1 : g ≠ p := fun e => hy.nc.1 (by rw [← e]; rfl)
  have hn2 : g ≠ q := fun e => hy.nc.2.1 (by rw [← e]; rfl)
  have hn3 : g ≠ r := fun e => hy.nc.2.2 (by rw [← e]; rfl)
  have fp := hy.fp
  have fq := hy.fq
  have fr := hy.fr
  have iw1 : IntKind.i64.wrap ((k : Int) + 1) = (k : Int) + 1 := by rw [IntKind.wrap_i64]; omega
  have i1 : (0 : Int) ≤ (k : Int) := by omega
  have i2 : (k : Int) < (c.1.length : Int) := by omega
  have HH := Lib.hid h
  obtain ⟨n, hn⟩ : ∃ n, c.1.length = n := ⟨_, rfl⟩
  rw [hn] at c1 i2 HH hcp ⊢
  have h1 := (HH.out.put k 6 (.int .i64 ((k : Int) + 1)) (fun d => { d with x := (k : Int) + 1 }) (by decide) fun d => rfl)
  have h2 := (h1.put k 7 (.int .i64 (out : Int)) (fun d => { d with y := (out : Int) }) (by decide) fun d => rfl)
  have hp2 := ((Pf.refl w Wb (.slice (some ⟨g, 0, none⟩) n cp)).put (k * 8 + 6) (.int .i64 ((k : Int) + 1))).put (k * 8 + 7) (.int .i64 (out : Int))
  have hk2 : k < ((c.1.modify k fun d => { d with x := (k : Int) + 1 }).modify k fun d => { d with y := (out : Int) }).length := by simpa using hk
  have hat := h2.at hk2
  rw [mod2] at h2 hk2 hat
  obtain ⟨g', cp', x', hv', u1, u2, u3, hx', hfz', hcell'⟩ := hat
  clear u1 u2 u3
  injection hv' with e1 e2 e3
  injection e1 with e1
  injection e1 with e4 _ _
  subst e4 e3
  clear e2
  have hxx : x' = { x with x := (k : Int) + 1, y := (out : Int) } := by
    rw [List.getElem?_modify_eq, hx] at hx'
    exact (Option.some.inj hx').symm
  subst hxx
  have y6 := hcell' 6 _ rfl
  have y7 := hcell' 7 _ rfl
  cases lz with
  | false =>
    have H2 := Lib.hid (And.intro h2 hp2)
    clear h hy hk hx hcell hkl h1 h2 hp2 hcell' hfz' hk2 hx' y6 y7
    go_enter Tryz.func59, Tryz.ntmps59
    go_wp2
    go_region
    go_wp2
    first | go_end0 | refine bodyPost_ret (results_none rfl _ _ _) rfl ?_
    exact ⟨_, rfl, H2.out.1.far (Below.refl _ _).drew, H2.out.2.trans (Pf.below (Below.refl _ _).drew)⟩
  | true =>
    have h3 := (h2.put k 6 (.int .i64 (out : Int)) (fun d => { d with x := (out : Int) }) (by decide) fun d => rfl)
    have h4 := (h3.put k 7 (.int .i64 ((k : Int) + 1)) (fun d => { d with y := (k : Int) + 1 }) (by decide) fun d => rfl)
    have hp4 := (hp2.put (k * 8 + 6) (.int .i64 (out : Int))).put (k * 8 + 7) (.int .i64 ((k : Int) + 1))
    rw [mod2, mod2] at h4
    have H4 := Lib.hid (And.intro h4 hp4)
    clear h hy hk hx hcell hkl h1 h2 hp2 hcell' hk2 hx' h3 h4 hp4
    go_enter Tryz.func59, Tryz.ntmps59
    go_wp2
    go_region
    go_wp2
    go_region
    go_wp2
    first | go_end0 | refine bodyPost_ret (results_none rfl _ _ _) rfl ?_
    exact ⟨_, rfl, H4.out.1.far (Below.refl _ _).drew.drew, H4.out.2.trans (Pf.below (Below.refl _ _).drew.drew)⟩
/-- what split hands back -/
def SpPost (lz : Bool) (k : Nat) (w : World) (Wb : Nat) (nv cv : Value) (L : List Pp.Nk) : Pp.Er Pp.Cd → Ending → World → Prop
  | .ok c', e, w' => ∃ cv' p q r, e = .returned (wayV p q r) ∧ WrM w' Wb nv cv' L c' ∧ Pf w w' Wb cv cv' ∧ WayM w' Wb cv' lz k p q r ∧ (w.heap.size ≤ p ∧ w.heap.size ≤ q ∧ w.heap.size ≤ r)
  | .error true, e, w' => e = .panicked longP ∧ ∃ cv', Pf w w' Wb cv cv'
  | .error false, _, _ => True
theorem two_allocs (w : World) (o1 o2 : Obj) : ∃ X, (w.alloc o1).alloc o2 = X ∧ X.heap[w.heap.size]? = some o1 ∧ X.heap[w.heap.size + 1]? = some o2 ∧ Below w.heap.size w X := by
  have sz : ∀ (W : World) o, (W.alloc o).heap.size = W.heap.size + 1 := fun W o => by simp
  have kp : ∀ (W : World) o b, b < W.heap.size → (W.alloc o).heap[b]? = W.heap[b]? := fun W o b hb => (below_alloc (Below.refl W.heap.size W) o).block b hb
  have a1 := alloc_at w o1
  have a2 := alloc_at (w.alloc o1) o2
  simp only [sz] at a2
  exact ⟨_, rfl, by rw [kp _ _ _ (by simp only [sz]; omega)]; exact a1, a2, below_alloc (below_alloc (Below.refl _ _) _) _⟩
set_option maxRecDepth 100000 in
set_option maxHeartbeats 4000000 in
theorem split_any (h : WrM w Wb nv cv L c) (lz : Bool) :
    Calls Tryz.prog 43 #[.pointer (some ⟨Wb, 0, none⟩), .bool lz] w (SpPost lz c.1.length w Wb nv cv L (Pp.layP { Pp.in0 with op := 4 } c)) := by
  obtain ⟨X, hX, x1, x2, xb⟩ := two_allocs w (.cells #[.pointer (some ⟨Wb, 0, none⟩)] 54) (.cells #[.bool lz] 4)
  have hXw := h.far xb
  have HL := Lib.hid (lay_any hXw { Pp.in0 with op := 4 })
  have hWl := blk_lt h.box
  have hol := iown_lt h.row
  have hmf : ∀ (fn : Fn) (first cap : Array Value) (w : World), (Instr.makeFunc fn first cap).run Tryz.prog w = .ok (.func fn first cap) w := fun _ _ _ _ => rfl
  unfold inV inC at HL
  simp only [Pp.in0] at HL
  have HX := Lib.hid (And.intro x1 (And.intro x2 xb))
  have HH := Lib.hid h
  have d0 : X.cell? ⟨w.heap.size, 0, none⟩ = some (.pointer (some ⟨Wb, 0, none⟩)) := by
    rw [blk_cell x1]; rfl
  clear h hXw x1 x2 xb
  go_enter Tryz.func43, Tryz.ntmps43
  go_wp2_with fail
  clear d0
  refine HL.out.mono ?_
  intro e w2 hpo
  cases hlp : Pp.layP { Pp.in0 with op := 4 } c with
  | error b =>
    cases b with
    | false => unfold Pp.layP at hlp; split at hlp <;> cases hlp
    | true =>
      simp only [Pp.in0] at hlp
      rw [hlp] at hpo
      obtain ⟨rfl, cv2, hp2⟩ := hpo
      exact ⟨rfl, rfl, cv2, (Pf.below HX.out.2.2).trans hp2⟩
  | ok c2 =>
    have hlp2 := hlp
    simp only [Pp.in0] at hlp2
    rw [hlp2] at hpo
    obtain ⟨cv2, rfl, hw2, hp2⟩ := hpo
    have y1 := (hp2.block w.heap.size (blk_lt HX.out.1) (by omega) (fun e => by have := hol _ e; omega)).trans HX.out.1
    have y2 := (hp2.block (w.heap.size + 1) (blk_lt HX.out.2.1) (by omega) (fun e => by have := hol _ e; omega)).trans HX.out.2.1
    have hb2 := below_alloc (Below.refl w2.heap.size w2) (.cells #[.int .i64 (c.1.length : Int)] 3)
    have hw3 := hw2.far hb2
    have hq := alloc_at w2 (.cells #[.int .i64 (c.1.length : Int)] 3)
    have z1 := (hb2.block _ (blk_lt y1)).trans y1
    have z2 := (hb2.block _ (blk_lt y2)).trans y2
    have hol2 := iown_lt hw2.row
    have hs2 : w.heap.size + 1 < w2.heap.size := blk_lt y2
    have hs3 : w2.heap.size < (w2.alloc (.cells #[.int .i64 (c.1.length : Int)] 3)).heap.size := blk_lt hq
    have hown : ∀ b, w.heap.size ≤ b → b < w.heap.size + 2 → cv2.ownBlock ≠ some b := fun b h1 h2 e => by
      rcases hp2.own b e with h9 | h9
      · have := hol b h9; omega
      · have h8 : X.heap.size = w.heap.size + 2 := by
          rw [← hX]; simp
        omega
    have hfin : SpPost lz c.1.length w Wb nv cv L (.ok c2) (.returned (wayV w.heap.size w2.heap.size (w.heap.size + 1))) (w2.alloc (.cells #[.int .i64 (c.1.length : Int)] 3)) :=
      ⟨cv2, w.heap.size, w2.heap.size, w.heap.size + 1, rfl, hw3, ((Pf.below HX.out.2.2).trans hp2).trans (Pf.below hb2), ⟨by rw [blk_cell z1]; rfl, by rw [blk_cell hq]; rfl, by rw [blk_cell z2]; rfl, ⟨by omega, hs3, by omega⟩, ⟨by omega, by omega, by omega⟩, ⟨hown _ (Nat.le_refl _) (by omega), fun e => by have := hol2 _ e; omega, hown _ (by omega) (by omega)⟩⟩, by omega, by omega, by omega⟩
    have HF := Lib.hid hfin
    clear hw2 hp2 y1 y2 hX hb2 hw3 hq z1 z2 hol2 hs2 hs3 hown hfin hlp2
    go_wp2
    go_ret
    show SpPost lz c.1.length w Wb nv cv L (Pp.layP { Pp.in0 with op := 4 } c) _ _
    rw [hlp]
    exact HF.out
end
end Go.Proofs.YtjdlbejmdjcajaaGreat
