/- prog: Compile: walked. -/
import Derived.Test.YtjdlbejmdjcajaaGreatPcH
set_option linter.unusedVariables false
set_option linter.unusedSimpArgs false
namespace Go.Proofs.YtjdlbejmdjcajaaGreat
open Go.RowKit Go.Shelf Go.Maps Go.Proofs.YtjdlbejmdjcajaaGreatW.PrintWords Go.Proofs.YtjdlbejmdjcajaaGreatW.PrintLast

/-- instructions, to be read -/
def CodeM (w : World) (F : Nat → Prop) (v : Value) (l : List Pp.In) : Prop :=
  ∃ A c, v = .slice A l.length c ∧ l.length ≤ c ∧ c ≤ maxLen ∧ (0 < l.length → ∃ b o, A = some ⟨b, o, none⟩ ∧ F b ∧ b < w.heap.size ∧ ∀ (j : Nat) (x : Pp.In), l[j]? = some x → ∀ (i : Nat) (u : Value), (inC x)[i]? = some u → w.cell? ⟨b, o + j * 8 + i, none⟩ = some u)
theorem CodeM.step {w w' : World} {F F' : Nat → Prop} {v : Value} {l : List Pp.In} (h : CodeM w F v l) (hs : w.heap.size ≤ w'.heap.size) (hb : ∀ b, F b → b < w.heap.size → w'.heap[b]? = w.heap[b]? ∧ F' b) : CodeM w' F' v l := by
  obtain ⟨A, c, h1, h2, h3, h4⟩ := h
  refine ⟨A, c, h1, h2, h3, fun h0 => ?_⟩
  obtain ⟨b, o, e, hF, hl, hc⟩ := h4 h0
  exact ⟨b, o, e, (hb b hF hl).2, Nat.lt_of_lt_of_le hl hs, fun j x hj i u hu => (World.cell?_of_block (a := ⟨b, o + j * 8 + i, none⟩) (hb b hF hl).1).trans (hc j x hj i u hu)⟩
theorem WrM.code {w : World} {Wb : Nat} {nv : Value} {A : Option Addr} {n cp : Nat} {L : List Pp.Nk} {c : Pp.Cd} (h : WrM w Wb nv (.slice A n cp) L c) {F : Nat → Prop} (hF : ∀ b, (Value.slice A n cp).ownBlock = some b → F b) : CodeM w F (.slice A n n) c.1 := by
  rcases h.row.2 with ⟨e, h0⟩ | ⟨g, cap, cur, e, _, hg, hcap, hmx, hsz, htk⟩
  · injection e with e1 e2 e3
    subst e1 e2
    exact ⟨none, 0, by rw [h0], by omega, by decide, fun h1 => by omega⟩
  · injection e with e1 e2 e3
    subst e1 e2 e3
    refine ⟨_, c.1.length, rfl, Nat.le_refl _, by omega, fun h1 => ⟨g, 0, rfl, hF g rfl, blk_lt hg, fun j x hj i u hu => ?_⟩⟩
    rw [blk_cell hg]
    have h9 := flat_inC c.1 j x hj i u hu
    have hjl : j < c.1.length := (List.getElem?_eq_some_iff.1 hj).1
    have hil : i < 8 := (List.getElem?_eq_some_iff.1 hu).1
    rw [← htk, List.getElem?_take_of_lt (by omega)] at h9
    simpa using h9
theorem iclip_any (A : Option Addr) (n c : Nat) (hc : n ≤ c) (w : World) : Calls Tryz.prog 20 #[.slice A n c] w fun e w' => e = .returned (.slice A n n) ∧ w' = w := by
  go_enter Tryz.func20, Tryz.ntmps20
  go_wp2
  go_ret
  exact ⟨rfl, rfl⟩
theorem three_allocs2 (w : World) (o1 o2 o3 : Obj) : ∃ X, ((w.alloc o1).alloc o2).alloc o3 = X ∧ X.heap[w.heap.size]? = some o1 ∧ X.heap[w.heap.size + 1]? = some o2 ∧ X.heap[w.heap.size + 1 + 1]? = some o3 ∧ Below w.heap.size w X ∧ X.heap.size = w.heap.size + 1 + 1 + 1 := by
  obtain ⟨X, hX, h1, h2, h3, h4⟩ := three_allocs w o1 o2 o3
  subst hX
  exact ⟨_, rfl, h1, h2, h3, ⟨h4.os, h4.tape, h4.output, h4.size, h4.block⟩, by simp⟩
def foldP (cs : Int) (fold : Bool) : Bool := if cs = 0 then fold else decide (cs = 1)
/-- what Compile hands back -/
def CompPost (w : World) (cs : Int) (fold : Bool) : Pp.Er Pp.Cd → Ending → World → Prop
  | .ok c, e, w' => ∃ cvv, e = .returned (.tuple #[.agg #[cvv, .int .i64 (c.2 : Int), .bool (foldP cs fold)], .int .u16 0]) ∧ Below w.heap.size w w' ∧ CodeM w' (fun b => w.heap.size ≤ b) cvv c.1
  | .error true, e, w' => e = .returned (.tuple #[.agg #[.slice none 0 0, .int .i64 0, .bool false], .int .u16 33]) ∧ Below w.heap.size w w'
  | .error false, _, _ => True
set_option maxHeartbeats 1000000 in
theorem catch_mem {w w2 : World} {P E N : Nat} {a0 a1 a2 b0 : Value} {T1 T2 : TypeId} (hP : w2.heap[P]? = some (.cells #[a0, a1, a2] T1 (0, 0))) (hE : w2.heap[E]? = some (.cells #[b0] T2 (0, 0))) (hPE : P ≠ E) (hb : Below N w w2) (h1 : N ≤ P) (h2 : N ≤ E) (h3 : N ≤ w2.heap.size) :
    ∃ W, (((((w2.alloc (.cells #[] 53)).setCell ⟨P, 0, none⟩ (.slice none 0 0)).setCell ⟨P, 1, none⟩ (.int .i64 0)).setCell ⟨P, 2, none⟩ (.bool false)).setCell ⟨E, 0, none⟩ (.int .u16 33)) = W ∧ Below N w W ∧ W.cell? ⟨P, 0, none⟩ = some (.slice none 0 0) ∧ W.cell? ⟨P, 1, none⟩ = some (.int .i64 0) ∧ W.cell? ⟨P, 2, none⟩ = some (.bool false) ∧ W.cell? ⟨E, 0, none⟩ = some (.int .u16 33) := by
  have hal := below_alloc (Below.refl w2.heap.size w2) (.cells #[] 53)
  have hP2 := (hal.block P (blk_lt hP)).trans hP
  have hE2 := (hal.block E (blk_lt hE)).trans hE
  have g1 := blk_set (blk_set (blk_set hP2 0 (.slice none 0 0)) 1 (.int .i64 0)) 2 (.bool false)
  have g1' : (((((w2.alloc (.cells #[] 53)).setCell ⟨P, 0, none⟩ (.slice none 0 0)).setCell ⟨P, 1, none⟩ (.int .i64 0)).setCell ⟨P, 2, none⟩ (.bool false)).setCell ⟨E, 0, none⟩ (.int .u16 33)).heap[P]? = _ := (Below.heap_setCell _ ⟨E, 0, none⟩ _ P hPE).trans g1
  have g2 : (((((w2.alloc (.cells #[] 53)).setCell ⟨P, 0, none⟩ (.slice none 0 0)).setCell ⟨P, 1, none⟩ (.int .i64 0)).setCell ⟨P, 2, none⟩ (.bool false)).setCell ⟨E, 0, none⟩ (.int .u16 33)).heap[E]? = _ := blk_set ((Below.heap_setCell _ ⟨P, 2, none⟩ _ E (fun e => hPE e.symm)).trans ((Below.heap_setCell _ ⟨P, 1, none⟩ _ E (fun e => hPE e.symm)).trans ((Below.heap_setCell _ ⟨P, 0, none⟩ _ E (fun e => hPE e.symm)).trans hE2))) 0 (.int .u16 33)
  refine ⟨_, rfl, ?_, ?_, ?_, ?_, ?_⟩
  · exact (((((hb.trans (hal.mono h3)).setCell (p := ⟨P, 0, none⟩) h1 _).setCell (p := ⟨P, 1, none⟩) h1 _).setCell (p := ⟨P, 2, none⟩) h1 _).setCell (p := ⟨E, 0, none⟩) h2 _)
  · rw [blk_cell g1']; rfl
  · rw [blk_cell g1']; rfl
  · rw [blk_cell g1']; rfl
  · rw [blk_cell g2]; rfl
/-- the door where too many were laid -/
theorem comp_door {w w2 : World} {cs : Int} {fold : Bool} {tmps : Array Value} (hP : w2.heap[w.heap.size + 1]? = some (.cells #[.slice none 0 0, .int .i64 0, .bool false] 24 (0, 0))) (hE : w2.heap[w.heap.size + 1 + 1]? = some (.cells #[.int .u16 0] 37 (0, 0))) (hb : Below w.heap.size w w2) (t4 : tmps[4]?.getD undef = .pointer (some ⟨w.heap.size + 1, 0, none⟩)) (t5 : tmps[5]?.getD undef = .pointer (some ⟨w.heap.size + 1 + 1, 0, none⟩)) :
    Leaves Tryz.prog Tryz.f8 tmps (CompPost w cs fold (.error true)) [{ target := Target.fn (Fn.func 17) #[.pointer (some ⟨w.heap.size + 1, 0, none⟩), .pointer (some ⟨w.heap.size + 1 + 1, 0, none⟩)], args := #[] }] (.panicking longP) w2 := by
  refine leaves_cons (f := 17) (args := #[.pointer (some ⟨w.heap.size + 1, 0, none⟩), .pointer (some ⟨w.heap.size + 1 + 1, 0, none⟩)]) (by simp) (by simp [go_sem]) ?_
  refine (comp_catch _ _ w2 hP hE (by omega)).mono ?_
  rintro e u' w'' ⟨rfl, rfl, rfl⟩
  obtain ⟨W, hW, hbW, z0, z1, z2, z3⟩ := catch_mem hP hE (by omega) hb (by omega) (by omega) hb.size
  rw [hW]
  refine ⟨.tuple #[.agg #[.slice none 0 0, .int .i64 0, .bool false], .int .u16 33], ?_, rfl, hbW⟩
  simp [results, Tryz.results8, go_sem, z0, z1, z2, z3, t4, t5]
theorem sfar3d {w : World} {B b i : Nat} {x0 x1 x2 y : Value} (h : w.cell? ⟨b, i, none⟩ = some y) (hne : b ≠ B) : (((w.setCell ⟨B, 0, none⟩ x0).setCell ⟨B, 1, none⟩ x1).setCell ⟨B, 2, none⟩ x2).drew.cell? ⟨b, i, none⟩ = some y := sfar (sfar (sfar h hne) hne) hne
theorem sfar4d {w : World} {B E b i : Nat} {x0 x1 x2 x3 y : Value} (h : w.cell? ⟨b, i, none⟩ = some y) (hne : b ≠ B) (hnE : b ≠ E) : ((((w.setCell ⟨B, 0, none⟩ x0).setCell ⟨B, 1, none⟩ x1).setCell ⟨B, 2, none⟩ x2).setCell ⟨E, 0, none⟩ x3).drew.cell? ⟨b, i, none⟩ = some y := sfar (sfar (sfar (sfar h hne) hne) hne) hnE
set_option maxHeartbeats 1000000 in
theorem comp_mem {w w3 : World} {P E N : Nat} {a0 a1 a2 b0 : Value} {T1 T2 : TypeId} (x0 x1 x2 y : Value) (hP : w3.heap[P]? = some (.cells #[a0, a1, a2] T1 (0, 0))) (hE : w3.heap[E]? = some (.cells #[b0] T2 (0, 0))) (hPE : P ≠ E) (hb : Below N w w3) (h1 : N ≤ P) (h2 : N ≤ E) :
    ∃ W, ((((w3.setCell ⟨P, 0, none⟩ x0).setCell ⟨P, 1, none⟩ x1).setCell ⟨P, 2, none⟩ x2).setCell ⟨E, 0, none⟩ y).drew = W ∧ Below N w W ∧ w3.heap.size ≤ W.heap.size ∧ (∀ b, b ≠ P → b ≠ E → W.heap[b]? = w3.heap[b]?) ∧ W.cell? ⟨P, 0, none⟩ = some x0 ∧ W.cell? ⟨P, 1, none⟩ = some x1 ∧ W.cell? ⟨P, 2, none⟩ = some x2 ∧ W.cell? ⟨E, 0, none⟩ = some y := by
  have sz : ∀ (V : World) (p : Addr) (u : Value), (V.setCell p u).heap.size = V.heap.size := fun V p u => by simp [World.setCell]
  have dz : ∀ V : World, V.drew.heap.size = V.heap.size := fun _ => rfl
  have dh : ∀ (V : World) (b : Nat), V.drew.heap[b]? = V.heap[b]? := fun _ _ => rfl
  have dc : ∀ (V : World) (a : Addr), V.drew.cell? a = V.cell? a := fun _ _ => rfl
  have fr : ∀ (V : World) (c i : Nat) (u : Value) (b : Nat), b ≠ c → (V.setCell ⟨c, i, none⟩ u).heap[b]? = V.heap[b]? := fun V c i u b hne => Below.heap_setCell V ⟨c, i, none⟩ u b hne
  have g1 := blk_set (blk_set (blk_set hP 0 x0) 1 x1) 2 x2
  have g1' : ((((w3.setCell ⟨P, 0, none⟩ x0).setCell ⟨P, 1, none⟩ x1).setCell ⟨P, 2, none⟩ x2).setCell ⟨E, 0, none⟩ y).heap[P]? = _ := (fr _ _ _ _ _ hPE).trans g1
  have g2 : ((((w3.setCell ⟨P, 0, none⟩ x0).setCell ⟨P, 1, none⟩ x1).setCell ⟨P, 2, none⟩ x2).setCell ⟨E, 0, none⟩ y).heap[E]? = _ := blk_set ((fr _ _ _ _ _ (fun e => hPE e.symm)).trans ((fr _ _ _ _ _ (fun e => hPE e.symm)).trans ((fr _ _ _ _ _ (fun e => hPE e.symm)).trans hE))) 0 y
  refine ⟨_, rfl, ?_, ?_, fun b n1 n2 => ?_, ?_, ?_, ?_, ?_⟩
  · exact ((((hb.setCell (p := ⟨P, 0, none⟩) h1 _).setCell (p := ⟨P, 1, none⟩) h1 _).setCell (p := ⟨P, 2, none⟩) h1 _).setCell (p := ⟨E, 0, none⟩) h2 _).drew
  · exact Nat.le_of_eq (by rw [dz, sz, sz, sz, sz])
  · rw [dh]
    exact (fr _ _ _ _ _ n2).trans ((fr _ _ _ _ _ n1).trans ((fr _ _ _ _ _ n1).trans (fr _ _ _ _ _ n1)))
  all_goals rw [dc]
  · rw [blk_cell g1']; rfl
  · rw [blk_cell g1']; rfl
  · rw [blk_cell g1']; rfl
  · rw [blk_cell g2]; rfl
set_option maxRecDepth 100000 in
set_option maxHeartbeats 4000000 in
theorem comp_any {v : Value} {root g cs : Int} {L : List Pp.Nk} {w : World} (hN : NsI w (fun _ => True) v L) (hL : L.length ≤ 100000) (hnc : NoCat L) (hs : Pp.soundR L root g = some true) (fold : Bool) {R : Pp.Er Pp.Cd} (hR : Pp.compP L root = R) (hne : R ≠ .error false) :
    Calls Tryz.prog 8 #[.agg #[v, .int .i64 root, .int .i64 g, .int .u8 cs], .bool fold] w (CompPost w cs fold R) := by
  obtain ⟨A, c, rfl, hc⟩ := hN.slice
  have hmf : ∀ (fn : Fn) (first cap : Array Value) (w : World), (Instr.makeFunc fn first cap).run Tryz.prog w = .ok (.func fn first cap) w := fun _ _ _ _ => rfl
  obtain ⟨X, hX, x1, x2, x3, xb, xs⟩ := three_allocs2 w (.cells #[.slice A L.length c, .int .i64 root, .int .i64 g, .int .u8 cs] 29) (.cells #[.slice none 0 0, .int .i64 0, .bool false] 24) (.cells #[.int .u16 0] 37)
  have p0 : X.cell? ⟨w.heap.size, 0, none⟩ = some (.slice A L.length c) := by rw [blk_cell x1]; rfl
  have p1 : X.cell? ⟨w.heap.size, 1, none⟩ = some (.int .i64 root) := by rw [blk_cell x1]; rfl
  have p2 : X.cell? ⟨w.heap.size, 2, none⟩ = some (.int .i64 g) := by rw [blk_cell x1]; rfl
  have p3 : X.cell? ⟨w.heap.size, 3, none⟩ = some (.int .u8 cs) := by rw [blk_cell x1]; rfl
  have hNX : NsI X (fun b => b < w.heap.size) (.slice A L.length c) L := hN.step xb.size fun b _ hl => ⟨xb.block b hl, hl⟩
  have HSD := Lib.hid (Sound_any (cs := cs) (hNX.step (Nat.le_refl _) (fun b _ _ => ⟨rfl, trivial⟩)) hL hnc hs)
  have HX := Lib.hid (And.intro x1 (And.intro x2 (And.intro x3 (And.intro xb (And.intro hNX xs)))))
  have HR := Lib.hid (And.intro hR hL)
  clear x1 x2 x3 xb hNX hN hL hnc hs hR xs
  obtain ⟨n, hn⟩ : ∃ n, L.length = n := ⟨_, rfl⟩
  rw [hn] at hX HSD HX p0 hc ⊢
  have HNN := Lib.hid hn
  clear hn
  go_enter_defers Tryz.func8, Tryz.ntmps8
  go_wp2_with fail
  refine HSD.out.mono ?_
  rintro e w1 ⟨rfl, hb1⟩
  have hX0 := HX.out
  have y1 := (hb1.block _ (blk_lt hX0.1)).trans hX0.1
  have y2 := (hb1.block _ (blk_lt hX0.2.1)).trans hX0.2.1
  have y3 := (hb1.block _ (blk_lt hX0.2.2.1)).trans hX0.2.2.1
  have hbw : Below w.heap.size w w1 := hX0.2.2.2.1.trans (hb1.mono hX0.2.2.2.1.size)
  have hN1 := hX0.2.2.2.2.1.step hb1.size (F' := fun b => b < w.heap.size) fun b hF hl => ⟨hb1.block b hl, hF⟩
  have hX1 : w.heap.size + 1 + 1 < w1.heap.size := blk_lt y3
  have hal := below_alloc (Below.refl w1.heap.size w1) (.cells #[.slice A n c, .slice none 0 0, .int .i64 0] 56)
  have hWb := alloc_at w1 (.cells #[.slice A n c, .slice none 0 0, .int .i64 0] 56)
  have hw : WrM (w1.alloc (.cells #[.slice A n c, .slice none 0 0, .int .i64 0] 56)) w1.heap.size (.slice A n c) (.slice none 0 0) L ([], 0) :=
    ⟨hWb, ⟨rfl, .inl ⟨rfl, rfl⟩⟩, by simp [Value.ownBlock], hN1.step hal.size fun b hF hl => ⟨hal.block b hl, by omega, by simp [Value.ownBlock]⟩, by simp, by simp⟩
  have hR := HR.out.1
  unfold Pp.compP at hR
  have hnr : Pp.nodeC L (L.length + 1) root ([], 0) ≠ .error false := fun e => by rw [e] at hR; exact hne hR.symm
  have HN := Lib.hid (cnode_any L w1.heap.size (.slice A n c) _ root ([], 0) _ _ hw hnr)
  have z1 := (hal.block _ (blk_lt y1)).trans y1
  have z2 := (hal.block _ (blk_lt y2)).trans y2
  have z3 := (hal.block _ (blk_lt y3)).trans y3
  have q0 : w1.cell? ⟨w.heap.size, 0, none⟩ = some (.slice A n c) := by rw [blk_cell y1]; rfl
  have q1 : (w1.alloc (.cells #[.slice A n c, .slice none 0 0, .int .i64 0] 56)).cell? ⟨w.heap.size, 1, none⟩ = some (.int .i64 root) := by rw [blk_cell z1]; rfl
  have HY := Lib.hid (And.intro z1 (And.intro z2 (And.intro z3 (And.intro (hbw.trans (hal.mono hbw.size)) hX1))))
  have HR2 := Lib.hid hR
  clear hb1 hX0 y1 y2 y3 hbw hN1 hX1 hal hWb hw hR z1 z2 z3
  go_wp2_with fail
  refine HN.out.mono ?_
  intro e w2 hpo
  have hR := HR2.out
  cases h2 : Pp.nodeC L (L.length + 1) root ([], 0) with
  | error b =>
    rw [h2] at hR hpo
    cases b with
    | false => exact absurd h2 hnr
    | true =>
      subst hR
      obtain ⟨rfl, cv3, hp3⟩ := hpo
      have hP := (hp3.block _ (blk_lt HY.out.2.1) (by have := HY.out.2.2.2.2; omega) (by simp [Value.ownBlock])).trans HY.out.2.1
      have hE := (hp3.block _ (blk_lt HY.out.2.2.1) (by have := HY.out.2.2.2.2; omega) (by simp [Value.ownBlock])).trans HY.out.2.2.1
      have hB : Below w.heap.size w w2 := ⟨hp3.os.trans HY.out.2.2.2.1.os, hp3.tape.trans HY.out.2.2.2.1.tape, hp3.output.trans HY.out.2.2.2.1.output, Nat.le_trans HY.out.2.2.2.1.size hp3.size, fun b hb => (hp3.block b (Nat.lt_of_lt_of_le hb HY.out.2.2.2.1.size) (by have := HY.out.2.2.2.2; omega) (by simp [Value.ownBlock])).trans (HY.out.2.2.2.1.block b hb)⟩
      exact comp_door hP hE hB (by rfl) (by rfl)
  | ok c2 =>
  rw [h2] at hR hpo
  simp only at hR
  obtain ⟨cv2, rfl, hw2, hp2⟩ := hpo
  have HL := Lib.hid (lay_any hw2 { Pp.in0 with op := 14 })
  unfold inV inC at HL
  simp only [Pp.in0] at HL hR
  have HP := Lib.hid hp2
  clear hw2 hp2 h2 hnr HN HR2
  go_wp2_with fail
  refine HL.out.mono ?_
  intro e w3 hpo
  rw [hR] at hpo
  have hWbl : w.heap.size + 1 + 1 < w1.heap.size := HY.out.2.2.2.2
  cases R with
  | error b =>
    cases b with
    | false => exact absurd rfl hne
    | true =>
      obtain ⟨rfl, cv3, hp3⟩ := hpo
      have hpp := HP.out.trans hp3
      have hP := (hpp.block _ (blk_lt HY.out.2.1) (by omega) (by simp [Value.ownBlock])).trans HY.out.2.1
      have hE := (hpp.block _ (blk_lt HY.out.2.2.1) (by omega) (by simp [Value.ownBlock])).trans HY.out.2.2.1
      have hB : Below w.heap.size w w3 := ⟨hpp.os.trans HY.out.2.2.2.1.os, hpp.tape.trans HY.out.2.2.2.1.tape, hpp.output.trans HY.out.2.2.2.1.output, Nat.le_trans HY.out.2.2.2.1.size hpp.size, fun b hb => (hpp.block b (Nat.lt_of_lt_of_le hb HY.out.2.2.2.1.size) (by omega) (by simp [Value.ownBlock])).trans (HY.out.2.2.2.1.block b hb)⟩
      exact comp_door hP hE hB (by rfl) (by rfl)
  | ok c3 =>
  obtain ⟨cv3, rfl, hw3, hp3⟩ := hpo
  have hpp := HP.out.trans hp3
  have hQ := (hpp.block _ (blk_lt HY.out.1) (by omega) (by simp [Value.ownBlock])).trans HY.out.1
  have hP := (hpp.block _ (blk_lt HY.out.2.1) (by omega) (by simp [Value.ownBlock])).trans HY.out.2.1
  have hE := (hpp.block _ (blk_lt HY.out.2.2.1) (by omega) (by simp [Value.ownBlock])).trans HY.out.2.2.1
  have hB : Below w.heap.size w w3 := ⟨hpp.os.trans HY.out.2.2.2.1.os, hpp.tape.trans HY.out.2.2.2.1.tape, hpp.output.trans HY.out.2.2.2.1.output, Nat.le_trans HY.out.2.2.2.1.size hpp.size, fun b hb => (hpp.block b (Nat.lt_of_lt_of_le hb HY.out.2.2.2.1.size) (by omega) (by simp [Value.ownBlock])).trans (HY.out.2.2.2.1.block b hb)⟩
  obtain ⟨Ac, cc, rfl⟩ := irow_slice hw3.row
  obtain ⟨_, d1, d2⟩ := hw3.cells
  have hcc : c3.1.length ≤ cc := by
    rcases hw3.row.2 with ⟨e, h0⟩ | ⟨g, cap, cur, e, _, hg, hcap, hmx, hsz, htk⟩
    · omega
    · injection e with e1 e2 e3
      omega
  have hCM := hw3.code (F := fun b => w.heap.size + 1 + 1 < b) fun b e => by
    rcases hpp.own b e with h9 | h9
    · simp [Value.ownBlock] at h9
    · have h8 : w1.heap.size ≤ (w1.alloc (.cells #[.slice A n c, .slice none 0 0, .int .i64 0] 56)).heap.size := by simp
      omega
  have k3 : w3.cell? ⟨w.heap.size, 3, none⟩ = some (.int .u8 cs) := by rw [blk_cell hQ]; rfl
  have r0 : w3.cell? ⟨w.heap.size + 1, 0, none⟩ = some (.slice none 0 0) := by rw [blk_cell hP]; rfl
  have r1 : w3.cell? ⟨w.heap.size + 1, 1, none⟩ = some (.int .i64 0) := by rw [blk_cell hP]; rfl
  have r2 : w3.cell? ⟨w.heap.size + 1, 2, none⟩ = some (.bool false) := by rw [blk_cell hP]; rfl
  have r3 : w3.cell? ⟨w.heap.size + 1 + 1, 0, none⟩ = some (.int .u16 0) := by rw [blk_cell hE]; rfl
  have f1 := fun i => blk_frozen hP i
  have f2 := fun i => blk_frozen hE i
  have HCL := Lib.hid (iclip_any Ac c3.1.length cc hcc)
  have HZ := Lib.hid (And.intro hP (And.intro hE (And.intro hB hCM)))
  have q8 : w1.heap.size ≠ w.heap.size + 1 := by omega
  have q9 : w1.heap.size ≠ w.heap.size + 1 + 1 := by omega
  clear hw3 hp3 hpp hQ hP hE hB hCM hR
  obtain ⟨m, hm⟩ : ∃ m, c3.1.length = m := ⟨_, rfl⟩
  rw [hm] at d1 HCL hcc
  have HM := Lib.hid hm
  clear hm
  by_cases hcs : cs = 0
  · subst hcs
    go_wp2_with fail
    go_region_held3 (fun V => V.cell? ⟨w1.heap.size, 1, none⟩ = some (.slice Ac m cc) ∧ V.cell? ⟨w1.heap.size, 2, none⟩ = some (.int .i64 (c3.2 : Int))) (first | (with_reducible exact ⟨d1, d2⟩) | (with_reducible exact ⟨sfar3d d1 q8, sfar3d d2 q8⟩) | (with_reducible exact ⟨sfar4d d1 q8 q9, sfar4d d2 q8 q9⟩) | go_keep) (first | (go_at_call 20; (with_reducible refine (HCL.out _).mono ?_); rintro e w9 ⟨rfl, rfl⟩))
    all_goals
      go_wp2
      obtain ⟨W, hW, hbW, hsW, hfW, z0, z1, z2, z3⟩ := comp_mem (w := w) (N := w.heap.size) (.slice Ac m m) (.int .i64 (c3.2 : Int)) (.bool (fold)) (.int .u16 0) HZ.out.1 HZ.out.2.1 (by omega) HZ.out.2.2.1 (by omega) (by omega)
      rw [hW]
      clear hW
      refine leaves_cons (f := 17) (args := #[.pointer (some ⟨w.heap.size + 1, 0, none⟩), .pointer (some ⟨w.heap.size + 1 + 1, 0, none⟩)]) (by simp) (by simp [go_sem]) ?_
      refine (comp_idle _ _ _).mono ?_
      rintro e u' w'' ⟨rfl, rfl, rfl⟩
      refine ⟨.tuple #[.agg #[.slice Ac m m, .int .i64 (c3.2 : Int), .bool (fold)], .int .u16 0], ?_, ?_⟩
      · simp [results, Tryz.results8, go_sem, z0, z1, z2, z3]
      · have hCM := HZ.out.2.2.2
        rw [HM.out] at hCM
        refine ⟨.slice Ac m m, ?_, hbW, hCM.step hsW fun b hF _ => ⟨hfW b (by omega) (by omega), by omega⟩⟩
        rfl
  · have bcs : (cs == 0) = false := beq_eq_false_iff_ne.2 hcs
    have hff : foldP cs fold = (cs == 1) := by
      unfold foldP
      rw [if_neg hcs]
      rfl
    have HFF := Lib.hid hff
    clear hff hcs
    go_wp2_with fail
    go_region_held3 (fun V => V.cell? ⟨w1.heap.size, 1, none⟩ = some (.slice Ac m cc) ∧ V.cell? ⟨w1.heap.size, 2, none⟩ = some (.int .i64 (c3.2 : Int))) (first | (with_reducible exact ⟨d1, d2⟩) | (with_reducible exact ⟨sfar3d d1 q8, sfar3d d2 q8⟩) | (with_reducible exact ⟨sfar4d d1 q8 q9, sfar4d d2 q8 q9⟩) | go_keep) (first | (go_at_call 20; (with_reducible refine (HCL.out _).mono ?_); rintro e w9 ⟨rfl, rfl⟩))
    all_goals
      go_wp2
      obtain ⟨W, hW, hbW, hsW, hfW, z0, z1, z2, z3⟩ := comp_mem (w := w) (N := w.heap.size) (.slice Ac m m) (.int .i64 (c3.2 : Int)) (.bool (cs == 1)) (.int .u16 0) HZ.out.1 HZ.out.2.1 (by omega) HZ.out.2.2.1 (by omega) (by omega)
      rw [hW]
      clear hW
      refine leaves_cons (f := 17) (args := #[.pointer (some ⟨w.heap.size + 1, 0, none⟩), .pointer (some ⟨w.heap.size + 1 + 1, 0, none⟩)]) (by simp) (by simp [go_sem]) ?_
      refine (comp_idle _ _ _).mono ?_
      rintro e u' w'' ⟨rfl, rfl, rfl⟩
      refine ⟨.tuple #[.agg #[.slice Ac m m, .int .i64 (c3.2 : Int), .bool (cs == 1)], .int .u16 0], ?_, ?_⟩
      · simp [results, Tryz.results8, go_sem, z0, z1, z2, z3]
      · have hCM := HZ.out.2.2.2
        rw [HM.out] at hCM
        refine ⟨.slice Ac m m, ?_, hbW, hCM.step hsW fun b hF _ => ⟨hfW b (by omega) (by omega), by omega⟩⟩
        rw [HFF.out]
end Go.Proofs.YtjdlbejmdjcajaaGreat
