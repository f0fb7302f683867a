/- pat's Parse: walked, where it ends well. -/
import Derived.Test.YtjdlbejmdjcajaaGreatPaO
import Derived.Test.YtjdlbejmdjcajaaGreatPaP
import Derived.Test.YtjdlbejmdjcajaaGreatPsA
set_option linter.unusedVariables false
set_option linter.unusedSimpArgs false
namespace Go.Proofs.YtjdlbejmdjcajaaGreat
open Go.RowKit Go.Shelf Go.Maps Go.Proofs.YtjdlbejmdjcajaaGreatW.PrintWords Go.Proofs.YtjdlbejmdjcajaaGreatW.PrintLast

def r0P : Pp.Rs := ⟨109, 0, 0, 0, fun _ => false⟩
/-- Parse with these signs -/
def parseG (sgn : UInt8 → Nat → Pp.Br → Pp.Res Pp.Br) (s : List UInt8) (pt : Pp.Pt) : Prop :=
  ∃ (k1 : Nat) (r1 : Pp.R) (k : Nat) (r : Pp.R), Pp.branchL sgn s false (s.length + 1) ⟨(r0P, []), [], false⟩ = some (.ok (k1, r1)) ∧ Pp.branchesL sgn s false (s.length + 1) [k1] r1 = some (.ok (k, r)) ∧ r.2.length ≤ 400 ∧ pt = ⟨r.2, k, r.1.groups, r.1.fold⟩
def ParsePost (w : World) (pt : Pp.Pt) (e : Ending) (w' : World) : Prop :=
  ∃ nv, e = .returned (.tuple #[.agg #[nv, .int .i64 (pt.root : Int), .int .i64 (pt.groups : Int), .int .u8 pt.case], .int .u16 0, .int .i64 0]) ∧ Below w.heap.size w w' ∧ NsI w' (fun b => w.heap.size ≤ b) nv pt.nk
theorem four_allocs (w : World) (o1 o2 o3 o4 : Obj) : ∃ X, (((w.alloc o1).alloc o2).alloc o3).alloc o4 = X ∧ X.heap[w.heap.size]? = some o1 ∧ X.heap[w.heap.size + 1]? = some o2 ∧ X.heap[w.heap.size + 1 + 1]? = some o3 ∧ X.heap[w.heap.size + 1 + 1 + 1]? = some o4 ∧ Below w.heap.size w X ∧ X.heap.size = w.heap.size + 1 + 1 + 1 + 1 := by
  have sz : ∀ (W : World) o, (W.alloc o).heap.size = W.heap.size + 1 := fun W o => by simp
  have kp : ∀ (W : World) o b, b < W.heap.size → (W.alloc o).heap[b]? = W.heap[b]? := fun W o b hb => (below_alloc (Below.refl W.heap.size W) o).block b hb
  have a1 := alloc_at w o1
  have a2 := alloc_at (w.alloc o1) o2
  have a3 := alloc_at ((w.alloc o1).alloc o2) o3
  have a4 := alloc_at (((w.alloc o1).alloc o2).alloc o3) o4
  simp only [sz] at a2 a3 a4
  refine ⟨_, rfl, ?_, ?_, ?_, a4, below_alloc (below_alloc (below_alloc (below_alloc (Below.refl _ _) _) _) _) _, by simp only [sz]⟩
  · rw [kp _ _ _ (by simp only [sz]; omega), kp _ _ _ (by simp only [sz]; omega), kp _ _ _ (by simp only [sz]; omega)]
    exact a1
  · rw [kp _ _ _ (by simp only [sz]; omega), kp _ _ _ (by simp only [sz]; omega)]
    exact a2
  · rw [kp _ _ _ (by simp only [sz]; omega)]
    exact a3
theorem far1 {w : World} {B b i j : Nat} {x y : Value} (h : w.cell? ⟨b, i, none⟩ = some y) (hne : b ≠ B) : (w.setCell ⟨B, j, none⟩ x).cell? ⟨b, i, none⟩ = some y := by
  rw [World.cell?_setCell_other _ _ _ _ (by intro e; injection e with e1; exact hne e1.symm)]
  exact h
theorem drewc {w : World} {a : Addr} {x : Option Value} (h : w.cell? a = x) : w.drew.cell? a = x := h
theorem far1d {w : World} {B b i j : Nat} {x y : Value} (h : w.cell? ⟨b, i, none⟩ = some y) (hne : b ≠ B) : (w.setCell ⟨B, j, none⟩ x).drew.cell? ⟨b, i, none⟩ = some y := far1 h hne
theorem far4 {w : World} {B b i : Nat} {x0 x1 x2 x3 y : Value} (h : w.cell? ⟨b, i, none⟩ = some y) (hne : b ≠ B) : ((((w.setCell ⟨B, 0, none⟩ x0).setCell ⟨B, 1, none⟩ x1).setCell ⟨B, 2, none⟩ x2).setCell ⟨B, 3, none⟩ x3).cell? ⟨b, i, none⟩ = some y := far1 (far1 (far1 (far1 h hne) hne) hne) hne
theorem far4d {w : World} {B b i : Nat} {x0 x1 x2 x3 y : Value} (h : w.cell? ⟨b, i, none⟩ = some y) (hne : b ≠ B) : ((((w.setCell ⟨B, 0, none⟩ x0).setCell ⟨B, 1, none⟩ x1).setCell ⟨B, 2, none⟩ x2).setCell ⟨B, 3, none⟩ x3).drew.cell? ⟨b, i, none⟩ = some y := far1 (far1 (far1 (far1 h hne) hne) hne) hne
set_option maxHeartbeats 1000000 in
theorem parse_mem {w w' : World} {B : Nat} {a0 a1 a2 a3 b0 c0 : Value} {T1 T2 T3 : TypeId} (x0 x1 x2 x3 y z : Value) (y1 : w'.heap[B]? = some (.cells #[a0, a1, a2, a3] T1 (0, 0))) (y2 : w'.heap[B + 1]? = some (.cells #[b0] T2 (0, 0))) (y3 : w'.heap[B + 1 + 1]? = some (.cells #[c0] T3 (0, 0))) (hb : Below B w w') :
    ∃ W, ((((((w'.setCell ⟨B, 0, none⟩ x0).setCell ⟨B, 1, none⟩ x1).setCell ⟨B, 2, none⟩ x2).setCell ⟨B, 3, none⟩ x3).setCell ⟨B + 1, 0, none⟩ y).setCell ⟨B + 1 + 1, 0, none⟩ z).drew = W ∧ Below B w W ∧ w'.heap.size ≤ W.heap.size ∧ (∀ b, B + 1 + 1 < b → W.heap[b]? = w'.heap[b]?) ∧ W.cell? ⟨B, 0, none⟩ = some x0 ∧ W.cell? ⟨B, 1, none⟩ = some x1 ∧ W.cell? ⟨B, 2, none⟩ = some x2 ∧ W.cell? ⟨B, 3, none⟩ = some x3 ∧ W.cell? ⟨B + 1, 0, none⟩ = some y ∧ W.cell? ⟨B + 1 + 1, 0, none⟩ = some z := by
  have sz : ∀ (V : World) (p : Addr) (u : Value), (V.setCell p u).heap.size = V.heap.size := fun V p u => by simp [World.setCell]
  have dz : ∀ V : World, V.drew.heap.size = V.heap.size := fun _ => rfl
  have dh : ∀ (V : World) (b : Nat), V.drew.heap[b]? = V.heap[b]? := fun _ _ => rfl
  have dc : ∀ (V : World) (a : Addr), V.drew.cell? a = V.cell? a := fun _ _ => rfl
  have h1 := blk_set (blk_set (blk_set (blk_set y1 0 x0) 1 x1) 2 x2) 3 x3
  have fr : ∀ (V : World) (c i : Nat) (u : Value) (b : Nat), b ≠ c → (V.setCell ⟨c, i, none⟩ u).heap[b]? = V.heap[b]? := fun V c i u b hne => Below.heap_setCell V ⟨c, i, none⟩ u b hne
  have h1' : ((((((w'.setCell ⟨B, 0, none⟩ x0).setCell ⟨B, 1, none⟩ x1).setCell ⟨B, 2, none⟩ x2).setCell ⟨B, 3, none⟩ x3).setCell ⟨B + 1, 0, none⟩ y).setCell ⟨B + 1 + 1, 0, none⟩ z).heap[B]? = _ := (fr _ _ _ _ _ (by omega)).trans ((fr _ _ _ _ _ (by omega)).trans h1)
  have h2 : ((((((w'.setCell ⟨B, 0, none⟩ x0).setCell ⟨B, 1, none⟩ x1).setCell ⟨B, 2, none⟩ x2).setCell ⟨B, 3, none⟩ x3).setCell ⟨B + 1, 0, none⟩ y).setCell ⟨B + 1 + 1, 0, none⟩ z).heap[B + 1]? = _ := (fr _ _ _ _ _ (by omega)).trans (blk_set ((fr _ _ _ _ _ (by omega)).trans ((fr _ _ _ _ _ (by omega)).trans ((fr _ _ _ _ _ (by omega)).trans ((fr _ _ _ _ _ (by omega)).trans y2)))) 0 y)
  have h3 : ((((((w'.setCell ⟨B, 0, none⟩ x0).setCell ⟨B, 1, none⟩ x1).setCell ⟨B, 2, none⟩ x2).setCell ⟨B, 3, none⟩ x3).setCell ⟨B + 1, 0, none⟩ y).setCell ⟨B + 1 + 1, 0, none⟩ z).heap[B + 1 + 1]? = _ := blk_set ((fr _ _ _ _ _ (by omega)).trans ((fr _ _ _ _ _ (by omega)).trans ((fr _ _ _ _ _ (by omega)).trans ((fr _ _ _ _ _ (by omega)).trans ((fr _ _ _ _ _ (by omega)).trans y3))))) 0 z
  refine ⟨_, rfl, ?_, ?_, fun b hb => ?_, ?_, ?_, ?_, ?_, ?_, ?_⟩
  · exact ((((((hb.setCell (p := ⟨B, 0, none⟩) (Nat.le_refl _) _).setCell (p := ⟨B, 1, none⟩) (Nat.le_refl _) _).setCell (p := ⟨B, 2, none⟩) (Nat.le_refl _) _).setCell (p := ⟨B, 3, none⟩) (Nat.le_refl _) _).setCell (p := ⟨B + 1, 0, none⟩) (by show B ≤ B + 1; omega) _).setCell (p := ⟨B + 1 + 1, 0, none⟩) (by show B ≤ B + 1 + 1; omega) _).drew
  · exact Nat.le_of_eq (by rw [dz, sz, sz, sz, sz, sz, sz])
  · rw [dh]
    exact (fr _ _ _ _ _ (by omega)).trans ((fr _ _ _ _ _ (by omega)).trans ((fr _ _ _ _ _ (by omega)).trans ((fr _ _ _ _ _ (by omega)).trans ((fr _ _ _ _ _ (by omega)).trans (fr _ _ _ _ _ (by omega))))))
  all_goals rw [dc]
  · rw [blk_cell h1']; rfl
  · rw [blk_cell h1']; rfl
  · rw [blk_cell h1']; rfl
  · rw [blk_cell h1']; rfl
  · rw [blk_cell h2]; rfl
  · rw [blk_cell h3]; rfl
set_option maxRecDepth 100000 in
set_option maxHeartbeats 4000000 in
theorem parse_any {sgn : UInt8 → Nat → Pp.Br → Pp.Res Pp.Br} {s last : ByteArray} (hs : ∀ G, SignOk sgn G s last) {pt : Pp.Pt} (hp : parseG sgn s.data.toList pt) (hsz : s.size ≤ 300) (hlz : last.size ≤ 1000) (w : World) :
    Calls Tryz.prog 11 #[.string s, .string last] w (ParsePost w pt) := by
  obtain ⟨k1, r1, k, r, hb, hb2, hnl, rfl⟩ := hp
  have hal0 := below_alloc (Below.refl w.heap.size w) (.cells #[.slice none 0 0, .int .i64 0, .int .i64 0, .int .u8 0] 29)
  have HS := Lib.hid hs
  have HB := Lib.hid (And.intro hb (And.intro hb2 hnl))
  have HSZ := Lib.hid (And.intro hsz hlz)
  have t1 : ¬ ((300 : Int) < (s.size : Int)) := by omega
  have t2 : ¬ ((1000 : Int) < (last.size : Int)) := by omega
  have hmf : ∀ (fn : Fn) (first cap : Array Value) (w : World), (Instr.makeFunc fn first cap).run Tryz.prog w = .ok (.func fn first cap) w := fun _ _ _ _ => rfl
  clear hs hb hb2 hnl hal0 hsz hlz
  go_enter_defers Tryz.func11, Tryz.ntmps11
  go_wp2_with fail
  obtain ⟨X, hX, x1, x2, x3, x4, xb, xs⟩ := four_allocs w (.cells #[.slice none 0 0, .int .i64 0, .int .i64 0, .int .u8 0] 29) (.cells #[.int .u16 0] 37) (.cells #[.int .i64 0] 3) (.cells #[.int .u8 109, .int .u8 0, .string s, .string last, .int .i64 0, .slice none 0 0, .int .i64 0, .bool false, .bool false, .bool false, .bool false, .bool false, .bool false, .bool false, .bool false, .bool false, .bool false] 70)
  rw [hX]
  clear hX
  have hRD : Rdr X (w.heap.size + 1 + 1 + 1) s last r0P (.slice none 0 0) [] := ⟨x4, ⟨rfl, .inl ⟨rfl, rfl⟩⟩, by simp [Value.ownBlock], fun x hx => by cases hx⟩
  refine (branches_any (HS.out _) hRD HB.out.1 HB.out.2.1 (by have := HSZ.out.1; omega)).mono ?_
  rintro e w' ⟨v', N, rfl, hR, hpf, hm, hN⟩
  have y1 := (hpf.block w.heap.size (by omega) (by omega) (by simp [Value.ownBlock])).trans x1
  have y2 := (hpf.block (w.heap.size + 1) (by omega) (by omega) (by simp [Value.ownBlock])).trans x2
  have y3 := (hpf.block (w.heap.size + 1 + 1) (by omega) (by omega) (by simp [Value.ownBlock])).trans x3
  have hbel : Below w.heap.size w w' := ⟨hpf.os.trans xb.os, hpf.tape.trans xb.tape, hpf.output.trans xb.output, Nat.le_trans xb.size hpf.size, fun b hb => (hpf.block b (by omega) (by omega) (by simp [Value.ownBlock])).trans (xb.block b hb)⟩
  rw [List.nil_append] at hR hm
  obtain ⟨A, c, hv', hlc⟩ := rdr_slice hR
  have hNI := hR.toI (F := fun b => w.heap.size + 1 + 1 < b) (fun b hb => by
    rcases hpf.own b hb with h9 | h9
    · simp [Value.ownBlock] at h9
    · omega) (fun x hx => (hN x hx).wide fun b hb _ => by omega) hv'
  subst hv'
  obtain ⟨d0, d1, d2, d4, d5, d6⟩ := hR.box.cells
  have hn4 : N.length ≤ 400 := by
    have : N.length = r.2.length := by rw [← hm]; simp
    have := HB.out.2.2
    omega
  have t3 : ¬ ((400 : Int) < (N.length : Int)) := by omega
  have hnk : (N.map fun x => (x.1, x.1.kids.map Int.ofNat)) = (⟨r.2, k, r.1.groups, r.1.fold⟩ : Pp.Pt).nk := by
    unfold Pp.Pt.nk
    rw [← hm, List.map_map]
    rfl
  rw [hnk] at hNI
  have HNI := Lib.hid hNI
  have HY := Lib.hid (And.intro y1 (And.intro y2 (And.intro y3 hbel)))
  have HCL := Lib.hid (clip_any A N.length c hlc)
  obtain ⟨p0, p1, p2, p3, p4, p5⟩ : w'.cell? ⟨w.heap.size, 0, none⟩ = some (.slice none 0 0) ∧ w'.cell? ⟨w.heap.size, 1, none⟩ = some (.int .i64 0) ∧ w'.cell? ⟨w.heap.size, 2, none⟩ = some (.int .i64 0) ∧ w'.cell? ⟨w.heap.size, 3, none⟩ = some (.int .u8 0) ∧ w'.cell? ⟨w.heap.size + 1, 0, none⟩ = some (.int .u16 0) ∧ w'.cell? ⟨w.heap.size + 1 + 1, 0, none⟩ = some (.int .i64 0) := by
    refine ⟨?_, ?_, ?_, ?_, ?_, ?_⟩
    · rw [blk_cell y1]; rfl
    · rw [blk_cell y1]; rfl
    · rw [blk_cell y1]; rfl
    · rw [blk_cell y1]; rfl
    · rw [blk_cell y2]; rfl
    · rw [blk_cell y3]; rfl
  have f1 := fun i => blk_frozen y1 i
  have f2 := fun i => blk_frozen y2 i
  have f3 := fun i => blk_frozen y3 i
  obtain ⟨n, hn⟩ : ∃ n, N.length = n := ⟨_, rfl⟩
  rw [hn] at d5 t3 HCL
  have HN := Lib.hid hn
  obtain ⟨B, hBw⟩ : ∃ B, w.heap.size = B := ⟨_, rfl⟩
  have q9 : w.heap.size + 1 + 1 + 1 ≠ w.heap.size + 1 := by omega
  have q8 : w.heap.size + 1 + 1 + 1 ≠ w.heap.size := by omega
  have q7 : w.heap.size + 1 + 1 + 1 ≠ w.heap.size + 1 + 1 := by omega
  clear x1 x2 x3 x4 xb xs hRD hR hpf hm hN y1 y2 y3 hbel hNI hlc hn4 hn hBw
  go_wp2
  go_region_held3 (fun V => V.cell? ⟨w.heap.size + 1 + 1 + 1, 1, none⟩ = some (.int .u8 r.1.fold) ∧ V.cell? ⟨w.heap.size + 1 + 1 + 1, 5, none⟩ = some (.slice A n c) ∧ V.cell? ⟨w.heap.size + 1 + 1 + 1, 6, none⟩ = some (.int .i64 r.1.groups)) (first | (with_reducible exact ⟨d1, d5, d6⟩) | (with_reducible exact ⟨far4d d1 q8, far4d d5 q8, far4d d6 q8⟩) | (with_reducible exact ⟨far1d (far4 d1 q8) q9, far1d (far4 d5 q8) q9, far1d (far4 d6 q8) q9⟩) | (with_reducible exact ⟨far1d (far1 (far4 d1 q8) q9) q7, far1d (far1 (far4 d5 q8) q9) q7, far1d (far1 (far4 d6 q8) q9) q7⟩) | (with_reducible exact ⟨far1d (far1 (far4 d1 q8) q9) q7, far1d (far1 (far4 d5 q8) q9) q7, far1d (far1 (far4 d6 q8) q9) q7⟩) | go_keep) (first | (go_at_call 26; (with_reducible refine (HCL.out _).mono ?_); rintro e w9 ⟨rfl, rfl⟩))
  all_goals
    go_wp2
    obtain ⟨W, hW, hbW, hsW, hfW, z0, z1, z2, z3, z4, z5⟩ := parse_mem (w := w) (.slice A n n) (.int .i64 (k : Int)) (.int .i64 (r.1.groups : Int)) (.int .u8 r.1.fold) (.int .u16 0) (.int .i64 0) HY.out.1 HY.out.2.1 HY.out.2.2.1 HY.out.2.2.2
    rw [hW]
    have hn := HN.out
    have hNI := HNI.out
    rw [hn] at hNI
    clear hW
    refine leaves_cons (f := 24) (args := #[.pointer (some ⟨w.heap.size, 0, none⟩), .pointer (some ⟨w.heap.size + 1, 0, none⟩), .pointer (some ⟨w.heap.size + 1 + 1, 0, none⟩)]) (by simp) (by simp [go_sem]) ?_
    refine (parse_idle _ _ _ _).mono ?_
    rintro e u' w'' ⟨rfl, rfl, rfl⟩
    refine ⟨_, ?_, .slice A n n, rfl, hbW, hNI.step hsW fun b hF _ => ⟨hfW b hF, by omega⟩⟩
    simp [results, Tryz.results11, go_sem, z0, z1, z2, z3, z4, z5]
end Go.Proofs.YtjdlbejmdjcajaaGreat
