import Derived.Test.YtdhemdeapphfoaaGreatDoorEdX
import Derived.Test.YtdhemdeapphfoaaGreatDoorBtPa
import Derived.Test.YtdhemdeapphfoaaGreatDoorMkA
import Derived.LoopTactic
import Derived.Laws.RangeString
import Derived.StillTailTactics
import Derived.Deep.RegionLaw
import Derived.Test.YtdhemdeapphfoaaGreatDoorBwX
set_option linter.unusedVariables false
set_option linter.unusedSimpArgs false

/- emendatorlaw19.known, walked: the keys 2ddAx are read, and g is refused. -/
set_option linter.unusedVariables false
set_option linter.unusedSimpArgs false
namespace Go.Proofs.YtdhemdeapphfoaaGreatDoor
open Go.RowKit Go.Shelf Go.Maps Go.Proofs.YtdhemdeapphfoaaGreatDoorW.PrintWords Go.Proofs.YtdhemdeapphfoaaGreatDoorW.PrintLast

/-- a reader of keys in memory -/
def Rd (w : World) (G : Nat) (s : ByteArray) : Prop := w.heap[G]? = some (.cells #[.string s] 96 (0, 0))
/-- what a reader's call leaves -/
def Rdp (w : World) (G : Nat) (s : ByteArray) (w' : World) : Prop := Rd w' G s ∧ w.grownBy w' (some G)
theorem Rdp.then {w w1 w2 : World} {G : Nat} {s t : ByteArray} (h : Rdp w G s w1) (k : Rdp w1 G t w2) : Rdp w G t w2 :=
  ⟨k.1, k.2.os.trans h.2.os, k.2.tape.trans h.2.tape, k.2.output.trans h.2.output, Nat.le_trans h.2.size k.2.size, fun b hb hne => (k.2.block b (Nat.lt_of_lt_of_le hb h.2.size) hne).trans (h.2.block b hb hne)⟩
theorem Rdp.of_below {w w1 : World} {G : Nat} {s : ByteArray} (h : Rd w G s) (hb : Below w.heap.size w w1) : Rdp w G s w1 :=
  ⟨(hb.block G (blk_lt h)).trans h, hb.os, hb.tape, hb.output, hb.size, fun b hlt _ => hb.block b hlt⟩

theorem grown_set {w0 w : World} {G : Nat} (h : w0.grownBy w (some G)) {p : Addr} (hp : p.block = G ∨ w0.heap.size ≤ p.block) (v : Value) : w0.grownBy (w.setCell p v) (some G) :=
  ⟨h.os, h.tape, h.output, by have := h.size; simpa using this, fun b hb hne => (Below.heap_setCell _ _ _ _ (fun e => by
    rcases hp with hp | hp
    · exact hne (congrArg some (e.trans hp))
    · omega)).trans (h.block b hb hne)⟩
theorem kgrown_drew {w0 w : World} {G : Nat} (h : w0.grownBy w (some G)) : w0.grownBy w.drew (some G) := ⟨h.os, h.tape, h.output, h.size, h.block⟩
set_option maxRecDepth 100000 in
theorem rcut_any {w : World} {G : Nat} {s : ByteArray} (h : Rd w G s) (n : Nat) (hn : n ≤ s.size) (hs : s.size ≤ 1000000) :
    Calls Tryz.prog 53 #[.pointer (some ⟨G, 0, none⟩), .int .i64 n] w fun e w' => e = .returned (.string (s.extract 0 n)) ∧ Rdp w G (s.extract n s.size) w' := by
  have k0 : w.cell? ⟨G, 0, none⟩ = some (.string s) := by rw [blk_cell h]; rfl
  have z0 : w.frozen? ⟨G, 0, none⟩ = false := blk_frozen h 0
  have hn' : (n : Int) ≤ s.size := by omega
  have HH := Lib.hid h
  clear h
  go_enter Tryz.func53, Tryz.ntmps53
  go_wp2
  go_ret
  refine ⟨rfl, blk_set HH.out 0 _, ?_⟩
  exact ⟨rfl, rfl, rfl, by simp, fun b hb hne => Below.heap_setCell _ _ _ _ (fun e => hne (congrArg some e))⟩

def dgs : ByteArray := ⟨#[48, 49, 50, 51, 52, 53, 54, 55, 56, 57]⟩
theorem trimD {s t : ByteArray} (ht : Lib.trimLeftS s.data.toList dgs.data.toList = t.data.toList) (w : World) : Calls Tryz.prog 73 #[.string s, .string ⟨#[48, 49, 50, 51, 52, 53, 54, 55, 56, 57]⟩] w fun e w' => e = .returned (.string t) ∧ Below w.heap.size w w' := by
  have h := Any.strings_TrimLeft_laid Tryz.lays161 lays161b s dgs w (by decide) (ascii_of_all (by decide))
  refine h.mono ?_
  rintro e w' ⟨rfl, hb⟩
  refine ⟨?_, hb⟩
  rw [ht]

set_option maxRecDepth 100000 in
set_option maxHeartbeats 1000000 in
/-- no number stands ahead -/
theorem rcount_none {w : World} {G : Nat} {s : ByteArray} (h : Rd w G s) (hs : s.size ≤ 1000000) (hp : Lib.hasPrefix s.data.toList [48] = false) (ht : Lib.trimLeftS s.data.toList dgs.data.toList = s.data.toList) :
    Calls Tryz.prog 52 #[.pointer (some ⟨G, 0, none⟩)] w fun e w' => e = .returned (.tuple #[.int .i64 0, .bool true]) ∧ Rdp w G s w' := by
  have k0 : w.cell? ⟨G, 0, none⟩ = some (.string s) := by rw [blk_cell h]; rfl
  have HP : Hid (∀ w, Calls Tryz.prog 72 #[.string s, .string ⟨#[48]⟩] w fun e w' => e = .returned (.bool false) ∧ w' = w) := by
    intro w
    rw [← hp]
    exact Tryz.strings_HasPrefix s ⟨#[48]⟩ w
  have HT := Lib.hid (fun w => trimD ht w)
  have HC := Lib.hid (fun V (hb : Below w.heap.size w V) => rcut_any (w := V) ((hb.block G (blk_lt h)).trans h) 0 (Nat.zero_le _) hs)
  have HH := Lib.hid h
  have e1 : s.extract 0 0 = ⟨#[]⟩ := by simp; rfl
  have e2 : s.extract 0 s.size = s := by simp
  rw [e1, e2] at HC
  have HBC := Lib.hid ((Below.refl w.heap.size w).drew)
  have HK := Lib.hid (show ∀ V, Below w.heap.size w V → V.cell? ⟨G, 0, none⟩ = some (.string s) from fun V hb => (World.cell?_of_block (a := ⟨G, 0, none⟩) (hb.block G (blk_lt h))).trans k0)
  clear h hp ht
  go_enter Tryz.func52, Tryz.ntmps52
  go_wp2_with (first
    | (go_at_call 72; (with_reducible refine (HP.out _).mono ?_); rintro e w1 ⟨rfl, rfl⟩))
  go_region_held3 (fun V => V.cell? ⟨G, 0, none⟩ = some (.string s)) (first | exact k0 | exact kk | go_keep) (first
    | (go_at_call 73; (with_reducible refine (HT.out _).mono ?_); rintro e w2 ⟨rfl, hb2⟩; have HBC := Lib.hid (below_then HBC.out HBC.out.size hb2); have kk := HK.out _ HBC.out; clear hb2)
    | (go_at_call 53; refine (HC.out _ HBC.out).mono ?_; rintro e w3 ⟨rfl, h3⟩; have kk : w3.cell? ⟨G, 0, none⟩ = some (.string s) := (by rw [blk_cell h3.1]; rfl); have H3 := Lib.hid ((Rdp.of_below HH.out HBC.out).then h3); clear h3))
  all_goals
    go_wp2
    go_loopw [5] (fun v5 wr => wr = w3.iter ⟨#[]⟩ 0 ∧ v5 = .int .i64 0) (fun _ _ => 0)
    case atStart => exact ⟨rfl, rfl⟩
    case round =>
      obtain ⟨rfl, rfl⟩ := hrel
      have hnx2 : ∀ ty, (Instr.next (.pointer (some ⟨w3.heap.size, 0, none⟩)) true ty).run Tryz.prog (w3.iter ⟨#[]⟩ 0) = _ := fun ty => run_next_end w3 ⟨#[]⟩ 0 ty (by decide)
      have hbi : Below w3.heap.size w3 (w3.iter ⟨#[]⟩ 0) := (Below.refl _ _).alloc (Nat.le_refl _) _
      go_wp2
      go_ret2
      exact ⟨rfl, H3.out.then (Rdp.of_below H3.out.1 hbi)⟩

set_option maxRecDepth 100000 in
set_option maxHeartbeats 1000000 in
/-- the number 2 stands ahead -/
theorem rcount_two {w : World} {G : Nat} {s t : ByteArray} (h : Rd w G s) (hs : s.size ≤ 1000000) (hp : Lib.hasPrefix s.data.toList [48] = false) (ht : Lib.trimLeftS s.data.toList dgs.data.toList = t.data.toList) (hz : s.size = t.size + 1) (h0 : s.extract 0 1 = ⟨#[50]⟩) (h1 : s.extract 1 s.size = t) :
    Calls Tryz.prog 52 #[.pointer (some ⟨G, 0, none⟩)] w fun e w' => e = .returned (.tuple #[.int .i64 2, .bool true]) ∧ Rdp w G t w' := by
  have k0 : w.cell? ⟨G, 0, none⟩ = some (.string s) := by rw [blk_cell h]; rfl
  have HP : Hid (∀ w, Calls Tryz.prog 72 #[.string s, .string ⟨#[48]⟩] w fun e w' => e = .returned (.bool false) ∧ w' = w) := by
    intro w
    rw [← hp]
    exact Tryz.strings_HasPrefix s ⟨#[48]⟩ w
  have HT := Lib.hid (fun w => trimD ht w)
  have HC := Lib.hid (fun V (hb : Below w.heap.size w V) => rcut_any (w := V) ((hb.block G (blk_lt h)).trans h) 1 (by omega) hs)
  have HH := Lib.hid h
  rw [h0, h1, show ((1 : Nat) : Int) = 1 from rfl] at HC
  have hz' : (s.size : Int) - t.size = 1 := by omega
  have iw1 : IntKind.i64.wrap ((s.size : Int) - t.size) = 1 := by rw [hz']; decide
  have HBC := Lib.hid ((Below.refl w.heap.size w).drew)
  have HK := Lib.hid (show ∀ V, Below w.heap.size w V → V.cell? ⟨G, 0, none⟩ = some (.string s) from fun V hb => (World.cell?_of_block (a := ⟨G, 0, none⟩) (hb.block G (blk_lt h))).trans k0)
  clear h hp ht h0 h1 hz hz'
  go_enter Tryz.func52, Tryz.ntmps52
  go_wp2_with (first
    | (go_at_call 72; (with_reducible refine (HP.out _).mono ?_); rintro e w1 ⟨rfl, rfl⟩))
  go_region_law (first
    | (go_simp; go_at_call 73; (with_reducible refine (HT.out _).mono ?_); rintro e w2 ⟨rfl, hb2⟩; have HBC := Lib.hid (below_then HBC.out HBC.out.size hb2); have kk := HK.out _ HBC.out; clear hb2)
    | (go_simp; go_at_call 53; (first | rw [iw1] | skip); refine (HC.out _ HBC.out).mono ?_; rintro e w3 ⟨rfl, h3⟩; have H3 := Lib.hid ((Rdp.of_below HH.out HBC.out).then h3); clear h3))
  all_goals
    go_wp2
    go_loopw [5] (fun v5 wr => ∃ pos : Nat, wr = w3.iter ⟨#[50]⟩ pos ∧ ((pos = 0 ∧ v5 = .int .i64 0) ∨ (pos = 1 ∧ v5 = .int .i64 2))) (fun _ wr => 1 - wr.iterPos w3.heap.size)
    case atStart => exact ⟨0, rfl, .inl ⟨rfl, rfl⟩⟩
    case round =>
      obtain ⟨pos, rfl, (⟨rfl, rfl⟩ | ⟨rfl, rfl⟩)⟩ := hrel
      · have hnx2 : ∀ ty, (Instr.next (.pointer (some ⟨w3.heap.size, 0, none⟩)) true ty).run Tryz.prog (w3.iter ⟨#[50]⟩ 0) = _ := fun ty => run_next_ascii w3 ⟨#[50]⟩ 0 ty (by decide) (by decide)
        rw [show ((⟨#[50]⟩ : ByteArray)[0].toNat : Int) = 50 from rfl] at hnx2
        go_wp2
        go_roundw
        case rel => exact ⟨1, rfl, .inr ⟨rfl, rfl⟩⟩
        case measure => simp
      · have hnx2 : ∀ ty, (Instr.next (.pointer (some ⟨w3.heap.size, 0, none⟩)) true ty).run Tryz.prog (w3.iter ⟨#[50]⟩ 1) = _ := fun ty => run_next_end w3 ⟨#[50]⟩ 1 ty (by decide)
        have hbi : Below w3.heap.size w3 (w3.iter ⟨#[50]⟩ 1) := (Below.refl _ _).alloc (Nat.le_refl _) _
        go_wp2
        go_ret2
        exact ⟨rfl, H3.out.then (Rdp.of_below H3.out.1 hbi)⟩

theorem p1 : Lib.hasPrefix (⟨#[50, 100, 100, 65, 120]⟩ : ByteArray).data.toList [48] = false := by decide +kernel
theorem p2 : Lib.hasPrefix (⟨#[65, 120]⟩ : ByteArray).data.toList [48] = false := by decide +kernel
theorem p3 : Lib.hasPrefix (⟨#[103]⟩ : ByteArray).data.toList [48] = false := by decide +kernel
theorem t1 : Lib.trimLeftS (⟨#[50, 100, 100, 65, 120]⟩ : ByteArray).data.toList dgs.data.toList = (⟨#[100, 100, 65, 120]⟩ : ByteArray).data.toList := by decide +kernel
theorem t2 : Lib.trimLeftS (⟨#[65, 120]⟩ : ByteArray).data.toList dgs.data.toList = (⟨#[65, 120]⟩ : ByteArray).data.toList := by decide +kernel
theorem t3 : Lib.trimLeftS (⟨#[103]⟩ : ByteArray).data.toList dgs.data.toList = (⟨#[103]⟩ : ByteArray).data.toList := by decide +kernel

theorem c1a : (⟨#[100, 100, 65, 120]⟩ : ByteArray).extract 0 1 = ⟨#[100]⟩ := by decide +kernel
theorem c1b : (⟨#[100, 100, 65, 120]⟩ : ByteArray).extract 1 (⟨#[100, 100, 65, 120]⟩ : ByteArray).size = ⟨#[100, 65, 120]⟩ := by decide +kernel
theorem c2a : (⟨#[65, 120]⟩ : ByteArray).extract 0 1 = ⟨#[65]⟩ := by decide +kernel
theorem c2b : (⟨#[65, 120]⟩ : ByteArray).extract 1 (⟨#[65, 120]⟩ : ByteArray).size = ⟨#[120]⟩ := by decide +kernel
theorem c3a : (⟨#[103]⟩ : ByteArray).extract 0 1 = ⟨#[103]⟩ := by decide +kernel
theorem c3b : (⟨#[103]⟩ : ByteArray).extract 1 (⟨#[103]⟩ : ByteArray).size = ⟨#[]⟩ := by decide +kernel
set_option maxRecDepth 100000 in
set_option maxHeartbeats 1000000 in
theorem rkey_dd {w : World} {G : Nat} (h : Rd w G ⟨#[50, 100, 100, 65, 120]⟩) :
    Calls Tryz.prog 33 #[.pointer (some ⟨G, 0, none⟩)] w fun e w' => e = .returned (.tuple #[.agg #[.int .i64 2, .string ⟨#[100, 100]⟩, .string ⟨#[]⟩], .bool true]) ∧ Rdp w G ⟨#[65, 120]⟩ w' := by
  have HH := Lib.hid h
  have HCO := Lib.hid (fun V (hb : Below w.heap.size w V) => rcount_two (w := V) (t := ⟨#[100, 100, 65, 120]⟩) ((hb.block G (blk_lt h)).trans h) (by decide) p1 t1 (by decide) (by decide) (by decide))
  have HCU := Lib.hid (fun V (hb : Rd V G ⟨#[100, 100, 65, 120]⟩) => rcut_any (w := V) hb 1 (by decide) (by decide))
  rw [c1a, c1b, show ((1 : Nat) : Int) = 1 from rfl] at HCU
  have hal := below_alloc (Below.refl w.heap.size w) (.cells #[.int .i64 0, .string ⟨#[]⟩, .string ⟨#[]⟩] 34)
  have HAL := Lib.hid hal
  clear h hal
  go_enter Tryz.func33, Tryz.ntmps33
  go_wp2_with (first
    | (go_at_call 52; refine (HCO.out _ HAL.out).mono ?_; rintro e w2 ⟨rfl, h2⟩; have k2 : w2.cell? ⟨G, 0, none⟩ = some (.string ⟨#[100, 100, 65, 120]⟩) := (by rw [blk_cell h2.1]; rfl); have H2 := Lib.hid h2; clear h2)
    | (go_at_call 53; refine (HCU.out _ H2.out.1).mono ?_; rintro e w3 ⟨rfl, h3⟩; have k3 : w3.cell? ⟨G, 0, none⟩ = some (.string ⟨#[100, 65, 120]⟩) := (by rw [blk_cell h3.1]; rfl); have z3 : w3.frozen? ⟨G, 0, none⟩ = false := blk_frozen h3.1 0; have H3 := Lib.hid (H2.out.then h3); clear h3))
  have hA : (w.alloc (.cells #[.int .i64 0, .string ⟨#[]⟩, .string ⟨#[]⟩] 34)).heap[w.heap.size]? = some (.cells #[.int .i64 0, .string ⟨#[]⟩, .string ⟨#[]⟩] 34 (0, 0)) := heap_alloc_new w _
  have hGl := blk_lt HH.out
  have hA3 : w3.heap[w.heap.size]? = some (.cells #[.int .i64 0, .string ⟨#[]⟩, .string ⟨#[]⟩] 34 (0, 0)) := (H3.out.2.block _ (by simp) (fun e => by have := Option.some.inj e; omega)).trans hA
  have hA3l := blk_lt hA3
  have hW := below_alloc (Below.refl w3.heap.size w3) (.cells #[.int .i64 2, .string ⟨#[100]⟩, .string ⟨#[]⟩] 34)
  have hK : (w3.alloc (.cells #[.int .i64 2, .string ⟨#[100]⟩, .string ⟨#[]⟩] 34)).heap[w3.heap.size]? = some (.cells #[.int .i64 2, .string ⟨#[100]⟩, .string ⟨#[]⟩] 34 (0, 0)) := heap_alloc_new w3 _
  obtain ⟨V, hV⟩ : ∃ V, (w3.alloc (.cells #[.int .i64 2, .string ⟨#[100]⟩, .string ⟨#[]⟩] 34)) = V := ⟨_, rfl⟩
  rw [hV] at hW hK ⊢
  have hG4 : V.heap[G]? = some (.cells #[.string ⟨#[100, 65, 120]⟩] 96 (0, 0)) := (hW.block G (blk_lt H3.out.1)).trans H3.out.1
  have hA4 := (hW.block _ hA3l).trans hA3
  have HV := Lib.hid (And.intro hW hV)
  obtain ⟨K, hKe⟩ : ∃ K, w3.heap.size = K := ⟨_, rfl⟩
  obtain ⟨A, hAe⟩ : ∃ A, w.heap.size = A := ⟨_, rfl⟩
  rw [hKe] at hK ⊢
  rw [hAe] at hA4 ⊢
  have hGK : G ≠ K := by have := blk_lt H3.out.1; omega
  have hAK : A ≠ K := by omega
  have hGA : G ≠ A := by omega
  have g0 : V.cell? ⟨G, 0, none⟩ = some (.string ⟨#[100, 65, 120]⟩) := by rw [blk_cell hG4]; rfl
  have q0 : V.cell? ⟨K, 0, none⟩ = some (.int .i64 2) := by rw [blk_cell hK]; rfl
  have q1 : V.cell? ⟨K, 1, none⟩ = some (.string ⟨#[100]⟩) := by rw [blk_cell hK]; rfl
  have q2 : V.cell? ⟨K, 2, none⟩ = some (.string ⟨#[]⟩) := by rw [blk_cell hK]; rfl
  have z0 : V.frozen? ⟨G, 0, none⟩ = false := blk_frozen hG4 0
  have zk0 : V.frozen? ⟨K, 0, none⟩ = false := blk_frozen hK 0
  have zk1 : V.frozen? ⟨K, 1, none⟩ = false := blk_frozen hK 1
  have zk2 : V.frozen? ⟨K, 2, none⟩ = false := blk_frozen hK 2
  have za0 : V.frozen? ⟨A, 0, none⟩ = false := blk_frozen hA4 0
  have za1 : V.frozen? ⟨A, 1, none⟩ = false := blk_frozen hA4 1
  have za2 : V.frozen? ⟨A, 2, none⟩ = false := blk_frozen hA4 2
  have a0 : V.cell? ⟨A, 0, none⟩ = some (.int .i64 0) := by rw [blk_cell hA4]; rfl
  have a1 : V.cell? ⟨A, 1, none⟩ = some (.string ⟨#[]⟩) := by rw [blk_cell hA4]; rfl
  have a2 : V.cell? ⟨A, 2, none⟩ = some (.string ⟨#[]⟩) := by rw [blk_cell hA4]; rfl
  have hKG : K ≠ G := fun e => hGK e.symm
  have hKA : K ≠ A := fun e => hAK e.symm
  have hAG : A ≠ G := fun e => hGA e.symm
  have HCP := Lib.hid (fun W => Tryz.strings_CutPrefix ⟨#[100, 65, 120]⟩ ⟨#[100]⟩ W)
  clear hA hA3 hW hV z3 k3
  go_region_held3 (fun V => V.cell? ⟨G, 0, none⟩ = some (.string ⟨#[100, 65, 120]⟩) ∧ V.cell? ⟨K, 1, none⟩ = some (.string ⟨#[100]⟩)) (first | exact ⟨g0, q1⟩ | go_keep) (first
    | (go_at_call 54; refine (HCP.out _).mono ?_; rintro e w5 ⟨rfl, rfl⟩))
  go_wp2
  have hX1 : (⟨(Lib.trimPrefix [100, 65, 120] [100]).toArray⟩ : ByteArray) = ⟨#[65, 120]⟩ := by decide +kernel
  have hX2 : Lib.hasPrefix [100, 65, 120] [100] = true := by decide +kernel
  have hX3 : (⟨#[100]⟩ : ByteArray) ++ ⟨#[100]⟩ = ⟨#[100, 100]⟩ := by decide +kernel
  rw [hX1, hX2, hX3]
  have hG5 := blk_far (p := ⟨A, 2, none⟩) (blk_far (p := ⟨A, 1, none⟩) (blk_far (p := ⟨A, 0, none⟩) (blk_far (p := ⟨K, 1, none⟩) (blk_set hG4 0 (.string ⟨#[65, 120]⟩)) hGK (.string ⟨#[100, 100]⟩)) hGA (.int .i64 2)) hGA (.string ⟨#[100, 100]⟩)) hGA (.string ⟨#[]⟩)
  have hA5 := blk_set (blk_set (blk_set (blk_far (p := ⟨K, 1, none⟩) (blk_far (p := ⟨G, 0, none⟩) hA4 hAG (.string ⟨#[65, 120]⟩)) hAK (.string ⟨#[100, 100]⟩)) 0 (.int .i64 2)) 1 (.string ⟨#[100, 100]⟩)) 2 (.string ⟨#[]⟩)
  have hKs : w.heap.size ≤ K := by omega
  have hgV : w.grownBy V (some G) := ((Rdp.of_below HH.out HAL.out).then (Rdp.then H3.out (Rdp.of_below H3.out.1 HV.out.1))).2
  have hgZ := kgrown_drew (grown_set (grown_set (grown_set (grown_set (grown_set hgV (p := ⟨G, 0, none⟩) (.inl rfl) (.string ⟨#[65, 120]⟩)) (p := ⟨K, 1, none⟩) (.inr hKs) (.string ⟨#[100, 100]⟩)) (p := ⟨A, 0, none⟩) (.inr (Nat.le_of_eq hAe)) (.int .i64 2)) (p := ⟨A, 1, none⟩) (.inr (Nat.le_of_eq hAe)) (.string ⟨#[100, 100]⟩)) (p := ⟨A, 2, none⟩) (.inr (Nat.le_of_eq hAe)) (.string ⟨#[]⟩))
  obtain ⟨Z, hZ⟩ : ∃ Z, ((((V.setCell ⟨G, 0, none⟩ (.string ⟨#[65, 120]⟩)).setCell ⟨K, 1, none⟩ (.string ⟨#[100, 100]⟩)).setCell ⟨A, 0, none⟩ (.int .i64 2)).setCell ⟨A, 1, none⟩ (.string ⟨#[100, 100]⟩)).setCell ⟨A, 2, none⟩ (.string ⟨#[]⟩) = Z := ⟨_, rfl⟩
  rw [hZ] at hG5 hA5 hgZ ⊢
  have hA6 : Z.drew.heap[A]? = _ := hA5
  have r0 : Z.drew.cell? ⟨A, 0, none⟩ = some (.int .i64 2) := by rw [blk_cell hA6]; rfl
  have r1 : Z.drew.cell? ⟨A, 1, none⟩ = some (.string ⟨#[100, 100]⟩) := by rw [blk_cell hA6]; rfl
  have r2 : Z.drew.cell? ⟨A, 2, none⟩ = some (.string ⟨#[]⟩) := by rw [blk_cell hA6]; rfl
  clear hZ hA5 hA6 hgV
  refine bodyPost_ret (by simp [results, Tryz.results33, r0, r1, r2, go_sem]; try rfl) rfl ?_
  exact ⟨rfl, hG5, hgZ⟩

end Go.Proofs.YtdhemdeapphfoaaGreatDoor

/- emendatorlaw19.known, walked: the keys Ax, g; Parse; known. -/
set_option linter.unusedVariables false
set_option linter.unusedSimpArgs false
namespace Go.Proofs.YtdhemdeapphfoaaGreatDoor
open Go.RowKit Go.Shelf Go.Maps Go.Proofs.YtdhemdeapphfoaaGreatDoorW.PrintWords Go.Proofs.YtdhemdeapphfoaaGreatDoorW.PrintLast

theorem ne6 {G A K : Nat} (h1 : G < K) (h2 : A < K) (h3 : G < A) : G ≠ K ∧ K ≠ G ∧ A ≠ K ∧ K ≠ A ∧ G ≠ A ∧ A ≠ G := by omega
theorem fcells {w : World} {G A : Nat} {s : ByteArray} (h : Rd w G s) (hA : w.heap[A]? = some (.cells #[.int .i64 0, .string ⟨#[]⟩, .string ⟨#[]⟩] 34 (0, 0))) :
    (∀ o, (w.alloc o).frozen? ⟨G, 0, none⟩ = false) ∧ (∀ o, (w.alloc o).frozen? ⟨A, 0, none⟩ = false) ∧ (∀ o, (w.alloc o).frozen? ⟨A, 1, none⟩ = false) ∧ (∀ o, (w.alloc o).frozen? ⟨A, 2, none⟩ = false) ∧ (∀ o, (w.alloc o).cell? ⟨A, 0, none⟩ = some (.int .i64 0)) ∧ (∀ o, (w.alloc o).cell? ⟨A, 1, none⟩ = some (.string ⟨#[]⟩)) ∧ (∀ o, (w.alloc o).cell? ⟨A, 2, none⟩ = some (.string ⟨#[]⟩)) := by
  have hG2 : ∀ o, (w.alloc o).heap[G]? = _ := fun o => (Below.heap_alloc w o G (blk_lt h)).trans h
  have hA2 : ∀ o, (w.alloc o).heap[A]? = _ := fun o => (Below.heap_alloc w o A (blk_lt hA)).trans hA
  exact ⟨fun o => blk_frozen (hG2 o) 0, fun o => blk_frozen (hA2 o) 0, fun o => blk_frozen (hA2 o) 1, fun o => blk_frozen (hA2 o) 2, fun o => by rw [blk_cell (hA2 o)]; rfl, fun o => by rw [blk_cell (hA2 o)]; rfl, fun o => by rw [blk_cell (hA2 o)]; rfl⟩

set_option maxRecDepth 100000 in
theorem slcut_x (W : World) : Calls Tryz.prog 75 #[.string ⟨#[120]⟩, .string ⟨#[27]⟩] W fun e w' => e = .returned (.tuple #[.string ⟨#[120]⟩, .string ⟨#[]⟩, .bool false]) ∧ w' = W := by
  have HI : Hid (∀ w, Calls Tryz.prog 109 #[.string ⟨#[120]⟩, .string ⟨#[27]⟩] w fun e w' => e = .returned (.int .i64 (-1)) ∧ w' = w) := by
    intro w
    have := Tryz.stringslite_Index_one ⟨#[120]⟩ 27 w
    rw [show Lib.indexByte (⟨#[120]⟩ : ByteArray).data.toList 27 = -1 by decide +kernel] at this
    exact this
  go_enter Tryz.func75, Tryz.ntmps75
  go_wp2_with (first
    | (go_at_call 109; (with_reducible refine (HI.out _).mono ?_); rintro e w1 ⟨rfl, rfl⟩)
    | go_in)
  go_ret3
  exact ⟨rfl, rfl⟩
set_option maxRecDepth 100000 in
theorem cut_x (W : World) : Calls Tryz.prog 55 #[.string ⟨#[120]⟩, .string ⟨#[27]⟩] W fun e w' => e = .returned (.tuple #[.string ⟨#[120]⟩, .string ⟨#[]⟩, .bool false]) ∧ w' = W := by
  have HC := Lib.hid slcut_x
  go_enter Tryz.func55, Tryz.ntmps55
  go_wp2_with (first
    | (go_at_call 75; refine (HC.out _).mono ?_; rintro e w1 ⟨rfl, rfl⟩)
    | go_in)
  go_ret3
  exact ⟨rfl, rfl⟩

set_option maxRecDepth 100000 in
set_option maxHeartbeats 1000000 in
theorem rkey_A {w : World} {G : Nat} (h : Rd w G ⟨#[65, 120]⟩) :
    Calls Tryz.prog 33 #[.pointer (some ⟨G, 0, none⟩)] w fun e w' => e = .returned (.tuple #[.agg #[.int .i64 0, .string ⟨#[65]⟩, .string ⟨#[120]⟩], .bool true]) ∧ Rdp w G ⟨#[]⟩ w' := by
  have HH := Lib.hid h
  have HCO := Lib.hid (fun V (hb : Below w.heap.size w V) => rcount_none (w := V) ((hb.block G (blk_lt h)).trans h) (by decide) p2 t2)
  have HCU := Lib.hid (fun V (hb : Rd V G ⟨#[65, 120]⟩) => rcut_any (w := V) hb 1 (by decide) (by decide))
  rw [c2a, c2b, show ((1 : Nat) : Int) = 1 from rfl] at HCU
  have hal := below_alloc (Below.refl w.heap.size w) (.cells #[.int .i64 0, .string ⟨#[]⟩, .string ⟨#[]⟩] 34)
  have HAL := Lib.hid hal
  have HCX := Lib.hid cut_x
  have hGl := blk_lt h
  have hA2 := Lib.hid (show ∀ w2 : World, (w.alloc (.cells #[.int .i64 0, .string ⟨#[]⟩, .string ⟨#[]⟩] 34)).grownBy w2 (some G) → w2.heap[w.heap.size]? = some (.cells #[.int .i64 0, .string ⟨#[]⟩, .string ⟨#[]⟩] 34 (0, 0)) from fun w2 h => (h.block _ (by simp) (fun e => by have := Option.some.inj e; omega)).trans (heap_alloc_new w _))
  clear h hal
  go_enter Tryz.func33, Tryz.ntmps33
  go_wp2_with (first
    | (go_at_call 52; refine (HCO.out _ HAL.out).mono ?_; rintro e w2 ⟨rfl, h2⟩; have k2 : w2.cell? ⟨G, 0, none⟩ = some (.string ⟨#[65, 120]⟩) := (by rw [blk_cell h2.1]; rfl); have h2s := h2.2; have H2 := Lib.hid h2; clear h2)
    | (go_at_call 53; refine (HCU.out _ H2.out.1).mono ?_; rintro e w3 ⟨rfl, h3⟩; have k3 : w3.cell? ⟨G, 0, none⟩ = some (.string ⟨#[120]⟩) := (by rw [blk_cell h3.1]; rfl); have z3 : w3.frozen? ⟨G, 0, none⟩ = false := blk_frozen h3.1 0; have k3a : ∀ o, (w3.alloc o).cell? ⟨G, 0, none⟩ = some (.string ⟨#[120]⟩) := (fun o => (World.cell?_of_block (a := ⟨G, 0, none⟩) (Below.heap_alloc w3 o G (blk_lt h3.1))).trans k3); have hA3 := (h3.2.block _ (blk_lt (hA2.out _ h2s)) (fun e => by have := Option.some.inj e; omega)).trans (hA2.out _ h2s); obtain ⟨n1, n2, n3, n4, n5, n6⟩ := ne6 (blk_lt h3.1) (blk_lt hA3) hGl; obtain ⟨f1, f2, f3, f4, f5, f6, f7⟩ := fcells h3.1 hA3; have HA3 := Lib.hid hA3; have H3 := Lib.hid (H2.out.then h3); clear h3 hA3)
    | (go_at_call 55; refine (HCX.out _).mono ?_; rintro e w5 ⟨rfl, rfl⟩))
  have hX1 := HA3.out
  have hG4 := (Below.heap_alloc w3 (.cells #[.int .i64 0, .string ⟨#[65]⟩, .string ⟨#[120]⟩] 34) G (blk_lt H3.out.1)).trans H3.out.1
  have hA4 := (Below.heap_alloc w3 (.cells #[.int .i64 0, .string ⟨#[65]⟩, .string ⟨#[120]⟩] 34) w.heap.size (blk_lt HA3.out)).trans HA3.out
  have hG5 := blk_far (p := ⟨w.heap.size, 2, none⟩) (blk_far (p := ⟨w.heap.size, 1, none⟩) (blk_far (p := ⟨w.heap.size, 0, none⟩) (blk_set hG4 0 (.string ⟨#[]⟩)) n5 (.int .i64 0)) n5 (.string ⟨#[65]⟩)) n5 (.string ⟨#[120]⟩)
  have hA5 := blk_set (blk_set (blk_set (blk_far (p := ⟨G, 0, none⟩) hA4 n6 (.string ⟨#[]⟩)) 0 (.int .i64 0)) 1 (.string ⟨#[65]⟩)) 2 (.string ⟨#[120]⟩)
  have hgV : w.grownBy (w3.alloc (.cells #[.int .i64 0, .string ⟨#[65]⟩, .string ⟨#[120]⟩] 34)) (some G) := ((Rdp.of_below HH.out HAL.out).then (Rdp.then H3.out (Rdp.of_below H3.out.1 (below_alloc (Below.refl _ w3) _)))).2
  have hgZ := grown_set (grown_set (grown_set (grown_set hgV (p := ⟨G, 0, none⟩) (.inl rfl) (.string ⟨#[]⟩)) (p := ⟨w.heap.size, 0, none⟩) (.inr (Nat.le_refl _)) (.int .i64 0)) (p := ⟨w.heap.size, 1, none⟩) (.inr (Nat.le_refl _)) (.string ⟨#[65]⟩)) (p := ⟨w.heap.size, 2, none⟩) (.inr (Nat.le_refl _)) (.string ⟨#[120]⟩)
  obtain ⟨Z, hZ⟩ : ∃ Z, ((((w3.alloc (.cells #[.int .i64 0, .string ⟨#[65]⟩, .string ⟨#[120]⟩] 34)).setCell ⟨G, 0, none⟩ (.string ⟨#[]⟩)).setCell ⟨w.heap.size, 0, none⟩ (.int .i64 0)).setCell ⟨w.heap.size, 1, none⟩ (.string ⟨#[65]⟩)).setCell ⟨w.heap.size, 2, none⟩ (.string ⟨#[120]⟩) = Z := ⟨_, rfl⟩
  rw [hZ] at hG5 hA5 hgZ ⊢
  have r0 : Z.cell? ⟨w.heap.size, 0, none⟩ = some (.int .i64 0) := by rw [blk_cell hA5]; rfl
  have r1 : Z.cell? ⟨w.heap.size, 1, none⟩ = some (.string ⟨#[65]⟩) := by rw [blk_cell hA5]; rfl
  have r2 : Z.cell? ⟨w.heap.size, 2, none⟩ = some (.string ⟨#[120]⟩) := by rw [blk_cell hA5]; rfl
  clear hZ hA5 hgV
  refine bodyPost_ret (by simp [results, Tryz.results33, r0, r1, r2, go_sem]; try rfl) rfl ?_
  exact ⟨rfl, hG5, hgZ⟩

set_option maxRecDepth 100000 in
set_option maxHeartbeats 1000000 in
theorem rkey_g {w : World} {G : Nat} (h : Rd w G ⟨#[103]⟩) :
    Calls Tryz.prog 33 #[.pointer (some ⟨G, 0, none⟩)] w fun e w' => e = .returned (.tuple #[.agg #[.int .i64 0, .string ⟨#[103, 103]⟩, .string ⟨#[]⟩], .bool false]) ∧ Rdp w G ⟨#[]⟩ w' := by
  have HH := Lib.hid h
  have HCO := Lib.hid (fun V (hb : Below w.heap.size w V) => rcount_none (w := V) ((hb.block G (blk_lt h)).trans h) (by decide) p3 t3)
  have HCU := Lib.hid (fun V (hb : Rd V G ⟨#[103]⟩) => rcut_any (w := V) hb 1 (by decide) (by decide))
  rw [c3a, c3b, show ((1 : Nat) : Int) = 1 from rfl] at HCU
  have hal := below_alloc (Below.refl w.heap.size w) (.cells #[.int .i64 0, .string ⟨#[]⟩, .string ⟨#[]⟩] 34)
  have HAL := Lib.hid hal
  clear h hal
  go_enter Tryz.func33, Tryz.ntmps33
  go_wp2_with (first
    | (go_at_call 52; refine (HCO.out _ HAL.out).mono ?_; rintro e w2 ⟨rfl, h2⟩; have k2 : w2.cell? ⟨G, 0, none⟩ = some (.string ⟨#[103]⟩) := (by rw [blk_cell h2.1]; rfl); have H2 := Lib.hid h2; clear h2)
    | (go_at_call 53; refine (HCU.out _ H2.out.1).mono ?_; rintro e w3 ⟨rfl, h3⟩; have k3 : w3.cell? ⟨G, 0, none⟩ = some (.string ⟨#[]⟩) := (by rw [blk_cell h3.1]; rfl); have z3 : w3.frozen? ⟨G, 0, none⟩ = false := blk_frozen h3.1 0; have H3 := Lib.hid (H2.out.then h3); clear h3))
  have hA : (w.alloc (.cells #[.int .i64 0, .string ⟨#[]⟩, .string ⟨#[]⟩] 34)).heap[w.heap.size]? = some (.cells #[.int .i64 0, .string ⟨#[]⟩, .string ⟨#[]⟩] 34 (0, 0)) := heap_alloc_new w _
  have hGl := blk_lt HH.out
  have hA3 : w3.heap[w.heap.size]? = some (.cells #[.int .i64 0, .string ⟨#[]⟩, .string ⟨#[]⟩] 34 (0, 0)) := (H3.out.2.block _ (by simp) (fun e => by have := Option.some.inj e; omega)).trans hA
  have hA3l := blk_lt hA3
  have hW := below_alloc (Below.refl w3.heap.size w3) (.cells #[.int .i64 0, .string ⟨#[103]⟩, .string ⟨#[]⟩] 34)
  have hK : (w3.alloc (.cells #[.int .i64 0, .string ⟨#[103]⟩, .string ⟨#[]⟩] 34)).heap[w3.heap.size]? = some (.cells #[.int .i64 0, .string ⟨#[103]⟩, .string ⟨#[]⟩] 34 (0, 0)) := heap_alloc_new w3 _
  obtain ⟨V, hV⟩ : ∃ V, (w3.alloc (.cells #[.int .i64 0, .string ⟨#[103]⟩, .string ⟨#[]⟩] 34)) = V := ⟨_, rfl⟩
  rw [hV] at hW hK ⊢
  have hG4 : V.heap[G]? = some (.cells #[.string ⟨#[]⟩] 96 (0, 0)) := (hW.block G (blk_lt H3.out.1)).trans H3.out.1
  have hA4 := (hW.block _ hA3l).trans hA3
  have HV := Lib.hid (And.intro hW hV)
  obtain ⟨K, hKe⟩ : ∃ K, w3.heap.size = K := ⟨_, rfl⟩
  obtain ⟨A, hAe⟩ : ∃ A, w.heap.size = A := ⟨_, rfl⟩
  rw [hKe] at hK ⊢
  rw [hAe] at hA4 ⊢
  have hGK : G ≠ K := by have := blk_lt H3.out.1; omega
  have hAK : A ≠ K := by omega
  have hGA : G ≠ A := by omega
  have g0 : V.cell? ⟨G, 0, none⟩ = some (.string ⟨#[]⟩) := by rw [blk_cell hG4]; rfl
  have q0 : V.cell? ⟨K, 0, none⟩ = some (.int .i64 0) := by rw [blk_cell hK]; rfl
  have q1 : V.cell? ⟨K, 1, none⟩ = some (.string ⟨#[103]⟩) := by rw [blk_cell hK]; rfl
  have q2 : V.cell? ⟨K, 2, none⟩ = some (.string ⟨#[]⟩) := by rw [blk_cell hK]; rfl
  have z0 : V.frozen? ⟨G, 0, none⟩ = false := blk_frozen hG4 0
  have zk0 : V.frozen? ⟨K, 0, none⟩ = false := blk_frozen hK 0
  have zk1 : V.frozen? ⟨K, 1, none⟩ = false := blk_frozen hK 1
  have zk2 : V.frozen? ⟨K, 2, none⟩ = false := blk_frozen hK 2
  have za0 : V.frozen? ⟨A, 0, none⟩ = false := blk_frozen hA4 0
  have za1 : V.frozen? ⟨A, 1, none⟩ = false := blk_frozen hA4 1
  have za2 : V.frozen? ⟨A, 2, none⟩ = false := blk_frozen hA4 2
  have a0 : V.cell? ⟨A, 0, none⟩ = some (.int .i64 0) := by rw [blk_cell hA4]; rfl
  have a1 : V.cell? ⟨A, 1, none⟩ = some (.string ⟨#[]⟩) := by rw [blk_cell hA4]; rfl
  have a2 : V.cell? ⟨A, 2, none⟩ = some (.string ⟨#[]⟩) := by rw [blk_cell hA4]; rfl
  have hKG : K ≠ G := fun e => hGK e.symm
  have hKA : K ≠ A := fun e => hAK e.symm
  have hAG : A ≠ G := fun e => hGA e.symm
  have HCP := Lib.hid (fun W => Tryz.strings_CutPrefix ⟨#[]⟩ ⟨#[103]⟩ W)
  clear hA hA3 hW hV z3 k3
  go_region_held3 (fun V => V.cell? ⟨G, 0, none⟩ = some (.string ⟨#[]⟩) ∧ V.cell? ⟨K, 1, none⟩ = some (.string ⟨#[103]⟩)) (first | exact ⟨g0, q1⟩ | go_keep) (first
    | (go_at_call 54; refine (HCP.out _).mono ?_; rintro e w5 ⟨rfl, rfl⟩))
  go_wp2
  have hX1 : (⟨(Lib.trimPrefix [] [103]).toArray⟩ : ByteArray) = ⟨#[]⟩ := by decide +kernel
  have hX2 : Lib.hasPrefix [] [103] = false := by decide +kernel
  have hX3 : (⟨#[103]⟩ : ByteArray) ++ ⟨#[103]⟩ = ⟨#[103, 103]⟩ := by decide +kernel
  rw [hX1, hX2, hX3]
  have hG5 := blk_far (p := ⟨A, 2, none⟩) (blk_far (p := ⟨A, 1, none⟩) (blk_far (p := ⟨A, 0, none⟩) (blk_far (p := ⟨K, 1, none⟩) (blk_set hG4 0 (.string ⟨#[]⟩)) hGK (.string ⟨#[103, 103]⟩)) hGA (.int .i64 0)) hGA (.string ⟨#[103, 103]⟩)) hGA (.string ⟨#[]⟩)
  have hA5 := blk_set (blk_set (blk_set (blk_far (p := ⟨K, 1, none⟩) (blk_far (p := ⟨G, 0, none⟩) hA4 hAG (.string ⟨#[]⟩)) hAK (.string ⟨#[103, 103]⟩)) 0 (.int .i64 0)) 1 (.string ⟨#[103, 103]⟩)) 2 (.string ⟨#[]⟩)
  have hKs : w.heap.size ≤ K := by omega
  have hgV : w.grownBy V (some G) := ((Rdp.of_below HH.out HAL.out).then (Rdp.then H3.out (Rdp.of_below H3.out.1 HV.out.1))).2
  have hgZ := kgrown_drew (grown_set (grown_set (grown_set (grown_set (grown_set hgV (p := ⟨G, 0, none⟩) (.inl rfl) (.string ⟨#[]⟩)) (p := ⟨K, 1, none⟩) (.inr hKs) (.string ⟨#[103, 103]⟩)) (p := ⟨A, 0, none⟩) (.inr (Nat.le_of_eq hAe)) (.int .i64 0)) (p := ⟨A, 1, none⟩) (.inr (Nat.le_of_eq hAe)) (.string ⟨#[103, 103]⟩)) (p := ⟨A, 2, none⟩) (.inr (Nat.le_of_eq hAe)) (.string ⟨#[]⟩))
  obtain ⟨Z, hZ⟩ : ∃ Z, ((((V.setCell ⟨G, 0, none⟩ (.string ⟨#[]⟩)).setCell ⟨K, 1, none⟩ (.string ⟨#[103, 103]⟩)).setCell ⟨A, 0, none⟩ (.int .i64 0)).setCell ⟨A, 1, none⟩ (.string ⟨#[103, 103]⟩)).setCell ⟨A, 2, none⟩ (.string ⟨#[]⟩) = Z := ⟨_, rfl⟩
  rw [hZ] at hG5 hA5 hgZ ⊢
  have hA6 : Z.drew.heap[A]? = _ := hA5
  have r0 : Z.drew.cell? ⟨A, 0, none⟩ = some (.int .i64 0) := by rw [blk_cell hA6]; rfl
  have r1 : Z.drew.cell? ⟨A, 1, none⟩ = some (.string ⟨#[103, 103]⟩) := by rw [blk_cell hA6]; rfl
  have r2 : Z.drew.cell? ⟨A, 2, none⟩ = some (.string ⟨#[]⟩) := by rw [blk_cell hA6]; rfl
  clear hZ hA5 hA6 hgV
  refine bodyPost_ret (by simp [results, Tryz.results33, r0, r1, r2, go_sem]; try rfl) rfl ?_
  exact ⟨rfl, hG5, hgZ⟩


end Go.Proofs.YtdhemdeapphfoaaGreatDoor

/- norm.Parse of the keys 2ddAx, and of g; emendatorlaw19.known: walked. -/
set_option linter.unusedVariables false
set_option linter.unusedSimpArgs false
namespace Go.Proofs.YtdhemdeapphfoaaGreatDoor
open Go.RowKit Go.Shelf Go.Maps Go.Proofs.YtdhemdeapphfoaaGreatDoorW.PrintWords Go.Proofs.YtdhemdeapphfoaaGreatDoorW.PrintLast

theorem infoK : (Tryz.prog.info? 34).map (fun i => (i.zero, i.size, i.bytes)) = some (some (.agg #[.int .i64 0, .string ⟨#[]⟩, .string ⟨#[]⟩]), 3, 40) := by kernel_rfl
def stS : Nat → ByteArray
  | 0 => ⟨#[50, 100, 100, 65, 120]⟩
  | 1 => ⟨#[65, 120]⟩
  | _ => ⟨#[]⟩
def stR : Nat → List Value
  | 0 => []
  | 1 => [.int .i64 2, .string ⟨#[100, 100]⟩, .string ⟨#[]⟩]
  | _ => [.int .i64 2, .string ⟨#[100, 100]⟩, .string ⟨#[]⟩, .int .i64 0, .string ⟨#[65]⟩, .string ⟨#[120]⟩]
/-- how far one has come -/
def stOf (G : Nat) (w : World) : Nat := match w.cell? ⟨G, 0, none⟩ with | some (.string s) => s.size | _ => 0

theorem stOf_is {w : World} {G : Nat} {s : ByteArray} (h : Rd w G s) : stOf G w = s.size := by
  unfold stOf
  rw [blk_cell h]
  rfl
theorem row_keep2 {w w2 : World} {G n : Nat} {v : Value} {cs : List Value} (h : w.ownsRow 0 34 3 v n cs) (hg : w.grownBy w2 (some G)) (hne : ∀ b, v.ownBlock = some b → b ≠ G) (o o' : Obj) : ((w2.alloc o).alloc o').ownsRow 0 34 3 v n cs :=
  ((owns_step h fun b hb => hg.block b (owns_lt h b hb) (fun e => hne b hb (Option.some.inj e))).alloc o).alloc o'

theorem key_step {w wr w2 w5 : World} {s : ByteArray} {v v1 : Value} {n : Nat} {cs : List Value} (hb : Below w.heap.size w wr) (h2 : Rdp wr w.heap.size s w2) (hr : wr.ownsRow 0 34 3 v n cs) (hv : ∀ b, v.ownBlock = some b → b ≠ w.heap.size ∧ w.heap.size ≤ b) (o o' : Obj) (hg : ((w2.alloc o).alloc o').grownBy w5 v.ownBlock) (ha : v1.ownBlock = v.ownBlock ∨ v1.ownBlock = some ((w2.alloc o).alloc o').heap.size) :
    Rd w5 w.heap.size s ∧ (∀ b, v1.ownBlock = some b → b ≠ w.heap.size ∧ w.heap.size ≤ b) ∧ Below w.heap.size w w5 := by
  have hG2 := blk_lt h2.1
  have hb2 : Below w.heap.size w w2 := ⟨h2.2.os.trans hb.os, h2.2.tape.trans hb.tape, h2.2.output.trans hb.output, Nat.le_trans hb.size h2.2.size, fun b hlt => (h2.2.block b (Nat.lt_of_lt_of_le hlt hb.size) (fun e => by have := Option.some.inj e; omega)).trans (hb.block b hlt)⟩
  have hb3 : Below w.heap.size w ((w2.alloc o).alloc o') := below_alloc (below_alloc hb2 o) o'
  refine ⟨(hg.block _ (by simp; omega) (fun e => (hv _ e.symm).1 rfl)).trans ((Below.heap_alloc _ _ _ (by simp; omega)).trans ((Below.heap_alloc _ _ _ hG2).trans h2.1)), fun b hb9 => ?_, hb3.grown hg hb3.size fun b hb9 => (hv b hb9).2⟩
  rcases ha with e | e
  · exact hv b (e ▸ hb9)
  · rw [e] at hb9
    have := Option.some.inj hb9
    simp at this
    omega

theorem own_cell {w : World} {g cap n size base : Nat} {e : TypeId} {xs : List Value} (h : w.ownsRow base e size (.slice (some ⟨g, 0, none⟩) n cap) n xs) {j : Nat} {u : Value} (hj : xs[j]? = some u) : w.cell? ⟨g, j, none⟩ = some u := by
  obtain ⟨h1, h2⟩ := h
  rcases h2 with ⟨hv, _⟩ | ⟨g', cap', cur, hv, _, hc, _, _, _, ht⟩
  · cases hv
  · injection hv with ha _ _
    injection ha with ha
    injection ha with ha _ _
    subst ha
    rw [blk_cell hc]
    have hl : j < n * size := by
      have := (List.getElem?_eq_some_iff.1 hj).1
      omega
    rw [← ht, List.getElem?_take_of_lt hl] at hj
    simpa using hj
theorem row_cells {w : World} {g cap : Nat} (h : w.ownsRow 0 34 3 (.slice (some ⟨g, 0, none⟩) 2 cap) 2 (stR 2)) : ∀ w2, Below w.heap.size w w2 → w2.cell? ⟨g, 0, none⟩ = some (.int .i64 2) ∧ w2.cell? ⟨g, 1, none⟩ = some (.string ⟨#[100, 100]⟩) ∧ w2.cell? ⟨g, 2, none⟩ = some (.string ⟨#[]⟩) ∧ w2.cell? ⟨g, 3, none⟩ = some (.int .i64 0) ∧ w2.cell? ⟨g, 4, none⟩ = some (.string ⟨#[65]⟩) ∧ w2.cell? ⟨g, 5, none⟩ = some (.string ⟨#[120]⟩) := by
  intro w2 hb
  have h2 := owns_step (w' := w2) h fun b hb9 => hb.block b (owns_lt h b hb9)
  exact ⟨own_cell h2 rfl, own_cell h2 rfl, own_cell h2 rfl, own_cell h2 rfl, own_cell h2 rfl, own_cell h2 rfl⟩
def ParsePost (w : World) (e : Ending) (w' : World) : Prop := ∃ v, e = .returned (.tuple #[v, .int .u16 0]) ∧ w'.ownsRow 0 34 3 v 2 (stR 2) ∧ Below w.heap.size w w'
set_option maxRecDepth 100000 in
set_option maxHeartbeats 2000000 in
theorem parse_two (w : World) : Calls Tryz.prog 21 #[.string ⟨#[50, 100, 100, 65, 120]⟩] w (ParsePost w) := by
  obtain ⟨i0, hi0, hz0, hz1, hz2⟩ := info_parts infoK
  have HINF := Lib.hid (And.intro hi0 (And.intro hz0 (And.intro hz1 hz2)))
  clear hi0 hz0 hz1 hz2
  go_enter Tryz.func21, Tryz.ntmps21
  go_wp2
  go_step3
  go_wp2
  go_step3
  go_wp2
  go_loopw [5] (fun v5 wr => ∃ t : Nat, t ≤ 2 ∧ Rd wr w.heap.size (stS t) ∧ wr.ownsRow 0 34 3 v5 t (stR t) ∧ (∀ b, v5.ownBlock = some b → b ≠ w.heap.size ∧ w.heap.size ≤ b) ∧ Below w.heap.size w wr) (fun _ wr => stOf w.heap.size wr)
  case atStart => exact ⟨0, by omega, heap_alloc_new w _, World.ownsRow_nil _ _ _ _, fun b hb => (by cases hb), below_alloc (Below.refl _ w) _⟩
  case round =>
    obtain ⟨t, ht, hrd, hr5, hv5, hbl⟩ := hrel
    have ht3 : t = 0 ∨ t = 1 ∨ t = 2 := by omega
    rcases ht3 with rfl | rfl | rfl
    · have hrd : Rd wr w.heap.size ⟨#[50, 100, 100, 65, 120]⟩ := hrd
      have hr5 : wr.ownsRow 0 34 3 u5 0 (stR 0) := hr5
      have k0 : wr.cell? ⟨w.heap.size, 0, none⟩ = some (.string ⟨#[50, 100, 100, 65, 120]⟩) := by rw [blk_cell hrd]; rfl
      have HK := Lib.hid (rkey_dd hrd)
      have HR := Lib.hid hr5
      have HB := Lib.hid (And.intro hbl hv5)
      skip
      have hGw := blk_lt hrd
      clear hrd hr5 hbl hv5
      go_wp2_with (first
        | (go_at_call 33; refine HK.out.mono ?_; rintro e w2 ⟨rfl, h2⟩; have hrow := (fun o o' => row_keep2 HR.out h2.2 (fun b hb => (HB.out.2 b hb).1) o o'); have HROW := Lib.hid hrow; have H2 := Lib.hid h2; clear h2 hrow)
        | (at_builtin; refine wpList_append_own_at _ rfl _ _ 61 rfl 0 34 i0 _ 3 40 Tryz.underlying61 HINF.out.1 HINF.out.2.1 HINF.out.2.2.1 HINF.out.2.2.2 rfl (by decide) u5 0 (stR 0) rfl (HROW.out _ _) ⟨w2.heap.size + 1, 0, none⟩ 1 1 [.int .i64 2, .string ⟨#[100, 100]⟩, .string ⟨#[]⟩] rfl rfl ?hcell ?hone (by unfold maxLen; omega) (by omega) (by simp) ?_; rotate_left 2; intro v1 w5 hr1 hg1 _ ha1; have HR1 := Lib.hid (And.intro hr1 (And.intro hg1 ha1)); clear hr1 hg1 ha1))
      case hcell =>
        intro j u hu
        have hn := heap_alloc_new (w2.alloc (.cells #[.int .i64 2, .string ⟨#[100, 100]⟩, .string ⟨#[]⟩] 34)) (.cells #[.int .i64 2, .string ⟨#[100, 100]⟩, .string ⟨#[]⟩] 34)
        rw [show (w2.alloc (.cells #[.int .i64 2, .string ⟨#[100, 100]⟩, .string ⟨#[]⟩] 34)).heap.size = w2.heap.size + 1 by simp] at hn
        match j, hu with
        | 0, hu => rw [← hu, Addr.add_lit, blk_cell hn]; rfl
        | 1, hu => rw [← hu, Addr.add_lit, blk_cell hn]; rfl
        | 2, hu => rw [← hu, Addr.add_lit, blk_cell hn]; rfl
      case hone =>
        intro u hu
        simp at hu
        rcases hu with rfl | rfl | rfl <;> rfl
      have h9 := key_step HB.out.1 H2.out HR.out (fun b hb => (HB.out.2 b hb)) (.cells #[.int .i64 2, .string ⟨#[100, 100]⟩, .string ⟨#[]⟩] 34) (.cells #[.int .i64 2, .string ⟨#[100, 100]⟩, .string ⟨#[]⟩] 34) HR1.out.2.1 HR1.out.2.2
      have H9 := Lib.hid (And.intro HR1.out.1 h9)
      clear h9
      go_roundw
      case rel => exact ⟨0 + 1, by omega, H9.out.2.1, H9.out.1, H9.out.2.2.1, H9.out.2.2.2⟩
      case measure =>
        show stOf w.heap.size w5 < stOf w.heap.size wr
        rw [stOf_is H9.out.2.1, stOf_is hrd]
        decide
    · have hrd : Rd wr w.heap.size ⟨#[65, 120]⟩ := hrd
      have hr5 : wr.ownsRow 0 34 3 u5 1 (stR 1) := hr5
      have k0 : wr.cell? ⟨w.heap.size, 0, none⟩ = some (.string ⟨#[65, 120]⟩) := by rw [blk_cell hrd]; rfl
      have HK := Lib.hid (rkey_A hrd)
      have HR := Lib.hid hr5
      have HB := Lib.hid (And.intro hbl hv5)
      skip
      have hGw := blk_lt hrd
      clear hrd hr5 hbl hv5
      go_wp2_with (first
        | (go_at_call 33; refine HK.out.mono ?_; rintro e w2 ⟨rfl, h2⟩; have hrow := (fun o o' => row_keep2 HR.out h2.2 (fun b hb => (HB.out.2 b hb).1) o o'); have HROW := Lib.hid hrow; have H2 := Lib.hid h2; clear h2 hrow)
        | (at_builtin; refine wpList_append_own_at _ rfl _ _ 61 rfl 0 34 i0 _ 3 40 Tryz.underlying61 HINF.out.1 HINF.out.2.1 HINF.out.2.2.1 HINF.out.2.2.2 rfl (by decide) u5 1 (stR 1) rfl (HROW.out _ _) ⟨w2.heap.size + 1, 0, none⟩ 1 1 [.int .i64 0, .string ⟨#[65]⟩, .string ⟨#[120]⟩] rfl rfl ?hcell ?hone (by unfold maxLen; omega) (by omega) (by simp) ?_; rotate_left 2; intro v1 w5 hr1 hg1 _ ha1; have HR1 := Lib.hid (And.intro hr1 (And.intro hg1 ha1)); clear hr1 hg1 ha1))
      case hcell =>
        intro j u hu
        have hn := heap_alloc_new (w2.alloc (.cells #[.int .i64 0, .string ⟨#[65]⟩, .string ⟨#[120]⟩] 34)) (.cells #[.int .i64 0, .string ⟨#[65]⟩, .string ⟨#[120]⟩] 34)
        rw [show (w2.alloc (.cells #[.int .i64 0, .string ⟨#[65]⟩, .string ⟨#[120]⟩] 34)).heap.size = w2.heap.size + 1 by simp] at hn
        match j, hu with
        | 0, hu => rw [← hu, Addr.add_lit, blk_cell hn]; rfl
        | 1, hu => rw [← hu, Addr.add_lit, blk_cell hn]; rfl
        | 2, hu => rw [← hu, Addr.add_lit, blk_cell hn]; rfl
      case hone =>
        intro u hu
        simp at hu
        rcases hu with rfl | rfl | rfl <;> rfl
      have h9 := key_step HB.out.1 H2.out HR.out (fun b hb => (HB.out.2 b hb)) (.cells #[.int .i64 0, .string ⟨#[65]⟩, .string ⟨#[120]⟩] 34) (.cells #[.int .i64 0, .string ⟨#[65]⟩, .string ⟨#[120]⟩] 34) HR1.out.2.1 HR1.out.2.2
      have H9 := Lib.hid (And.intro HR1.out.1 h9)
      clear h9
      go_roundw
      case rel => exact ⟨1 + 1, by omega, H9.out.2.1, H9.out.1, H9.out.2.2.1, H9.out.2.2.2⟩
      case measure =>
        show stOf w.heap.size w5 < stOf w.heap.size wr
        rw [stOf_is H9.out.2.1, stOf_is hrd]
        decide
    · have hrd : Rd wr w.heap.size ⟨#[]⟩ := hrd
      have k0 : wr.cell? ⟨w.heap.size, 0, none⟩ = some (.string ⟨#[]⟩) := by rw [blk_cell hrd]; rfl
      have HF := Lib.hid (And.intro hr5 hbl)
      clear hrd hr5 hv5 hbl
      go_wp2
      first | rw [Exit.noGoto_ret] | skip
      go_ret2
      exact ⟨_, rfl, HF.out.1, HF.out.2⟩

set_option maxRecDepth 100000 in
set_option maxHeartbeats 2000000 in
theorem parse_g (w : World) : Calls Tryz.prog 21 #[.string ⟨#[103]⟩] w fun e w' => e = .returned (.tuple #[.slice none 0 0, .int .u16 190]) ∧ Below w.heap.size w w' := by
  go_enter Tryz.func21, Tryz.ntmps21
  go_wp2
  go_step3
  go_wp2
  go_step3
  go_wp2
  go_loopw [5] (fun v5 wr => Rd wr w.heap.size ⟨#[103]⟩ ∧ v5 = .slice none 0 0 ∧ Below w.heap.size w wr) (fun _ wr => 0)
  case atStart => exact ⟨heap_alloc_new w _, rfl, below_alloc (Below.refl _ w) _⟩
  case round =>
    obtain ⟨hrd, rfl, hbl⟩ := hrel
    have k0 : wr.cell? ⟨w.heap.size, 0, none⟩ = some (.string ⟨#[103]⟩) := by rw [blk_cell hrd]; rfl
    have HK := Lib.hid (rkey_g hrd)
    have HB := Lib.hid hbl
    clear hrd hbl
    go_wp2_with (first
      | (go_at_call 33; refine HK.out.mono ?_; rintro e w2 ⟨rfl, h2⟩; have H2 := Lib.hid h2; clear h2))
    first | rw [Exit.noGoto_ret] | skip
    go_ret2
    refine ⟨rfl, below_alloc ⟨H2.out.2.os.trans HB.out.os, H2.out.2.tape.trans HB.out.tape, H2.out.2.output.trans HB.out.output, Nat.le_trans HB.out.size H2.out.2.size, fun b hlt => (H2.out.2.block b (Nat.lt_of_lt_of_le hlt HB.out.size) (fun e => by have := Option.some.inj e; omega)).trans (HB.out.block b hlt)⟩ _⟩

set_option maxRecDepth 100000 in
set_option maxHeartbeats 2000000 in
theorem known19_any (w : World) : Calls Tryz.prog 8 #[] w fun e w' => e = .returned (.bool true) ∧ Below w.heap.size w w' := by
  have HP := Lib.hid parse_two
  have HG := Lib.hid parse_g
  go_enter Tryz.func8, Tryz.ntmps8
  go_wp2_with fail
  refine (HP.out w).mono ?_
  rintro e w1 ⟨v1, rfl, hr1, hb1⟩
  obtain ⟨g, cap, rfl⟩ := ownsRow_succ hr1
  have hc := row_cells hr1
  have H1 := Lib.hid (And.intro hb1 hc)
  clear hr1 hb1 hc
  go_wp2_with fail
  refine (HG.out _).mono ?_
  rintro e w2 ⟨rfl, hb2⟩
  obtain ⟨x0, x1, x2, y0, y1, y2⟩ := H1.out.2 w2 hb2
  have HB2 := Lib.hid (below_then H1.out.1 H1.out.1.size hb2)
  clear hb2
  go_wp2
  go_ret
  exact ⟨rfl, HB2.out⟩
end Go.Proofs.YtdhemdeapphfoaaGreatDoor
