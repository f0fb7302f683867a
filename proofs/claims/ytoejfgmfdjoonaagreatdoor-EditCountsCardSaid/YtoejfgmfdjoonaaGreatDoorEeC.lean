/- edit.Do of the command p with a number of lines, walked. -/
import Derived.Test.YtoejfgmfdjoonaaGreatDoorEeB
set_option linter.unusedVariables false
set_option linter.unusedSimpArgs false
namespace Go.Proofs.YtoejfgmfdjoonaaGreatDoor
open Go.RowKit Go.Shelf Go.Maps Go.Proofs.YtoejfgmfdjoonaaGreatDoorW.PrintWords Go.Proofs.YtoejfgmfdjoonaaGreatDoorW.PrintLast

def pObj (cnt : Int) : Obj := .cells #[.slice none 0 0, .string ⟨#[112]⟩, .bool false, .int .u8 0, .int .i64 cnt, .slice none 0 0, .string ⟨#[]⟩, .string ⟨#[]⟩, .string ⟨#[]⟩, .string ⟨#[]⟩] 36
theorem six_p : Lib.containsS sixS ⟨#[112]⟩ = true := by decide +kernel
theorem p_cells {w w3 : World} {n1 : Nat} {cnt : Int} (h : Below ((w.alloc (pObj cnt)).drewN n1).heap.size ((w.alloc (pObj cnt)).drewN n1) w3) : w3.heap[w.heap.size]? = some (pObj cnt) := by
  have h1 : w.heap.size < ((w.alloc (pObj cnt)).drewN n1).heap.size := by simp
  exact (h.block _ h1).trans (World.alloc_heap_new w _)

theorem pcell {w3 : World} {C : Nat} {cnt : Int} (h : w3.heap[C]? = some (pObj cnt)) : w3.cell? ⟨C, 0, none⟩ = some (.slice none 0 0) ∧ w3.cell? ⟨C, 1, none⟩ = some (.string ⟨#[112]⟩) ∧ w3.cell? ⟨C, 2, none⟩ = some (.bool false) ∧ w3.cell? ⟨C, 3, none⟩ = some (.int .u8 0) ∧ w3.cell? ⟨C, 4, none⟩ = some (.int .i64 cnt) ∧ w3.cell? ⟨C, 5, none⟩ = some (.slice none 0 0) ∧ w3.cell? ⟨C, 6, none⟩ = some (.string ⟨#[]⟩) ∧ w3.cell? ⟨C, 7, none⟩ = some (.string ⟨#[]⟩) ∧ w3.cell? ⟨C, 8, none⟩ = some (.string ⟨#[]⟩) ∧ w3.cell? ⟨C, 9, none⟩ = some (.string ⟨#[]⟩) := by
  refine ⟨?_, ?_, ?_, ?_, ?_, ?_, ?_, ?_, ?_, ?_⟩ <;> (rw [blk_cell h]; rfl)

section
variable {N0 : Nat} {w0 : Base} {w w' : World} {B : Nat} {s : Bs}
set_option maxRecDepth 100000 in
set_option maxHeartbeats 2000000 in
theorem do_p_no (h : Bf N0 w0 w B s) {R : Nat} {i n : Nat} {f t d cnt : Int} (hf : f = (i : Int) + 1) (ht : t = (i : Int) + n) (hn : 0 < n) (hi : i + n ≤ s.ls.length) (hl : s.ls.length ≤ 1000000) (hc : cnt ≠ -1) (hc1 : cnt < 1) :
    Calls Tryz.prog 10 #[.pointer (some ⟨B, 0, none⟩), .pointer (some ⟨R, 0, none⟩), .agg #[.slice none 0 0, .string ⟨#[112]⟩, .bool false, .int .u8 0, .int .i64 cnt, .slice none 0 0, .string ⟨#[]⟩, .string ⟨#[]⟩, .string ⟨#[]⟩, .string ⟨#[]⟩], .int .i64 f, .int .i64 t, .int .i64 d] w fun e w' => e = .returned (.tuple #[.slice none 0 0, .int .u16 140]) ∧ Bf N0 w0 w' B s := by
  obtain ⟨T, hlen⟩ := h.lenW
  have HL := Lib.hid hlen
  have HH := Lib.hid h
  obtain ⟨k0, _⟩ := hlen w (Below.refl _ _)
  have hBl := cell_lt k0
  dsimp only at hBl
  subst hf ht
  have b1 : decide ((i : Int) + 1 < 0) = false := by simp; omega
  have b2 : decide ((i : Int) + n < i + 1) = false := by simp; omega
  have b2' : decide ((n : Int) < 1) = false := by simp; omega
  have b3 : decide ((s.ls.length : Int) < i + n) = false := by simp; omega
  have b4 : ((i : Int) + 1 == 0) = false := by rw [beq_eq_false_iff_ne]; omega
  have b5 : (cnt == -1) = false := by rw [beq_eq_false_iff_ne]; exact hc
  have b6 : (cnt != -1) = true := by show (!(cnt == -1)) = true; rw [b5]; rfl
  have HCO := Lib.hid (fun W => counted_any ⟨#[112]⟩ W)
  rw [six_p] at HCO
  clear h hlen
  go_enter Tryz.func10, Tryz.ntmps10
  go_wp2_with (first
    | (go_at_call 15; refine (HL.out _ (below_alloc (Below.refl _ w) _)).2.mono ?_; rintro e wa ⟨rfl, n1, rfl⟩)
    | (go_at_call 27; refine (HCO.out _).mono ?_; rintro e w3 ⟨rfl, hb3⟩; have hp3 := p_cells hb3; have g4 : w3.cell? ⟨w.heap.size, 4, none⟩ = some (.int .i64 cnt) := (by rw [blk_cell hp3]; rfl); have H3 := Lib.hid hb3; clear hb3 hp3))
  go_ret2
  refine ⟨rfl, HH.out.new ?_⟩
  exact below_then (pw_below_drewN (below_alloc (Below.refl _ w) _) n1) (by simp) H3.out
set_option maxRecDepth 100000 in
set_option maxHeartbeats 2000000 in
theorem do_p_cnt (h : Bf N0 w0 w B s) {R : Nat} {i n : Nat} {f t d cnt : Int} (hf : f = (i : Int) + 1) (ht : t = (i : Int) + n) (hn : 0 < n) (hi : i + n ≤ s.ls.length) (hl : s.ls.length ≤ 1000000) (hc1 : 1 ≤ cnt) {m : Nat} (hm : min (cnt - 1) ((s.ls.length : Int) - ((i : Int) + n)) = m) (hcb : cnt ≤ 9223372036854775807) :
    Calls Tryz.prog 10 #[.pointer (some ⟨B, 0, none⟩), .pointer (some ⟨R, 0, none⟩), .agg #[.slice none 0 0, .string ⟨#[112]⟩, .bool false, .int .u8 0, .int .i64 cnt, .slice none 0 0, .string ⟨#[]⟩, .string ⟨#[]⟩, .string ⟨#[]⟩, .string ⟨#[]⟩], .int .i64 f, .int .i64 t, .int .i64 d] w (DoP N0 w0 B (putS s (i + n + m)) ((s.ls.drop (i + n - 1)).take (m + 1)) 0) := by
  obtain ⟨T, hlen⟩ := h.lenW
  have HL := Lib.hid hlen
  have HH := Lib.hid h
  obtain ⟨k0, _⟩ := hlen w (Below.refl _ _)
  have hBl := cell_lt k0
  dsimp only at hBl
  subst hf ht
  have b1 : decide ((i : Int) + 1 < 0) = false := by simp; omega
  have b2 : decide ((i : Int) + n < i + 1) = false := by simp; omega
  have b2' : decide ((n : Int) < 1) = false := by simp; omega
  have b3 : decide ((s.ls.length : Int) < i + n) = false := by simp; omega
  have b4 : ((i : Int) + 1 == 0) = false := by rw [beq_eq_false_iff_ne]; omega
  have b5 : (cnt == -1) = false := by rw [beq_eq_false_iff_ne]; omega
  have b6 : (cnt != -1) = true := by show (!(cnt == -1)) = true; rw [b5]; rfl
  have HCO := Lib.hid (fun W => counted_any ⟨#[112]⟩ W)
  rw [six_p] at HCO
  clear h hlen
  go_enter Tryz.func10, Tryz.ntmps10
  go_wp2_with (first
    | (go_at_call 15; refine (HL.out _ (below_alloc (Below.refl _ w) _)).2.mono ?_; rintro e wa ⟨rfl, n1, rfl⟩)
    | (go_at_call 27; refine (HCO.out _).mono ?_; rintro e w3 ⟨rfl, hb3⟩; have hp3 := p_cells hb3; have gc := pcell hp3; obtain ⟨g0, g1, g2, g3, g4, g5, g6, g7, g8, g9⟩ := gc; have hB3 := below_then (pw_below_drewN (below_alloc (Below.refl _ w) (pObj cnt)) n1) (by simp) hb3; have k3 := (HL.out _ hB3).1; have hlt3 := blk_lt hp3; have hBl3 := cell_lt k3; have H3 := Lib.hid hB3; clear hb3 hp3 hB3))
  go_quiet (first | (go_at_call 15; exact Calls.quiet_of (HL.out _ (pw_below_drewN H3.out _)).2))
  have hq1 : ∀ o, ((w3.drewN nq).alloc o).cell? ⟨w.heap.size, 1, none⟩ = some (.string ⟨#[112]⟩) := fun o => (World.cell?_of_block (w := w3) (w' := (w3.drewN nq).alloc o) (a := ⟨w.heap.size, 1, none⟩) (Below.heap_alloc (w3.drewN nq) o _ hlt3)).trans g1
  have hbx : ∀ o, Below w.heap.size w ((w3.drewN nq).alloc o) ∧ ((w3.drewN nq).alloc o).heap[w3.heap.size]? = some o := fun o => ⟨below_alloc (pw_below_drewN H3.out nq) o, World.alloc_heap_new (w3.drewN nq) o⟩
  have HBX := Lib.hid hbx
  clear hbx
  have b4' := HH.out.new (HBX.out (.cells #[Value.slice none 0 0, Value.string { data := #[112] }, Value.bool false, Value.int IntKind.u8 0, Value.int IntKind.i64 cnt, Value.slice none 0 0, Value.string { data := #[] }, Value.string { data := #[] }, Value.string { data := #[] }, Value.string { data := #[] }, Value.pointer (some { block := B, off := 0 }), Value.pointer (some { block := R, off := 0 }), Value.int IntKind.i64 ((i : Int) + n), Value.int IntKind.i64 ((i : Int) + n + m), Value.int IntKind.i64 d] 73)).1
  have HPU := Lib.hid (bput_any b4' ((i : Int) + n + m))
  clear b4'
  go_wp2_with fail
  refine HPU.out.mono ?_
  rintro e w4 ⟨rfl, b4, hs4, hk4⟩
  have hwk : Wk w4 w3.heap.size B R _ _ _ _ _ _ _ _ _ _ _ _ _ := (hk4 _ (by omega)).trans (HBX.out _).2
  have HLI := Lib.hid (lines_any b4 hwk (i := i + n - 1) (n := m + 1) (by omega) (by omega) (show i + n - 1 + (m + 1) ≤ s.ls.length by omega) (show s.ls.length ≤ 1000000000 by omega))
  have H4 := Lib.hid b4
  clear b4 hs4 hk4 hwk hq1 HPU
  go_wp2_with (go_at_call 30; refine HLI.out.mono ?_; rintro e w5 ⟨v5, rfl, h51, h52, h53⟩; have H5 := Lib.hid (And.intro h51 h53); clear h51 h52 h53)
  go_ret2
  exact ⟨_, rfl, (Ls.of_rw H5.out.1).wide (fun _ _ _ => trivial), H4.out.new H5.out.2⟩
end
end Go.Proofs.YtoejfgmfdjoonaaGreatDoor
