/- edit.Do of the command p, walked. -/
import Derived.Test.YtoejfgmfdjoonaaGreatDoorEeA
set_option linter.unusedVariables false
set_option linter.unusedSimpArgs false
namespace Go.Proofs.YtoejfgmfdjoonaaGreatDoor
open Go.RowKit Go.Shelf Go.Maps Go.Proofs.YtoejfgmfdjoonaaGreatDoorW.PrintWords Go.Proofs.YtoejfgmfdjoonaaGreatDoorW.PrintLast

def DoP (N0 : Nat) (w0 : Base) (B : Nat) (s : Bs) (xs : List ByteArray) (er : Int) (e : Ending) (w' : World) : Prop := ∃ v, e = .returned (.tuple #[v, .int .u16 er]) ∧ Ls w' (fun _ => True) v xs ∧ Bf N0 w0 w' B s
theorem Bf.lenW {N0 : Nat} {w0 : Base} {w : World} {B : Nat} {s : Bs} (h : Bf N0 w0 w B s) : ∃ T, ∀ W, Below w.heap.size w W → W.cell? ⟨B, 0, none⟩ = some (.pointer (some ⟨T, 0, none⟩)) ∧ Calls Tryz.prog 15 #[.pointer (some ⟨T, 0, none⟩)] W fun e w' => e = .returned (.int .i64 s.ls.length) ∧ ∃ n, w' = W.drewN n := by
  obtain ⟨T, k, F, t⟩ := h.len
  exact ⟨T, fun W hb => ⟨(World.cell?_of_block (a := ⟨B, 0, none⟩) (hb.block B (cell_lt k))).trans k, len_is (t.step fun b hl hf => hb.block b hl)⟩⟩

theorem boxed {w : World} {n1 : Nat} (o1 o2 : Obj) : Below w.heap.size w (((w.alloc o1).drewN n1).alloc o2) ∧ (((w.alloc o1).drewN n1).alloc o2).heap[w.heap.size + 1]? = some o2 := by
  refine ⟨below_alloc (pw_below_drewN (below_alloc (Below.refl _ w) o1) n1) o2, ?_⟩
  have := World.alloc_heap_new ((w.alloc o1).drewN n1) o2
  rwa [show ((w.alloc o1).drewN n1).heap.size = w.heap.size + 1 by simp] at this

section
variable {N0 : Nat} {w0 : Base} {w w' : World} {B : Nat} {s : Bs}
set_option maxRecDepth 100000 in
set_option maxHeartbeats 1000000 in
theorem do_p_all (h : Bf N0 w0 w B s) {R : Nat} {i n : Nat} {f t d : Int} (hf : f = (i : Int) + 1) (ht : t = (i : Int) + n) (hn : 0 < n) (hi : i + n ≤ s.ls.length) (hl : s.ls.length ≤ 1000000) :
    Calls Tryz.prog 10 #[.pointer (some ⟨B, 0, none⟩), .pointer (some ⟨R, 0, none⟩), .agg #[.slice none 0 0, .string ⟨#[112]⟩, .bool false, .int .u8 0, .int .i64 (-1), .slice none 0 0, .string ⟨#[]⟩, .string ⟨#[]⟩, .string ⟨#[]⟩, .string ⟨#[]⟩], .int .i64 f, .int .i64 t, .int .i64 d] w (DoP N0 w0 B (putS s t) ((s.ls.drop i).take n) 0) := by
  obtain ⟨T, hlen⟩ := h.lenW
  have HL := Lib.hid hlen
  have HH := Lib.hid h
  obtain ⟨k0, _⟩ := hlen w (Below.refl _ _)
  have hBl := cell_lt k0
  dsimp only at hBl
  subst hf ht
  have c1 : ¬ ((i : Int) + 1 < 0) := by omega
  have c2 : ¬ ((i : Int) + n < i + 1) := by omega
  have c3 : ¬ ((s.ls.length : Int) < i + n) := by omega
  have c4 : ¬ ((i : Int) + 1 = 0) := by omega
  have b1 : decide ((i : Int) + 1 < 0) = false := by simp; omega
  have b2 : decide ((i : Int) + n < i + 1) = false := by simp; omega
  have b3 : decide ((s.ls.length : Int) < i + n) = false := by simp; omega
  have b4 : ((i : Int) + 1 == 0) = false := by rw [beq_eq_false_iff_ne]; omega
  clear h hlen
  go_enter Tryz.func10, Tryz.ntmps10
  go_wp2_with (first
    | (go_at_call 15; refine (HL.out _ (below_alloc (Below.refl _ w) _)).2.mono ?_; rintro e wa ⟨rfl, n1, rfl⟩))
  have hbx := boxed (w := w) (n1 := n1) (.cells #[Value.slice none 0 0, Value.string { data := #[112] }, Value.bool false, Value.int IntKind.u8 0, Value.int IntKind.i64 (-1), Value.slice none 0 0, Value.string { data := #[] }, Value.string { data := #[] }, Value.string { data := #[] }, Value.string { data := #[] }] 36) (.cells #[Value.slice none 0 0, Value.string { data := #[112] }, Value.bool false, Value.int IntKind.u8 0, Value.int IntKind.i64 (-1), Value.slice none 0 0, Value.string { data := #[] }, Value.string { data := #[] }, Value.string { data := #[] }, Value.string { data := #[] }, Value.pointer (some { block := B, off := 0 }), Value.pointer (some { block := R, off := 0 }), Value.int IntKind.i64 ((i : Int) + 1), Value.int IntKind.i64 ((i : Int) + n), Value.int IntKind.i64 d] 73)
  refine (bput_any (HH.out.new hbx.1) _).mono ?_
  rintro e w2 ⟨rfl, b2, hs2, hk2⟩
  have hwk : Wk w2 (w.heap.size + 1) B R _ _ _ _ _ _ _ _ _ _ _ _ _ := (hk2 _ (by omega)).trans hbx.2
  have HLI := Lib.hid (lines_any b2 hwk rfl rfl (show i + n ≤ s.ls.length from hi) (show s.ls.length ≤ 1000000000 by omega))
  have H2 := Lib.hid b2
  clear hbx b2 hs2 hk2 hwk
  go_wp2_with (go_at_call 30; refine HLI.out.mono ?_; rintro e w3 ⟨v3, rfl, h31, h32, h33⟩; have H3 := Lib.hid (And.intro h31 h33); clear h31 h32 h33)
  go_ret2
  exact ⟨_, rfl, (Ls.of_rw H3.out.1).wide (fun _ _ _ => trivial), H2.out.new H3.out.2⟩
end
end Go.Proofs.YtoejfgmfdjoonaaGreatDoor
