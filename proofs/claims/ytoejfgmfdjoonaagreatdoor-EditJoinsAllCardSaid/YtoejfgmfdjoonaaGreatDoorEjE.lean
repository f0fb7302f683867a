/- edit.Do of the command j; the law's heavy: walked. -/
import Derived.Test.YtoejfgmfdjoonaaGreatDoorEjD
set_option linter.unusedVariables false
set_option linter.unusedSimpArgs false
namespace Go.Proofs.YtoejfgmfdjoonaaGreatDoor
open Go.RowKit Go.Shelf Go.Maps Go.Proofs.YtoejfgmfdjoonaaGreatDoorW.PrintWords Go.Proofs.YtoejfgmfdjoonaaGreatDoorW.PrintLast

set_option maxRecDepth 100000 in
theorem way_j {w : World} {W B R : Nat} {vr vd : Value} {p1 p2 p3 p4 : ByteArray} {bang : Bool} {reg cnt f t d : Int} (hw : Wk w W B R vr vd ⟨#[106]⟩ p1 p2 p3 p4 bang reg cnt f t d) :
    Calls Tryz.prog 31 #[.pointer (some ⟨W, 0, none⟩)] w fun e w' => e = .returned (.func (.func 51) #[.pointer (some ⟨W, 0, none⟩)] #[]) ∧ w' = w := by
  have g1 : w.cell? ⟨W, 1, none⟩ = some (.string ⟨#[106]⟩) := by rw [blk_cell hw]; rfl
  clear hw
  go_enter Tryz.func31, Tryz.ntmps31
  go_wp2
  go_ret
  exact ⟨rfl, rfl⟩

def DoJ (N0 : Nat) (w0 : Base) (B : Nat) (s : Bs) (i n : Nat) (J : ByteArray) (e : Ending) (w' : World) : Prop :=
  ∃ w0' : Base, w0'.w = w0.w ∧ ((J.size ≤ 1000 ∧ e = .returned (.tuple #[.slice none 0 0, .int .u16 0]) ∧ Bf N0 w0' w' B (putS (spliceS s i n [J]) ((i : Int) + 1))) ∨ (1000 < J.size ∧ e = .returned (.tuple #[.slice none 0 0, .int .u16 90]) ∧ Bf N0 w0' w' B s))

section
variable {N0 : Nat} {w0 : Base} {w w' : World} {B : Nat} {s : Bs}
set_option maxRecDepth 100000 in
set_option maxHeartbeats 1000000 in
theorem do_j (h : Bf N0 w0 w B s) {R : Nat} {i n : Nat} {f t d : Int} {bold : Bool} (hf : f = (i : Int) + 1) (ht : t = (i : Int) + n) (hn : 2 ≤ n) (hi : i + n ≤ s.ls.length) (hl : s.ls.length ≤ 300) (hsz : ∀ x ∈ s.ls, x.size ≤ 1000) (ho : s.opn.length ≤ 1000000) (hnm : s.nm < maxLen) {l0 : ByteArray} {rest : List ByteArray} (hL : (s.ls.drop i).take n = l0 :: rest) :
    Calls Tryz.prog 10 #[.pointer (some ⟨B, 0, none⟩), .pointer (some ⟨R, 0, none⟩), .agg #[.slice none 0 0, .string ⟨#[106]⟩, .bool bold, .int .u8 0, .int .i64 (-1), .slice none 0 0, .string ⟨#[]⟩, .string ⟨#[]⟩, .string ⟨#[]⟩, .string ⟨#[]⟩], .int .i64 f, .int .i64 t, .int .i64 d] w (DoJ N0 w0 B s i n (joinAll bold l0 rest)) := by
  obtain ⟨T, hlen⟩ := h.lenW
  have HL := Lib.hid hlen
  have HH := Lib.hid h
  obtain ⟨k0, _⟩ := hlen w (Below.refl _ _)
  have hBl := cell_lt k0
  dsimp only at hBl
  subst hf ht
  have b1 : decide ((i : Int) + 1 < 0) = false := by simp; omega
  have b2 : decide ((i : Int) + n < i + 1) = false := by simp; omega
  have b2' : decide ((n : Int) < 1) = false := by simp; omega
  have b3 : decide ((s.ls.length : Int) < i + n) = false := by simp; omega
  have b4 : ((i : Int) + 1 == 0) = false := by rw [beq_eq_false_iff_ne]; omega
  have HJC := Lib.hid (And.intro hsz hL)
  clear h hlen hsz hL
  go_enter Tryz.func10, Tryz.ntmps10
  go_wp2_with (first
    | (go_at_call 15; refine (HL.out _ (below_alloc (Below.refl _ w) _)).2.mono ?_; rintro e wa ⟨rfl, n1, rfl⟩))
  have hbx := boxed (w := w) (n1 := n1) (.cells #[Value.slice none 0 0, Value.string { data := #[106] }, Value.bool bold, Value.int IntKind.u8 0, Value.int IntKind.i64 (-1), Value.slice none 0 0, Value.string { data := #[] }, Value.string { data := #[] }, Value.string { data := #[] }, Value.string { data := #[] }] 36) (.cells #[Value.slice none 0 0, Value.string { data := #[106] }, Value.bool bold, Value.int IntKind.u8 0, Value.int IntKind.i64 (-1), Value.slice none 0 0, Value.string { data := #[] }, Value.string { data := #[] }, Value.string { data := #[] }, Value.string { data := #[] }, Value.pointer (some { block := B, off := 0 }), Value.pointer (some { block := R, off := 0 }), Value.int IntKind.i64 ((i : Int) + 1), Value.int IntKind.i64 ((i : Int) + n), Value.int IntKind.i64 d] 73)
  obtain ⟨V, hV⟩ : ∃ V, ((w.alloc (.cells #[Value.slice none 0 0, Value.string { data := #[106] }, Value.bool bold, Value.int IntKind.u8 0, Value.int IntKind.i64 (-1), Value.slice none 0 0, Value.string { data := #[] }, Value.string { data := #[] }, Value.string { data := #[] }, Value.string { data := #[] }] 36)).drewN n1).alloc (.cells #[Value.slice none 0 0, Value.string { data := #[106] }, Value.bool bold, Value.int IntKind.u8 0, Value.int IntKind.i64 (-1), Value.slice none 0 0, Value.string { data := #[] }, Value.string { data := #[] }, Value.string { data := #[] }, Value.string { data := #[] }, Value.pointer (some { block := B, off := 0 }), Value.pointer (some { block := R, off := 0 }), Value.int IntKind.i64 ((i : Int) + 1), Value.int IntKind.i64 ((i : Int) + n), Value.int IntKind.i64 d] 73) = V := ⟨_, rfl⟩
  rw [hV] at hbx ⊢
  clear hV
  obtain ⟨hb1, hb2⟩ := hbx
  have hwk : Wk V (w.heap.size + 1) B R _ _ _ _ _ _ _ _ _ _ _ _ _ := hb2
  have hg := HH.out.guard hb1
  have hjc := join_cmd hg (.inr ⟨by omega, blk_lt hb2⟩) hwk rfl rfl hn hi hl HJC.out.1 ho hnm HJC.out.2
  have HJ := Lib.hid hjc
  clear hjc hg hb1 hb2
  refine (way_j hwk).mono ?_
  rintro e w3 ⟨rfl, rfl⟩
  clear hwk
  go_wp2_with fail
  refine HJ.out.mono ?_
  rintro e w4 (⟨hJ, rfl, b4⟩ | ⟨hJ, rfl, b4⟩)
  · have H4 := Lib.hid b4
    clear b4
    go_wp2
    go_ret2
    exact ⟨⟨w0.w, fun b => w0.P b ∨ (w.heap.size ≤ b ∧ b < w3.heap.size), w3⟩, rfl, .inl ⟨hJ, rfl, H4.out⟩⟩
  · have H4 := Lib.hid b4
    clear b4
    go_wp2
    go_ret2
    exact ⟨⟨w0.w, fun b => w0.P b ∨ (w.heap.size ≤ b ∧ b < w3.heap.size), w3⟩, rfl, .inr ⟨hJ, rfl, H4.out⟩⟩
end

def Heavy16Post (w : World) (n : Nat) (e : Ending) (w' : World) : Prop := ∃ b, e = .returned (.bool b) ∧ Below w.heap.size w w' ∧ (b = false → n ≤ 300)
set_option maxRecDepth 100000 in
set_option maxHeartbeats 1000000 in
theorem heavy16 {w : World} {G : Nat → Prop} {v : Value} {xs : List ByteArray} (h : Ls w G v xs) :
    Calls Tryz.prog 12 #[v, .slice none 0 0] w (Heavy16Post w xs.length) := by
  obtain ⟨A1, c1, rfl, hc, hm, h3⟩ := h
  have H3 := Lib.hid h3
  have hxl : xs.length ≤ maxLen := Nat.le_trans hc hm
  unfold maxLen at hxl
  clear h3
  go_enter Tryz.func12, Tryz.ntmps12
  go_wp2
  go_loopw [5, 6] (fun v5 v6 wr => ∃ (m : Int) (j : Nat), v5 = .int .i64 m ∧ v6 = .int .i64 j ∧ j ≤ xs.length ∧ Below w.heap.size w wr) (fun _ v6 _ => xs.length - (intOf v6).toNat)
  case atStart => exact ⟨0, 0, rfl, rfl, by omega, Below.refl _ _⟩
  case round =>
    obtain ⟨m, j, rfl, rfl, hj, hbl⟩ := hrel
    by_cases hlt : j < xs.length
    · obtain ⟨b1, o1, rfl, _, hb1, hc1⟩ := H3.out (by omega)
      obtain ⟨x, hx⟩ : ∃ x, xs[j]? = some x := ⟨_, List.getElem?_eq_getElem hlt⟩
      have d1 := (World.cell?_of_block (w := w) (w' := wr) (a := ⟨b1, o1 + j, none⟩) (hbl.block b1 hb1)).trans (hc1 j x hx)
      have HBL := Lib.hid hbl
      have hlt' : (j : Int) < xs.length := by omega
      clear hc1 hx hbl
      go_wp2
      go_roundw
      case rel => exact ⟨_, j + 1, rfl, by go_num, by omega, HBL.out⟩
      case measure => simp [intOf]; omega
    · obtain rfl : j = xs.length := by omega
      have HBL := Lib.hid hbl
      clear hbl
      by_cases hle : xs.length ≤ 300
      · have hd : decide (300 < (xs.length : Int)) = false := by simp; omega
        go_wp2
        all_goals
          go_ret
          exact ⟨_, rfl, HBL.out, fun _ => hle⟩
      · have hd : decide (300 < (xs.length : Int)) = true := by simp; omega
        go_wp2
        go_ret
        refine ⟨true, ?_, HBL.out, fun h => by cases h⟩
        rfl
end Go.Proofs.YtoejfgmfdjoonaaGreatDoor
