
import Derived.Test.YtdhemdeapphfoaaGreatDoorBwX
import Derived.Test.YtdhemdeapphfoaaGreatDoorEdX
set_option linter.unusedVariables false
set_option linter.unusedSimpArgs false

/- buf's Line; edit's lines, counted; regs.New: walked. -/
set_option linter.unusedVariables false
set_option linter.unusedSimpArgs false
namespace Go.Proofs.YtdhemdeapphfoaaGreatDoor
open Go.RowKit Go.Shelf Go.Maps Go.Proofs.YtdhemdeapphfoaaGreatDoorW.PrintWords Go.Proofs.YtdhemdeapphfoaaGreatDoorW.PrintLast

section
variable {N0 : Nat} {w0 : Base} {w w' : World} {B : Nat} {s : Bs}
theorem line_any (h : Bf N0 w0 w B s) {n : Nat} (h1 : n < s.ls.length) (hl : s.ls.length ≤ 1000000000) {a : Int} (ha : a = (n : Int) + 1) :
    Calls Tryz.prog 23 #[.pointer (some ⟨B, 0, none⟩), .int .i64 a] w fun e w' => e = .returned (.tuple #[.string (s.ls.getD n ByteArray.empty), .bool true]) ∧ ∃ q, w' = w.drewN q := by
  subst ha
  obtain ⟨T, k0, F, t⟩ := h.len
  have hg := Get_any t h1 hl
  obtain ⟨x, hx⟩ : ∃ x, s.ls.getD n ByteArray.empty = x := ⟨_, rfl⟩
  rw [hx] at hg ⊢
  have HG := Lib.hid hg
  clear hx hg
  have e1 : max ((n : Int) + 1) 0 = (n : Int) + 1 := by omega
  clear t h
  go_enter Tryz.func23, Tryz.ntmps23
  go_wp2_with (go_at_call 34; refine HG.out.mono ?_; rintro e w3 ⟨rfl, q3, rfl⟩)
  go_ret2
  exact ⟨rfl, q3, rfl⟩

/-- Put, and what it leaves -/
theorem bput_any (h : Bf N0 w0 w B s) (n : Int) : Calls Tryz.prog 9 #[.pointer (some ⟨B, 0, none⟩), .int .i64 n] w fun e w' => e = .returned (.tuple #[]) ∧ Bf N0 w0 w' B (putS s n) ∧ w.heap.size ≤ w'.heap.size ∧ ∀ b, b ≠ B → w'.heap[b]? = w.heap[b]? := by
  obtain ⟨col, T, p1, U, vl, vm, vo, L, h⟩ := h
  refine (put_bw h n).mono ?_
  rintro e w' ⟨rfl, hb, h1, h2⟩
  exact ⟨rfl, ⟨_, _, _, _, _, _, _, _, hb⟩, h1, h2⟩

/-- a command on lines, in memory -/
def Wk (w : World) (W B R : Nat) (vr vd : Value) (nm p1 p2 p3 p4 : ByteArray) (bang : Bool) (reg cnt f t d : Int) : Prop :=
  w.heap[W]? = some (.cells #[vr, .string nm, .bool bang, .int .u8 reg, .int .i64 cnt, vd, .string p1, .string p2, .string p3, .string p4, .pointer (some ⟨B, 0, none⟩), .pointer (some ⟨R, 0, none⟩), .int .i64 f, .int .i64 t, .int .i64 d] 145 (0, 0))

def LinePost (w : World) (xs : List ByteArray) (e : Ending) (w' : World) : Prop := ∃ v, e = .returned v ∧ Own w.heap.size w w' v xs
set_option maxRecDepth 100000 in
set_option maxHeartbeats 1000000 in
theorem lines_any (h : Bf N0 w0 w B s) {W R : Nat} {vr vd : Value} {nm p1 p2 p3 p4 : ByteArray} {bang : Bool} {reg cnt d : Int} {i n : Nat} {f t : Int} (hw : Wk w W B R vr vd nm p1 p2 p3 p4 bang reg cnt f t d) (hf : f = (i : Int) + 1) (ht : t = (i : Int) + n) (hi : i + n ≤ s.ls.length) (hl : s.ls.length ≤ 1000000000) :
    Calls Tryz.prog 78 #[.pointer (some ⟨W, 0, none⟩)] w (LinePost w ((s.ls.drop i).take n)) := by
  subst hf ht
  have HH := Lib.hid h
  have HW := Lib.hid hw
  have k12 : w.cell? ⟨W, 12, none⟩ = some (.int .i64 ((i : Int) + 1)) := by rw [blk_cell hw]; rfl
  have hWl := blk_lt hw
  obtain ⟨i0, hi0, hz0, hz1, hz2⟩ := info_parts infoS
  have HINF := Lib.hid (And.intro hi0 (And.intro hz0 (And.intro hz1 hz2)))
  clear h hw hi0 hz0 hz1 hz2
  go_enter Tryz.func78, Tryz.ntmps78
  go_wp2
  go_loopw [3, 4] (fun v3 v4 wr => ∃ k : Nat, v4 = .int .i64 ((i : Int) + 1 + k) ∧ k ≤ n ∧ Own w.heap.size w wr v3 ((s.ls.drop i).take k)) (fun _ v4 _ => (i + 1 + n) - (intOf v4).toNat)
  case atStart => exact ⟨0, by simp, Nat.zero_le _, Rw.nil _ _, fun b hb => (by cases hb), Below.refl _ _⟩
  case round =>
    obtain ⟨k, rfl, hk, hrw, hrN, hbl⟩ := hrel
    obtain ⟨A0, c0, hv0, hl0, hm0, _⟩ := hrw.slice
    have hlen0 : ((s.ls.drop i).take k).length = k := by rw [List.length_take, List.length_drop]; omega
    rw [cS_len, hlen0] at hv0 hl0
    subst hv0
    unfold maxLen at hm0
    have hwr : Wk wr W B R vr vd nm p1 p2 p3 p4 bang reg cnt ((i : Int) + 1) ((i : Int) + n) d := (hbl.block W hWl).trans HW.out
    have g13 : wr.cell? ⟨W, 13, none⟩ = some (.int .i64 ((i : Int) + n)) := by rw [blk_cell hwr]; rfl
    have g10 : wr.cell? ⟨W, 10, none⟩ = some (.pointer (some ⟨B, 0, none⟩)) := by rw [blk_cell hwr]; rfl
    have HRW := Lib.hid hrw
    have HRN := Lib.hid hrN
    have HBl := Lib.hid hbl
    clear hrw hrN hbl hwr
    by_cases hlt : k < n
    · have hlt' : (i : Int) + 1 + k ≤ i + n := by omega
      have hline := line_any (HH.out.new HBl.out) (n := i + k) (by omega) hl (a := (i : Int) + 1 + k) (by omega)
      have hik : (s.ls.drop i)[k]? = some (s.ls.getD (i + k) ByteArray.empty) := by rw [List.getElem?_drop, List.getD_eq_getElem?_getD, List.getElem?_eq_getElem (by omega)]; rfl
      obtain ⟨x, hxe⟩ : ∃ x, x = s.ls.getD (i + k) ByteArray.empty := ⟨_, rfl⟩
      rw [← hxe] at hline hik
      have HGET := Lib.hid hline
      have htk : (s.ls.drop i).take (k + 1) = (s.ls.drop i).take k ++ [x] := by
        obtain ⟨h1, h2⟩ := List.getElem?_eq_some_iff.1 hik
        rw [List.take_succ_eq_append_getElem h1, h2]
      have HTK := Lib.hid htk
      have HL0 := Lib.hid hlen0
      clear hline htk hik hxe hlen0
      have HGO := Lib.hid (And.intro hlt hlt')
      go_wp2_with (first
        | (go_at_call 23; refine HGET.out.mono ?_; rintro e w3 ⟨rfl, q3, rfl⟩)
        | (at_builtin; refine wpList_append_rw (v := .slice A0 k c0) (cs := cS ((s.ls.drop i).take k)) _ rfl _ _ 23 23 rfl 9 i0 (.string ⟨#[]⟩) 16 Tryz.underlying23 HINF.out.1 HINF.out.2.1 HINF.out.2.2.1 HINF.out.2.2.2 rfl rfl ((HRW.out.drewN q3).alloc _) (.slice (some ⟨wr.heap.size, 0, none⟩) 1 1) 1 [.string x] rfl (src_blk _ _ _ _ Tryz.underlying23 _ rfl (new_at _ _ rfl _)) ?c1 ?c2 ?_; rotate_left 2; intro v1 w1 hr1 hg1 ha1; have HR1 := Lib.hid hr1; have HG1 := Lib.hid hg1; have HA1 := Lib.hid ha1; clear hr1 hg1 ha1))
      case c1 => rw [cS_len, HL0.out]; omega
      case c2 => rw [cS_len, HL0.out]; omega
      have h5 := HR1.out
      rw [show cS ((s.ls.drop i).take k) ++ [Value.string x] = cS ((s.ls.drop i).take (k + 1)) by rw [HTK.out]; simp [cS]] at h5
      have hsz : w.heap.size ≤ ((wr.drewN q3).alloc (.cells #[.string x] 9)).heap.size := Nat.le_trans HBl.out.size (by simp)
      have h6 : ∀ b, v1.ownBlock = some b → w.heap.size ≤ b := HA1.out.from HRN.out hsz
      have h7 : Below w.heap.size w w1 := ((pw_below_drewN HBl.out q3).alloc (Nat.le_trans HBl.out.size (by simp)) (.cells #[.string x] 9)).grown HG1.out hsz HRN.out
      have H5 := Lib.hid (And.intro h5 (And.intro h6 h7))
      clear h5 h6 h7 hsz
      go_roundw
      case rel => first | exact ⟨k + 1, by go_num, HGO.out.1, H5.out.1, H5.out.2.1, H5.out.2.2⟩ | ((repeat apply Exists.intro); exact ⟨⟨k + 1, by go_num, HGO.out.1, H5.out.1, H5.out.2.1, H5.out.2.2⟩, rfl⟩)
      case measure => have := HGO.out.1; simp [intOf]; omega
    · obtain rfl : k = n := by omega
      have hlt' : ¬ ((i : Int) + 1 + k ≤ i + k) := by omega
      clear hlt
      go_wp2
      go_ret
      exact ⟨_, rfl, HRW.out, HRN.out, HBl.out⟩
end

theorem regsNew_any (w : World) : Calls Tryz.prog 7 #[] w fun e w' => (∃ R, e = .returned (.pointer (some ⟨R, 0, none⟩))) ∧ Below w.heap.size w w' := by
  have hmm := @run_makeMap Tryz.prog
  go_enter Tryz.func7, Tryz.ntmps7
  go_wp2
  go_ret
  refine ⟨⟨_, rfl⟩, ?_⟩
  exact below_alloc (below_alloc (Below.refl _ _) _) _

def sixS : List ByteArray := [⟨#[100]⟩, ⟨#[121]⟩, ⟨#[106]⟩, ⟨#[112]⟩, ⟨#[62]⟩, ⟨#[60]⟩]
theorem counted_any (x : ByteArray) (w : World) : Calls Tryz.prog 76 #[.string x] w fun e w' => e = .returned (.bool (Lib.containsS sixS x)) ∧ Below w.heap.size w w' := by
  have hc : ∀ W : World, Calls Tryz.prog 110 #[.slice (some ⟨W.heap.size, 0, none⟩) 6 6, .string x] (W.alloc (.cells (cS sixS).toArray 9)) fun e w' => e = .returned (.bool (Lib.containsS sixS x)) ∧ w' = W.alloc (.cells (cS sixS).toArray 9) := fun W => by
    refine Tryz.slices_Contains_string W.heap.size 0 6 6 sixS x _ (by decide) (by decide) (fun j hj => ?_)
    have := (ls_lit W sixS (by decide))
    obtain ⟨A, c, e, _, _, h3⟩ := this
    obtain ⟨b, o, e2, _, _, hc⟩ := h3 (by decide)
    injection e with e _ _
    rw [e2] at e
    injection e with e
    injection e with e3 e4 _
    subst e3
    subst e4
    refine hc j _ ?_
    rw [List.getD_eq_getElem?_getD, List.getElem?_eq_getElem hj]
    rfl
  have HC := Lib.hid hc
  clear hc
  go_enter Tryz.func76, Tryz.ntmps76
  go_wp2_with (go_at_call 110; refine (HC.out w).mono ?_; rintro e w1 ⟨rfl, rfl⟩)
  go_ret
  exact ⟨rfl, below_alloc (Below.refl _ _) _⟩
end Go.Proofs.YtdhemdeapphfoaaGreatDoor

/- edit.Do of the command p, walked. -/
set_option linter.unusedVariables false
set_option linter.unusedSimpArgs false
namespace Go.Proofs.YtdhemdeapphfoaaGreatDoor
open Go.RowKit Go.Shelf Go.Maps Go.Proofs.YtdhemdeapphfoaaGreatDoorW.PrintWords Go.Proofs.YtdhemdeapphfoaaGreatDoorW.PrintLast

theorem Bf.lenW {N0 : Nat} {w0 : Base} {w : World} {B : Nat} {s : Bs} (h : Bf N0 w0 w B s) : ∃ T, ∀ W, Below w.heap.size w W → W.cell? ⟨B, 0, none⟩ = some (.pointer (some ⟨T, 0, none⟩)) ∧ Calls Tryz.prog 22 #[.pointer (some ⟨T, 0, none⟩)] W fun e w' => e = .returned (.int .i64 s.ls.length) ∧ ∃ n, w' = W.drewN n := by
  obtain ⟨T, k, F, t⟩ := h.len
  exact ⟨T, fun W hb => ⟨(World.cell?_of_block (a := ⟨B, 0, none⟩) (hb.block B (cell_lt k))).trans k, len_is (t.step fun b hl hf => hb.block b hl)⟩⟩

theorem boxed {w : World} {n1 : Nat} (o1 o2 : Obj) : Below w.heap.size w (((w.alloc o1).drewN n1).alloc o2) ∧ (((w.alloc o1).drewN n1).alloc o2).heap[w.heap.size + 1]? = some o2 := by
  refine ⟨below_alloc (pw_below_drewN (below_alloc (Below.refl _ w) o1) n1) o2, ?_⟩
  have := World.alloc_heap_new ((w.alloc o1).drewN n1) o2
  rwa [show ((w.alloc o1).drewN n1).heap.size = w.heap.size + 1 by simp] at this

section
variable {N0 : Nat} {w0 : Base} {w w' : World} {B : Nat} {s : Bs}
end
end Go.Proofs.YtdhemdeapphfoaaGreatDoor
