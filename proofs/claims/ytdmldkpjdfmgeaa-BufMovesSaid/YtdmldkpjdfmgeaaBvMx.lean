import Derived.Test.YtdmldkpjdfmgeaaBvH
import Derived.Deep.Slices
import Derived.WideShapes
set_option linter.unusedVariables false
set_option linter.unusedSimpArgs false

/- buf's Undo, Cursor, Marks, States; the document's Same; heavy; walked. -/
namespace Go.Proofs.Ytdmldkpjdfmgeaa
open Go.RowKit Go.Shelf Go.Maps Go.Proofs.YtdmldkpjdfmgeaaW.PrintWords Go.Proofs.YtdmldkpjdfmgeaaW.PrintLast

section
variable {N0 : Nat} {w0 : Base} {w w' : World} {col : Nat → Nat} {B T p1 U : Nat} {s : Bs} {vl vm vo : Value} {L : List DV}
def undoS (s : Bs) (st sp : St) : Bs := keepS (leapS { backS s with us := { s.us with now := st.frm, all := upd s.us.all st.frm { sp with on_ := s.us.now } } } (turnDs st.by_))
set_option maxRecDepth 100000 in
theorem bundo_any (h : Bf N0 w0 w B s) (hk : s.kept = true) (hl : s.sls.length + 2 ≤ 1000000000) (hx : ∀ x ∈ s.sls, x.size ≤ 1000000000) (hns : s.ns < maxLen)
    {st sp : St} (hs : s.us.all s.us.now = some st) (hf : st.frm ≠ -1) (hp : s.us.all st.frm = some sp) (hn : st.by_.length ≤ 1000000000) (hb : ∀ d ∈ st.by_, d.old.length ≤ 1000000000 ∧ d.new.length ≤ 1000000000)
    (hft : fits s.sls (turnDs st.by_)) (hend : (leapS (backS s) (turnDs st.by_)).ls.length ≤ 1000000000) :
    Calls Try.prog 15 #[.pointer (some ⟨B, 0, none⟩)] w (BfPost N0 w0 B (undoS s st sp) (.int .u16 0)) := by
  obtain ⟨col, T, p1, U, vl, vm, vo, L, h⟩ := h
  have k5 : w.cell? ⟨B, 5, none⟩ = some (.pointer (some ⟨U, 0, none⟩)) := by rw [blk_cell h.box]; rfl
  have HL := Lib.hid (leap_undo ⟨_, _, _, _, _, _, _, h⟩ hk hl hx hns hs hf hp hn hb hft hend)
  clear h hk hl hx hns hs hf hp hn hb hft hend
  go_enter Try.func15, Try.ntmps15
  go_wp2_with (go_at_call 35; refine HL.out.mono ?_; rintro e w5 ⟨rfl, hb5⟩; have H5 := Lib.hid hb5; clear hb5)
  go_ret
  exact ⟨rfl, H5.out⟩

theorem cursor_any (h : Bf N0 w0 w B s) : Calls Try.prog 13 #[.pointer (some ⟨B, 0, none⟩)] w fun e w' => e = .returned (.int .i64 s.cur) ∧ w' = w := by
  obtain ⟨col, T, p1, U, vl, vm, vo, L, h⟩ := h
  have k7 : w.cell? ⟨B, 7, none⟩ = some (.int .i64 s.cur) := by rw [blk_cell h.box]; rfl
  clear h
  go_enter Try.func13, Try.ntmps13
  go_wp2
  go_ret
  exact ⟨rfl, rfl⟩
theorem marks_any (h : Bf N0 w0 w B s) : Calls Try.prog 16 #[.pointer (some ⟨B, 0, none⟩)] w fun e w' => (∃ p, e = .returned (.pointer (some ⟨p, 0, none⟩))) ∧ w' = w := by
  obtain ⟨col, T, p1, U, vl, vm, vo, L, h⟩ := h
  have k4 : w.cell? ⟨B, 4, none⟩ = some (.pointer (some ⟨p1, 0, none⟩)) := by rw [blk_cell h.box]; rfl
  clear h
  go_enter Try.func16, Try.ntmps16
  go_wp2
  go_ret
  exact ⟨⟨_, rfl⟩, rfl⟩
theorem states_any (h : Bf N0 w0 w B s) : Calls Try.prog 23 #[.pointer (some ⟨B, 0, none⟩)] w fun e w' => (∃ p, e = .returned (.pointer (some ⟨p, 0, none⟩))) ∧ w' = w := by
  obtain ⟨col, T, p1, U, vl, vm, vo, L, h⟩ := h
  have k5 : w.cell? ⟨B, 5, none⟩ = some (.pointer (some ⟨U, 0, none⟩)) := by rw [blk_cell h.box]; rfl
  clear h
  go_enter Try.func23, Try.ntmps23
  go_wp2
  go_ret
  exact ⟨⟨_, rfl⟩, rfl⟩

set_option maxRecDepth 100000 in
/-- two lists that are one -/
theorem sameL {w : World} {G H : Nat → Prop} {u v : Value} {xs : List ByteArray} (h : Ls w G u xs) (k : Ls w H v xs) (hl : xs.length ≤ 1000000000) :
    Calls Try.prog 11 #[u, v] w fun e w' => e = .returned (.bool true) ∧ Below w.heap.size w w' := by
  obtain ⟨A1, c1, rfl, _, _, h3⟩ := h
  obtain ⟨A2, c2, rfl, _, _, k3⟩ := k
  have H3 := Lib.hid h3
  have K3 := Lib.hid k3
  clear h3 k3
  go_enter Try.func11, Try.ntmps11
  go_wp2
  go_loopw [5] (fun v5 wr => ∃ j : Nat, v5 = .int .i64 j ∧ j ≤ xs.length ∧ Below w.heap.size w wr) (fun v5 _ => xs.length - (intOf v5).toNat)
  case atStart => exact ⟨0, rfl, by omega, Below.refl _ _⟩
  case round =>
    obtain ⟨j, rfl, hj, hbl⟩ := hrel
    by_cases hlt : j < xs.length
    · obtain ⟨b1, o1, rfl, _, hb1, hc1⟩ := H3.out (by omega)
      obtain ⟨b2, o2, rfl, _, hb2, hc2⟩ := K3.out (by omega)
      obtain ⟨x, hx⟩ : ∃ x, xs[j]? = some x := ⟨_, List.getElem?_eq_getElem hlt⟩
      have d1 := (World.cell?_of_block (w := w) (w' := wr) (a := ⟨b1, o1 + j, none⟩) (hbl.block b1 hb1)).trans (hc1 j x hx)
      have d2 := (World.cell?_of_block (w := w) (w' := wr) (a := ⟨b2, o2 + j, none⟩) (hbl.block b2 hb2)).trans (hc2 j x hx)
      have HBL := Lib.hid hbl
      have hlt' : (j : Int) < xs.length := by omega
      clear hc1 hc2 hx hbl
      go_wp2
      go_region
      all_goals
        go_wp2
        go_roundw
        case rel => exact ⟨j + 1, by go_num, by omega, below_drew HBL.out⟩
        case measure => simp [intOf]; omega
    · obtain rfl : j = xs.length := by omega
      go_wp2
      go_ret
      exact ⟨rfl, hbl⟩

def HeavyPost (w : World) (e : Ending) (w' : World) : Prop := ∃ b, e = .returned (.bool b) ∧ Below w.heap.size w w'
set_option maxRecDepth 100000 in
/-- heavy, no calls given -/
theorem heavyL {w : World} {G : Nat → Prop} {v : Value} {xs : List ByteArray} (h : Ls w G v xs) :
    Calls Try.prog 6 #[v, .slice none 0 0] w (HeavyPost w) := by
  obtain ⟨A1, c1, rfl, hc, hm, h3⟩ := h
  have H3 := Lib.hid h3
  have hxl : xs.length ≤ maxLen := Nat.le_trans hc hm
  unfold maxLen at hxl
  clear h3
  go_enter Try.func6, Try.ntmps6
  go_wp2
  go_loopw [5, 6] (fun v5 v6 wr => ∃ (m : Int) (j : Nat), v5 = .int .i64 m ∧ v6 = .int .i64 j ∧ j ≤ xs.length ∧ Below w.heap.size w wr) (fun _ v6 _ => xs.length - (intOf v6).toNat)
  case atStart => exact ⟨0, 0, rfl, rfl, by omega, Below.refl _ _⟩
  case round =>
    obtain ⟨m, j, rfl, rfl, hj, hbl⟩ := hrel
    by_cases hlt : j < xs.length
    · obtain ⟨b1, o1, rfl, _, hb1, hc1⟩ := H3.out (by omega)
      obtain ⟨x, hx⟩ : ∃ x, xs[j]? = some x := ⟨_, List.getElem?_eq_getElem hlt⟩
      have d1 := (World.cell?_of_block (w := w) (w' := wr) (a := ⟨b1, o1 + j, none⟩) (hbl.block b1 hb1)).trans (hc1 j x hx)
      have HBL := Lib.hid hbl
      have hlt' : (j : Int) < xs.length := by omega
      clear hc1 hx hbl
      go_wp2
      go_roundw
      case rel => exact ⟨_, j + 1, rfl, by go_num, by omega, HBL.out⟩
      case measure => simp [intOf]; omega
    · obtain rfl : j = xs.length := by omega
      have HBL := Lib.hid hbl
      clear hbl
      go_wp2
      go_loop [5, 7] (fun v5 v7 => ∃ m : Int, v5 = .int .i64 m ∧ v7 = .int .i64 0) (fun _ _ => 0)
      case atStart => exact ⟨m, rfl, rfl⟩
      case round =>
        obtain ⟨m2, rfl, rfl⟩ := hrel
        go_wp2
        all_goals
          go_ret
          exact ⟨_, rfl, HBL.out⟩
end
end Go.Proofs.Ytdmldkpjdfmgeaa

/- Buf, plain: spliced, committed, undone. -/
namespace Go.Proofs.Ytdmldkpjdfmgeaa

theorem splice_len {X Y : List ByteArray} {i k : Nat} (hi : i + k ≤ X.length) : (Bt.splice X i k Y).length = X.length - k + Y.length := by
  simp only [Bt.splice, List.length_append, List.length_take, List.length_drop]
  omega
theorem splice_back {X Y : List ByteArray} {i k : Nat} (hi : i + k ≤ X.length) : Bt.splice (Bt.splice X i k Y) i Y.length ((X.drop i).take k) = X := by
  have h1 : (X.take i).length = i := by rw [List.length_take]; omega
  have e : Bt.splice X i k Y = X.take i ++ (Y ++ X.drop (i + k)) := by simp [Bt.splice]
  have e2 : (X.take i ++ (Y ++ X.drop (i + k))).take i = X.take i := by rw [List.take_append_of_le_length (by omega), List.take_of_length_le (by omega)]
  have e3 : (X.take i ++ (Y ++ X.drop (i + k))).drop (i + Y.length) = X.drop (i + k) := by
    rw [List.drop_append, List.drop_of_length_le (by omega), h1, Nat.add_sub_cancel_left, List.drop_left, List.nil_append]
  rw [e, Bt.splice, e2, e3]
  rw [show X.drop (i + k) = (X.drop i).drop k by rw [List.drop_drop], List.take_append_drop, List.take_append_drop]

def st0 : St := ⟨-1, -1, [], []⟩
def s1of (m : Int) (X : List ByteArray) (i k : Nat) (Y : List ByteArray) : Bs := spliceS (newS m X) i k Y
def s2of (m : Int) (X : List ByteArray) (i k : Nat) (Y : List ByteArray) : Bs := commitS (s1of m X i k Y) st0
def dof (X : List ByteArray) (i k : Nat) (Y : List ByteArray) : Dl := ⟨i, (X.drop i).take k, Y⟩
def st1 (X : List ByteArray) (i k : Nat) (Y : List ByteArray) : St := ⟨0, -1, [dof X i k Y], []⟩
def sp1 : St := ⟨-1, 1, [], [1]⟩
def s3of (m : Int) (X : List ByteArray) (i k : Nat) (Y : List ByteArray) : Bs := undoS (s2of m X i k Y) (st1 X i k Y) sp1

section
variable {m : Int} {X Y : List ByteArray} {i k : Nat}
theorem s1_ls : (s1of m X i k Y).ls = Bt.splice X i k Y := rfl
theorem s1_opn : (s1of m X i k Y).opn = [dof X i k Y] := rfl
theorem s1_us : (s1of m X i k Y).us = us0 m := rfl
theorem us_now : (us0 m).all (us0 m).now = some st0 := rfl
theorem us_next : (us0 m).all (us0 m).next = none := rfl
theorem s2_sls : (s2of m X i k Y).sls = Bt.splice X i k Y := rfl
theorem s2_now : (s2of m X i k Y).us.all (s2of m X i k Y).us.now = some (st1 X i k Y) := rfl
theorem s2_par : (s2of m X i k Y).us.all (st1 X i k Y).frm = some sp1 := rfl
theorem s3_ls (hi : i + k ≤ X.length) : (s3of m X i k Y).ls = X := by
  show Bt.splice (Bt.splice X i k Y) (Int.toNat (i : Int)) Y.length ((X.drop i).take k) = X
  rw [Int.toNat_natCast]
  exact splice_back hi
theorem s3_cur (hi : i + k ≤ X.length) : (s3of m X i k Y).cur = min (max ((i : Int) + 1) 1) X.length := by
  show min (max ((i : Int) + 1) 1) (((Bt.splice (Bt.splice X i k Y) (Int.toNat (i : Int)) Y.length ((X.drop i).take k)).length : Nat) : Int) = _
  rw [Int.toNat_natCast, splice_back hi]
theorem s2_fits (hi : i + k ≤ X.length) (hX : X.length ≤ 1000000) (hY : Y.length ≤ 1000000) (hx : ∀ x ∈ X, x.size ≤ 1000000000) : fits (s2of m X i k Y).sls (turnDs (st1 X i k Y).by_) := by
  have hl : (Bt.splice X i k Y).length = X.length - k + Y.length := splice_len hi
  have ht : ((X.drop i).take k).length = k := by rw [List.length_take, List.length_drop]; omega
  refine ⟨Int.natCast_nonneg i, ?_, ?_, ?_, ?_, trivial⟩
  · show (i : Int) + (Y.length : Nat) ≤ ((Bt.splice X i k Y).length : Nat)
    omega
  · show (Bt.splice X i k Y).length + ((X.drop i).take k).length + 2 ≤ 1000000000
    omega
  · show Y.length ≤ 1000000000
    omega
  · intro x h
    exact hx x (List.mem_of_mem_drop (List.mem_of_mem_take h))
end
end Go.Proofs.Ytdmldkpjdfmgeaa

/- The chapter's example, walked. -/
namespace Go.Proofs.Ytdmldkpjdfmgeaa
open Go.RowKit Go.Shelf Go.Maps Go.Proofs.YtdmldkpjdfmgeaaW.PrintWords Go.Proofs.YtdmldkpjdfmgeaaW.PrintLast

/-- a commit, and an undo, behind a splice of a new text -/
theorem s_commit {N0 : Nat} {w0 : Base} {w : World} {B : Nat} {m : Int} {X Y : List ByteArray} {i k : Nat} (h : Bf N0 w0 w B (s1of m X i k Y)) (hm : 2 ≤ m) (hm2 : m ≤ 200) (hi : i + k ≤ X.length) (hX : X.length ≤ 1000000) (hY : Y.length ≤ 1000000) :
    Calls Try.prog 14 #[.pointer (some ⟨B, 0, none⟩)] w (BfPost N0 w0 B (s2of m X i k Y) (.tuple #[.int .i64 1, .bool true])) := by
  have hl : (Bt.splice X i k Y).length = X.length - k + Y.length := splice_len hi
  have ht : ((X.drop i).take k).length = k := by rw [List.length_take, List.length_drop]; omega
  refine commit_any h (st := st0) us_now us_next (show (0 : Int) ≤ 1 by decide) (show (1 : Int) ≤ 1000000000 by decide) (show ((1 : Nat) : Int) + 1 ≤ m by omega) (show m ≤ 1000000 by omega) (show 0 ≤ 1000000000 by decide) (show 0 < 1 by decide) (show 1 ≤ 1000000000 by decide) ?_ ?_
  · intro d hd
    rw [s1_opn] at hd
    simp at hd
    subst hd
    exact ⟨by show ((X.drop i).take k).length ≤ _; omega, by show Y.length ≤ _; omega⟩
  · rw [s1_ls, hl]
    omega
theorem s_undo {N0 : Nat} {w0 : Base} {w : World} {B : Nat} {m : Int} {X Y : List ByteArray} {i k : Nat} (h : Bf N0 w0 w B (s2of m X i k Y)) (hi : i + k ≤ X.length) (hX : X.length ≤ 1000000) (hY : Y.length ≤ 1000000) (hx : ∀ x ∈ X, x.size ≤ 1000000000) (hy : ∀ x ∈ Y, x.size ≤ 1000000000) :
    Calls Try.prog 15 #[.pointer (some ⟨B, 0, none⟩)] w (BfPost N0 w0 B (s3of m X i k Y) (.int .u16 0)) := by
  have hl : (Bt.splice X i k Y).length = X.length - k + Y.length := splice_len hi
  have ht : ((X.drop i).take k).length = k := by rw [List.length_take, List.length_drop]; omega
  refine bundo_any h rfl ?_ ?_ (show 0 < maxLen by decide) s2_now (show (0 : Int) ≠ -1 by decide) s2_par (show 1 ≤ 1000000000 by decide) ?_ (s2_fits hi hX hY hx) ?_
  · rw [s2_sls, hl]
    omega
  · intro x h
    rw [s2_sls, Bt.splice] at h
    simp only [List.mem_append] at h
    rcases h with h | h | h
    · exact hx x (List.mem_of_mem_take h)
    · exact hy x h
    · exact hx x (List.mem_of_mem_drop h)
  · intro d hd
    have hd2 : d ∈ [dof X i k Y] := hd
    simp at hd2
    subst hd2
    exact ⟨by show ((X.drop i).take k).length ≤ _; omega, by show Y.length ≤ _; omega⟩
  · show (Bt.splice (Bt.splice X i k Y) (Int.toNat (i : Int)) Y.length ((X.drop i).take k)).length ≤ 1000000000
    rw [Int.toNat_natCast, splice_back hi]
    omega

def sA : ByteArray := ⟨#[97]⟩
def sB : ByteArray := ⟨#[98]⟩
def sC : ByteArray := ⟨#[99]⟩
def sX : ByteArray := ⟨#[120]⟩
def sY : ByteArray := ⟨#[121]⟩
def abc : List ByteArray := [⟨#[97]⟩, ⟨#[98]⟩, ⟨#[99]⟩]
def xy : List ByteArray := [⟨#[120]⟩, ⟨#[121]⟩]
theorem ls_lit (w : World) (xs : List ByteArray) (h : xs.length ≤ maxLen) : Ls (w.alloc (.cells (cS xs).toArray 9)) (fun b => w.heap.size ≤ b) (.slice (some ⟨w.heap.size, 0, none⟩) xs.length xs.length) xs :=
  ⟨_, _, rfl, Nat.le_refl _, h, fun _ => ⟨w.heap.size, 0, rfl, Nat.le_refl _, by simp, fun j x hj => by
    rw [blk_cell (World.alloc_heap_new w _), Nat.zero_add, List.getElem?_toArray]
    exact cS_at hj⟩⟩
theorem Bf.len {N0 : Nat} {w0 : Base} {w : World} {B : Nat} {s : Bs} (h : Bf N0 w0 w B s) : ∃ T, w.cell? ⟨B, 0, none⟩ = some (.pointer (some ⟨T, 0, none⟩)) ∧ ∃ F, TreeIs w F T s.ls := by
  obtain ⟨col, T, p1, U, vl, vm, vo, L, h⟩ := h
  exact ⟨T, by rw [blk_cell h.box]; rfl, _, h.tree⟩
theorem Bf.new {N0 : Nat} {w0 : Base} {w w' : World} {B : Nat} {s : Bs} (h : Bf N0 w0 w B s) (hb : Below w.heap.size w w') : Bf N0 w0 w' B s := by
  obtain ⟨col, T, p1, U, vl, vm, vo, L, h⟩ := h
  exact ⟨_, _, _, _, _, _, _, _, h.onNew 9 (by decide) hb⟩
theorem Bf.below {N0 : Nat} {w0 : Base} {w : World} {B : Nat} {s : Bs} (h : Bf N0 w0 w B s) : Below N0 w0.w w := by
  obtain ⟨col, T, p1, U, vl, vm, vo, L, h⟩ := h
  exact h.below

set_option maxRecDepth 100000 in
set_option maxHeartbeats 1000000 in
theorem bknown_any (w : World) : Calls Try.prog 7 #[] w fun e w' => e = .returned (.bool true) ∧ Below w.heap.size w w' := by
  have h1 := bnew_any (m := 9) (ls_lit w abc (by decide)) (by decide) (by decide) (by decide) (by decide) (by decide)
  have H1 := Lib.hid h1
  clear h1
  go_enter Try.func7, Try.ntmps7
  go_wp2_with fail
  refine H1.out.mono ?_
  rintro e w1 ⟨B, rfl, b1⟩
  have b1' : Bf _ _ w1 B (newS 9 abc) := b1
  have HM := Lib.hid (marks_any b1')
  have HSt := Lib.hid (states_any b1')
  have hb2 := b1'.new (below_alloc (Below.refl _ w1) (.cells (cS xy).toArray 9))
  have hsp := bsplice_any hb2 (ls_lit w1 xy (by decide)) (i := 1) (k := 1) (a := 2) rfl (by decide) (by decide) (by decide) (by decide) (by decide) (by decide) (by decide) (by decide) (by decide)
  have HSP := Lib.hid hsp
  clear b1 b1' hb2 hsp
  go_wp2_with (first
    | (go_at_call 16; refine HM.out.mono ?_; rintro e w2 ⟨⟨p, rfl⟩, rfl⟩)
    | (go_at_call 23; refine HSt.out.mono ?_; rintro e w2 ⟨⟨p2, rfl⟩, rfl⟩)
    | (go_at_call 10; refine HSP.out.mono ?_; rintro e w3 ⟨rfl, hb3⟩; have b3 : Bf _ _ w3 B (s1of 9 abc 1 1 xy) := hb3; have HC := Lib.hid (s_commit b3 (by decide) (by decide) (by decide) (by decide) (by decide)); clear hb3 b3)
    | (go_at_call 14; refine HC.out.mono ?_; rintro e w4 ⟨rfl, b4⟩; obtain ⟨T4, k4, F4, t4⟩ := b4.len; have HL4 := Lib.hid (len_is t4); have HU := Lib.hid (fun q => s_undo (b4.new (below_drewN w4 q)) (by decide) (by decide) (by decide) (by decide) (by decide)); clear b4 t4)
    | (go_at_call 9; refine HL4.out.mono ?_; rintro e w5 ⟨rfl, q, rfl⟩)
    | (go_at_call 15; refine (HU.out q).mono ?_; rintro e w6 ⟨rfl, b6⟩; obtain ⟨T6, k6, F6, t6⟩ := b6.len; rw [s3_ls (by decide)] at t6; have HLN := Lib.hid (Lines_any t6 (by decide)); have H6 := Lib.hid b6; clear b6 t6))
  refine HLN.out.mono ?_
  rintro e w7 ⟨v7, rfl, h71, h72, h73⟩
  obtain ⟨A7, c7, hv7, _⟩ := h71.slice
  rw [cS_len] at hv7
  subst hv7
  have l7 := ((Ls.of_rw h71).step (w' := w7.alloc (.cells (cS abc).toArray 9)) (by simp) fun b hb _ => Below.heap_alloc w7 _ b hb)
  have hbl := (below_alloc h73 (.cells (cS abc).toArray 9))
  have HSM := Lib.hid (sameL l7 (ls_lit w7 abc (by decide)) (by decide))
  have HB7 := Lib.hid (H6.out.new hbl)
  clear l7 h71 h72 h73 hbl
  go_wp2_with fail
  go_at_call 11
  refine HSM.out.mono ?_
  rintro e w8 ⟨rfl, hb8⟩
  have b8 := HB7.out.new hb8
  have hcu := cursor_any b8
  have HB8 := Lib.hid b8.below
  rw [s3_cur (by decide)] at hcu
  have HCU := Lib.hid hcu
  clear hcu b8 hb8
  go_wp2_with (go_at_call 13; refine HCU.out.mono ?_; rintro e w9 ⟨rfl, rfl⟩)
  go_ret
  refine ⟨rfl, ?_⟩
  exact (below_alloc (Below.refl _ w) _).trans ⟨HB8.out.os, HB8.out.tape, HB8.out.output, HB8.out.size, fun b hb => HB8.out.block b (by rw [World.size_alloc]; omega)⟩
end Go.Proofs.Ytdmldkpjdfmgeaa

/- The law BufEmpty, walked. -/
namespace Go.Proofs.Ytdmldkpjdfmgeaa
open Go.RowKit Go.Shelf Go.Maps Go.Proofs.YtdmldkpjdfmgeaaW.PrintWords Go.Proofs.YtdmldkpjdfmgeaaW.PrintLast

set_option maxRecDepth 100000 in
theorem bnew_long {w : World} {G : Nat → Prop} {v : Value} {xs : List ByteArray} (hv : Ls w G v xs) {m : Int} (hm1 : 1 ≤ m) (hm2 : m ≤ 200) (hl : xs.length ≤ 2000) (hlg : isLong xs = true) :
    Calls Try.prog 8 #[v, .int .i64 m] w fun e w' => e = .returned (.tuple #[.pointer none, .int .u16 90]) ∧ Below w.heap.size w w' := by
  have HU := Lib.hid (undoNew_any w m hm1 hm2)
  have hlong : ∀ W, Below w.heap.size w W → Calls Try.prog 25 #[v] W fun e w' => e = .returned (.bool true) ∧ Below W.heap.size W w' := fun W hb => by
    have := long_any (hv.step hb.size fun b hlt _ => hb.block b hlt) (by omega)
    rw [hlg] at this
    exact this
  have HLG := Lib.hid hlong
  obtain ⟨Av, cv, hvs, _⟩ := id hv
  subst hvs
  clear hv hlong hlg hm1 hm2
  have hl' : (xs.length : Int) ≤ 2000 := by omega
  go_enter Try.func8, Try.ntmps8
  go_wp2_with (first
    | (go_at_call 24; refine HU.out.mono ?_; rintro e wa ⟨U, rfl, _, hu2, hu3⟩; have HU2 := Lib.hid hu3; clear hu2 hu3)
    | (go_at_call 25; refine (HLG.out _ HU2.out).mono ?_; rintro e wb ⟨rfl, hb⟩; have HB := Lib.hid hb; clear hb))
  go_ret2
  exact ⟨rfl, below_then HU2.out HU2.out.size HB.out⟩

theorem notLong {xs : List ByteArray} (h : isLong xs = false) : ∀ x ∈ xs, x.size ≤ 1000 := by
  intro x hx
  unfold isLong at h
  rw [List.any_eq_false] at h
  have := h x hx
  simp at this
  exact this
theorem full_len (xs : List ByteArray) : 1 ≤ (fullS xs).length ∧ (fullS xs).length ≤ xs.length + 1 := by
  unfold fullS
  split
  · exact ⟨by simp, by simp⟩
  · rename_i h
    have : xs.length ≠ 0 := fun e => h (List.eq_nil_of_length_eq_zero e)
    omega
theorem full_size {xs : List ByteArray} (h : ∀ x ∈ xs, x.size ≤ 1000) : ∀ x ∈ fullS xs, x.size ≤ 1000000000 := by
  intro x hx
  unfold fullS at hx
  split at hx
  · simp at hx
    subst hx
    decide
  · have := h x hx
    omega
def e1 : List ByteArray := [⟨#[]⟩]

set_option maxRecDepth 100000 in
set_option maxHeartbeats 2000000 in
theorem empty_walk {w : World} {G : Nat → Prop} {v : Value} {xs : List ByteArray} (h : Ls w G v xs) :
    Calls Try.prog 3 #[v] w fun e w' => e = .returned (.bool true) ∧ Below w.heap.size w w' := by
  have HH := Lib.hid (heavyL h)
  have HV := Lib.hid h
  obtain ⟨Av, cv, hvs, hcv, hcm, _⟩ := id h
  subst hvs
  unfold maxLen at hcm
  clear h
  go_enter Try.func3, Try.ntmps3
  go_wp2_with fail
  refine HH.out.mono ?_
  rintro e w1 ⟨b, rfl, hb1⟩
  have HB1 := Lib.hid hb1
  clear hb1
  cases b
  · by_cases hl : xs.length ≤ 300
    · have hl' : (xs.length : Int) ≤ 300 := by omega
      go_wp2_with (go_at_call 7; refine (bknown_any w1).mono ?_; rintro e w2 ⟨rfl, hb2⟩; have HB2 := Lib.hid (below_then HB1.out HB1.out.size hb2); clear hb2)
      have hv2 := HV.out.step HB2.out.size fun b hb _ => HB2.out.block b hb
      cases hlg : isLong xs
      · have hs := notLong hlg
        have hnw := bnew_any (m := 20) hv2 (by decide) (by decide) (by omega) hlg (fun x hx => by have := hs x hx; omega)
        obtain ⟨fl1, fl2⟩ := full_len xs
        have fsz := full_size hs
        obtain ⟨X, hX⟩ : ∃ X, fullS xs = X := ⟨_, rfl⟩
        rw [hX] at hnw fl1 fl2 fsz
        have HNW := Lib.hid hnw
        have HFS := Lib.hid fsz
        have HX := Lib.hid hX
        clear hnw hs fsz hX hv2
        have hi : 0 + X.length ≤ X.length := by omega
        refine HNW.out.mono ?_
        rintro e w3 ⟨B, rfl, b3⟩
        obtain ⟨T3, k3, F3, t3⟩ := b3.len
        have HL3 := Lib.hid (len_is t3)
        have hsp := fun q => bsplice_any (b3.new (below_drewN w3 q)) (xs := []) (v := .slice none 0 0) (G := fun _ => True) ⟨none, 0, rfl, Nat.le_refl _, Nat.zero_le _, fun h => absurd h (by simp)⟩ (i := 0) (k := X.length) (a := 1) rfl hi (show X.length + 0 ≤ X.length + 2000 by omega) (show X.length ≤ 1000000 by omega) (show 0 < X.length by omega) (by decide) (by omega) (by simp) (show 0 ≤ 1000000 by decide) (show 0 < maxLen by decide)
        have HSP := Lib.hid hsp
        clear hsp t3
        go_wp2_with (first
          | (go_at_call 9; refine HL3.out.mono ?_; rintro e w4 ⟨rfl, q, rfl⟩)
          | (go_at_call 10; refine (HSP.out q).mono ?_; rintro e w5 ⟨rfl, hb5⟩; have b5 : Bf _ _ w5 B (s1of 20 X 0 X.length e1) := (by have e9 : sputs X.length X.length [] = e1 := if_pos ⟨rfl, rfl⟩; have h9 := hb5; change Bf _ _ w5 B (spliceS (newS 20 X) 0 X.length (sputs X.length X.length [])) at h9; rw [e9] at h9; exact h9); have H5 := Lib.hid b5; obtain ⟨T5, k5, F5, t5⟩ := b5.len; have ht5 : Bt.splice X 0 X.length e1 = e1 := (by simp [Bt.splice, e1]); rw [s1_ls, ht5] at t5; have HLN := Lib.hid (Lines_any t5 (by decide)); clear hb5 b5 t5))
        refine HLN.out.mono ?_
        rintro e w6 ⟨v6, rfl, h61, h62, h63⟩
        obtain ⟨A6, c6, hv6, _⟩ := h61.slice
        rw [cS_len] at hv6
        subst hv6
        have l6 := ((Ls.of_rw h61).step (w' := w6.alloc (.cells (cS e1).toArray 9)) (by simp) fun b hb _ => Below.heap_alloc w6 _ b hb)
        have hbl := (below_alloc h63 (.cells (cS e1).toArray 9))
        have HSM := Lib.hid (sameL l6 (ls_lit w6 e1 (by decide)) (by decide))
        have HB6 := Lib.hid (H5.out.new hbl)
        clear l6 h61 h62 h63 hbl k5 k3
        go_wp2_with fail
        go_at_call 11
        refine HSM.out.mono ?_
        rintro e w7 ⟨rfl, hb7⟩
        have b7 := HB6.out.new hb7
        have hcu := cursor_any b7
        have hc1 : (s1of 20 X 0 X.length e1).cur = 1 := by
          have ht : Bt.splice X 0 X.length e1 = e1 := by simp [Bt.splice, e1]
          show min (max (1 : Int) 1) ((Bt.splice X 0 X.length e1).length : Nat) = 1
          rw [ht]
          decide
        rw [hc1] at hcu
        have HCU := Lib.hid hcu
        have HCM := Lib.hid (s_commit b7 (by decide) (by decide) hi (by omega) (by decide))
        clear hcu b7 hb7 hc1
        go_wp2_with (first
          | (go_at_call 13; refine HCU.out.mono ?_; rintro e w8 ⟨rfl, rfl⟩)
          | (go_at_call 14; refine HCM.out.mono ?_; rintro e w9 ⟨rfl, b9⟩; have HUN := Lib.hid (s_undo b9 hi (show X.length ≤ 1000000 by omega) (by decide) HFS.out (by decide)); clear b9)
          | (go_at_call 15; refine HUN.out.mono ?_; rintro e wa ⟨rfl, ba⟩; obtain ⟨Ta, ka, Fa, ta⟩ := ba.len; rw [s3_ls hi] at ta; have ka2 := (World.cell?_of_block (a := ⟨B, 0, none⟩) (Below.heap_alloc wa (.cells #[.string ⟨#[]⟩] 9) B (cell_lt ka))).trans ka; have HLA := Lib.hid (fun W (hW : Below wa.heap.size wa W) => Lines_any (ta.step fun b hb _ => hW.block b hb) (show X.length ≤ 1000000000 by omega)); have HA := Lib.hid ba; clear ba ta))
        · have hx0 : xs.length = 0 := by
            have h9 : ((xs.length : Int) == 0) = true := by assumption
            simpa using h9
          have hXe : X = e1 := by
            rw [← HX.out, fullS, if_pos (List.eq_nil_of_length_eq_zero hx0)]
            rfl
          refine (HLA.out _ (below_alloc (Below.refl _ wa) _)).mono ?_
          rintro e wb ⟨vb, rfl, g1, g2, g3⟩
          obtain ⟨A9, c9, hv9, _⟩ := g1.slice
          rw [cS_len] at hv9
          subst hv9
          have l9 := Ls.of_rw g1
          have k9 := (ls_lit wa e1 (by decide)).step g3.size fun b hb _ => g3.block b hb
          rw [← hXe] at k9
          have HSN := Lib.hid (sameL l9 k9 (show X.length ≤ 1000000000 by omega))
          have HBB := Lib.hid (below_then (below_then HB2.out HB2.out.size HA.out.below) (Nat.le_trans HB2.out.size HA.out.below.size) (below_then (below_alloc (Below.refl _ wa) (.cells (cS e1).toArray 9)) (by simp) g3))
          rw [hXe] at HSN
          clear l9 k9 g1 g2 g3
          go_wp2_with fail
          refine HSN.out.mono ?_
          rintro e wc ⟨rfl, hbc⟩
          have HBC := Lib.hid (below_then HBB.out HBB.out.size hbc)
          clear hbc
          go_wp2
          go_ret
          exact ⟨rfl, HBC.out⟩
        · have hx0 : ¬ xs.length = 0 := by
            have h9 : ((xs.length : Int) == 0) = false := by assumption
            simpa using h9
          have hXe : X = xs := by
            rw [← HX.out, fullS, if_neg (fun e => hx0 (by rw [e]; rfl))]
          refine (HLA.out _ (Below.refl _ wa)).mono ?_
          rintro e wb ⟨vb, rfl, g1, g2, g3⟩
          obtain ⟨A9, c9, hv9, _⟩ := g1.slice
          rw [cS_len] at hv9
          subst hv9
          have l9 := Ls.of_rw g1
          have hBB := below_then (below_then HB2.out HB2.out.size HA.out.below) (Nat.le_trans HB2.out.size HA.out.below.size) g3
          have k9 := HV.out.step hBB.size fun b hb _ => hBB.block b hb
          rw [hXe] at l9
          have HSN := Lib.hid (sameL l9 k9 (show xs.length ≤ 1000000000 by omega))
          have HBB := Lib.hid hBB
          clear l9 k9 g1 g2 g3 hBB
          rw [hXe]
          go_wp2_with fail
          refine HSN.out.mono ?_
          rintro e wc ⟨rfl, hbc⟩
          have HBC := Lib.hid (below_then HBB.out HBB.out.size hbc)
          clear hbc
          go_wp2
          go_ret
          exact ⟨rfl, HBC.out⟩
      · have hnw := bnew_long (m := 20) hv2 (by decide) (by decide) (by omega) hlg
        have HNW := Lib.hid hnw
        clear hnw hv2
        refine HNW.out.mono ?_
        rintro e w3 ⟨rfl, hb3⟩
        have HB3 := Lib.hid hb3
        clear hb3
        go_wp2
        go_ret
        exact ⟨rfl, below_then HB2.out HB2.out.size HB3.out⟩
    · have hl' : ¬ (xs.length : Int) ≤ 300 := by omega
      go_wp2_with (go_at_call 7; refine (bknown_any w1).mono ?_; rintro e w2 ⟨rfl, hb2⟩; have HB2 := Lib.hid (below_then HB1.out HB1.out.size hb2); clear hb2)
      go_ret
      exact ⟨rfl, HB2.out⟩
  · go_wp2_with (go_at_call 7; refine (bknown_any w1).mono ?_; rintro e w2 ⟨rfl, hb2⟩; have HB2 := Lib.hid (below_then HB1.out HB1.out.size hb2); clear hb2)
    go_ret
    exact ⟨rfl, HB2.out⟩
end Go.Proofs.Ytdmldkpjdfmgeaa

/- The argument []string, opened; BufEmpty as its row wants it. -/
namespace Go.Proofs.Ytdmldkpjdfmgeaa
open Go.RowKit Go.Shelf Go.Maps Go.ChangeShapes Go.WideShapes Go.Proofs.YtdmldkpjdfmgeaaW.PrintWords Go.Proofs.YtdmldkpjdfmgeaaW.PrintLast

def LsAt (W : World) (v : Value) : Prop := ∃ xs, Ls W (fun _ => True) v xs
set_option maxRecDepth 100000 in
theorem ls_open {H : Type} {enc : TypeId × Value → H} {W : World} {b : Nat} {v : Value} {d : DataW H} {p : List MemPlace} (_hv : Value.okWide Try.prog W .any b 22 v)
    (h : DataW.Trod enc Try.prog W 0 (fun _ => true) true 22 v d p) : ∃ A len cap, v = .slice A len cap ∧ len ≤ cap ∧ LsAt W (.slice A len cap) := by
  obtain ⟨a, len, cap, rfl⟩ := okWide_slice Try.underlying22 _hv
  obtain ⟨fuel, h⟩ := h
  rcases Go.Deep.open_slice1 Try.underlying22 (by kernel_rfl) h with ⟨hc, _⟩ | ⟨a, len', cap', m, q, V, D, Pl, hc, _, hl, hm, hmm, _, hx⟩
  · simp [Value.cells] at hc
    obtain ⟨rfl, rfl, rfl⟩ := hc
    exact ⟨none, 0, 0, rfl, Nat.le_refl _, [], none, 0, rfl, Nat.le_refl _, Nat.zero_le _, fun h => absurd h (by simp)⟩
  · simp [Value.cells] at hc
    obtain ⟨rfl, rfl, rfl⟩ := hc
    have hmm' : m = cap := by simpa using hmm
    have hstr : ∀ i, i < m → ∃ s : ByteArray, V i = .string s := fun i hi => by
      obtain ⟨s, e, _⟩ := Go.DataW.trod_string Try.underlying9 (hx i hi).2
      simp at e
      exact ⟨s, e⟩
    refine ⟨some a, len, cap, rfl, hl, (List.range len).map (fun i => match V i with | .string s => s | _ => ByteArray.empty), some a, cap, by simp, by simpa using hl, hm, fun h0 => ?_⟩
    have h0' : 0 < len := by simpa using h0
    have hc0 := (hx 0 (by omega)).1
    have hsp : a.spot = none := by
      cases e : a.spot with
      | none => rfl
      | some k =>
        have h9 : W.cell? a = some (V 0) := by simpa [Addr.add] using hc0
        unfold World.cell? at h9
        rw [e] at h9
        split at h9
        · simp at h9
        · cases h9
    obtain ⟨bk, off, spot⟩ := a
    dsimp only at hsp
    subst hsp
    have hlt : bk < W.heap.size := by
      have := cell_lt hc0
      simpa [Addr.add] using this
    refine ⟨bk, off, rfl, trivial, hlt, fun j x hj => ?_⟩
    rw [List.getElem?_map] at hj
    have hjl : j < len := by
      by_cases hjl : j < len
      · exact hjl
      · rw [List.getElem?_eq_none (by simpa using Nat.le_of_not_lt hjl)] at hj
        cases hj
    rw [List.getElem?_range hjl] at hj
    obtain ⟨s, hs⟩ := hstr j (by omega)
    have hcj := (hx j (by omega)).1
    rw [Addr.add_lit, hs] at hcj
    simp [hs] at hj
    rw [← hj]
    exact hcj

theorem empty_row (W : World) (A : Option Addr) (len cap : Nat) (_l : len ≤ cap) (h : LsAt W (.slice A len cap)) : Calls Try.prog 3 #[.slice A len cap] W fun e w' => e = .returned (.bool true) ∧ Below W.heap.size W w' := by
  obtain ⟨xs, h⟩ := h
  exact empty_walk h
end Go.Proofs.Ytdmldkpjdfmgeaa
