import Derived.Test.YtdhemdeapphfoaaGreatDoorBvFx
import Derived.Deep.Slices
import Derived.WideShapes
set_option linter.unusedVariables false
set_option linter.unusedSimpArgs false

/- buf's Undo, Cursor, Marks, States; the document's Same; heavy; walked. -/
namespace Go.Proofs.YtdhemdeapphfoaaGreatDoor
open Go.RowKit Go.Shelf Go.Maps Go.Proofs.YtdhemdeapphfoaaGreatDoorW.PrintWords Go.Proofs.YtdhemdeapphfoaaGreatDoorW.PrintLast

section
variable {N0 : Nat} {w0 : Base} {w w' : World} {col : Nat → Nat} {B T p1 U : Nat} {s : Bs} {vl vm vo : Value} {L : List DV}
def undoS (s : Bs) (st sp : St) : Bs := keepS (leapS { backS s with us := { s.us with now := st.frm, all := upd s.us.all st.frm { sp with on_ := s.us.now } } } (turnDs st.by_))
theorem cursor_any (h : Bf N0 w0 w B s) : Calls Tryz.prog 11 #[.pointer (some ⟨B, 0, none⟩)] w fun e w' => e = .returned (.int .i64 s.cur) ∧ w' = w := by
  obtain ⟨col, T, p1, U, vl, vm, vo, L, h⟩ := h
  have k7 : w.cell? ⟨B, 7, none⟩ = some (.int .i64 s.cur) := by rw [blk_cell h.box]; rfl
  clear h
  go_enter Tryz.func11, Tryz.ntmps11
  go_wp2
  go_ret
  exact ⟨rfl, rfl⟩
theorem marks_any (h : Bf N0 w0 w B s) : Calls Tryz.prog 147 #[.pointer (some ⟨B, 0, none⟩)] w fun e w' => (∃ p, e = .returned (.pointer (some ⟨p, 0, none⟩))) ∧ w' = w := by
  obtain ⟨col, T, p1, U, vl, vm, vo, L, h⟩ := h
  have k4 : w.cell? ⟨B, 4, none⟩ = some (.pointer (some ⟨p1, 0, none⟩)) := by rw [blk_cell h.box]; rfl
  clear h
  go_enter Tryz.func147, Tryz.ntmps147
  go_wp2
  go_ret
  exact ⟨⟨_, rfl⟩, rfl⟩
set_option maxRecDepth 100000 in
/-- two lists that are one -/
theorem sameL {w : World} {G H : Nat → Prop} {u v : Value} {xs : List ByteArray} (h : Ls w G u xs) (k : Ls w H v xs) (hl : xs.length ≤ 1000000000) :
    Calls Tryz.prog 13 #[u, v] w fun e w' => e = .returned (.bool true) ∧ Below w.heap.size w w' := by
  obtain ⟨A1, c1, rfl, _, _, h3⟩ := h
  obtain ⟨A2, c2, rfl, _, _, k3⟩ := k
  have H3 := Lib.hid h3
  have K3 := Lib.hid k3
  clear h3 k3
  go_enter Tryz.func13, Tryz.ntmps13
  go_wp2
  go_loopw [5] (fun v5 wr => ∃ j : Nat, v5 = .int .i64 j ∧ j ≤ xs.length ∧ Below w.heap.size w wr) (fun v5 _ => xs.length - (intOf v5).toNat)
  case atStart => exact ⟨0, rfl, by omega, Below.refl _ _⟩
  case round =>
    obtain ⟨j, rfl, hj, hbl⟩ := hrel
    by_cases hlt : j < xs.length
    · obtain ⟨b1, o1, rfl, _, hb1, hc1⟩ := H3.out (by omega)
      obtain ⟨b2, o2, rfl, _, hb2, hc2⟩ := K3.out (by omega)
      obtain ⟨x, hx⟩ : ∃ x, xs[j]? = some x := ⟨_, List.getElem?_eq_getElem hlt⟩
      have d1 := (World.cell?_of_block (w := w) (w' := wr) (a := ⟨b1, o1 + j, none⟩) (hbl.block b1 hb1)).trans (hc1 j x hx)
      have d2 := (World.cell?_of_block (w := w) (w' := wr) (a := ⟨b2, o2 + j, none⟩) (hbl.block b2 hb2)).trans (hc2 j x hx)
      have HBL := Lib.hid hbl
      have hlt' : (j : Int) < xs.length := by omega
      clear hc1 hc2 hx hbl
      go_wp2
      go_region
      all_goals
        go_wp2
        go_roundw
        case rel => exact ⟨j + 1, by go_num, by omega, below_drew HBL.out⟩
        case measure => simp [intOf]; omega
    · obtain rfl : j = xs.length := by omega
      go_wp2
      go_ret
      exact ⟨rfl, hbl⟩

def HeavyPost (w : World) (e : Ending) (w' : World) : Prop := ∃ b, e = .returned (.bool b) ∧ Below w.heap.size w w'
end
end Go.Proofs.YtdhemdeapphfoaaGreatDoor

/- Buf, plain: spliced, committed, undone. -/
namespace Go.Proofs.YtdhemdeapphfoaaGreatDoor

theorem splice_len {X Y : List ByteArray} {i k : Nat} (hi : i + k ≤ X.length) : (Bt.splice X i k Y).length = X.length - k + Y.length := by
  simp only [Bt.splice, List.length_append, List.length_take, List.length_drop]
  omega
theorem splice_back {X Y : List ByteArray} {i k : Nat} (hi : i + k ≤ X.length) : Bt.splice (Bt.splice X i k Y) i Y.length ((X.drop i).take k) = X := by
  have h1 : (X.take i).length = i := by rw [List.length_take]; omega
  have e : Bt.splice X i k Y = X.take i ++ (Y ++ X.drop (i + k)) := by simp [Bt.splice]
  have e2 : (X.take i ++ (Y ++ X.drop (i + k))).take i = X.take i := by rw [List.take_append_of_le_length (by omega), List.take_of_length_le (by omega)]
  have e3 : (X.take i ++ (Y ++ X.drop (i + k))).drop (i + Y.length) = X.drop (i + k) := by
    rw [List.drop_append, List.drop_of_length_le (by omega), h1, Nat.add_sub_cancel_left, List.drop_left, List.nil_append]
  rw [e, Bt.splice, e2, e3]
  rw [show X.drop (i + k) = (X.drop i).drop k by rw [List.drop_drop], List.take_append_drop, List.take_append_drop]

def st0 : St := ⟨-1, -1, [], []⟩
def s1of (m : Int) (X : List ByteArray) (i k : Nat) (Y : List ByteArray) : Bs := spliceS (newS m X) i k Y
def s2of (m : Int) (X : List ByteArray) (i k : Nat) (Y : List ByteArray) : Bs := commitS (s1of m X i k Y) st0
def dof (X : List ByteArray) (i k : Nat) (Y : List ByteArray) : Dl := ⟨i, (X.drop i).take k, Y⟩
def st1 (X : List ByteArray) (i k : Nat) (Y : List ByteArray) : St := ⟨0, -1, [dof X i k Y], []⟩
def sp1 : St := ⟨-1, 1, [], [1]⟩
def s3of (m : Int) (X : List ByteArray) (i k : Nat) (Y : List ByteArray) : Bs := undoS (s2of m X i k Y) (st1 X i k Y) sp1

section
variable {m : Int} {X Y : List ByteArray} {i k : Nat}
theorem s1_ls : (s1of m X i k Y).ls = Bt.splice X i k Y := rfl
theorem s1_opn : (s1of m X i k Y).opn = [dof X i k Y] := rfl
theorem s1_us : (s1of m X i k Y).us = us0 m := rfl
theorem us_now : (us0 m).all (us0 m).now = some st0 := rfl
theorem us_next : (us0 m).all (us0 m).next = none := rfl
theorem s2_sls : (s2of m X i k Y).sls = Bt.splice X i k Y := rfl
theorem s2_now : (s2of m X i k Y).us.all (s2of m X i k Y).us.now = some (st1 X i k Y) := rfl
theorem s2_par : (s2of m X i k Y).us.all (st1 X i k Y).frm = some sp1 := rfl
theorem s3_ls (hi : i + k ≤ X.length) : (s3of m X i k Y).ls = X := by
  show Bt.splice (Bt.splice X i k Y) (Int.toNat (i : Int)) Y.length ((X.drop i).take k) = X
  rw [Int.toNat_natCast]
  exact splice_back hi
theorem s3_cur (hi : i + k ≤ X.length) : (s3of m X i k Y).cur = min (max ((i : Int) + 1) 1) X.length := by
  show min (max ((i : Int) + 1) 1) (((Bt.splice (Bt.splice X i k Y) (Int.toNat (i : Int)) Y.length ((X.drop i).take k)).length : Nat) : Int) = _
  rw [Int.toNat_natCast, splice_back hi]
theorem s2_fits (hi : i + k ≤ X.length) (hX : X.length ≤ 1000000) (hY : Y.length ≤ 1000000) (hx : ∀ x ∈ X, x.size ≤ 1000000000) : fits (s2of m X i k Y).sls (turnDs (st1 X i k Y).by_) := by
  have hl : (Bt.splice X i k Y).length = X.length - k + Y.length := splice_len hi
  have ht : ((X.drop i).take k).length = k := by rw [List.length_take, List.length_drop]; omega
  refine ⟨Int.natCast_nonneg i, ?_, ?_, ?_, ?_, trivial⟩
  · show (i : Int) + (Y.length : Nat) ≤ ((Bt.splice X i k Y).length : Nat)
    omega
  · show (Bt.splice X i k Y).length + ((X.drop i).take k).length + 2 ≤ 1000000000
    omega
  · show Y.length ≤ 1000000000
    omega
  · intro x h
    exact hx x (List.mem_of_mem_drop (List.mem_of_mem_take h))
end
end Go.Proofs.YtdhemdeapphfoaaGreatDoor

/- The chapter's example, walked. -/
namespace Go.Proofs.YtdhemdeapphfoaaGreatDoor
open Go.RowKit Go.Shelf Go.Maps Go.Proofs.YtdhemdeapphfoaaGreatDoorW.PrintWords Go.Proofs.YtdhemdeapphfoaaGreatDoorW.PrintLast

def sA : ByteArray := ⟨#[97]⟩
def sB : ByteArray := ⟨#[98]⟩
def sC : ByteArray := ⟨#[99]⟩
def sX : ByteArray := ⟨#[120]⟩
def sY : ByteArray := ⟨#[121]⟩
def abc : List ByteArray := [⟨#[97]⟩, ⟨#[98]⟩, ⟨#[99]⟩]
def xy : List ByteArray := [⟨#[120]⟩, ⟨#[121]⟩]
theorem ls_lit (w : World) (xs : List ByteArray) (h : xs.length ≤ maxLen) : Ls (w.alloc (.cells (cS xs).toArray 9)) (fun b => w.heap.size ≤ b) (.slice (some ⟨w.heap.size, 0, none⟩) xs.length xs.length) xs :=
  ⟨_, _, rfl, Nat.le_refl _, h, fun _ => ⟨w.heap.size, 0, rfl, Nat.le_refl _, by simp, fun j x hj => by
    rw [blk_cell (World.alloc_heap_new w _), Nat.zero_add, List.getElem?_toArray]
    exact cS_at hj⟩⟩
theorem Bf.len {N0 : Nat} {w0 : Base} {w : World} {B : Nat} {s : Bs} (h : Bf N0 w0 w B s) : ∃ T, w.cell? ⟨B, 0, none⟩ = some (.pointer (some ⟨T, 0, none⟩)) ∧ ∃ F, TreeIs w F T s.ls := by
  obtain ⟨col, T, p1, U, vl, vm, vo, L, h⟩ := h
  exact ⟨T, by rw [blk_cell h.box]; rfl, _, h.tree⟩
theorem Bf.new {N0 : Nat} {w0 : Base} {w w' : World} {B : Nat} {s : Bs} (h : Bf N0 w0 w B s) (hb : Below w.heap.size w w') : Bf N0 w0 w' B s := by
  obtain ⟨col, T, p1, U, vl, vm, vo, L, h⟩ := h
  exact ⟨_, _, _, _, _, _, _, _, h.onNew 9 (by decide) hb⟩
theorem Bf.below {N0 : Nat} {w0 : Base} {w : World} {B : Nat} {s : Bs} (h : Bf N0 w0 w B s) : Below N0 w0.w w := by
  obtain ⟨col, T, p1, U, vl, vm, vo, L, h⟩ := h
  exact h.below

end Go.Proofs.YtdhemdeapphfoaaGreatDoor

/- The law BufEmpty, walked. -/
namespace Go.Proofs.YtdhemdeapphfoaaGreatDoor
open Go.RowKit Go.Shelf Go.Maps Go.Proofs.YtdhemdeapphfoaaGreatDoorW.PrintWords Go.Proofs.YtdhemdeapphfoaaGreatDoorW.PrintLast

set_option maxRecDepth 100000 in
theorem bnew_long {w : World} {G : Nat → Prop} {v : Value} {xs : List ByteArray} (hv : Ls w G v xs) {m : Int} (hm1 : 1 ≤ m) (hm2 : m ≤ 200) (hl : xs.length ≤ 2000) (hlg : isLong xs = true) :
    Calls Tryz.prog 6 #[v, .int .i64 m] w fun e w' => e = .returned (.tuple #[.pointer none, .int .u16 90]) ∧ Below w.heap.size w w' := by
  have HU := Lib.hid (undoNew_any w m hm1 hm2)
  have hlong : ∀ W, Below w.heap.size w W → Calls Tryz.prog 17 #[v] W fun e w' => e = .returned (.bool true) ∧ Below W.heap.size W w' := fun W hb => by
    have := long_any (hv.step hb.size fun b hlt _ => hb.block b hlt) (by omega)
    rw [hlg] at this
    exact this
  have HLG := Lib.hid hlong
  obtain ⟨Av, cv, hvs, _⟩ := id hv
  subst hvs
  clear hv hlong hlg hm1 hm2
  have hl' : (xs.length : Int) ≤ 2000 := by omega
  go_enter Tryz.func6, Tryz.ntmps6
  go_wp2_with (first
    | (go_at_call 16; refine HU.out.mono ?_; rintro e wa ⟨U, rfl, _, hu2, hu3⟩; have HU2 := Lib.hid hu3; clear hu2 hu3)
    | (go_at_call 17; refine (HLG.out _ HU2.out).mono ?_; rintro e wb ⟨rfl, hb⟩; have HB := Lib.hid hb; clear hb))
  go_ret2
  exact ⟨rfl, below_then HU2.out HU2.out.size HB.out⟩

theorem notLong {xs : List ByteArray} (h : isLong xs = false) : ∀ x ∈ xs, x.size ≤ 1000 := by
  intro x hx
  unfold isLong at h
  rw [List.any_eq_false] at h
  have := h x hx
  simp at this
  exact this
theorem full_len (xs : List ByteArray) : 1 ≤ (fullS xs).length ∧ (fullS xs).length ≤ xs.length + 1 := by
  unfold fullS
  split
  · exact ⟨by simp, by simp⟩
  · rename_i h
    have : xs.length ≠ 0 := fun e => h (List.eq_nil_of_length_eq_zero e)
    omega
theorem full_size {xs : List ByteArray} (h : ∀ x ∈ xs, x.size ≤ 1000) : ∀ x ∈ fullS xs, x.size ≤ 1000000000 := by
  intro x hx
  unfold fullS at hx
  split at hx
  · simp at hx
    subst hx
    decide
  · have := h x hx
    omega
def e1 : List ByteArray := [⟨#[]⟩]

end Go.Proofs.YtdhemdeapphfoaaGreatDoor

/- The argument []string, opened; BufEmpty as its row wants it. -/
namespace Go.Proofs.YtdhemdeapphfoaaGreatDoor
open Go.RowKit Go.Shelf Go.Maps Go.ChangeShapes Go.WideShapes Go.Proofs.YtdhemdeapphfoaaGreatDoorW.PrintWords Go.Proofs.YtdhemdeapphfoaaGreatDoorW.PrintLast

def LsAt (W : World) (v : Value) : Prop := ∃ xs, Ls W (fun _ => True) v xs
set_option maxRecDepth 100000 in
theorem ls_open {H : Type} {enc : TypeId × Value → H} {W : World} {b : Nat} {v : Value} {d : DataW H} {p : List MemPlace} (_hv : Value.okWide Tryz.prog W .any b 23 v)
    (h : DataW.Trod enc Tryz.prog W 0 (fun _ => true) true 23 v d p) : ∃ A len cap, v = .slice A len cap ∧ len ≤ cap ∧ LsAt W (.slice A len cap) := by
  obtain ⟨a, len, cap, rfl⟩ := okWide_slice Tryz.underlying23 _hv
  obtain ⟨fuel, h⟩ := h
  rcases Go.Deep.open_slice1 Tryz.underlying23 (by kernel_rfl) h with ⟨hc, _⟩ | ⟨a, len', cap', m, q, V, D, Pl, hc, _, hl, hm, hmm, _, hx⟩
  · simp [Value.cells] at hc
    obtain ⟨rfl, rfl, rfl⟩ := hc
    exact ⟨none, 0, 0, rfl, Nat.le_refl _, [], none, 0, rfl, Nat.le_refl _, Nat.zero_le _, fun h => absurd h (by simp)⟩
  · simp [Value.cells] at hc
    obtain ⟨rfl, rfl, rfl⟩ := hc
    have hmm' : m = cap := by simpa using hmm
    have hstr : ∀ i, i < m → ∃ s : ByteArray, V i = .string s := fun i hi => by
      obtain ⟨s, e, _⟩ := Go.DataW.trod_string Tryz.underlying9 (hx i hi).2
      simp at e
      exact ⟨s, e⟩
    refine ⟨some a, len, cap, rfl, hl, (List.range len).map (fun i => match V i with | .string s => s | _ => ByteArray.empty), some a, cap, by simp, by simpa using hl, hm, fun h0 => ?_⟩
    have h0' : 0 < len := by simpa using h0
    have hc0 := (hx 0 (by omega)).1
    have hsp : a.spot = none := by
      cases e : a.spot with
      | none => rfl
      | some k =>
        have h9 : W.cell? a = some (V 0) := by simpa [Addr.add] using hc0
        unfold World.cell? at h9
        rw [e] at h9
        split at h9
        · simp at h9
        · cases h9
    obtain ⟨bk, off, spot⟩ := a
    dsimp only at hsp
    subst hsp
    have hlt : bk < W.heap.size := by
      have := cell_lt hc0
      simpa [Addr.add] using this
    refine ⟨bk, off, rfl, trivial, hlt, fun j x hj => ?_⟩
    rw [List.getElem?_map] at hj
    have hjl : j < len := by
      by_cases hjl : j < len
      · exact hjl
      · rw [List.getElem?_eq_none (by simpa using Nat.le_of_not_lt hjl)] at hj
        cases hj
    rw [List.getElem?_range hjl] at hj
    obtain ⟨s, hs⟩ := hstr j (by omega)
    have hcj := (hx j (by omega)).1
    rw [Addr.add_lit, hs] at hcj
    simp [hs] at hj
    rw [← hj]
    exact hcj

end Go.Proofs.YtdhemdeapphfoaaGreatDoor
