import Derived.Shelf.Spec.SlicesGrow
import Derived.Test.YtiddfimaenjdcaaGreatDoorProg
import Derived.Test.YtiddfimaenjdcaaGreatDoorBuA
import Derived.Test.YtiddfimaenjdcaaGreatDoorBvMx
set_option linter.unusedVariables false
set_option linter.unusedSimpArgs false

/- The library's slices.Grow at strings, laid at this program (its numbers by name). -/
namespace Go.Proofs
open Go.Shelf
end Go.Proofs

/- slices.Concat of rows of lines. -/
set_option linter.unusedVariables false
set_option linter.unusedSimpArgs false
namespace Go.Proofs.YtiddfimaenjdcaaGreatDoor
open Go.RowKit Go.Shelf Go.Proofs.YtiddfimaenjdcaaGreatDoorW.PrintWords Go.Proofs.YtiddfimaenjdcaaGreatDoorW.PrintLast

theorem Ls.src {P : Program} {w : World} {G : Nat → Prop} {t e' : TypeId} {v : Value} {xs : List ByteArray} (h : Ls w G v xs) (ht : P.underlying t = some (.slice e')) : Src P 1 t v xs.length (cS xs) w := by
  obtain ⟨A, c, rfl, h1, h2, h3⟩ := h
  by_cases h0 : 0 < xs.length
  · obtain ⟨b, o, rfl, _, _, hc⟩ := h3 h0
    refine Src.ofSlice _ ht ⟨b, o, none⟩ xs.length c (cS xs) (by simp [cS]) (fun j u hu => ?_) cS_one
    rw [Addr.add_lit]
    simp only [cS, List.getElem?_map, Option.map_eq_some_iff] at hu
    obtain ⟨x, hx, rfl⟩ := hu
    exact hc j x hx
  · have hx : xs = [] := List.eq_nil_of_length_eq_zero (by omega)
    subst hx
    cases A with
    | none => exact Src.ofNil _ ht c
    | some a => exact Src.ofSlice _ ht a 0 c [] rfl (fun j u hu => by simp at hu) (by simp)

theorem take_flat {α : Type} {l : List (List α)} {j : Nat} {x : List α} (h : l[j]? = some x) : (l.take (j + 1)).flatten = (l.take j).flatten ++ x := by
  obtain ⟨hj, rfl⟩ := List.getElem?_eq_some_iff.1 h
  rw [List.take_succ_eq_append_getElem hj, List.flatten_append]
  simp
theorem take_flat_le {α : Type} (l : List (List α)) (j : Nat) : (l.take j).flatten.length ≤ l.flatten.length := by
  have := congrArg (fun l => (List.flatten l).length) (List.take_append_drop j l)
  simp only [List.flatten_append, List.length_append] at this
  omega

end Go.Proofs.YtiddfimaenjdcaaGreatDoor

/- buf's Move, walked. -/
set_option linter.unusedVariables false
set_option linter.unusedSimpArgs false
namespace Go.Proofs.YtiddfimaenjdcaaGreatDoor
open Go.RowKit Go.Shelf Go.Maps Go.Proofs.YtiddfimaenjdcaaGreatDoorW.PrintWords Go.Proofs.YtiddfimaenjdcaaGreatDoorW.PrintLast

/-- the lines from low on, k of them, turned round at cut -/
def rot (ls : List ByteArray) (low k cut : Nat) : List ByteArray := ((ls.drop low).take k).drop cut ++ ((ls.drop low).take k).take cut
def moveS (s : Bs) (p q c : Int) (low k cut : Nat) : Bs := { changeS s low k (rot s.ls low k cut) with mar := movF s.mar p q c }

theorem Rw.ls_drop {w : World} {g n c : Nat} {xs : List ByteArray} (h : Rw w 9 (.slice (some ⟨g, 0, none⟩) n c) (cS xs)) {k : Nat} (hk : k ≤ n) : Ls w (fun _ => True) (.slice (some ⟨g, k, none⟩) (n - k) (c - k)) (xs.drop k) := by
  obtain ⟨h1, h2, h3⟩ := h.len
  rw [cS_len] at h1
  refine ⟨some ⟨g, k, none⟩, c - k, by rw [List.length_drop, h1], by rw [List.length_drop]; omega, by unfold maxLen at *; omega, fun h0 => ⟨g, k, rfl, trivial, h.lt g rfl, fun j x hx => ?_⟩⟩
  rw [List.getElem?_drop] at hx
  exact h.cell (cS_at hx)
theorem Rw.ls_take {w : World} {g n c : Nat} {xs : List ByteArray} (h : Rw w 9 (.slice (some ⟨g, 0, none⟩) n c) (cS xs)) {k : Nat} (hk : k ≤ n) : Ls w (fun _ => True) (.slice (some ⟨g, 0, none⟩) k c) (xs.take k) := by
  obtain ⟨h1, h2, h3⟩ := h.len
  rw [cS_len] at h1
  refine ⟨some ⟨g, 0, none⟩, c, by rw [List.length_take, Nat.min_eq_left (by omega)], by rw [List.length_take]; omega, h3, fun h0 => ⟨g, 0, rfl, trivial, h.lt g rfl, fun j x hx => ?_⟩⟩
  rw [List.length_take] at h0
  obtain ⟨hj, _⟩ := List.getElem?_eq_some_iff.1 hx
  rw [List.length_take] at hj
  rw [List.getElem?_take_of_lt (by omega)] at hx
  rw [Nat.zero_add]
  exact h.cell (cS_at hx)

theorem rot_length {ls : List ByteArray} {low k cut : Nat} (h : low + k ≤ ls.length) : (rot ls low k cut).length = k := by
  have e : ((ls.drop low).take k).length = k := by
    rw [List.length_take, List.length_drop]
    omega
  unfold rot
  rw [List.length_append, List.length_drop, e, List.length_take, e]
  omega
theorem rot_mem {ls : List ByteArray} {low k cut : Nat} {x : ByteArray} (h : x ∈ rot ls low k cut) : x ∈ ls := by
  unfold rot at h
  rcases List.mem_append.1 h with h | h
  · exact List.mem_of_mem_drop (List.mem_of_mem_take (List.mem_of_mem_drop h))
  · exact List.mem_of_mem_drop (List.mem_of_mem_take (List.mem_of_mem_take h))
section
variable {N0 : Nat} {w0 : Base} {w w' : World} {col : Nat → Nat} {B T p1 U : Nat} {s : Bs} {vl vm vo : Value} {L : List DV}
end
end Go.Proofs.YtiddfimaenjdcaaGreatDoor

/- buf's Move where it does nothing; Commit of nothing; Undo at the first state. -/
set_option linter.unusedVariables false
set_option linter.unusedSimpArgs false
namespace Go.Proofs.YtiddfimaenjdcaaGreatDoor
open Go.RowKit Go.Shelf Go.Maps Go.Proofs.YtiddfimaenjdcaaGreatDoorW.PrintWords Go.Proofs.YtiddfimaenjdcaaGreatDoorW.PrintLast

section
variable {N0 : Nat} {w0 : Base} {w w' : World} {col : Nat → Nat} {B T p1 U : Nat} {s : Bs} {vl vm vo : Value} {L : List DV}
end
end Go.Proofs.YtiddfimaenjdcaaGreatDoor

/- The law BufMoves: lines that are moved are all there; undone, they are as they were; what is refused changes nothing. -/
set_option linter.unusedVariables false
set_option linter.unusedSimpArgs false
namespace Go.Proofs.YtiddfimaenjdcaaGreatDoor
open Go.RowKit Go.Shelf Go.Maps Go.Proofs.YtiddfimaenjdcaaGreatDoorW.PrintWords Go.Proofs.YtiddfimaenjdcaaGreatDoorW.PrintLast

theorem splice_eq {X Y : List ByteArray} {i k : Nat} : Bt.splice X i k Y = X.take i ++ (Y ++ X.drop (i + k)) := by simp [Bt.splice]
theorem moved_front {X : List ByteArray} {low k cut : Nat} (h : low + k ≤ X.length) (hc : cut ≤ k) : ((Bt.splice X low k (rot X low k cut)).drop low).take (k - cut) = (X.drop (low + cut)).take (k - cut) := by
  have h1 : (X.take low).length = low := by rw [List.length_take]; omega
  have h2 : (((X.drop low).take k).drop cut).length = k - cut := by rw [List.length_drop, List.length_take, List.length_drop]; omega
  rw [splice_eq, List.drop_append_of_le_length (by omega), List.drop_of_length_le (by omega), List.nil_append, rot, List.append_assoc, List.take_append_of_le_length (by omega), List.take_of_length_le (by omega), List.drop_take, List.drop_drop]
theorem moved_back {X : List ByteArray} {low k cut : Nat} (h : low + k ≤ X.length) (hc : cut ≤ k) : ((Bt.splice X low k (rot X low k cut)).drop (low + (k - cut))).take cut = (X.drop low).take cut := by
  have h1 : (X.take low ++ ((X.drop low).take k).drop cut).length = low + (k - cut) := by rw [List.length_append, List.length_take, List.length_drop, List.length_take, List.length_drop]; omega
  have h2 : (((X.drop low).take k).take cut).length = cut := by rw [List.length_take, List.length_take, List.length_drop]; omega
  rw [splice_eq, rot, List.append_assoc, ← List.append_assoc, List.drop_append_of_le_length (by omega), List.drop_of_length_le (by omega), List.nil_append, List.take_append_of_le_length (by omega), List.take_of_length_le (by omega), List.take_take, Nat.min_eq_left hc]

/-- lines out of lines -/
theorem Ls.sub {w : World} {G : Nat → Prop} {g o n c : Nat} {xs : List ByteArray} (h : Ls w G (.slice (some ⟨g, o, none⟩) n c) xs) {i m : Nat} (hj : i + m ≤ n) : Ls w G (.slice (some ⟨g, o + i, none⟩) m (c - i)) ((xs.drop i).take m) := by
  obtain ⟨A, c', e, h1, h2, h3⟩ := h
  injection e with e1 e2 e3
  subst e1 e2 e3
  refine ⟨some ⟨g, o + i, none⟩, c - i, ?_, ?_, by unfold maxLen at *; omega, fun h0 => ?_⟩
  · rw [List.length_take, List.length_drop, Nat.min_eq_left (by omega)]
  · rw [List.length_take, List.length_drop]; omega
  · obtain ⟨b, o', e, hg, hb, hc⟩ := h3 (by rw [List.length_take, List.length_drop] at h0; omega)
    injection e with e
    injection e with e1 e2 _
    subst e1 e2
    refine ⟨g, o + i, rfl, hg, hb, fun k x hm => ?_⟩
    have hm1 : k < m := by
      obtain ⟨h9, _⟩ := List.getElem?_eq_some_iff.1 hm
      rw [List.length_take] at h9
      omega
    rw [List.getElem?_take_of_lt hm1, List.getElem?_drop] at hm
    rw [Nat.add_assoc]
    exact hc _ x hm
theorem Ls.kept {w w' : World} {G : Nat → Prop} {v : Value} {xs : List ByteArray} (h : Ls w G v xs) (hs : ∀ b, b < w.heap.size → G b → b < w'.heap.size ∧ w'.heap[b]? = w.heap[b]?) : Ls w' G v xs := by
  obtain ⟨A, c, hv, h1, h2, h3⟩ := h
  refine ⟨A, c, hv, h1, h2, fun h0 => ?_⟩
  obtain ⟨b, o, ha, hg, hl, hc⟩ := h3 h0
  exact ⟨b, o, ha, hg, (hs b hl hg).1, fun j x hx => (World.cell?_of_block (w := w) (a := ⟨b, o + j, none⟩) (hs b hl hg).2).trans (hc j x hx)⟩
theorem Ls.sub0 {w : World} {G : Nat → Prop} {g n c : Nat} {xs : List ByteArray} (h : Ls w G (.slice (some ⟨g, 0, none⟩) n c) xs) {i m : Nat} (hj : i + m ≤ n) : Ls w G (.slice (some ⟨g, i, none⟩) m (c - i)) ((xs.drop i).take m) := by
  have := h.sub hj
  rwa [Nat.zero_add] at this

section
variable {N0 : Nat} {w0 : Base} {w w' : World} {B : Nat} {s : Bs}
theorem Bf.lines (h : Bf N0 w0 w B s) (hl : s.ls.length ≤ 1000000000) : ∃ T, w.cell? ⟨B, 0, none⟩ = some (.pointer (some ⟨T, 0, none⟩)) ∧ Calls Tryz.prog 30 #[.pointer (some ⟨T, 0, none⟩)] w (OwnPost w.heap.size w s.ls) := by
  obtain ⟨T, k, F, t⟩ := h.len
  exact ⟨T, k, Lines_any t hl⟩
/-- blocks that are new are kept from here on -/
theorem Bf.guard (h : Bf N0 w0 w B s) (hb : Below w.heap.size w w') : Bf N0 ⟨w0.w, fun b => w0.P b ∨ (w.heap.size ≤ b ∧ b < w'.heap.size), w'⟩ w' B s := by
  obtain ⟨col, T, p1, U, vl, vm, vo, L, h⟩ := h
  have k := h.onNew 7 (by decide) hb
  refine ⟨_, T, p1, U, vl, vm, vo, L, { k with prot := ?_, below := k.below }⟩
  intro b hp
  rcases hp with hp | ⟨h1, h2⟩
  · obtain ⟨a1, a2, _⟩ := k.prot b hp
    exact ⟨a1, a2, rfl⟩
  · exact ⟨h2, recol_new h1, rfl⟩
theorem Bf.prot (h : Bf N0 w0 w B s) : ∀ b, w0.P b → b < w.heap.size ∧ w.heap[b]? = w0.z.heap[b]? := fun b hb => by
  obtain ⟨col, T, p1, U, vl, vm, vo, L, h⟩ := h
  exact ⟨(h.prot b hb).1, (h.prot b hb).2.2⟩
end


def m1of (m : Int) (X : List ByteArray) (p q c : Int) (low k cut : Nat) : Bs := moveS (newS m X) p q c low k cut
def m2of (m : Int) (X : List ByteArray) (p q c : Int) (low k cut : Nat) : Bs := commitS (m1of m X p q c low k cut) st0
def m3of (m : Int) (X : List ByteArray) (p q c : Int) (low k cut : Nat) : Bs := undoS (m2of m X p q c low k cut) (st1 X low k (rot X low k cut)) sp1
theorem m3_ls {m : Int} {X : List ByteArray} {p q c : Int} {low k cut : Nat} (hi : low + k ≤ X.length) : (m3of m X p q c low k cut).ls = X := by
  show Bt.splice (Bt.splice X low k (rot X low k cut)) (Int.toNat (low : Int)) (rot X low k cut).length ((X.drop low).take k) = X
  rw [Int.toNat_natCast]
  exact splice_back hi
theorem bounds64 {x : Int} (h : (Lit.int .i64 x).wf = true) : -9223372036854775808 ≤ x ∧ x ≤ 9223372036854775807 := by
  simpa [Lit.wf, IntKind.min, IntKind.max, IntKind.signed, IntKind.bits] using h

theorem iw (n m : Int) (h : n = m) (h1 : -9223372036854775808 ≤ n) (h2 : n ≤ 9223372036854775807) : IntKind.i64.wrap n = m := by
  rw [IntKind.wrap_i64]
  omega
theorem rem_nat (x : Int) {m : Int} (hm : 0 < m) : ∃ a : Nat, max x 0 % m = (a : Int) ∧ (a : Int) < m :=
  ⟨(max x 0 % m).toNat, (Int.toNat_of_nonneg (Int.emod_nonneg _ (by omega))).symm, by rw [Int.toNat_of_nonneg (Int.emod_nonneg _ (by omega))]; exact Int.emod_lt_of_pos _ hm⟩

end Go.Proofs.YtiddfimaenjdcaaGreatDoor
namespace Go.Proofs.YtiddfimaenjdcaaGreatDoor
open Go.RowKit Go.Shelf Go.Maps
end Go.Proofs.YtiddfimaenjdcaaGreatDoor
