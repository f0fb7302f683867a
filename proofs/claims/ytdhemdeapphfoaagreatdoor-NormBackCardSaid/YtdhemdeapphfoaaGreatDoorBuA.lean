import Derived.Test.YtdhemdeapphfoaaGreatDoorBtPa
import Derived.Maps.AppendAt
import Derived.Lib.SliceRun
set_option linter.unusedVariables false
set_option linter.unusedSimpArgs false

/- Rows of changes: api.Delta, three cells each; slices.Clone of them. -/
namespace Go.Proofs.YtdhemdeapphfoaaGreatDoor
open Go.RowKit Go.Shelf Go.Proofs.YtdhemdeapphfoaaGreatDoorW.PrintWords Go.Proofs.YtdhemdeapphfoaaGreatDoorW.PrintLast

theorem infoD : (Tryz.prog.info? 178).map (fun i => (i.zero, i.size, i.bytes)) = some (some (.agg #[.int .i64 0, .slice none 0 0, .slice none 0 0]), 3, 56) := by kernel_rfl

structure DV where
  at_ : Int
  vo : Value
  vn : Value
def DV.cells (x : DV) : List Value := [.int .i64 x.at_, x.vo, x.vn]
def dflat (L : List DV) : List Value := L.flatMap DV.cells
theorem dflat_length (L : List DV) : (dflat L).length = L.length * 3 := by
  induction L with
  | nil => rfl
  | cons x L ih =>
    rw [dflat, List.flatMap_cons, List.length_append, ← dflat, ih]
    simp [DV.cells]
    omega
theorem dflat_split {L : List DV} {k : Nat} {x : DV} (h : L[k]? = some x) : dflat L = dflat (L.take k) ++ (x.cells ++ dflat (L.drop (k + 1))) ∧ (dflat (L.take k)).length = k * 3 := by
  obtain ⟨hk, rfl⟩ := List.getElem?_eq_some_iff.1 h
  refine ⟨?_, by rw [dflat_length, List.length_take, Nat.min_eq_left (Nat.le_of_lt hk)]⟩
  have e : L = L.take k ++ L[k] :: L.drop (k + 1) := by rw [← List.drop_eq_getElem_cons hk, List.take_append_drop]
  have e2 := congrArg (List.flatMap DV.cells) e
  rw [List.flatMap_append, List.flatMap_cons] at e2
  exact e2
theorem dflat_at {L : List DV} {k j : Nat} {x : DV} (h : L[k]? = some x) (hj : j < 3) : (dflat L)[k * 3 + j]? = x.cells[j]? := by
  obtain ⟨h1, h2⟩ := dflat_split h
  rw [h1, List.getElem?_append_right (by omega), h2, Nat.add_sub_cancel_left, List.getElem?_append_left (by simpa [DV.cells] using hj)]
theorem dflat_set {L : List DV} {k j : Nat} {x y : DV} {v : Value} (h : L[k]? = some x) (hj : j < 3) (hy : y.cells = x.cells.set j v) : (dflat L).set (k * 3 + j) v = dflat (L.set k y) := by
  obtain ⟨h1, h2⟩ := dflat_split h
  have hk := (List.getElem?_eq_some_iff.1 h).1
  have h3 : (L.set k y)[k]? = some y := by simp [hk]
  obtain ⟨h4, _⟩ := dflat_split h3
  rw [h4, h1, List.set_append_right _ _ (by omega), h2, Nat.add_sub_cancel_left, List.set_append_left _ _ (by simpa [DV.cells] using hj), ← hy, List.take_set_of_le (Nat.le_refl k), List.drop_set_of_lt (Nat.lt_succ_self k)]
theorem dflat_append (L M : List DV) : dflat (L ++ M) = dflat L ++ dflat M := List.flatMap_append
theorem dflat_one {L : List DV} (hL : ∀ x ∈ L, x.vo.oneCell' = true ∧ x.vn.oneCell' = true) : ∀ u ∈ dflat L, u.oneCell' = true := by
  intro u hu
  obtain ⟨x, hx, hu⟩ := List.mem_flatMap.1 hu
  obtain ⟨h1, h2⟩ := hL x hx
  simp [DV.cells] at hu
  rcases hu with rfl | rfl | rfl
  · rfl
  · exact h1
  · exact h2

/-- a change -/
structure Dl where
  at_ : Int
  old : List ByteArray
  new : List ByteArray

/-- a row of changes; F: where it and its lines lie -/
structure Dw (w : World) (F : Nat → Prop) (v : Value) (L : List DV) (ds : List Dl) : Prop where
  row : w.ownsRow 0 178 3 v L.length (dflat L)
  foot : ∀ b, v.ownBlock = some b → F b
  len : L.length = ds.length
  els : ∀ (k : Nat) (x : DV) (d : Dl), L[k]? = some x → ds[k]? = some d → x.at_ = d.at_ ∧ Ls w F x.vo d.old ∧ Ls w F x.vn d.new
def Dr (w : World) (F : Nat → Prop) (v : Value) (ds : List Dl) : Prop := ∃ L, Dw w F v L ds

section
variable {w w' : World} {F : Nat → Prop} {v : Value} {ds : List Dl}
theorem owns_lt {base size n : Nat} {e : TypeId} {xs : List Value} (h : w.ownsRow base e size v n xs) : ∀ b, v.ownBlock = some b → b < w.heap.size := by
  intro b hb
  rcases h.2 with ⟨rfl, _⟩ | ⟨g, cap, cur, rfl, _, hg, _⟩
  · cases hb
  · injection hb with hb
    subst hb
    exact blk_lt hg
theorem owns_step {base size n : Nat} {e : TypeId} {xs : List Value} (h : w.ownsRow base e size v n xs) (hs : ∀ b, v.ownBlock = some b → w'.heap[b]? = w.heap[b]?) : w'.ownsRow base e size v n xs := by
  refine ⟨h.1, h.2.imp id ?_⟩
  rintro ⟨g, cap, cur, rfl, hb, hg, hr⟩
  exact ⟨g, cap, cur, rfl, hb, (hs g rfl).trans hg, hr⟩
theorem Ls.wide {G H : Nat → Prop} {xs : List ByteArray} (h : Ls w G v xs) (hw : ∀ b, b < w.heap.size → G b → H b) : Ls w H v xs := by
  obtain ⟨A, c, hv, h1, h2, h3⟩ := h
  refine ⟨A, c, hv, h1, h2, fun h0 => ?_⟩
  obtain ⟨b, o, ha, hg, hl, hc⟩ := h3 h0
  exact ⟨b, o, ha, hw b hl hg, hl, hc⟩
theorem Ls.one {G : Nat → Prop} {xs : List ByteArray} (h : Ls w G v xs) : v.oneCell' = true := by
  obtain ⟨A, c, rfl, _⟩ := h
  rfl
theorem Dw.step {L : List DV} (h : Dw w F v L ds) (hsz : w.heap.size ≤ w'.heap.size) (hs : ∀ b, b < w.heap.size → F b → w'.heap[b]? = w.heap[b]?) : Dw w' F v L ds :=
  ⟨owns_step h.row fun b hb => hs b (owns_lt h.row b hb) (h.foot b hb), h.foot, h.len, fun k x d hx hd => ⟨(h.els k x d hx hd).1, (h.els k x d hx hd).2.1.step hsz hs, (h.els k x d hx hd).2.2.step hsz hs⟩⟩
theorem Dw.wide {L : List DV} {F' : Nat → Prop} (h : Dw w F v L ds) (hF : ∀ b, b < w.heap.size → F b → F' b) : Dw w F' v L ds :=
  ⟨h.row, fun b hb => hF b (owns_lt h.row b hb) (h.foot b hb), h.len, fun k x d hx hd => ⟨(h.els k x d hx hd).1, (h.els k x d hx hd).2.1.wide hF, (h.els k x d hx hd).2.2.wide hF⟩⟩
theorem Dr.step (h : Dr w F v ds) (hsz : w.heap.size ≤ w'.heap.size) (hs : ∀ b, b < w.heap.size → F b → w'.heap[b]? = w.heap[b]?) : Dr w' F v ds := by
  obtain ⟨L, h⟩ := h
  exact ⟨L, h.step hsz hs⟩
theorem Dr.wide {F' : Nat → Prop} (h : Dr w F v ds) (hF : ∀ b, b < w.heap.size → F b → F' b) : Dr w F' v ds := by
  obtain ⟨L, h⟩ := h
  exact ⟨L, h.wide hF⟩
theorem Dr.nil (w : World) (F : Nat → Prop) : Dr w F (.slice none 0 0) [] := ⟨[], ⟨World.ownsRow_nil w 0 _ 3, fun b hb => by (cases hb), rfl, fun k x d hx => by (simp at hx)⟩⟩
theorem Dw.one {L : List DV} (h : Dw w F v L ds) : ∀ x ∈ L, x.vo.oneCell' = true ∧ x.vn.oneCell' = true := by
  intro x hx
  obtain ⟨k, hk, rfl⟩ := List.getElem_of_mem hx
  have hk2 : k < ds.length := by rw [← h.len]; exact hk
  have h1 := h.els k _ ds[k] (List.getElem?_eq_getElem hk) (List.getElem?_eq_getElem hk2)
  exact ⟨h1.2.1.one, h1.2.2.one⟩
end

theorem eqNilD (w : World) (a : Option Addr) (n c : Nat) : (binOp .eql 43 (.slice a n c) (.slice none 0 0)).run Tryz.prog w = .ok (.bool a.isNone) w := Go.Lib.run_eql_slice_nil w _ _ a n c 0 0 Tryz.underlying43

def DclPost (w : World) (n : Nat) (xs : List Value) (e : Ending) (w' : World) : Prop := ∃ v', e = .returned v' ∧ w'.ownsRow w.heap.size 178 3 v' n xs ∧ Below w.heap.size w w'

end Go.Proofs.YtdhemdeapphfoaaGreatDoor

/- buf.long: is a line too long?; slices.Clone of lines wherever they lie. -/
namespace Go.Proofs.YtdhemdeapphfoaaGreatDoor
open Go.RowKit Go.Shelf Go.Proofs.YtdhemdeapphfoaaGreatDoorW.PrintWords Go.Proofs.YtdhemdeapphfoaaGreatDoorW.PrintLast

/-- slices.Clone of lines -/
theorem cloL {w : World} {G : Nat → Prop} {v : Value} {xs : List ByteArray} (h : Ls w G v xs) (hb : xs.length * 16 ≤ 140737488355328) :
    Calls Tryz.prog 46 #[v] w (OwnPost w.heap.size w xs) := by
  obtain ⟨A, c, rfl, h1, h2, h3⟩ := h
  by_cases h0 : 0 < xs.length
  · obtain ⟨b, o, rfl, _, _, hc⟩ := h3 h0
    refine (Any.slices_Clone_string Tryz.cloS b o xs.length c xs w (Nat.le_refl _) hb (fun j hj => ?_)).mono ?_
    · refine hc j _ ?_
      rw [List.getD_eq_getElem?_getD, List.getElem?_eq_getElem hj]
      rfl
    · rintro _ w' ⟨v', rfl, hown, hne, hbl⟩
      rw [List.take_length] at hown
      refine ⟨v', rfl, Rw.of_owns hown cS_one, fun k hk => ?_, hbl⟩
      rcases hown.2 with ⟨hv, _⟩ | ⟨g, cap, cur, rfl, hg, _⟩
      · exact absurd hv hne
      · injection hk with hk
        exact hk ▸ hg
  · have hx : xs = [] := List.eq_nil_of_length_eq_zero (by omega)
    subst hx
    cases A with
    | none =>
      refine (Any.slices_Clone_string_nil Tryz.cloS 0 c w).mono ?_
      rintro _ w' ⟨rfl, rfl⟩
      exact ⟨_, rfl, Rw.nil _ _, fun k hk => by (cases hk), Below.refl _ _⟩
    | some a =>
      refine (Any.slices_Clone_string_zero Tryz.cloS a c w).mono ?_
      rintro _ w' ⟨v', rfl, hown, hne, hbl⟩
      refine ⟨v', rfl, Rw.of_owns hown cS_one, fun k hk => ?_, hbl⟩
      rcases hown.2 with ⟨hv, _⟩ | ⟨g, cap, cur, rfl, hg, _⟩
      · exact absurd hv hne
      · injection hk with hk
        exact hk ▸ hg

theorem long1_any (w : World) (x : ByteArray) : Calls Tryz.prog 30 #[.string x] w fun e w' => e = .returned (.bool (decide (1000 < x.size))) ∧ w' = w := by
  go_enter Tryz.func30, Tryz.ntmps30
  go_wp2
  go_ret
  refine ⟨?_, rfl⟩
  congr 3
  simp
  omega

def isLong (xs : List ByteArray) : Bool := xs.any fun x => decide (1000 < x.size)
def IdxPost (b : Bool) (w : World) (e : Ending) (w' : World) : Prop := ∃ r : Int, e = .returned (.int .i64 r) ∧ decide (0 ≤ r) = b ∧ Below w.heap.size w w'

set_option maxRecDepth 100000 in
theorem index_long {w : World} {G : Nat → Prop} {v : Value} {xs : List ByteArray} (h : Ls w G v xs) (hl : xs.length ≤ 1000000000) :
    Calls Tryz.prog 47 #[v, .func (.func 30) #[] #[]] w (IdxPost (isLong xs) w) := by
  obtain ⟨A, c, rfl, h1, h2, h3⟩ := h
  have H3 := Lib.hid h3
  clear h3
  go_enter Tryz.func47, Tryz.ntmps47
  go_wp2
  go_loopw [8] (fun v8 wr => ∃ j : Nat, v8 = .int .i64 j ∧ j ≤ xs.length ∧ isLong (xs.take j) = false ∧ Below w.heap.size w wr) (fun v8 _ => xs.length - (intOf v8).toNat)
  case atStart => exact ⟨0, rfl, by omega, rfl, Below.refl _ _⟩
  case round =>
    obtain ⟨j, rfl, hj, hlg, hbl⟩ := hrel
    have HBL := Lib.hid hbl
    have HLG := Lib.hid hlg
    clear hbl hlg
    by_cases hlt : j < xs.length
    · obtain ⟨b, o, rfl, _, hbs, hc⟩ := H3.out (by omega)
      obtain ⟨x, hx⟩ : ∃ x, x = xs[j] := ⟨_, rfl⟩
      have hxj : xs[j]? = some x := by rw [hx, List.getElem?_eq_getElem hlt]
      have hcell := (World.cell?_of_block (w := w) (w' := wr) (a := ⟨b, o + j, none⟩) (HBL.out.block b hbs)).trans (hc j x hxj)
      have htk : isLong (xs.take (j + 1)) = decide (1000 < x.size) := by
        have h9 := HLG.out
        unfold isLong at h9 ⊢
        rw [List.take_succ_eq_append_getElem hlt, List.any_append, h9, ← hx]
        simp
      have hall : isLong (xs.take (j + 1)) = true → isLong xs = true := by
        intro h9
        unfold isLong at h9 ⊢
        rw [← List.take_append_drop (j + 1) xs, List.any_append, h9]
        rfl
      have HTK := Lib.hid (And.intro htk hall)
      have hlt' : (j : Int) < xs.length := by omega
      clear hc hxj hx htk hall hbs
      go_wp2_with fail
      go_at_call 30
      refine (long1_any _ x).mono ?_
      rintro e w3 ⟨rfl, rfl⟩
      by_cases hb : 1000 < x.size
      · have hd : decide (1000 < x.size) = true := by simpa using hb
        rw [hd]
        go_wp2
        go_ret
        exact ⟨_, rfl, by rw [HTK.out.2 (HTK.out.1.trans hd)]; simp, HBL.out⟩
      · have hd : decide (1000 < x.size) = false := by simpa using hb
        rw [hd]
        go_wp2
        go_roundw
        case rel => exact ⟨j + 1, by go_num, by omega, HTK.out.1.trans hd, HBL.out⟩
        case measure => simp [intOf]; omega
    · obtain rfl : j = xs.length := by omega
      go_wp2
      go_ret
      have h9 := HLG.out
      rw [List.take_length] at h9
      exact ⟨_, rfl, by rw [h9]; decide, HBL.out⟩

theorem long_any {w : World} {G : Nat → Prop} {v : Value} {xs : List ByteArray} (h : Ls w G v xs) (hl : xs.length ≤ 1000000000) :
    Calls Tryz.prog 17 #[v] w fun e w' => e = .returned (.bool (isLong xs)) ∧ Below w.heap.size w w' := by
  have hc : Calls Tryz.prog 29 #[v, .func (.func 30) #[] #[]] w fun e w' => e = .returned (.bool (isLong xs)) ∧ Below w.heap.size w w' := by
    have hi := index_long h hl
    have HI := Lib.hid hi
    clear hi h
    go_enter Tryz.func29, Tryz.ntmps29
    go_wp2_with (go_at_call 47; refine HI.out.mono ?_; rintro e w3 ⟨r, rfl, hr, hb⟩; have HR := Lib.hid hr; have HB := Lib.hid hb; clear hr hb)
    go_ret
    refine ⟨?_, HB.out⟩
    rw [← HR.out]
    rfl
  have HC := Lib.hid hc
  clear hc h
  go_enter Tryz.func17, Tryz.ntmps17
  go_wp2_with (go_at_call 29; refine HC.out.mono ?_; rintro e w3 ⟨rfl, hb⟩; have HB := Lib.hid hb; clear hb)
  go_ret
  exact ⟨rfl, HB.out⟩
end Go.Proofs.YtdhemdeapphfoaaGreatDoor
