import Derived.Test.YtdmldkpjdfmgeaaBtPa
import Derived.Maps.AppendAt
import Derived.Lib.SliceRun
set_option linter.unusedVariables false
set_option linter.unusedSimpArgs false

/- Rows of changes: api.Delta, three cells each; slices.Clone of them. -/
namespace Go.Proofs.Ytdmldkpjdfmgeaa
open Go.RowKit Go.Shelf Go.Proofs.YtdmldkpjdfmgeaaW.PrintWords Go.Proofs.YtdmldkpjdfmgeaaW.PrintLast

theorem infoD : (Try.prog.info? 93).map (fun i => (i.zero, i.size, i.bytes)) = some (some (.agg #[.int .i64 0, .slice none 0 0, .slice none 0 0]), 3, 56) := by kernel_rfl

structure DV where
  at_ : Int
  vo : Value
  vn : Value
def DV.cells (x : DV) : List Value := [.int .i64 x.at_, x.vo, x.vn]
def dflat (L : List DV) : List Value := L.flatMap DV.cells
theorem dflat_length (L : List DV) : (dflat L).length = L.length * 3 := by
  induction L with
  | nil => rfl
  | cons x L ih =>
    rw [dflat, List.flatMap_cons, List.length_append, ← dflat, ih]
    simp [DV.cells]
    omega
theorem dflat_split {L : List DV} {k : Nat} {x : DV} (h : L[k]? = some x) : dflat L = dflat (L.take k) ++ (x.cells ++ dflat (L.drop (k + 1))) ∧ (dflat (L.take k)).length = k * 3 := by
  obtain ⟨hk, rfl⟩ := List.getElem?_eq_some_iff.1 h
  refine ⟨?_, by rw [dflat_length, List.length_take, Nat.min_eq_left (Nat.le_of_lt hk)]⟩
  have e : L = L.take k ++ L[k] :: L.drop (k + 1) := by rw [← List.drop_eq_getElem_cons hk, List.take_append_drop]
  have e2 := congrArg (List.flatMap DV.cells) e
  rw [List.flatMap_append, List.flatMap_cons] at e2
  exact e2
theorem dflat_at {L : List DV} {k j : Nat} {x : DV} (h : L[k]? = some x) (hj : j < 3) : (dflat L)[k * 3 + j]? = x.cells[j]? := by
  obtain ⟨h1, h2⟩ := dflat_split h
  rw [h1, List.getElem?_append_right (by omega), h2, Nat.add_sub_cancel_left, List.getElem?_append_left (by simpa [DV.cells] using hj)]
theorem dflat_set {L : List DV} {k j : Nat} {x y : DV} {v : Value} (h : L[k]? = some x) (hj : j < 3) (hy : y.cells = x.cells.set j v) : (dflat L).set (k * 3 + j) v = dflat (L.set k y) := by
  obtain ⟨h1, h2⟩ := dflat_split h
  have hk := (List.getElem?_eq_some_iff.1 h).1
  have h3 : (L.set k y)[k]? = some y := by simp [hk]
  obtain ⟨h4, _⟩ := dflat_split h3
  rw [h4, h1, List.set_append_right _ _ (by omega), h2, Nat.add_sub_cancel_left, List.set_append_left _ _ (by simpa [DV.cells] using hj), ← hy, List.take_set_of_le (Nat.le_refl k), List.drop_set_of_lt (Nat.lt_succ_self k)]
theorem dflat_append (L M : List DV) : dflat (L ++ M) = dflat L ++ dflat M := List.flatMap_append
theorem dflat_one {L : List DV} (hL : ∀ x ∈ L, x.vo.oneCell' = true ∧ x.vn.oneCell' = true) : ∀ u ∈ dflat L, u.oneCell' = true := by
  intro u hu
  obtain ⟨x, hx, hu⟩ := List.mem_flatMap.1 hu
  obtain ⟨h1, h2⟩ := hL x hx
  simp [DV.cells] at hu
  rcases hu with rfl | rfl | rfl
  · rfl
  · exact h1
  · exact h2

/-- a change -/
structure Dl where
  at_ : Int
  old : List ByteArray
  new : List ByteArray

/-- a row of changes; F: where it and its lines lie -/
structure Dw (w : World) (F : Nat → Prop) (v : Value) (L : List DV) (ds : List Dl) : Prop where
  row : w.ownsRow 0 93 3 v L.length (dflat L)
  foot : ∀ b, v.ownBlock = some b → F b
  len : L.length = ds.length
  els : ∀ (k : Nat) (x : DV) (d : Dl), L[k]? = some x → ds[k]? = some d → x.at_ = d.at_ ∧ Ls w F x.vo d.old ∧ Ls w F x.vn d.new
def Dr (w : World) (F : Nat → Prop) (v : Value) (ds : List Dl) : Prop := ∃ L, Dw w F v L ds

section
variable {w w' : World} {F : Nat → Prop} {v : Value} {ds : List Dl}
theorem owns_lt {base size n : Nat} {e : TypeId} {xs : List Value} (h : w.ownsRow base e size v n xs) : ∀ b, v.ownBlock = some b → b < w.heap.size := by
  intro b hb
  rcases h.2 with ⟨rfl, _⟩ | ⟨g, cap, cur, rfl, _, hg, _⟩
  · cases hb
  · injection hb with hb
    subst hb
    exact blk_lt hg
theorem owns_step {base size n : Nat} {e : TypeId} {xs : List Value} (h : w.ownsRow base e size v n xs) (hs : ∀ b, v.ownBlock = some b → w'.heap[b]? = w.heap[b]?) : w'.ownsRow base e size v n xs := by
  refine ⟨h.1, h.2.imp id ?_⟩
  rintro ⟨g, cap, cur, rfl, hb, hg, hr⟩
  exact ⟨g, cap, cur, rfl, hb, (hs g rfl).trans hg, hr⟩
theorem Ls.wide {G H : Nat → Prop} {xs : List ByteArray} (h : Ls w G v xs) (hw : ∀ b, b < w.heap.size → G b → H b) : Ls w H v xs := by
  obtain ⟨A, c, hv, h1, h2, h3⟩ := h
  refine ⟨A, c, hv, h1, h2, fun h0 => ?_⟩
  obtain ⟨b, o, ha, hg, hl, hc⟩ := h3 h0
  exact ⟨b, o, ha, hw b hl hg, hl, hc⟩
theorem Ls.one {G : Nat → Prop} {xs : List ByteArray} (h : Ls w G v xs) : v.oneCell' = true := by
  obtain ⟨A, c, rfl, _⟩ := h
  rfl
theorem Dw.step {L : List DV} (h : Dw w F v L ds) (hsz : w.heap.size ≤ w'.heap.size) (hs : ∀ b, b < w.heap.size → F b → w'.heap[b]? = w.heap[b]?) : Dw w' F v L ds :=
  ⟨owns_step h.row fun b hb => hs b (owns_lt h.row b hb) (h.foot b hb), h.foot, h.len, fun k x d hx hd => ⟨(h.els k x d hx hd).1, (h.els k x d hx hd).2.1.step hsz hs, (h.els k x d hx hd).2.2.step hsz hs⟩⟩
theorem Dw.wide {L : List DV} {F' : Nat → Prop} (h : Dw w F v L ds) (hF : ∀ b, b < w.heap.size → F b → F' b) : Dw w F' v L ds :=
  ⟨h.row, fun b hb => hF b (owns_lt h.row b hb) (h.foot b hb), h.len, fun k x d hx hd => ⟨(h.els k x d hx hd).1, (h.els k x d hx hd).2.1.wide hF, (h.els k x d hx hd).2.2.wide hF⟩⟩
theorem Dr.step (h : Dr w F v ds) (hsz : w.heap.size ≤ w'.heap.size) (hs : ∀ b, b < w.heap.size → F b → w'.heap[b]? = w.heap[b]?) : Dr w' F v ds := by
  obtain ⟨L, h⟩ := h
  exact ⟨L, h.step hsz hs⟩
theorem Dr.wide {F' : Nat → Prop} (h : Dr w F v ds) (hF : ∀ b, b < w.heap.size → F b → F' b) : Dr w F' v ds := by
  obtain ⟨L, h⟩ := h
  exact ⟨L, h.wide hF⟩
theorem Dr.nil (w : World) (F : Nat → Prop) : Dr w F (.slice none 0 0) [] := ⟨[], ⟨World.ownsRow_nil w 0 _ 3, fun b hb => by (cases hb), rfl, fun k x d hx => by (simp at hx)⟩⟩
theorem Dw.one {L : List DV} (h : Dw w F v L ds) : ∀ x ∈ L, x.vo.oneCell' = true ∧ x.vn.oneCell' = true := by
  intro x hx
  obtain ⟨k, hk, rfl⟩ := List.getElem_of_mem hx
  have hk2 : k < ds.length := by rw [← h.len]; exact hk
  have h1 := h.els k _ ds[k] (List.getElem?_eq_getElem hk) (List.getElem?_eq_getElem hk2)
  exact ⟨h1.2.1.one, h1.2.2.one⟩
end

theorem eqNilD (w : World) (a : Option Addr) (n c : Nat) : (binOp .eql 36 (.slice a n c) (.slice none 0 0)).run Try.prog w = .ok (.bool a.isNone) w := Go.Lib.run_eql_slice_nil w _ _ a n c 0 0 Try.underlying36

def DclPost (w : World) (n : Nat) (xs : List Value) (e : Ending) (w' : World) : Prop := ∃ v', e = .returned v' ∧ w'.ownsRow w.heap.size 93 3 v' n xs ∧ Below w.heap.size w w'

set_option maxRecDepth 100000 in
theorem dcl_any (w : World) {v : Value} {n : Nat} {xs : List Value} (h : w.ownsRow 0 93 3 v n xs) (h1 : ∀ u ∈ xs, u.oneCell' = true) (hb : n * 56 ≤ 140737488355328) (hn : n ≤ maxLen) :
    Calls Try.prog 64 #[v] w (DclPost w n xs) := by
  rcases h.2 with ⟨rfl, rfl⟩ | ⟨g, cap, cur, rfl, h0, hg, hnc, hcm, hcs, htk⟩
  · have hx : xs = [] := List.eq_nil_of_length_eq_zero (by simpa using h.1)
    subst hx
    clear h h1
    have heqn := eqNilD
    go_enter Try.func64, Try.ntmps64
    go_wp2
    go_ret
    exact ⟨_, rfl, World.ownsRow_nil w _ _ 3, Below.refl _ _⟩
  · have hgl := blk_lt hg
    have hcells : ∀ (o : Obj) j u, xs[j]? = some u → (w.alloc o).cell? ((⟨g, 0, none⟩ : Addr).add j) = some u := fun o => (owns_step (w' := w.alloc o) h (fun b hb => Below.heap_alloc w o b (owns_lt h b hb))).cells (g := g) rfl
    have HC := Lib.hid hcells
    have HH := Lib.hid h
    have H1 := Lib.hid h1
    obtain ⟨i0, hi0, hz0, hz1, hz2⟩ := info_parts infoD
    have HINF := Lib.hid (And.intro hi0 (And.intro hz0 (And.intro hz1 hz2)))
    clear hcells h h1 hi0 hz0 hz1 hz2 hcs htk hg
    have hrow : ∀ W : World, (W.alloc (.cells #[] 93)).ownsRow W.heap.size 93 3 (.slice (some ⟨W.heap.size, 0, none⟩) 0 0) 0 [] := fun W =>
      ⟨rfl, .inr ⟨W.heap.size, 0, #[], rfl, Nat.le_refl _, heap_alloc_new W _, Nat.le_refl _, Nat.zero_le _, rfl, rfl⟩⟩
    have HR := Lib.hid hrow
    clear hrow
    have heqn := eqNilD
    go_enter Try.func64, Try.ntmps64
    go_wp2_with (at_builtin; refine wpList_append_own_at _ rfl _ _ 36 rfl w.heap.size 93 i0 _ 3 56 Try.underlying36 HINF.out.1 HINF.out.2.1 HINF.out.2.2.1 HINF.out.2.2.2 rfl (by decide) _ 0 [] rfl (HR.out w) ⟨g, 0, none⟩ n cap xs rfl HH.out.1 (HC.out _) H1.out (by omega) (by omega) (by simp) ?_; intro v1 w1 hr1 hg1 _ ha1; have HR1 := Lib.hid hr1; have HG1 := Lib.hid hg1; clear hr1 hg1 ha1)
    go_ret
    have h2 := HR1.out
    rw [Nat.zero_add, List.nil_append] at h2
    refine ⟨_, rfl, h2, ?_⟩
    exact (below_alloc (Below.refl w.heap.size w) _).grown HG1.out (by simp) (fun k hk => Nat.le_of_eq (Option.some.inj hk))
end Go.Proofs.Ytdmldkpjdfmgeaa

/- buf.long: is a line too long?; slices.Clone of lines wherever they lie. -/
namespace Go.Proofs.Ytdmldkpjdfmgeaa
open Go.RowKit Go.Shelf Go.Proofs.YtdmldkpjdfmgeaaW.PrintWords Go.Proofs.YtdmldkpjdfmgeaaW.PrintLast

/-- slices.Clone of lines -/
theorem cloL {w : World} {G : Nat → Prop} {v : Value} {xs : List ByteArray} (h : Ls w G v xs) (hb : xs.length * 16 ≤ 140737488355328) :
    Calls Try.prog 29 #[v] w (OwnPost w.heap.size w xs) := by
  obtain ⟨A, c, rfl, h1, h2, h3⟩ := h
  by_cases h0 : 0 < xs.length
  · obtain ⟨b, o, rfl, _, _, hc⟩ := h3 h0
    refine (Any.slices_Clone_string Try.cloS b o xs.length c xs w (Nat.le_refl _) hb (fun j hj => ?_)).mono ?_
    · refine hc j _ ?_
      rw [List.getD_eq_getElem?_getD, List.getElem?_eq_getElem hj]
      rfl
    · rintro _ w' ⟨v', rfl, hown, hne, hbl⟩
      rw [List.take_length] at hown
      refine ⟨v', rfl, Rw.of_owns hown cS_one, fun k hk => ?_, hbl⟩
      rcases hown.2 with ⟨hv, _⟩ | ⟨g, cap, cur, rfl, hg, _⟩
      · exact absurd hv hne
      · injection hk with hk
        exact hk ▸ hg
  · have hx : xs = [] := List.eq_nil_of_length_eq_zero (by omega)
    subst hx
    cases A with
    | none =>
      refine (Any.slices_Clone_string_nil Try.cloS 0 c w).mono ?_
      rintro _ w' ⟨rfl, rfl⟩
      exact ⟨_, rfl, Rw.nil _ _, fun k hk => by (cases hk), Below.refl _ _⟩
    | some a =>
      refine (Any.slices_Clone_string_zero Try.cloS a c w).mono ?_
      rintro _ w' ⟨v', rfl, hown, hne, hbl⟩
      refine ⟨v', rfl, Rw.of_owns hown cS_one, fun k hk => ?_, hbl⟩
      rcases hown.2 with ⟨hv, _⟩ | ⟨g, cap, cur, rfl, hg, _⟩
      · exact absurd hv hne
      · injection hk with hk
        exact hk ▸ hg

theorem long1_any (w : World) (x : ByteArray) : Calls Try.prog 43 #[.string x] w fun e w' => e = .returned (.bool (decide (1000 < x.size))) ∧ w' = w := by
  go_enter Try.func43, Try.ntmps43
  go_wp2
  go_ret
  refine ⟨?_, rfl⟩
  congr 3
  simp
  omega

def isLong (xs : List ByteArray) : Bool := xs.any fun x => decide (1000 < x.size)
def IdxPost (b : Bool) (w : World) (e : Ending) (w' : World) : Prop := ∃ r : Int, e = .returned (.int .i64 r) ∧ decide (0 ≤ r) = b ∧ Below w.heap.size w w'

set_option maxRecDepth 100000 in
theorem index_long {w : World} {G : Nat → Prop} {v : Value} {xs : List ByteArray} (h : Ls w G v xs) (hl : xs.length ≤ 1000000000) :
    Calls Try.prog 57 #[v, .func (.func 43) #[] #[]] w (IdxPost (isLong xs) w) := by
  obtain ⟨A, c, rfl, h1, h2, h3⟩ := h
  have H3 := Lib.hid h3
  clear h3
  go_enter Try.func57, Try.ntmps57
  go_wp2
  go_loopw [8] (fun v8 wr => ∃ j : Nat, v8 = .int .i64 j ∧ j ≤ xs.length ∧ isLong (xs.take j) = false ∧ Below w.heap.size w wr) (fun v8 _ => xs.length - (intOf v8).toNat)
  case atStart => exact ⟨0, rfl, by omega, rfl, Below.refl _ _⟩
  case round =>
    obtain ⟨j, rfl, hj, hlg, hbl⟩ := hrel
    have HBL := Lib.hid hbl
    have HLG := Lib.hid hlg
    clear hbl hlg
    by_cases hlt : j < xs.length
    · obtain ⟨b, o, rfl, _, hbs, hc⟩ := H3.out (by omega)
      obtain ⟨x, hx⟩ : ∃ x, x = xs[j] := ⟨_, rfl⟩
      have hxj : xs[j]? = some x := by rw [hx, List.getElem?_eq_getElem hlt]
      have hcell := (World.cell?_of_block (w := w) (w' := wr) (a := ⟨b, o + j, none⟩) (HBL.out.block b hbs)).trans (hc j x hxj)
      have htk : isLong (xs.take (j + 1)) = decide (1000 < x.size) := by
        have h9 := HLG.out
        unfold isLong at h9 ⊢
        rw [List.take_succ_eq_append_getElem hlt, List.any_append, h9, ← hx]
        simp
      have hall : isLong (xs.take (j + 1)) = true → isLong xs = true := by
        intro h9
        unfold isLong at h9 ⊢
        rw [← List.take_append_drop (j + 1) xs, List.any_append, h9]
        rfl
      have HTK := Lib.hid (And.intro htk hall)
      have hlt' : (j : Int) < xs.length := by omega
      clear hc hxj hx htk hall hbs
      go_wp2_with fail
      go_at_call 43
      refine (long1_any _ x).mono ?_
      rintro e w3 ⟨rfl, rfl⟩
      by_cases hb : 1000 < x.size
      · have hd : decide (1000 < x.size) = true := by simpa using hb
        rw [hd]
        go_wp2
        go_ret
        exact ⟨_, rfl, by rw [HTK.out.2 (HTK.out.1.trans hd)]; simp, HBL.out⟩
      · have hd : decide (1000 < x.size) = false := by simpa using hb
        rw [hd]
        go_wp2
        go_roundw
        case rel => exact ⟨j + 1, by go_num, by omega, HTK.out.1.trans hd, HBL.out⟩
        case measure => simp [intOf]; omega
    · obtain rfl : j = xs.length := by omega
      go_wp2
      go_ret
      have h9 := HLG.out
      rw [List.take_length] at h9
      exact ⟨_, rfl, by rw [h9]; decide, HBL.out⟩

theorem long_any {w : World} {G : Nat → Prop} {v : Value} {xs : List ByteArray} (h : Ls w G v xs) (hl : xs.length ≤ 1000000000) :
    Calls Try.prog 25 #[v] w fun e w' => e = .returned (.bool (isLong xs)) ∧ Below w.heap.size w w' := by
  have hc : Calls Try.prog 42 #[v, .func (.func 43) #[] #[]] w fun e w' => e = .returned (.bool (isLong xs)) ∧ Below w.heap.size w w' := by
    have hi := index_long h hl
    have HI := Lib.hid hi
    clear hi h
    go_enter Try.func42, Try.ntmps42
    go_wp2_with (go_at_call 57; refine HI.out.mono ?_; rintro e w3 ⟨r, rfl, hr, hb⟩; have HR := Lib.hid hr; have HB := Lib.hid hb; clear hr hb)
    go_ret
    refine ⟨?_, HB.out⟩
    rw [← HR.out]
    rfl
  have HC := Lib.hid hc
  clear hc h
  go_enter Try.func25, Try.ntmps25
  go_wp2_with (go_at_call 42; refine HC.out.mono ?_; rintro e w3 ⟨rfl, hb⟩; have HB := Lib.hid hb; clear hb)
  go_ret
  exact ⟨rfl, HB.out⟩
end Go.Proofs.Ytdmldkpjdfmgeaa

/- undo.clone: changes, in memory of their own. -/
namespace Go.Proofs.Ytdmldkpjdfmgeaa
open Go.RowKit Go.Shelf Go.Proofs.YtdmldkpjdfmgeaaW.PrintWords Go.Proofs.YtdmldkpjdfmgeaaW.PrintLast

theorem owns_set {w : World} {base size n g c : Nat} {e : TypeId} {xs : List Value} (h : w.ownsRow base e size (.slice (some ⟨g, 0, none⟩) n c) n xs) {i : Nat} (hi : i < n * size) (u : Value) :
    (w.setCell ⟨g, i, none⟩ u).ownsRow base e size (.slice (some ⟨g, 0, none⟩) n c) n (xs.set i u) := by
  refine ⟨by rw [List.length_set]; exact h.1, ?_⟩
  rcases h.2 with ⟨hv, _⟩ | ⟨g', cap, cur, hv, hb, hg, h1, h2, h3, h4⟩
  · cases hv
  · injection hv with ha hn' hc2
    injection ha with ha
    injection ha with ha _ _
    subst ha; subst hc2
    refine .inr ⟨g, c, _, rfl, hb, blk_set hg i u, h1, h2, by rw [Array.size_setIfInBounds]; exact h3, ?_⟩
    rw [Array.toList_setIfInBounds, List.take_set, h4]

/-- changes, some of whose lines are copied already -/
def Half (N0 : Nat) (w0 w : World) (v : Value) (L : List DV) (ds : List Dl) (j : Nat) : Prop :=
  ∃ L', w.ownsRow N0 93 3 v ds.length (dflat L') ∧ L'.length = ds.length ∧ Below N0 w0 w ∧
    ∀ (k : Nat) (x : DV) (d : Dl), L'[k]? = some x → ds[k]? = some d → x.at_ = d.at_ ∧
      (k < j → (Rw w 9 x.vo (cS d.old) ∧ ∀ b, x.vo.ownBlock = some b → N0 ≤ b) ∧ (Rw w 9 x.vn (cS d.new) ∧ ∀ b, x.vn.ownBlock = some b → N0 ≤ b)) ∧ (j ≤ k → L[k]? = some x)

/-- one more is copied -/
theorem half_next {N0 g c j : Nat} {w0 w w2 : World} {L : List DV} {ds : List Dl} {L' : List DV} {x : DV} {d : Dl} {v1 v2 : Value} (hN : N0 ≤ w.heap.size) (hg : N0 ≤ g)
    (hrow : w.ownsRow N0 93 3 (.slice (some ⟨g, 0, none⟩) ds.length c) ds.length (dflat L')) (hlen : L'.length = ds.length) (hbl : Below N0 w0 w)
    (hels : ∀ (k : Nat) (x : DV) (d : Dl), L'[k]? = some x → ds[k]? = some d → x.at_ = d.at_ ∧
      (k < j → (Rw w 9 x.vo (cS d.old) ∧ ∀ b, x.vo.ownBlock = some b → N0 ≤ b) ∧ (Rw w 9 x.vn (cS d.new) ∧ ∀ b, x.vn.ownBlock = some b → N0 ≤ b)) ∧ (j ≤ k → L[k]? = some x))
    (hx : L'[j]? = some x) (hd : ds[j]? = some d) (hb2 : Below w.heap.size w w2)
    (h1 : Rw w2 9 v1 (cS d.old)) (h1o : ∀ b, v1.ownBlock = some b → w.heap.size ≤ b) (h2 : Rw w2 9 v2 (cS d.new)) (h2o : ∀ b, v2.ownBlock = some b → w.heap.size ≤ b) :
    Half N0 w0 ((w2.setCell ⟨g, j * 3 + 1, none⟩ v1).setCell ⟨g, j * 3 + 2, none⟩ v2) (.slice (some ⟨g, 0, none⟩) ds.length c) L ds (j + 1) := by
  have hjl := (List.getElem?_eq_some_iff.1 hd).1
  have hgl := owns_lt hrow g rfl
  have hrow2 := owns_step hrow (w' := w2) (fun b hb => hb2.block b (owns_lt hrow b hb))
  have e1 : (dflat L').set (j * 3 + 1) v1 = dflat (L'.set j ⟨x.at_, v1, x.vn⟩) := dflat_set (j := 1) hx (by omega) rfl
  have hx1 : (L'.set j ⟨x.at_, v1, x.vn⟩)[j]? = some ⟨x.at_, v1, x.vn⟩ := by simp [hlen, hjl]
  have e2 : (dflat (L'.set j ⟨x.at_, v1, x.vn⟩)).set (j * 3 + 2) v2 = dflat (L'.set j ⟨x.at_, v1, v2⟩) := by
    rw [dflat_set (j := 2) (y := ⟨x.at_, v1, v2⟩) hx1 (by omega) rfl, List.set_set]
  have hr3 := owns_set (owns_set hrow2 (i := j * 3 + 1) (by omega) v1) (i := j * 3 + 2) (by omega) v2
  rw [e1, e2] at hr3
  have hne : ∀ {W : World} {u : Value} {cs : List Value}, Rw W 9 u cs → (∃ cells, W.heap[g]? = some (.cells cells 93 (0, 0))) → ∀ b, u.ownBlock = some b → b ≠ g := fun hu ⟨cells, hc⟩ b hb e => hu.ne hc (by decide) (e ▸ hb)
  have hty : ∃ cells, w.heap[g]? = some (.cells cells 93 (0, 0)) := by
    rcases hrow.2 with ⟨hv, _⟩ | ⟨g', cap, cur, hv, hb, hg, _⟩
    · cases hv
    · injection hv with ha _ _
      injection ha with ha
      injection ha with ha _ _
      subst ha
      exact ⟨_, hg⟩
  have hty2 : ∃ cells, w2.heap[g]? = some (.cells cells 93 (0, 0)) := by
    obtain ⟨cells, hc⟩ := hty
    exact ⟨cells, (hb2.block g hgl).trans hc⟩
  have keep : ∀ {u : Value} {cs : List Value}, Rw w2 9 u cs → Rw ((w2.setCell ⟨g, j * 3 + 1, none⟩ v1).setCell ⟨g, j * 3 + 2, none⟩ v2) 9 u cs := fun hu =>
    hu.step fun b hb => by rw [Below.heap_setCell _ _ _ _ (hne hu hty2 b hb), Below.heap_setCell _ _ _ _ (hne hu hty2 b hb)]
  have hbl2 : Below N0 w0 w2 := hbl.trans ⟨hb2.os, hb2.tape, hb2.output, hb2.size, fun b hb => hb2.block b (Nat.lt_of_lt_of_le hb hN)⟩
  refine ⟨L'.set j ⟨x.at_, v1, v2⟩, hr3, by rw [List.length_set]; exact hlen, (hbl2.setCell (p := ⟨g, j * 3 + 1, none⟩) hg v1).setCell (p := ⟨g, j * 3 + 2, none⟩) hg v2, ?_⟩
  intro k y d' hy hd'
  rw [List.getElem?_set] at hy
  by_cases e : j = k
  · subst e
    rw [if_pos rfl, if_pos (by rw [hlen]; exact hjl)] at hy
    injection hy with hy
    subst hy
    rw [hd] at hd'
    injection hd' with hd'
    subst hd'
    exact ⟨(hels j x d hx hd).1, fun _ => ⟨⟨keep h1, fun b hb => Nat.le_trans hN (h1o b hb)⟩, keep h2, fun b hb => Nat.le_trans hN (h2o b hb)⟩, fun h => absurd h (by omega)⟩
  · rw [if_neg e] at hy
    obtain ⟨g1, g2, g3⟩ := hels k y d' hy hd'
    refine ⟨g1, fun hk => ?_, fun hk => g3 (by omega)⟩
    obtain ⟨⟨a1, a2⟩, a3, a4⟩ := g2 (by omega)
    exact ⟨⟨keep (a1.step fun b hb => hb2.block b (a1.lt b hb)), a2⟩, keep (a3.step fun b hb => hb2.block b (a3.lt b hb)), a4⟩

def DrPost (w : World) (ds : List Dl) (e : Ending) (w' : World) : Prop := ∃ v, e = .returned v ∧ Dr w' (fun b => w.heap.size ≤ b) v ds ∧ Below w.heap.size w w'

theorem half_done {N0 : Nat} {w0 w : World} {v : Value} {L : List DV} {ds : List Dl} (h : Half N0 w0 w v L ds ds.length) : Dr w (fun b => N0 ≤ b) v ds := by
  obtain ⟨L', h1, h2, _, h4⟩ := h
  refine ⟨L', ⟨h2.symm ▸ (⟨h1.1, ?_⟩ : w.ownsRow 0 93 3 v ds.length (dflat L')), ?_, h2, ?_⟩⟩
  · exact h1.2.imp id fun ⟨g, cap, cur, a1, a2, a3⟩ => ⟨g, cap, cur, a1, Nat.zero_le _, a3⟩
  · intro b hb
    rcases h1.2 with ⟨hv, _⟩ | ⟨g, cap, cur, hv, a2, _⟩
    · rw [hv] at hb
      cases hb
    · rw [hv] at hb
      injection hb with hb
      exact hb ▸ a2
  · intro k x d hx hd
    obtain ⟨g1, g2, _⟩ := h4 k x d hx hd
    obtain ⟨⟨a1, a2⟩, a3, a4⟩ := g2 (List.getElem?_eq_some_iff.1 hd).1
    exact ⟨g1, (Ls.of_rw a1).wide fun b _ hb => a2 b hb, (Ls.of_rw a3).wide fun b _ hb => a4 b hb⟩
end Go.Proofs.Ytdmldkpjdfmgeaa
