import Derived.Test.YtdhemdeapphfoaaGreatDoorBuA
import Derived.RangeFuncNested
import Derived.RangeFuncBound
import Derived.RangeFuncCalls
import Derived.RangeFuncBox
import Derived.RangeFuncLeaves
import Derived.Shelf.Abstract
import Derived.Shelf.RegionOpen
import Derived.OwnWalkIn
import Derived.TacticsInMore
import Derived.LoopNIn
import Derived.LoopIn
import Derived.Test.YtdhemdeapphfoaaGreatDoorMp
set_option linter.unusedVariables false
set_option linter.unusedSimpArgs false

/- undo.clone: changes, in memory of their own. -/
namespace Go.Proofs.YtdhemdeapphfoaaGreatDoor
open Go.RowKit Go.Shelf Go.Proofs.YtdhemdeapphfoaaGreatDoorW.PrintWords Go.Proofs.YtdhemdeapphfoaaGreatDoorW.PrintLast

theorem owns_set {w : World} {base size n g c : Nat} {e : TypeId} {xs : List Value} (h : w.ownsRow base e size (.slice (some ⟨g, 0, none⟩) n c) n xs) {i : Nat} (hi : i < n * size) (u : Value) :
    (w.setCell ⟨g, i, none⟩ u).ownsRow base e size (.slice (some ⟨g, 0, none⟩) n c) n (xs.set i u) := by
  refine ⟨by rw [List.length_set]; exact h.1, ?_⟩
  rcases h.2 with ⟨hv, _⟩ | ⟨g', cap, cur, hv, hb, hg, h1, h2, h3, h4⟩
  · cases hv
  · injection hv with ha hn' hc2
    injection ha with ha
    injection ha with ha _ _
    subst ha; subst hc2
    refine .inr ⟨g, c, _, rfl, hb, blk_set hg i u, h1, h2, by rw [Array.size_setIfInBounds]; exact h3, ?_⟩
    rw [Array.toList_setIfInBounds, List.take_set, h4]

/-- changes, some of whose lines are copied already -/
def Half (N0 : Nat) (w0 w : World) (v : Value) (L : List DV) (ds : List Dl) (j : Nat) : Prop :=
  ∃ L', w.ownsRow N0 178 3 v ds.length (dflat L') ∧ L'.length = ds.length ∧ Below N0 w0 w ∧
    ∀ (k : Nat) (x : DV) (d : Dl), L'[k]? = some x → ds[k]? = some d → x.at_ = d.at_ ∧
      (k < j → (Rw w 9 x.vo (cS d.old) ∧ ∀ b, x.vo.ownBlock = some b → N0 ≤ b) ∧ (Rw w 9 x.vn (cS d.new) ∧ ∀ b, x.vn.ownBlock = some b → N0 ≤ b)) ∧ (j ≤ k → L[k]? = some x)

/-- one more is copied -/
theorem half_next {N0 g c j : Nat} {w0 w w2 : World} {L : List DV} {ds : List Dl} {L' : List DV} {x : DV} {d : Dl} {v1 v2 : Value} (hN : N0 ≤ w.heap.size) (hg : N0 ≤ g)
    (hrow : w.ownsRow N0 178 3 (.slice (some ⟨g, 0, none⟩) ds.length c) ds.length (dflat L')) (hlen : L'.length = ds.length) (hbl : Below N0 w0 w)
    (hels : ∀ (k : Nat) (x : DV) (d : Dl), L'[k]? = some x → ds[k]? = some d → x.at_ = d.at_ ∧
      (k < j → (Rw w 9 x.vo (cS d.old) ∧ ∀ b, x.vo.ownBlock = some b → N0 ≤ b) ∧ (Rw w 9 x.vn (cS d.new) ∧ ∀ b, x.vn.ownBlock = some b → N0 ≤ b)) ∧ (j ≤ k → L[k]? = some x))
    (hx : L'[j]? = some x) (hd : ds[j]? = some d) (hb2 : Below w.heap.size w w2)
    (h1 : Rw w2 9 v1 (cS d.old)) (h1o : ∀ b, v1.ownBlock = some b → w.heap.size ≤ b) (h2 : Rw w2 9 v2 (cS d.new)) (h2o : ∀ b, v2.ownBlock = some b → w.heap.size ≤ b) :
    Half N0 w0 ((w2.setCell ⟨g, j * 3 + 1, none⟩ v1).setCell ⟨g, j * 3 + 2, none⟩ v2) (.slice (some ⟨g, 0, none⟩) ds.length c) L ds (j + 1) := by
  have hjl := (List.getElem?_eq_some_iff.1 hd).1
  have hgl := owns_lt hrow g rfl
  have hrow2 := owns_step hrow (w' := w2) (fun b hb => hb2.block b (owns_lt hrow b hb))
  have e1 : (dflat L').set (j * 3 + 1) v1 = dflat (L'.set j ⟨x.at_, v1, x.vn⟩) := dflat_set (j := 1) hx (by omega) rfl
  have hx1 : (L'.set j ⟨x.at_, v1, x.vn⟩)[j]? = some ⟨x.at_, v1, x.vn⟩ := by simp [hlen, hjl]
  have e2 : (dflat (L'.set j ⟨x.at_, v1, x.vn⟩)).set (j * 3 + 2) v2 = dflat (L'.set j ⟨x.at_, v1, v2⟩) := by
    rw [dflat_set (j := 2) (y := ⟨x.at_, v1, v2⟩) hx1 (by omega) rfl, List.set_set]
  have hr3 := owns_set (owns_set hrow2 (i := j * 3 + 1) (by omega) v1) (i := j * 3 + 2) (by omega) v2
  rw [e1, e2] at hr3
  have hne : ∀ {W : World} {u : Value} {cs : List Value}, Rw W 9 u cs → (∃ cells, W.heap[g]? = some (.cells cells 178 (0, 0))) → ∀ b, u.ownBlock = some b → b ≠ g := fun hu ⟨cells, hc⟩ b hb e => hu.ne hc (by decide) (e ▸ hb)
  have hty : ∃ cells, w.heap[g]? = some (.cells cells 178 (0, 0)) := by
    rcases hrow.2 with ⟨hv, _⟩ | ⟨g', cap, cur, hv, hb, hg, _⟩
    · cases hv
    · injection hv with ha _ _
      injection ha with ha
      injection ha with ha _ _
      subst ha
      exact ⟨_, hg⟩
  have hty2 : ∃ cells, w2.heap[g]? = some (.cells cells 178 (0, 0)) := by
    obtain ⟨cells, hc⟩ := hty
    exact ⟨cells, (hb2.block g hgl).trans hc⟩
  have keep : ∀ {u : Value} {cs : List Value}, Rw w2 9 u cs → Rw ((w2.setCell ⟨g, j * 3 + 1, none⟩ v1).setCell ⟨g, j * 3 + 2, none⟩ v2) 9 u cs := fun hu =>
    hu.step fun b hb => by rw [Below.heap_setCell _ _ _ _ (hne hu hty2 b hb), Below.heap_setCell _ _ _ _ (hne hu hty2 b hb)]
  have hbl2 : Below N0 w0 w2 := hbl.trans ⟨hb2.os, hb2.tape, hb2.output, hb2.size, fun b hb => hb2.block b (Nat.lt_of_lt_of_le hb hN)⟩
  refine ⟨L'.set j ⟨x.at_, v1, v2⟩, hr3, by rw [List.length_set]; exact hlen, (hbl2.setCell (p := ⟨g, j * 3 + 1, none⟩) hg v1).setCell (p := ⟨g, j * 3 + 2, none⟩) hg v2, ?_⟩
  intro k y d' hy hd'
  rw [List.getElem?_set] at hy
  by_cases e : j = k
  · subst e
    rw [if_pos rfl, if_pos (by rw [hlen]; exact hjl)] at hy
    injection hy with hy
    subst hy
    rw [hd] at hd'
    injection hd' with hd'
    subst hd'
    exact ⟨(hels j x d hx hd).1, fun _ => ⟨⟨keep h1, fun b hb => Nat.le_trans hN (h1o b hb)⟩, keep h2, fun b hb => Nat.le_trans hN (h2o b hb)⟩, fun h => absurd h (by omega)⟩
  · rw [if_neg e] at hy
    obtain ⟨g1, g2, g3⟩ := hels k y d' hy hd'
    refine ⟨g1, fun hk => ?_, fun hk => g3 (by omega)⟩
    obtain ⟨⟨a1, a2⟩, a3, a4⟩ := g2 (by omega)
    exact ⟨⟨keep (a1.step fun b hb => hb2.block b (a1.lt b hb)), a2⟩, keep (a3.step fun b hb => hb2.block b (a3.lt b hb)), a4⟩

def DrPost (w : World) (ds : List Dl) (e : Ending) (w' : World) : Prop := ∃ v, e = .returned v ∧ Dr w' (fun b => w.heap.size ≤ b) v ds ∧ Below w.heap.size w w'

theorem half_done {N0 : Nat} {w0 w : World} {v : Value} {L : List DV} {ds : List Dl} (h : Half N0 w0 w v L ds ds.length) : Dr w (fun b => N0 ≤ b) v ds := by
  obtain ⟨L', h1, h2, _, h4⟩ := h
  refine ⟨L', ⟨h2.symm ▸ (⟨h1.1, ?_⟩ : w.ownsRow 0 178 3 v ds.length (dflat L')), ?_, h2, ?_⟩⟩
  · exact h1.2.imp id fun ⟨g, cap, cur, a1, a2, a3⟩ => ⟨g, cap, cur, a1, Nat.zero_le _, a3⟩
  · intro b hb
    rcases h1.2 with ⟨hv, _⟩ | ⟨g, cap, cur, hv, a2, _⟩
    · rw [hv] at hb
      cases hb
    · rw [hv] at hb
      injection hb with hb
      exact hb ▸ a2
  · intro k x d hx hd
    obtain ⟨g1, g2, _⟩ := h4 k x d hx hd
    obtain ⟨⟨a1, a2⟩, a3, a4⟩ := g2 (List.getElem?_eq_some_iff.1 hd).1
    exact ⟨g1, (Ls.of_rw a1).wide fun b _ hb => a2 b hb, (Ls.of_rw a3).wide fun b _ hb => a4 b hb⟩
end Go.Proofs.YtdhemdeapphfoaaGreatDoor

/- undo.clone, walked. -/
namespace Go.Proofs.YtdhemdeapphfoaaGreatDoor
open Go.RowKit Go.Shelf Go.Proofs.YtdhemdeapphfoaaGreatDoorW.PrintWords Go.Proofs.YtdhemdeapphfoaaGreatDoorW.PrintLast

end Go.Proofs.YtdhemdeapphfoaaGreatDoor

/- slices.Backward of changes. -/
namespace Go.Proofs.YtdhemdeapphfoaaGreatDoor
open Go.RowKit Go.Shelf Go.Proofs.YtdhemdeapphfoaaGreatDoorW.PrintWords Go.Proofs.YtdhemdeapphfoaaGreatDoorW.PrintLast
attribute [local go_sem] Oper.semAt_some

/-- a change as it is handed on -/
structure SD where
  at_ : Int
  ao : Option Addr
  no : Nat
  co : Nat
  an : Option Addr
  nn : Nat
  cn : Nat
def SD.vo (x : SD) : Value := .slice x.ao x.no x.co
def SD.vn (x : SD) : Value := .slice x.an x.nn x.cn
def SD.dv (x : SD) : DV := ⟨x.at_, x.vo, x.vn⟩
def dv0 : SD := ⟨0, none, 0, 0, none, 0, 0⟩
theorem sds_of {L : List DV} (h : ∀ x ∈ L, (∃ A n c, x.vo = .slice A n c) ∧ (∃ A n c, x.vn = .slice A n c)) : ∃ M : List SD, M.map SD.dv = L := by
  induction L with
  | nil => exact ⟨[], rfl⟩
  | cons x L ih =>
    obtain ⟨M, hM⟩ := ih fun y hy => h y (List.mem_cons_of_mem _ hy)
    obtain ⟨⟨A, n, c, h1⟩, B, m, d, h2⟩ := h x (List.mem_cons_self ..)
    refine ⟨⟨x.at_, A, n, c, B, m, d⟩ :: M, ?_⟩
    rw [List.map_cons, hM]
    congr 1
    unfold SD.dv SD.vo SD.vn
    rw [← h1, ← h2]
def bk (L : List SD) (k : Nat) : Nat × SD := (L.length - 1 - k, L.getD (L.length - 1 - k) dv0)
def bks (L : List SD) (k : Nat) : List (Nat × SD) := (List.range k).map (bk L)
theorem bks_succ (L : List SD) (k : Nat) : bks L (k + 1) = bks L k ++ [bk L k] := by simp [bks, List.range_succ]
theorem bks_length (L : List SD) (k : Nat) : (bks L k).length = k := by simp [bks]
def encD (x : Nat × SD) : Array Value := #[.int .i64 (x.1 : Int), .agg #[.int .i64 x.2.at_, .slice x.2.ao x.2.no x.2.co, .slice x.2.an x.2.nn x.2.cn]]

end Go.Proofs.YtdhemdeapphfoaaGreatDoor

/- undo.Turn, walked. -/
namespace Go.Proofs.YtdhemdeapphfoaaGreatDoor
open Go.RowKit Go.Shelf Go.Proofs.YtdhemdeapphfoaaGreatDoorW.PrintWords Go.Proofs.YtdhemdeapphfoaaGreatDoorW.PrintLast
attribute [local go_sem] Oper.semAt_some

def trn (x : Nat × SD) : DV := ⟨x.2.at_, x.2.vn, x.2.vo⟩
def tfl (pre : List (Nat × SD)) : List Value := dflat (pre.map trn)
theorem tfl_snoc (pre : List (Nat × SD)) (x : Nat × SD) : tfl (pre ++ [x]) = tfl pre ++ [.int .i64 x.2.at_, x.2.vn, x.2.vo] := by
  rw [tfl, List.map_append, dflat_append]; rfl
/-- the loop variable's box -/
def Box3D (W : World) (B : Nat) (x : SD) : Prop := W.heap[B]? = some (.cells #[.int .i64 x.at_, .slice x.ao x.no x.co, .slice x.an x.nn x.cn] 178 (0, 0))
def TurnPost (w : World) (M : List SD) (e : Ending) (w' : World) : Prop := ∃ v, e = .returned v ∧ w'.ownsRow w.heap.size 178 3 v M.length (tfl (bks M M.length)) ∧ Below w.heap.size w w'

/-- what a round keeps -/
def Kp2 (n₀ Bs : Nat) (W W' : World) : Prop := Below n₀ W W' ∧ W'.heap[Bs]? = W.heap[Bs]?
theorem kp2_t {n₀ Bs : Nat} {A B C : World} (h : Kp2 n₀ Bs A B) (k : Kp2 n₀ Bs B C) : Kp2 n₀ Bs A C := ⟨h.1.trans k.1, k.2.trans h.2⟩
theorem kp2_b {n₀ Bs : Nat} {w : World} (hn : n₀ ≤ w.heap.size) (hB : Bs < w.heap.size) (W : World) (l : Nat) (o o' : Obj) (hl : w.heap.size ≤ l) (h : W.heap[l]? = some o) (h1 : o.isCells = false) (h2 : o.isWalk = false) : Kp2 n₀ Bs W (W.putObj l o') :=
  ⟨belowK_b hn W l o o' hl h h1 h2, World.putObj_heap_other (by omega)⟩

/-- the changes that undo these -/
def turnDs (ds : List Dl) : List Dl := ds.reverse.map fun d => ⟨d.at_, d.new, d.old⟩
def TurnedPost (w : World) (F : Nat → Prop) (ds : List Dl) (e : Ending) (w' : World) : Prop := ∃ v, e = .returned v ∧ Dr w' (fun b => F b ∨ w.heap.size ≤ b) v (turnDs ds) ∧ Below w.heap.size w w'

theorem Ls.slice {w : World} {G : Nat → Prop} {v : Value} {xs : List ByteArray} (h : Ls w G v xs) : ∃ A n c, v = .slice A n c := by
  obtain ⟨A, c, rfl, _⟩ := h
  exact ⟨A, _, c, rfl⟩

end Go.Proofs.YtdhemdeapphfoaaGreatDoor

/- undo.Tree in memory. -/
namespace Go.Proofs.YtdhemdeapphfoaaGreatDoor
open Go.RowKit Go.Shelf Go.Maps Go.Proofs.YtdhemdeapphfoaaGreatDoorW.PrintWords Go.Proofs.YtdhemdeapphfoaaGreatDoorW.PrintLast

/-- a state -/
structure St where
  frm : Int
  on_ : Int
  by_ : List Dl
  kids : List Int
structure Us where
  most : Int
  now : Int
  next : Int
  first : Int
  all : Int → Option St
def upd {α : Type} (f : Int → Option α) (x : Int) (a : α) : Int → Option α := fun y => if y = x then some a else f y
theorem upd_same {α : Type} (f : Int → Option α) (x : Int) (a : α) : upd f x a x = some a := by simp [upd]
theorem upd_other {α : Type} (f : Int → Option α) {x y : Int} (a : α) (h : y ≠ x) : upd f x a y = f y := by simp [upd, h]

structure SV where
  b : Nat
  vb : Value
  vk : Value

/-- how a pointer reads -/
def encP : Option Nat → DataW Unit
  | none => .lit (.int .i64 (-1))
  | some b => .lit (.int .i64 b)
def ptrE : Value → Option (DataW Unit × List MemPlace)
  | .pointer none => some (encP none, [])
  | .pointer (some ⟨b, 0, none⟩) => some (encP (some b), [])
  | _ => none
def ptrV : Option Nat → Value
  | none => .pointer none
  | some b => .pointer (some ⟨b, 0, none⟩)
theorem ptrE_mk (q : Option Nat) : ptrE (ptrV q) = some (encP q, []) := by cases q <;> rfl
theorem encP_inj {p q : Option Nat} (h : encP p = encP q) : p = q := by
  cases p <;> cases q <;> simp [encP] at h ⊢
  all_goals first | omega | exact h
theorem ptrE_inv {v : Value} {q : Option Nat} {ps : List MemPlace} (h : ptrE v = some (encP q, ps)) : v = ptrV q := by
  unfold ptrE at h
  split at h
  · injection h with h
    injection h with h _
    rw [← encP_inj h]; rfl
  · injection h with h
    injection h with h _
    rw [← encP_inj h]; rfl
  · cases h

theorem keyedI : Keyed Tryz.prog 3 := int_keyed Tryz.underlying3
theorem zeroP (w : World) : (zeroValue 82).run Tryz.prog w = .ok (.pointer none) w := by kernel_rfl

/-- the map of states -/
def StMap (w : World) (mb n : Nat) (M : Int → Option SV) : Prop :=
  ∃ D : DataW Unit, w.ownsMap Tryz.prog 3 ptrE mb n D ∧ ∀ x, (Lit.int .i64 x).wf = true → D.atKey (.int .i64 x) (encP none) = encP ((M x).map SV.b)
theorem StMap.step {w w' : World} {mb n : Nat} {M : Int → Option SV} (h : StMap w mb n M) (hs : w'.heap[mb]? = w.heap[mb]?) : StMap w' mb n M := by
  obtain ⟨D, ⟨es, clock, hb, r⟩, hD⟩ := h
  exact ⟨D, ⟨es, clock, hs.trans hb, r⟩, hD⟩
theorem StMap.lt {w : World} {mb n : Nat} {M : Int → Option SV} (h : StMap w mb n M) : mb < w.heap.size := by
  obtain ⟨D, h, _⟩ := h
  exact h.lt
theorem StMap.look {w : World} {mb n : Nat} {M : Int → Option SV} (h : StMap w mb n M) {x : Int} (hx : (Lit.int .i64 x).wf = true) : (Instr.lookup 85 (.map (some mb)) (.int .i64 x) false).run Tryz.prog w = .ok (ptrV ((M x).map SV.b)) w := by
  obtain ⟨D, hown, hD⟩ := h
  obtain ⟨v, ps, hrun, hv⟩ := hown.lookup keyedI Tryz.underlying85 (zeroP w) (ptrE_mk none) (keyOf_int_mk Tryz.underlying3 hx)
  rw [hD x hx] at hv
  rw [hrun, ptrE_inv hv]
theorem StMap.mapObj {w : World} {mb n : Nat} {M : Int → Option SV} (h : StMap w mb n M) : ∃ es clock, w.heap[mb]? = some (.map es clock) := by
  obtain ⟨D, ⟨es, clock, hb, _⟩, _⟩ := h
  exact ⟨es, clock, hb⟩

def stCells (x : Int) (st : St) (a : SV) : Array Value := #[.int .i64 x, .int .i64 st.frm, .int .i64 st.on_, a.vb, a.vk]
def usCells (s : Us) (mb : Nat) : Array Value := #[.int .i64 s.most, .int .i64 s.now, .int .i64 s.next, .int .i64 s.first, .map (some mb)]

/-- F: all its blocks; G: those of changes alone -/
structure Uw (w : World) (F G : Nat → Prop) (U : Nat) (s : Us) (mb n : Nat) (M : Int → Option SV) : Prop where
  box : w.heap[U]? = some (.cells (usCells s mb) 87 (0, 0))
  map : StMap w mb n M
  st : ∀ x a, M x = some a → ∃ st, s.all x = some st ∧ w.heap[a.b]? = some (.cells (stCells x st a) 84 (0, 0)) ∧ Dr w G a.vb st.by_ ∧ w.ownsRow 0 3 1 a.vk st.kids.length (cI st.kids)
  non : ∀ x, M x = none → s.all x = none
  wf : ∀ x a, M x = some a → (Lit.int .i64 x).wf = true
  inj : ∀ x y a c, M x = some a → M y = some c → a.b = c.b → x = y
  apart : ∀ x y a c k, M x = some a → M y = some c → a.vk.ownBlock = some k → c.vk.ownBlock = some k → x = y
  footU : F U
  footM : F mb
  footS : ∀ x a, M x = some a → F a.b
  footK : ∀ x a k, M x = some a → a.vk.ownBlock = some k → F k
  footG : ∀ b, G b → F b
  sepU : ¬ G U
  sepM : ¬ G mb
  sepS : ∀ x a, M x = some a → ¬ G a.b
  sepK : ∀ x a k, M x = some a → a.vk.ownBlock = some k → ¬ G k
  ltG : ∀ b, G b → b < w.heap.size

section
variable {w w' : World} {F G : Nat → Prop} {U mb n : Nat} {s : Us} {M : Int → Option SV}
theorem owns_typed {base size k : Nat} {e : TypeId} {v : Value} {xs : List Value} (h : w.ownsRow base e size v k xs) : ∀ b, v.ownBlock = some b → ∃ cells, w.heap[b]? = some (.cells cells e (0, 0)) := by
  intro b hb
  rcases h.2 with ⟨rfl, _⟩ | ⟨g, cap, cur, rfl, _, hg, _⟩
  · cases hb
  · injection hb with hb
    subst hb
    exact ⟨_, hg⟩
theorem cells_ne {b c : Nat} {x y : Array Value} {t u : TypeId} (h : w.heap[b]? = some (.cells x t (0, 0))) (k : w.heap[c]? = some (.cells y u (0, 0))) (ht : t ≠ u) : b ≠ c := by
  rintro rfl
  rw [h] at k
  injection k with k
  injection k with _ k _
  exact ht k
theorem map_ne {b c : Nat} {x : Array Value} {t : TypeId} {es : Array MapEntry} {clock : Nat} (h : w.heap[b]? = some (.cells x t (0, 0))) (k : w.heap[c]? = some (.map es clock)) : b ≠ c := by
  rintro rfl
  rw [h] at k
  cases k
/-- another's step -/
theorem Uw.step (h : Uw w F G U s mb n M) (hsz : w.heap.size ≤ w'.heap.size) (hs : ∀ b, b < w.heap.size → F b → w'.heap[b]? = w.heap[b]?) : Uw w' F G U s mb n M :=
  { h with
    box := (hs U (blk_lt h.box) h.footU).trans h.box
    map := h.map.step (hs mb h.map.lt h.footM)
    st := fun x a ha => by
      obtain ⟨st, h1, h2, h3, h4⟩ := h.st x a ha
      exact ⟨st, h1, (hs a.b (blk_lt h2) (h.footS x a ha)).trans h2, h3.step hsz fun b hb hg => hs b hb (h.footG b hg), owns_step h4 fun b hb => hs b (owns_lt h4 b hb) (h.footK x a b ha hb)⟩
    ltG := fun b hb => Nat.lt_of_lt_of_le (h.ltG b hb) hsz }
theorem Uw.now (h : Uw w F G U s mb n M) {x : Int} {st : St} (hx : s.all x = some st) : ∃ a, M x = some a ∧ w.heap[a.b]? = some (.cells (stCells x st a) 84 (0, 0)) ∧ Dr w G a.vb st.by_ ∧ w.ownsRow 0 3 1 a.vk st.kids.length (cI st.kids) := by
  cases e : M x with
  | none => rw [h.non x e] at hx; cases hx
  | some a =>
    obtain ⟨st', h1, h2⟩ := h.st x a e
    rw [hx] at h1
    injection h1 with h1
    subst h1
    exact ⟨a, rfl, h2⟩

/-- a number of the tree's own box -/
theorem Uw.setU (h : Uw w F G U s mb n M) {i : Nat} {v : Value} {s' : Us} (hv : (usCells s mb).setIfInBounds i v = usCells s' mb) (ha : s'.all = s.all) : Uw (w.setCell ⟨U, i, none⟩ v) F G U s' mb n M := by
  have hk : ∀ b, b ≠ U → (w.setCell ⟨U, i, none⟩ v).heap[b]? = w.heap[b]? := fun b hb => Below.heap_setCell _ _ _ _ hb
  obtain ⟨es, clock, hm⟩ := h.map.mapObj
  exact { h with
    box := by rw [blk_set h.box, hv]
    map := h.map.step (hk mb (map_ne h.box hm).symm)
    st := fun x a hx => by
      obtain ⟨st, h1, h2, h3, h4⟩ := h.st x a hx
      refine ⟨st, ha ▸ h1, (hk _ (cells_ne h2 h.box (by decide))).trans h2, h3.step (by simp [World.setCell]) fun b _ hg => hk b (fun e => h.sepU (e ▸ hg)), owns_step h4 fun b hb => hk b ?_⟩
      obtain ⟨cells, hc⟩ := owns_typed h4 b hb
      exact cells_ne hc h.box (by decide)
    non := fun x hx => by rw [ha]; exact h.non x hx
    ltG := fun b hb => by simpa [World.setCell] using h.ltG b hb }

/-- a state's number 'on' -/
theorem Uw.setOn (h : Uw w F G U s mb n M) {x : Int} {st : St} {a : SV} (hx : M x = some a) (hs : s.all x = some st) (v : Int) : Uw (w.setCell ⟨a.b, 2, none⟩ (.int .i64 v)) F G U { s with all := upd s.all x { st with on_ := v } } mb n M := by
  have hk : ∀ b, b ≠ a.b → (w.setCell ⟨a.b, 2, none⟩ (.int .i64 v)).heap[b]? = w.heap[b]? := fun b hb => Below.heap_setCell _ _ _ _ hb
  obtain ⟨es, clock, hm⟩ := h.map.mapObj
  obtain ⟨st1, g1, g2, g3, g4⟩ := h.st x a hx
  rw [hs] at g1
  injection g1 with g1
  subst g1
  exact { h with
    box := by rw [hk U (cells_ne h.box g2 (by decide))]; exact h.box
    map := h.map.step (hk mb (map_ne g2 hm).symm)
    st := fun y c hy => by
      obtain ⟨st2, h1, h2, h3, h4⟩ := h.st y c hy
      have d3 : Dr (w.setCell ⟨a.b, 2, none⟩ (.int .i64 v)) G c.vb st2.by_ := h3.step (by simp [World.setCell]) fun b _ hg => hk b (fun e => h.sepS x a hx (e ▸ hg))
      have d4 : (w.setCell ⟨a.b, 2, none⟩ (.int .i64 v)).ownsRow 0 3 1 c.vk st2.kids.length (cI st2.kids) := owns_step h4 fun b hb => by
        obtain ⟨cells, hc⟩ := owns_typed h4 b hb
        exact hk b (cells_ne hc g2 (by decide))
      by_cases e : y = x
      · subst e
        rw [hx] at hy
        injection hy with hy
        subst hy
        rw [hs] at h1
        injection h1 with h1
        subst h1
        refine ⟨_, upd_same _ _ _, ?_, d3, d4⟩
        rw [blk_set g2]
        rfl
      · refine ⟨st2, (upd_other _ _ e).trans h1, ?_, d3, d4⟩
        rw [hk _ (fun e2 => e (h.inj y x c a hy hx e2))]
        exact h2
    non := fun y hy => by
      have e : y ≠ x := by rintro rfl; rw [hx] at hy; cases hy
      exact (upd_other _ _ e).trans (h.non y hy)
    ltG := fun b hb => by simpa [World.setCell] using h.ltG b hb }
end

/-- F: the tree's blocks; at most n states -/
def Ut (w : World) (F : Nat → Prop) (U : Nat) (s : Us) (n : Nat) : Prop := ∃ G mb M, Uw w F G U s mb n M
theorem Ut.step {w w' : World} {F : Nat → Prop} {U n : Nat} {s : Us} (h : Ut w F U s n) (hsz : w.heap.size ≤ w'.heap.size) (hs : ∀ b, b < w.heap.size → F b → w'.heap[b]? = w.heap[b]?) : Ut w' F U s n := by
  obtain ⟨G, mb, M, h⟩ := h
  exact ⟨G, mb, M, h.step hsz hs⟩
end Go.Proofs.YtdhemdeapphfoaaGreatDoor

/- undo.New, walked. -/
namespace Go.Proofs.YtdhemdeapphfoaaGreatDoor
open Go.RowKit Go.Shelf Go.Maps Go.Proofs.YtdhemdeapphfoaaGreatDoorW.PrintWords Go.Proofs.YtdhemdeapphfoaaGreatDoorW.PrintLast

def us0 (most : Int) : Us := ⟨most, 0, 1, 0, upd (fun _ => none) 0 ⟨-1, -1, [], []⟩⟩
def UNewPost (most : Int) (w : World) (e : Ending) (w' : World) : Prop :=
  ∃ U, e = .returned (.pointer (some ⟨U, 0, none⟩)) ∧ w.heap.size ≤ U ∧ Ut w' (fun b => w.heap.size ≤ b) U (us0 most) 1 ∧ Below w.heap.size w w'

set_option maxRecDepth 100000 in
theorem undoNew_any (w : World) (most : Int) (h1 : 1 ≤ most) (h2 : most ≤ 200) : Calls Tryz.prog 16 #[.int .i64 most] w (UNewPost most w) := by
  have hmm := @run_makeMap Tryz.prog
  have hown := (World.ownsMap_made (H := Unit) w Tryz.prog 3 ptrE).alloc (.cells #[.int .i64 0, .int .i64 (-1), .int .i64 (-1), .slice none 0 0, .slice none 0 0] 84)
  obtain ⟨w2, hrun, hown2, ht2⟩ := hown.store (t := 85) (e := 82) keyedI Tryz.underlying85 (by decide) (keyOf_int_mk (a := 0) Tryz.underlying3 (by decide)) (ptrE_mk (some (w.heap.size + 1)))
  have HO := Lib.hid hown2
  have HT := Lib.hid ht2
  clear hown2 ht2
  unfold ptrV at hrun
  go_enter Tryz.func16, Tryz.ntmps16
  go_wp2
  go_ret
  have hg := HT.out.grown
  have hsz : w.heap.size + 2 ≤ w2.heap.size := by
    have := hg.size
    simp at this
    omega
  have hst : w2.heap[w.heap.size + 1]? = some (.cells #[.int .i64 0, .int .i64 (-1), .int .i64 (-1), .slice none 0 0, .slice none 0 0] 84 (0, 0)) := by
    have e := hg.block (w.heap.size + 1) (by simp) (by simp)
    rw [e]
    have e2 := World.alloc_heap_new (w.alloc (.map #[] 0)) (.cells #[.int .i64 0, .int .i64 (-1), .int .i64 (-1), .slice none 0 0, .slice none 0 0] 84)
    rw [World.size_alloc] at e2
    exact e2
  have hup : ∀ x a, upd (fun _ => (none : Option SV)) 0 ⟨w.heap.size + 1, .slice none 0 0, .slice none 0 0⟩ x = some a → x = 0 ∧ a = ⟨w.heap.size + 1, .slice none 0 0, .slice none 0 0⟩ := by
    intro x a h
    unfold upd at h
    split at h
    · injection h with h
      exact ⟨by assumption, h.symm⟩
    · cases h
  refine ⟨w2.heap.size, rfl, by omega, ⟨fun _ => False, w.heap.size, upd (fun _ => none) 0 ⟨w.heap.size + 1, .slice none 0 0, .slice none 0 0⟩, ?_⟩, ?_⟩
  · exact {
      box := World.alloc_heap_new w2 _
      map := by
        refine ⟨_, HO.out.alloc _, ?_⟩
        intro x hx
        by_cases e : x = 0
        · subst e
          rw [atKey_put_same isMap_empty (keyedI.key (keyOf_int_mk (a := 0) Tryz.underlying3 (by decide))), upd_same]
          rfl
        · rw [atKey_put_other (by simpa using e), upd_other _ _ e]
          rfl
      st := fun x a h => by
        obtain ⟨rfl, rfl⟩ := hup x a h
        exact ⟨⟨-1, -1, [], []⟩, upd_same (fun _ => none) 0 _, (Below.heap_alloc w2 _ (w.heap.size + 1) (by omega)).trans hst, Dr.nil _ _, World.ownsRow_nil _ _ _ _⟩
      non := fun x h => by
        unfold upd at h
        split at h
        · cases h
        · rename_i e
          exact upd_other (fun _ => none) _ e
      wf := fun x a h => by
        obtain ⟨rfl, rfl⟩ := hup x a h
        decide
      inj := fun x y a c h k _ => by rw [(hup x a h).1, (hup y c k).1]
      apart := fun x y a c k h h2 _ _ => by rw [(hup x a h).1, (hup y c h2).1]
      footU := by show w.heap.size ≤ w2.heap.size; omega
      footM := Nat.le_refl _
      footS := fun x a h => by
        obtain ⟨rfl, rfl⟩ := hup x a h
        exact Nat.le_succ _
      footK := fun x a k h hk => by
        obtain ⟨rfl, rfl⟩ := hup x a h
        cases hk
      footG := fun b h => h.elim
      sepU := id
      sepM := id
      sepS := fun _ _ _ h => h
      sepK := fun _ _ _ _ _ h => h
      ltG := fun b h => h.elim }
  · exact (((below_alloc (below_alloc (Below.refl _ w) _) _).grown hg (by simp; omega) (fun k hk => Nat.le_of_eq (Option.some.inj hk)))).alloc (by omega) _
end Go.Proofs.YtdhemdeapphfoaaGreatDoor

/- undo's Undo, walked. -/
namespace Go.Proofs.YtdhemdeapphfoaaGreatDoor
open Go.RowKit Go.Shelf Go.Maps Go.Proofs.YtdhemdeapphfoaaGreatDoorW.PrintWords Go.Proofs.YtdhemdeapphfoaaGreatDoorW.PrintLast

def EndPost (F : Nat → Prop) (w : World) (e : Ending) (w' : World) : Prop := e = .returned (.tuple #[.slice none 0 0, .int .u16 121]) ∧ Below w.heap.size w w'
def UndoPost (F : Nat → Prop) (U n : Nat) (s' : Us) (ds : List Dl) (w : World) (e : Ending) (w' : World) : Prop :=
  ∃ v, e = .returned (.tuple #[v, .int .u16 0]) ∧ Dr w' (fun b => w.heap.size ≤ b) v ds ∧ Ut w' F U s' n ∧ Chg F w w'

section
variable {w : World} {F : Nat → Prop} {U n : Nat} {s : Us}
end
end Go.Proofs.YtdhemdeapphfoaaGreatDoor

/- undo.Tree in memory: a state more. -/
namespace Go.Proofs.YtdhemdeapphfoaaGreatDoor
open Go.RowKit Go.Shelf Go.Maps Go.Proofs.YtdhemdeapphfoaaGreatDoorW.PrintWords Go.Proofs.YtdhemdeapphfoaaGreatDoorW.PrintLast

section
variable {w w2 : World} {F G : Nat → Prop} {U mb n : Nat} {s : Us} {M : Int → Option SV}

theorem upd_get {α : Type} {f : Int → Option α} {x y : Int} {a c : α} (h : upd f x a y = some c) : (y = x ∧ c = a) ∨ (y ≠ x ∧ f y = some c) := by
  unfold upd at h
  split at h
  · rename_i e
    injection h with h
    exact .inl ⟨e, h.symm⟩
  · rename_i e
    exact .inr ⟨e, h⟩
theorem upd_none {α : Type} {f : Int → Option α} {x y : Int} {a : α} (h : upd f x a y = none) : y ≠ x ∧ f y = none := by
  unfold upd at h
  split at h
  · cases h
  · rename_i e
    exact ⟨e, h⟩

/-- a state's row of kids -/
theorem Uw.setKids (h : Uw w F G U s mb n M) {x : Int} {st : St} {a : SV} (hx : M x = some a) (hs : s.all x = some st) (hsz : w.heap.size ≤ w2.heap.size) (hg : ∀ b, b < w.heap.size → some b ≠ a.vk.ownBlock → w2.heap[b]? = w.heap[b]?)
    {v : Value} {ks : List Int} (hv : w2.ownsRow 0 3 1 v ks.length (cI ks)) (hat : v.ownBlock = a.vk.ownBlock ∨ ∃ k, v.ownBlock = some k ∧ w.heap.size ≤ k) (hF : ∀ b, w.heap.size ≤ b → F b) :
    Uw (w2.setCell ⟨a.b, 4, none⟩ v) F G U { s with all := upd s.all x { st with kids := ks } } mb n (upd M x { a with vk := v }) := by
  obtain ⟨es, clock, hm⟩ := h.map.mapObj
  obtain ⟨st1, g1, g2, g3, g4⟩ := h.st x a hx
  rw [hs] at g1
  injection g1 with g1
  subst g1
  have kne : ∀ {b : Nat} {cells : Array Value} {t : TypeId}, w.heap[b]? = some (.cells cells t (0, 0)) → t ≠ 3 → some b ≠ a.vk.ownBlock := fun hb ht e => by
    obtain ⟨c2, hc⟩ := owns_typed g4 _ e.symm
    exact cells_ne hb hc ht rfl
  have hk : ∀ b, b < w.heap.size → some b ≠ a.vk.ownBlock → b ≠ a.b → (w2.setCell ⟨a.b, 4, none⟩ v).heap[b]? = w.heap[b]? := fun b h1 h2 h3 => by rw [Below.heap_setCell _ _ _ _ h3]; exact hg b h1 h2
  have hgs := (hg a.b (blk_lt g2) (kne g2 (by decide))).trans g2
  have hGk : ∀ b, b < w.heap.size → G b → (w2.setCell ⟨a.b, 4, none⟩ v).heap[b]? = w.heap[b]? := fun b h1 hgb => hk b h1 (fun e => h.sepK x a b hx e.symm hgb) (fun e => h.sepS x a hx (e ▸ hgb))
  have hz : w.heap.size ≤ (w2.setCell ⟨a.b, 4, none⟩ v).heap.size := by simpa [World.setCell] using hsz
  have hmk : mb < w.heap.size := h.map.lt
  have hv2 : (w2.setCell ⟨a.b, 4, none⟩ v).ownsRow 0 3 1 v ks.length (cI ks) := owns_step hv fun b hb => by
    obtain ⟨c2, hc⟩ := owns_typed hv b hb
    exact Below.heap_setCell _ _ _ _ (cells_ne hc hgs (by decide))
  have vown : ∀ k, v.ownBlock = some k → (a.vk.ownBlock = some k) ∨ w.heap.size ≤ k := fun k hk => by
    rcases hat with e | ⟨j, e, hj⟩
    · exact .inl (e ▸ hk)
    · rw [e] at hk
      injection hk with hk
      exact .inr (hk ▸ hj)
  exact {
    box := (hk U (blk_lt h.box) (kne h.box (by decide)) (cells_ne h.box g2 (by decide))).trans h.box
    map := by
      obtain ⟨D, hown, hD⟩ := h.map
      obtain ⟨D', hown', hD'⟩ := h.map.step (w' := w2.setCell ⟨a.b, 4, none⟩ v) (hk mb hmk (fun e => by
        obtain ⟨c2, hc⟩ := owns_typed g4 _ e.symm
        exact map_ne hc hm rfl) (map_ne g2 hm).symm)
      refine ⟨D', hown', fun y hy => ?_⟩
      rw [hD' y hy]
      by_cases e : y = x
      · subst e
        rw [hx, upd_same]
        rfl
      · rw [upd_other _ _ e]
    st := fun y c hy => by
      rcases upd_get hy with ⟨rfl, rfl⟩ | ⟨e, hy'⟩
      · refine ⟨_, upd_same _ _ _, ?_, g3.step hz hGk, hv2⟩
        show (w2.setCell ⟨a.b, 4, none⟩ v).heap[a.b]? = _
        rw [blk_set hgs]
        rfl
      · obtain ⟨st2, h1, h2, h3, h4⟩ := h.st y c hy'
        refine ⟨st2, (upd_other _ _ e).trans h1, (hk _ (blk_lt h2) (kne h2 (by decide)) (fun e2 => e (h.inj y x c a hy' hx e2))).trans h2, h3.step hz hGk, owns_step h4 fun b hb => hk b (owns_lt h4 b hb) (fun e2 => e (h.apart y x c a b hy' hx hb e2.symm)) ?_⟩
        obtain ⟨c2, hc⟩ := owns_typed h4 b hb
        exact cells_ne hc g2 (by decide)
    non := fun y hy => by
      obtain ⟨e, hy'⟩ := upd_none hy
      exact (upd_other _ _ e).trans (h.non y hy')
    wf := fun y c hy => by
      rcases upd_get hy with ⟨rfl, rfl⟩ | ⟨e, hy'⟩
      · exact h.wf _ _ hx
      · exact h.wf _ _ hy'
    inj := fun y z c d hy hz' hb => by
      rcases upd_get hy with ⟨rfl, rfl⟩ | ⟨e, hy'⟩ <;> rcases upd_get hz' with ⟨rfl, rfl⟩ | ⟨e2, hz''⟩
      · rfl
      · exact h.inj _ _ _ _ hx hz'' hb
      · exact h.inj _ _ _ _ hy' hx hb
      · exact h.inj _ _ _ _ hy' hz'' hb
    apart := fun y z c d k hy hz' h1 h2 => by
      rcases upd_get hy with ⟨rfl, rfl⟩ | ⟨e, hy'⟩ <;> rcases upd_get hz' with ⟨rfl, rfl⟩ | ⟨e2, hz''⟩
      · rfl
      · rcases vown k h1 with h3 | h3
        · exact h.apart _ _ _ _ k hx hz'' h3 h2
        · obtain ⟨st2, _, _, _, h4⟩ := h.st z d hz''
          exact absurd (owns_lt h4 k h2) (by omega)
      · rcases vown k h2 with h3 | h3
        · exact h.apart _ _ _ _ k hy' hx h1 h3
        · obtain ⟨st2, _, _, _, h4⟩ := h.st y c hy'
          exact absurd (owns_lt h4 k h1) (by omega)
      · exact h.apart _ _ _ _ k hy' hz'' h1 h2
    footU := h.footU
    footM := h.footM
    footS := fun y c hy => by
      rcases upd_get hy with ⟨rfl, rfl⟩ | ⟨e, hy'⟩
      · exact h.footS y a hx
      · exact h.footS _ _ hy'
    footK := fun y c k hy h1 => by
      rcases upd_get hy with ⟨rfl, rfl⟩ | ⟨e, hy'⟩
      · rcases vown k h1 with h3 | h3
        · exact h.footK _ _ k hx h3
        · exact hF k h3
      · exact h.footK _ _ k hy' h1
    footG := h.footG
    sepU := h.sepU
    sepM := h.sepM
    sepS := fun y c hy => by
      rcases upd_get hy with ⟨rfl, rfl⟩ | ⟨e, hy'⟩
      · exact h.sepS y a hx
      · exact h.sepS _ _ hy'
    sepK := fun y c k hy h1 => by
      rcases upd_get hy with ⟨rfl, rfl⟩ | ⟨e, hy'⟩
      · rcases vown k h1 with h3 | h3
        · exact h.sepK _ _ k hx h3
        · exact fun hG => absurd (h.ltG k hG) (by omega)
      · exact h.sepK _ _ k hy' h1
    ltG := fun b hb => Nat.lt_of_lt_of_le (h.ltG b hb) hz }

/-- a new state -/
theorem Uw.put (h : Uw w F G U s mb n M) {x frm : Int} (hwf : (Lit.int .i64 x).wf = true) (hx : M x = none) {w1 w3 : World} (hb1 : Below w.heap.size w w1) {v : Value} {ds : List Dl} (hd : Dr w1 (fun b => w.heap.size ≤ b) v ds)
    {D : DataW Unit} (hD : ∀ y, (Lit.int .i64 y).wf = true → D.atKey (.int .i64 y) (encP none) = encP ((M y).map SV.b)) (hDm : IsMap D)
    (hown : w3.ownsMap Tryz.prog 3 ptrE mb (n + 1) (D.put (.int .i64 x) (encP (some w1.heap.size))))
    (ht : (w1.alloc (.cells (stCells x ⟨frm, -1, ds, []⟩ ⟨w1.heap.size, v, .slice none 0 0⟩) 84)).mapTurned w3 mb) (hF : ∀ b, w.heap.size ≤ b → F b) :
    Uw w3 F (fun b => G b ∨ (w.heap.size ≤ b ∧ b < w1.heap.size)) U { s with all := upd s.all x ⟨frm, -1, ds, []⟩ } mb (n + 1) (upd M x ⟨w1.heap.size, v, .slice none 0 0⟩) := by
  obtain ⟨es, clock, hm⟩ := h.map.mapObj
  have hg := ht.grown
  have hz1 := hb1.size
  have hz3 : w1.heap.size + 1 ≤ w3.heap.size := by
    have := hg.size
    simpa using this
  have hk1 : ∀ b, b < w1.heap.size → b ≠ mb → w3.heap[b]? = w1.heap[b]? := fun b h1 h2 => (hg.block b (by simp; omega) (fun e => h2 (Option.some.inj e))).trans (Below.heap_alloc w1 _ b h1)
  have hk : ∀ b, b < w.heap.size → b ≠ mb → w3.heap[b]? = w.heap[b]? := fun b h1 h2 => (hk1 b (by omega) h2).trans (hb1.block b h1)
  have hmlt := h.map.lt
  have hnew : w3.heap[w1.heap.size]? = some (.cells (stCells x ⟨frm, -1, ds, []⟩ ⟨w1.heap.size, v, .slice none 0 0⟩) 84 (0, 0)) :=
    (hg.block w1.heap.size (by simp) (fun e => by have := Option.some.inj e; omega)).trans (World.alloc_heap_new w1 _)
  have hdr : Dr w3 (fun b => G b ∨ (w.heap.size ≤ b ∧ b < w1.heap.size)) v ds := by
    obtain ⟨L, hq⟩ := hd
    have h5 : Dw w1 (fun b => G b ∨ (w.heap.size ≤ b ∧ b < w1.heap.size)) v L ds := hq.wide fun b hb hb2 => Or.inr ⟨hb2, hb⟩
    exact ⟨L, h5.step (by omega) fun b h1 h2 => hk1 b h1 (by
      rcases h2 with h2 | h2
      · exact fun e => h.sepM (e ▸ h2)
      · omega)⟩
  exact {
    box := (hk U (blk_lt h.box) (map_ne h.box hm)).trans h.box
    map := by
      refine ⟨_, hown, fun y hy => ?_⟩
      by_cases e : y = x
      · subst e
        rw [atKey_put_same hDm (keyedI.key (keyOf_int_mk (a := y) Tryz.underlying3 hy)), upd_same]
        rfl
      · rw [atKey_put_other (by simpa using e), upd_other _ _ e]
        exact hD y hy
    st := fun y c hy => by
      rcases upd_get hy with ⟨rfl, rfl⟩ | ⟨e, hy'⟩
      · exact ⟨⟨frm, -1, ds, []⟩, upd_same _ _ _, hnew, hdr, World.ownsRow_nil _ _ _ _⟩
      · obtain ⟨st2, h1, h2, h3, h4⟩ := h.st y c hy'
        refine ⟨st2, (upd_other _ _ e).trans h1, (hk _ (blk_lt h2) (map_ne h2 hm)).trans h2, (h3.step (by omega) fun b hb hG => hk b hb fun e => h.sepM (e ▸ hG)).wide fun b _ hb => .inl hb, owns_step h4 fun b hb => hk b (owns_lt h4 b hb) ?_⟩
        obtain ⟨c2, hc⟩ := owns_typed h4 b hb
        exact map_ne hc hm
    non := fun y hy => by
      obtain ⟨e, hy'⟩ := upd_none hy
      exact (upd_other _ _ e).trans (h.non y hy')
    wf := fun y c hy => by
      rcases upd_get hy with ⟨rfl, rfl⟩ | ⟨e, hy'⟩
      · exact hwf
      · exact h.wf _ _ hy'
    inj := fun y z c d hy hz' hb => by
      rcases upd_get hy with ⟨rfl, rfl⟩ | ⟨e, hy'⟩ <;> rcases upd_get hz' with ⟨rfl, rfl⟩ | ⟨e2, hz''⟩
      · rfl
      · obtain ⟨st2, _, h2, _⟩ := h.st z d hz''
        have := blk_lt h2
        have hb' : w1.heap.size = d.b := hb
        omega
      · obtain ⟨st2, _, h2, _⟩ := h.st y c hy'
        have := blk_lt h2
        have hb' : c.b = w1.heap.size := hb
        omega
      · exact h.inj _ _ _ _ hy' hz'' hb
    apart := fun y z c d k hy hz' h1 h2 => by
      rcases upd_get hy with ⟨rfl, rfl⟩ | ⟨e, hy'⟩ <;> rcases upd_get hz' with ⟨rfl, rfl⟩ | ⟨e2, hz''⟩
      · rfl
      · cases h1
      · cases h2
      · exact h.apart _ _ _ _ k hy' hz'' h1 h2
    footU := h.footU
    footM := h.footM
    footS := fun y c hy => by
      rcases upd_get hy with ⟨rfl, rfl⟩ | ⟨e, hy'⟩
      · exact hF _ hz1
      · exact h.footS _ _ hy'
    footK := fun y c k hy h1 => by
      rcases upd_get hy with ⟨rfl, rfl⟩ | ⟨e, hy'⟩
      · cases h1
      · exact h.footK _ _ k hy' h1
    footG := fun b hb => hb.elim (h.footG b) fun h => hF b h.1
    sepU := fun hb => hb.elim h.sepU fun h2 => by have := blk_lt h.box; omega
    sepM := fun hb => hb.elim h.sepM fun h2 => by omega
    sepS := fun y c hy hb => by
      rcases upd_get hy with ⟨rfl, rfl⟩ | ⟨e, hy'⟩
      · rcases hb with hb | hb
        · have h9 : w1.heap.size < w.heap.size := h.ltG _ hb
          omega
        · exact absurd hb.2 (Nat.lt_irrefl _)
      · rcases hb with hb | hb
        · exact h.sepS _ _ hy' hb
        · obtain ⟨st2, _, h2, _⟩ := h.st y c hy'
          have := blk_lt h2
          omega
    sepK := fun y c k hy h1 hb => by
      rcases upd_get hy with ⟨rfl, rfl⟩ | ⟨e, hy'⟩
      · cases h1
      · rcases hb with hb | hb
        · exact h.sepK _ _ k hy' h1 hb
        · obtain ⟨st2, _, _, _, h4⟩ := h.st y c hy'
          have := owns_lt h4 k h1
          omega
    ltG := fun b hb => by
      rcases hb with hb | hb
      · have := h.ltG b hb
        omega
      · omega }
end
end Go.Proofs.YtdhemdeapphfoaaGreatDoor

/- undo's Add, walked (there is room). -/
namespace Go.Proofs.YtdhemdeapphfoaaGreatDoor
open Go.RowKit Go.Shelf Go.Maps Go.Proofs.YtdhemdeapphfoaaGreatDoorW.PrintWords Go.Proofs.YtdhemdeapphfoaaGreatDoorW.PrintLast

def addUs (s : Us) (st : St) (ds : List Dl) : Us :=
  { s with now := s.next, next := s.next + 1, all := upd (upd s.all s.now { st with kids := st.kids ++ [s.next], on_ := s.next }) s.next ⟨s.now, -1, ds, []⟩ }
def AddPost (F : Nat → Prop) (U n : Nat) (s s' : Us) (w : World) (e : Ending) (w' : World) : Prop :=
  e = .returned (.int .i64 s.next) ∧ Ut w' F U s' n ∧ Chg F w w'

theorem Dr.slice {w : World} {F : Nat → Prop} {v : Value} {ds : List Dl} (h : Dr w F v ds) : ∃ A n c, v = .slice A n c := by
  obtain ⟨L, h⟩ := h
  rcases h.row.2 with ⟨rfl, _⟩ | ⟨g, cap, cur, rfl, _⟩
  · exact ⟨_, _, _, rfl⟩
  · exact ⟨_, _, _, rfl⟩

section
variable {w : World} {F H : Nat → Prop} {U n : Nat} {s : Us}
end
end Go.Proofs.YtdhemdeapphfoaaGreatDoor
