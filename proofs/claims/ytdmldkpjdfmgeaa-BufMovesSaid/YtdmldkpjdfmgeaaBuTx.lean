import Derived.RangeFuncNested
import Derived.RangeFuncBound
import Derived.RangeFuncCalls
import Derived.RangeFuncBox
import Derived.RangeFuncLeaves
import Derived.Shelf.Abstract
import Derived.Shelf.RegionOpen
import Derived.OwnWalkIn
import Derived.TacticsInMore
import Derived.LoopNIn
import Derived.LoopIn
import Derived.Test.YtdmldkpjdfmgeaaBuF
set_option linter.unusedVariables false
set_option linter.unusedSimpArgs false

/- slices.Backward of changes. -/
namespace Go.Proofs.Ytdmldkpjdfmgeaa
open Go.RowKit Go.Shelf Go.Proofs.YtdmldkpjdfmgeaaW.PrintWords Go.Proofs.YtdmldkpjdfmgeaaW.PrintLast
attribute [local go_sem] Oper.semAt_some

/-- a change as it is handed on -/
structure SD where
  at_ : Int
  ao : Option Addr
  no : Nat
  co : Nat
  an : Option Addr
  nn : Nat
  cn : Nat
def SD.vo (x : SD) : Value := .slice x.ao x.no x.co
def SD.vn (x : SD) : Value := .slice x.an x.nn x.cn
def SD.dv (x : SD) : DV := ⟨x.at_, x.vo, x.vn⟩
def dv0 : SD := ⟨0, none, 0, 0, none, 0, 0⟩
theorem sds_of {L : List DV} (h : ∀ x ∈ L, (∃ A n c, x.vo = .slice A n c) ∧ (∃ A n c, x.vn = .slice A n c)) : ∃ M : List SD, M.map SD.dv = L := by
  induction L with
  | nil => exact ⟨[], rfl⟩
  | cons x L ih =>
    obtain ⟨M, hM⟩ := ih fun y hy => h y (List.mem_cons_of_mem _ hy)
    obtain ⟨⟨A, n, c, h1⟩, B, m, d, h2⟩ := h x (List.mem_cons_self ..)
    refine ⟨⟨x.at_, A, n, c, B, m, d⟩ :: M, ?_⟩
    rw [List.map_cons, hM]
    congr 1
    unfold SD.dv SD.vo SD.vn
    rw [← h1, ← h2]
def bk (L : List SD) (k : Nat) : Nat × SD := (L.length - 1 - k, L.getD (L.length - 1 - k) dv0)
def bks (L : List SD) (k : Nat) : List (Nat × SD) := (List.range k).map (bk L)
theorem bks_succ (L : List SD) (k : Nat) : bks L (k + 1) = bks L k ++ [bk L k] := by simp [bks, List.range_succ]
theorem bks_length (L : List SD) (k : Nat) : (bks L k).length = k := by simp [bks]
def encD (x : Nat × SD) : Array Value := #[.int .i64 (x.1 : Int), .agg #[.int .i64 x.2.at_, .slice x.2.ao x.2.no x.2.co, .slice x.2.an x.2.nn x.2.cn]]

set_option maxRecDepth 100000 in
set_option maxHeartbeats 2000000 in
theorem back1_in (F : Fence) (n : Nat) (h8 : F.fn 82) (hro : F.round = none) (hn : 1 ≤ n) (l Bs g c : Nat) (L : List SD) (hL : L.length ≤ 1000000000) (hL0 : 0 < L.length) (J Jx : List (Nat × SD) → World → Prop)
    (Kp : World → World → Prop) (hkB : ∀ A B, Kp A B → B.heap[Bs]? = A.heap[Bs]?) (hkg : ∀ A B, Kp A B → B.heap[g]? = A.heap[g]?)
    (hY : ∀ pre x W, J pre W → pre.length < L.length → YieldAt F (n - 1) Try.prog l #[.int .i64 (x.1 : Int), .agg #[.int .i64 x.2.at_, .slice x.2.ao x.2.no x.2.co, .slice x.2.an x.2.nn x.2.cn]] W fun e W' =>
      (e = .returned (.bool true) ∧ J (pre ++ [x]) W' ∧ Kp W W') ∨ (e = .returned (.bool false) ∧ Jx (pre ++ [x]) W'))
    (W : World) (hBs : W.cell? ⟨Bs, 0, none⟩ = some (.slice (some ⟨g, 0, none⟩) L.length c)) (hc : ∀ i, i < L.length → W.cell? ⟨g, i * 3, none⟩ = some (.int .i64 (L.getD i dv0).at_) ∧ W.cell? ⟨g, i * 3 + 1, none⟩ = some (.slice (L.getD i dv0).ao (L.getD i dv0).no (L.getD i dv0).co) ∧ W.cell? ⟨g, i * 3 + 2, none⟩ = some (.slice (L.getD i dv0).an (L.getD i dv0).nn (L.getD i dv0).cn)) (h0 : J [] W) :
    CallsIn F n Try.prog 82 #[.func (.yield l) #[] #[], .pointer (some ⟨Bs, 0, none⟩)] W fun e W' => (∃ v, e = .returned v) ∧
      ((∃ ys, ys = bks L L.length ∧ J ys W') ∨ (∃ pre, (∃ k, k ≤ L.length ∧ pre = bks L k) ∧ Jx pre W')) := by
  refine callsIn_of_wp Try.func82 rfl h8 ?_ hro
  simp only [Try.ntmps82, List.size_toArray, List.length_cons, List.length_nil, Nat.reduceAdd, Nat.reduceSub, Array.replicate_succ, Array.replicate_zero, List.push_toArray, List.append_toArray, List.nil_append, List.cons_append]
  gi_wp2
  gi_loopw [3] (fun i wr => ∃ k : Nat, k ≤ L.length ∧ i = .int .i64 ((L.length : Int) - 1 - k) ∧ J (bks L k) wr ∧ wr.heap[Bs]? = W.heap[Bs]? ∧ wr.heap[g]? = W.heap[g]?)
    (fun i _ => ((intOf i) + 1).toNat)
  case atStart => exact ⟨0, Nat.zero_le _, by go_num, h0, rfl, rfl⟩
  case round =>
    obtain ⟨k, hk, rfl, hJs, hk1, hk2⟩ := hrel
    by_cases hlt : k < L.length
    · obtain ⟨i, hi⟩ : ∃ i : Nat, L.length - 1 - k = i := ⟨_, rfl⟩
      have hiI : (L.length : Int) - 1 - k = i := by omega
      have hil : i < L.length := by omega
      have hil' : (i : Int) < L.length := by omega
      obtain ⟨x, hx⟩ : ∃ x, L.getD i dv0 = x := ⟨_, rfl⟩
      obtain ⟨fn, tmps, assign, body, hy, hR⟩ := hY _ (i, x) wr hJs (by rw [bks_length]; exact hlt)
      dsimp only at hy
      have hb := (World.cell?_of_block (w := W) (w' := wr) (a := ⟨Bs, 0, none⟩) hk1).trans hBs
      obtain ⟨e0, e1, e2⟩ := hc i hil
      rw [hx] at e0 e1 e2
      have c0 := (World.cell?_of_block (w := W) (w' := wr) (a := ⟨g, i * 3, none⟩) hk2).trans e0
      have c1 := (World.cell?_of_block (w := W) (w' := wr) (a := ⟨g, i * 3 + 1, none⟩) hk2).trans e1
      have c2 := (World.cell?_of_block (w := W) (w' := wr) (a := ⟨g, i * 3 + 2, none⟩) hk2).trans e2
      have hbk : bk L k = (i, x) := by unfold bk; rw [hi, hx]
      clear e0 e1 e2
      rw [hiI]
      gi_wp2
      refine hR.mono ?_
      rintro e W3 (⟨rfl, hJ3, hk3⟩ | ⟨rfl, hJx3⟩)
      · gi_wp2
        go_roundw
        case rel => exact ⟨k + 1, by omega, by congr 1; omega, by rw [bks_succ, hbk]; exact hJ3, (hkB _ _ hk3).trans hk1, (hkg _ _ hk3).trans hk2⟩
        case measure => simp [intOf]
      · gi_wp2
        refine bodyPost_ret (results_none rfl _ _ _) rfl ?_
        exact ⟨⟨_, rfl⟩, .inr ⟨_, ⟨k + 1, by omega, by rw [bks_succ, hbk]⟩, hJx3⟩⟩
    · obtain rfl : k = L.length := by omega
      rw [show (L.length : Int) - 1 - L.length = -1 by omega]
      gi_wp2
      go_end0
      exact ⟨⟨_, rfl⟩, .inl ⟨_, rfl, hJs⟩⟩

set_option maxRecDepth 100000 in
set_option maxHeartbeats 1000000 in
/-- of none: no round -/
theorem back0_in (F : Fence) (n : Nat) (h8 : F.fn 82) (hro : F.round = none) (l Bs c : Nat) (A : Option Addr) (J : List (Nat × SD) → World → Prop) (W : World) (hBs : W.cell? ⟨Bs, 0, none⟩ = some (.slice A 0 c)) (h0 : J [] W) :
    CallsIn F n Try.prog 82 #[.func (.yield l) #[] #[], .pointer (some ⟨Bs, 0, none⟩)] W fun e W' => (∃ v, e = .returned v) ∧ J [] W' := by
  refine callsIn_of_wp Try.func82 rfl h8 ?_ hro
  simp only [Try.ntmps82, List.size_toArray, List.length_cons, List.length_nil, Nat.reduceAdd, Nat.reduceSub, Array.replicate_succ, Array.replicate_zero, List.push_toArray, List.append_toArray, List.nil_append, List.cons_append]
  cases A
  all_goals
    gi_wp2
    gi_loopw [3] (fun i wr => i = .int .i64 (-1) ∧ J [] wr) (fun _ _ => 0)
    case atStart => exact ⟨by go_num, h0⟩
    case round =>
      obtain ⟨rfl, hJs⟩ := hrel
      gi_wp2
      go_end0
      exact ⟨⟨_, rfl⟩, hJs⟩

set_option maxHeartbeats 1000000 in
/-- slices.Backward: the slice is boxed; the function value captures the box. -/
theorem back_in (F : Fence) (n : Nat) (h5 : F.fn 69) (hro : F.round = none) (a : Option Addr) (len cap : Nat) (w : World) :
    CallsIn F n Try.prog 69 #[.slice a len cap] w fun e w' => e = .returned (.func (.func 82) #[] #[.pointer (some ⟨w.heap.size, 0, none⟩)]) ∧ w' = w.alloc (.cells #[.slice a len cap] 36) := by
  refine callsIn_of_wp Try.func69 rfl h5 ?_ hro
  simp only [Try.ntmps69, List.size_toArray, List.length_cons, List.length_nil, Nat.reduceAdd, Nat.reduceSub, Array.replicate_succ, Array.replicate_zero, List.push_toArray, List.append_toArray, List.nil_append, List.cons_append]
  gi_wp2
  go_ret
  exact ⟨rfl, rfl⟩
end Go.Proofs.Ytdmldkpjdfmgeaa

/- undo.Turn, walked. -/
namespace Go.Proofs.Ytdmldkpjdfmgeaa
open Go.RowKit Go.Shelf Go.Proofs.YtdmldkpjdfmgeaaW.PrintWords Go.Proofs.YtdmldkpjdfmgeaaW.PrintLast
attribute [local go_sem] Oper.semAt_some

def trn (x : Nat × SD) : DV := ⟨x.2.at_, x.2.vn, x.2.vo⟩
def tfl (pre : List (Nat × SD)) : List Value := dflat (pre.map trn)
theorem tfl_snoc (pre : List (Nat × SD)) (x : Nat × SD) : tfl (pre ++ [x]) = tfl pre ++ [.int .i64 x.2.at_, x.2.vn, x.2.vo] := by
  rw [tfl, List.map_append, dflat_append]; rfl
/-- the loop variable's box -/
def Box3D (W : World) (B : Nat) (x : SD) : Prop := W.heap[B]? = some (.cells #[.int .i64 x.at_, .slice x.ao x.no x.co, .slice x.an x.nn x.cn] 93 (0, 0))
def TurnPost (w : World) (M : List SD) (e : Ending) (w' : World) : Prop := ∃ v, e = .returned v ∧ w'.ownsRow w.heap.size 93 3 v M.length (tfl (bks M M.length)) ∧ Below w.heap.size w w'

/-- what a round keeps -/
def Kp2 (n₀ Bs : Nat) (W W' : World) : Prop := Below n₀ W W' ∧ W'.heap[Bs]? = W.heap[Bs]?
theorem kp2_t {n₀ Bs : Nat} {A B C : World} (h : Kp2 n₀ Bs A B) (k : Kp2 n₀ Bs B C) : Kp2 n₀ Bs A C := ⟨h.1.trans k.1, k.2.trans h.2⟩
theorem kp2_b {n₀ Bs : Nat} {w : World} (hn : n₀ ≤ w.heap.size) (hB : Bs < w.heap.size) (W : World) (l : Nat) (o o' : Obj) (hl : w.heap.size ≤ l) (h : W.heap[l]? = some o) (h1 : o.isCells = false) (h2 : o.isWalk = false) : Kp2 n₀ Bs W (W.putObj l o') :=
  ⟨belowK_b hn W l o o' hl h h1 h2, World.putObj_heap_other (by omega)⟩

theorem back_stops (F : Fence) (n : Nat) (h8 : F.fn 82) (hro : F.round = none) (hn : 1 ≤ n) (Bs n₀ g c : Nat) (A : Option Addr) (M : List SD) (hL : M.length ≤ 1000000000) (hA : 0 < M.length → A = some ⟨g, 0, none⟩ ∧ g < n₀) (w : World) (hBs : Bs < w.heap.size) (hn₀ : n₀ ≤ w.heap.size)
    (hc0 : w.cell? ⟨Bs, 0, none⟩ = some (.slice A M.length c)) (hc : ∀ i, i < M.length → w.cell? ⟨g, i * 3, none⟩ = some (.int .i64 (M.getD i dv0).at_) ∧ w.cell? ⟨g, i * 3 + 1, none⟩ = some (.slice (M.getD i dv0).ao (M.getD i dv0).no (M.getD i dv0).co) ∧ w.cell? ⟨g, i * 3 + 2, none⟩ = some (.slice (M.getD i dv0).an (M.getD i dv0).nn (M.getD i dv0).cn)) :
    SeqStopsK F n Try.prog 82 #[.pointer (some ⟨Bs, 0, none⟩)] encD (Kp2 n₀ Bs) (fun ys => ys = bks M M.length) (fun _ => True) M.length w := fun l J Jx W hW _ _ hY h0 => by
  have hc' := (hW.cell (p := ⟨Bs, 0, none⟩) hBs).trans hc0
  by_cases h00 : 0 < M.length
  · obtain ⟨rfl, hg⟩ := hA h00
    have hc2 : ∀ i, i < M.length → W.cell? ⟨g, i * 3, none⟩ = some (.int .i64 (M.getD i dv0).at_) ∧ W.cell? ⟨g, i * 3 + 1, none⟩ = some (.slice (M.getD i dv0).ao (M.getD i dv0).no (M.getD i dv0).co) ∧ W.cell? ⟨g, i * 3 + 2, none⟩ = some (.slice (M.getD i dv0).an (M.getD i dv0).nn (M.getD i dv0).cn) := fun i hi =>
      ⟨(hW.cell (p := ⟨g, i * 3, none⟩) (by show g < _; omega)).trans (hc i hi).1, (hW.cell (p := ⟨g, i * 3 + 1, none⟩) (by show g < _; omega)).trans (hc i hi).2.1, (hW.cell (p := ⟨g, i * 3 + 2, none⟩) (by show g < _; omega)).trans (hc i hi).2.2⟩
    refine (back1_in F n h8 hro hn l Bs g c M hL h00 J Jx (Kp2 n₀ Bs) (fun _ _ h => h.2) (fun _ _ h => h.1.block g hg) hY W hc' hc2 h0).mono ?_
    rintro e W' ⟨he, ⟨ys, rfl, hj⟩ | ⟨pre, _, hj⟩⟩
    · exact ⟨he, .inl ⟨_, rfl, hj⟩⟩
    · exact ⟨he, .inr ⟨_, trivial, hj⟩⟩
  · have h9 : M = [] := List.eq_nil_of_length_eq_zero (by omega)
    subst h9
    refine (back0_in F n h8 hro l Bs c A J W hc' h0).mono ?_
    rintro e W' ⟨he, hj⟩
    exact ⟨he, .inl ⟨_, rfl, hj⟩⟩

set_option maxRecDepth 100000 in
set_option maxHeartbeats 4000000 in
theorem turn_in (F : Fence) (n : Nat) (h1f : F.fn 52) (h2f : F.fn 69) (h3f : F.fn 82) (hro : F.round = none) (hn : 6 ≤ n) (w : World) (g c : Nat) (A : Option Addr) (M : List SD) (hL : M.length ≤ 1000000000) (hA : 0 < M.length → A = some ⟨g, 0, none⟩ ∧ g < w.heap.size)
    (hc : ∀ i, i < M.length → w.cell? ⟨g, i * 3, none⟩ = some (.int .i64 (M.getD i dv0).at_) ∧ w.cell? ⟨g, i * 3 + 1, none⟩ = some (.slice (M.getD i dv0).ao (M.getD i dv0).no (M.getD i dv0).co) ∧ w.cell? ⟨g, i * 3 + 2, none⟩ = some (.slice (M.getD i dv0).an (M.getD i dv0).nn (M.getD i dv0).cn)) :
    CallsIn F n Try.prog 52 #[.slice A M.length c] w (TurnPost w M) := by
  have h1 : 1 ≤ n := by omega
  refine callsIn_of_wp_marks Try.func52 rfl h1f ?_ hro
  simp only [Try.ntmps52, List.size_toArray, List.length_cons, List.length_nil, Nat.reduceAdd, Nat.reduceSub, Array.replicate_succ, Array.replicate_zero, List.push_toArray, List.append_toArray, List.nil_append, List.cons_append]
  gi_wp2_with (gi_at_call 69; refine (back_in F (n - 1) h2f hro _ _ _ _).mono ?_; rintro e w' ⟨rfl, rfl⟩)
  have bS := Boxed.new (w.alloc (.cells #[.slice none 0 0] 36)) 36 (.slice A M.length c)
  have bB := (Boxed.new w 36 (.slice none 0 0)).alloc (.cells #[.slice A M.length c] 36)
  simp only [World.size_alloc] at bS
  have hB0 : Below w.heap.size w ((w.alloc (.cells #[.slice none 0 0] 36)).alloc (.cells #[.slice A M.length c] 36)) := ((Below.refl _ w).alloc (Nat.le_refl _) _).alloc (by simp) _
  have hsz : ((w.alloc (.cells #[.slice none 0 0] 36)).alloc (.cells #[.slice A M.length c] 36)).heap.size = w.heap.size + 2 := by simp
  obtain ⟨W0, hW0⟩ : ∃ W0, (w.alloc (.cells #[.slice none 0 0] 36)).alloc (.cells #[.slice A M.length c] 36) = W0 := ⟨_, rfl⟩
  rw [hW0] at bB bS hB0 hsz ⊢
  clear hW0
  have hcW : ∀ i, i < M.length → W0.cell? ⟨g, i * 3, none⟩ = some (.int .i64 (M.getD i dv0).at_) ∧ W0.cell? ⟨g, i * 3 + 1, none⟩ = some (.slice (M.getD i dv0).ao (M.getD i dv0).no (M.getD i dv0).co) ∧ W0.cell? ⟨g, i * 3 + 2, none⟩ = some (.slice (M.getD i dv0).an (M.getD i dv0).nn (M.getD i dv0).cn) := fun i hi => by
    have hg := (hA (by omega)).2
    exact ⟨(hB0.cell (p := ⟨g, i * 3, none⟩) hg).trans (hc i hi).1, (hB0.cell (p := ⟨g, i * 3 + 1, none⟩) hg).trans (hc i hi).2.1, (hB0.cell (p := ⟨g, i * 3 + 2, none⟩) hg).trans (hc i hi).2.2⟩
  refine wpIn_rangeFunc_ownH hro h1 (gf := 82) (lb := #[.pointer (some ⟨w.heap.size + 1, 0, none⟩)]) rfl h3f (enters_of Try.func82 (by kernel_rfl) rfl)
    (back_stops F (n - 1) h3f hro (by omega) (w.heap.size + 1) w.heap.size g c A M hL hA W0 (by omega) (by omega) bS.cell hcW) kp2_t (kp2_b (by omega) (by omega)) (Below.refl _ _) (fun _ => rfl)
    (fun pre W => ((∃ v, Boxed W w.heap.size 36 v ∧ W.ownsRow w.heap.size 93 3 v pre.length (tfl pre) ∧ True) ∧ Boxed W (w.heap.size + 1) 36 (.slice A M.length c)) ∧ Below w.heap.size w W)
    (fun _ _ _ => False)
    (OwnFrom.and (OwnFrom.and (Own.from (holdsRow_own w.heap.size w.heap.size 36 93 3 (fun (pre : List (Nat × SD)) => pre.length) (fun pre => tfl pre) (fun _ _ => True)) _) (Own.from (boxed_own _ _ (fun _ => Value.slice A M.length c)) _)) (ownFrom_below (Nat.le_refl _) (by omega)))
    (fun _ _ _ _ _ hs _ _ => hs)
    ⟨⟨⟨_, bB, World.ownsRow_nil _ _ _ _, trivial⟩, bS⟩, hB0⟩
    (fun x a' W => ∃ Bx, w.heap.size + 1 < Bx ∧ Box3D W Bx x.2 ∧ a' = { tmps := #[.slice A M.length c, undef, .slice none 0 0, .pointer (some ⟨w.heap.size, 0, none⟩), undef, .pointer (some ⟨Bx, 0, none⟩), .slice A M.length c, .func (.func 82) #[] #[.pointer (some ⟨w.heap.size + 1, 0, none⟩)], .int .i64 (x.1 : Int), .agg #[.int .i64 x.2.at_, .slice x.2.ao x.2.no x.2.co, .slice x.2.an x.2.nn x.2.cn], undef, undef, undef, undef, undef, undef, undef, undef, undef, undef, undef], defers := [] })
    (fun x a' _ X Y row hs hg hr => by
      obtain ⟨Bx, h1, h2, h3⟩ := hs
      refine ⟨Bx, h1, (hg.block Bx (blk_lt h2) (fun e => ?_)).trans h2, h3⟩
      obtain ⟨_, o, ho, hco⟩ := hr _ e.symm
      rw [show X.heap[Bx]? = _ from h2] at ho
      cases ho
      cases hco)
    ?assign ?body ?done ?stop
  case assign =>
    rintro l pre x W K ⟨⟨⟨v, bB1, hr1, _⟩, bS1⟩, hB1⟩ hK
    unfold encD
    gi_wp2
    exact hK _ _ ((KeepsOthers.alloc _ _).from _) ⟨(Below.refl _ W).alloc hB1.size _, Below.heap_alloc _ _ _ bS1.lt⟩ ⟨⟨⟨v, bB1.alloc _, hr1.alloc _, trivial⟩, bS1.alloc _⟩, hB1.alloc hB1.size _⟩ ⟨W.heap.size, bS1.lt, World.alloc_heap_new W _, rfl⟩
  case body =>
    rintro l pre x a' W hl ⟨r, hr⟩ ⟨⟨⟨v, bB1, hr1, _⟩, bS1⟩, hB1⟩ ⟨Bx, hBx, bX, rfl⟩ hlt
    obtain ⟨i0, hi, hz0, hz1, hz2⟩ := info_parts infoD
    have cB := bB1.cell
    have fB := bB1.frozen
    have x0 : W.cell? ⟨Bx, 0, none⟩ = some (.int .i64 x.2.at_) := by rw [blk_cell bX]; rfl
    have x1 : W.cell? ⟨Bx, 1, none⟩ = some (.slice x.2.ao x.2.no x.2.co) := by rw [blk_cell bX]; rfl
    have x2 : W.cell? ⟨Bx, 2, none⟩ = some (.slice x.2.an x.2.nn x.2.cn) := by rw [blk_cell bX]; rfl
    have hsW := hB1.size
    gi_wp2_with (gi_at_builtin; refine wpListIn_append_own _ rfl _ _ 36 rfl w.heap.size 93 i0 _ 3 56 Try.underlying36 hi hz0 hz1 hz2 rfl (by decide) v pre.length (tfl pre) rfl (hr1.alloc _) ⟨W.heap.size, 0, none⟩ 1 1 [.int .i64 x.2.at_, .slice x.2.an x.2.nn x.2.cn, .slice x.2.ao x.2.no x.2.co] rfl rfl ?hcell ?hone (by unfold maxLen; omega) (by omega) (by simp; omega) ?_; rotate_left 2; intro v' w1 hown' hgrow _; obtain ⟨g', cap', rfl⟩ := ownsRow_succ hown'; obtain ⟨hv1, hv2, hr2, hk2, hb2⟩ := bB1.appended (by decide) hr1 hB1.size (Nat.le_refl _) hown' hgrow; have hc1 := hv1.cell; have hf1 := hv1.frozen)
    case hcell =>
      intro j u hu
      match j, hu with
      | 0, hu => rw [← hu, Addr.add_lit, blk_cell (World.alloc_heap_new W _)]; rfl
      | 1, hu => rw [← hu, Addr.add_lit, blk_cell (World.alloc_heap_new W _)]; rfl
      | 2, hu => rw [← hu, Addr.add_lit, blk_cell (World.alloc_heap_new W _)]; rfl
    case hone =>
      intro u hu
      simp at hu
      rcases hu with rfl | rfl | rfl <;> rfl
    have hs2 := (((bS1.alloc _).kept hgrow (bS1.not_row (by decide) hr1)).other (show w.heap.size + 1 ≠ w.heap.size by omega) (.slice (some ⟨g', 0, none⟩) (pre.length + 1) cap'))
    refine ⟨hk2.from _, ⟨hb2, Eq.trans hs2 (Eq.symm bS1)⟩, ⟨⟨_, hv2, ?_, trivial⟩, hs2⟩, hB1.trans hb2⟩
    rw [List.length_append, tfl_snoc]
    exact hr2
  case done =>
    rintro D ys W hD rfl ⟨⟨⟨v, bB1, hr1, _⟩, bS1⟩, hB1⟩ hK
    have cB := bB1.cell
    gi_wp2
    refine ⟨by simp, .inl ⟨_, _, rfl, run_takeDeferred hK, ?_⟩⟩
    refine ⟨_, results_tmp rfl _ _ _, _, rfl, ?_, hB1.trans (belowK_b (w := w) (Nat.le_refl _) W D _ _ (by omega) hK rfl rfl)⟩
    rw [bks_length] at hr1
    exact ownsRow_putObj hr1 _ hK rfl
  case stop =>
    rintro D c pre W _ _ h _
    exact h.elim

/-- the changes that undo these -/
def turnDs (ds : List Dl) : List Dl := ds.reverse.map fun d => ⟨d.at_, d.new, d.old⟩
def TurnedPost (w : World) (F : Nat → Prop) (ds : List Dl) (e : Ending) (w' : World) : Prop := ∃ v, e = .returned v ∧ Dr w' (fun b => F b ∨ w.heap.size ≤ b) v (turnDs ds) ∧ Below w.heap.size w w'

theorem Ls.slice {w : World} {G : Nat → Prop} {v : Value} {xs : List ByteArray} (h : Ls w G v xs) : ∃ A n c, v = .slice A n c := by
  obtain ⟨A, c, rfl, _⟩ := h
  exact ⟨A, _, c, rfl⟩

theorem turn_any {w : World} {F : Nat → Prop} {v : Value} {ds : List Dl} (h : Dr w F v ds) (hn : ds.length ≤ 1000000000) : Calls Try.prog 52 #[v] w (TurnedPost w F ds) := by
  obtain ⟨L, h⟩ := h
  obtain ⟨M, rfl⟩ := sds_of (L := L) (fun x hx => by
    obtain ⟨k, hk, rfl⟩ := List.getElem_of_mem hx
    have hk2 : k < ds.length := by rw [← h.len]; exact hk
    have h1 := h.els k _ ds[k] (List.getElem?_eq_getElem hk) (List.getElem?_eq_getElem hk2)
    exact ⟨h1.2.1.slice, h1.2.2.slice⟩)
  have hlen := h.len
  rw [List.length_map] at hlen
  have hrow := h.row
  rw [List.length_map] at hrow
  have hv : ∃ A c, v = .slice A M.length c ∧ (0 < M.length → ∃ g, A = some ⟨g, 0, none⟩) := by
    rcases hrow.2 with ⟨rfl, h0⟩ | ⟨g, cap, cur, rfl, _⟩
    · exact ⟨none, 0, by rw [h0], fun h => absurd h (by omega)⟩
    · exact ⟨_, _, rfl, fun _ => ⟨g, rfl⟩⟩
  obtain ⟨A, c, rfl, hA⟩ := hv
  obtain ⟨g, hg⟩ : ∃ g, 0 < M.length → A = some ⟨g, 0, none⟩ := by
    by_cases h0 : 0 < M.length
    · obtain ⟨g, e⟩ := hA h0
      exact ⟨g, fun _ => e⟩
    · exact ⟨0, fun h => absurd h h0⟩
  have hcall := turn_in Fence.wide 6 trivial trivial trivial rfl (Nat.le_refl _) w g c A M (by omega) (fun h0 => ⟨hg h0, by
      have e := hg h0
      subst e
      exact owns_lt hrow g rfl⟩) (fun i hi => by
      have e := hg (by omega)
      subst e
      have hx : (M.map SD.dv)[i]? = some (M.getD i dv0).dv := by
        rw [List.getElem?_map, List.getD_eq_getElem?_getD, List.getElem?_eq_getElem hi]
        rfl
      have cc : ∀ (j : Nat) u, j < 3 → (M.getD i dv0).dv.cells[j]? = some u → w.cell? ⟨g, i * 3 + j, none⟩ = some u := fun j u hj hu => by
        have := hrow.cells (g := g) rfl (i * 3 + j) u (by rw [dflat_at hx hj]; exact hu)
        rw [Addr.add_lit, Nat.zero_add] at this
        exact this
      exact ⟨cc 0 _ (by omega) rfl, cc 1 _ (by omega) rfl, cc 2 _ (by omega) rfl⟩)
  refine (callsIn_wide.1 hcall).mono ?_
  rintro e w' ⟨v', rfl, hr, hb⟩
  refine ⟨v', rfl, ⟨(bks M M.length).map trn, ⟨?_, ?_, ?_, ?_⟩⟩, hb⟩
  · rw [List.length_map, bks_length]
    exact ⟨hr.1, hr.2.imp id fun ⟨g, cap, cur, a1, a2, a3⟩ => ⟨g, cap, cur, a1, Nat.zero_le _, a3⟩⟩
  · intro b hb2
    rcases hr.2 with ⟨rfl, _⟩ | ⟨g, cap, cur, rfl, a2, _⟩
    · cases hb2
    · injection hb2 with hb2
      exact .inr (hb2 ▸ a2)
  · rw [List.length_map, bks_length, turnDs, List.length_map, List.length_reverse, hlen]
  · intro k x d hx hd
    have hk : k < M.length := by
      have := (List.getElem?_eq_some_iff.1 hx).1
      rw [List.length_map, bks_length] at this
      exact this
    have hi : M.length - 1 - k < M.length := by omega
    have ex : x = trn (bk M k) := by
      rw [List.getElem?_map, bks, List.getElem?_map, List.getElem?_range hk] at hx
      exact (Option.some.inj hx).symm
    have hmx : (M.map SD.dv)[M.length - 1 - k]? = some (M.getD (M.length - 1 - k) dv0).dv := by
      rw [List.getElem?_map, List.getD_eq_getElem?_getD, List.getElem?_eq_getElem hi]
      rfl
    have hdk : M.length - 1 - k < ds.length := by omega
    have hdd : ds[M.length - 1 - k]? = some ds[M.length - 1 - k] := List.getElem?_eq_getElem hdk
    have ed : d = ⟨ds[M.length - 1 - k].at_, ds[M.length - 1 - k].new, ds[M.length - 1 - k].old⟩ := by
      rw [turnDs, List.getElem?_map, List.getElem?_reverse (by omega), ← hlen, hdd] at hd
      exact (Option.some.inj hd).symm
    obtain ⟨g1, g2, g3⟩ := h.els _ _ _ hmx hdd
    subst ex ed
    refine ⟨g1, ?_, ?_⟩
    · exact (g3.step hb.size fun b hb2 _ => hb.block b hb2).wide fun b _ hb => .inl hb
    · exact (g2.step hb.size fun b hb2 _ => hb.block b hb2).wide fun b _ hb => .inl hb
end Go.Proofs.Ytdmldkpjdfmgeaa
