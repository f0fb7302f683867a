/- marks: Copy; the document's Same; an operation that is handed in; two maps beside each other. -/
import Derived.Test.YtccalibapiiifaaMt
import Derived.Test.YtccalibapiiifaaOps
namespace Go.Proofs.Ytccalibapiiifaa
open Go.RowKit Go.Maps Go.Proofs.YtccalibapiiifaaW.PrintWords Go.Proofs.YtccalibapiiifaaW.PrintLast Go.Proofs.YtccalibapiiifaaW.PrintMore

set_option maxRecDepth 100000 in
theorem op_open {H : Type} {enc : TypeId × Value → H} {W : World} {b : Nat} {v : Value} {d : DataW H} {p : List MemPlace} (_hv : Value.okWide Try.prog W .any b 35 v)
    (h : DataW.Trod enc Try.prog W 0 (fun _ => true) true 35 v d p) : ∃ x0 x1 x2 x3 x4, v = .agg #[.int .u8 x0, .int .u8 x1, .int .i64 x2, .int .i64 x3, .int .i64 x4] ∧
      (0 ≤ x1 ∧ x1 ≤ 255) := by
  obtain ⟨cs, rfl, hcs⟩ := Go.WideShapes.okWide_struct Try.underlying35 _hv
  obtain ⟨fuel, h⟩ := h
  obtain ⟨ys, _, _, _, hlen, _, hf⟩ := Go.DataW.trod_struct Try.underlying35 h
  have esz : Try.prog.cellsOf 35 = 5 := by kernel_rfl
  have es3 : Try.prog.cellsOf 3 = 1 := by kernel_rfl
  have es5 : Try.prog.cellsOf 5 = 1 := by kernel_rfl
  rw [esz] at hcs
  obtain ⟨u0, u1, u2, u3, u4, rfl⟩ : ∃ u0 u1 u2 u3 u4, cs = #[u0, u1, u2, u3, u4] := by
    obtain ⟨l⟩ := cs
    match l, hcs with
    | [u0, u1, u2, u3, u4], _ => exact ⟨u0, u1, u2, u3, u4, rfl⟩
  simp [Value.cells] at hf
  have g0 := hf 0 _ rfl
  simp [es5] at g0
  obtain ⟨y0, hy0⟩ : ∃ y, ys[0]? = some y := by
    have hz : ys.length = 5 := by assumption
    exact ⟨_, List.getElem?_eq_getElem (by omega)⟩
  rw [hy0] at g0
  obtain ⟨x0, e0, _, f0⟩ := Go.DataW.trod_int Try.underlying5 g0
  simp at e0
  have g1 := hf 1 _ rfl
  simp [es5] at g1
  obtain ⟨y1, hy1⟩ : ∃ y, ys[1]? = some y := by
    have hz : ys.length = 5 := by assumption
    exact ⟨_, List.getElem?_eq_getElem (by omega)⟩
  rw [hy1] at g1
  obtain ⟨x1, e1, _, f1⟩ := Go.DataW.trod_int Try.underlying5 g1
  simp at e1
  have g2 := hf 2 _ rfl
  simp [es3] at g2
  obtain ⟨y2, hy2⟩ : ∃ y, ys[2]? = some y := by
    have hz : ys.length = 5 := by assumption
    exact ⟨_, List.getElem?_eq_getElem (by omega)⟩
  rw [hy2] at g2
  obtain ⟨x2, e2, _, f2⟩ := Go.DataW.trod_int Try.underlying3 g2
  simp at e2
  have g3 := hf 3 _ rfl
  simp [es3] at g3
  obtain ⟨y3, hy3⟩ : ∃ y, ys[3]? = some y := by
    have hz : ys.length = 5 := by assumption
    exact ⟨_, List.getElem?_eq_getElem (by omega)⟩
  rw [hy3] at g3
  obtain ⟨x3, e3, _, f3⟩ := Go.DataW.trod_int Try.underlying3 g3
  simp at e3
  have g4 := hf 4 _ rfl
  simp [es3] at g4
  obtain ⟨y4, hy4⟩ : ∃ y, ys[4]? = some y := by
    have hz : ys.length = 5 := by assumption
    exact ⟨_, List.getElem?_eq_getElem (by omega)⟩
  rw [hy4] at g4
  obtain ⟨x4, e4, _, f4⟩ := Go.DataW.trod_int Try.underlying3 g4
  simp at e4
  subst e0
  subst e1
  subst e2
  subst e3
  subst e4
  exact ⟨x0, x1, x2, x3, x4, rfl, bounds_u8 f1⟩

/-! ### Copy -/
theorem grown_refl (w : World) (r : Option Nat) : w.grownBy w r := ⟨rfl, rfl, rfl, Nat.le_refl _, fun _ _ _ => rfl⟩

set_option maxRecDepth 100000 in
theorem copy_held {B : Nat} {w0 w : World} {p mb n : Nat} {f : Int → Int} (h : Held B w0 w p mb n f) :
    Calls Try.prog 31 #[.pointer (some ⟨p, 0, none⟩)] w fun e w' => ∃ p2 mb2, e = .returned (.pointer (some ⟨p2, 0, none⟩)) ∧ Held B w0 w' p2 mb2 n f ∧ Held B w0 w' p mb n f ∧ Below w.heap.size w w' ∧ w.heap.size ≤ mb2 ∧ w.heap.size ≤ p2 := by
  obtain ⟨D, hown, hD⟩ := h.map
  have HD : Hid (Reads D f) := hD
  have hB : B ≤ w.heap.size := Nat.le_trans h.hp (Nat.le_of_lt h.plt)
  have HC : Hid (Calls Try.prog 49 #[.map (some mb)] w fun e w' => e = .returned (.map (some w.heap.size)) ∧ w'.ownsMap Try.prog 5 (plainElem Try.prog 3) w.heap.size n D ∧ w'.ownsMap Try.prog 5 (plainElem Try.prog 3) mb n D ∧ Below w.heap.size w w') :=
    Go.Proofs.AnyW.maps_Clone_owns Try.cloneMk 5 (plainElem Try.prog 3) mb n D w hown
  have hc := h.cell
  clear hD hown
  go_enter Try.func31, Try.ntmps31
  go_wp2_with (first
    | (go_at_call 49; (with_reducible refine HC.out.mono ?_); rintro e w1 ⟨rfl, ho1, ho2, hb1⟩; have HO1 := Lib.hid ho1; have HB1 := Lib.hid hb1; clear ho1 ho2 hb1)
    | go_in)
  go_ret
  have hlt := HO1.out.lt
  have hb2 : Below w.heap.size w (w1.alloc (.cells #[.map (some w.heap.size)] 63)) := below_alloc HB1.out _
  refine ⟨w1.heap.size, w.heap.size, rfl, ⟨below_then h.below hB hb2, by omega, hB, by omega, ?_, D, ?_, HD.out⟩, h.later hb2, hb2, Nat.le_refl _, by omega⟩
  · exact (blk_cell (heap_alloc_new w1 _) 0).trans rfl
  · exact HO1.out.kept (World.grownBy_alloc w1 _ none) (by simp)

/-- another map turns: this one stays -/
theorem Held.other {B : Nat} {w0 w w' : World} {p mb n mb2 : Nat} {f : Int → Int} (h : Held B w0 w p mb n f) (hg : w.grownBy w' (some mb2)) (hB : B ≤ mb2) (h1 : p ≠ mb2) (h2 : mb ≠ mb2) : Held B w0 w' p mb n f := by
  have hsz : B ≤ w.heap.size := Nat.le_trans h.hp (Nat.le_of_lt h.plt)
  obtain ⟨D, hown, hD⟩ := h.map
  exact ⟨h.below.grown hg hsz (fun k hk => by cases hk; exact hB), h.hp, h.hm, h.ne, by rw [World.cell?_of_block (w := w) (hg.block _ h.plt (by simpa using h1))]; exact h.cell, D, hown.kept hg (by simpa using h2), hD⟩

theorem set_held2 {B : Nat} {w0 w : World} {p mb n : Nat} {f : Int → Int} (h : Held B w0 w p mb n f) (x v : Int) (h0 : 0 ≤ x) (h1 : x ≤ 255) (hn : n < maxLen) :
    Calls Try.prog 16 #[.pointer (some ⟨p, 0, none⟩), .int .u8 x, .int .i64 v] w fun e w' => e = .returned (.int .u16 (setC x v)) ∧ Held B w0 w' p mb (n + 1) (setF f x v) ∧ w.grownBy w' (some mb) := by
  refine (set_any p mb n f x v w h.cell h.map h0 h1 hn).mono ?_
  intro e w' hp
  unfold SetPost at hp
  unfold setF setC
  split at hp
  · rename_i c
    obtain ⟨rfl, rfl⟩ := hp
    rw [if_pos c]
    exact ⟨rfl, h.grown (grown_refl _ _) ((h.map.mono (Nat.le_succ n)).congr (fun y _ _ => by simp)), grown_refl _ _⟩
  · rename_i c
    rw [if_neg c]
    split at hp
    · rename_i d
      obtain ⟨rfl, rfl⟩ := hp
      rw [if_pos d]
      exact ⟨rfl, h.grown (grown_refl _ _) ((h.map.mono (Nat.le_succ n)).congr (fun y _ _ => by simp)), grown_refl _ _⟩
    · rename_i d
      rw [if_neg d]
      obtain ⟨rfl, hm, ht⟩ := hp
      exact ⟨rfl, h.grown ht.grown (hm.congr (fun y _ _ => by simp)), ht.grown⟩

theorem letters_set {f : Int → Int} (h : Letters f) (x v : Int) : Letters (setF f x v) := by
  intro y hy
  unfold setF at hy
  split at hy
  · rename_i c
    obtain ⟨c1, rfl⟩ := c
    unfold setC at c1
    split at c1
    · cases c1
    · omega
  · exact h y hy
theorem letters_spl {f : Int → Int} (h : Letters f) (a b c : Int) : Letters (splF f a b c) := by
  intro x hx
  apply h x
  intro e
  apply hx
  unfold splF
  rw [e]
  simp

/-! ### Same -/
theorem cellsM {w : World} {g n : Nat} {xs : List MK} (h : kdM.C w (some ⟨g, 0, none⟩) n xs) (j : Nat) (hj : j < xs.length) : w.cell? ⟨g, j * 2, none⟩ = some (.int .u8 xs[j].1) ∧ w.cell? ⟨g, j * 2 + 1, none⟩ = some (.int .i64 xs[j].2) := by
  obtain ⟨ad, e, hc⟩ := h.2.2 (by have := h.1; omega)
  injection e with e
  subst e
  obtain ⟨c, _, hK, hcell⟩ := hc j _ (List.getElem?_eq_getElem hj)
  have hc' := kdM_K hK
  subst hc'
  have h0 := hcell 0 (.int .u8 xs[j].1) rfl
  have h1 := hcell 1 (.int .i64 xs[j].2) rfl
  rw [add_plain] at h0 h1
  exact ⟨h0, h1⟩

attribute [local go_sem high] eqA51
set_option maxRecDepth 100000 in
theorem same_any {L : List MK} (hL : L.length ≤ 26) {A1 A2 : Option Addr} {c1 c2 : Nat} {w : World} (h1 : kdM.C w A1 L.length L) (h2 : kdM.C w A2 L.length L) (g1 : 0 < L.length → ∃ g, A1 = some ⟨g, 0, none⟩) (g2 : 0 < L.length → ∃ g, A2 = some ⟨g, 0, none⟩) :
    Calls Try.prog 33 #[.slice A1 L.length c1, .slice A2 L.length c2] w fun e w' => e = .returned (.bool true) ∧ Below w.heap.size w w' := by
  have HC1 := Lib.hid h1
  have HC2 := Lib.hid h2
  have HG1 := Lib.hid g1
  have HG2 := Lib.hid g2
  clear h1 h2 g1 g2
  go_enter Try.func33, Try.ntmps33
  go_wp2
  go_loopw [5] (fun v5 wr => ∃ j : Nat, v5 = .int .i64 j ∧ j ≤ L.length ∧ Below w.heap.size w wr) (fun v5 _ => L.length - (intOf v5).toNat)
  case atStart => exact ⟨0, rfl, by omega, Below.refl _ _⟩
  case round =>
    obtain ⟨j, rfl, hj, hbr⟩ := hrel
    have HBR := Lib.hid hbr
    clear hbr
    by_cases hjl : j < L.length
    · obtain ⟨g1, rfl⟩ := HG1.out (by omega)
      obtain ⟨g2, rfl⟩ := HG2.out (by omega)
      obtain ⟨e1, e2⟩ := cellsM (Kd.C_below HC1.out HBR.out) j hjl
      obtain ⟨e3, e4⟩ := cellsM (Kd.C_below HC2.out HBR.out) j hjl
      obtain ⟨y0, hy0⟩ : ∃ y, L[j].1 = y := ⟨_, rfl⟩
      obtain ⟨y1, hy1⟩ : ∃ y, L[j].2 = y := ⟨_, rfl⟩
      rw [hy0] at e1 e3
      rw [hy1] at e2 e4
      clear hy0 hy1
      go_wp2
      go_region
      all_goals
        go_wp2
        go_roundw
        case rel => exact ⟨j + 1, by first | rfl | simp, by omega, below_drew HBR.out⟩
        case measure => simp [intOf]; omega
    · obtain rfl : j = L.length := by omega
      go_wp2
      go_ret
      exact ⟨rfl, HBR.out⟩

end Go.Proofs.Ytccalibapiiifaa
