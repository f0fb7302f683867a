/- The law MarksTurn, walked: lines that are moved, and moved back, leave each mark where it was. -/
import Derived.Test.YtccalibapiiifaaMkAll2
import Derived.Test.YtccalibapiiifaaMk5
import Derived.ChangeSlices
import Derived.Test.YtccalibapiiifaaWEqStruct
import Derived.WideShapes
namespace Go.Proofs.Ytccalibapiiifaa
open Go.RowKit Go.Maps Go.Proofs.YtccalibapiiifaaW.PrintWords Go.Proofs.YtccalibapiiifaaW.PrintLast Go.Proofs.YtccalibapiiifaaW.PrintMore

/-! ### plain: moved and moved back -/
def mvT (a q b p : Int) : Int :=
  if a - 1 ≤ b ∧ b ≤ q then p else if p = 0 then 0 else if a ≤ p ∧ p ≤ q ∧ b < a then p - a + b + 1 else if a ≤ p ∧ p ≤ q then p - q + b
  else if b < p ∧ p < a then p + (q - a + 1) else if q < p ∧ p ≤ b then p - (q - a + 1) else p
theorem movF_mvT {f : Int → Int} {a q b p x : Int} (hf : f x = p) (h0 : 0 ≤ p) (ha : 1 ≤ a) (haq : a ≤ q) (hb : 0 ≤ b) (hp : p ≤ 5000) (hq2 : q ≤ 5000) (hb2 : b ≤ 5000) : movF f a q b x = mvT a q b p := by
  unfold movF movOff movG mvT
  rw [hf]
  unfold wrap64
  repeat' split
  all_goals omega
theorem mvT_bound {a q b p : Int} (h0 : 0 ≤ p) (ha : 1 ≤ a) (haq : a ≤ q) (hb : 0 ≤ b) (hp : p ≤ 1000) (hq2 : q ≤ 1000) (hb2 : b ≤ 1000) : 0 ≤ mvT a q b p ∧ mvT a q b p ≤ 3000 := by
  unfold mvT
  repeat' split
  all_goals omega
theorem mvT_back1 {a z d p : Int} (h0 : 0 ≤ p) (hd : 0 ≤ d) (hdz : d < a - 1) (haz : a ≤ z) : mvT (d + 1) (d + (z - a + 1)) z (mvT a z d p) = p := by
  unfold mvT
  repeat' split
  all_goals omega
theorem mvT_back2 {a z d p : Int} (h0 : 0 ≤ p) (ha : 1 ≤ a) (hdz : z < d) (haz : a ≤ z) : mvT (d - (z - a + 1) + 1) d (a - 1) (mvT a z d p) = p := by
  unfold mvT
  repeat' split
  all_goals omega

/-- marks as they are laid here: letters alone, lines up to 256 -/
def Small (f : Int → Int) : Prop := Letters f ∧ ∀ x, 0 ≤ f x ∧ f x ≤ 256
theorem small_zero : Small (fun _ => 0) := ⟨fun _ h => absurd rfl h, fun _ => by show (0 : Int) ≤ 0 ∧ (0 : Int) ≤ 256; omega⟩
theorem small_set {f : Int → Int} (h : Small f) {x v : Int} (hx : 97 ≤ x ∧ x ≤ 122) (hv : 0 ≤ v ∧ v ≤ 256) : Small (setF f x v) := by
  constructor
  · intro y hy
    unfold setF at hy
    split at hy
    · rename_i c
      omega
    · exact h.1 y hy
  · intro y
    unfold setF
    split
    · exact hv
    · exact h.2 y
theorem letters_mov {f : Int → Int} (h : Letters f) (a q b : Int) : Letters (movF f a q b) := by
  intro x hx
  apply h x
  intro e
  apply hx
  unfold movF
  rw [e]
  simp

theorem back1 {f : Int → Int} (h : Small f) {a z d : Int} (hd : 0 ≤ d) (hdz : d < a - 1) (haz : a ≤ z) (hz : z ≤ 600) : movF (movF f a z d) (d + 1) (d + (z - a + 1)) z = f := by
  funext x
  have hb := h.2 x
  have e1 : movF f a z d x = mvT a z d (f x) := movF_mvT rfl hb.1 (by omega) haz hd (by omega) (by omega) (by omega)
  have hm := mvT_bound (a := a) (q := z) (b := d) hb.1 (by omega) haz hd (by omega) (by omega) (by omega)
  rw [movF_mvT e1 hm.1 (by omega) (by omega) (by omega) (by omega) (by omega) (by omega)]
  exact mvT_back1 hb.1 hd hdz haz
theorem back2 {f : Int → Int} (h : Small f) {a z d : Int} (ha : 1 ≤ a) (hdz : z < d) (haz : a ≤ z) (hz : d ≤ 600) : movF (movF f a z d) (d - (z - a + 1) + 1) d (a - 1) = f := by
  funext x
  have hb := h.2 x
  have e1 : movF f a z d x = mvT a z d (f x) := movF_mvT rfl hb.1 ha haz (by omega) (by omega) (by omega) (by omega)
  have hm := mvT_bound (a := a) (q := z) (b := d) hb.1 ha haz (by omega) (by omega) (by omega) (by omega)
  rw [movF_mvT e1 hm.1 (by omega) (by omega) (by omega) (by omega) (by omega) (by omega)]
  exact mvT_back2 hb.1 ha hdz haz

/-! ### the argument -/
def BytesAt (w : World) (A : Option Addr) (n : Nat) : Prop := ∃ zs : List Int, (Kd.int .u8).C w A n zs ∧ ∀ z ∈ zs, 0 ≤ z ∧ z ≤ 255
set_option maxRecDepth 100000 in
theorem bytes_open {H : Type} {enc : TypeId × Value → H} {W : World} {b : Nat} {v : Value} {d : DataW H} {p : List MemPlace} (_hv : Value.okWide Try.prog W .any b 40 v)
    (h : DataW.Trod enc Try.prog W 0 (fun _ => true) true 40 v d p) : ∃ A len cap, v = .slice A len cap ∧ len ≤ cap ∧ BytesAt W A len := by
  obtain ⟨a, len, cap, rfl⟩ := Go.WideShapes.okWide_slice Try.underlying40 _hv
  obtain ⟨fuel, h⟩ := h
  rcases Go.ChangeShapes.open_ints Try.underlying40 Try.underlying5 (by kernel_rfl) h with ⟨hc, _⟩ | ⟨a, len', cap', zs, hc, _, hl, hm, hzl, _, hx, hwf⟩
  · simp [Value.cells] at hc
    obtain ⟨rfl, rfl, rfl⟩ := hc
    exact ⟨none, 0, 0, rfl, Nat.le_refl _, [], ⟨rfl, by simp, fun h => absurd h (by simp)⟩, by simp⟩
  · simp [Value.cells] at hc
    obtain ⟨rfl, rfl, rfl⟩ := hc
    have hzl' : zs.length = cap := by simpa using hzl
    refine ⟨some a, len, cap, rfl, hl, zs.take len, Kd.C_of_reads (d := 0) (h1 := fun _ => rfl) ⟨by rw [List.length_take]; omega, by simp [maxLen] at hm; omega, fun _ => ⟨a, rfl, fun j hj => ?_⟩⟩, fun z hz => bounds_u8 (hwf z (List.mem_of_mem_take hz))⟩
    rw [hx j (by omega)]
    simp [List.getD_eq_getElem?_getD, List.getElem?_take_of_lt hj]

/-- a row that reads stays, where its block does -/
theorem keepC {w w' : World} {A : Option Addr} {n : Nat} {xs : List MK} (h : kdM.C w A n xs) (hk : 0 < n → ∃ g, A = some ⟨g, 0, none⟩ ∧ w'.heap[g]? = w.heap[g]?) : kdM.C w' A n xs := by
  refine ⟨h.1, h.2.1, fun hn => ?_⟩
  obtain ⟨ad, e, hc⟩ := h.2.2 hn
  obtain ⟨g, e2, hb⟩ := hk hn
  rw [e] at e2
  injection e2 with e2
  subst e2
  refine ⟨_, e, fun j p hj => ?_⟩
  obtain ⟨c, h1, h2, h3⟩ := hc j p hj
  refine ⟨c, h1, kdM_K h2 ▸ kdM_mk w' p, fun i u hu => ?_⟩
  rw [add_plain, World.cell?_of_block (w := w) hb, ← add_plain]
  exact h3 i u hu

theorem eqA51 (d : Nat) (w : World) (x0 y0 x1 y1 : Int) :
    (Op.equalIn (d + 2) 51 (.agg #[.int .u8 x0, .int .i64 x1]) (.agg #[.int .u8 y0, .int .i64 y1])).run Try.prog w = .ok (x0 == y0 && x1 == y1) w := by
  refine eqA_of Try.underlying51 (by kernel_rfl) ?_
  refine eqf_cons (by rfl) (by go_simp; rfl) (by go_simp; rfl) (by go_simp) ?_
  exact eqf_last (by rfl) (by go_simp; rfl) (by go_simp; rfl) (by go_simp)

end Go.Proofs.Ytccalibapiiifaa
