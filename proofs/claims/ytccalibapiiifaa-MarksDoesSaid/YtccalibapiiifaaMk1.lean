/- The walks of marks.New, Get and Set. -/
import Derived.Test.YtccalibapiiifaaProg
import Derived.Maps.OwnSet
import Derived.Maps.RangeWalk
import Derived.WalkKit
import Derived.WalkSpells
import Derived.WalkLawsBesides
namespace Go.Proofs.Ytccalibapiiifaa
open Go.RowKit Go.Maps

theorem law5 : Keyed Try.prog 5 := int_keyed Try.underlying5
theorem zero3 (w : World) : (zeroValue 3).run Try.prog w = .ok (.int .i64 0) w := by kernel_rfl

/-- the map's reading, with its keys -/
def Reads (D : DataW Unit) (f : Int → Int) : Prop :=
  ∀ x, 0 ≤ x → x ≤ 255 → D.atKey (.int .u8 x) (.lit (.int .i64 0)) = .lit (.int .i64 (f x)) ∧ Maps.has D (.int .u8 x) = decide (f x ≠ 0)

/-- a map in block b reads as the lines f, one for each byte (0: none) -/
def MapOf (w : World) (b n : Nat) (f : Int → Int) : Prop :=
  ∃ D : DataW Unit, w.ownsMap Try.prog 5 (plainElem Try.prog 3) b n D ∧ Reads D f

theorem bounds_u8 {x : Int} (h : (Lit.int .u8 x).wf = true) : 0 ≤ x ∧ x ≤ 255 := by
  simpa [Lit.wf, IntKind.min, IntKind.max, IntKind.signed, IntKind.bits] using h

theorem u8wf {x : Int} (h0 : 0 ≤ x) (h1 : x ≤ 255) : (Lit.int .u8 x).wf = true := by
  exact WalkArith.wf_u8 ⟨h0, h1⟩

theorem new_any (w : World) :
    Calls Try.prog 13 #[] w fun e w' => e = .returned (.pointer (some ⟨w.heap.size + 1, 0, none⟩)) ∧
      w' = (w.alloc (.map #[] 0)).alloc (.cells #[.map (some w.heap.size)] 63) := by
  have hmm := @run_makeMap Try.prog
  go_enter Try.func13, Try.ntmps13
  go_wp2
  go_ret
  exact ⟨rfl, rfl⟩

theorem hid_at {D : DataW Unit} {k : Lit} {z : DataW Unit} {a c : Int} (hf : Hid (D.atKey k z = .lit (.int .i64 a))) (hat : D.atKey k z = .lit (.int .i64 c)) : Hid (c = a) := by
  have := hf.out
  rw [hat] at this
  show c = a
  simpa using this

/-- what Get answers -/
def GetPost (f : Int → Int) (x : Int) (w : World) (e : Ending) (w' : World) : Prop :=
  e = .returned (.tuple #[.int .i64 (f x), .int .u16 (if f x = 0 then 100 else 0)]) ∧ w = w'

set_option maxRecDepth 100000 in
theorem get_any (b mb n : Nat) (f : Int → Int) (x : Int) (w : World) (c0 : w.cell? ⟨b, 0, none⟩ = some (.map (some mb)))
    (hm : MapOf w mb n f) (h0 : 0 ≤ x) (h1 : x ≤ 255) :
    Calls Try.prog 15 #[.pointer (some ⟨b, 0, none⟩), .int .u8 x] w (GetPost f x w) := by
  obtain ⟨D, hown, hD⟩ := hm
  have hkey := keyOf_int_mk Try.underlying5 (u8wf h0 h1)
  have hf : Hid (D.atKey (.int .u8 x) (.lit (.int .i64 0)) = .lit (.int .i64 (f x))) := (hD x h0 h1).1
  clear hD
  go_enter Try.func15, Try.ntmps15
  go_wp2_with (first
    | (at_lookup; refine wpList_lookup_own_int _ rfl _ _ 61 rfl 5 3 .i64 law5 Try.underlying61 Try.underlying3 (zero3 _) mb n D rfl hown _ _ rfl hkey ?_; intro c hat hwc; have hc := hid_at hf hat; clear hat)
    | go_in)
  · have h : (c == 0) = true := by assumption
    have hc := hc.out
    go_ret2
    refine ⟨?_, rfl⟩
    have : f x = 0 := by simpa [hc] using h
    simp [this]
  · have h : (c == 0) = false := by assumption
    have hc := hc.out
    go_ret2
    refine ⟨?_, rfl⟩
    have : f x ≠ 0 := by simpa [hc] using h
    simp [this, hc]

/-- what Set answers -/
def SetPost (mb n : Nat) (f : Int → Int) (x v : Int) (w : World) (e : Ending) (w' : World) : Prop :=
  if x < 97 ∨ 122 < x then e = .returned (.int .u16 100) ∧ w = w' else if v < 1 ∨ 2147483647 < v then e = .returned (.int .u16 1) ∧ w = w'
  else e = .returned (.int .u16 0) ∧ MapOf w' mb (n + 1) (fun y => if y = x then v else f y) ∧ w.mapTurned w' mb

set_option maxRecDepth 100000 in
theorem set_any (b mb n : Nat) (f : Int → Int) (x v : Int) (w : World) (c0 : w.cell? ⟨b, 0, none⟩ = some (.map (some mb)))
    (hm : MapOf w mb n f) (h0 : 0 ≤ x) (h1 : x ≤ 255) (hn : n < maxLen) :
    Calls Try.prog 16 #[.pointer (some ⟨b, 0, none⟩), .int .u8 x, .int .i64 v] w (SetPost mb n f x v w) := by
  obtain ⟨D, hown, hD⟩ := hm
  have hkey := keyOf_int_mk Try.underlying5 (u8wf h0 h1)
  have hf : Hid (Reads D f) := hD
  clear hD
  by_cases hx : x < 97 ∨ 122 < x
  · rcases hx with hx | hx
    all_goals
      go_enter Try.func16, Try.ntmps16
      go_wp2
      go_ret
      unfold SetPost
      rw [if_pos (by omega)]
      exact ⟨rfl, rfl⟩
  · by_cases hv : v < 1 ∨ 2147483647 < v
    · rcases hv with hv | hv
      all_goals
        go_enter Try.func16, Try.ntmps16
        go_wp2
        go_ret
        unfold SetPost
        rw [if_neg (by omega), if_pos (by omega)]
        exact ⟨rfl, rfl⟩
    · have hwv : (Lit.int .i64 v).wf = true := WalkArith.wf_i64 (by omega)
      go_enter Try.func16, Try.ntmps16
      go_wp2_with (first
        | (at_mapUpdate; refine wpList_mapUpdate_in _ rfl _ _ _ 61 rfl 5 3 law5 Try.underlying61 _ mb n D rfl hown hn _ _ _ rfl rfl hkey _ [] (plainElem_int Try.underlying3 hwv) ?_; intro w1 hown1 hturn1)
        | go_in)
      go_ret
      unfold SetPost
      rw [if_neg (by omega), if_neg (by omega)]
      refine ⟨rfl, ⟨_, hown1, ?_⟩, hturn1⟩
      intro y y0 y1
      by_cases hy : y = x
      · subst hy
        rw [atKey_put_same hown.isMap (law5.key hkey), has_put_same hown.isMap (law5.key hkey)]
        have : v ≠ 0 := by omega
        simp [this]
      · rw [atKey_put_other (by simpa using hy), has_put_other (by simpa using hy)]
        simp only [hy, if_false]
        exact hf.out y y0 y1

end Go.Proofs.Ytccalibapiiifaa
