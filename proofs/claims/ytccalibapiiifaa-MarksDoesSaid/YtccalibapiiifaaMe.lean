/- the document's marks: Splice, Move and All, walked. -/
import Derived.Test.YtccalibapiiifaaMd
namespace Go.Proofs.Ytccalibapiiifaa
open Go.RowKit Go.Maps Go.Proofs.YtccalibapiiifaaW.PrintWords Go.Proofs.YtccalibapiiifaaW.PrintLast Go.Proofs.YtccalibapiiifaaW.PrintMore

theorem step_same {w : World} {r i : Nat} {f g : Int → Int} (h : RefAt w r (fun y => if y < 97 + (i : Int) then g y else f y)) (e : g (97 + (i : Int)) = f (97 + (i : Int))) : RefAt w r (fun y => if y < 97 + ((i + 1 : Nat) : Int) then g y else f y) := by
  refine h.congr fun y _ _ => ?_
  by_cases h1 : y < 97 + (i : Int)
  · rw [if_pos h1, if_pos (by omega)]
  · rw [if_neg h1]
    by_cases h2 : y = 97 + (i : Int)
    · rw [if_pos (by omega), h2, e]
    · rw [if_neg (by omega)]
theorem step_put {w : World} {r i : Nat} {f g : Int → Int} {v : Int} (h : RefAt w r (fun y => if y < 97 + (i : Int) then g y else f y)) (hi : i < 26) (e : g (97 + (i : Int)) = v) : RefAt (w.setCell ⟨r, i, none⟩ (.int .i64 v)) r (fun y => if y < 97 + ((i + 1 : Nat) : Int) then g y else f y) := by
  refine (h.put hi v).congr fun y _ _ => ?_
  by_cases h2 : y = 97 + (i : Int)
  · rw [if_pos h2, if_pos (by omega), h2, e]
  · rw [if_neg h2]
    by_cases h1 : y < 97 + (i : Int)
    · rw [if_pos h1, if_pos (by omega)]
    · rw [if_neg h1, if_neg (by omega)]
theorem step_end {w : World} {r : Nat} {f g : Int → Int} (h : RefAt w r (fun y => if y < 97 + ((26 : Nat) : Int) then g y else f y)) : RefAt w r g :=
  h.congr fun y _ h1 => by rw [if_pos (by omega)]
theorem step_start {w : World} {r : Nat} {f g : Int → Int} (h : RefAt w r f) : RefAt w r (fun y => if y < 97 + ((0 : Nat) : Int) then g y else f y) :=
  h.congr fun y h0 _ => by rw [if_neg (by omega)]
theorem step_cell {w : World} {r i : Nat} {f g : Int → Int} (h : RefAt w r (fun y => if y < 97 + (i : Int) then g y else f y)) (hi : i < 26) : w.cell? ⟨r, i, none⟩ = some (.int .i64 (f (97 + (i : Int)))) := by
  rw [h.cell hi, if_neg (by omega)]

theorem spl_val {f : Int → Int} {a b c p x : Int} (hf : f x = p) (h0 : 0 ≤ p) (hp : p ≤ 4611686018427387904) (ha : 1 ≤ a ∧ a ≤ 2147483647) (hb : 0 ≤ b ∧ b ≤ 2147483647) (hc : 0 ≤ c ∧ c ≤ 2147483647) :
    splF f a b c x = if p < a then p else if b ≤ p - a then p - b + c else if c ≤ p - a then 0 else p := by
  unfold splF splG
  rw [if_neg (by omega), hf]
  unfold wrap64
  repeat' split
  all_goals omega
theorem mov_val {f : Int → Int} {a z d p x : Int} (hf : f x = p) (h0 : 0 ≤ p) (hp : p ≤ 4611686018427387904) (ha : 1 ≤ a) (haz : a ≤ z) (hz : z ≤ 2147483647) (hd : 0 ≤ d ∧ d ≤ 2147483647) (hout : ¬ (a - 1 ≤ d ∧ d ≤ z)) :
    movF f a z d x = if a ≤ p ∧ p ≤ z then (if d < a then d + 1 + p - a else d - z + p) else if d < p ∧ p < a then p + (z - a + 1) else if z < p ∧ p ≤ d then p - (z - a + 1) else p := by
  unfold movF movOff movG
  rw [hf]
  unfold wrap64
  repeat' split
  all_goals omega
def Wide (f : Int → Int) : Prop := ∀ x, 0 ≤ f x ∧ f x ≤ 4611686018427387904

set_option maxRecDepth 100000 in
set_option maxHeartbeats 1000000 in
theorem refSplice {w : World} {r : Nat} {f : Int → Int} (h : RefAt w r f) (hw : Wide f) (a b c : Int) :
    Calls Try.prog 28 #[.pointer (some ⟨r, 0, none⟩), .int .i64 a, .int .i64 b, .int .i64 c] w fun e w' => e = .returned (.tuple #[]) ∧ RefAt w' r (splF f a b c) ∧ w.grownBy w' (some r) := by
  have hoff : (a < 1 ∨ b < 0 ∨ c < 0 ∨ 2147483647 < a ∨ 2147483647 < b ∨ 2147483647 < c) → RefAt w r (splF f a b c) := fun e => h.congr (fun y _ _ => by unfold splF; rw [if_pos e])
  have HO := Lib.hid hoff
  have HW := Lib.hid hw
  clear hoff hw
  by_cases o0 : a < 1
  · go_enter Try.func28, Try.ntmps28
    go_wp2
    refine bodyPost_ret (results_none rfl _ _ _) rfl ?_
    exact ⟨rfl, HO.out (by omega), grown_refl _ _⟩
  by_cases o1 : 2147483647 < a
  · go_enter Try.func28, Try.ntmps28
    go_wp2
    refine bodyPost_ret (results_none rfl _ _ _) rfl ?_
    exact ⟨rfl, HO.out (by omega), grown_refl _ _⟩
  by_cases o2 : b < 0
  · go_enter Try.func28, Try.ntmps28
    go_wp2
    refine bodyPost_ret (results_none rfl _ _ _) rfl ?_
    exact ⟨rfl, HO.out (by omega), grown_refl _ _⟩
  by_cases o3 : 2147483647 < b
  · go_enter Try.func28, Try.ntmps28
    go_wp2
    refine bodyPost_ret (results_none rfl _ _ _) rfl ?_
    exact ⟨rfl, HO.out (by omega), grown_refl _ _⟩
  by_cases o4 : c < 0
  · go_enter Try.func28, Try.ntmps28
    go_wp2
    refine bodyPost_ret (results_none rfl _ _ _) rfl ?_
    exact ⟨rfl, HO.out (by omega), grown_refl _ _⟩
  by_cases o5 : 2147483647 < c
  · go_enter Try.func28, Try.ntmps28
    go_wp2
    refine bodyPost_ret (results_none rfl _ _ _) rfl ?_
    exact ⟨rfl, HO.out (by omega), grown_refl _ _⟩
  clear HO
  have HR := Lib.hid (step_start (g := splF f a b c) h)
  clear h
  go_enter Try.func28, Try.ntmps28
  go_wp2
  go_loopw [8] (fun v8 wr => ∃ i : Nat, v8 = .int .i64 i ∧ i ≤ 26 ∧ RefAt wr r (fun y => if y < 97 + (i : Int) then splF f a b c y else f y) ∧ w.grownBy wr (some r)) (fun v8 _ => 26 - (intOf v8).toNat)
  case atStart => exact ⟨0, rfl, by omega, HR.out, grown_refl _ _⟩
  case round =>
    clear HR
    obtain ⟨i, rfl, hi, hr, hg⟩ := hrel
    have HR := Lib.hid hr
    have HG := Lib.hid hg
    clear hr hg
    by_cases hil : i < 26
    · have hc0 := step_cell HR.out hil
      have hz0 := HR.out.frozen i
      obtain ⟨p, hp⟩ : ∃ p, f (97 + (i : Int)) = p := ⟨_, rfl⟩
      have hpb := HW.out (97 + (i : Int))
      have HV := Lib.hid (spl_val (a := a) (b := b) (c := c) hp (by omega) (by omega) ⟨by omega, by omega⟩ ⟨by omega, by omega⟩ ⟨by omega, by omega⟩)
      rw [hp] at hc0 hpb
      have HP := Lib.hid hp
      clear hp
      have hil' : (i : Int) < 26 := by omega
      by_cases d1 : p < a
      · go_wp2
        go_roundw
        case rel => exact ⟨i + 1, by first | rfl | simp, by omega, step_same HR.out (by rw [HV.out, HP.out, if_pos d1]), HG.out⟩
        case measure => simp [intOf]; omega
      · by_cases d2 : b ≤ p - a
        · go_wp2
          go_roundw
          case rel => exact ⟨i + 1, by first | rfl | simp, by omega, step_put HR.out hil (by rw [HV.out, if_neg d1, if_pos d2]), HG.out.andThen (set_grown _ _ _ _) (fun j hj => by cases hj; exact Or.inr rfl)⟩
          case measure => simp [intOf]; omega
        · by_cases d3 : c ≤ p - a
          · go_wp2
            go_roundw
            case rel => exact ⟨i + 1, by first | rfl | simp, by omega, step_put HR.out hil (by rw [HV.out, if_neg d1, if_neg d2, if_pos d3]), HG.out.andThen (set_grown _ _ _ _) (fun j hj => by cases hj; exact Or.inr rfl)⟩
            case measure => simp [intOf]; omega
          · go_wp2
            go_roundw
            case rel => exact ⟨i + 1, by first | rfl | simp, by omega, step_same HR.out (by rw [HV.out, HP.out, if_neg d1, if_neg d2, if_neg d3]), HG.out⟩
            case measure => simp [intOf]; omega
    · obtain rfl : i = 26 := by omega
      go_wp2
      go_end0
      exact ⟨rfl, step_end HR.out, HG.out⟩

set_option maxRecDepth 100000 in
set_option maxHeartbeats 1000000 in
theorem refMove {w : World} {r : Nat} {f : Int → Int} (h : RefAt w r f) (hw : Wide f) (a z d : Int) :
    Calls Try.prog 29 #[.pointer (some ⟨r, 0, none⟩), .int .i64 a, .int .i64 z, .int .i64 d] w fun e w' => e = .returned (.tuple #[]) ∧ RefAt w' r (movF f a z d) ∧ w.grownBy w' (some r) := by
  have hoff : movOff a z d → RefAt w r (movF f a z d) := fun e => h.congr (fun y _ _ => by unfold movF; rw [if_pos e])
  have HO := Lib.hid hoff
  have HW := Lib.hid hw
  clear hoff hw
  by_cases o0 : a < 1
  · go_enter Try.func29, Try.ntmps29
    go_wp2
    all_goals
      refine bodyPost_ret (results_none rfl _ _ _) rfl ?_
      exact ⟨rfl, HO.out (by unfold movOff; omega), grown_refl _ _⟩
  by_cases o1 : z < a
  · go_enter Try.func29, Try.ntmps29
    go_wp2
    all_goals
      refine bodyPost_ret (results_none rfl _ _ _) rfl ?_
      exact ⟨rfl, HO.out (by unfold movOff; omega), grown_refl _ _⟩
  by_cases o2 : 2147483647 < z
  · go_enter Try.func29, Try.ntmps29
    go_wp2
    all_goals
      refine bodyPost_ret (results_none rfl _ _ _) rfl ?_
      exact ⟨rfl, HO.out (by unfold movOff; omega), grown_refl _ _⟩
  by_cases o3 : d < 0
  · go_enter Try.func29, Try.ntmps29
    go_wp2
    all_goals
      refine bodyPost_ret (results_none rfl _ _ _) rfl ?_
      exact ⟨rfl, HO.out (by unfold movOff; omega), grown_refl _ _⟩
  by_cases o4 : 2147483647 < d
  · go_enter Try.func29, Try.ntmps29
    go_wp2
    all_goals
      refine bodyPost_ret (results_none rfl _ _ _) rfl ?_
      exact ⟨rfl, HO.out (by unfold movOff; omega), grown_refl _ _⟩
  by_cases o5 : a - 1 ≤ d ∧ d ≤ z
  · have o6 := o5.1
    have o7 := o5.2
    go_enter Try.func29, Try.ntmps29
    go_wp2
    refine bodyPost_ret (results_none rfl _ _ _) rfl ?_
    exact ⟨rfl, HO.out (by unfold movOff; omega), grown_refl _ _⟩
  clear HO
  have HR := Lib.hid (step_start (g := movF f a z d) h)
  clear h
  go_enter Try.func29, Try.ntmps29
  have o6 : d < a - 1 ∨ z < d := by omega
  rcases o6 with o7 | o7
  all_goals
    go_wp2
    go_loopw [9] (fun v9 wr => ∃ i : Nat, v9 = .int .i64 i ∧ i ≤ 26 ∧ RefAt wr r (fun y => if y < 97 + (i : Int) then movF f a z d y else f y) ∧ w.grownBy wr (some r)) (fun v9 _ => 26 - (intOf v9).toNat)
    case atStart => exact ⟨0, rfl, by omega, HR.out, grown_refl _ _⟩
    case round =>
      clear HR
      obtain ⟨i, rfl, hi, hr, hg⟩ := hrel
      have HR := Lib.hid hr
      have HG := Lib.hid hg
      clear hr hg
      by_cases hil : i < 26
      · have hc0 := step_cell HR.out hil
        have hz0 := HR.out.frozen i
        obtain ⟨p, hp⟩ : ∃ p, f (97 + (i : Int)) = p := ⟨_, rfl⟩
        have hpb := HW.out (97 + (i : Int))
        have HV := Lib.hid (mov_val (a := a) (z := z) (d := d) hp (by omega) (by omega) (by omega) (by omega) (by omega) ⟨by omega, by omega⟩ o5)
        rw [hp] at hc0 hpb
        have HP := Lib.hid hp
        clear hp
        have hil' : (i : Int) < 26 := by omega
        by_cases d1 : a ≤ p ∧ p ≤ z
        · have d1a := d1.1
          have d1b := d1.2
          by_cases d2 : d < a
          · first
              | (exfalso; omega)
              | (go_wp2
                 all_goals first | (exfalso; omega) | skip
                 all_goals
                   go_roundw
                   case rel => exact ⟨i + 1, by first | rfl | simp, by omega, step_put HR.out hil (by rw [HV.out, if_pos d1, if_pos d2]), HG.out.andThen (set_grown _ _ _ _) (fun j hj => by cases hj; exact Or.inr rfl)⟩
                   case measure => simp [intOf]; omega)
          · first
              | (exfalso; omega)
              | (go_wp2
                 all_goals first | (exfalso; omega) | skip
                 all_goals
                   go_roundw
                   case rel => exact ⟨i + 1, by first | rfl | simp, by omega, step_put HR.out hil (by rw [HV.out, if_pos d1, if_neg d2]), HG.out.andThen (set_grown _ _ _ _) (fun j hj => by cases hj; exact Or.inr rfl)⟩
                   case measure => simp [intOf]; omega)
        · by_cases d3 : d < p ∧ p < a
          · have d3a := d3.1
            have d3b := d3.2
            first
              | (exfalso; omega)
              | (go_wp2
                 all_goals first | (exfalso; omega) | skip
                 all_goals
                   go_roundw
                   case rel => exact ⟨i + 1, by first | rfl | simp, by omega, step_put HR.out hil (by rw [HV.out, if_neg d1, if_pos d3]), HG.out.andThen (set_grown _ _ _ _) (fun j hj => by cases hj; exact Or.inr rfl)⟩
                   case measure => simp [intOf]; omega)
          · by_cases d4 : z < p ∧ p ≤ d
            · have d4a := d4.1
              have d4b := d4.2
              first
                | (exfalso; omega)
                | (go_wp2
                   all_goals first | (exfalso; omega) | skip
                   all_goals
                     go_roundw
                     case rel => exact ⟨i + 1, by first | rfl | simp, by omega, step_put HR.out hil (by rw [HV.out, if_neg d1, if_neg d3, if_pos d4]), HG.out.andThen (set_grown _ _ _ _) (fun j hj => by cases hj; exact Or.inr rfl)⟩
                     case measure => simp [intOf]; omega)
            · first
                | (exfalso; omega)
                | (go_wp2
                   all_goals first | (exfalso; omega) | skip
                   all_goals
                     go_roundw
                     case rel => exact ⟨i + 1, by first | rfl | simp, by omega, step_same HR.out (by rw [HV.out, HP.out, if_neg d1, if_neg d3, if_neg d4]), HG.out⟩
                     case measure => simp [intOf]; omega)
      · obtain rfl : i = 26 := by omega
        go_wp2
        go_end0
        exact ⟨rfl, step_end HR.out, HG.out⟩

end Go.Proofs.Ytccalibapiiifaa
