-- Printed for this claim by gprint.py, a program of mine over the kit's printer; Lean checks it.
import Derived.Test.YtccalibapiiifaaT0
import Derived.Test.YtccalibapiiifaaT1
import Derived.Test.YtccalibapiiifaaTknown
namespace Go.Proofs.Ytccalibapiiifaa.T
open Go.RowKit Go.Proofs.YtccalibapiiifaaW.PrintWords Go.Proofs.YtccalibapiiifaaW.PrintLast Go.Proofs.YtccalibapiiifaaW.PrintMore
attribute [local go_sem] max2_int min2_int max_two min_two max_three min_three max_four min_four   -- for this text's walks alone
set_option linter.unusedVariables false
set_option linter.unusedSimpArgs false

attribute [local go_sem high] eqA42
/-! ### emendatorlaw07_TmplPlain: function 8 -/
mutual
def emendatorlaw07_TmplPlain.j0 : Nat → ByteArray → Bool → Option (Bool)
  | 0, _, _ => none
  | k + 1, x0, x13 => if x13 = true then ((emendatorlaw07_known.f).bind fun t184 => (some t184)) else (emendatorlaw07_TmplPlain.l0 k x0 (⟨#[]⟩ : ByteArray) 0)
def emendatorlaw07_TmplPlain.l0 : Nat → ByteArray → ByteArray → Int → Option (Bool)
  | 0, _, _, _ => none
  | k + 1, x0, x3, x4 => if x4 < (x0.size : Int) then (if 0 ≤ x4 then (if (bt x0 x4) ≥ 97 then (if (bt x0 x4) ≤ 122 then (if x4 ≤ (wrap64 (x4 + 1)) then (if (wrap64 (x4 + 1)) ≤ (x0.size : Int) then (if x3.size + (x0.extract (x4 : Int).toNat ((wrap64 (x4 + 1)) : Int).toNat).size ≤ 9223372036854775807 then (emendatorlaw07_TmplPlain.l0 k x0 (x3 ++ (x0.extract (x4 : Int).toNat ((wrap64 (x4 + 1)) : Int).toNat)) (wrap64 (x4 + 1))) else (none)) else (none)) else (none)) else (if (bt x0 x4) ≥ 65 then (if (bt x0 x4) ≤ 90 then (if x4 ≤ (wrap64 (x4 + 1)) then (if (wrap64 (x4 + 1)) ≤ (x0.size : Int) then (if x3.size + (x0.extract (x4 : Int).toNat ((wrap64 (x4 + 1)) : Int).toNat).size ≤ 9223372036854775807 then (emendatorlaw07_TmplPlain.l0 k x0 (x3 ++ (x0.extract (x4 : Int).toNat ((wrap64 (x4 + 1)) : Int).toNat)) (wrap64 (x4 + 1))) else (none)) else (none)) else (none)) else (if (bt x0 x4) ≥ 48 then (if ((bt x0 x4) ≤ 57) then (if x4 ≤ (wrap64 (x4 + 1)) then (if (wrap64 (x4 + 1)) ≤ (x0.size : Int) then (if x3.size + (x0.extract (x4 : Int).toNat ((wrap64 (x4 + 1)) : Int).toNat).size ≤ 9223372036854775807 then (emendatorlaw07_TmplPlain.l0 k x0 (x3 ++ (x0.extract (x4 : Int).toNat ((wrap64 (x4 + 1)) : Int).toNat)) (wrap64 (x4 + 1))) else (none)) else (none)) else (none)) else (if x3.size + 1 ≤ 9223372036854775807 then (if x4 ≤ (wrap64 (x4 + 1)) then (if (wrap64 (x4 + 1)) ≤ (x0.size : Int) then (if (x3 ++ (⟨#[92]⟩ : ByteArray)).size + (x0.extract (x4 : Int).toNat ((wrap64 (x4 + 1)) : Int).toNat).size ≤ 9223372036854775807 then (emendatorlaw07_TmplPlain.l0 k x0 ((x3 ++ (⟨#[92]⟩ : ByteArray)) ++ (x0.extract (x4 : Int).toNat ((wrap64 (x4 + 1)) : Int).toNat)) (wrap64 (x4 + 1))) else (none)) else (none)) else (none)) else (none))) else (if x3.size + 1 ≤ 9223372036854775807 then (if x4 ≤ (wrap64 (x4 + 1)) then (if (wrap64 (x4 + 1)) ≤ (x0.size : Int) then (if (x3 ++ (⟨#[92]⟩ : ByteArray)).size + (x0.extract (x4 : Int).toNat ((wrap64 (x4 + 1)) : Int).toNat).size ≤ 9223372036854775807 then (emendatorlaw07_TmplPlain.l0 k x0 ((x3 ++ (⟨#[92]⟩ : ByteArray)) ++ (x0.extract (x4 : Int).toNat ((wrap64 (x4 + 1)) : Int).toNat)) (wrap64 (x4 + 1))) else (none)) else (none)) else (none)) else (none)))) else (if (bt x0 x4) ≥ 48 then (if ((bt x0 x4) ≤ 57) then (if x4 ≤ (wrap64 (x4 + 1)) then (if (wrap64 (x4 + 1)) ≤ (x0.size : Int) then (if x3.size + (x0.extract (x4 : Int).toNat ((wrap64 (x4 + 1)) : Int).toNat).size ≤ 9223372036854775807 then (emendatorlaw07_TmplPlain.l0 k x0 (x3 ++ (x0.extract (x4 : Int).toNat ((wrap64 (x4 + 1)) : Int).toNat)) (wrap64 (x4 + 1))) else (none)) else (none)) else (none)) else (if x3.size + 1 ≤ 9223372036854775807 then (if x4 ≤ (wrap64 (x4 + 1)) then (if (wrap64 (x4 + 1)) ≤ (x0.size : Int) then (if (x3 ++ (⟨#[92]⟩ : ByteArray)).size + (x0.extract (x4 : Int).toNat ((wrap64 (x4 + 1)) : Int).toNat).size ≤ 9223372036854775807 then (emendatorlaw07_TmplPlain.l0 k x0 ((x3 ++ (⟨#[92]⟩ : ByteArray)) ++ (x0.extract (x4 : Int).toNat ((wrap64 (x4 + 1)) : Int).toNat)) (wrap64 (x4 + 1))) else (none)) else (none)) else (none)) else (none))) else (if x3.size + 1 ≤ 9223372036854775807 then (if x4 ≤ (wrap64 (x4 + 1)) then (if (wrap64 (x4 + 1)) ≤ (x0.size : Int) then (if (x3 ++ (⟨#[92]⟩ : ByteArray)).size + (x0.extract (x4 : Int).toNat ((wrap64 (x4 + 1)) : Int).toNat).size ≤ 9223372036854775807 then (emendatorlaw07_TmplPlain.l0 k x0 ((x3 ++ (⟨#[92]⟩ : ByteArray)) ++ (x0.extract (x4 : Int).toNat ((wrap64 (x4 + 1)) : Int).toNat)) (wrap64 (x4 + 1))) else (none)) else (none)) else (none)) else (none))))) else (if (bt x0 x4) ≥ 65 then (if (bt x0 x4) ≤ 90 then (if x4 ≤ (wrap64 (x4 + 1)) then (if (wrap64 (x4 + 1)) ≤ (x0.size : Int) then (if x3.size + (x0.extract (x4 : Int).toNat ((wrap64 (x4 + 1)) : Int).toNat).size ≤ 9223372036854775807 then (emendatorlaw07_TmplPlain.l0 k x0 (x3 ++ (x0.extract (x4 : Int).toNat ((wrap64 (x4 + 1)) : Int).toNat)) (wrap64 (x4 + 1))) else (none)) else (none)) else (none)) else (if (bt x0 x4) ≥ 48 then (if ((bt x0 x4) ≤ 57) then (if x4 ≤ (wrap64 (x4 + 1)) then (if (wrap64 (x4 + 1)) ≤ (x0.size : Int) then (if x3.size + (x0.extract (x4 : Int).toNat ((wrap64 (x4 + 1)) : Int).toNat).size ≤ 9223372036854775807 then (emendatorlaw07_TmplPlain.l0 k x0 (x3 ++ (x0.extract (x4 : Int).toNat ((wrap64 (x4 + 1)) : Int).toNat)) (wrap64 (x4 + 1))) else (none)) else (none)) else (none)) else (if x3.size + 1 ≤ 9223372036854775807 then (if x4 ≤ (wrap64 (x4 + 1)) then (if (wrap64 (x4 + 1)) ≤ (x0.size : Int) then (if (x3 ++ (⟨#[92]⟩ : ByteArray)).size + (x0.extract (x4 : Int).toNat ((wrap64 (x4 + 1)) : Int).toNat).size ≤ 9223372036854775807 then (emendatorlaw07_TmplPlain.l0 k x0 ((x3 ++ (⟨#[92]⟩ : ByteArray)) ++ (x0.extract (x4 : Int).toNat ((wrap64 (x4 + 1)) : Int).toNat)) (wrap64 (x4 + 1))) else (none)) else (none)) else (none)) else (none))) else (if x3.size + 1 ≤ 9223372036854775807 then (if x4 ≤ (wrap64 (x4 + 1)) then (if (wrap64 (x4 + 1)) ≤ (x0.size : Int) then (if (x3 ++ (⟨#[92]⟩ : ByteArray)).size + (x0.extract (x4 : Int).toNat ((wrap64 (x4 + 1)) : Int).toNat).size ≤ 9223372036854775807 then (emendatorlaw07_TmplPlain.l0 k x0 ((x3 ++ (⟨#[92]⟩ : ByteArray)) ++ (x0.extract (x4 : Int).toNat ((wrap64 (x4 + 1)) : Int).toNat)) (wrap64 (x4 + 1))) else (none)) else (none)) else (none)) else (none)))) else (if (bt x0 x4) ≥ 48 then (if ((bt x0 x4) ≤ 57) then (if x4 ≤ (wrap64 (x4 + 1)) then (if (wrap64 (x4 + 1)) ≤ (x0.size : Int) then (if x3.size + (x0.extract (x4 : Int).toNat ((wrap64 (x4 + 1)) : Int).toNat).size ≤ 9223372036854775807 then (emendatorlaw07_TmplPlain.l0 k x0 (x3 ++ (x0.extract (x4 : Int).toNat ((wrap64 (x4 + 1)) : Int).toNat)) (wrap64 (x4 + 1))) else (none)) else (none)) else (none)) else (if x3.size + 1 ≤ 9223372036854775807 then (if x4 ≤ (wrap64 (x4 + 1)) then (if (wrap64 (x4 + 1)) ≤ (x0.size : Int) then (if (x3 ++ (⟨#[92]⟩ : ByteArray)).size + (x0.extract (x4 : Int).toNat ((wrap64 (x4 + 1)) : Int).toNat).size ≤ 9223372036854775807 then (emendatorlaw07_TmplPlain.l0 k x0 ((x3 ++ (⟨#[92]⟩ : ByteArray)) ++ (x0.extract (x4 : Int).toNat ((wrap64 (x4 + 1)) : Int).toNat)) (wrap64 (x4 + 1))) else (none)) else (none)) else (none)) else (none))) else (if x3.size + 1 ≤ 9223372036854775807 then (if x4 ≤ (wrap64 (x4 + 1)) then (if (wrap64 (x4 + 1)) ≤ (x0.size : Int) then (if (x3 ++ (⟨#[92]⟩ : ByteArray)).size + (x0.extract (x4 : Int).toNat ((wrap64 (x4 + 1)) : Int).toNat).size ≤ 9223372036854775807 then (emendatorlaw07_TmplPlain.l0 k x0 ((x3 ++ (⟨#[92]⟩ : ByteArray)) ++ (x0.extract (x4 : Int).toNat ((wrap64 (x4 + 1)) : Int).toNat)) (wrap64 (x4 + 1))) else (none)) else (none)) else (none)) else (none))))) else (none)) else ((tmpl_Parse.f x3).bind fun t185 => (if x0.toList = ([] : List UInt8) then (some ((t185.length : Int) == 0)) else (if (t185.length : Int) = 1 then (if 0 < (t185.length : Int) then (some (((rd_T42 t185 0).f0) == 1 && ((((rd_T42 t185 0).f1).toList) == x0.toList && (((rd_T42 t185 0).f2) == 0 && (((rd_T42 t185 0).f3) == 0))))) else (none)) else (some false))))
end
def emendatorlaw07_TmplPlain.f (k : Nat) (a0 : ByteArray) : Option (Bool) := if (a0.size : Int) > 500 then (emendatorlaw07_TmplPlain.j0 k a0 true) else ((emendatorlaw07_known.f).bind fun t183 => (emendatorlaw07_TmplPlain.j0 k a0 (!t183)))
theorem emendatorlaw07_TmplPlain.mono_l : ∀ k, (∀ y0 y1, LeO (emendatorlaw07_TmplPlain.j0 k y0 y1) (emendatorlaw07_TmplPlain.j0 (k + 1) y0 y1)) ∧ (∀ y0 y1 y2, LeO (emendatorlaw07_TmplPlain.l0 k y0 y1 y2) (emendatorlaw07_TmplPlain.l0 (k + 1) y0 y1 y2))
  | 0 => ⟨fun _ _ r h => by simp [emendatorlaw07_TmplPlain.j0] at h, fun _ _ _ r h => by simp [emendatorlaw07_TmplPlain.l0] at h⟩
  | k + 1 => by
    obtain ⟨ih0, ih1⟩ := emendatorlaw07_TmplPlain.mono_l k
    refine ⟨?_, ?_⟩
    · intro y0 y1
      unfold emendatorlaw07_TmplPlain.j0
      repeat' first
      | (with_reducible exact ih0 _ _)
      | (with_reducible exact ih1 _ _ _)
      | (with_reducible exact LeO.refl _)
      | (with_reducible exact LeO.none _)
      | (with_reducible refine LeO.ite ?_ ?_)
      | (with_reducible refine LeO.bind ?_ (fun _ => ?_))
      | exact ih0 _ _
      | exact ih1 _ _ _
      | exact LeO.none _
      | refine LeO.ite ?_ ?_
      | refine LeO.bind ?_ (fun _ => ?_)
    · intro y0 y1 y2
      unfold emendatorlaw07_TmplPlain.l0
      repeat' first
      | (with_reducible exact ih0 _ _)
      | (with_reducible exact ih1 _ _ _)
      | (with_reducible exact LeO.refl _)
      | (with_reducible exact LeO.none _)
      | (with_reducible refine LeO.ite ?_ ?_)
      | (with_reducible refine LeO.bind ?_ (fun _ => ?_))
      | exact ih0 _ _
      | exact ih1 _ _ _
      | exact LeO.none _
      | refine LeO.ite ?_ ?_
      | refine LeO.bind ?_ (fun _ => ?_)
theorem emendatorlaw07_TmplPlain.mono : ∀ a0 k, LeO (emendatorlaw07_TmplPlain.f k a0) (emendatorlaw07_TmplPlain.f (k + 1) a0) := by
  intro a0 k
  obtain ⟨ih0, ih1⟩ := emendatorlaw07_TmplPlain.mono_l k
  unfold emendatorlaw07_TmplPlain.f
  repeat' first
      | (with_reducible exact ih0 _ _)
      | (with_reducible exact ih1 _ _ _)
      | (with_reducible exact LeO.refl _)
      | (with_reducible exact LeO.none _)
      | (with_reducible refine LeO.ite ?_ ?_)
      | (with_reducible refine LeO.bind ?_ (fun _ => ?_))
      | exact ih0 _ _
      | exact ih1 _ _ _
      | exact LeO.none _
      | refine LeO.ite ?_ ?_
      | refine LeO.bind ?_ (fun _ => ?_)
set_option maxHeartbeats 8000000 in
set_option maxRecDepth 100000 in
theorem emendatorlaw07_TmplPlain.calls (k : Nat) (a0 : ByteArray) (r : Bool) (w : World) (h : emendatorlaw07_TmplPlain.f k a0 = some r) :
    Calls Try.prog 8 #[.string a0] w fun e w' => e = .returned (.bool r) ∧ Below w.heap.size w w' := by
  have hu42 := Try.underlying42
  have HB := Aside0.mk (Below.refl w.heap.size w)
  have H : (if (a0.size : Int) > 500 then (emendatorlaw07_TmplPlain.j0 k a0 true) else ((emendatorlaw07_known.f).bind fun t183 => (emendatorlaw07_TmplPlain.j0 k a0 (!t183)))) = some r := h
  clear h
  have HC2 := Aside0.mk H
  clear H
  go_enter Try.func8, Try.ntmps8
  go_upto_region 1 with (fail)
  go_cut [13] (fun v13 wc => ∃ (kq : Nat) (x13_1 : Bool), v13 = .bool x13_1 ∧ Aside0 (emendatorlaw07_TmplPlain.j0 kq a0 x13_1 = some r) ∧ Aside0 (kq ≤ k) ∧ Aside0 (Below w.heap.size w wc))
  case first =>
    have H := HC2.out
    clear HC2
    by_cases c3 : (a0.size : Int) > 500
    · rw [if_pos c3] at H
      have c3b0 : decide (500 < (a0.size : Int)) = true := decide_eq_true c3
      have c3b1 : decide (500 < a0.size) = true := decide_eq_true (by omega)
      clear c3
      (first | rw [c3b0] | (simp only [i64_w, i32_w]; rw [c3b0]) | skip)
      have H' := Aside0.mk H
      clear H
      go_wp2
      go_meet
      case rel => exact ⟨_, (true), (by first | rfl | (simp; done) | (simp [*]; done)), H', ⟨by first | omega | exact Nat.le_refl _⟩, ⟨by repeat (first | (with_reducible first | exact HB.out | apply below_alloc | apply pw_below_drewN | apply below_drew1) | exact HB.out)⟩⟩
    · rw [if_neg c3] at H
      have c3b0 : decide (500 < (a0.size : Int)) = false := decide_eq_false c3
      have c3b1 : decide (500 < a0.size) = false := decide_eq_false (by omega)
      clear c3
      (first | rw [c3b0] | (simp only [i64_w, i32_w]; rw [c3b0]) | skip)
      replace H := Option.bind_eq_some_iff.mp H
      obtain ⟨t183, A40, H⟩ := H
      replace H : (emendatorlaw07_TmplPlain.j0 k a0 (!t183)) = some r := H
      have A4 := Aside0.mk A40
      clear A40
      have H' := Aside0.mk H
      clear H
      go_wp2_with (first | (go_at_call 20; (with_reducible refine (emendatorlaw07_known.calls  t183 _ A4.out).mono ?_); rintro e w5 ⟨rfl, hb⟩; have n0_ := Aside0.mk (below_step (by repeat (first | (with_reducible first | exact HB.out | apply below_alloc | apply pw_below_drewN | apply below_drew1) | exact HB.out)) hb); clear HB; have HB := n0_; clear n0_; (try clear hb); (try clear hb2); (try clear hk); (try clear hi)))
      go_meet
      case rel => exact ⟨_, (!t183), (by first | rfl | (simp; done) | (simp [*]; done)), H', ⟨by first | omega | exact Nat.le_refl _⟩, ⟨by repeat (first | (with_reducible first | exact HB.out | apply below_alloc | apply pw_below_drewN | apply below_drew1) | exact HB.out)⟩⟩
  case rest =>
    clear HC2
    try clear p2
    try clear c3
    try clear c3b0
    try clear c3b1
    obtain ⟨kq, x13_1, rfl, HA, HJ1, HB⟩ := hcut
    cases kq with
    | zero => exact absurd HA.out (by simp [emendatorlaw07_TmplPlain.j0])
    | succ kj1 =>
      have H := HA.out
      clear HA
      simp only [emendatorlaw07_TmplPlain.j0] at H
      by_cases c6 : x13_1 = true
      · subst c6
        have H1 : ((emendatorlaw07_known.f).bind fun t184 => (some t184)) = some r := by rw [if_pos rfl] at H; exact H
        clear H
        have H := H1
        clear H1
        replace H := Option.bind_eq_some_iff.mp H
        obtain ⟨t184, A70, H⟩ := H
        replace H : (some t184) = some r := H
        have A7 := Aside0.mk A70
        clear A70
        obtain rfl := Option.some.inj H
        go_wp2_with (first | ((with_reducible refine gate_callee (f := 20) rfl ?_); refine goesL_ (some 14) rfl rfl Try.func20 (by kernel_rfl) rfl #[] rfl (by (try simp only [List.map_toArray, List.map_cons, List.map_nil]); first | done | rfl | (simp only [List.length_drop, List.length_take]; rfl)) ?_; (with_reducible refine (emendatorlaw07_known.calls  t184 _ A7.out).mono ?_); rintro e w8 ⟨rfl, hb⟩; refine ⟨_, rfl, ?_⟩; have n0_ := Aside0.mk (below_step (by repeat (first | (with_reducible first | exact HB.out | apply below_alloc | apply pw_below_drewN | apply below_drew1) | exact HB.out)) hb); clear HB; have HB := n0_; clear n0_; (try clear hb); (try clear hb2); (try clear hk); (try clear hi)))
        go_ret
        exact ⟨by first | rfl | (simp [errW_none, errW_some] <;> rfl) | (simp [*, errW_none, errW_some] <;> rfl), by repeat (first | (with_reducible first | exact HB.out | apply below_alloc | apply pw_below_drewN | apply below_drew1) | exact HB.out)⟩
      · replace c6 := Bool.eq_false_iff.mpr c6
        subst c6
        have H1 : (emendatorlaw07_TmplPlain.l0 kj1 a0 (⟨#[]⟩ : ByteArray) 0) = some r := by rw [if_neg (show ¬ (false = true) by decide)] at H; exact H
        clear H
        have H := H1
        clear H1
        have H' := Aside0.mk H
        clear H
        go_wp2
        go_loopg [3, 4] kj1 (fun kq v3 v4 w' => ∃ (x3_2 : ByteArray) (x4_2 : Int), v3 = .string x3_2 ∧ v4 = .int .i64 x4_2 ∧ Aside0 (emendatorlaw07_TmplPlain.l0 kq a0 x3_2 x4_2 = some r) ∧ Aside0 (kq ≤ kj1) ∧ Aside0 (Below w.heap.size w w'))
        case atStart => exact ⟨((⟨#[]⟩ : ByteArray)), (0), (by first | rfl | (simp; done) | (simp [*]; done)), (by first | rfl | (simp; done) | (simp [*]; done)), H', ⟨Nat.le_refl _⟩, ⟨by repeat (first | (with_reducible first | exact HB.out | apply below_alloc | apply pw_below_drewN | apply below_drew1) | exact HB.out)⟩⟩
        case round =>
          clear H'
          try clear c2
          try clear p2
          try clear c3
          try clear c3b0
          try clear c3b1
          try clear c6
          try clear c8
          try clear p2
          obtain ⟨x3_2, x4_2, rfl, rfl, HA, HK2, HB⟩ := hrel
          cases gk with
          | zero => exact absurd HA.out (by simp [emendatorlaw07_TmplPlain.l0])
          | succ k2 =>
            have H := HA.out
            clear HA
            simp only [emendatorlaw07_TmplPlain.l0] at H
            by_cases c9 : x4_2 < (a0.size : Int)
            · rw [if_pos c9] at H
              have c9b0 : decide (x4_2 < (a0.size : Int)) = true := decide_eq_true c9
              clear c9
              by_cases c10 : 0 ≤ x4_2
              · rw [if_pos c10] at H
                have c10b0 : decide (0 ≤ x4_2) = true := decide_eq_true c10
                clear c10
                by_cases c12 : (bt a0 x4_2) ≥ 97
                · rw [if_pos c12] at H
                  have c12b0 : decide (97 ≤ (bt a0 x4_2)) = true := decide_eq_true c12
                  clear c12
                  by_cases c13 : (bt a0 x4_2) ≤ 122
                  · rw [if_pos c13] at H
                    have c13b0 : decide ((bt a0 x4_2) ≤ 122) = true := decide_eq_true c13
                    clear c13
                    have c14b0 := eq_true (of_decide_eq_true (by first | (with_reducible assumption) | assumption) : 0 ≤ x4_2)
                    by_cases c15 : x4_2 ≤ (wrap64 (x4_2 + 1))
                    · rw [if_pos c15] at H
                      have c15b0 := eq_true c15
                      have c15b1 : decide (x4_2 ≤ (wrap64 (x4_2 + 1))) = true := decide_eq_true c15
                      by_cases c16 : (wrap64 (x4_2 + 1)) ≤ (a0.size : Int)
                      · rw [if_pos c16] at H
                        have c16b0 := eq_true c16
                        have c16b1 : decide ((wrap64 (x4_2 + 1)) ≤ (a0.size : Int)) = true := decide_eq_true c16
                        by_cases c17 : x3_2.size + (a0.extract (x4_2 : Int).toNat ((wrap64 (x4_2 + 1)) : Int).toNat).size ≤ 9223372036854775807
                        · rw [if_pos c17] at H
                          have c17b0 := eq_true c17
                          have c17b1 : decide (x3_2.size + (a0.extract (x4_2 : Int).toNat ((wrap64 (x4_2 + 1)) : Int).toNat).size ≤ 9223372036854775807) = true := decide_eq_true c17
                          try have c17b2 : (9223372036854775807 < x3_2.size + (a0.extract (x4_2 : Int).toNat ((wrap64 (x4_2 + 1)) : Int).toNat).size) = False := eq_false (Nat.not_lt.2 c17)
                          have H' := Aside0.mk H
                          clear H
                          have p11 : 0 ≤ (x4_2 : Int) := of_decide_eq_true (by first | (with_reducible assumption) | assumption)
                          have q11 : x4_2 < (a0.size : Int) := of_decide_eq_true (by first | (with_reducible assumption) | assumption)
                          have hx11 := bt_at a0 x4_2
                          replace p11 := eq_true p11
                          replace q11 := eq_true q11
                          go_wp2
                          go_roundg k2
                          case measure => have := HJ1.out; have := HK2.out; omega
                          case rel => exact ⟨(x3_2 ++ (a0.extract (x4_2 : Int).toNat ((wrap64 (x4_2 + 1)) : Int).toNat)), (wrap64 (x4_2 + 1)), (by first | rfl | (simp; done) | (simp [*]; done)), (by first | rfl | (simp; done) | (simp [*]; done)), H', ⟨by have := HJ1.out; have := HK2.out; omega⟩, ⟨by repeat (first | (with_reducible first | exact HB.out | apply below_alloc | apply pw_below_drewN | apply below_drew1) | exact HB.out)⟩⟩
                        · rw [if_neg c17] at H
                          exact absurd H (by simp)
                      · rw [if_neg c16] at H
                        exact absurd H (by simp)
                    · rw [if_neg c15] at H
                      exact absurd H (by simp)
                  · rw [if_neg c13] at H
                    have c13b0 : decide ((bt a0 x4_2) ≤ 122) = false := decide_eq_false c13
                    clear c13
                    by_cases c18 : (bt a0 x4_2) ≥ 65
                    · rw [if_pos c18] at H
                      have c18b0 : decide (65 ≤ (bt a0 x4_2)) = true := decide_eq_true c18
                      clear c18
                      by_cases c19 : (bt a0 x4_2) ≤ 90
                      · rw [if_pos c19] at H
                        have c19b0 : decide ((bt a0 x4_2) ≤ 90) = true := decide_eq_true c19
                        clear c19
                        have c20b0 := eq_true (of_decide_eq_true (by first | (with_reducible assumption) | assumption) : 0 ≤ x4_2)
                        by_cases c21 : x4_2 ≤ (wrap64 (x4_2 + 1))
                        · rw [if_pos c21] at H
                          have c21b0 := eq_true c21
                          have c21b1 : decide (x4_2 ≤ (wrap64 (x4_2 + 1))) = true := decide_eq_true c21
                          by_cases c22 : (wrap64 (x4_2 + 1)) ≤ (a0.size : Int)
                          · rw [if_pos c22] at H
                            have c22b0 := eq_true c22
                            have c22b1 : decide ((wrap64 (x4_2 + 1)) ≤ (a0.size : Int)) = true := decide_eq_true c22
                            by_cases c23 : x3_2.size + (a0.extract (x4_2 : Int).toNat ((wrap64 (x4_2 + 1)) : Int).toNat).size ≤ 9223372036854775807
                            · rw [if_pos c23] at H
                              have c23b0 := eq_true c23
                              have c23b1 : decide (x3_2.size + (a0.extract (x4_2 : Int).toNat ((wrap64 (x4_2 + 1)) : Int).toNat).size ≤ 9223372036854775807) = true := decide_eq_true c23
                              try have c23b2 : (9223372036854775807 < x3_2.size + (a0.extract (x4_2 : Int).toNat ((wrap64 (x4_2 + 1)) : Int).toNat).size) = False := eq_false (Nat.not_lt.2 c23)
                              have H' := Aside0.mk H
                              clear H
                              have p11 : 0 ≤ (x4_2 : Int) := of_decide_eq_true (by first | (with_reducible assumption) | assumption)
                              have q11 : x4_2 < (a0.size : Int) := of_decide_eq_true (by first | (with_reducible assumption) | assumption)
                              have hx11 := bt_at a0 x4_2
                              replace p11 := eq_true p11
                              replace q11 := eq_true q11
                              go_wp2
                              go_roundg k2
                              case measure => have := HJ1.out; have := HK2.out; omega
                              case rel => exact ⟨(x3_2 ++ (a0.extract (x4_2 : Int).toNat ((wrap64 (x4_2 + 1)) : Int).toNat)), (wrap64 (x4_2 + 1)), (by first | rfl | (simp; done) | (simp [*]; done)), (by first | rfl | (simp; done) | (simp [*]; done)), H', ⟨by have := HJ1.out; have := HK2.out; omega⟩, ⟨by repeat (first | (with_reducible first | exact HB.out | apply below_alloc | apply pw_below_drewN | apply below_drew1) | exact HB.out)⟩⟩
                            · rw [if_neg c23] at H
                              exact absurd H (by simp)
                          · rw [if_neg c22] at H
                            exact absurd H (by simp)
                        · rw [if_neg c21] at H
                          exact absurd H (by simp)
                      · rw [if_neg c19] at H
                        have c19b0 : decide ((bt a0 x4_2) ≤ 90) = false := decide_eq_false c19
                        clear c19
                        by_cases c24 : (bt a0 x4_2) ≥ 48
                        · rw [if_pos c24] at H
                          have c24b0 : decide (48 ≤ (bt a0 x4_2)) = true := decide_eq_true c24
                          clear c24
                          by_cases c25 : ((bt a0 x4_2) ≤ 57)
                          · rw [if_pos c25] at H
                            have c25b0 : decide ((bt a0 x4_2) ≤ 57) = true := decide_eq_true c25
                            clear c25
                            have c26b0 := eq_true (of_decide_eq_true (by first | (with_reducible assumption) | assumption) : 0 ≤ x4_2)
                            by_cases c27 : x4_2 ≤ (wrap64 (x4_2 + 1))
                            · rw [if_pos c27] at H
                              have c27b0 := eq_true c27
                              have c27b1 : decide (x4_2 ≤ (wrap64 (x4_2 + 1))) = true := decide_eq_true c27
                              by_cases c28 : (wrap64 (x4_2 + 1)) ≤ (a0.size : Int)
                              · rw [if_pos c28] at H
                                have c28b0 := eq_true c28
                                have c28b1 : decide ((wrap64 (x4_2 + 1)) ≤ (a0.size : Int)) = true := decide_eq_true c28
                                by_cases c29 : x3_2.size + (a0.extract (x4_2 : Int).toNat ((wrap64 (x4_2 + 1)) : Int).toNat).size ≤ 9223372036854775807
                                · rw [if_pos c29] at H
                                  have c29b0 := eq_true c29
                                  have c29b1 : decide (x3_2.size + (a0.extract (x4_2 : Int).toNat ((wrap64 (x4_2 + 1)) : Int).toNat).size ≤ 9223372036854775807) = true := decide_eq_true c29
                                  try have c29b2 : (9223372036854775807 < x3_2.size + (a0.extract (x4_2 : Int).toNat ((wrap64 (x4_2 + 1)) : Int).toNat).size) = False := eq_false (Nat.not_lt.2 c29)
                                  have H' := Aside0.mk H
                                  clear H
                                  have p11 : 0 ≤ (x4_2 : Int) := of_decide_eq_true (by first | (with_reducible assumption) | assumption)
                                  have q11 : x4_2 < (a0.size : Int) := of_decide_eq_true (by first | (with_reducible assumption) | assumption)
                                  have hx11 := bt_at a0 x4_2
                                  replace p11 := eq_true p11
                                  replace q11 := eq_true q11
                                  go_wp2
                                  go_roundg k2
                                  case measure => have := HJ1.out; have := HK2.out; omega
                                  case rel => exact ⟨(x3_2 ++ (a0.extract (x4_2 : Int).toNat ((wrap64 (x4_2 + 1)) : Int).toNat)), (wrap64 (x4_2 + 1)), (by first | rfl | (simp; done) | (simp [*]; done)), (by first | rfl | (simp; done) | (simp [*]; done)), H', ⟨by have := HJ1.out; have := HK2.out; omega⟩, ⟨by repeat (first | (with_reducible first | exact HB.out | apply below_alloc | apply pw_below_drewN | apply below_drew1) | exact HB.out)⟩⟩
                                · rw [if_neg c29] at H
                                  exact absurd H (by simp)
                              · rw [if_neg c28] at H
                                exact absurd H (by simp)
                            · rw [if_neg c27] at H
                              exact absurd H (by simp)
                          · rw [if_neg c25] at H
                            have c25b0 : decide ((bt a0 x4_2) ≤ 57) = false := decide_eq_false c25
                            clear c25
                            by_cases c30 : x3_2.size + 1 ≤ 9223372036854775807
                            · rw [if_pos c30] at H
                              have c30b0 := eq_true c30
                              have c30b1 : decide (x3_2.size + 1 ≤ 9223372036854775807) = true := decide_eq_true c30
                              try have c30b2 : (9223372036854775807 < x3_2.size + 1) = False := eq_false (Nat.not_lt.2 c30)
                              have c31b0 := eq_true (of_decide_eq_true (by first | (with_reducible assumption) | assumption) : 0 ≤ x4_2)
                              by_cases c32 : x4_2 ≤ (wrap64 (x4_2 + 1))
                              · rw [if_pos c32] at H
                                have c32b0 := eq_true c32
                                have c32b1 : decide (x4_2 ≤ (wrap64 (x4_2 + 1))) = true := decide_eq_true c32
                                by_cases c33 : (wrap64 (x4_2 + 1)) ≤ (a0.size : Int)
                                · rw [if_pos c33] at H
                                  have c33b0 := eq_true c33
                                  have c33b1 : decide ((wrap64 (x4_2 + 1)) ≤ (a0.size : Int)) = true := decide_eq_true c33
                                  by_cases c34 : (x3_2 ++ (⟨#[92]⟩ : ByteArray)).size + (a0.extract (x4_2 : Int).toNat ((wrap64 (x4_2 + 1)) : Int).toNat).size ≤ 9223372036854775807
                                  · rw [if_pos c34] at H
                                    have c34b0 := eq_true c34
                                    have c34b1 : decide ((x3_2 ++ (⟨#[92]⟩ : ByteArray)).size + (a0.extract (x4_2 : Int).toNat ((wrap64 (x4_2 + 1)) : Int).toNat).size ≤ 9223372036854775807) = true := decide_eq_true c34
                                    try have c34b2 : (9223372036854775807 < (x3_2 ++ (⟨#[92]⟩ : ByteArray)).size + (a0.extract (x4_2 : Int).toNat ((wrap64 (x4_2 + 1)) : Int).toNat).size) = False := eq_false (Nat.not_lt.2 c34)
                                    have H' := Aside0.mk H
                                    clear H
                                    have p11 : 0 ≤ (x4_2 : Int) := of_decide_eq_true (by first | (with_reducible assumption) | assumption)
                                    have q11 : x4_2 < (a0.size : Int) := of_decide_eq_true (by first | (with_reducible assumption) | assumption)
                                    have hx11 := bt_at a0 x4_2
                                    replace p11 := eq_true p11
                                    replace q11 := eq_true q11
                                    go_wp2
                                    go_roundg k2
                                    case measure => have := HJ1.out; have := HK2.out; omega
                                    case rel => exact ⟨((x3_2 ++ (⟨#[92]⟩ : ByteArray)) ++ (a0.extract (x4_2 : Int).toNat ((wrap64 (x4_2 + 1)) : Int).toNat)), (wrap64 (x4_2 + 1)), (by first | rfl | (simp; done) | (simp [*]; done)), (by first | rfl | (simp; done) | (simp [*]; done)), H', ⟨by have := HJ1.out; have := HK2.out; omega⟩, ⟨by repeat (first | (with_reducible first | exact HB.out | apply below_alloc | apply pw_below_drewN | apply below_drew1) | exact HB.out)⟩⟩
                                  · rw [if_neg c34] at H
                                    exact absurd H (by simp)
                                · rw [if_neg c33] at H
                                  exact absurd H (by simp)
                              · rw [if_neg c32] at H
                                exact absurd H (by simp)
                            · rw [if_neg c30] at H
                              exact absurd H (by simp)
                        · rw [if_neg c24] at H
                          have c24b0 : decide (48 ≤ (bt a0 x4_2)) = false := decide_eq_false c24
                          clear c24
                          by_cases c35 : x3_2.size + 1 ≤ 9223372036854775807
                          · rw [if_pos c35] at H
                            have c35b0 := eq_true c35
                            have c35b1 : decide (x3_2.size + 1 ≤ 9223372036854775807) = true := decide_eq_true c35
                            try have c35b2 : (9223372036854775807 < x3_2.size + 1) = False := eq_false (Nat.not_lt.2 c35)
                            have c36b0 := eq_true (of_decide_eq_true (by first | (with_reducible assumption) | assumption) : 0 ≤ x4_2)
                            by_cases c37 : x4_2 ≤ (wrap64 (x4_2 + 1))
                            · rw [if_pos c37] at H
                              have c37b0 := eq_true c37
                              have c37b1 : decide (x4_2 ≤ (wrap64 (x4_2 + 1))) = true := decide_eq_true c37
                              by_cases c38 : (wrap64 (x4_2 + 1)) ≤ (a0.size : Int)
                              · rw [if_pos c38] at H
                                have c38b0 := eq_true c38
                                have c38b1 : decide ((wrap64 (x4_2 + 1)) ≤ (a0.size : Int)) = true := decide_eq_true c38
                                by_cases c39 : (x3_2 ++ (⟨#[92]⟩ : ByteArray)).size + (a0.extract (x4_2 : Int).toNat ((wrap64 (x4_2 + 1)) : Int).toNat).size ≤ 9223372036854775807
                                · rw [if_pos c39] at H
                                  have c39b0 := eq_true c39
                                  have c39b1 : decide ((x3_2 ++ (⟨#[92]⟩ : ByteArray)).size + (a0.extract (x4_2 : Int).toNat ((wrap64 (x4_2 + 1)) : Int).toNat).size ≤ 9223372036854775807) = true := decide_eq_true c39
                                  try have c39b2 : (9223372036854775807 < (x3_2 ++ (⟨#[92]⟩ : ByteArray)).size + (a0.extract (x4_2 : Int).toNat ((wrap64 (x4_2 + 1)) : Int).toNat).size) = False := eq_false (Nat.not_lt.2 c39)
                                  have H' := Aside0.mk H
                                  clear H
                                  have p11 : 0 ≤ (x4_2 : Int) := of_decide_eq_true (by first | (with_reducible assumption) | assumption)
                                  have q11 : x4_2 < (a0.size : Int) := of_decide_eq_true (by first | (with_reducible assumption) | assumption)
                                  have hx11 := bt_at a0 x4_2
                                  replace p11 := eq_true p11
                                  replace q11 := eq_true q11
                                  go_wp2
                                  go_roundg k2
                                  case measure => have := HJ1.out; have := HK2.out; omega
                                  case rel => exact ⟨((x3_2 ++ (⟨#[92]⟩ : ByteArray)) ++ (a0.extract (x4_2 : Int).toNat ((wrap64 (x4_2 + 1)) : Int).toNat)), (wrap64 (x4_2 + 1)), (by first | rfl | (simp; done) | (simp [*]; done)), (by first | rfl | (simp; done) | (simp [*]; done)), H', ⟨by have := HJ1.out; have := HK2.out; omega⟩, ⟨by repeat (first | (with_reducible first | exact HB.out | apply below_alloc | apply pw_below_drewN | apply below_drew1) | exact HB.out)⟩⟩
                                · rw [if_neg c39] at H
                                  exact absurd H (by simp)
                              · rw [if_neg c38] at H
                                exact absurd H (by simp)
                            · rw [if_neg c37] at H
                              exact absurd H (by simp)
                          · rw [if_neg c35] at H
                            exact absurd H (by simp)
                    · rw [if_neg c18] at H
                      have c18b0 : decide (65 ≤ (bt a0 x4_2)) = false := decide_eq_false c18
                      clear c18
                      by_cases c40 : (bt a0 x4_2) ≥ 48
                      · rw [if_pos c40] at H
                        have c40b0 : decide (48 ≤ (bt a0 x4_2)) = true := decide_eq_true c40
                        clear c40
                        by_cases c41 : ((bt a0 x4_2) ≤ 57)
                        · rw [if_pos c41] at H
                          have c41b0 : decide ((bt a0 x4_2) ≤ 57) = true := decide_eq_true c41
                          clear c41
                          have c42b0 := eq_true (of_decide_eq_true (by first | (with_reducible assumption) | assumption) : 0 ≤ x4_2)
                          by_cases c43 : x4_2 ≤ (wrap64 (x4_2 + 1))
                          · rw [if_pos c43] at H
                            have c43b0 := eq_true c43
                            have c43b1 : decide (x4_2 ≤ (wrap64 (x4_2 + 1))) = true := decide_eq_true c43
                            by_cases c44 : (wrap64 (x4_2 + 1)) ≤ (a0.size : Int)
                            · rw [if_pos c44] at H
                              have c44b0 := eq_true c44
                              have c44b1 : decide ((wrap64 (x4_2 + 1)) ≤ (a0.size : Int)) = true := decide_eq_true c44
                              by_cases c45 : x3_2.size + (a0.extract (x4_2 : Int).toNat ((wrap64 (x4_2 + 1)) : Int).toNat).size ≤ 9223372036854775807
                              · rw [if_pos c45] at H
                                have c45b0 := eq_true c45
                                have c45b1 : decide (x3_2.size + (a0.extract (x4_2 : Int).toNat ((wrap64 (x4_2 + 1)) : Int).toNat).size ≤ 9223372036854775807) = true := decide_eq_true c45
                                try have c45b2 : (9223372036854775807 < x3_2.size + (a0.extract (x4_2 : Int).toNat ((wrap64 (x4_2 + 1)) : Int).toNat).size) = False := eq_false (Nat.not_lt.2 c45)
                                have H' := Aside0.mk H
                                clear H
                                have p11 : 0 ≤ (x4_2 : Int) := of_decide_eq_true (by first | (with_reducible assumption) | assumption)
                                have q11 : x4_2 < (a0.size : Int) := of_decide_eq_true (by first | (with_reducible assumption) | assumption)
                                have hx11 := bt_at a0 x4_2
                                replace p11 := eq_true p11
                                replace q11 := eq_true q11
                                go_wp2
                                go_roundg k2
                                case measure => have := HJ1.out; have := HK2.out; omega
                                case rel => exact ⟨(x3_2 ++ (a0.extract (x4_2 : Int).toNat ((wrap64 (x4_2 + 1)) : Int).toNat)), (wrap64 (x4_2 + 1)), (by first | rfl | (simp; done) | (simp [*]; done)), (by first | rfl | (simp; done) | (simp [*]; done)), H', ⟨by have := HJ1.out; have := HK2.out; omega⟩, ⟨by repeat (first | (with_reducible first | exact HB.out | apply below_alloc | apply pw_below_drewN | apply below_drew1) | exact HB.out)⟩⟩
                              · rw [if_neg c45] at H
                                exact absurd H (by simp)
                            · rw [if_neg c44] at H
                              exact absurd H (by simp)
                          · rw [if_neg c43] at H
                            exact absurd H (by simp)
                        · rw [if_neg c41] at H
                          have c41b0 : decide ((bt a0 x4_2) ≤ 57) = false := decide_eq_false c41
                          clear c41
                          by_cases c46 : x3_2.size + 1 ≤ 9223372036854775807
                          · rw [if_pos c46] at H
                            have c46b0 := eq_true c46
                            have c46b1 : decide (x3_2.size + 1 ≤ 9223372036854775807) = true := decide_eq_true c46
                            try have c46b2 : (9223372036854775807 < x3_2.size + 1) = False := eq_false (Nat.not_lt.2 c46)
                            have c47b0 := eq_true (of_decide_eq_true (by first | (with_reducible assumption) | assumption) : 0 ≤ x4_2)
                            by_cases c48 : x4_2 ≤ (wrap64 (x4_2 + 1))
                            · rw [if_pos c48] at H
                              have c48b0 := eq_true c48
                              have c48b1 : decide (x4_2 ≤ (wrap64 (x4_2 + 1))) = true := decide_eq_true c48
                              by_cases c49 : (wrap64 (x4_2 + 1)) ≤ (a0.size : Int)
                              · rw [if_pos c49] at H
                                have c49b0 := eq_true c49
                                have c49b1 : decide ((wrap64 (x4_2 + 1)) ≤ (a0.size : Int)) = true := decide_eq_true c49
                                by_cases c50 : (x3_2 ++ (⟨#[92]⟩ : ByteArray)).size + (a0.extract (x4_2 : Int).toNat ((wrap64 (x4_2 + 1)) : Int).toNat).size ≤ 9223372036854775807
                                · rw [if_pos c50] at H
                                  have c50b0 := eq_true c50
                                  have c50b1 : decide ((x3_2 ++ (⟨#[92]⟩ : ByteArray)).size + (a0.extract (x4_2 : Int).toNat ((wrap64 (x4_2 + 1)) : Int).toNat).size ≤ 9223372036854775807) = true := decide_eq_true c50
                                  try have c50b2 : (9223372036854775807 < (x3_2 ++ (⟨#[92]⟩ : ByteArray)).size + (a0.extract (x4_2 : Int).toNat ((wrap64 (x4_2 + 1)) : Int).toNat).size) = False := eq_false (Nat.not_lt.2 c50)
                                  have H' := Aside0.mk H
                                  clear H
                                  have p11 : 0 ≤ (x4_2 : Int) := of_decide_eq_true (by first | (with_reducible assumption) | assumption)
                                  have q11 : x4_2 < (a0.size : Int) := of_decide_eq_true (by first | (with_reducible assumption) | assumption)
                                  have hx11 := bt_at a0 x4_2
                                  replace p11 := eq_true p11
                                  replace q11 := eq_true q11
                                  go_wp2
                                  go_roundg k2
                                  case measure => have := HJ1.out; have := HK2.out; omega
                                  case rel => exact ⟨((x3_2 ++ (⟨#[92]⟩ : ByteArray)) ++ (a0.extract (x4_2 : Int).toNat ((wrap64 (x4_2 + 1)) : Int).toNat)), (wrap64 (x4_2 + 1)), (by first | rfl | (simp; done) | (simp [*]; done)), (by first | rfl | (simp; done) | (simp [*]; done)), H', ⟨by have := HJ1.out; have := HK2.out; omega⟩, ⟨by repeat (first | (with_reducible first | exact HB.out | apply below_alloc | apply pw_below_drewN | apply below_drew1) | exact HB.out)⟩⟩
                                · rw [if_neg c50] at H
                                  exact absurd H (by simp)
                              · rw [if_neg c49] at H
                                exact absurd H (by simp)
                            · rw [if_neg c48] at H
                              exact absurd H (by simp)
                          · rw [if_neg c46] at H
                            exact absurd H (by simp)
                      · rw [if_neg c40] at H
                        have c40b0 : decide (48 ≤ (bt a0 x4_2)) = false := decide_eq_false c40
                        clear c40
                        by_cases c51 : x3_2.size + 1 ≤ 9223372036854775807
                        · rw [if_pos c51] at H
                          have c51b0 := eq_true c51
                          have c51b1 : decide (x3_2.size + 1 ≤ 9223372036854775807) = true := decide_eq_true c51
                          try have c51b2 : (9223372036854775807 < x3_2.size + 1) = False := eq_false (Nat.not_lt.2 c51)
                          have c52b0 := eq_true (of_decide_eq_true (by first | (with_reducible assumption) | assumption) : 0 ≤ x4_2)
                          by_cases c53 : x4_2 ≤ (wrap64 (x4_2 + 1))
                          · rw [if_pos c53] at H
                            have c53b0 := eq_true c53
                            have c53b1 : decide (x4_2 ≤ (wrap64 (x4_2 + 1))) = true := decide_eq_true c53
                            by_cases c54 : (wrap64 (x4_2 + 1)) ≤ (a0.size : Int)
                            · rw [if_pos c54] at H
                              have c54b0 := eq_true c54
                              have c54b1 : decide ((wrap64 (x4_2 + 1)) ≤ (a0.size : Int)) = true := decide_eq_true c54
                              by_cases c55 : (x3_2 ++ (⟨#[92]⟩ : ByteArray)).size + (a0.extract (x4_2 : Int).toNat ((wrap64 (x4_2 + 1)) : Int).toNat).size ≤ 9223372036854775807
                              · rw [if_pos c55] at H
                                have c55b0 := eq_true c55
                                have c55b1 : decide ((x3_2 ++ (⟨#[92]⟩ : ByteArray)).size + (a0.extract (x4_2 : Int).toNat ((wrap64 (x4_2 + 1)) : Int).toNat).size ≤ 9223372036854775807) = true := decide_eq_true c55
                                try have c55b2 : (9223372036854775807 < (x3_2 ++ (⟨#[92]⟩ : ByteArray)).size + (a0.extract (x4_2 : Int).toNat ((wrap64 (x4_2 + 1)) : Int).toNat).size) = False := eq_false (Nat.not_lt.2 c55)
                                have H' := Aside0.mk H
                                clear H
                                have p11 : 0 ≤ (x4_2 : Int) := of_decide_eq_true (by first | (with_reducible assumption) | assumption)
                                have q11 : x4_2 < (a0.size : Int) := of_decide_eq_true (by first | (with_reducible assumption) | assumption)
                                have hx11 := bt_at a0 x4_2
                                replace p11 := eq_true p11
                                replace q11 := eq_true q11
                                go_wp2
                                go_roundg k2
                                case measure => have := HJ1.out; have := HK2.out; omega
                                case rel => exact ⟨((x3_2 ++ (⟨#[92]⟩ : ByteArray)) ++ (a0.extract (x4_2 : Int).toNat ((wrap64 (x4_2 + 1)) : Int).toNat)), (wrap64 (x4_2 + 1)), (by first | rfl | (simp; done) | (simp [*]; done)), (by first | rfl | (simp; done) | (simp [*]; done)), H', ⟨by have := HJ1.out; have := HK2.out; omega⟩, ⟨by repeat (first | (with_reducible first | exact HB.out | apply below_alloc | apply pw_below_drewN | apply below_drew1) | exact HB.out)⟩⟩
                              · rw [if_neg c55] at H
                                exact absurd H (by simp)
                            · rw [if_neg c54] at H
                              exact absurd H (by simp)
                          · rw [if_neg c53] at H
                            exact absurd H (by simp)
                        · rw [if_neg c51] at H
                          exact absurd H (by simp)
                · rw [if_neg c12] at H
                  have c12b0 : decide (97 ≤ (bt a0 x4_2)) = false := decide_eq_false c12
                  clear c12
                  by_cases c56 : (bt a0 x4_2) ≥ 65
                  · rw [if_pos c56] at H
                    have c56b0 : decide (65 ≤ (bt a0 x4_2)) = true := decide_eq_true c56
                    clear c56
                    by_cases c57 : (bt a0 x4_2) ≤ 90
                    · rw [if_pos c57] at H
                      have c57b0 : decide ((bt a0 x4_2) ≤ 90) = true := decide_eq_true c57
                      clear c57
                      have c58b0 := eq_true (of_decide_eq_true (by first | (with_reducible assumption) | assumption) : 0 ≤ x4_2)
                      by_cases c59 : x4_2 ≤ (wrap64 (x4_2 + 1))
                      · rw [if_pos c59] at H
                        have c59b0 := eq_true c59
                        have c59b1 : decide (x4_2 ≤ (wrap64 (x4_2 + 1))) = true := decide_eq_true c59
                        by_cases c60 : (wrap64 (x4_2 + 1)) ≤ (a0.size : Int)
                        · rw [if_pos c60] at H
                          have c60b0 := eq_true c60
                          have c60b1 : decide ((wrap64 (x4_2 + 1)) ≤ (a0.size : Int)) = true := decide_eq_true c60
                          by_cases c61 : x3_2.size + (a0.extract (x4_2 : Int).toNat ((wrap64 (x4_2 + 1)) : Int).toNat).size ≤ 9223372036854775807
                          · rw [if_pos c61] at H
                            have c61b0 := eq_true c61
                            have c61b1 : decide (x3_2.size + (a0.extract (x4_2 : Int).toNat ((wrap64 (x4_2 + 1)) : Int).toNat).size ≤ 9223372036854775807) = true := decide_eq_true c61
                            try have c61b2 : (9223372036854775807 < x3_2.size + (a0.extract (x4_2 : Int).toNat ((wrap64 (x4_2 + 1)) : Int).toNat).size) = False := eq_false (Nat.not_lt.2 c61)
                            have H' := Aside0.mk H
                            clear H
                            have p11 : 0 ≤ (x4_2 : Int) := of_decide_eq_true (by first | (with_reducible assumption) | assumption)
                            have q11 : x4_2 < (a0.size : Int) := of_decide_eq_true (by first | (with_reducible assumption) | assumption)
                            have hx11 := bt_at a0 x4_2
                            replace p11 := eq_true p11
                            replace q11 := eq_true q11
                            go_wp2
                            go_roundg k2
                            case measure => have := HJ1.out; have := HK2.out; omega
                            case rel => exact ⟨(x3_2 ++ (a0.extract (x4_2 : Int).toNat ((wrap64 (x4_2 + 1)) : Int).toNat)), (wrap64 (x4_2 + 1)), (by first | rfl | (simp; done) | (simp [*]; done)), (by first | rfl | (simp; done) | (simp [*]; done)), H', ⟨by have := HJ1.out; have := HK2.out; omega⟩, ⟨by repeat (first | (with_reducible first | exact HB.out | apply below_alloc | apply pw_below_drewN | apply below_drew1) | exact HB.out)⟩⟩
                          · rw [if_neg c61] at H
                            exact absurd H (by simp)
                        · rw [if_neg c60] at H
                          exact absurd H (by simp)
                      · rw [if_neg c59] at H
                        exact absurd H (by simp)
                    · rw [if_neg c57] at H
                      have c57b0 : decide ((bt a0 x4_2) ≤ 90) = false := decide_eq_false c57
                      clear c57
                      by_cases c62 : (bt a0 x4_2) ≥ 48
                      · rw [if_pos c62] at H
                        have c62b0 : decide (48 ≤ (bt a0 x4_2)) = true := decide_eq_true c62
                        clear c62
                        by_cases c63 : ((bt a0 x4_2) ≤ 57)
                        · rw [if_pos c63] at H
                          have c63b0 : decide ((bt a0 x4_2) ≤ 57) = true := decide_eq_true c63
                          clear c63
                          have c64b0 := eq_true (of_decide_eq_true (by first | (with_reducible assumption) | assumption) : 0 ≤ x4_2)
                          by_cases c65 : x4_2 ≤ (wrap64 (x4_2 + 1))
                          · rw [if_pos c65] at H
                            have c65b0 := eq_true c65
                            have c65b1 : decide (x4_2 ≤ (wrap64 (x4_2 + 1))) = true := decide_eq_true c65
                            by_cases c66 : (wrap64 (x4_2 + 1)) ≤ (a0.size : Int)
                            · rw [if_pos c66] at H
                              have c66b0 := eq_true c66
                              have c66b1 : decide ((wrap64 (x4_2 + 1)) ≤ (a0.size : Int)) = true := decide_eq_true c66
                              by_cases c67 : x3_2.size + (a0.extract (x4_2 : Int).toNat ((wrap64 (x4_2 + 1)) : Int).toNat).size ≤ 9223372036854775807
                              · rw [if_pos c67] at H
                                have c67b0 := eq_true c67
                                have c67b1 : decide (x3_2.size + (a0.extract (x4_2 : Int).toNat ((wrap64 (x4_2 + 1)) : Int).toNat).size ≤ 9223372036854775807) = true := decide_eq_true c67
                                try have c67b2 : (9223372036854775807 < x3_2.size + (a0.extract (x4_2 : Int).toNat ((wrap64 (x4_2 + 1)) : Int).toNat).size) = False := eq_false (Nat.not_lt.2 c67)
                                have H' := Aside0.mk H
                                clear H
                                have p11 : 0 ≤ (x4_2 : Int) := of_decide_eq_true (by first | (with_reducible assumption) | assumption)
                                have q11 : x4_2 < (a0.size : Int) := of_decide_eq_true (by first | (with_reducible assumption) | assumption)
                                have hx11 := bt_at a0 x4_2
                                replace p11 := eq_true p11
                                replace q11 := eq_true q11
                                go_wp2
                                go_roundg k2
                                case measure => have := HJ1.out; have := HK2.out; omega
                                case rel => exact ⟨(x3_2 ++ (a0.extract (x4_2 : Int).toNat ((wrap64 (x4_2 + 1)) : Int).toNat)), (wrap64 (x4_2 + 1)), (by first | rfl | (simp; done) | (simp [*]; done)), (by first | rfl | (simp; done) | (simp [*]; done)), H', ⟨by have := HJ1.out; have := HK2.out; omega⟩, ⟨by repeat (first | (with_reducible first | exact HB.out | apply below_alloc | apply pw_below_drewN | apply below_drew1) | exact HB.out)⟩⟩
                              · rw [if_neg c67] at H
                                exact absurd H (by simp)
                            · rw [if_neg c66] at H
                              exact absurd H (by simp)
                          · rw [if_neg c65] at H
                            exact absurd H (by simp)
                        · rw [if_neg c63] at H
                          have c63b0 : decide ((bt a0 x4_2) ≤ 57) = false := decide_eq_false c63
                          clear c63
                          by_cases c68 : x3_2.size + 1 ≤ 9223372036854775807
                          · rw [if_pos c68] at H
                            have c68b0 := eq_true c68
                            have c68b1 : decide (x3_2.size + 1 ≤ 9223372036854775807) = true := decide_eq_true c68
                            try have c68b2 : (9223372036854775807 < x3_2.size + 1) = False := eq_false (Nat.not_lt.2 c68)
                            have c69b0 := eq_true (of_decide_eq_true (by first | (with_reducible assumption) | assumption) : 0 ≤ x4_2)
                            by_cases c70 : x4_2 ≤ (wrap64 (x4_2 + 1))
                            · rw [if_pos c70] at H
                              have c70b0 := eq_true c70
                              have c70b1 : decide (x4_2 ≤ (wrap64 (x4_2 + 1))) = true := decide_eq_true c70
                              by_cases c71 : (wrap64 (x4_2 + 1)) ≤ (a0.size : Int)
                              · rw [if_pos c71] at H
                                have c71b0 := eq_true c71
                                have c71b1 : decide ((wrap64 (x4_2 + 1)) ≤ (a0.size : Int)) = true := decide_eq_true c71
                                by_cases c72 : (x3_2 ++ (⟨#[92]⟩ : ByteArray)).size + (a0.extract (x4_2 : Int).toNat ((wrap64 (x4_2 + 1)) : Int).toNat).size ≤ 9223372036854775807
                                · rw [if_pos c72] at H
                                  have c72b0 := eq_true c72
                                  have c72b1 : decide ((x3_2 ++ (⟨#[92]⟩ : ByteArray)).size + (a0.extract (x4_2 : Int).toNat ((wrap64 (x4_2 + 1)) : Int).toNat).size ≤ 9223372036854775807) = true := decide_eq_true c72
                                  try have c72b2 : (9223372036854775807 < (x3_2 ++ (⟨#[92]⟩ : ByteArray)).size + (a0.extract (x4_2 : Int).toNat ((wrap64 (x4_2 + 1)) : Int).toNat).size) = False := eq_false (Nat.not_lt.2 c72)
                                  have H' := Aside0.mk H
                                  clear H
                                  have p11 : 0 ≤ (x4_2 : Int) := of_decide_eq_true (by first | (with_reducible assumption) | assumption)
                                  have q11 : x4_2 < (a0.size : Int) := of_decide_eq_true (by first | (with_reducible assumption) | assumption)
                                  have hx11 := bt_at a0 x4_2
                                  replace p11 := eq_true p11
                                  replace q11 := eq_true q11
                                  go_wp2
                                  go_roundg k2
                                  case measure => have := HJ1.out; have := HK2.out; omega
                                  case rel => exact ⟨((x3_2 ++ (⟨#[92]⟩ : ByteArray)) ++ (a0.extract (x4_2 : Int).toNat ((wrap64 (x4_2 + 1)) : Int).toNat)), (wrap64 (x4_2 + 1)), (by first | rfl | (simp; done) | (simp [*]; done)), (by first | rfl | (simp; done) | (simp [*]; done)), H', ⟨by have := HJ1.out; have := HK2.out; omega⟩, ⟨by repeat (first | (with_reducible first | exact HB.out | apply below_alloc | apply pw_below_drewN | apply below_drew1) | exact HB.out)⟩⟩
                                · rw [if_neg c72] at H
                                  exact absurd H (by simp)
                              · rw [if_neg c71] at H
                                exact absurd H (by simp)
                            · rw [if_neg c70] at H
                              exact absurd H (by simp)
                          · rw [if_neg c68] at H
                            exact absurd H (by simp)
                      · rw [if_neg c62] at H
                        have c62b0 : decide (48 ≤ (bt a0 x4_2)) = false := decide_eq_false c62
                        clear c62
                        by_cases c73 : x3_2.size + 1 ≤ 9223372036854775807
                        · rw [if_pos c73] at H
                          have c73b0 := eq_true c73
                          have c73b1 : decide (x3_2.size + 1 ≤ 9223372036854775807) = true := decide_eq_true c73
                          try have c73b2 : (9223372036854775807 < x3_2.size + 1) = False := eq_false (Nat.not_lt.2 c73)
                          have c74b0 := eq_true (of_decide_eq_true (by first | (with_reducible assumption) | assumption) : 0 ≤ x4_2)
                          by_cases c75 : x4_2 ≤ (wrap64 (x4_2 + 1))
                          · rw [if_pos c75] at H
                            have c75b0 := eq_true c75
                            have c75b1 : decide (x4_2 ≤ (wrap64 (x4_2 + 1))) = true := decide_eq_true c75
                            by_cases c76 : (wrap64 (x4_2 + 1)) ≤ (a0.size : Int)
                            · rw [if_pos c76] at H
                              have c76b0 := eq_true c76
                              have c76b1 : decide ((wrap64 (x4_2 + 1)) ≤ (a0.size : Int)) = true := decide_eq_true c76
                              by_cases c77 : (x3_2 ++ (⟨#[92]⟩ : ByteArray)).size + (a0.extract (x4_2 : Int).toNat ((wrap64 (x4_2 + 1)) : Int).toNat).size ≤ 9223372036854775807
                              · rw [if_pos c77] at H
                                have c77b0 := eq_true c77
                                have c77b1 : decide ((x3_2 ++ (⟨#[92]⟩ : ByteArray)).size + (a0.extract (x4_2 : Int).toNat ((wrap64 (x4_2 + 1)) : Int).toNat).size ≤ 9223372036854775807) = true := decide_eq_true c77
                                try have c77b2 : (9223372036854775807 < (x3_2 ++ (⟨#[92]⟩ : ByteArray)).size + (a0.extract (x4_2 : Int).toNat ((wrap64 (x4_2 + 1)) : Int).toNat).size) = False := eq_false (Nat.not_lt.2 c77)
                                have H' := Aside0.mk H
                                clear H
                                have p11 : 0 ≤ (x4_2 : Int) := of_decide_eq_true (by first | (with_reducible assumption) | assumption)
                                have q11 : x4_2 < (a0.size : Int) := of_decide_eq_true (by first | (with_reducible assumption) | assumption)
                                have hx11 := bt_at a0 x4_2
                                replace p11 := eq_true p11
                                replace q11 := eq_true q11
                                go_wp2
                                go_roundg k2
                                case measure => have := HJ1.out; have := HK2.out; omega
                                case rel => exact ⟨((x3_2 ++ (⟨#[92]⟩ : ByteArray)) ++ (a0.extract (x4_2 : Int).toNat ((wrap64 (x4_2 + 1)) : Int).toNat)), (wrap64 (x4_2 + 1)), (by first | rfl | (simp; done) | (simp [*]; done)), (by first | rfl | (simp; done) | (simp [*]; done)), H', ⟨by have := HJ1.out; have := HK2.out; omega⟩, ⟨by repeat (first | (with_reducible first | exact HB.out | apply below_alloc | apply pw_below_drewN | apply below_drew1) | exact HB.out)⟩⟩
                              · rw [if_neg c77] at H
                                exact absurd H (by simp)
                            · rw [if_neg c76] at H
                              exact absurd H (by simp)
                          · rw [if_neg c75] at H
                            exact absurd H (by simp)
                        · rw [if_neg c73] at H
                          exact absurd H (by simp)
                  · rw [if_neg c56] at H
                    have c56b0 : decide (65 ≤ (bt a0 x4_2)) = false := decide_eq_false c56
                    clear c56
                    by_cases c78 : (bt a0 x4_2) ≥ 48
                    · rw [if_pos c78] at H
                      have c78b0 : decide (48 ≤ (bt a0 x4_2)) = true := decide_eq_true c78
                      clear c78
                      by_cases c79 : ((bt a0 x4_2) ≤ 57)
                      · rw [if_pos c79] at H
                        have c79b0 : decide ((bt a0 x4_2) ≤ 57) = true := decide_eq_true c79
                        clear c79
                        have c80b0 := eq_true (of_decide_eq_true (by first | (with_reducible assumption) | assumption) : 0 ≤ x4_2)
                        by_cases c81 : x4_2 ≤ (wrap64 (x4_2 + 1))
                        · rw [if_pos c81] at H
                          have c81b0 := eq_true c81
                          have c81b1 : decide (x4_2 ≤ (wrap64 (x4_2 + 1))) = true := decide_eq_true c81
                          by_cases c82 : (wrap64 (x4_2 + 1)) ≤ (a0.size : Int)
                          · rw [if_pos c82] at H
                            have c82b0 := eq_true c82
                            have c82b1 : decide ((wrap64 (x4_2 + 1)) ≤ (a0.size : Int)) = true := decide_eq_true c82
                            by_cases c83 : x3_2.size + (a0.extract (x4_2 : Int).toNat ((wrap64 (x4_2 + 1)) : Int).toNat).size ≤ 9223372036854775807
                            · rw [if_pos c83] at H
                              have c83b0 := eq_true c83
                              have c83b1 : decide (x3_2.size + (a0.extract (x4_2 : Int).toNat ((wrap64 (x4_2 + 1)) : Int).toNat).size ≤ 9223372036854775807) = true := decide_eq_true c83
                              try have c83b2 : (9223372036854775807 < x3_2.size + (a0.extract (x4_2 : Int).toNat ((wrap64 (x4_2 + 1)) : Int).toNat).size) = False := eq_false (Nat.not_lt.2 c83)
                              have H' := Aside0.mk H
                              clear H
                              have p11 : 0 ≤ (x4_2 : Int) := of_decide_eq_true (by first | (with_reducible assumption) | assumption)
                              have q11 : x4_2 < (a0.size : Int) := of_decide_eq_true (by first | (with_reducible assumption) | assumption)
                              have hx11 := bt_at a0 x4_2
                              replace p11 := eq_true p11
                              replace q11 := eq_true q11
                              go_wp2
                              go_roundg k2
                              case measure => have := HJ1.out; have := HK2.out; omega
                              case rel => exact ⟨(x3_2 ++ (a0.extract (x4_2 : Int).toNat ((wrap64 (x4_2 + 1)) : Int).toNat)), (wrap64 (x4_2 + 1)), (by first | rfl | (simp; done) | (simp [*]; done)), (by first | rfl | (simp; done) | (simp [*]; done)), H', ⟨by have := HJ1.out; have := HK2.out; omega⟩, ⟨by repeat (first | (with_reducible first | exact HB.out | apply below_alloc | apply pw_below_drewN | apply below_drew1) | exact HB.out)⟩⟩
                            · rw [if_neg c83] at H
                              exact absurd H (by simp)
                          · rw [if_neg c82] at H
                            exact absurd H (by simp)
                        · rw [if_neg c81] at H
                          exact absurd H (by simp)
                      · rw [if_neg c79] at H
                        have c79b0 : decide ((bt a0 x4_2) ≤ 57) = false := decide_eq_false c79
                        clear c79
                        by_cases c84 : x3_2.size + 1 ≤ 9223372036854775807
                        · rw [if_pos c84] at H
                          have c84b0 := eq_true c84
                          have c84b1 : decide (x3_2.size + 1 ≤ 9223372036854775807) = true := decide_eq_true c84
                          try have c84b2 : (9223372036854775807 < x3_2.size + 1) = False := eq_false (Nat.not_lt.2 c84)
                          have c85b0 := eq_true (of_decide_eq_true (by first | (with_reducible assumption) | assumption) : 0 ≤ x4_2)
                          by_cases c86 : x4_2 ≤ (wrap64 (x4_2 + 1))
                          · rw [if_pos c86] at H
                            have c86b0 := eq_true c86
                            have c86b1 : decide (x4_2 ≤ (wrap64 (x4_2 + 1))) = true := decide_eq_true c86
                            by_cases c87 : (wrap64 (x4_2 + 1)) ≤ (a0.size : Int)
                            · rw [if_pos c87] at H
                              have c87b0 := eq_true c87
                              have c87b1 : decide ((wrap64 (x4_2 + 1)) ≤ (a0.size : Int)) = true := decide_eq_true c87
                              by_cases c88 : (x3_2 ++ (⟨#[92]⟩ : ByteArray)).size + (a0.extract (x4_2 : Int).toNat ((wrap64 (x4_2 + 1)) : Int).toNat).size ≤ 9223372036854775807
                              · rw [if_pos c88] at H
                                have c88b0 := eq_true c88
                                have c88b1 : decide ((x3_2 ++ (⟨#[92]⟩ : ByteArray)).size + (a0.extract (x4_2 : Int).toNat ((wrap64 (x4_2 + 1)) : Int).toNat).size ≤ 9223372036854775807) = true := decide_eq_true c88
                                try have c88b2 : (9223372036854775807 < (x3_2 ++ (⟨#[92]⟩ : ByteArray)).size + (a0.extract (x4_2 : Int).toNat ((wrap64 (x4_2 + 1)) : Int).toNat).size) = False := eq_false (Nat.not_lt.2 c88)
                                have H' := Aside0.mk H
                                clear H
                                have p11 : 0 ≤ (x4_2 : Int) := of_decide_eq_true (by first | (with_reducible assumption) | assumption)
                                have q11 : x4_2 < (a0.size : Int) := of_decide_eq_true (by first | (with_reducible assumption) | assumption)
                                have hx11 := bt_at a0 x4_2
                                replace p11 := eq_true p11
                                replace q11 := eq_true q11
                                go_wp2
                                go_roundg k2
                                case measure => have := HJ1.out; have := HK2.out; omega
                                case rel => exact ⟨((x3_2 ++ (⟨#[92]⟩ : ByteArray)) ++ (a0.extract (x4_2 : Int).toNat ((wrap64 (x4_2 + 1)) : Int).toNat)), (wrap64 (x4_2 + 1)), (by first | rfl | (simp; done) | (simp [*]; done)), (by first | rfl | (simp; done) | (simp [*]; done)), H', ⟨by have := HJ1.out; have := HK2.out; omega⟩, ⟨by repeat (first | (with_reducible first | exact HB.out | apply below_alloc | apply pw_below_drewN | apply below_drew1) | exact HB.out)⟩⟩
                              · rw [if_neg c88] at H
                                exact absurd H (by simp)
                            · rw [if_neg c87] at H
                              exact absurd H (by simp)
                          · rw [if_neg c86] at H
                            exact absurd H (by simp)
                        · rw [if_neg c84] at H
                          exact absurd H (by simp)
                    · rw [if_neg c78] at H
                      have c78b0 : decide (48 ≤ (bt a0 x4_2)) = false := decide_eq_false c78
                      clear c78
                      by_cases c89 : x3_2.size + 1 ≤ 9223372036854775807
                      · rw [if_pos c89] at H
                        have c89b0 := eq_true c89
                        have c89b1 : decide (x3_2.size + 1 ≤ 9223372036854775807) = true := decide_eq_true c89
                        try have c89b2 : (9223372036854775807 < x3_2.size + 1) = False := eq_false (Nat.not_lt.2 c89)
                        have c90b0 := eq_true (of_decide_eq_true (by first | (with_reducible assumption) | assumption) : 0 ≤ x4_2)
                        by_cases c91 : x4_2 ≤ (wrap64 (x4_2 + 1))
                        · rw [if_pos c91] at H
                          have c91b0 := eq_true c91
                          have c91b1 : decide (x4_2 ≤ (wrap64 (x4_2 + 1))) = true := decide_eq_true c91
                          by_cases c92 : (wrap64 (x4_2 + 1)) ≤ (a0.size : Int)
                          · rw [if_pos c92] at H
                            have c92b0 := eq_true c92
                            have c92b1 : decide ((wrap64 (x4_2 + 1)) ≤ (a0.size : Int)) = true := decide_eq_true c92
                            by_cases c93 : (x3_2 ++ (⟨#[92]⟩ : ByteArray)).size + (a0.extract (x4_2 : Int).toNat ((wrap64 (x4_2 + 1)) : Int).toNat).size ≤ 9223372036854775807
                            · rw [if_pos c93] at H
                              have c93b0 := eq_true c93
                              have c93b1 : decide ((x3_2 ++ (⟨#[92]⟩ : ByteArray)).size + (a0.extract (x4_2 : Int).toNat ((wrap64 (x4_2 + 1)) : Int).toNat).size ≤ 9223372036854775807) = true := decide_eq_true c93
                              try have c93b2 : (9223372036854775807 < (x3_2 ++ (⟨#[92]⟩ : ByteArray)).size + (a0.extract (x4_2 : Int).toNat ((wrap64 (x4_2 + 1)) : Int).toNat).size) = False := eq_false (Nat.not_lt.2 c93)
                              have H' := Aside0.mk H
                              clear H
                              have p11 : 0 ≤ (x4_2 : Int) := of_decide_eq_true (by first | (with_reducible assumption) | assumption)
                              have q11 : x4_2 < (a0.size : Int) := of_decide_eq_true (by first | (with_reducible assumption) | assumption)
                              have hx11 := bt_at a0 x4_2
                              replace p11 := eq_true p11
                              replace q11 := eq_true q11
                              go_wp2
                              go_roundg k2
                              case measure => have := HJ1.out; have := HK2.out; omega
                              case rel => exact ⟨((x3_2 ++ (⟨#[92]⟩ : ByteArray)) ++ (a0.extract (x4_2 : Int).toNat ((wrap64 (x4_2 + 1)) : Int).toNat)), (wrap64 (x4_2 + 1)), (by first | rfl | (simp; done) | (simp [*]; done)), (by first | rfl | (simp; done) | (simp [*]; done)), H', ⟨by have := HJ1.out; have := HK2.out; omega⟩, ⟨by repeat (first | (with_reducible first | exact HB.out | apply below_alloc | apply pw_below_drewN | apply below_drew1) | exact HB.out)⟩⟩
                            · rw [if_neg c93] at H
                              exact absurd H (by simp)
                          · rw [if_neg c92] at H
                            exact absurd H (by simp)
                        · rw [if_neg c91] at H
                          exact absurd H (by simp)
                      · rw [if_neg c89] at H
                        exact absurd H (by simp)
              · rw [if_neg c10] at H
                exact absurd H (by simp)
            · rw [if_neg c9] at H
              have c9b0 : decide (x4_2 < (a0.size : Int)) = false := decide_eq_false c9
              clear c9
              replace H := Option.bind_eq_some_iff.mp H
              obtain ⟨t185, A940, H⟩ := H
              replace H : (if a0.toList = ([] : List UInt8) then (some ((t185.length : Int) == 0)) else (if (t185.length : Int) = 1 then (if 0 < (t185.length : Int) then (some (((rd_T42 t185 0).f0) == 1 && ((((rd_T42 t185 0).f1).toList) == a0.toList && (((rd_T42 t185 0).f2) == 0 && (((rd_T42 t185 0).f3) == 0))))) else (none)) else (some false))) = some r := H
              have A94 := Aside0.mk A940
              clear A940
              by_cases c95 : a0.toList = ([] : List UInt8)
              · rw [if_pos c95] at H
                have c95b0 : (a0.toList == ([] : List UInt8)) = true := beq_iff_eq.mpr c95
                have c95b1 : (a0.toList != ([] : List UInt8)) = false := bne_eq_false_iff_eq.mpr c95
                clear c95
                obtain rfl := Option.some.inj H
                go_wp2_with (first | ((with_reducible refine gate_callee (f := 21) rfl ?_); refine goesL_ (some 57) rfl rfl Try.func21 (by kernel_rfl) rfl #[.string x3_2] rfl (by (try simp only [List.map_toArray, List.map_cons, List.map_nil]); first | done | rfl | (simp only [List.length_drop, List.length_take]; rfl)) ?_; (with_reducible refine (tmpl_Parse.calls x3_2 t185 _ A94.out).mono ?_); rintro e w96 ⟨v186, rfl, ho0, hb⟩; refine ⟨_, rfl, ?_⟩; have n0_ := Aside0.mk (Kd.R_lower ho0 (below_size (by repeat (first | (with_reducible first | exact HB.out | apply below_alloc | apply pw_below_drewN | apply below_drew1) | exact HB.out)))); have n1_ := Aside0.mk (below_step (by repeat (first | (with_reducible first | exact HB.out | apply below_alloc | apply pw_below_drewN | apply below_drew1) | exact HB.out)) hb); clear HB; have HO187 := n0_; have HB := n1_; clear n0_ n1_; (try clear hb); (try clear hb2); (try clear hk); (try clear hi); (try clear ho0); obtain ⟨Ao97, co97, eo97⟩ := Kd.R_slice HO187.out; subst eo97))
                go_ret
                exact ⟨by first | rfl | (simp [errW_none, errW_some] <;> rfl) | (simp [*, errW_none, errW_some] <;> rfl), by repeat (first | (with_reducible first | exact HB.out | apply below_alloc | apply pw_below_drewN | apply below_drew1) | exact HB.out)⟩
              · rw [if_neg c95] at H
                have c95b0 : (a0.toList == ([] : List UInt8)) = false := beq_eq_false_iff_ne.mpr c95
                have c95b1 : (a0.toList != ([] : List UInt8)) = true := bne_iff_ne.mpr c95
                by_cases c98 : (t185.length : Int) = 1
                · rw [if_pos c98] at H
                  have c98b0 : ((t185.length : Int) == 1) = true := beq_iff_eq.mpr c98
                  have c98b1 : ((t185.length : Int) != 1) = false := bne_eq_false_iff_eq.mpr c98
                  clear c98
                  by_cases c99 : 0 < (t185.length : Int)
                  · rw [if_pos c99] at H
                    have c99b0 : decide (0 < (t185.length : Int)) = true := decide_eq_true c99
                    have c99b1 : decide (0 < t185.length) = true := decide_eq_true (by omega)
                    clear c99
                    obtain rfl := Option.some.inj H
                    go_wp2_with (first | ((with_reducible refine gate_callee (f := 21) rfl ?_); refine goesL_ (some 57) rfl rfl Try.func21 (by kernel_rfl) rfl #[.string x3_2] rfl (by (try simp only [List.map_toArray, List.map_cons, List.map_nil]); first | done | rfl | (simp only [List.length_drop, List.length_take]; rfl)) ?_; (with_reducible refine (tmpl_Parse.calls x3_2 t185 _ A94.out).mono ?_); rintro e w100 ⟨v186, rfl, ho0, hb⟩; refine ⟨_, rfl, ?_⟩; have n0_ := Aside0.mk (Kd.R_lower ho0 (below_size (by repeat (first | (with_reducible first | exact HB.out | apply below_alloc | apply pw_below_drewN | apply below_drew1) | exact HB.out)))); have n1_ := Aside0.mk (below_step (by repeat (first | (with_reducible first | exact HB.out | apply below_alloc | apply pw_below_drewN | apply below_drew1) | exact HB.out)) hb); clear HB; have HO187 := n0_; have HB := n1_; clear n0_ n1_; (try clear hb); (try clear hb2); (try clear hk); (try clear hi); (try clear ho0); obtain ⟨Ao101, co101, eo101⟩ := Kd.R_slice HO187.out; subst eo101; have p188 : 0 ≤ (0 : Int) := (by omega); have q188 : 0 < (t185.length : Int) := of_decide_eq_true (by first | (with_reducible assumption) | assumption); obtain ⟨ad188, e188, hx188_0, hx188_1, hx188_2, hx188_3⟩ := at_T42 (Kd.R_reads' HO187.out).2.2 0 p188 q188; cases e188; have qi188 : (0 < t185.length) = True := eq_true (by omega); (try rw [show ((0 : Int)).toNat = 0 from rfl] at hx188_0); (try rw [show 0 * 4 = 0 from rfl] at hx188_0); (try rw [Addr.add_zero'] at hx188_0); (try rw [show ((0 : Int)).toNat = 0 from rfl] at hx188_1); (try rw [show 0 * 4 = 0 from rfl] at hx188_1); (try rw [Addr.add_zero'] at hx188_1); (try rw [show ((0 : Int)).toNat = 0 from rfl] at hx188_2); (try rw [show 0 * 4 = 0 from rfl] at hx188_2); (try rw [Addr.add_zero'] at hx188_2); (try rw [show ((0 : Int)).toNat = 0 from rfl] at hx188_3); (try rw [show 0 * 4 = 0 from rfl] at hx188_3); (try rw [Addr.add_zero'] at hx188_3); replace p188 := eq_true p188; replace q188 := eq_true q188))
                    go_ret
                    exact ⟨by first | rfl | (simp [errW_none, errW_some] <;> rfl) | (simp [*, errW_none, errW_some] <;> rfl), by repeat (first | (with_reducible first | exact HB.out | apply below_alloc | apply pw_below_drewN | apply below_drew1) | exact HB.out)⟩
                  · rw [if_neg c99] at H
                    exact absurd H (by simp)
                · rw [if_neg c98] at H
                  have c98b0 : ((t185.length : Int) == 1) = false := beq_eq_false_iff_ne.mpr c98
                  have c98b1 : ((t185.length : Int) != 1) = true := bne_iff_ne.mpr c98
                  obtain rfl := Option.some.inj H
                  go_wp2_with (first | ((with_reducible refine gate_callee (f := 21) rfl ?_); refine goesL_ (some 57) rfl rfl Try.func21 (by kernel_rfl) rfl #[.string x3_2] rfl (by (try simp only [List.map_toArray, List.map_cons, List.map_nil]); first | done | rfl | (simp only [List.length_drop, List.length_take]; rfl)) ?_; (with_reducible refine (tmpl_Parse.calls x3_2 t185 _ A94.out).mono ?_); rintro e w102 ⟨v186, rfl, ho0, hb⟩; refine ⟨_, rfl, ?_⟩; have n0_ := Aside0.mk (Kd.R_lower ho0 (below_size (by repeat (first | (with_reducible first | exact HB.out | apply below_alloc | apply pw_below_drewN | apply below_drew1) | exact HB.out)))); have n1_ := Aside0.mk (below_step (by repeat (first | (with_reducible first | exact HB.out | apply below_alloc | apply pw_below_drewN | apply below_drew1) | exact HB.out)) hb); clear HB; have HO187 := n0_; have HB := n1_; clear n0_ n1_; (try clear hb); (try clear hb2); (try clear hk); (try clear hi); (try clear ho0); obtain ⟨Ao103, co103, eo103⟩ := Kd.R_slice HO187.out; subst eo103))
                  go_ret
                  exact ⟨by first | rfl | (simp [errW_none, errW_some] <;> rfl) | (simp [*, errW_none, errW_some] <;> rfl), by repeat (first | (with_reducible first | exact HB.out | apply below_alloc | apply pw_below_drewN | apply below_drew1) | exact HB.out)⟩

/-- THE ONE PURE STATEMENT of emendatorlaw07_TmplPlain: yours. -/
def emendatorlaw07_TmplPlain.Pure : Prop := ∀ (a0 : ByteArray), a0.size ≤ 140737488351232 → ∃ k, emendatorlaw07_TmplPlain.f k a0 = some true
theorem emendatorlaw07_TmplPlain.walk (P : emendatorlaw07_TmplPlain.Pure) (a0 : ByteArray) (w : World) (w0 : a0.size ≤ 140737488351232) :
    Calls Try.prog 8 #[.string a0] w fun e w' => e = .returned (.bool true) ∧ Below w.heap.size w w' := by
  obtain ⟨k, h⟩ := P a0 w0
  refine (emendatorlaw07_TmplPlain.calls k a0 true w h).mono ?_
  rintro e w' ⟨rfl, hd⟩
  exact ⟨rfl, hd⟩

end Go.Proofs.Ytccalibapiiifaa.T
