-- Printed for this claim by gprint.py, a program of mine over the kit's printer; Lean checks it.
import Derived.Test.YtccalibapiiifaaT0
import Derived.Test.YtccalibapiiifaaT3
import Derived.Test.YtccalibapiiifaaTknown
namespace Go.Proofs.Ytccalibapiiifaa.T
open Go.RowKit Go.Proofs.YtccalibapiiifaaW.PrintWords Go.Proofs.YtccalibapiiifaaW.PrintLast Go.Proofs.YtccalibapiiifaaW.PrintMore
attribute [local go_sem] max2_int min2_int max_two min_two max_three min_three max_four min_four   -- for this text's walks alone
set_option linter.unusedVariables false
set_option linter.unusedSimpArgs false

/-! ### emendatorref07_Parse: function 23 -/
mutual
def emendatorref07_Parse.l0 : Nat → ByteArray → List (S42) → Int → Option ((List (S42)))
  | 0, _, _, _ => none
  | k + 1, x0, x3, x4 => if x4 < (x0.size : Int) then (if 0 ≤ x4 then (if (bt x0 x4) = 92 then (emendatorref07_Parse.j1 k x0 x3 x4 (decide ((wrap64 (x4 + 1)) < (x0.size : Int)))) else (emendatorref07_Parse.j1 k x0 x3 x4 false)) else (none)) else (some x3)
def emendatorref07_Parse.j1 : Nat → ByteArray → List (S42) → Int → Bool → Option ((List (S42)))
  | 0, _, _, _, _ => none
  | k + 1, x0, x3, x4, x21 => if x21 = true then (if 0 ≤ (wrap64 (x4 + 1)) then (if (wrap64 (x4 + 1)) < (x0.size : Int) then ((emendatorref07_slash.f k x3 (bt x0 (wrap64 (x4 + 1)))).bind fun t155 => (emendatorref07_Parse.l0 k x0 t155 (wrap64 ((wrap64 (x4 + 1)) + 1)))) else (none)) else (none)) else (if 0 ≤ x4 then (if x4 < (x0.size : Int) then (if (bt x0 x4) = 38 then (if x3.length < 3518437208883 then (emendatorref07_Parse.l0 k x0 (x3 ++ [(⟨2, (⟨#[]⟩ : ByteArray), 0, 0⟩ : S42)]) (wrap64 (x4 + 1))) else (none)) else (if x4 ≤ (wrap64 (x4 + 1)) then (if (wrap64 (x4 + 1)) ≤ (x0.size : Int) then ((emendatorref07_text.f x3 (x0.extract (x4 : Int).toNat ((wrap64 (x4 + 1)) : Int).toNat)).bind fun t161 => (emendatorref07_Parse.l0 k x0 t161 (wrap64 (x4 + 1)))) else (none)) else (none))) else (none)) else (none))
end
def emendatorref07_Parse.f (k : Nat) (a0 : ByteArray) : Option ((List (S42))) := emendatorref07_Parse.l0 k a0 ([] : List (S42)) 0
theorem emendatorref07_Parse.mono_l : ∀ k, (∀ y0 y1 y2, LeO (emendatorref07_Parse.l0 k y0 y1 y2) (emendatorref07_Parse.l0 (k + 1) y0 y1 y2)) ∧ (∀ y0 y1 y2 y3, LeO (emendatorref07_Parse.j1 k y0 y1 y2 y3) (emendatorref07_Parse.j1 (k + 1) y0 y1 y2 y3))
  | 0 => ⟨fun _ _ _ r h => by simp [emendatorref07_Parse.l0] at h, fun _ _ _ _ r h => by simp [emendatorref07_Parse.j1] at h⟩
  | k + 1 => by
    obtain ⟨ih0, ih1⟩ := emendatorref07_Parse.mono_l k
    refine ⟨?_, ?_⟩
    · intro y0 y1 y2
      unfold emendatorref07_Parse.l0
      repeat' first
      | (with_reducible exact ih0 _ _ _)
      | (with_reducible exact ih1 _ _ _ _)
      | (with_reducible exact emendatorref07_slash.mono _ _ _)
      | (with_reducible exact LeO.refl _)
      | (with_reducible exact LeO.none _)
      | (with_reducible refine LeO.ite ?_ ?_)
      | (with_reducible refine LeO.bind ?_ (fun _ => ?_))
      | exact ih0 _ _ _
      | exact ih1 _ _ _ _
      | exact emendatorref07_slash.mono _ _ _
      | exact LeO.none _
      | refine LeO.ite ?_ ?_
      | refine LeO.bind ?_ (fun _ => ?_)
    · intro y0 y1 y2 y3
      unfold emendatorref07_Parse.j1
      repeat' first
      | (with_reducible exact ih0 _ _ _)
      | (with_reducible exact ih1 _ _ _ _)
      | (with_reducible exact emendatorref07_slash.mono _ _ _)
      | (with_reducible exact LeO.refl _)
      | (with_reducible exact LeO.none _)
      | (with_reducible refine LeO.ite ?_ ?_)
      | (with_reducible refine LeO.bind ?_ (fun _ => ?_))
      | exact ih0 _ _ _
      | exact ih1 _ _ _ _
      | exact emendatorref07_slash.mono _ _ _
      | exact LeO.none _
      | refine LeO.ite ?_ ?_
      | refine LeO.bind ?_ (fun _ => ?_)
theorem emendatorref07_Parse.mono : ∀ a0 k, LeO (emendatorref07_Parse.f k a0) (emendatorref07_Parse.f (k + 1) a0) := by
  intro a0 k
  obtain ⟨ih0, ih1⟩ := emendatorref07_Parse.mono_l k
  unfold emendatorref07_Parse.f
  repeat' first
      | (with_reducible exact ih0 _ _ _)
      | (with_reducible exact ih1 _ _ _ _)
      | (with_reducible exact emendatorref07_slash.mono _ _ _)
      | (with_reducible exact LeO.refl _)
      | (with_reducible exact LeO.none _)
      | (with_reducible refine LeO.ite ?_ ?_)
      | (with_reducible refine LeO.bind ?_ (fun _ => ?_))
      | exact ih0 _ _ _
      | exact ih1 _ _ _ _
      | exact emendatorref07_slash.mono _ _ _
      | exact LeO.none _
      | refine LeO.ite ?_ ?_
      | refine LeO.bind ?_ (fun _ => ?_)
set_option maxHeartbeats 8000000 in
set_option maxRecDepth 100000 in
theorem emendatorref07_Parse.calls (k : Nat) (a0 : ByteArray) (r : List (S42)) (w : World) (h : emendatorref07_Parse.f k a0 = some r) :
    Calls Try.prog 23 #[.string a0] w fun e w' => ∃ v0_ : Value, e = .returned (v0_) ∧ Kd.R k42 42 w' w.heap.size (fun _ => True) v0_ r ∧ Below w.heap.size w w' := by
  have hu42 := Try.underlying42
  have HB := Aside0.mk (Below.refl w.heap.size w)
  have H : (emendatorref07_Parse.l0 k a0 ([] : List (S42)) 0) = some r := h
  clear h
  have H' := Aside0.mk H
  clear H
  go_enter Try.func23, Try.ntmps23
  go_wp2
  go_loopg [3, 4] k (fun kq v3 v4 w' => ∃ (x3_1 : List (S42)) (x4_1 : Int), v4 = .int .i64 x4_1 ∧ Aside0 (emendatorref07_Parse.l0 kq a0 x3_1 x4_1 = some r) ∧ Aside0 (kq ≤ k) ∧ Aside0 (Kd.R k42 42 w' w.heap.size (fun _ => True) v3 x3_1) ∧ Aside0 (Below w.heap.size w w'))
  case atStart => exact ⟨(([] : List (S42))), (0), (by first | rfl | (simp; done) | (simp [*]; done)), H', ⟨Nat.le_refl _⟩, ⟨by first | exact Kd.R_nil _ _ _ _ _ | exact Kd.N_nil _ _ _ _ _ | exact Kd.V_nil _ _ _ _ _ | exact Kd.Q_nil _ _ _ _ _ | exact Kd.S_nil _ _ _ _ _⟩, ⟨by repeat (first | (with_reducible first | exact HB.out | apply below_alloc | apply pw_below_drewN | apply below_drew1) | exact HB.out)⟩⟩
  case round =>
    clear H'
    obtain ⟨x3_1, x4_1, rfl, HA, HK1, HO_3, HB⟩ := hrel
    cases gk with
    | zero => exact absurd HA.out (by simp [emendatorref07_Parse.l0])
    | succ k1 =>
      have H := HA.out
      clear HA
      simp only [emendatorref07_Parse.l0] at H
      by_cases c2 : x4_1 < (a0.size : Int)
      · rw [if_pos c2] at H
        have c2b0 : decide (x4_1 < (a0.size : Int)) = true := decide_eq_true c2
        clear c2
        have HC3 := Aside0.mk H
        clear H
        go_upto_region 5 with (fail)
        go_cut [21] (fun v21 wc => ∃ (kq : Nat) (x21_2 : Bool), v21 = .bool x21_2 ∧ Aside0 (emendatorref07_Parse.j1 kq a0 x3_1 x4_1 x21_2 = some r) ∧ Aside0 (kq ≤ k1) ∧ Aside0 (Kd.R k42 42 wc w.heap.size (fun _ => True) u3 x3_1) ∧ Aside0 (Below w.heap.size w wc))
        case first =>
          have H := HC3.out
          clear HC3
          by_cases c4 : 0 ≤ x4_1
          · rw [if_pos c4] at H
            have c4b0 : decide (0 ≤ x4_1) = true := decide_eq_true c4
            clear c4
            (first | rw [c4b0] | (simp only [i64_w, i32_w]; rw [c4b0]) | skip)
            by_cases c6 : (bt a0 x4_1) = 92
            · rw [if_pos c6] at H
              have c6b0 : ((bt a0 x4_1) == 92) = true := beq_iff_eq.mpr c6
              have c6b1 : ((bt a0 x4_1) != 92) = false := bne_eq_false_iff_eq.mpr c6
              clear c6
              have H' := Aside0.mk H
              clear H
              have p5 : 0 ≤ (x4_1 : Int) := of_decide_eq_true (by first | (with_reducible assumption) | assumption)
              have q5 : x4_1 < (a0.size : Int) := of_decide_eq_true (by first | (with_reducible assumption) | assumption)
              have hx5 := bt_at a0 x4_1
              replace p5 := eq_true p5
              replace q5 := eq_true q5
              go_wp2
              go_meet
              case rel => exact ⟨_, (decide ((wrap64 (x4_1 + 1)) < (a0.size : Int))), (by first | rfl | (simp; done) | (simp [*]; done)), H', ⟨by have := HK1.out; first | omega | exact Nat.le_refl _⟩, ⟨by (with_reducible repeat (first | apply Kd.R_alloc | apply Kd.R_drewN | apply Kd.R_drew)); exact HO_3.out⟩, ⟨by repeat (first | (with_reducible first | exact HB.out | apply below_alloc | apply pw_below_drewN | apply below_drew1) | exact HB.out)⟩⟩
            · rw [if_neg c6] at H
              have c6b0 : ((bt a0 x4_1) == 92) = false := beq_eq_false_iff_ne.mpr c6
              have c6b1 : ((bt a0 x4_1) != 92) = true := bne_iff_ne.mpr c6
              have H' := Aside0.mk H
              clear H
              have p5 : 0 ≤ (x4_1 : Int) := of_decide_eq_true (by first | (with_reducible assumption) | assumption)
              have q5 : x4_1 < (a0.size : Int) := of_decide_eq_true (by first | (with_reducible assumption) | assumption)
              have hx5 := bt_at a0 x4_1
              replace p5 := eq_true p5
              replace q5 := eq_true q5
              go_wp2
              go_meet
              case rel => exact ⟨_, (false), (by first | rfl | (simp; done) | (simp [*]; done)), H', ⟨by have := HK1.out; first | omega | exact Nat.le_refl _⟩, ⟨by (with_reducible repeat (first | apply Kd.R_alloc | apply Kd.R_drewN | apply Kd.R_drew)); exact HO_3.out⟩, ⟨by repeat (first | (with_reducible first | exact HB.out | apply below_alloc | apply pw_below_drewN | apply below_drew1) | exact HB.out)⟩⟩
          · rw [if_neg c4] at H
            exact absurd H (by simp)
        case rest =>
          clear HC3
          try clear c2
          try clear c2b0
          try clear p2
          try clear c4
          try clear c4b0
          try clear p5
          try clear q5
          try clear hx5
          try clear c6
          try clear c6b0
          try clear c6b1
          try clear p6
          try clear p5
          try clear q5
          obtain ⟨kq, x21_2, rfl, HA, HJ2, HO_3, HB⟩ := hcut
          cases kq with
          | zero => exact absurd HA.out (by simp [emendatorref07_Parse.j1])
          | succ kj2 =>
            have H := HA.out
            clear HA
            simp only [emendatorref07_Parse.j1] at H
            by_cases c7 : x21_2 = true
            · subst c7
              have H1 : (if 0 ≤ (wrap64 (x4_1 + 1)) then (if (wrap64 (x4_1 + 1)) < (a0.size : Int) then ((emendatorref07_slash.f kj2 x3_1 (bt a0 (wrap64 (x4_1 + 1)))).bind fun t155 => (emendatorref07_Parse.l0 kj2 a0 t155 (wrap64 ((wrap64 (x4_1 + 1)) + 1)))) else (none)) else (none)) = some r := by rw [if_pos rfl] at H; exact H
              clear H
              have H := H1
              clear H1
              obtain ⟨ji8, hji8⟩ : ∃ j_ : Int, (wrap64 (x4_1 + 1)) = j_ := ⟨_, rfl⟩
              replace H : (if 0 ≤ (ji8) then (if (ji8) < (a0.size : Int) then ((emendatorref07_slash.f kj2 x3_1 (bt a0 (ji8))).bind fun t155 => (emendatorref07_Parse.l0 kj2 a0 t155 (wrap64 ((ji8) + 1)))) else (none)) else (none)) = some r := by first | (rw [hji8] at H; exact H) | (simp only [hji8] at H ⊢; exact H)
              have hji8w : (IntKind.i64.wrap (x4_1 + 1)) = ji8 := (i64_w _).trans hji8
              by_cases c9 : 0 ≤ (ji8)
              · rw [if_pos c9] at H
                have c9b0 : decide (0 ≤ (ji8)) = true := decide_eq_true c9
                clear c9
                by_cases c10 : (ji8) < (a0.size : Int)
                · rw [if_pos c10] at H
                  have c10b0 : decide ((ji8) < (a0.size : Int)) = true := decide_eq_true c10
                  clear c10
                  replace H := Option.bind_eq_some_iff.mp H
                  obtain ⟨t155, A120, H⟩ := H
                  replace H : (emendatorref07_Parse.l0 kj2 a0 t155 (wrap64 ((ji8) + 1))) = some r := H
                  have A12 := Aside0.mk A120
                  clear A120
                  have H' := Aside0.mk H
                  clear H
                  have p11 : 0 ≤ ((ji8) : Int) := of_decide_eq_true (by first | (with_reducible assumption) | assumption)
                  have q11 : (ji8) < (a0.size : Int) := of_decide_eq_true (by first | (with_reducible assumption) | assumption)
                  have hx11 := bt_at a0 (ji8)
                  replace p11 := eq_true p11
                  replace q11 := eq_true q11
                  obtain ⟨Ao13, co13, eo13⟩ := Kd.R_slice HO_3.out
                  subst eo13
                  go_wp2_with (first | ((with_reducible refine gate_callee (f := 41) rfl ?_); refine goesL_ (some 28) rfl rfl Try.func41 (by kernel_rfl) rfl #[.slice Ao13 x3_1.length co13, .int .u8 (bt a0 (ji8))] rfl (by (try simp only [List.map_toArray, List.map_cons, List.map_nil]); first | done | (simp only [hji8]; rfl) | rfl | (simp only [List.length_drop, List.length_take]; rfl)) ?_; (with_reducible refine (emendatorref07_slash.calls kj2 (fun k_ => some k_ = (.slice Ao13 x3_1.length co13 : Value).ownBlock) (.slice Ao13 x3_1.length co13) x3_1 (bt a0 (ji8)) t155 w _ ?side1 ?side2 A12.out).mono ?_); (case side1 => repeat (first | (with_reducible first | exact HB.out | apply below_alloc | apply pw_below_drewN | apply below_drew1) | exact HB.out)); (case side2 => exact Kd.R_tight rfl HO_3.out); rintro e w14 ⟨v156, rfl, ho0, hb, hkp⟩; refine ⟨_, rfl, ?_⟩; have n0_ := Aside0.mk (Kd.R_mono (ok' := fun k_ => True) ho0 (fun k_ hk_ => trivial)); have n1_ := Aside0.mk (hb); clear HB; clear HO_3; have HO157 := n0_; have HB := n1_; clear n0_ n1_; (try clear hb); (try clear hkp); (try clear ho0)))
                  go_roundg kj2
                  case measure => have := HK1.out; have := HJ2.out; omega
                  case rel => exact ⟨(t155), (wrap64 ((ji8) + 1)), (by first | rfl | (simp; done) | (simp only [← hji8] <;> (first | rfl | simp)) | (simp [*]; done)), H', ⟨by have := HK1.out; have := HJ2.out; omega⟩, ⟨by (with_reducible repeat (first | apply Kd.R_alloc | apply Kd.R_drewN | apply Kd.R_drew)); exact HO157.out⟩, ⟨by repeat (first | (with_reducible first | exact HB.out | apply below_alloc | apply pw_below_drewN | apply below_drew1) | exact HB.out)⟩⟩
                · rw [if_neg c10] at H
                  exact absurd H (by simp)
              · rw [if_neg c9] at H
                exact absurd H (by simp)
            · replace c7 := Bool.eq_false_iff.mpr c7
              subst c7
              have H1 : (if 0 ≤ x4_1 then (if x4_1 < (a0.size : Int) then (if (bt a0 x4_1) = 38 then (if x3_1.length < 3518437208883 then (emendatorref07_Parse.l0 kj2 a0 (x3_1 ++ [(⟨2, (⟨#[]⟩ : ByteArray), 0, 0⟩ : S42)]) (wrap64 (x4_1 + 1))) else (none)) else (if x4_1 ≤ (wrap64 (x4_1 + 1)) then (if (wrap64 (x4_1 + 1)) ≤ (a0.size : Int) then ((emendatorref07_text.f x3_1 (a0.extract (x4_1 : Int).toNat ((wrap64 (x4_1 + 1)) : Int).toNat)).bind fun t161 => (emendatorref07_Parse.l0 kj2 a0 t161 (wrap64 (x4_1 + 1)))) else (none)) else (none))) else (none)) else (none)) = some r := by rw [if_neg (show ¬ (false = true) by decide)] at H; exact H
              clear H
              have H := H1
              clear H1
              by_cases c15 : 0 ≤ x4_1
              · rw [if_pos c15] at H
                have c15b0 : decide (0 ≤ x4_1) = true := decide_eq_true c15
                clear c15
                by_cases c16 : x4_1 < (a0.size : Int)
                · rw [if_pos c16] at H
                  have c16b0 : decide (x4_1 < (a0.size : Int)) = true := decide_eq_true c16
                  clear c16
                  by_cases c18 : (bt a0 x4_1) = 38
                  · rw [if_pos c18] at H
                    have c18b0 : ((bt a0 x4_1) == 38) = true := beq_iff_eq.mpr c18
                    have c18b1 : ((bt a0 x4_1) != 38) = false := bne_eq_false_iff_eq.mpr c18
                    clear c18
                    by_cases c19 : x3_1.length < 3518437208883
                    · rw [if_pos c19] at H
                      have LMc19 := Aside0.mk c19
                      clear c19
                      obtain ⟨y158, hy158⟩ : ∃ y_ : List (S42), y_ = (x3_1 ++ [(⟨2, (⟨#[]⟩ : ByteArray), 0, 0⟩ : S42)]) := ⟨_, rfl⟩
                      replace H : (emendatorref07_Parse.l0 kj2 a0 y158 (wrap64 (x4_1 + 1))) = some r := by first | (rw [hy158]; with_reducible exact H) | (have H2_ := (Option.bind_some _ _).symm.trans H; rw [hy158]; with_reducible exact H2_) | (have H2_ := (Option.bind_some _ _).symm.trans H; with_reducible exact H2_) | with_reducible exact H | (rw [hy158]; exact H) | exact H
                      have Ny158 := Aside0.mk hy158
                      clear hy158
                      have H' := Aside0.mk H
                      clear H
                      have p17 : 0 ≤ (x4_1 : Int) := of_decide_eq_true (by first | (with_reducible assumption) | assumption)
                      have q17 : x4_1 < (a0.size : Int) := of_decide_eq_true (by first | (with_reducible assumption) | assumption)
                      have hx17 := bt_at a0 x4_1
                      replace p17 := eq_true p17
                      replace q17 := eq_true q17
                      go_wp2_with (first | ((with_reducible refine gate_builtin (b := .append) (xs := #[.tmp 33, .tmp 35]) rfl ?_); (try (refine gate_guard (by rfl) ?_; dsimp only)); at_builtin; refine Kd.R_append k42 (w0 := w) w.heap.size rfl (.tmp 33) (.tmp 35) 38 42 (.agg #[(.int .u8 0), (.string ⟨#[]⟩), (.int .i64 0), (.int .u8 0)]) 40 rfl Try.underlying38 info42 rfl (by decide) (by omega) u3 x3_1 (⟨2, (⟨#[]⟩ : ByteArray), 0, 0⟩ : S42) [.int .u8 2, .string (⟨#[]⟩ : ByteArray), .int .i64 0, .int .u8 0] (fun _ => True) (fun _ => False) rfl rfl ?aP (fun _ hk => hk.elim) ?aF ?aO ?aB ?aS ?aL ?_; (case aP => exact k42_mkM _ _ _ (⟨2, (⟨#[]⟩ : ByteArray), 0, 0⟩ : S42)); (case aB => exact (by repeat (first | (with_reducible first | exact HB.out | apply below_alloc | apply pw_below_drewN | apply below_drew1) | exact HB.out))); (case aF => exact (fun _ _ => trivial)); (case aO => exact (by (with_reducible repeat (first | apply Kd.R_alloc | apply Kd.R_drewN | apply Kd.R_drew)); exact HO_3.out)); (case aS => exact (below_size (by repeat (first | (with_reducible first | exact HB.out | apply below_alloc | apply pw_below_drewN | apply below_drew1) | exact HB.out)))); (case aL => have := LMc19.out; omega); intro v159 w20 ho hb hg hat; rw [← Ny158.out] at ho; have n0_ := Aside0.mk (hb); have n1_ := Aside0.mk (ho); clear HB; clear HO_3; have HB := n0_; have HO160 := n1_; clear n0_ n1_; clear ho hb hg hat))
                      go_roundg kj2
                      case measure => have := HK1.out; have := HJ2.out; omega
                      case rel => exact ⟨(y158), (wrap64 (x4_1 + 1)), (by first | rfl | (simp; done) | (simp [*]; done)), H', ⟨by have := HK1.out; have := HJ2.out; omega⟩, ⟨by (with_reducible repeat (first | apply Kd.R_alloc | apply Kd.R_drewN | apply Kd.R_drew)); exact HO160.out⟩, ⟨by repeat (first | (with_reducible first | exact HB.out | apply below_alloc | apply pw_below_drewN | apply below_drew1) | exact HB.out)⟩⟩
                    · rw [if_neg c19] at H
                      exact absurd H (by simp)
                  · rw [if_neg c18] at H
                    have c18b0 : ((bt a0 x4_1) == 38) = false := beq_eq_false_iff_ne.mpr c18
                    have c18b1 : ((bt a0 x4_1) != 38) = true := bne_iff_ne.mpr c18
                    have c21b0 := eq_true (of_decide_eq_true (by first | (with_reducible assumption) | assumption) : 0 ≤ x4_1)
                    by_cases c22 : x4_1 ≤ (wrap64 (x4_1 + 1))
                    · rw [if_pos c22] at H
                      have c22b0 := eq_true c22
                      have c22b1 : decide (x4_1 ≤ (wrap64 (x4_1 + 1))) = true := decide_eq_true c22
                      by_cases c23 : (wrap64 (x4_1 + 1)) ≤ (a0.size : Int)
                      · rw [if_pos c23] at H
                        have c23b0 := eq_true c23
                        have c23b1 : decide ((wrap64 (x4_1 + 1)) ≤ (a0.size : Int)) = true := decide_eq_true c23
                        replace H := Option.bind_eq_some_iff.mp H
                        obtain ⟨t161, A240, H⟩ := H
                        replace H : (emendatorref07_Parse.l0 kj2 a0 t161 (wrap64 (x4_1 + 1))) = some r := H
                        have A24 := Aside0.mk A240
                        clear A240
                        have H' := Aside0.mk H
                        clear H
                        have p17 : 0 ≤ (x4_1 : Int) := of_decide_eq_true (by first | (with_reducible assumption) | assumption)
                        have q17 : x4_1 < (a0.size : Int) := of_decide_eq_true (by first | (with_reducible assumption) | assumption)
                        have hx17 := bt_at a0 x4_1
                        replace p17 := eq_true p17
                        replace q17 := eq_true q17
                        obtain ⟨Ao25, co25, eo25⟩ := Kd.R_slice HO_3.out
                        subst eo25
                        go_wp2_with (first | ((with_reducible refine gate_callee (f := 42) rfl ?_); refine goesL_ (some 43) rfl rfl Try.func42 (by kernel_rfl) rfl #[.slice Ao25 x3_1.length co25, .string (a0.extract (x4_1 : Int).toNat ((wrap64 (x4_1 + 1)) : Int).toNat)] rfl (by (try simp only [List.map_toArray, List.map_cons, List.map_nil]); first | done | rfl | (simp only [List.length_drop, List.length_take]; rfl)) ?_; (with_reducible refine (emendatorref07_text.calls (fun k_ => some k_ = (.slice Ao25 x3_1.length co25 : Value).ownBlock) (.slice Ao25 x3_1.length co25) x3_1 (a0.extract (x4_1 : Int).toNat ((wrap64 (x4_1 + 1)) : Int).toNat) t161 w _ ?side1 ?side2 A24.out).mono ?_); (case side1 => repeat (first | (with_reducible first | exact HB.out | apply below_alloc | apply pw_below_drewN | apply below_drew1) | exact HB.out)); (case side2 => exact Kd.R_tight rfl HO_3.out); rintro e w26 ⟨v162, rfl, ho0, hb, hkp⟩; refine ⟨_, rfl, ?_⟩; have n0_ := Aside0.mk (Kd.R_mono (ok' := fun k_ => True) ho0 (fun k_ hk_ => trivial)); have n1_ := Aside0.mk (hb); clear HB; clear HO_3; have HO163 := n0_; have HB := n1_; clear n0_ n1_; (try clear hb); (try clear hkp); (try clear ho0)))
                        go_roundg kj2
                        case measure => have := HK1.out; have := HJ2.out; omega
                        case rel => exact ⟨(t161), (wrap64 (x4_1 + 1)), (by first | rfl | (simp; done) | (simp [*]; done)), H', ⟨by have := HK1.out; have := HJ2.out; omega⟩, ⟨by (with_reducible repeat (first | apply Kd.R_alloc | apply Kd.R_drewN | apply Kd.R_drew)); exact HO163.out⟩, ⟨by repeat (first | (with_reducible first | exact HB.out | apply below_alloc | apply pw_below_drewN | apply below_drew1) | exact HB.out)⟩⟩
                      · rw [if_neg c23] at H
                        exact absurd H (by simp)
                    · rw [if_neg c22] at H
                      exact absurd H (by simp)
                · rw [if_neg c16] at H
                  exact absurd H (by simp)
              · rw [if_neg c15] at H
                exact absurd H (by simp)
      · rw [if_neg c2] at H
        have c2b0 : decide (x4_1 < (a0.size : Int)) = false := decide_eq_false c2
        clear c2
        obtain rfl := Option.some.inj H
        go_wp2
        go_ret
        exact ⟨_, by first | rfl | (simp [errW_none, errW_some] <;> rfl) | (simp [*, errW_none, errW_some] <;> rfl), by (with_reducible repeat (first | apply Kd.R_alloc | apply Kd.R_drewN | apply Kd.R_drew)); exact HO_3.out, by repeat (first | (with_reducible first | exact HB.out | apply below_alloc | apply pw_below_drewN | apply below_drew1) | exact HB.out)⟩

/-! ### emendatorref07_Resolve: function 25 -/
mutual
def emendatorref07_Resolve.l0 : Nat → ByteArray → ByteArray → ByteArray → Int → Option (ByteArray)
  | 0, _, _, _, _ => none
  | k + 1, x0, x1, x5, x6 => if x6 < (x0.size : Int) then (if 0 ≤ x6 then (if (bt x0 x6) = 92 then (emendatorref07_Resolve.j1 k x0 x1 x5 x6 (decide ((wrap64 (x6 + 1)) < (x0.size : Int)))) else (emendatorref07_Resolve.j1 k x0 x1 x5 x6 false)) else (none)) else (some x5)
def emendatorref07_Resolve.j1 : Nat → ByteArray → ByteArray → ByteArray → Int → Bool → Option (ByteArray)
  | 0, _, _, _, _, _ => none
  | k + 1, x0, x1, x5, x6, x23 => if x23 = true then (if 0 ≤ (wrap64 (x6 + 1)) then (if (wrap64 (x6 + 1)) < (x0.size : Int) then (if (bt x0 (wrap64 (x6 + 1))) = 126 then (if (wrap64 (x6 + 1)) ≤ (wrap64 (x6 + 2)) then (if (wrap64 (x6 + 2)) ≤ (x0.size : Int) then (if x5.size + (x0.extract ((wrap64 (x6 + 1)) : Int).toNat ((wrap64 (x6 + 2)) : Int).toNat).size ≤ 9223372036854775807 then (emendatorref07_Resolve.l0 k x0 x1 (x5 ++ (x0.extract ((wrap64 (x6 + 1)) : Int).toNat ((wrap64 (x6 + 2)) : Int).toNat)) (wrap64 ((wrap64 (x6 + 1)) + 1))) else (none)) else (none)) else (none)) else (if x5.size + 1 ≤ 9223372036854775807 then (if (wrap64 (x6 + 1)) ≤ (wrap64 (x6 + 2)) then (if (wrap64 (x6 + 2)) ≤ (x0.size : Int) then (if (x5 ++ (⟨#[92]⟩ : ByteArray)).size + (x0.extract ((wrap64 (x6 + 1)) : Int).toNat ((wrap64 (x6 + 2)) : Int).toNat).size ≤ 9223372036854775807 then (emendatorref07_Resolve.l0 k x0 x1 ((x5 ++ (⟨#[92]⟩ : ByteArray)) ++ (x0.extract ((wrap64 (x6 + 1)) : Int).toNat ((wrap64 (x6 + 2)) : Int).toNat)) (wrap64 ((wrap64 (x6 + 1)) + 1))) else (none)) else (none)) else (none)) else (none))) else (none)) else (none)) else (if 0 ≤ x6 then (if x6 < (x0.size : Int) then (if (bt x0 x6) = 126 then (if x5.size + x1.size ≤ 9223372036854775807 then (emendatorref07_Resolve.l0 k x0 x1 (x5 ++ x1) (wrap64 (x6 + 1))) else (none)) else (if x6 ≤ (wrap64 (x6 + 1)) then (if (wrap64 (x6 + 1)) ≤ (x0.size : Int) then (if x5.size + (x0.extract (x6 : Int).toNat ((wrap64 (x6 + 1)) : Int).toNat).size ≤ 9223372036854775807 then (emendatorref07_Resolve.l0 k x0 x1 (x5 ++ (x0.extract (x6 : Int).toNat ((wrap64 (x6 + 1)) : Int).toNat)) (wrap64 (x6 + 1))) else (none)) else (none)) else (none))) else (none)) else (none))
end
def emendatorref07_Resolve.f (k : Nat) (a0 : ByteArray) (a1 : ByteArray) : Option (ByteArray) := emendatorref07_Resolve.l0 k a0 a1 (⟨#[]⟩ : ByteArray) 0
theorem emendatorref07_Resolve.mono_l : ∀ k, (∀ y0 y1 y2 y3, LeO (emendatorref07_Resolve.l0 k y0 y1 y2 y3) (emendatorref07_Resolve.l0 (k + 1) y0 y1 y2 y3)) ∧ (∀ y0 y1 y2 y3 y4, LeO (emendatorref07_Resolve.j1 k y0 y1 y2 y3 y4) (emendatorref07_Resolve.j1 (k + 1) y0 y1 y2 y3 y4))
  | 0 => ⟨fun _ _ _ _ r h => by simp [emendatorref07_Resolve.l0] at h, fun _ _ _ _ _ r h => by simp [emendatorref07_Resolve.j1] at h⟩
  | k + 1 => by
    obtain ⟨ih0, ih1⟩ := emendatorref07_Resolve.mono_l k
    refine ⟨?_, ?_⟩
    · intro y0 y1 y2 y3
      unfold emendatorref07_Resolve.l0
      repeat' first
      | (with_reducible exact ih0 _ _ _ _)
      | (with_reducible exact ih1 _ _ _ _ _)
      | (with_reducible exact LeO.refl _)
      | (with_reducible exact LeO.none _)
      | (with_reducible refine LeO.ite ?_ ?_)
      | (with_reducible refine LeO.bind ?_ (fun _ => ?_))
      | exact ih0 _ _ _ _
      | exact ih1 _ _ _ _ _
      | exact LeO.none _
      | refine LeO.ite ?_ ?_
      | refine LeO.bind ?_ (fun _ => ?_)
    · intro y0 y1 y2 y3 y4
      unfold emendatorref07_Resolve.j1
      repeat' first
      | (with_reducible exact ih0 _ _ _ _)
      | (with_reducible exact ih1 _ _ _ _ _)
      | (with_reducible exact LeO.refl _)
      | (with_reducible exact LeO.none _)
      | (with_reducible refine LeO.ite ?_ ?_)
      | (with_reducible refine LeO.bind ?_ (fun _ => ?_))
      | exact ih0 _ _ _ _
      | exact ih1 _ _ _ _ _
      | exact LeO.none _
      | refine LeO.ite ?_ ?_
      | refine LeO.bind ?_ (fun _ => ?_)
theorem emendatorref07_Resolve.mono : ∀ a0 a1 k, LeO (emendatorref07_Resolve.f k a0 a1) (emendatorref07_Resolve.f (k + 1) a0 a1) := by
  intro a0 a1 k
  obtain ⟨ih0, ih1⟩ := emendatorref07_Resolve.mono_l k
  unfold emendatorref07_Resolve.f
  repeat' first
      | (with_reducible exact ih0 _ _ _ _)
      | (with_reducible exact ih1 _ _ _ _ _)
      | (with_reducible exact LeO.refl _)
      | (with_reducible exact LeO.none _)
      | (with_reducible refine LeO.ite ?_ ?_)
      | (with_reducible refine LeO.bind ?_ (fun _ => ?_))
      | exact ih0 _ _ _ _
      | exact ih1 _ _ _ _ _
      | exact LeO.none _
      | refine LeO.ite ?_ ?_
      | refine LeO.bind ?_ (fun _ => ?_)
set_option maxHeartbeats 8000000 in
set_option maxRecDepth 100000 in
theorem emendatorref07_Resolve.calls (k : Nat) (a0 : ByteArray) (a1 : ByteArray) (r : ByteArray) (w : World) (h : emendatorref07_Resolve.f k a0 a1 = some r) :
    Calls Try.prog 25 #[.string a0, .string a1] w fun e w' => e = .returned (.string r) ∧ Drawn0 w w' := by
  have H : (emendatorref07_Resolve.l0 k a0 a1 (⟨#[]⟩ : ByteArray) 0) = some r := h
  clear h
  have H' := Aside0.mk H
  clear H
  go_enter Try.func25, Try.ntmps25
  go_wp2
  go_loopg [5, 6] k (fun kq v5 v6 w' => ∃ (x5_1 : ByteArray) (x6_1 : Int), v5 = .string x5_1 ∧ v6 = .int .i64 x6_1 ∧ Aside0 (emendatorref07_Resolve.l0 kq a0 a1 x5_1 x6_1 = some r) ∧ Aside0 (kq ≤ k) ∧ Drawn0 w w')
  case atStart => exact ⟨((⟨#[]⟩ : ByteArray)), (0), (by first | rfl | (simp; done) | (simp [*]; done)), (by first | rfl | (simp; done) | (simp [*]; done)), H', ⟨Nat.le_refl _⟩, by repeat (first | exact Drawn0.refl _ | apply Drawn0.step)⟩
  case round =>
    clear H'
    try clear c2
    try clear p2
    obtain ⟨x5_1, x6_1, rfl, rfl, HA, HK1, ⟨m1, rfl⟩⟩ := hrel
    cases gk with
    | zero => exact absurd HA.out (by simp [emendatorref07_Resolve.l0])
    | succ k1 =>
      have H := HA.out
      clear HA
      simp only [emendatorref07_Resolve.l0] at H
      by_cases c3 : x6_1 < (a0.size : Int)
      · rw [if_pos c3] at H
        have c3b0 : decide (x6_1 < (a0.size : Int)) = true := decide_eq_true c3
        clear c3
        have HC4 := Aside0.mk H
        clear H
        go_upto_region 5 with (fail)
        go_cut [23] (fun v23 wc => ∃ (kq : Nat) (x23_3 : Bool), v23 = .bool x23_3 ∧ Aside0 (emendatorref07_Resolve.j1 kq a0 a1 x5_1 x6_1 x23_3 = some r) ∧ Aside0 (kq ≤ k1) ∧ Drawn0 w wc)
        case first =>
          have H := HC4.out
          clear HC4
          by_cases c5 : 0 ≤ x6_1
          · rw [if_pos c5] at H
            have c5b0 : decide (0 ≤ x6_1) = true := decide_eq_true c5
            clear c5
            (first | rw [c5b0] | (simp only [i64_w, i32_w]; rw [c5b0]) | skip)
            by_cases c7 : (bt a0 x6_1) = 92
            · rw [if_pos c7] at H
              have c7b0 : ((bt a0 x6_1) == 92) = true := beq_iff_eq.mpr c7
              have c7b1 : ((bt a0 x6_1) != 92) = false := bne_eq_false_iff_eq.mpr c7
              clear c7
              have H' := Aside0.mk H
              clear H
              have p6 : 0 ≤ (x6_1 : Int) := of_decide_eq_true (by first | (with_reducible assumption) | assumption)
              have q6 : x6_1 < (a0.size : Int) := of_decide_eq_true (by first | (with_reducible assumption) | assumption)
              have hx6 := bt_at a0 x6_1
              replace p6 := eq_true p6
              replace q6 := eq_true q6
              go_wp2
              go_meet
              case rel => exact ⟨_, (decide ((wrap64 (x6_1 + 1)) < (a0.size : Int))), (by first | rfl | (simp; done) | (simp [*]; done)), H', ⟨by have := HK1.out; first | omega | exact Nat.le_refl _⟩, by repeat (first | exact Drawn0.refl _ | apply Drawn0.step)⟩
            · rw [if_neg c7] at H
              have c7b0 : ((bt a0 x6_1) == 92) = false := beq_eq_false_iff_ne.mpr c7
              have c7b1 : ((bt a0 x6_1) != 92) = true := bne_iff_ne.mpr c7
              have H' := Aside0.mk H
              clear H
              have p6 : 0 ≤ (x6_1 : Int) := of_decide_eq_true (by first | (with_reducible assumption) | assumption)
              have q6 : x6_1 < (a0.size : Int) := of_decide_eq_true (by first | (with_reducible assumption) | assumption)
              have hx6 := bt_at a0 x6_1
              replace p6 := eq_true p6
              replace q6 := eq_true q6
              go_wp2
              go_meet
              case rel => exact ⟨_, (false), (by first | rfl | (simp; done) | (simp [*]; done)), H', ⟨by have := HK1.out; first | omega | exact Nat.le_refl _⟩, by repeat (first | exact Drawn0.refl _ | apply Drawn0.step)⟩
          · rw [if_neg c5] at H
            exact absurd H (by simp)
        case rest =>
          clear HC4
          try clear c2
          try clear p2
          try clear c3
          try clear c3b0
          try clear c5
          try clear c5b0
          try clear p6
          try clear q6
          try clear hx6
          try clear c7
          try clear c7b0
          try clear c7b1
          try clear p2
          try clear p6
          try clear q6
          obtain ⟨kq, x23_3, rfl, HA, HJ3, ⟨mc3, rfl⟩⟩ := hcut
          cases kq with
          | zero => exact absurd HA.out (by simp [emendatorref07_Resolve.j1])
          | succ kj3 =>
            have H := HA.out
            clear HA
            simp only [emendatorref07_Resolve.j1] at H
            by_cases c8 : x23_3 = true
            · subst c8
              have H1 : (if 0 ≤ (wrap64 (x6_1 + 1)) then (if (wrap64 (x6_1 + 1)) < (a0.size : Int) then (if (bt a0 (wrap64 (x6_1 + 1))) = 126 then (if (wrap64 (x6_1 + 1)) ≤ (wrap64 (x6_1 + 2)) then (if (wrap64 (x6_1 + 2)) ≤ (a0.size : Int) then (if x5_1.size + (a0.extract ((wrap64 (x6_1 + 1)) : Int).toNat ((wrap64 (x6_1 + 2)) : Int).toNat).size ≤ 9223372036854775807 then (emendatorref07_Resolve.l0 kj3 a0 a1 (x5_1 ++ (a0.extract ((wrap64 (x6_1 + 1)) : Int).toNat ((wrap64 (x6_1 + 2)) : Int).toNat)) (wrap64 ((wrap64 (x6_1 + 1)) + 1))) else (none)) else (none)) else (none)) else (if x5_1.size + 1 ≤ 9223372036854775807 then (if (wrap64 (x6_1 + 1)) ≤ (wrap64 (x6_1 + 2)) then (if (wrap64 (x6_1 + 2)) ≤ (a0.size : Int) then (if (x5_1 ++ (⟨#[92]⟩ : ByteArray)).size + (a0.extract ((wrap64 (x6_1 + 1)) : Int).toNat ((wrap64 (x6_1 + 2)) : Int).toNat).size ≤ 9223372036854775807 then (emendatorref07_Resolve.l0 kj3 a0 a1 ((x5_1 ++ (⟨#[92]⟩ : ByteArray)) ++ (a0.extract ((wrap64 (x6_1 + 1)) : Int).toNat ((wrap64 (x6_1 + 2)) : Int).toNat)) (wrap64 ((wrap64 (x6_1 + 1)) + 1))) else (none)) else (none)) else (none)) else (none))) else (none)) else (none)) = some r := by rw [if_pos rfl] at H; exact H
              clear H
              have H := H1
              clear H1
              obtain ⟨ji9, hji9⟩ : ∃ j_ : Int, (wrap64 (x6_1 + 1)) = j_ := ⟨_, rfl⟩
              replace H : (if 0 ≤ (ji9) then (if (ji9) < (a0.size : Int) then (if (bt a0 (ji9)) = 126 then (if (ji9) ≤ (wrap64 (x6_1 + 2)) then (if (wrap64 (x6_1 + 2)) ≤ (a0.size : Int) then (if x5_1.size + (a0.extract ((ji9) : Int).toNat ((wrap64 (x6_1 + 2)) : Int).toNat).size ≤ 9223372036854775807 then (emendatorref07_Resolve.l0 kj3 a0 a1 (x5_1 ++ (a0.extract ((ji9) : Int).toNat ((wrap64 (x6_1 + 2)) : Int).toNat)) (wrap64 ((ji9) + 1))) else (none)) else (none)) else (none)) else (if x5_1.size + 1 ≤ 9223372036854775807 then (if (ji9) ≤ (wrap64 (x6_1 + 2)) then (if (wrap64 (x6_1 + 2)) ≤ (a0.size : Int) then (if (x5_1 ++ (⟨#[92]⟩ : ByteArray)).size + (a0.extract ((ji9) : Int).toNat ((wrap64 (x6_1 + 2)) : Int).toNat).size ≤ 9223372036854775807 then (emendatorref07_Resolve.l0 kj3 a0 a1 ((x5_1 ++ (⟨#[92]⟩ : ByteArray)) ++ (a0.extract ((ji9) : Int).toNat ((wrap64 (x6_1 + 2)) : Int).toNat)) (wrap64 ((ji9) + 1))) else (none)) else (none)) else (none)) else (none))) else (none)) else (none)) = some r := by first | (rw [hji9] at H; exact H) | (simp only [hji9] at H ⊢; exact H)
              have hji9w : (IntKind.i64.wrap (x6_1 + 1)) = ji9 := (i64_w _).trans hji9
              by_cases c10 : 0 ≤ (ji9)
              · rw [if_pos c10] at H
                have c10b0 : decide (0 ≤ (ji9)) = true := decide_eq_true c10
                clear c10
                by_cases c11 : (ji9) < (a0.size : Int)
                · rw [if_pos c11] at H
                  have c11b0 : decide ((ji9) < (a0.size : Int)) = true := decide_eq_true c11
                  clear c11
                  by_cases c13 : (bt a0 (ji9)) = 126
                  · rw [if_pos c13] at H
                    have c13b0 : ((bt a0 (ji9)) == 126) = true := beq_iff_eq.mpr c13
                    have c13b1 : ((bt a0 (ji9)) != 126) = false := bne_eq_false_iff_eq.mpr c13
                    clear c13
                    have c14b0 := eq_true (of_decide_eq_true (by first | (with_reducible assumption) | assumption) : 0 ≤ (ji9))
                    by_cases c15 : (ji9) ≤ (wrap64 (x6_1 + 2))
                    · rw [if_pos c15] at H
                      have c15b0 := eq_true c15
                      have c15b1 : decide ((ji9) ≤ (wrap64 (x6_1 + 2))) = true := decide_eq_true c15
                      by_cases c16 : (wrap64 (x6_1 + 2)) ≤ (a0.size : Int)
                      · rw [if_pos c16] at H
                        have c16b0 := eq_true c16
                        have c16b1 : decide ((wrap64 (x6_1 + 2)) ≤ (a0.size : Int)) = true := decide_eq_true c16
                        by_cases c17 : x5_1.size + (a0.extract ((ji9) : Int).toNat ((wrap64 (x6_1 + 2)) : Int).toNat).size ≤ 9223372036854775807
                        · rw [if_pos c17] at H
                          have c17b0 := eq_true c17
                          have c17b1 : decide (x5_1.size + (a0.extract ((ji9) : Int).toNat ((wrap64 (x6_1 + 2)) : Int).toNat).size ≤ 9223372036854775807) = true := decide_eq_true c17
                          try have c17b2 : (9223372036854775807 < x5_1.size + (a0.extract ((ji9) : Int).toNat ((wrap64 (x6_1 + 2)) : Int).toNat).size) = False := eq_false (Nat.not_lt.2 c17)
                          have H' := Aside0.mk H
                          clear H
                          have p12 : 0 ≤ ((ji9) : Int) := of_decide_eq_true (by first | (with_reducible assumption) | assumption)
                          have q12 : (ji9) < (a0.size : Int) := of_decide_eq_true (by first | (with_reducible assumption) | assumption)
                          have hx12 := bt_at a0 (ji9)
                          replace p12 := eq_true p12
                          replace q12 := eq_true q12
                          go_wp2
                          go_roundg kj3
                          case measure => have := HK1.out; have := HJ3.out; omega
                          case rel => exact ⟨(x5_1 ++ (a0.extract ((ji9) : Int).toNat ((wrap64 (x6_1 + 2)) : Int).toNat)), (wrap64 ((ji9) + 1)), (by first | rfl | (simp; done) | (simp only [← hji9] <;> (first | rfl | simp)) | (simp [*]; done)), (by first | rfl | (simp; done) | (simp only [← hji9] <;> (first | rfl | simp)) | (simp [*]; done)), H', ⟨by have := HK1.out; have := HJ3.out; omega⟩, by repeat (first | exact Drawn0.refl _ | apply Drawn0.step)⟩
                        · rw [if_neg c17] at H
                          exact absurd H (by simp)
                      · rw [if_neg c16] at H
                        exact absurd H (by simp)
                    · rw [if_neg c15] at H
                      exact absurd H (by simp)
                  · rw [if_neg c13] at H
                    have c13b0 : ((bt a0 (ji9)) == 126) = false := beq_eq_false_iff_ne.mpr c13
                    have c13b1 : ((bt a0 (ji9)) != 126) = true := bne_iff_ne.mpr c13
                    by_cases c18 : x5_1.size + 1 ≤ 9223372036854775807
                    · rw [if_pos c18] at H
                      have c18b0 := eq_true c18
                      have c18b1 : decide (x5_1.size + 1 ≤ 9223372036854775807) = true := decide_eq_true c18
                      try have c18b2 : (9223372036854775807 < x5_1.size + 1) = False := eq_false (Nat.not_lt.2 c18)
                      have c19b0 := eq_true (of_decide_eq_true (by first | (with_reducible assumption) | assumption) : 0 ≤ (ji9))
                      by_cases c20 : (ji9) ≤ (wrap64 (x6_1 + 2))
                      · rw [if_pos c20] at H
                        have c20b0 := eq_true c20
                        have c20b1 : decide ((ji9) ≤ (wrap64 (x6_1 + 2))) = true := decide_eq_true c20
                        by_cases c21 : (wrap64 (x6_1 + 2)) ≤ (a0.size : Int)
                        · rw [if_pos c21] at H
                          have c21b0 := eq_true c21
                          have c21b1 : decide ((wrap64 (x6_1 + 2)) ≤ (a0.size : Int)) = true := decide_eq_true c21
                          by_cases c22 : (x5_1 ++ (⟨#[92]⟩ : ByteArray)).size + (a0.extract ((ji9) : Int).toNat ((wrap64 (x6_1 + 2)) : Int).toNat).size ≤ 9223372036854775807
                          · rw [if_pos c22] at H
                            have c22b0 := eq_true c22
                            have c22b1 : decide ((x5_1 ++ (⟨#[92]⟩ : ByteArray)).size + (a0.extract ((ji9) : Int).toNat ((wrap64 (x6_1 + 2)) : Int).toNat).size ≤ 9223372036854775807) = true := decide_eq_true c22
                            try have c22b2 : (9223372036854775807 < (x5_1 ++ (⟨#[92]⟩ : ByteArray)).size + (a0.extract ((ji9) : Int).toNat ((wrap64 (x6_1 + 2)) : Int).toNat).size) = False := eq_false (Nat.not_lt.2 c22)
                            have H' := Aside0.mk H
                            clear H
                            have p12 : 0 ≤ ((ji9) : Int) := of_decide_eq_true (by first | (with_reducible assumption) | assumption)
                            have q12 : (ji9) < (a0.size : Int) := of_decide_eq_true (by first | (with_reducible assumption) | assumption)
                            have hx12 := bt_at a0 (ji9)
                            replace p12 := eq_true p12
                            replace q12 := eq_true q12
                            go_wp2
                            go_roundg kj3
                            case measure => have := HK1.out; have := HJ3.out; omega
                            case rel => exact ⟨((x5_1 ++ (⟨#[92]⟩ : ByteArray)) ++ (a0.extract ((ji9) : Int).toNat ((wrap64 (x6_1 + 2)) : Int).toNat)), (wrap64 ((ji9) + 1)), (by first | rfl | (simp; done) | (simp only [← hji9] <;> (first | rfl | simp)) | (simp [*]; done)), (by first | rfl | (simp; done) | (simp only [← hji9] <;> (first | rfl | simp)) | (simp [*]; done)), H', ⟨by have := HK1.out; have := HJ3.out; omega⟩, by repeat (first | exact Drawn0.refl _ | apply Drawn0.step)⟩
                          · rw [if_neg c22] at H
                            exact absurd H (by simp)
                        · rw [if_neg c21] at H
                          exact absurd H (by simp)
                      · rw [if_neg c20] at H
                        exact absurd H (by simp)
                    · rw [if_neg c18] at H
                      exact absurd H (by simp)
                · rw [if_neg c11] at H
                  exact absurd H (by simp)
              · rw [if_neg c10] at H
                exact absurd H (by simp)
            · replace c8 := Bool.eq_false_iff.mpr c8
              subst c8
              have H1 : (if 0 ≤ x6_1 then (if x6_1 < (a0.size : Int) then (if (bt a0 x6_1) = 126 then (if x5_1.size + a1.size ≤ 9223372036854775807 then (emendatorref07_Resolve.l0 kj3 a0 a1 (x5_1 ++ a1) (wrap64 (x6_1 + 1))) else (none)) else (if x6_1 ≤ (wrap64 (x6_1 + 1)) then (if (wrap64 (x6_1 + 1)) ≤ (a0.size : Int) then (if x5_1.size + (a0.extract (x6_1 : Int).toNat ((wrap64 (x6_1 + 1)) : Int).toNat).size ≤ 9223372036854775807 then (emendatorref07_Resolve.l0 kj3 a0 a1 (x5_1 ++ (a0.extract (x6_1 : Int).toNat ((wrap64 (x6_1 + 1)) : Int).toNat)) (wrap64 (x6_1 + 1))) else (none)) else (none)) else (none))) else (none)) else (none)) = some r := by rw [if_neg (show ¬ (false = true) by decide)] at H; exact H
              clear H
              have H := H1
              clear H1
              by_cases c23 : 0 ≤ x6_1
              · rw [if_pos c23] at H
                have c23b0 : decide (0 ≤ x6_1) = true := decide_eq_true c23
                clear c23
                by_cases c24 : x6_1 < (a0.size : Int)
                · rw [if_pos c24] at H
                  have c24b0 : decide (x6_1 < (a0.size : Int)) = true := decide_eq_true c24
                  clear c24
                  by_cases c26 : (bt a0 x6_1) = 126
                  · rw [if_pos c26] at H
                    have c26b0 : ((bt a0 x6_1) == 126) = true := beq_iff_eq.mpr c26
                    have c26b1 : ((bt a0 x6_1) != 126) = false := bne_eq_false_iff_eq.mpr c26
                    clear c26
                    by_cases c27 : x5_1.size + a1.size ≤ 9223372036854775807
                    · rw [if_pos c27] at H
                      have c27b0 := eq_true c27
                      have c27b1 : decide (x5_1.size + a1.size ≤ 9223372036854775807) = true := decide_eq_true c27
                      try have c27b2 : (9223372036854775807 < x5_1.size + a1.size) = False := eq_false (Nat.not_lt.2 c27)
                      have H' := Aside0.mk H
                      clear H
                      have p25 : 0 ≤ (x6_1 : Int) := of_decide_eq_true (by first | (with_reducible assumption) | assumption)
                      have q25 : x6_1 < (a0.size : Int) := of_decide_eq_true (by first | (with_reducible assumption) | assumption)
                      have hx25 := bt_at a0 x6_1
                      replace p25 := eq_true p25
                      replace q25 := eq_true q25
                      go_wp2
                      go_roundg kj3
                      case measure => have := HK1.out; have := HJ3.out; omega
                      case rel => exact ⟨(x5_1 ++ a1), (wrap64 (x6_1 + 1)), (by first | rfl | (simp; done) | (simp [*]; done)), (by first | rfl | (simp; done) | (simp [*]; done)), H', ⟨by have := HK1.out; have := HJ3.out; omega⟩, by repeat (first | exact Drawn0.refl _ | apply Drawn0.step)⟩
                    · rw [if_neg c27] at H
                      exact absurd H (by simp)
                  · rw [if_neg c26] at H
                    have c26b0 : ((bt a0 x6_1) == 126) = false := beq_eq_false_iff_ne.mpr c26
                    have c26b1 : ((bt a0 x6_1) != 126) = true := bne_iff_ne.mpr c26
                    have c28b0 := eq_true (of_decide_eq_true (by first | (with_reducible assumption) | assumption) : 0 ≤ x6_1)
                    by_cases c29 : x6_1 ≤ (wrap64 (x6_1 + 1))
                    · rw [if_pos c29] at H
                      have c29b0 := eq_true c29
                      have c29b1 : decide (x6_1 ≤ (wrap64 (x6_1 + 1))) = true := decide_eq_true c29
                      by_cases c30 : (wrap64 (x6_1 + 1)) ≤ (a0.size : Int)
                      · rw [if_pos c30] at H
                        have c30b0 := eq_true c30
                        have c30b1 : decide ((wrap64 (x6_1 + 1)) ≤ (a0.size : Int)) = true := decide_eq_true c30
                        by_cases c31 : x5_1.size + (a0.extract (x6_1 : Int).toNat ((wrap64 (x6_1 + 1)) : Int).toNat).size ≤ 9223372036854775807
                        · rw [if_pos c31] at H
                          have c31b0 := eq_true c31
                          have c31b1 : decide (x5_1.size + (a0.extract (x6_1 : Int).toNat ((wrap64 (x6_1 + 1)) : Int).toNat).size ≤ 9223372036854775807) = true := decide_eq_true c31
                          try have c31b2 : (9223372036854775807 < x5_1.size + (a0.extract (x6_1 : Int).toNat ((wrap64 (x6_1 + 1)) : Int).toNat).size) = False := eq_false (Nat.not_lt.2 c31)
                          have H' := Aside0.mk H
                          clear H
                          have p25 : 0 ≤ (x6_1 : Int) := of_decide_eq_true (by first | (with_reducible assumption) | assumption)
                          have q25 : x6_1 < (a0.size : Int) := of_decide_eq_true (by first | (with_reducible assumption) | assumption)
                          have hx25 := bt_at a0 x6_1
                          replace p25 := eq_true p25
                          replace q25 := eq_true q25
                          go_wp2
                          go_roundg kj3
                          case measure => have := HK1.out; have := HJ3.out; omega
                          case rel => exact ⟨(x5_1 ++ (a0.extract (x6_1 : Int).toNat ((wrap64 (x6_1 + 1)) : Int).toNat)), (wrap64 (x6_1 + 1)), (by first | rfl | (simp; done) | (simp [*]; done)), (by first | rfl | (simp; done) | (simp [*]; done)), H', ⟨by have := HK1.out; have := HJ3.out; omega⟩, by repeat (first | exact Drawn0.refl _ | apply Drawn0.step)⟩
                        · rw [if_neg c31] at H
                          exact absurd H (by simp)
                      · rw [if_neg c30] at H
                        exact absurd H (by simp)
                    · rw [if_neg c29] at H
                      exact absurd H (by simp)
                · rw [if_neg c24] at H
                  exact absurd H (by simp)
              · rw [if_neg c23] at H
                exact absurd H (by simp)
      · rw [if_neg c3] at H
        have c3b0 : decide (x6_1 < (a0.size : Int)) = false := decide_eq_false c3
        clear c3
        obtain rfl := Option.some.inj H
        go_wp2
        go_ret
        exact ⟨by first | rfl | (simp; done) | (simp [*]; done), by repeat (first | exact Drawn0.refl _ | apply Drawn0.step)⟩

/-! ### emendatorlaw07_TmplParses: function 6 -/
def emendatorlaw07_TmplParses.j0 : Nat → ByteArray → ByteArray → Bool → Option (Bool)
  | 0, _, _, _ => none
  | k + 1, x0, x1, x16 => if x16 = true then ((emendatorlaw07_known.f).bind fun t165 => (some t165)) else ((tmpl_Parse.f x0).bind fun t166 => ((emendatorref07_Parse.f k x0).bind fun t169 => ((emendatorref07_Same.f k t166 t169).bind fun t172 => (if t172 = true then ((tmpl_Resolve.f x0 x1).bind fun t173 => ((emendatorref07_Resolve.f k x0 x1).bind fun t174 => (some (t173.toList == t174.toList)))) else (some false)))))
def emendatorlaw07_TmplParses.f (k : Nat) (a0 : ByteArray) (a1 : ByteArray) : Option (Bool) := if (a0.size : Int) > 1500 then (emendatorlaw07_TmplParses.j0 k a0 a1 true) else (if (a1.size : Int) > 500 then (emendatorlaw07_TmplParses.j0 k a0 a1 true) else ((emendatorlaw07_known.f).bind fun t164 => (emendatorlaw07_TmplParses.j0 k a0 a1 (!t164))))
theorem emendatorlaw07_TmplParses.mono_l : ∀ k, (∀ y0 y1 y2, LeO (emendatorlaw07_TmplParses.j0 k y0 y1 y2) (emendatorlaw07_TmplParses.j0 (k + 1) y0 y1 y2))
  | 0 => fun _ _ _ r h => by simp [emendatorlaw07_TmplParses.j0] at h
  | k + 1 => by
    have ih0 := emendatorlaw07_TmplParses.mono_l k
    · intro y0 y1 y2
      unfold emendatorlaw07_TmplParses.j0
      repeat' first
      | (with_reducible exact ih0 _ _ _)
      | (with_reducible exact emendatorref07_Parse.mono _ _)
      | (with_reducible exact emendatorref07_Resolve.mono _ _ _)
      | (with_reducible exact emendatorref07_Same.mono _ _ _)
      | (with_reducible exact LeO.refl _)
      | (with_reducible exact LeO.none _)
      | (with_reducible refine LeO.ite ?_ ?_)
      | (with_reducible refine LeO.bind ?_ (fun _ => ?_))
      | exact ih0 _ _ _
      | exact emendatorref07_Parse.mono _ _
      | exact emendatorref07_Resolve.mono _ _ _
      | exact emendatorref07_Same.mono _ _ _
      | exact LeO.none _
      | refine LeO.ite ?_ ?_
      | refine LeO.bind ?_ (fun _ => ?_)
theorem emendatorlaw07_TmplParses.mono : ∀ a0 a1 k, LeO (emendatorlaw07_TmplParses.f k a0 a1) (emendatorlaw07_TmplParses.f (k + 1) a0 a1) := by
  intro a0 a1 k
  have ih0 := emendatorlaw07_TmplParses.mono_l k
  unfold emendatorlaw07_TmplParses.f
  repeat' first
      | (with_reducible exact ih0 _ _ _)
      | (with_reducible exact emendatorref07_Parse.mono _ _)
      | (with_reducible exact emendatorref07_Resolve.mono _ _ _)
      | (with_reducible exact emendatorref07_Same.mono _ _ _)
      | (with_reducible exact LeO.refl _)
      | (with_reducible exact LeO.none _)
      | (with_reducible refine LeO.ite ?_ ?_)
      | (with_reducible refine LeO.bind ?_ (fun _ => ?_))
      | exact ih0 _ _ _
      | exact emendatorref07_Parse.mono _ _
      | exact emendatorref07_Resolve.mono _ _ _
      | exact emendatorref07_Same.mono _ _ _
      | exact LeO.none _
      | refine LeO.ite ?_ ?_
      | refine LeO.bind ?_ (fun _ => ?_)
set_option maxHeartbeats 8000000 in
set_option maxRecDepth 100000 in
theorem emendatorlaw07_TmplParses.calls (k : Nat) (a0 : ByteArray) (a1 : ByteArray) (r : Bool) (w : World) (h : emendatorlaw07_TmplParses.f k a0 a1 = some r) :
    Calls Try.prog 6 #[.string a0, .string a1] w fun e w' => e = .returned (.bool r) ∧ Below w.heap.size w w' := by
  have HB := Aside0.mk (Below.refl w.heap.size w)
  have H : (if (a0.size : Int) > 1500 then (emendatorlaw07_TmplParses.j0 k a0 a1 true) else (if (a1.size : Int) > 500 then (emendatorlaw07_TmplParses.j0 k a0 a1 true) else ((emendatorlaw07_known.f).bind fun t164 => (emendatorlaw07_TmplParses.j0 k a0 a1 (!t164))))) = some r := h
  clear h
  have HC3 := Aside0.mk H
  clear H
  go_enter Try.func6, Try.ntmps6
  go_upto_region 1 with (fail)
  go_cut [16] (fun v16 wc => ∃ (kq : Nat) (x16_2 : Bool), v16 = .bool x16_2 ∧ Aside0 (emendatorlaw07_TmplParses.j0 kq a0 a1 x16_2 = some r) ∧ Aside0 (kq ≤ k) ∧ Aside0 (Below w.heap.size w wc))
  case first =>
    have H := HC3.out
    clear HC3
    by_cases c4 : (a0.size : Int) > 1500
    · rw [if_pos c4] at H
      have c4b0 : decide (1500 < (a0.size : Int)) = true := decide_eq_true c4
      have c4b1 : decide (1500 < a0.size) = true := decide_eq_true (by omega)
      clear c4
      (first | rw [c4b0] | (simp only [i64_w, i32_w]; rw [c4b0]) | skip)
      have H' := Aside0.mk H
      clear H
      go_wp2
      go_meet
      case rel => exact ⟨_, (true), (by first | rfl | (simp; done) | (simp [*]; done)), H', ⟨by first | omega | exact Nat.le_refl _⟩, ⟨by repeat (first | (with_reducible first | exact HB.out | apply below_alloc | apply pw_below_drewN | apply below_drew1) | exact HB.out)⟩⟩
    · rw [if_neg c4] at H
      have c4b0 : decide (1500 < (a0.size : Int)) = false := decide_eq_false c4
      have c4b1 : decide (1500 < a0.size) = false := decide_eq_false (by omega)
      clear c4
      (first | rw [c4b0] | (simp only [i64_w, i32_w]; rw [c4b0]) | skip)
      by_cases c5 : (a1.size : Int) > 500
      · rw [if_pos c5] at H
        have c5b0 : decide (500 < (a1.size : Int)) = true := decide_eq_true c5
        have c5b1 : decide (500 < a1.size) = true := decide_eq_true (by omega)
        clear c5
        have H' := Aside0.mk H
        clear H
        go_wp2
        go_meet
        case rel => exact ⟨_, (true), (by first | rfl | (simp; done) | (simp [*]; done)), H', ⟨by first | omega | exact Nat.le_refl _⟩, ⟨by repeat (first | (with_reducible first | exact HB.out | apply below_alloc | apply pw_below_drewN | apply below_drew1) | exact HB.out)⟩⟩
      · rw [if_neg c5] at H
        have c5b0 : decide (500 < (a1.size : Int)) = false := decide_eq_false c5
        have c5b1 : decide (500 < a1.size) = false := decide_eq_false (by omega)
        clear c5
        replace H := Option.bind_eq_some_iff.mp H
        obtain ⟨t164, A60, H⟩ := H
        replace H : (emendatorlaw07_TmplParses.j0 k a0 a1 (!t164)) = some r := H
        have A6 := Aside0.mk A60
        clear A60
        have H' := Aside0.mk H
        clear H
        go_wp2_with (first | (go_at_call 20; (with_reducible refine (emendatorlaw07_known.calls  t164 _ A6.out).mono ?_); rintro e w7 ⟨rfl, hb⟩; have n0_ := Aside0.mk (below_step (by repeat (first | (with_reducible first | exact HB.out | apply below_alloc | apply pw_below_drewN | apply below_drew1) | exact HB.out)) hb); clear HB; have HB := n0_; clear n0_; (try clear hb); (try clear hb2); (try clear hk); (try clear hi)))
        go_meet
        case rel => exact ⟨_, (!t164), (by first | rfl | (simp; done) | (simp [*]; done)), H', ⟨by first | omega | exact Nat.le_refl _⟩, ⟨by repeat (first | (with_reducible first | exact HB.out | apply below_alloc | apply pw_below_drewN | apply below_drew1) | exact HB.out)⟩⟩
  case rest =>
    clear HC3
    try clear p2
    try clear c4
    try clear c4b0
    try clear c4b1
    try clear c5
    try clear c5b0
    try clear c5b1
    try clear c6
    obtain ⟨kq, x16_2, rfl, HA, HJ2, HB⟩ := hcut
    cases kq with
    | zero => exact absurd HA.out (by simp [emendatorlaw07_TmplParses.j0])
    | succ kj2 =>
      have H := HA.out
      clear HA
      simp only [emendatorlaw07_TmplParses.j0] at H
      by_cases c8 : x16_2 = true
      · subst c8
        have H1 : ((emendatorlaw07_known.f).bind fun t165 => (some t165)) = some r := by rw [if_pos rfl] at H; exact H
        clear H
        have H := H1
        clear H1
        replace H := Option.bind_eq_some_iff.mp H
        obtain ⟨t165, A90, H⟩ := H
        replace H : (some t165) = some r := H
        have A9 := Aside0.mk A90
        clear A90
        obtain rfl := Option.some.inj H
        go_wp2_with (first | ((with_reducible refine gate_callee (f := 20) rfl ?_); refine goesL_ (some 17) rfl rfl Try.func20 (by kernel_rfl) rfl #[] rfl (by (try simp only [List.map_toArray, List.map_cons, List.map_nil]); first | done | rfl | (simp only [List.length_drop, List.length_take]; rfl)) ?_; (with_reducible refine (emendatorlaw07_known.calls  t165 _ A9.out).mono ?_); rintro e w10 ⟨rfl, hb⟩; refine ⟨_, rfl, ?_⟩; have n0_ := Aside0.mk (below_step (by repeat (first | (with_reducible first | exact HB.out | apply below_alloc | apply pw_below_drewN | apply below_drew1) | exact HB.out)) hb); clear HB; have HB := n0_; clear n0_; (try clear hb); (try clear hb2); (try clear hk); (try clear hi)))
        go_ret
        exact ⟨by first | rfl | (simp [errW_none, errW_some] <;> rfl) | (simp [*, errW_none, errW_some] <;> rfl), by repeat (first | (with_reducible first | exact HB.out | apply below_alloc | apply pw_below_drewN | apply below_drew1) | exact HB.out)⟩
      · replace c8 := Bool.eq_false_iff.mpr c8
        subst c8
        have H1 : ((tmpl_Parse.f a0).bind fun t166 => ((emendatorref07_Parse.f kj2 a0).bind fun t169 => ((emendatorref07_Same.f kj2 t166 t169).bind fun t172 => (if t172 = true then ((tmpl_Resolve.f a0 a1).bind fun t173 => ((emendatorref07_Resolve.f kj2 a0 a1).bind fun t174 => (some (t173.toList == t174.toList)))) else (some false))))) = some r := by rw [if_neg (show ¬ (false = true) by decide)] at H; exact H
        clear H
        have H := H1
        clear H1
        replace H := Option.bind_eq_some_iff.mp H
        obtain ⟨t166, A110, H⟩ := H
        replace H : ((emendatorref07_Parse.f kj2 a0).bind fun t169 => ((emendatorref07_Same.f kj2 t166 t169).bind fun t172 => (if t172 = true then ((tmpl_Resolve.f a0 a1).bind fun t173 => ((emendatorref07_Resolve.f kj2 a0 a1).bind fun t174 => (some (t173.toList == t174.toList)))) else (some false)))) = some r := H
        have A11 := Aside0.mk A110
        clear A110
        replace H := Option.bind_eq_some_iff.mp H
        obtain ⟨t169, A120, H⟩ := H
        replace H : ((emendatorref07_Same.f kj2 t166 t169).bind fun t172 => (if t172 = true then ((tmpl_Resolve.f a0 a1).bind fun t173 => ((emendatorref07_Resolve.f kj2 a0 a1).bind fun t174 => (some (t173.toList == t174.toList)))) else (some false))) = some r := H
        have A12 := Aside0.mk A120
        clear A120
        replace H := Option.bind_eq_some_iff.mp H
        obtain ⟨t172, A130, H⟩ := H
        replace H : (if t172 = true then ((tmpl_Resolve.f a0 a1).bind fun t173 => ((emendatorref07_Resolve.f kj2 a0 a1).bind fun t174 => (some (t173.toList == t174.toList)))) else (some false)) = some r := H
        have A13 := Aside0.mk A130
        clear A130
        by_cases c14 : t172 = true
        · subst c14
          have H1 : ((tmpl_Resolve.f a0 a1).bind fun t173 => ((emendatorref07_Resolve.f kj2 a0 a1).bind fun t174 => (some (t173.toList == t174.toList)))) = some r := by rw [if_pos rfl] at H; exact H
          clear H
          have H := H1
          clear H1
          replace H := Option.bind_eq_some_iff.mp H
          obtain ⟨t173, A150, H⟩ := H
          replace H : ((emendatorref07_Resolve.f kj2 a0 a1).bind fun t174 => (some (t173.toList == t174.toList))) = some r := H
          have A15 := Aside0.mk A150
          clear A150
          replace H := Option.bind_eq_some_iff.mp H
          obtain ⟨t174, A160, H⟩ := H
          replace H : (some (t173.toList == t174.toList)) = some r := H
          have A16 := Aside0.mk A160
          clear A160
          obtain rfl := Option.some.inj H
          go_wp2_with (first | ((with_reducible refine gate_callee (f := 21) rfl ?_); refine goesL_ (some 19) rfl rfl Try.func21 (by kernel_rfl) rfl #[.string a0] rfl (by (try simp only [List.map_toArray, List.map_cons, List.map_nil]); first | done | rfl | (simp only [List.length_drop, List.length_take]; rfl)) ?_; (with_reducible refine (tmpl_Parse.calls a0 t166 _ A11.out).mono ?_); rintro e w17 ⟨v167, rfl, ho0, hb⟩; refine ⟨_, rfl, ?_⟩; have n0_ := Aside0.mk (Kd.R_lower ho0 (below_size (by repeat (first | (with_reducible first | exact HB.out | apply below_alloc | apply pw_below_drewN | apply below_drew1) | exact HB.out)))); have n1_ := Aside0.mk (below_step (by repeat (first | (with_reducible first | exact HB.out | apply below_alloc | apply pw_below_drewN | apply below_drew1) | exact HB.out)) hb); clear HB; have HO168 := n0_; have HB := n1_; clear n0_ n1_; (try clear hb); (try clear hb2); (try clear hk); (try clear hi); (try clear ho0)) | ((with_reducible refine gate_callee (f := 23) rfl ?_); refine goesL_ (some 21) rfl rfl Try.func23 (by kernel_rfl) rfl #[.string a0] rfl (by (try simp only [List.map_toArray, List.map_cons, List.map_nil]); first | done | rfl | (simp only [List.length_drop, List.length_take]; rfl)) ?_; (with_reducible refine (emendatorref07_Parse.calls kj2 a0 t169 _ A12.out).mono ?_); rintro e w18 ⟨v170, rfl, ho0, hb⟩; refine ⟨_, rfl, ?_⟩; have n0_ := Aside0.mk (Kd.R_elder' (by (with_reducible repeat (first | apply Kd.R_alloc | apply Kd.R_drewN | apply Kd.R_drew)); exact HO168.out) (Kd.R_base ho0) hb); have n1_ := Aside0.mk (Kd.R_lower (Kd.R_new' ho0 (Kd.R_lt (by (with_reducible repeat (first | apply Kd.R_alloc | apply Kd.R_drewN | apply Kd.R_drew)); exact HO168.out))) (below_size (by repeat (first | (with_reducible first | exact HB.out | apply below_alloc | apply pw_below_drewN | apply below_drew1) | exact HB.out)))); have n2_ := Aside0.mk (below_step (by repeat (first | (with_reducible first | exact HB.out | apply below_alloc | apply pw_below_drewN | apply below_drew1) | exact HB.out)) hb); clear HO168; clear HB; have HO168 := n0_; have HO171 := n1_; have HB := n2_; clear n0_ n1_ n2_; (try clear hb); (try clear hb2); (try clear hk); (try clear hi); (try clear ho0); obtain ⟨Ao19, co19, eo19⟩ := Kd.R_slice HO168.out; subst eo19; obtain ⟨Ao20, co20, eo20⟩ := Kd.R_slice HO171.out; subst eo20) | ((with_reducible refine gate_callee (f := 22) rfl ?_); refine goesL_ (some 22) rfl rfl Try.func22 (by kernel_rfl) rfl #[.slice Ao19 t166.length co19, .slice Ao20 t169.length co20] rfl (by (try simp only [List.map_toArray, List.map_cons, List.map_nil]); first | done | rfl | (simp only [List.length_drop, List.length_take]; rfl)) ?_; (with_reducible refine (emendatorref07_Same.calls kj2 _ _ t166 _ _ t169 true _ ?side1 ?side2 ?side3 ?side4 A13.out).mono ?_); (case side1 => repeat (first | exact (Kd.R_reads' HO168.out).2.2 | (with_reducible refine Kd.C_alloc ?_ _) | (with_reducible refine Kd.C_drewN ?_ _) | (with_reducible refine Kd.C_drew ?_))); (case side2 => exact (Kd.R_reads' HO168.out).2.1); (case side3 => repeat (first | exact (Kd.R_reads' HO171.out).2.2 | (with_reducible refine Kd.C_alloc ?_ _) | (with_reducible refine Kd.C_drewN ?_ _) | (with_reducible refine Kd.C_drew ?_))); (case side4 => exact (Kd.R_reads' HO171.out).2.1); rintro e w' ⟨rfl, ⟨nd, rfl⟩⟩; refine ⟨_, rfl, ?_⟩) | (go_at_call 24; (with_reducible refine (tmpl_Resolve.calls a0 a1 t173 _ A15.out).mono ?_); rintro e w21 ⟨rfl, hb⟩; have n0_ := Aside0.mk (Kd.R_below (by (with_reducible repeat (first | apply Kd.R_alloc | apply Kd.R_drewN | apply Kd.R_drew)); exact HO168.out) hb); have n1_ := Aside0.mk (Kd.R_below (by (with_reducible repeat (first | apply Kd.R_alloc | apply Kd.R_drewN | apply Kd.R_drew)); exact HO171.out) hb); have n2_ := Aside0.mk (below_step (by repeat (first | (with_reducible first | exact HB.out | apply below_alloc | apply pw_below_drewN | apply below_drew1) | exact HB.out)) hb); clear HO168; clear HO171; clear HB; have HO168 := n0_; have HO171 := n1_; have HB := n2_; clear n0_ n1_ n2_; (try clear hb); (try clear hb2); (try clear hk); (try clear hi)) | (go_at_call 25; (with_reducible refine (emendatorref07_Resolve.calls kj2 a0 a1 t174 _ A16.out).mono ?_); rintro e w' ⟨rfl, ⟨nd, rfl⟩⟩))
          go_ret
          exact ⟨by first | rfl | (simp [errW_none, errW_some] <;> rfl) | (simp [*, errW_none, errW_some] <;> rfl), by repeat (first | (with_reducible first | exact HB.out | apply below_alloc | apply pw_below_drewN | apply below_drew1) | exact HB.out)⟩
        · replace c14 := Bool.eq_false_iff.mpr c14
          subst c14
          have H1 : (some false) = some r := by rw [if_neg (show ¬ (false = true) by decide)] at H; exact H
          clear H
          have H := H1
          clear H1
          obtain rfl := Option.some.inj H
          go_wp2_with (first | ((with_reducible refine gate_callee (f := 21) rfl ?_); refine goesL_ (some 19) rfl rfl Try.func21 (by kernel_rfl) rfl #[.string a0] rfl (by (try simp only [List.map_toArray, List.map_cons, List.map_nil]); first | done | rfl | (simp only [List.length_drop, List.length_take]; rfl)) ?_; (with_reducible refine (tmpl_Parse.calls a0 t166 _ A11.out).mono ?_); rintro e w22 ⟨v167, rfl, ho0, hb⟩; refine ⟨_, rfl, ?_⟩; have n0_ := Aside0.mk (Kd.R_lower ho0 (below_size (by repeat (first | (with_reducible first | exact HB.out | apply below_alloc | apply pw_below_drewN | apply below_drew1) | exact HB.out)))); have n1_ := Aside0.mk (below_step (by repeat (first | (with_reducible first | exact HB.out | apply below_alloc | apply pw_below_drewN | apply below_drew1) | exact HB.out)) hb); clear HB; have HO168 := n0_; have HB := n1_; clear n0_ n1_; (try clear hb); (try clear hb2); (try clear hk); (try clear hi); (try clear ho0)) | ((with_reducible refine gate_callee (f := 23) rfl ?_); refine goesL_ (some 21) rfl rfl Try.func23 (by kernel_rfl) rfl #[.string a0] rfl (by (try simp only [List.map_toArray, List.map_cons, List.map_nil]); first | done | rfl | (simp only [List.length_drop, List.length_take]; rfl)) ?_; (with_reducible refine (emendatorref07_Parse.calls kj2 a0 t169 _ A12.out).mono ?_); rintro e w23 ⟨v170, rfl, ho0, hb⟩; refine ⟨_, rfl, ?_⟩; have n0_ := Aside0.mk (Kd.R_elder' (by (with_reducible repeat (first | apply Kd.R_alloc | apply Kd.R_drewN | apply Kd.R_drew)); exact HO168.out) (Kd.R_base ho0) hb); have n1_ := Aside0.mk (Kd.R_lower (Kd.R_new' ho0 (Kd.R_lt (by (with_reducible repeat (first | apply Kd.R_alloc | apply Kd.R_drewN | apply Kd.R_drew)); exact HO168.out))) (below_size (by repeat (first | (with_reducible first | exact HB.out | apply below_alloc | apply pw_below_drewN | apply below_drew1) | exact HB.out)))); have n2_ := Aside0.mk (below_step (by repeat (first | (with_reducible first | exact HB.out | apply below_alloc | apply pw_below_drewN | apply below_drew1) | exact HB.out)) hb); clear HO168; clear HB; have HO168 := n0_; have HO171 := n1_; have HB := n2_; clear n0_ n1_ n2_; (try clear hb); (try clear hb2); (try clear hk); (try clear hi); (try clear ho0); obtain ⟨Ao24, co24, eo24⟩ := Kd.R_slice HO168.out; subst eo24; obtain ⟨Ao25, co25, eo25⟩ := Kd.R_slice HO171.out; subst eo25) | ((with_reducible refine gate_callee (f := 22) rfl ?_); refine goesL_ (some 22) rfl rfl Try.func22 (by kernel_rfl) rfl #[.slice Ao24 t166.length co24, .slice Ao25 t169.length co25] rfl (by (try simp only [List.map_toArray, List.map_cons, List.map_nil]); first | done | rfl | (simp only [List.length_drop, List.length_take]; rfl)) ?_; (with_reducible refine (emendatorref07_Same.calls kj2 _ _ t166 _ _ t169 false _ ?side1 ?side2 ?side3 ?side4 A13.out).mono ?_); (case side1 => repeat (first | exact (Kd.R_reads' HO168.out).2.2 | (with_reducible refine Kd.C_alloc ?_ _) | (with_reducible refine Kd.C_drewN ?_ _) | (with_reducible refine Kd.C_drew ?_))); (case side2 => exact (Kd.R_reads' HO168.out).2.1); (case side3 => repeat (first | exact (Kd.R_reads' HO171.out).2.2 | (with_reducible refine Kd.C_alloc ?_ _) | (with_reducible refine Kd.C_drewN ?_ _) | (with_reducible refine Kd.C_drew ?_))); (case side4 => exact (Kd.R_reads' HO171.out).2.1); rintro e w' ⟨rfl, ⟨nd, rfl⟩⟩; refine ⟨_, rfl, ?_⟩))
          go_ret
          exact ⟨by first | rfl | (simp [errW_none, errW_some] <;> rfl) | (simp [*, errW_none, errW_some] <;> rfl), by repeat (first | (with_reducible first | exact HB.out | apply below_alloc | apply pw_below_drewN | apply below_drew1) | exact HB.out)⟩

/-- THE ONE PURE STATEMENT of emendatorlaw07_TmplParses: yours. -/
def emendatorlaw07_TmplParses.Pure : Prop := ∀ (a0 : ByteArray) (a1 : ByteArray), a0.size ≤ 140737488351232 → a1.size ≤ 140737488351232 → ∃ k, emendatorlaw07_TmplParses.f k a0 a1 = some true
theorem emendatorlaw07_TmplParses.walk (P : emendatorlaw07_TmplParses.Pure) (a0 : ByteArray) (a1 : ByteArray) (w : World) (w0 : a0.size ≤ 140737488351232) (w1 : a1.size ≤ 140737488351232) :
    Calls Try.prog 6 #[.string a0, .string a1] w fun e w' => e = .returned (.bool true) ∧ Below w.heap.size w w' := by
  obtain ⟨k, h⟩ := P a0 a1 w0 w1
  refine (emendatorlaw07_TmplParses.calls k a0 a1 true w h).mono ?_
  rintro e w' ⟨rfl, hd⟩
  exact ⟨rfl, hd⟩

end Go.Proofs.Ytccalibapiiifaa.T
