import Derived.Test.YtoejfgmfdjoonaaGreatDoorEeB
import Derived.Handy
set_option linter.unusedVariables false
set_option linter.unusedSimpArgs false

/- kinds of bytes, for small letters; registers' names: walked. -/
set_option linter.unusedVariables false
set_option linter.unusedSimpArgs false
namespace Go.Proofs.YtoejfgmfdjoonaaGreatDoor
open Go.RowKit Go.Proofs.YtoejfgmfdjoonaaGreatDoorW.PrintWords

theorem between_any (x lo hi : Int) (w : World) : Calls Tryz.prog 90 #[.int .u8 x, .int .u8 lo, .int .u8 hi] w fun e w' => e = .returned (.bool (decide (lo ≤ x) && decide (x ≤ hi))) ∧ w' = w := by
  go_enter Tryz.func90, Tryz.ntmps90
  cases h1 : decide (lo ≤ x) <;> cases h2 : decide (x ≤ hi)
  all_goals
    go_wp2
    go_ret
    exact ⟨by simp [h1, h2], rfl⟩
theorem digit_small (x : Int) (h1 : 97 ≤ x) (h2 : x ≤ 122) (w : World) : Calls Tryz.prog 116 #[.int .u8 x] w fun e w' => e = .returned (.bool false) ∧ w' = w := by
  have hb := between_any x 48 57
  have e : (decide ((48 : Int) ≤ x) && decide (x ≤ 57)) = false := by
    have : decide (x ≤ 57) = false := by simp; omega
    rw [this, Bool.and_false]
  rw [e] at hb
  have HB := Lib.hid hb
  clear hb e
  go_enter Tryz.func116, Tryz.ntmps116
  go_wp2_with (go_at_call 90; refine (HB.out _).mono ?_; rintro e w1 ⟨rfl, rfl⟩)
  go_ret
  exact ⟨rfl, rfl⟩
theorem great_small (x : Int) (h1 : 97 ≤ x) (h2 : x ≤ 122) (w : World) : Calls Tryz.prog 57 #[.int .u8 x] w fun e w' => e = .returned (.bool false) ∧ w' = w := by
  have hb := between_any x 65 90
  have e : (decide ((65 : Int) ≤ x) && decide (x ≤ 90)) = false := by
    have : decide (x ≤ 90) = false := by simp; omega
    rw [this, Bool.and_false]
  rw [e] at hb
  have HB := Lib.hid hb
  clear hb e
  go_enter Tryz.func57, Tryz.ntmps57
  go_wp2_with (go_at_call 90; refine (HB.out _).mono ?_; rintro e w1 ⟨rfl, rfl⟩)
  go_ret
  exact ⟨rfl, rfl⟩
theorem small_small (x : Int) (h1 : 97 ≤ x) (h2 : x ≤ 122) (w : World) : Calls Tryz.prog 122 #[.int .u8 x] w fun e w' => e = .returned (.bool true) ∧ w' = w := by
  have hb := between_any x 97 122
  have e : (decide ((97 : Int) ≤ x) && decide (x ≤ 122)) = true := by
    have a1 : decide ((97 : Int) ≤ x) = true := by simp; omega
    have a2 : decide (x ≤ 122) = true := by simp; omega
    rw [a1, a2]; rfl
  rw [e] at hb
  have HB := Lib.hid hb
  clear hb e
  go_enter Tryz.func122, Tryz.ntmps122
  go_wp2_with (go_at_call 90; refine (HB.out _).mono ?_; rintro e w1 ⟨rfl, rfl⟩)
  go_ret
  exact ⟨rfl, rfl⟩
theorem letter_small (x : Int) (h1 : 97 ≤ x) (h2 : x ≤ 122) (w : World) : Calls Tryz.prog 121 #[.int .u8 x] w fun e w' => e = .returned (.bool true) ∧ w' = w := by
  have HB := Lib.hid (small_small x h1 h2)
  go_enter Tryz.func121, Tryz.ntmps121
  go_wp2_with (go_at_call 122; refine (HB.out _).mono ?_; rintro e w1 ⟨rfl, rfl⟩)
  go_ret
  exact ⟨rfl, rfl⟩
/-- Small of a small letter -/
theorem Small_small (x : Int) (h1 : 97 ≤ x) (h2 : x ≤ 122) (w : World) : Calls Tryz.prog 34 #[.int .u8 x] w fun e w' => e = .returned (.int .u8 x) ∧ w' = w := by
  have HB := Lib.hid (great_small x h1 h2)
  go_enter Tryz.func34, Tryz.ntmps34
  go_wp2_with (go_at_call 57; refine (HB.out _).mono ?_; rintro e w1 ⟨rfl, rfl⟩)
  go_ret
  exact ⟨rfl, rfl⟩
set_option maxRecDepth 100000 in
theorem asks_d (w : World) : Calls Tryz.prog 91 #[.int .u8 100] w fun e w' => e = .returned (.func (.func 116) #[] #[]) ∧ w' = w := by
  have HB := Lib.hid (Small_small 100 (by omega) (by omega))
  go_enter Tryz.func91, Tryz.ntmps91
  go_wp2_with (go_at_call 34; refine (HB.out _).mono ?_; rintro e w1 ⟨rfl, rfl⟩)
  go_ret
  exact ⟨rfl, rfl⟩
set_option maxRecDepth 100000 in
theorem asks_a (w : World) : Calls Tryz.prog 91 #[.int .u8 97] w fun e w' => e = .returned (.func (.func 121) #[] #[]) ∧ w' = w := by
  have HB := Lib.hid (Small_small 97 (by omega) (by omega))
  go_enter Tryz.func91, Tryz.ntmps91
  go_wp2_with (go_at_call 34; refine (HB.out _).mono ?_; rintro e w1 ⟨rfl, rfl⟩)
  go_ret
  exact ⟨rfl, rfl⟩
theorem fneq_d (w : World) : (binOp .neq 142 (.func (.func 116) #[] #[]) .nilFunc).run Tryz.prog w = .ok (.bool true) w := by kernel_rfl
theorem fneq_a (w : World) : (binOp .neq 142 (.func (.func 121) #[] #[]) .nilFunc).run Tryz.prog w = .ok (.bool true) w := by kernel_rfl
set_option maxRecDepth 100000 in
theorem Is_d (x : Int) (h1 : 97 ≤ x) (h2 : x ≤ 122) (w : World) : Calls Tryz.prog 58 #[.int .u8 100, .int .u8 x] w fun e w' => e = .returned (.bool false) ∧ w' = w := by
  have HA := Lib.hid asks_d
  have hfn := fneq_d
  have HD := Lib.hid (digit_small x h1 h2)
  have HG := Lib.hid (great_small 100 (by omega) (by omega))
  go_enter Tryz.func58, Tryz.ntmps58
  go_wp2_with (first
    | (go_at_call 91; refine (HA.out _).mono ?_; rintro e w1 ⟨rfl, rfl⟩)
    | (go_at_call 116; refine (HD.out _).mono ?_; rintro e w1 ⟨rfl, rfl⟩)
    | (go_at_call 57; refine (HG.out _).mono ?_; rintro e w1 ⟨rfl, rfl⟩))
  go_ret
  exact ⟨rfl, rfl⟩
set_option maxRecDepth 100000 in
theorem Is_a (x : Int) (h1 : 97 ≤ x) (h2 : x ≤ 122) (w : World) : Calls Tryz.prog 58 #[.int .u8 97, .int .u8 x] w fun e w' => e = .returned (.bool true) ∧ w' = w := by
  have HA := Lib.hid asks_a
  have hfn := fneq_a
  have HD := Lib.hid (letter_small x h1 h2)
  have HG := Lib.hid (great_small 97 (by omega) (by omega))
  go_enter Tryz.func58, Tryz.ntmps58
  go_wp2_with (first
    | (go_at_call 91; refine (HA.out _).mono ?_; rintro e w1 ⟨rfl, rfl⟩)
    | (go_at_call 121; refine (HD.out _).mono ?_; rintro e w1 ⟨rfl, rfl⟩)
    | (go_at_call 57; refine (HG.out _).mono ?_; rintro e w1 ⟨rfl, rfl⟩))
  go_ret
  exact ⟨rfl, rfl⟩
set_option maxRecDepth 100000 in
theorem Known_small (x : Int) (h1 : 97 ≤ x) (h2 : x ≤ 122) (w : World) : Calls Tryz.prog 35 #[.int .u8 x] w fun e w' => e = .returned (.bool true) ∧ w' = w := by
  have HD := Lib.hid (Is_d x h1 h2)
  have HA := Lib.hid (Is_a x h1 h2)
  have b1 : (x == 34) = false := by rw [beq_eq_false_iff_ne]; omega
  have b2 : (x == 95) = false := by rw [beq_eq_false_iff_ne]; omega
  go_enter Tryz.func35, Tryz.ntmps35
  go_wp2_with (first
    | (go_at_call 58; with_reducible refine (HD.out _).mono ?_; rintro e w1 ⟨rfl, rfl⟩)
    | (go_at_call 58; with_reducible refine (HA.out _).mono ?_; rintro e w1 ⟨rfl, rfl⟩))
  go_ret
  exact ⟨rfl, rfl⟩
end Go.Proofs.YtoejfgmfdjoonaaGreatDoor

/- regs' clone and size, walked. -/
set_option linter.unusedVariables false
set_option linter.unusedSimpArgs false
namespace Go.Proofs.YtoejfgmfdjoonaaGreatDoor
open Go.RowKit Go.Shelf Go.Maps Go.Proofs.YtoejfgmfdjoonaaGreatDoorW.PrintWords Go.Proofs.YtoejfgmfdjoonaaGreatDoorW.PrintLast

def ClonePost (w : World) (xs : List ByteArray) (b : Bool) (e : Ending) (w' : World) : Prop := ∃ v, e = .returned (.agg #[v, .bool b]) ∧ Own w.heap.size w w' v xs
set_option maxRecDepth 100000 in
theorem rclone_any {w : World} {G : Nat → Prop} {v : Value} {xs : List ByteArray} (h : Ls w G v xs) (h0 : 0 < xs.length) (hl : xs.length ≤ 1000000) (b : Bool) :
    Calls Tryz.prog 36 #[.agg #[v, .bool b]] w (ClonePost w xs b) := by
  have hclo : ∀ W, Below w.heap.size w W → Calls Tryz.prog 59 #[v] W (OwnPost W.heap.size W xs) := fun W hb => cloL (h.step hb.size fun b hlt _ => hb.block b hlt) (by omega)
  have HC := Lib.hid hclo
  obtain ⟨A, c, hv, _⟩ := id h
  subst hv
  have hn : ((xs.length : Int) == 0) = false := by rw [beq_eq_false_iff_ne]; omega
  clear h hclo
  go_enter Tryz.func36, Tryz.ntmps36
  go_wp2_with fail
  refine (HC.out _ (below_alloc (below_alloc (Below.refl _ w) _) _)).mono ?_
  rintro e w2 ⟨v2, rfl, h21, h22, h23⟩
  obtain ⟨A2, c2, hv2, _⟩ := h21.slice
  rw [cS_len] at hv2
  subst hv2
  have e1 : w2.heap[w.heap.size]? = some (.cells #[.slice A xs.length c, .bool b] 56 (0, 0)) := (h23.block _ (by simp only [World.size_alloc]; omega)).trans ((Below.heap_alloc (w.alloc _) _ _ (by simp only [World.size_alloc]; omega)).trans (World.alloc_heap_new w _))
  have e2 : w2.heap[w.heap.size + 1]? = some (.cells #[.slice none 0 0, .bool false] 56 (0, 0)) := (h23.block _ (by simp only [World.size_alloc]; omega)).trans (by
    have := World.alloc_heap_new (w.alloc (.cells #[.slice A xs.length c, .bool b] 56)) (.cells #[.slice none 0 0, .bool false] 56)
    rwa [show (w.alloc (.cells #[.slice A xs.length c, .bool b] 56)).heap.size = w.heap.size + 1 by simp] at this)
  have c0 : w2.cell? ⟨w.heap.size, 0, none⟩ = some (.slice A xs.length c) := by rw [blk_cell e1]; rfl
  have c1 : w2.cell? ⟨w.heap.size, 1, none⟩ = some (.bool b) := by rw [blk_cell e1]; rfl
  have d0 : w2.cell? ⟨w.heap.size + 1, 0, none⟩ = some (.slice none 0 0) := by rw [blk_cell e2]; rfl
  have d1 : w2.cell? ⟨w.heap.size + 1, 1, none⟩ = some (.bool false) := by rw [blk_cell e2]; rfl
  have f0 : w2.frozen? ⟨w.heap.size, 0, none⟩ = false := blk_frozen e1 0
  have g0 : w2.frozen? ⟨w.heap.size + 1, 0, none⟩ = false := blk_frozen e2 0
  have g1 : w2.frozen? ⟨w.heap.size + 1, 1, none⟩ = false := blk_frozen e2 1
  have H2 := Lib.hid (And.intro h21 (And.intro h22 h23))
  clear h21 h22 h23
  go_wp2_with fail
  have hne : ∀ m, m ≤ w.heap.size + 1 → (Value.slice A2 xs.length c2).ownBlock ≠ some m := fun m hm e => by
    have := H2.out.2.1 m e
    simp only [World.size_alloc] at this
    omega
  have hrw := ((H2.out.1.setCell (p := ⟨w.heap.size, 0, none⟩) (hne _ (by dsimp only; omega)) (.slice A2 xs.length c2)).setCell (p := ⟨w.heap.size + 1, 0, none⟩) (hne _ (by dsimp only; omega)) (.slice A2 xs.length c2)).setCell (p := ⟨w.heap.size + 1, 1, none⟩) (hne _ (by dsimp only; omega)) (.bool b)
  have hbl := (((below_then (below_alloc (below_alloc (Below.refl _ w) _) _) (by simp only [World.size_alloc]; omega) H2.out.2.2).setCell (p := ⟨w.heap.size, 0, none⟩) (Nat.le_refl _) (.slice A2 xs.length c2)).setCell (p := ⟨w.heap.size + 1, 0, none⟩) (Nat.le_succ _) (.slice A2 xs.length c2)).setCell (p := ⟨w.heap.size + 1, 1, none⟩) (Nat.le_succ _) (.bool b)
  have hbk := blk_set (blk_set ((Below.heap_setCell w2 ⟨w.heap.size, 0, none⟩ (.slice A2 xs.length c2) (w.heap.size + 1) (by simp)).trans e2) 0 (.slice A2 xs.length c2)) 1 (.bool b)
  obtain ⟨W4, hW4⟩ : ∃ W4, ((w2.setCell ⟨w.heap.size, 0, none⟩ (.slice A2 xs.length c2)).setCell ⟨w.heap.size + 1, 0, none⟩ (.slice A2 xs.length c2)).setCell ⟨w.heap.size + 1, 1, none⟩ (.bool b) = W4 := ⟨_, rfl⟩
  rw [hW4] at hrw hbl hbk ⊢
  have r0 : W4.cell? ⟨w.heap.size + 1, 0, none⟩ = some (.slice A2 xs.length c2) := by rw [blk_cell hbk]; rfl
  have r1 : W4.cell? ⟨w.heap.size + 1, 1, none⟩ = some (.bool b) := by rw [blk_cell hbk]; rfl
  have HF := Lib.hid (And.intro hrw hbl)
  clear hW4 hrw hbl hbk c0 c1 d0 d1 f0 g0 g1 e1 e2
  have H22 := Lib.hid (fun k hk => Nat.le_trans (show w.heap.size ≤ _ from by simp only [World.size_alloc]; omega) (H2.out.2.1 k hk))
  refine bodyPost_ret (by simp [results, Tryz.results36, r0, r1, go_sem]; try rfl) rfl ?_
  exact ⟨_, rfl, HF.out.1, H22.out, HF.out.2⟩
end Go.Proofs.YtoejfgmfdjoonaaGreatDoor

/- regs' size; the law's heavy with its sum: walked. -/
set_option linter.unusedVariables false
set_option linter.unusedSimpArgs false
namespace Go.Proofs.YtoejfgmfdjoonaaGreatDoor
open Go.RowKit Go.Shelf Go.Maps Go.Proofs.YtoejfgmfdjoonaaGreatDoorW.PrintWords Go.Proofs.YtoejfgmfdjoonaaGreatDoorW.PrintLast

def sumS (l : List ByteArray) : Nat := (l.map fun x => x.size + 1).sum
theorem sumS_snoc (l : List ByteArray) (x : ByteArray) : sumS (l ++ [x]) = sumS l + (x.size + 1) := by simp [sumS]
theorem sumS_le : ∀ (l : List ByteArray), (∀ x ∈ l, x.size ≤ 1000) → sumS l ≤ l.length * 1001
  | [], _ => Nat.zero_le _
  | x :: l, h => by
    have h1 := sumS_le l (fun y hy => h y (List.mem_cons_of_mem _ hy))
    have h2 := h x (List.mem_cons_self ..)
    have e : sumS (x :: l) = x.size + 1 + sumS l := by simp [sumS]
    rw [e, List.length_cons, Nat.add_mul, Nat.one_mul]
    omega
theorem sumS_step {xs : List ByteArray} {j : Nat} {x : ByteArray} (h : xs[j]? = some x) : sumS (xs.take (j + 1)) = sumS (xs.take j) + (x.size + 1) := by
  obtain ⟨e1, e2⟩ := List.getElem?_eq_some_iff.1 h
  rw [List.take_succ_eq_append_getElem e1, e2, sumS_snoc]

def Heavy16nPost (w : World) (n : Nat) (e : Ending) (w' : World) : Prop := ∃ b, e = .returned (.bool b) ∧ Below w.heap.size w w' ∧ (b = false → n ≤ 300)
set_option maxRecDepth 100000 in
set_option maxHeartbeats 1000000 in
theorem heavy16n {w : World} {G : Nat → Prop} {v : Value} {xs : List ByteArray} (h : Ls w G v xs) :
    Calls Tryz.prog 12 #[v, .slice none 0 0] w (Heavy16nPost w xs.length) := by
  obtain ⟨A1, c1, rfl, hc, hm, h3⟩ := h
  have H3 := Lib.hid h3
  have hxl : xs.length ≤ maxLen := Nat.le_trans hc hm
  unfold maxLen at hxl
  clear h3
  go_enter Tryz.func12, Tryz.ntmps12
  go_wp2
  go_loopw [5, 6] (fun v5 v6 wr => ∃ (m : Int) (j : Nat), v5 = .int .i64 m ∧ v6 = .int .i64 j ∧ j ≤ xs.length ∧ Below w.heap.size w wr) (fun _ v6 _ => xs.length - (intOf v6).toNat)
  case atStart => exact ⟨0, 0, rfl, rfl, by omega, Below.refl _ _⟩
  case round =>
    obtain ⟨m, j, rfl, rfl, hj, hbl⟩ := hrel
    by_cases hlt : j < xs.length
    · obtain ⟨b1, o1, rfl, _, hb1, hc1⟩ := H3.out (by omega)
      obtain ⟨x, hx⟩ : ∃ x, xs[j]? = some x := ⟨_, List.getElem?_eq_getElem hlt⟩
      have d1 := (World.cell?_of_block (w := w) (w' := wr) (a := ⟨b1, o1 + j, none⟩) (hbl.block b1 hb1)).trans (hc1 j x hx)
      have HBL := Lib.hid hbl
      have hlt' : (j : Int) < xs.length := by omega
      clear hc1 hx hbl
      go_wp2
      go_roundw
      case rel => exact ⟨_, j + 1, rfl, by go_num, by omega, HBL.out⟩
      case measure => simp [intOf]; omega
    · obtain rfl : j = xs.length := by omega
      have HBL := Lib.hid hbl
      clear hbl
      by_cases hle : xs.length ≤ 300
      · have hd : decide (300 < (xs.length : Int)) = false := by simp; omega
        go_wp2
        all_goals
          go_ret
          exact ⟨_, rfl, HBL.out, fun _ => hle⟩
      · have hd : decide (300 < (xs.length : Int)) = true := by simp; omega
        go_wp2
        go_ret
        refine ⟨true, ?_, HBL.out, fun h => by cases h⟩
        rfl
def HeavySPost (w : World) (xs : List ByteArray) (e : Ending) (w' : World) : Prop := ∃ b, e = .returned (.bool b) ∧ Below w.heap.size w w' ∧ (b = false → xs.length ≤ 300 ∧ sumS xs ≤ 6000)
set_option maxRecDepth 100000 in
set_option maxHeartbeats 1000000 in
theorem heavy16s {w : World} {G : Nat → Prop} {v : Value} {xs : List ByteArray} (h : Ls w G v xs) (hs : ∀ x ∈ xs, x.size ≤ 1000) :
    Calls Tryz.prog 12 #[v, .slice none 0 0] w (HeavySPost w xs) := by
  by_cases hle : xs.length ≤ 300
  · obtain ⟨A1, c1, rfl, hc, hm, h3⟩ := h
    have H3 := Lib.hid h3
    have HS := Lib.hid hs
    clear h3 hs
    have hd : decide (300 < (xs.length : Int)) = false := by simp; omega
    go_enter Tryz.func12, Tryz.ntmps12
    go_wp2
    go_loopw [5, 6] (fun v5 v6 wr => ∃ j : Nat, v5 = .int .i64 (sumS (xs.take j) : Nat) ∧ v6 = .int .i64 j ∧ j ≤ xs.length ∧ Below w.heap.size w wr) (fun _ v6 _ => xs.length - (intOf v6).toNat)
    case atStart => exact ⟨0, rfl, rfl, by omega, Below.refl _ _⟩
    case round =>
      obtain ⟨j, rfl, rfl, hj, hbl⟩ := hrel
      have hsj := sumS_le (xs.take j) (fun x hx => HS.out x (List.mem_of_mem_take hx))
      have hsl : (xs.take j).length ≤ 300 := by rw [List.length_take]; omega
      have hsb : sumS (xs.take j) ≤ 300300 := Nat.le_trans hsj (Nat.mul_le_mul_right 1001 hsl)
      obtain ⟨S, hS⟩ : ∃ S, sumS (xs.take j) = S := ⟨_, rfl⟩
      rw [hS] at hsb ⊢
      by_cases hlt : j < xs.length
      · obtain ⟨b1, o1, rfl, _, hb1, hc1⟩ := H3.out (by omega)
        obtain ⟨x, hx⟩ : ∃ x, xs[j]? = some x := ⟨_, List.getElem?_eq_getElem hlt⟩
        have d1 := (World.cell?_of_block (w := w) (w' := wr) (a := ⟨b1, o1 + j, none⟩) (hbl.block b1 hb1)).trans (hc1 j x hx)
        have hxs := HS.out x (List.mem_of_getElem? hx)
        have hst := sumS_step hx
        rw [hS] at hst
        have HST := Lib.hid hst
        have HBL := Lib.hid hbl
        have hlt' : (j : Int) < xs.length := by omega
        clear hc1 hx hbl hst hS hsj hsl
        go_wp2
        go_roundw
        case rel => exact ⟨j + 1, by rw [HST.out]; go_num, by go_num, by omega, HBL.out⟩
        case measure => simp [intOf]; omega
      · obtain rfl : j = xs.length := by omega
        have HBL := Lib.hid hbl
        rw [List.take_length] at hS
        have HSE := Lib.hid hS
        clear hbl hS hsj hsl
        by_cases h6 : S ≤ 6000
        · have hd6 : decide (6000 < (S : Int)) = false := by simp; omega
          go_wp2
          go_ret
          exact ⟨_, rfl, HBL.out, fun _ => ⟨hle, by rw [HSE.out]; exact h6⟩⟩
        · have hd6 : decide (6000 < (S : Int)) = true := by simp; omega
          go_wp2
          go_ret
          exact ⟨true, rfl, HBL.out, fun h => by cases h⟩
  · refine (heavy16n h).mono ?_
    rintro e w' ⟨b, rfl, hb, hn⟩
    exact ⟨b, rfl, hb, fun h => absurd (hn h) hle⟩

def SizePost (w : World) (n : Nat) (e : Ending) (w' : World) : Prop := e = .returned (.int .i64 n) ∧ Below w.heap.size w w'
set_option maxRecDepth 100000 in
set_option maxHeartbeats 1000000 in
theorem rsize_any {w : World} {G : Nat → Prop} {v : Value} {xs : List ByteArray} (h : Ls w G v xs) (hl : xs.length ≤ 300) (hs : ∀ x ∈ xs, x.size ≤ 1000) (b : Bool) :
    Calls Tryz.prog 143 #[.agg #[v, .bool b]] w (SizePost w (sumS xs)) := by
  obtain ⟨A1, c1, rfl, hc, hm, h3⟩ := h
  have H3 := Lib.hid h3
  have HS := Lib.hid hs
  clear h3 hs
  go_enter Tryz.func143, Tryz.ntmps143
  go_wp2
  go_loopw [3, 12] (fun v3 v12 wr => ∃ j : Nat, v3 = .int .i64 ((xs.length : Int) + ((sumS (xs.take j) : Nat) : Int) - j) ∧ v12 = .int .i64 j ∧ j ≤ xs.length ∧ Below w.heap.size w wr) (fun _ v12 _ => xs.length - (intOf v12).toNat)
  case atStart => exact ⟨0, by simp [sumS], rfl, by omega, below_alloc (Below.refl _ w) _⟩
  case round =>
    obtain ⟨j, rfl, rfl, hj, hbl⟩ := hrel
    have hsj := sumS_le (xs.take j) (fun x hx => HS.out x (List.mem_of_mem_take hx))
    have hsl : (xs.take j).length ≤ 300 := by rw [List.length_take]; omega
    have hsb : sumS (xs.take j) ≤ 300300 := Nat.le_trans hsj (Nat.mul_le_mul_right 1001 hsl)
    obtain ⟨S, hS⟩ : ∃ S, sumS (xs.take j) = S := ⟨_, rfl⟩
    rw [hS] at hsb ⊢
    by_cases hlt : j < xs.length
    · obtain ⟨b1, o1, rfl, _, hb1, hc1⟩ := H3.out (by omega)
      obtain ⟨x, hx⟩ : ∃ x, xs[j]? = some x := ⟨_, List.getElem?_eq_getElem hlt⟩
      have d1 := (World.cell?_of_block (w := w) (w' := wr) (a := ⟨b1, o1 + j, none⟩) (hbl.block b1 hb1)).trans (hc1 j x hx)
      have hxs := HS.out x (List.mem_of_getElem? hx)
      have hst := sumS_step hx
      rw [hS] at hst
      have HST := Lib.hid hst
      have HBL := Lib.hid hbl
      have hlt' : (j : Int) < xs.length := by omega
      clear hc1 hx hbl hst hS hsj hsl
      go_wp2
      go_roundw
      case rel => exact ⟨j + 1, by rw [HST.out, show (xs.length : Int) + ((S + (x.size + 1) : Nat) : Int) - ((j + 1 : Nat) : Int) = xs.length + S - j + x.size by omega], by go_num, by omega, HBL.out⟩
      case measure => simp [intOf]; omega
    · obtain rfl : j = xs.length := by omega
      have hlt' : ¬ ((xs.length : Int) < xs.length) := by omega
      have HBL := Lib.hid hbl
      rw [List.take_length] at hS
      have HSE := Lib.hid hS
      clear hbl hS hsj hsl
      go_wp2
      go_ret
      refine ⟨?_, HBL.out⟩
      rw [HSE.out]
      exact congrArg (fun z : Int => Ending.returned (Value.int .i64 z)) (show (xs.length : Int) + (S : Int) - xs.length = S by omega)
end Go.Proofs.YtoejfgmfdjoonaaGreatDoor
