
import Derived.Test.YtdhemdeapphfoaaGreatDoorEeX
import Derived.Handy
import Derived.WideKeyEntry
import Derived.Test.YtdhemdeapphfoaaGreatDoorWLast
set_option linter.unusedVariables false
set_option linter.unusedSimpArgs false

/- kinds of bytes, for small letters; registers' names: walked. -/
set_option linter.unusedVariables false
set_option linter.unusedSimpArgs false
namespace Go.Proofs.YtdhemdeapphfoaaGreatDoor
open Go.RowKit Go.Proofs.YtdhemdeapphfoaaGreatDoorW.PrintWords

theorem between_any (x lo hi : Int) (w : World) : Calls Tryz.prog 64 #[.int .u8 x, .int .u8 lo, .int .u8 hi] w fun e w' => e = .returned (.bool (decide (lo ≤ x) && decide (x ≤ hi))) ∧ w' = w := by
  go_enter Tryz.func64, Tryz.ntmps64
  cases h1 : decide (lo ≤ x) <;> cases h2 : decide (x ≤ hi)
  all_goals
    go_wp2
    go_ret
    exact ⟨by simp [h1, h2], rfl⟩
theorem digit_small (x : Int) (h1 : 97 ≤ x) (h2 : x ≤ 122) (w : World) : Calls Tryz.prog 89 #[.int .u8 x] w fun e w' => e = .returned (.bool false) ∧ w' = w := by
  have hb := between_any x 48 57
  have e : (decide ((48 : Int) ≤ x) && decide (x ≤ 57)) = false := by
    have : decide (x ≤ 57) = false := by simp; omega
    rw [this, Bool.and_false]
  rw [e] at hb
  have HB := Lib.hid hb
  clear hb e
  go_enter Tryz.func89, Tryz.ntmps89
  go_wp2_with (go_at_call 64; refine (HB.out _).mono ?_; rintro e w1 ⟨rfl, rfl⟩)
  go_ret
  exact ⟨rfl, rfl⟩
theorem great_small (x : Int) (h1 : 97 ≤ x) (h2 : x ≤ 122) (w : World) : Calls Tryz.prog 44 #[.int .u8 x] w fun e w' => e = .returned (.bool false) ∧ w' = w := by
  have hb := between_any x 65 90
  have e : (decide ((65 : Int) ≤ x) && decide (x ≤ 90)) = false := by
    have : decide (x ≤ 90) = false := by simp; omega
    rw [this, Bool.and_false]
  rw [e] at hb
  have HB := Lib.hid hb
  clear hb e
  go_enter Tryz.func44, Tryz.ntmps44
  go_wp2_with (go_at_call 64; refine (HB.out _).mono ?_; rintro e w1 ⟨rfl, rfl⟩)
  go_ret
  exact ⟨rfl, rfl⟩
theorem small_small (x : Int) (h1 : 97 ≤ x) (h2 : x ≤ 122) (w : World) : Calls Tryz.prog 81 #[.int .u8 x] w fun e w' => e = .returned (.bool true) ∧ w' = w := by
  have hb := between_any x 97 122
  have e : (decide ((97 : Int) ≤ x) && decide (x ≤ 122)) = true := by
    have a1 : decide ((97 : Int) ≤ x) = true := by simp; omega
    have a2 : decide (x ≤ 122) = true := by simp; omega
    rw [a1, a2]; rfl
  rw [e] at hb
  have HB := Lib.hid hb
  clear hb e
  go_enter Tryz.func81, Tryz.ntmps81
  go_wp2_with (go_at_call 64; refine (HB.out _).mono ?_; rintro e w1 ⟨rfl, rfl⟩)
  go_ret
  exact ⟨rfl, rfl⟩
theorem letter_small (x : Int) (h1 : 97 ≤ x) (h2 : x ≤ 122) (w : World) : Calls Tryz.prog 94 #[.int .u8 x] w fun e w' => e = .returned (.bool true) ∧ w' = w := by
  have HB := Lib.hid (small_small x h1 h2)
  go_enter Tryz.func94, Tryz.ntmps94
  go_wp2_with (go_at_call 81; refine (HB.out _).mono ?_; rintro e w1 ⟨rfl, rfl⟩)
  go_ret
  exact ⟨rfl, rfl⟩
/-- Small of a small letter -/
theorem Small_small (x : Int) (h1 : 97 ≤ x) (h2 : x ≤ 122) (w : World) : Calls Tryz.prog 26 #[.int .u8 x] w fun e w' => e = .returned (.int .u8 x) ∧ w' = w := by
  have HB := Lib.hid (great_small x h1 h2)
  go_enter Tryz.func26, Tryz.ntmps26
  go_wp2_with (go_at_call 44; refine (HB.out _).mono ?_; rintro e w1 ⟨rfl, rfl⟩)
  go_ret
  exact ⟨rfl, rfl⟩
set_option maxRecDepth 100000 in
theorem asks_d (w : World) : Calls Tryz.prog 65 #[.int .u8 100] w fun e w' => e = .returned (.func (.func 89) #[] #[]) ∧ w' = w := by
  have HB := Lib.hid (Small_small 100 (by omega) (by omega))
  go_enter Tryz.func65, Tryz.ntmps65
  go_wp2_with (go_at_call 26; refine (HB.out _).mono ?_; rintro e w1 ⟨rfl, rfl⟩)
  go_ret
  exact ⟨rfl, rfl⟩
set_option maxRecDepth 100000 in
theorem asks_a (w : World) : Calls Tryz.prog 65 #[.int .u8 97] w fun e w' => e = .returned (.func (.func 94) #[] #[]) ∧ w' = w := by
  have HB := Lib.hid (Small_small 97 (by omega) (by omega))
  go_enter Tryz.func65, Tryz.ntmps65
  go_wp2_with (go_at_call 26; refine (HB.out _).mono ?_; rintro e w1 ⟨rfl, rfl⟩)
  go_ret
  exact ⟨rfl, rfl⟩
theorem fneq_d (w : World) : (binOp .neq 133 (.func (.func 89) #[] #[]) .nilFunc).run Tryz.prog w = .ok (.bool true) w := by kernel_rfl
theorem fneq_a (w : World) : (binOp .neq 133 (.func (.func 94) #[] #[]) .nilFunc).run Tryz.prog w = .ok (.bool true) w := by kernel_rfl
set_option maxRecDepth 100000 in
theorem Is_d (x : Int) (h1 : 97 ≤ x) (h2 : x ≤ 122) (w : World) : Calls Tryz.prog 45 #[.int .u8 100, .int .u8 x] w fun e w' => e = .returned (.bool false) ∧ w' = w := by
  have HA := Lib.hid asks_d
  have hfn := fneq_d
  have HD := Lib.hid (digit_small x h1 h2)
  have HG := Lib.hid (great_small 100 (by omega) (by omega))
  go_enter Tryz.func45, Tryz.ntmps45
  go_wp2_with (first
    | (go_at_call 65; refine (HA.out _).mono ?_; rintro e w1 ⟨rfl, rfl⟩)
    | (go_at_call 89; refine (HD.out _).mono ?_; rintro e w1 ⟨rfl, rfl⟩)
    | (go_at_call 44; refine (HG.out _).mono ?_; rintro e w1 ⟨rfl, rfl⟩))
  go_ret
  exact ⟨rfl, rfl⟩
set_option maxRecDepth 100000 in
theorem Is_a (x : Int) (h1 : 97 ≤ x) (h2 : x ≤ 122) (w : World) : Calls Tryz.prog 45 #[.int .u8 97, .int .u8 x] w fun e w' => e = .returned (.bool true) ∧ w' = w := by
  have HA := Lib.hid asks_a
  have hfn := fneq_a
  have HD := Lib.hid (letter_small x h1 h2)
  have HG := Lib.hid (great_small 97 (by omega) (by omega))
  go_enter Tryz.func45, Tryz.ntmps45
  go_wp2_with (first
    | (go_at_call 65; refine (HA.out _).mono ?_; rintro e w1 ⟨rfl, rfl⟩)
    | (go_at_call 94; refine (HD.out _).mono ?_; rintro e w1 ⟨rfl, rfl⟩)
    | (go_at_call 44; refine (HG.out _).mono ?_; rintro e w1 ⟨rfl, rfl⟩))
  go_ret
  exact ⟨rfl, rfl⟩
set_option maxRecDepth 100000 in
theorem Known_small (x : Int) (h1 : 97 ≤ x) (h2 : x ≤ 122) (w : World) : Calls Tryz.prog 27 #[.int .u8 x] w fun e w' => e = .returned (.bool true) ∧ w' = w := by
  have HD := Lib.hid (Is_d x h1 h2)
  have HA := Lib.hid (Is_a x h1 h2)
  have b1 : (x == 34) = false := by rw [beq_eq_false_iff_ne]; omega
  have b2 : (x == 95) = false := by rw [beq_eq_false_iff_ne]; omega
  go_enter Tryz.func27, Tryz.ntmps27
  go_wp2_with (first
    | (go_at_call 45; with_reducible refine (HD.out _).mono ?_; rintro e w1 ⟨rfl, rfl⟩)
    | (go_at_call 45; with_reducible refine (HA.out _).mono ?_; rintro e w1 ⟨rfl, rfl⟩))
  go_ret
  exact ⟨rfl, rfl⟩
end Go.Proofs.YtdhemdeapphfoaaGreatDoor

/- regs' clone and size, walked. -/
set_option linter.unusedVariables false
set_option linter.unusedSimpArgs false
namespace Go.Proofs.YtdhemdeapphfoaaGreatDoor
open Go.RowKit Go.Shelf Go.Maps Go.Proofs.YtdhemdeapphfoaaGreatDoorW.PrintWords Go.Proofs.YtdhemdeapphfoaaGreatDoorW.PrintLast

def ClonePost (w : World) (xs : List ByteArray) (b : Bool) (e : Ending) (w' : World) : Prop := ∃ v, e = .returned (.agg #[v, .bool b]) ∧ Own w.heap.size w w' v xs
set_option maxRecDepth 100000 in
theorem rclone_any {w : World} {G : Nat → Prop} {v : Value} {xs : List ByteArray} (h : Ls w G v xs) (h0 : 0 < xs.length) (hl : xs.length ≤ 1000000) (b : Bool) :
    Calls Tryz.prog 28 #[.agg #[v, .bool b]] w (ClonePost w xs b) := by
  have hclo : ∀ W, Below w.heap.size w W → Calls Tryz.prog 46 #[v] W (OwnPost W.heap.size W xs) := fun W hb => cloL (h.step hb.size fun b hlt _ => hb.block b hlt) (by omega)
  have HC := Lib.hid hclo
  obtain ⟨A, c, hv, _⟩ := id h
  subst hv
  have hn : ((xs.length : Int) == 0) = false := by rw [beq_eq_false_iff_ne]; omega
  clear h hclo
  go_enter Tryz.func28, Tryz.ntmps28
  go_wp2_with fail
  refine (HC.out _ (below_alloc (below_alloc (Below.refl _ w) _) _)).mono ?_
  rintro e w2 ⟨v2, rfl, h21, h22, h23⟩
  obtain ⟨A2, c2, hv2, _⟩ := h21.slice
  rw [cS_len] at hv2
  subst hv2
  have e1 : w2.heap[w.heap.size]? = some (.cells #[.slice A xs.length c, .bool b] 48 (0, 0)) := (h23.block _ (by simp only [World.size_alloc]; omega)).trans ((Below.heap_alloc (w.alloc _) _ _ (by simp only [World.size_alloc]; omega)).trans (World.alloc_heap_new w _))
  have e2 : w2.heap[w.heap.size + 1]? = some (.cells #[.slice none 0 0, .bool false] 48 (0, 0)) := (h23.block _ (by simp only [World.size_alloc]; omega)).trans (by
    have := World.alloc_heap_new (w.alloc (.cells #[.slice A xs.length c, .bool b] 48)) (.cells #[.slice none 0 0, .bool false] 48)
    rwa [show (w.alloc (.cells #[.slice A xs.length c, .bool b] 48)).heap.size = w.heap.size + 1 by simp] at this)
  have c0 : w2.cell? ⟨w.heap.size, 0, none⟩ = some (.slice A xs.length c) := by rw [blk_cell e1]; rfl
  have c1 : w2.cell? ⟨w.heap.size, 1, none⟩ = some (.bool b) := by rw [blk_cell e1]; rfl
  have d0 : w2.cell? ⟨w.heap.size + 1, 0, none⟩ = some (.slice none 0 0) := by rw [blk_cell e2]; rfl
  have d1 : w2.cell? ⟨w.heap.size + 1, 1, none⟩ = some (.bool false) := by rw [blk_cell e2]; rfl
  have f0 : w2.frozen? ⟨w.heap.size, 0, none⟩ = false := blk_frozen e1 0
  have g0 : w2.frozen? ⟨w.heap.size + 1, 0, none⟩ = false := blk_frozen e2 0
  have g1 : w2.frozen? ⟨w.heap.size + 1, 1, none⟩ = false := blk_frozen e2 1
  have H2 := Lib.hid (And.intro h21 (And.intro h22 h23))
  clear h21 h22 h23
  go_wp2_with fail
  have hne : ∀ m, m ≤ w.heap.size + 1 → (Value.slice A2 xs.length c2).ownBlock ≠ some m := fun m hm e => by
    have := H2.out.2.1 m e
    simp only [World.size_alloc] at this
    omega
  have hrw := ((H2.out.1.setCell (p := ⟨w.heap.size, 0, none⟩) (hne _ (by dsimp only; omega)) (.slice A2 xs.length c2)).setCell (p := ⟨w.heap.size + 1, 0, none⟩) (hne _ (by dsimp only; omega)) (.slice A2 xs.length c2)).setCell (p := ⟨w.heap.size + 1, 1, none⟩) (hne _ (by dsimp only; omega)) (.bool b)
  have hbl := (((below_then (below_alloc (below_alloc (Below.refl _ w) _) _) (by simp only [World.size_alloc]; omega) H2.out.2.2).setCell (p := ⟨w.heap.size, 0, none⟩) (Nat.le_refl _) (.slice A2 xs.length c2)).setCell (p := ⟨w.heap.size + 1, 0, none⟩) (Nat.le_succ _) (.slice A2 xs.length c2)).setCell (p := ⟨w.heap.size + 1, 1, none⟩) (Nat.le_succ _) (.bool b)
  have hbk := blk_set (blk_set ((Below.heap_setCell w2 ⟨w.heap.size, 0, none⟩ (.slice A2 xs.length c2) (w.heap.size + 1) (by simp)).trans e2) 0 (.slice A2 xs.length c2)) 1 (.bool b)
  obtain ⟨W4, hW4⟩ : ∃ W4, ((w2.setCell ⟨w.heap.size, 0, none⟩ (.slice A2 xs.length c2)).setCell ⟨w.heap.size + 1, 0, none⟩ (.slice A2 xs.length c2)).setCell ⟨w.heap.size + 1, 1, none⟩ (.bool b) = W4 := ⟨_, rfl⟩
  rw [hW4] at hrw hbl hbk ⊢
  have r0 : W4.cell? ⟨w.heap.size + 1, 0, none⟩ = some (.slice A2 xs.length c2) := by rw [blk_cell hbk]; rfl
  have r1 : W4.cell? ⟨w.heap.size + 1, 1, none⟩ = some (.bool b) := by rw [blk_cell hbk]; rfl
  have HF := Lib.hid (And.intro hrw hbl)
  clear hW4 hrw hbl hbk c0 c1 d0 d1 f0 g0 g1 e1 e2
  have H22 := Lib.hid (fun k hk => Nat.le_trans (show w.heap.size ≤ _ from by simp only [World.size_alloc]; omega) (H2.out.2.1 k hk))
  refine bodyPost_ret (by simp [results, Tryz.results28, r0, r1, go_sem]; try rfl) rfl ?_
  exact ⟨_, rfl, HF.out.1, H22.out, HF.out.2⟩
end Go.Proofs.YtdhemdeapphfoaaGreatDoor

/- regs' size; the law's heavy with its sum: walked. -/
set_option linter.unusedVariables false
set_option linter.unusedSimpArgs false
namespace Go.Proofs.YtdhemdeapphfoaaGreatDoor
open Go.RowKit Go.Shelf Go.Maps Go.Proofs.YtdhemdeapphfoaaGreatDoorW.PrintWords Go.Proofs.YtdhemdeapphfoaaGreatDoorW.PrintLast

def sumS (l : List ByteArray) : Nat := (l.map fun x => x.size + 1).sum
theorem sumS_snoc (l : List ByteArray) (x : ByteArray) : sumS (l ++ [x]) = sumS l + (x.size + 1) := by simp [sumS]
theorem sumS_le : ∀ (l : List ByteArray), (∀ x ∈ l, x.size ≤ 1000) → sumS l ≤ l.length * 1001
  | [], _ => Nat.zero_le _
  | x :: l, h => by
    have h1 := sumS_le l (fun y hy => h y (List.mem_cons_of_mem _ hy))
    have h2 := h x (List.mem_cons_self ..)
    have e : sumS (x :: l) = x.size + 1 + sumS l := by simp [sumS]
    rw [e, List.length_cons, Nat.add_mul, Nat.one_mul]
    omega
theorem sumS_step {xs : List ByteArray} {j : Nat} {x : ByteArray} (h : xs[j]? = some x) : sumS (xs.take (j + 1)) = sumS (xs.take j) + (x.size + 1) := by
  obtain ⟨e1, e2⟩ := List.getElem?_eq_some_iff.1 h
  rw [List.take_succ_eq_append_getElem e1, e2, sumS_snoc]

def SizePost (w : World) (n : Nat) (e : Ending) (w' : World) : Prop := e = .returned (.int .i64 n) ∧ Below w.heap.size w w'
set_option maxRecDepth 100000 in
set_option maxHeartbeats 1000000 in
theorem rsize_any {w : World} {G : Nat → Prop} {v : Value} {xs : List ByteArray} (h : Ls w G v xs) (hl : xs.length ≤ 300) (hs : ∀ x ∈ xs, x.size ≤ 1000) (b : Bool) :
    Calls Tryz.prog 122 #[.agg #[v, .bool b]] w (SizePost w (sumS xs)) := by
  obtain ⟨A1, c1, rfl, hc, hm, h3⟩ := h
  have H3 := Lib.hid h3
  have HS := Lib.hid hs
  clear h3 hs
  go_enter Tryz.func122, Tryz.ntmps122
  go_wp2
  go_loopw [3, 12] (fun v3 v12 wr => ∃ j : Nat, v3 = .int .i64 ((xs.length : Int) + ((sumS (xs.take j) : Nat) : Int) - j) ∧ v12 = .int .i64 j ∧ j ≤ xs.length ∧ Below w.heap.size w wr) (fun _ v12 _ => xs.length - (intOf v12).toNat)
  case atStart => exact ⟨0, by simp [sumS], rfl, by omega, below_alloc (Below.refl _ w) _⟩
  case round =>
    obtain ⟨j, rfl, rfl, hj, hbl⟩ := hrel
    have hsj := sumS_le (xs.take j) (fun x hx => HS.out x (List.mem_of_mem_take hx))
    have hsl : (xs.take j).length ≤ 300 := by rw [List.length_take]; omega
    have hsb : sumS (xs.take j) ≤ 300300 := Nat.le_trans hsj (Nat.mul_le_mul_right 1001 hsl)
    obtain ⟨S, hS⟩ : ∃ S, sumS (xs.take j) = S := ⟨_, rfl⟩
    rw [hS] at hsb ⊢
    by_cases hlt : j < xs.length
    · obtain ⟨b1, o1, rfl, _, hb1, hc1⟩ := H3.out (by omega)
      obtain ⟨x, hx⟩ : ∃ x, xs[j]? = some x := ⟨_, List.getElem?_eq_getElem hlt⟩
      have d1 := (World.cell?_of_block (w := w) (w' := wr) (a := ⟨b1, o1 + j, none⟩) (hbl.block b1 hb1)).trans (hc1 j x hx)
      have hxs := HS.out x (List.mem_of_getElem? hx)
      have hst := sumS_step hx
      rw [hS] at hst
      have HST := Lib.hid hst
      have HBL := Lib.hid hbl
      have hlt' : (j : Int) < xs.length := by omega
      clear hc1 hx hbl hst hS hsj hsl
      go_wp2
      go_roundw
      case rel => exact ⟨j + 1, by rw [HST.out, show (xs.length : Int) + ((S + (x.size + 1) : Nat) : Int) - ((j + 1 : Nat) : Int) = xs.length + S - j + x.size by omega], by go_num, by omega, HBL.out⟩
      case measure => simp [intOf]; omega
    · obtain rfl : j = xs.length := by omega
      have hlt' : ¬ ((xs.length : Int) < xs.length) := by omega
      have HBL := Lib.hid hbl
      rw [List.take_length] at hS
      have HSE := Lib.hid hS
      clear hbl hS hsj hsl
      go_wp2
      go_ret
      refine ⟨?_, HBL.out⟩
      rw [HSE.out]
      exact congrArg (fun z : Int => Ending.returned (Value.int .i64 z)) (show (xs.length : Int) + (S : Int) - xs.length = S by omega)
end Go.Proofs.YtdhemdeapphfoaaGreatDoor

/- A map of registers. -/
set_option linter.unusedVariables false
set_option linter.unusedSimpArgs false
namespace Go.Proofs.YtdhemdeapphfoaaGreatDoor
open Go.RowKit Go.Maps Go.WideElems Go.Proofs.YtdhemdeapphfoaaGreatDoorW.PrintWords

theorem setBlock_twice (w : World) (b : Nat) (o o' : Obj) : Go.ChangeMaps.setBlock (Go.ChangeMaps.setBlock w b o) b o' = Go.ChangeMaps.setBlock w b o' := by
  simp [Go.ChangeMaps.setBlock]
section
open Go.ChangeMaps (setBlock heap_setBlock_same modify_eq_set)
variable {H : Type} {P : Program} {w : World} {t k e : TypeId} {R : Value → Option (DataW H × List MemPlace)} {b : Nat} {es : Array MapEntry} {clock : Nat}
/-- at an entry's mark: its place -/
theorem born_at {xs : Array MapEntry} {j : Nat} {x : MapEntry} (hn : (xs.toList.map MapEntry.born).Nodup) (hj : xs[j]? = some x) : xs.findIdx? (fun y => ((y.born : Nat) : Int) == ((x.born : Nat) : Int)) = some j := by
  rw [findIdx_arr]
  exact findIdx_born hn (by simpa using hj)
/-- an entry is made, or found; its store does what a store at the key does -/
theorem entry_store (K : Keyed P k) (ht : P.underlying t = some (.map k e)) {z : Value} (hz : ∀ u : World, (zeroValue e).run P u = .ok z u) (hb : w.heap[b]? = some (.map es clock)) (F : Fit P k R es clock) {key : Value} {kl : Lit} (hkey : keyOf P k key = some kl) :
    ∃ (v0 : Value) (st : Nat) (o1 : Obj), (Instr.mapEntry t (.map (some b)) key).run P w = .ok (.tuple #[v0, goInt st]) (setBlock w b o1) ∧ (∃ es1 c1, o1 = .map es1 c1) ∧
      ∀ val : Value, ∃ o2 : Obj, (∃ es2 c2, o2 = .map es2 c2) ∧ (Instr.entryStore t (.map (some b)) (goInt st) val).run P (setBlock w b o1) = .ok () (setBlock w b o2) ∧ (Instr.mapUpdate t (.map (some b)) key val).run P w = .ok () (setBlock w b o2) := by
  obtain ⟨s1, s2, _⟩ := F.stamped
  rcases K.find w hkey es.toList F.keys with ⟨h1, _⟩ | ⟨j, e0, h1, h2, h3⟩
  · refine ⟨z, clock, .map (es.push ⟨key, z, clock⟩) (clock + 1), ?_, ⟨_, _, rfl⟩, fun val => ⟨.map (es.push ⟨key, val, clock⟩) (clock + 1), ⟨_, _, rfl⟩, ?_, ?_⟩⟩
    · simp [Instr.mapEntry, run_underlying ht, MapKept.run_getObj_map hb, K.check w false hkey, h1, hz, MapKept.run_setObj_map _ hb, Result.andThen, setBlock]
    · have hw := heap_setBlock_same hb (.map (es.push ⟨key, z, clock⟩) (clock + 1))
      have hnd : ((es.push ⟨key, z, clock⟩).toList.map MapEntry.born).Nodup := by
        rw [Array.toList_push, List.map_append]
        refine List.nodup_append.2 ⟨s2, by simp, fun a ha c hc e1 => ?_⟩
        obtain ⟨x, hx, rfl⟩ := List.mem_map.1 ha
        have h9 := s1 x hx
        simp at hc
        omega
      have hi := born_at (j := es.size) (x := ⟨key, z, clock⟩) hnd (by simp)
      dsimp only at hi
      have hm : (es.push ⟨key, z, clock⟩).modify es.size (fun y => { y with val := val }) = es.push ⟨key, val, clock⟩ := by
        apply Array.ext'
        rw [Array.toList_modify, Array.toList_push, Array.toList_push, ← Array.length_toList, modify_last]
      rw [← setBlock_twice w b (.map (es.push ⟨key, z, clock⟩) (clock + 1)) (.map (es.push ⟨key, val, clock⟩) (clock + 1))]
      generalize setBlock w b (.map (es.push ⟨key, z, clock⟩) (clock + 1)) = w2 at hw ⊢
      simp [Instr.entryStore, MapKept.run_getObj_map hw, asInt, asIntOf, goInt, hi, hm, MapKept.run_setObj_map _ hw, Result.andThen, setBlock]
    · simp [Instr.mapUpdate, run_underlying ht, MapKept.run_getObj_map hb, K.check w false hkey, h1, MapKept.run_setObj_map _ hb, Result.andThen, setBlock]
  · have hj : es[j]? = some e0 := by simpa using h2
    have hsame : es.modify j (fun y => { y with key := key }) = es := by
      apply Array.ext'
      rw [Array.toList_modify, modify_eq_set _ _ _ _ h2, show ({ e0 with key := key } : MapEntry) = e0 by rw [← h3]]
      exact set_self _ _ _ h2
    refine ⟨e0.val, e0.born, .map es clock, ?_, ⟨_, _, rfl⟩, fun val => ⟨.map (es.modify j fun y => { y with key := key, val := val }) clock, ⟨_, _, rfl⟩, ?_, ?_⟩⟩
    · simp [Instr.mapEntry, run_underlying ht, MapKept.run_getObj_map hb, K.check w false hkey, h1, hj, h3, K.stays w hkey, hsame, MapKept.run_setObj_map _ hb, Result.andThen, setBlock]
    · have hw := heap_setBlock_same hb (.map es clock)
      have hi := born_at s2 hj
      have hm : es.modify j (fun y => { y with val := val }) = es.modify j (fun y => { y with key := key, val := val }) := by
        apply Array.ext'
        rw [Array.toList_modify, Array.toList_modify, modify_eq_set _ _ _ _ h2, modify_eq_set _ _ _ _ h2, ← h3]
      rw [← setBlock_twice w b (.map es clock) (.map (es.modify j fun y => { y with key := key, val := val }) clock)]
      generalize setBlock w b (.map es clock) = w2 at hw ⊢
      simp [Instr.entryStore, MapKept.run_getObj_map hw, asInt, asIntOf, goInt, hi, hm, MapKept.run_setObj_map _ hw, Result.andThen, setBlock]
    · simp [Instr.mapUpdate, run_underlying ht, MapKept.run_getObj_map hb, K.check w false hkey, h1, hj, h3, K.stays w hkey, MapKept.run_setObj_map _ hb, Result.andThen, setBlock]
end

def idE : Value → Option (DataW Value × List MemPlace) := fun v => some (.held v, [])
def zeroReg : Value := .agg #[.slice none 0 0, .bool false]
theorem zeroR (w : World) : (zeroValue 48).run Tryz.prog w = .ok zeroReg w := by kernel_rfl

/-- a map in block b reads as the registers ρ -/
def RgMap (w : World) (b n : Nat) (ρ : Int → Option Value) : Prop :=
  ∃ D : DataW Value, w.ownsMap Tryz.prog 5 idE b n D ∧ ∀ x, 0 ≤ x → x ≤ 255 → D.atKey (.int .u8 x) (.held zeroReg) = .held ((ρ x).getD zeroReg) ∧ Maps.has D (.int .u8 x) = (ρ x).isSome
section
variable {w w' : World} {b n : Nat} {ρ : Int → Option Value}
theorem RgMap.step (h : RgMap w b n ρ) (hs : w'.heap[b]? = w.heap[b]?) : RgMap w' b n ρ := by
  obtain ⟨D, ⟨es, clock, hb, r⟩, hD⟩ := h
  exact ⟨D, ⟨es, clock, hs.trans hb, r⟩, hD⟩
set_option maxRecDepth 100000 in
theorem RgMap.look (h : RgMap w b n ρ) {x : Int} (h0 : 0 ≤ x) (h1 : x ≤ 255) : (Instr.lookup 58 (.map (some b)) (.int .u8 x) true).run Tryz.prog w = .ok (.tuple #[(ρ x).getD zeroReg, .bool (ρ x).isSome]) w := by
  obtain ⟨D, hown, hD⟩ := h
  obtain ⟨v, ps, hrun, hv⟩ := hown.look_ok law5 Tryz.underlying58 (zeroR w) (zd := .held zeroReg) (zp := []) rfl (keyOf_int_mk Tryz.underlying5 (u8wf h0 h1))
  obtain ⟨e1, e2⟩ := hD x h0 h1
  rw [e1] at hv
  have hv2 : v = (ρ x).getD zeroReg := by
    unfold idE at hv
    injection hv with hv
    injection hv with hv _
    injection hv
  rw [← hv2, ← e2]
  exact hrun
theorem RgMap.put (h : RgMap w b n ρ) (hn : n < maxLen) {x : Int} (h0 : 0 ≤ x) (h1 : x ≤ 255) (v : Value) :
    ∃ w', (Instr.mapUpdate 58 (.map (some b)) (.int .u8 x) v).run Tryz.prog w = .ok () w' ∧ RgMap w' b (n + 1) (fun y => if y = x then some v else ρ y) ∧ w.mapTurned w' b := by
  obtain ⟨D, hown, hD⟩ := h
  have hkey := keyOf_int_mk Tryz.underlying5 (u8wf h0 h1)
  obtain ⟨w', hrun, hown', ht⟩ := hown.store law5 Tryz.underlying58 hn hkey (show idE v = some (.held v, []) from rfl)
  refine ⟨w', hrun, ⟨_, hown', fun y y0 y1 => ?_⟩, ht⟩
  by_cases hy : y = x
  · subst hy
    rw [atKey_put_same hown.isMap (law5.key hkey), has_put_same hown.isMap (law5.key hkey)]
    simp
  · rw [atKey_put_other (by simpa using hy), has_put_other (by simpa using hy)]
    simp only [hy, if_false]
    exact hD y y0 y1
/-- an entry, and its store -/
theorem RgMap.entry (h : RgMap w b n ρ) (hn : n < maxLen) {x : Int} (h0 : 0 ≤ x) (h1 : x ≤ 255) :
    ∃ (v0 : Value) (st : Nat) (w1 : World), (Instr.mapEntry 58 (.map (some b)) (.int .u8 x)).run Tryz.prog w = .ok (.tuple #[v0, goInt st]) w1 ∧ w.mapTurned w1 b ∧
      ∀ v, ∃ w2, (Instr.entryStore 58 (.map (some b)) (goInt st) v).run Tryz.prog w1 = .ok () w2 ∧ RgMap w2 b (n + 1) (fun y => if y = x then some v else ρ y) ∧ w.mapTurned w2 b := by
  have hkey := keyOf_int_mk Tryz.underlying5 (u8wf h0 h1)
  obtain ⟨D, ⟨es, clock, hb, F, _⟩, _⟩ := id h
  obtain ⟨v0, st, o1, hrun, ⟨es1, c1, ho1⟩, hst⟩ := entry_store (w := w) law5 Tryz.underlying58 zeroR hb F hkey
  refine ⟨v0, st, _, hrun, ⟨es, clock, es1, c1, hb, by rw [ho1]⟩, fun v => ?_⟩
  obtain ⟨o2, _, hr2, hu2⟩ := hst v
  obtain ⟨w', hu, hm, ht⟩ := h.put hn h0 h1 v
  have e : w' = Go.ChangeMaps.setBlock w b o2 := (Result.ok.inj (hu.symm.trans hu2)).2
  exact ⟨_, hr2, e ▸ hm, e ▸ ht⟩
end
end Go.Proofs.YtdhemdeapphfoaaGreatDoor

/- regs' lay, walked (a small letter, nothing in it yet). -/
set_option linter.unusedVariables false
set_option linter.unusedSimpArgs false
namespace Go.Proofs.YtdhemdeapphfoaaGreatDoor
open Go.RowKit Go.Shelf Go.Maps Go.Proofs.YtdhemdeapphfoaaGreatDoorW.PrintWords Go.Proofs.YtdhemdeapphfoaaGreatDoorW.PrintLast

/-- registers in memory -/
def Rg (w : World) (R mb n : Nat) (ρ : Int → Option Value) : Prop := w.heap[R]? = some (.cells #[.map (some mb)] 60 (0, 0)) ∧ RgMap w mb n ρ ∧ R ≠ mb
theorem Rg.ltR {w : World} {R mb n : Nat} {ρ : Int → Option Value} (h : Rg w R mb n ρ) : R < w.heap.size := blk_lt h.1
theorem Rg.ltM {w : World} {R mb n : Nat} {ρ : Int → Option Value} (h : Rg w R mb n ρ) : mb < w.heap.size := by
  obtain ⟨D, h, _⟩ := h.2.1
  exact h.lt
theorem Rg.step {w w' : World} {R mb n : Nat} {ρ : Int → Option Value} (h : Rg w R mb n ρ) (hb : Below w.heap.size w w') : Rg w' R mb n ρ :=
  ⟨(hb.block R h.ltR).trans h.1, h.2.1.step (hb.block mb h.ltM), h.2.2⟩
def setR (ρ : Int → Option Value) (x : Int) (v : Value) : Int → Option Value := fun y => if y = x then some v else ρ y
def LayPost (w : World) (R mb n : Nat) (ρ : Int → Option Value) (e : Ending) (w' : World) : Prop := e = .returned (.int .u16 0) ∧ Rg w' R mb n ρ ∧ w.grownBy w' (some mb)

end Go.Proofs.YtdhemdeapphfoaaGreatDoor

/- regs' Yank and Get, walked. -/
set_option linter.unusedVariables false
set_option linter.unusedSimpArgs false
namespace Go.Proofs.YtdhemdeapphfoaaGreatDoor
open Go.RowKit Go.Shelf Go.Maps Go.Proofs.YtdhemdeapphfoaaGreatDoorW.PrintWords Go.Proofs.YtdhemdeapphfoaaGreatDoorW.PrintLast

def YankPost (w : World) (R mb n : Nat) (ρ : Int → Option Value) (c : Int) (b : Bool) (xs : List ByteArray) (e : Ending) (w' : World) : Prop :=
  ∃ v, e = .returned (.int .u16 0) ∧ Ls w' (fun k => w.heap.size ≤ k) v xs ∧ Rg w' R mb (n + 2) (setR (setR ρ c (.agg #[v, .bool b])) 34 (.agg #[v, .bool b])) ∧ w.grownBy w' (some mb)

/-- Get of a register in which something is -/
def GetRPost (w : World) (b : Bool) (xs : List ByteArray) (e : Ending) (w' : World) : Prop := ∃ v, e = .returned (.tuple #[.agg #[v, .bool b], .int .u16 0]) ∧ Own w.heap.size w w' v xs
set_option maxRecDepth 100000 in
set_option maxHeartbeats 1000000 in
theorem rget_any {w : World} {R mb n : Nat} {ρ : Int → Option Value} (h : Rg w R mb n ρ) {c : Int} (c0 : 97 ≤ c) (c1 : c ≤ 122) {v : Value} {b : Bool} (hρ : ρ c = some (.agg #[v, .bool b])) {G : Nat → Prop} {xs : List ByteArray} (hv : Ls w G v xs) (h0 : 0 < xs.length) (hl : xs.length ≤ 300) :
    Calls Tryz.prog 14 #[.pointer (some ⟨R, 0, none⟩), .int .u8 c] w (GetRPost w b xs) := by
  have hRl := h.ltR
  have hMl := h.ltM
  have k0 : w.cell? ⟨R, 0, none⟩ = some (.map (some mb)) := by rw [blk_cell h.1]; rfl
  have HCL := Lib.hid (fun W (hb : Below w.heap.size w W) => rclone_any (hv.step hb.size fun b hlt _ => hb.block b hlt) h0 (by omega) b)
  have HSL := Lib.hid (Small_small c c0 c1)
  have HKN := Lib.hid (Known_small c c0 c1)
  have hlk0 : ∀ W : World, W.heap[mb]? = w.heap[mb]? → (Instr.lookup 58 (.map (some mb)) (.int .u8 c) true).run Tryz.prog W = .ok (.tuple #[.agg #[v, .bool b], .bool true]) W := fun W hW => by
    have h9 := (h.2.1.step (w' := W) hW).look (x := c) (by omega) (by omega)
    rw [hρ] at h9
    exact h9
  have hlk1 : ∀ o, (Instr.lookup 58 (.map (some mb)) (.int .u8 c) true).run Tryz.prog (w.alloc o).drew = .ok (.tuple #[.agg #[v, .bool b], .bool true]) (w.alloc o).drew := fun o => hlk0 _ (Below.heap_alloc w o mb hMl)
  have hlk2 : ∀ o o', (Instr.lookup 58 (.map (some mb)) (.int .u8 c) true).run Tryz.prog ((w.alloc o).alloc o').drew = .ok (.tuple #[.agg #[v, .bool b], .bool true]) ((w.alloc o).alloc o').drew := fun o o' => hlk0 _ ((Below.heap_alloc (w.alloc o) o' mb (by simp only [World.size_alloc]; omega)).trans (Below.heap_alloc w o mb hMl))
  clear hlk0
  obtain ⟨Av, cv, hvs, _⟩ := id hv
  subst hvs
  clear h hv
  go_enter Tryz.func14, Tryz.ntmps14
  go_wp2
  go_region_held3 (fun W => W.cell? ⟨R, 0, none⟩ = some (.map (some mb))) (first | exact k0 | go_keep) (first | (go_at_call 26; refine (HSL.out _).mono ?_; rintro e w1 ⟨rfl, rfl⟩))
  all_goals
    have hB : Below w.heap.size w ((w.alloc (.cells #[.slice none 0 0, .bool false] 48)).alloc (.cells #[.slice Av xs.length cv, .bool b] 48)).drew := (below_alloc (below_alloc (Below.refl _ w) _) _).drew
    have e0 : ((w.alloc (.cells #[.slice none 0 0, .bool false] 48)).alloc (.cells #[.slice Av xs.length cv, .bool b] 48)).drew.heap[w.heap.size]? = some (.cells #[.slice none 0 0, .bool false] 48 (0, 0)) := (Below.heap_alloc (w.alloc _) _ _ (by simp only [World.size_alloc]; omega)).trans (World.alloc_heap_new w _)
    have e1 : ((w.alloc (.cells #[.slice none 0 0, .bool false] 48)).alloc (.cells #[.slice Av xs.length cv, .bool b] 48)).drew.heap[w.heap.size + 1]? = some (.cells #[.slice Av xs.length cv, .bool b] 48 (0, 0)) := by
      have := World.alloc_heap_new (w.alloc (.cells #[.slice none 0 0, .bool false] 48)) (.cells #[.slice Av xs.length cv, .bool b] 48)
      rwa [show (w.alloc (.cells #[.slice none 0 0, .bool false] 48)).heap.size = w.heap.size + 1 by simp] at this
    have hsz : ((w.alloc (.cells #[.slice none 0 0, .bool false] 48)).alloc (.cells #[.slice Av xs.length cv, .bool b] 48)).drew.heap.size = w.heap.size + 2 := by simp
    obtain ⟨W, hW⟩ : ∃ W, ((w.alloc (.cells #[.slice none 0 0, .bool false] 48)).alloc (.cells #[.slice Av xs.length cv, .bool b] 48)).drew = W := ⟨_, rfl⟩
    rw [hW] at hB e0 e1 hsz ⊢
    clear hW hlk1 hlk2 k0
    have x0 : W.cell? ⟨w.heap.size + 1, 0, none⟩ = some (.slice Av xs.length cv) := by rw [blk_cell e1]; rfl
    have x1 : W.cell? ⟨w.heap.size + 1, 1, none⟩ = some (.bool b) := by rw [blk_cell e1]; rfl
    go_wp2_with (first | (go_at_call 27; refine (HKN.out _).mono ?_; rintro e w1 ⟨rfl, rfl⟩))
    refine (HCL.out _ hB).mono ?_
    rintro e w2 ⟨v2, rfl, h21, h22, h23⟩
    obtain ⟨A2, c2, hv2, _⟩ := h21.slice
    rw [cS_len] at hv2
    subst hv2
    have f0 : w2.heap[w.heap.size]? = some (.cells #[.slice none 0 0, .bool false] 48 (0, 0)) := (h23.block _ (by omega)).trans e0
    have g0 : w2.frozen? ⟨w.heap.size, 0, none⟩ = false := blk_frozen f0 0
    have g1 : w2.frozen? ⟨w.heap.size, 1, none⟩ = false := blk_frozen f0 1
    have d0 : w2.cell? ⟨w.heap.size, 0, none⟩ = some (.slice none 0 0) := by rw [blk_cell f0]; rfl
    have d1 : w2.cell? ⟨w.heap.size, 1, none⟩ = some (.bool false) := by rw [blk_cell f0]; rfl
    have hne : (Value.slice A2 xs.length c2).ownBlock ≠ some w.heap.size := fun e => by
      have := h22 _ e
      omega
    have hge : ∀ k, (Value.slice A2 xs.length c2).ownBlock = some k → w.heap.size ≤ k := fun k hk => by
      have := h22 k hk
      omega
    have hrw := (h21.setCell (p := ⟨w.heap.size, 0, none⟩) hne (.slice A2 xs.length c2)).setCell (p := ⟨w.heap.size, 1, none⟩) hne (.bool b)
    have hbl := ((below_then hB (by omega) h23).setCell (p := ⟨w.heap.size, 0, none⟩) (Nat.le_refl _) (.slice A2 xs.length c2)).setCell (p := ⟨w.heap.size, 1, none⟩) (Nat.le_refl _) (.bool b)
    have hbk := blk_set (blk_set f0 0 (.slice A2 xs.length c2)) 1 (.bool b)
    have HF := Lib.hid (And.intro hrw (And.intro hbl hge))
    clear h21 h22 h23 e0 e1 x0 x1 hB f0
    go_wp2_with fail
    obtain ⟨W4, hW4⟩ : ∃ W4, (w2.setCell ⟨w.heap.size, 0, none⟩ (.slice A2 xs.length c2)).setCell ⟨w.heap.size, 1, none⟩ (.bool b) = W4 := ⟨_, rfl⟩
    rw [hW4] at HF hbk ⊢
    have r0 : W4.cell? ⟨w.heap.size, 0, none⟩ = some (.slice A2 xs.length c2) := by rw [blk_cell hbk]; rfl
    have r1 : W4.cell? ⟨w.heap.size, 1, none⟩ = some (.bool b) := by rw [blk_cell hbk]; rfl
    clear hW4 hbk hrw hbl d0 d1 g0 g1
    refine bodyPost_ret (by simp [results, Tryz.results14, r0, r1, go_sem]; try rfl) rfl ?_
    exact ⟨_, rfl, HF.out.1, HF.out.2.2, HF.out.2.1⟩
end Go.Proofs.YtdhemdeapphfoaaGreatDoor

/- edit.Do of the command y, walked. -/
set_option linter.unusedVariables false
set_option linter.unusedSimpArgs false
namespace Go.Proofs.YtdhemdeapphfoaaGreatDoor
open Go.RowKit Go.Shelf Go.Maps Go.Proofs.YtdhemdeapphfoaaGreatDoorW.PrintWords Go.Proofs.YtdhemdeapphfoaaGreatDoorW.PrintLast

section
variable {N0 : Nat} {w0 : Base} {w w' : World} {B : Nat} {s : Bs}
theorem sumS_app (a b : List ByteArray) : sumS (a ++ b) = sumS a + sumS b := by simp [sumS]
theorem sumS_sub (l : List ByteArray) (i n : Nat) : sumS ((l.drop i).take n) ≤ sumS l := by
  have h1 : sumS (l.take i) + sumS (l.drop i) = sumS l := by rw [← sumS_app, List.take_append_drop]
  have h2 : sumS ((l.drop i).take n) + sumS ((l.drop i).drop n) = sumS (l.drop i) := by rw [← sumS_app, List.take_append_drop]
  omega
/-- a kept block turns -/
theorem Bf.turn (h : Bf N0 w0 w B s) {mb : Nat} (hm : w0.P mb) (hN : N0 ≤ mb) (hg : w.grownBy w' (some mb)) : Bf N0 ⟨w0.w, fun b => w0.P b ∨ (w.heap.size ≤ b ∧ b < w'.heap.size), w'⟩ w' B s := by
  obtain ⟨col, T, p1, U, vl, vm, vo, L, h⟩ := h
  have hcm := (h.prot mb hm).2.1
  have hblk : ∀ b, b < w.heap.size → b ≠ mb → w'.heap[b]? = w.heap[b]? := fun b hb hne => hg.block b hb fun e => hne (Option.some.inj e)
  have keep : ∀ {X : World → (Nat → Prop) → Prop}, Loc X → ∀ {j : Nat}, j ≠ 7 → X w (fun b => col b = j) → X w' (fun b => recol col w.heap.size 7 b = j) := fun hX _ hj hx =>
    hX.step (hX.wide hx fun b hb he => (recol_old hb).trans he) hg.size fun b hlt he => hblk b hlt fun e => by
      rw [recol_old hlt, e, hcm] at he
      exact hj he.symm
  refine ⟨recol col w.heap.size 7, T, p1, U, vl, vm, vo, L, ?_⟩
  exact {
    box := (hblk B (blk_lt h.box) fun e => by
      have := h.cB
      rw [e, hcm] at this
      cases this).trans h.box
    cB := h.cB' 7
    tree := keep (loc_tree _ _) (by decide) h.tree
    mar := keep (loc_mk _ _ _) (by decide) h.mar
    smk := keep (loc_sm _ _ _ _) (by decide) h.smk
    undo := keep (loc_ut _ _ _) (by decide) h.undo
    opr := keep (loc_or _ _) (by decide) h.opr
    ope := keep (loc_oe _ _) (by decide) h.ope
    sls := keep (loc_ls _ _) (by decide) h.sls
    new := h.new' 7
    prot := fun b hp => by
      rcases hp with hp | ⟨h1, h2⟩
      · obtain ⟨a1, a2, _⟩ := h.prot b hp
        exact ⟨Nat.lt_of_lt_of_le a1 hg.size, (recol_old a1).trans a2, rfl⟩
      · exact ⟨h2, recol_new h1, rfl⟩
    below := h.below.trans ⟨hg.os, hg.tape, hg.output, hg.size, fun b hb => hblk b (Nat.lt_of_lt_of_le hb h.le) (by omega)⟩
    le := Nat.le_trans h.le hg.size }

theorem reg_any {W R : Nat} {vr vd : Value} {nm p1 p2 p3 p4 : ByteArray} {bang : Bool} {reg cnt f t d : Int} (hw : Wk w W B R vr vd nm p1 p2 p3 p4 bang reg cnt f t d) (hr : reg ≠ 0) :
    Calls Tryz.prog 142 #[.pointer (some ⟨W, 0, none⟩)] w fun e w' => e = .returned (.int .u8 reg) ∧ w' = w := by
  have g3 : w.cell? ⟨W, 3, none⟩ = some (.int .u8 reg) := by rw [blk_cell hw]; rfl
  have b1 : (reg == 0) = false := by rw [beq_eq_false_iff_ne]; exact hr
  clear hw
  go_enter Tryz.func142, Tryz.ntmps142
  go_wp2
  go_ret
  exact ⟨rfl, rfl⟩

end
end Go.Proofs.YtdhemdeapphfoaaGreatDoor

/- edit.Do of the command y, walked. -/
set_option linter.unusedVariables false
set_option linter.unusedSimpArgs false
namespace Go.Proofs.YtdhemdeapphfoaaGreatDoor
open Go.RowKit Go.Shelf Go.Maps Go.Proofs.YtdhemdeapphfoaaGreatDoorW.PrintWords Go.Proofs.YtdhemdeapphfoaaGreatDoorW.PrintLast

section
variable {N0 : Nat} {w0 : Base} {w w' : World} {B : Nat} {s : Bs}
end

end Go.Proofs.YtdhemdeapphfoaaGreatDoor

/- The document's Same of registers, walked; a new map of registers. -/
set_option linter.unusedVariables false
set_option linter.unusedSimpArgs false
namespace Go.Proofs.YtdhemdeapphfoaaGreatDoor
open Go.RowKit Go.Shelf Go.Maps Go.Proofs.YtdhemdeapphfoaaGreatDoorW.PrintWords Go.Proofs.YtdhemdeapphfoaaGreatDoorW.PrintLast

/-- new registers -/
theorem regsNew_rg (w : World) : Calls Tryz.prog 7 #[] w fun e w' => (∃ R mb, e = .returned (.pointer (some ⟨R, 0, none⟩)) ∧ Rg w' R mb 0 (fun _ => none) ∧ w.heap.size ≤ R ∧ w.heap.size ≤ mb) ∧ Below w.heap.size w w' := by
  have hmm := @run_makeMap Tryz.prog
  go_enter Tryz.func7, Tryz.ntmps7
  go_wp2
  go_ret
  refine ⟨⟨w.heap.size + 1, w.heap.size, rfl, ⟨?_, ?_, by omega⟩, by omega, Nat.le_refl _⟩, below_alloc (below_alloc (Below.refl _ _) _) _⟩
  · have e2 := World.alloc_heap_new (w.alloc (.map #[] 0)) (.cells #[.map (some w.heap.size)] 60)
    rw [World.size_alloc] at e2
    exact e2
  · exact ⟨.map [], Go.ownsMap_at rfl _, fun x _ _ => ⟨rfl, rfl⟩⟩
end Go.Proofs.YtdhemdeapphfoaaGreatDoor
