/- The library's Insert of one element, on rows that may be clipped. -/
import Derived.Test.YtdhemdeapphfoaaGreatDoorBtRow
set_option linter.unusedVariables false
set_option linter.unusedSimpArgs false
namespace Go.Proofs.YtdhemdeapphfoaaGreatDoor
open Go.RowKit Go.Shelf Go.Proofs.YtdhemdeapphfoaaGreatDoorW.PrintWords Go.Proofs.YtdhemdeapphfoaaGreatDoorW.PrintLast

theorem zlen (z : Array Value) (n : Nat) : (Builtin.zeroCells z n).toList.length = n * z.size := by
  rw [Array.length_toList, size_zeroCells]

/-- slices.Insert of one element, at strings -/
theorem insS_rw (w : World) (v : Value) (cs : List Value) (x : Value) (vb i : Nat) (h : Rw w 9 v cs) (hi : i ≤ cs.length) (hx : x.oneCell' = true) (hvb : w.heap[vb]? = some (.cells #[x] 9 (0, 0))) (hne : v.ownBlock ≠ some vb) (hbig : (cs.length + 1) * 16 ≤ 140737488355328) :
    Calls Tryz.prog 67 #[v, .int .i64 i, .slice (some ⟨vb, 0, none⟩) 1 1] w fun e w' => ∃ v', e = .returned v' ∧ Rw w' 9 v' (cs.take i ++ x :: cs.drop i) ∧ w.grownBy w' v.ownBlock ∧ At w v v' := by
  have hvs : ∀ j u, ([x] : List Value)[j]? = some u → w.cell? ⟨vb, 0 + j, none⟩ = some u := fun j u hu => by
    rw [Nat.zero_add, blk_cell hvb, ← hu]
    cases j <;> rfl
  have h1v : ∀ u ∈ ([x] : List Value), u.oneCell' = true := fun u hu => by rw [List.mem_singleton.1 hu]; exact hx
  have hbig' : cs.length + 1 ≤ 9223372036854775807 := by omega
  rcases h.2 with ⟨rfl, rfl⟩ | ⟨g, cap, rest, rfl, hg, hn, hc, hm⟩
  · obtain rfl : i = 0 := by simpa using hi
    refine (Any2.slices_Insert_string_end_grow Tryz.insS none 0 0 vb 0 1 1 [] [x] w (by omega) (by omega) (by omega) (by omega) rfl rfl (fun _ => rfl) (fun a ha => by cases ha) hvs h1v).mono ?_
    rintro _ w' ⟨he, hw'⟩
    rw [show Tryz.insS_ren.t 9 = 9 from rfl] at he hw'
    subst he
    subst hw'
    have hcap := grownCap_ge w (0 + 1) 0 9
    have hcm := grownCap_le_maxLen w (0 + 1) 0 9 (by unfold maxLen; omega)
    refine ⟨_, rfl, rw_new (cs := []) (rest := (Builtin.zeroCells (Value.string ⟨#[]⟩).cells (grownCap w (0 + 1) 0 9 - (0 + 1))).toList) (by simp) (by omega) hx hcap ?_ hcm ?_, ⟨rfl, rfl, rfl, by simp, fun k hk _ => Below.heap_alloc w.drew _ k hk⟩, .inr ⟨_, rfl, Nat.le_refl _⟩⟩
    · rw [zlen, show (Value.string ⟨#[]⟩).cells.size = 1 from rfl]
      simp only [List.length_nil]
      omega
    · refine (heap_alloc_new w.drew _).trans ?_
      refine congrArg (fun z : Array Value => some (Obj.cells z 9 (0, 0))) ?_
      apply Array.ext'
      simp
  · have hcell : ∀ j u, cs[j]? = some u → w.cell? ⟨g, j, none⟩ = some u := fun j u hu => h.cell hu
    have hgv : vb ≠ g := fun e => hne (by rw [e]; rfl)
    have hsome : ∀ j, j < cap → (w.cell? ⟨g, j, none⟩).isSome = true := fun j hj => by
      rw [blk_cell hg, List.getElem?_toArray, List.getElem?_eq_getElem (by simp; omega)]
      rfl
    have hcell0 : ∀ j u, cs[j]? = some u → w.cell? ⟨g, 0 + j, none⟩ = some u := fun j u hu => by rw [Nat.zero_add]; exact hcell j u hu
    have hcm9 : cap ≤ 9223372036854775807 := by unfold maxLen at hm; omega
    by_cases hroom : cs.length + 1 ≤ cap
    · by_cases hin : i < cs.length
      · refine (Any2.slices_Insert_string_shift Tryz.insS g 0 cs.length cap i vb 0 1 1 cs [x] w hin (by omega) hroom hcm9 hgv rfl rfl hcell0 (fun j hj => by rw [Nat.zero_add]; exact hsome j (by omega)) (fun j _ => h.frozen _) hvs h.1 h1v 9 9 1 _ (by rw [World.shape?, hvb]; rfl) (by rw [World.shape?, hg]) (by simp only [List.size_toArray, List.length_append]; omega) (blk_frozen hvb _) (blk_frozen hvb _)).mono ?_
        rintro _ w' ⟨rfl, hw'⟩
        rw [Nat.zero_add, Nat.zero_add] at hw'
        obtain ⟨r1, r2⟩ := rw_shift h hi hroom hx hw'
        exact ⟨_, rfl, r1, r2, .inl rfl⟩
      · obtain rfl : i = cs.length := by omega
        refine (Any2.slices_Insert_string_end_room Tryz.insS g 0 cs.length cap vb 0 1 1 [x] w (by omega) hroom hcm9 rfl (fun j hj => by rw [Nat.zero_add]; exact hsome _ (by omega)) (fun j _ => h.frozen _) hvs h1v).mono ?_
        rintro _ w' ⟨rfl, hw'⟩
        rw [Nat.zero_add] at hw'
        obtain ⟨r1, r2⟩ := rw_shift h hi hroom hx (w' := (w.drew.setCells g (cs.length + 1) (cs.drop cs.length)).setCells g cs.length [x]) rfl
        rw [List.drop_length] at r1 r2 ⊢
        subst hw'
        exact ⟨_, rfl, r1.step (fun k _ => rfl), ⟨r2.os, r2.tape, r2.output, r2.size, r2.block⟩, .inl rfl⟩
    · have hge := grownCap_ge w (cs.length + 1) cap 9
      have hcm := grownCap_le_maxLen w (cs.length + 1) cap 9 (by unfold maxLen; omega)
      by_cases hin : i < cs.length
      · refine (Any2.slices_Insert_string_grow Tryz.insS g 0 cs.length cap i vb 0 1 1 cs [x] w hin (by omega) hn (by omega) hbig rfl rfl hcell0 hvs h.1 h1v).mono ?_
        rintro _ w' ⟨he, hw'⟩
        rw [show Tryz.insS_ren.t 9 = 9 from rfl] at he hw'
        subst he
        obtain ⟨G, hG⟩ : ∃ G, grownCap w (cs.length + 1) cap 9 = G := ⟨_, rfl⟩
        rw [hG] at hw' hge hcm ⊢
        obtain ⟨Z, hZ, hZl⟩ : ∃ Z : List Value, ((cs.take i).toArray ++ Builtin.zeroCells (Value.string ⟨#[]⟩).cells (cs.length + 1 - i) ++ Builtin.zeroCells (Value.string ⟨#[]⟩).cells (G - (cs.length + 1))) = (cs.take i ++ Z).toArray ∧ Z.length = G - i := by
          refine ⟨(Builtin.zeroCells (Value.string ⟨#[]⟩).cells (cs.length + 1 - i)).toList ++ (Builtin.zeroCells (Value.string ⟨#[]⟩).cells (G - (cs.length + 1))).toList, by apply Array.ext'; simp, ?_⟩
          rw [List.length_append, zlen, zlen, show (Value.string ⟨#[]⟩).cells.size = 1 from rfl]
          omega
        rw [hZ] at hw'
        have hg0 : (w.alloc (.cells (cs.take i ++ Z).toArray 9)).heap[w.heap.size]? = some (.cells (cs.take i ++ Z).toArray 9 (0, 0)) := heap_alloc_new w _
        obtain ⟨z0, Z1, rfl⟩ : ∃ z0 Z1, Z = z0 :: Z1 := by
          cases Z with
          | nil => simp at hZl; omega
          | cons a b => exact ⟨a, b, rfl⟩
        obtain ⟨A, B, rfl, hA⟩ : ∃ A B, Z1 = A ++ B ∧ A.length = (cs.drop i).length := ⟨Z1.take (cs.drop i).length, Z1.drop (cs.drop i).length, (List.take_append_drop _ _).symm, by rw [List.length_take, List.length_drop]; simp at hZl; omega⟩
        have h5 := blk_setCells (w := (w.alloc (.cells (cs.take i ++ z0 :: (A ++ B)).toArray 9)).drew) [x] (cs.take i) [z0] (A ++ B) hg0 rfl
        rw [show (cs.take i).length = i by simp; omega] at h5
        have h6 := blk_setCells (w := ((w.alloc (.cells (cs.take i ++ z0 :: (A ++ B)).toArray 9)).drew.setCells w.heap.size i [x]).drew) (cs.drop i) (cs.take i ++ [x]) A B (by rw [List.append_assoc]; exact h5) hA
        rw [show (cs.take i ++ [x]).length = i + 1 by simp; omega] at h6
        refine ⟨_, rfl, rw_new (rest := B) h.1 hi hx hge ?_ hcm ?_, ?_, .inr ⟨_, rfl, Nat.le_refl _⟩⟩
        · rw [List.length_cons, List.length_append, hA, List.length_drop] at hZl
          omega
        · rw [hw', h6]
          simp
        · rw [hw']
          have k1 : (w.alloc (.cells (cs.take i ++ z0 :: (A ++ B)).toArray 9)).drew.grownBy ((((w.alloc (.cells (cs.take i ++ z0 :: (A ++ B)).toArray 9)).drew.setCells w.heap.size i [x]).drew).setCells w.heap.size (i + 1) (cs.drop i)) (some w.heap.size) :=
            grown_trans (w1 := ((w.alloc (.cells (cs.take i ++ z0 :: (A ++ B)).toArray 9)).drew.setCells w.heap.size i [x])) (grown_setCells _ _ _ _) (grown_drew (grown_setCells _ _ _ _))
          exact ⟨k1.os, k1.tape, k1.output, Nat.le_trans (by simp) k1.size, fun k hk _ => (k1.block k (by simp; omega) (fun e => by injection e with e; omega)).trans (Below.heap_alloc w _ k hk)⟩
      · obtain rfl : i = cs.length := by omega
        refine (Any2.slices_Insert_string_end_grow Tryz.insS (some ⟨g, 0, none⟩) cs.length cap vb 0 1 1 cs [x] w (by omega) hn (by omega) hbig rfl rfl (fun e => by cases e) (fun a ha j u hu => by injection ha with ha; rw [← ha, Addr.add_lit]; exact hcell0 j u hu) hvs h1v).mono ?_
        rintro _ w' ⟨he, hw'⟩
        rw [show Tryz.insS_ren.t 9 = 9 from rfl] at he hw'
        subst he
        subst hw'
        refine ⟨_, rfl, rw_new (rest := (Builtin.zeroCells (Value.string ⟨#[]⟩).cells (grownCap w (cs.length + 1) cap 9 - (cs.length + 1))).toList) h.1 (by omega) hx hge ?_ hcm ?_, ⟨rfl, rfl, rfl, by simp, fun k hk _ => Below.heap_alloc w.drew _ k hk⟩, .inr ⟨_, rfl, Nat.le_refl _⟩⟩
        · rw [zlen, show (Value.string ⟨#[]⟩).cells.size = 1 from rfl]
          omega
        · refine (heap_alloc_new w.drew _).trans ?_
          refine congrArg (fun z : Array Value => some (Obj.cells z 9 (0, 0))) ?_
          apply Array.ext'
          simp

/-- slices.Insert of one element, at ints -/
theorem insI_rw (w : World) (v : Value) (cs : List Value) (x : Value) (vb i : Nat) (h : Rw w 3 v cs) (hi : i ≤ cs.length) (hx : x.oneCell' = true) (hvb : w.heap[vb]? = some (.cells #[x] 3 (0, 0))) (hne : v.ownBlock ≠ some vb) (hbig : (cs.length + 1) * 8 ≤ 140737488355328) :
    Calls Tryz.prog 69 #[v, .int .i64 i, .slice (some ⟨vb, 0, none⟩) 1 1] w fun e w' => ∃ v', e = .returned v' ∧ Rw w' 3 v' (cs.take i ++ x :: cs.drop i) ∧ w.grownBy w' v.ownBlock ∧ At w v v' := by
  have hvs : ∀ j u, ([x] : List Value)[j]? = some u → w.cell? ⟨vb, 0 + j, none⟩ = some u := fun j u hu => by
    rw [Nat.zero_add, blk_cell hvb, ← hu]
    cases j <;> rfl
  have h1v : ∀ u ∈ ([x] : List Value), u.oneCell' = true := fun u hu => by rw [List.mem_singleton.1 hu]; exact hx
  have hbig' : cs.length + 1 ≤ 9223372036854775807 := by omega
  rcases h.2 with ⟨rfl, rfl⟩ | ⟨g, cap, rest, rfl, hg, hn, hc, hm⟩
  · obtain rfl : i = 0 := by simpa using hi
    refine (Any2.slices_Insert_int_end_grow Tryz.insI none 0 0 vb 0 1 1 [] [x] w (by omega) (by omega) (by omega) (by omega) rfl rfl (fun _ => rfl) (fun a ha => by cases ha) hvs h1v).mono ?_
    rintro _ w' ⟨he, hw'⟩
    rw [show Tryz.insI_ren.t 3 = 3 from rfl] at he hw'
    subst he
    subst hw'
    have hcap := grownCap_ge w (0 + 1) 0 3
    have hcm := grownCap_le_maxLen w (0 + 1) 0 3 (by unfold maxLen; omega)
    refine ⟨_, rfl, rw_new (cs := []) (rest := (Builtin.zeroCells (Value.int .i64 0).cells (grownCap w (0 + 1) 0 3 - (0 + 1))).toList) (by simp) (by omega) hx hcap ?_ hcm ?_, ⟨rfl, rfl, rfl, by simp, fun k hk _ => Below.heap_alloc w.drew _ k hk⟩, .inr ⟨_, rfl, Nat.le_refl _⟩⟩
    · rw [zlen, show (Value.int .i64 0).cells.size = 1 from rfl]
      simp only [List.length_nil]
      omega
    · refine (heap_alloc_new w.drew _).trans ?_
      refine congrArg (fun z : Array Value => some (Obj.cells z 3 (0, 0))) ?_
      apply Array.ext'
      simp
  · have hcell : ∀ j u, cs[j]? = some u → w.cell? ⟨g, j, none⟩ = some u := fun j u hu => h.cell hu
    have hgv : vb ≠ g := fun e => hne (by rw [e]; rfl)
    have hsome : ∀ j, j < cap → (w.cell? ⟨g, j, none⟩).isSome = true := fun j hj => by
      rw [blk_cell hg, List.getElem?_toArray, List.getElem?_eq_getElem (by simp; omega)]
      rfl
    have hcell0 : ∀ j u, cs[j]? = some u → w.cell? ⟨g, 0 + j, none⟩ = some u := fun j u hu => by rw [Nat.zero_add]; exact hcell j u hu
    have hcm9 : cap ≤ 9223372036854775807 := by unfold maxLen at hm; omega
    by_cases hroom : cs.length + 1 ≤ cap
    · by_cases hin : i < cs.length
      · refine (Any2.slices_Insert_int_shift Tryz.insI g 0 cs.length cap i vb 0 1 1 cs [x] w hin (by omega) hroom hcm9 hgv rfl rfl hcell0 (fun j hj => by rw [Nat.zero_add]; exact hsome j (by omega)) (fun j _ => h.frozen _) hvs h.1 h1v 3 3 1 _ (by rw [World.shape?, hvb]; rfl) (by rw [World.shape?, hg]) (by simp only [List.size_toArray, List.length_append]; omega) (blk_frozen hvb _) (blk_frozen hvb _)).mono ?_
        rintro _ w' ⟨rfl, hw'⟩
        rw [Nat.zero_add, Nat.zero_add] at hw'
        obtain ⟨r1, r2⟩ := rw_shift h hi hroom hx hw'
        exact ⟨_, rfl, r1, r2, .inl rfl⟩
      · obtain rfl : i = cs.length := by omega
        refine (Any2.slices_Insert_int_end_room Tryz.insI g 0 cs.length cap vb 0 1 1 [x] w (by omega) hroom hcm9 rfl (fun j hj => by rw [Nat.zero_add]; exact hsome _ (by omega)) (fun j _ => h.frozen _) hvs h1v).mono ?_
        rintro _ w' ⟨rfl, hw'⟩
        rw [Nat.zero_add] at hw'
        obtain ⟨r1, r2⟩ := rw_shift h hi hroom hx (w' := (w.drew.setCells g (cs.length + 1) (cs.drop cs.length)).setCells g cs.length [x]) rfl
        rw [List.drop_length] at r1 r2 ⊢
        subst hw'
        exact ⟨_, rfl, r1.step (fun k _ => rfl), ⟨r2.os, r2.tape, r2.output, r2.size, r2.block⟩, .inl rfl⟩
    · have hge := grownCap_ge w (cs.length + 1) cap 3
      have hcm := grownCap_le_maxLen w (cs.length + 1) cap 3 (by unfold maxLen; omega)
      by_cases hin : i < cs.length
      · refine (Any2.slices_Insert_int_grow Tryz.insI g 0 cs.length cap i vb 0 1 1 cs [x] w hin (by omega) hn (by omega) hbig rfl rfl hcell0 hvs h.1 h1v).mono ?_
        rintro _ w' ⟨he, hw'⟩
        rw [show Tryz.insI_ren.t 3 = 3 from rfl] at he hw'
        subst he
        obtain ⟨G, hG⟩ : ∃ G, grownCap w (cs.length + 1) cap 3 = G := ⟨_, rfl⟩
        rw [hG] at hw' hge hcm ⊢
        obtain ⟨Z, hZ, hZl⟩ : ∃ Z : List Value, ((cs.take i).toArray ++ Builtin.zeroCells (Value.int .i64 0).cells (cs.length + 1 - i) ++ Builtin.zeroCells (Value.int .i64 0).cells (G - (cs.length + 1))) = (cs.take i ++ Z).toArray ∧ Z.length = G - i := by
          refine ⟨(Builtin.zeroCells (Value.int .i64 0).cells (cs.length + 1 - i)).toList ++ (Builtin.zeroCells (Value.int .i64 0).cells (G - (cs.length + 1))).toList, by apply Array.ext'; simp, ?_⟩
          rw [List.length_append, zlen, zlen, show (Value.int .i64 0).cells.size = 1 from rfl]
          omega
        rw [hZ] at hw'
        have hg0 : (w.alloc (.cells (cs.take i ++ Z).toArray 3)).heap[w.heap.size]? = some (.cells (cs.take i ++ Z).toArray 3 (0, 0)) := heap_alloc_new w _
        obtain ⟨z0, Z1, rfl⟩ : ∃ z0 Z1, Z = z0 :: Z1 := by
          cases Z with
          | nil => simp at hZl; omega
          | cons a b => exact ⟨a, b, rfl⟩
        obtain ⟨A, B, rfl, hA⟩ : ∃ A B, Z1 = A ++ B ∧ A.length = (cs.drop i).length := ⟨Z1.take (cs.drop i).length, Z1.drop (cs.drop i).length, (List.take_append_drop _ _).symm, by rw [List.length_take, List.length_drop]; simp at hZl; omega⟩
        have h5 := blk_setCells (w := (w.alloc (.cells (cs.take i ++ z0 :: (A ++ B)).toArray 3)).drew) [x] (cs.take i) [z0] (A ++ B) hg0 rfl
        rw [show (cs.take i).length = i by simp; omega] at h5
        have h6 := blk_setCells (w := ((w.alloc (.cells (cs.take i ++ z0 :: (A ++ B)).toArray 3)).drew.setCells w.heap.size i [x]).drew) (cs.drop i) (cs.take i ++ [x]) A B (by rw [List.append_assoc]; exact h5) hA
        rw [show (cs.take i ++ [x]).length = i + 1 by simp; omega] at h6
        refine ⟨_, rfl, rw_new (rest := B) h.1 hi hx hge ?_ hcm ?_, ?_, .inr ⟨_, rfl, Nat.le_refl _⟩⟩
        · rw [List.length_cons, List.length_append, hA, List.length_drop] at hZl
          omega
        · rw [hw', h6]
          simp
        · rw [hw']
          have k1 : (w.alloc (.cells (cs.take i ++ z0 :: (A ++ B)).toArray 3)).drew.grownBy ((((w.alloc (.cells (cs.take i ++ z0 :: (A ++ B)).toArray 3)).drew.setCells w.heap.size i [x]).drew).setCells w.heap.size (i + 1) (cs.drop i)) (some w.heap.size) :=
            grown_trans (w1 := ((w.alloc (.cells (cs.take i ++ z0 :: (A ++ B)).toArray 3)).drew.setCells w.heap.size i [x])) (grown_setCells _ _ _ _) (grown_drew (grown_setCells _ _ _ _))
          exact ⟨k1.os, k1.tape, k1.output, Nat.le_trans (by simp) k1.size, fun k hk _ => (k1.block k (by simp; omega) (fun e => by injection e with e; omega)).trans (Below.heap_alloc w _ k hk)⟩
      · obtain rfl : i = cs.length := by omega
        refine (Any2.slices_Insert_int_end_grow Tryz.insI (some ⟨g, 0, none⟩) cs.length cap vb 0 1 1 cs [x] w (by omega) hn (by omega) hbig rfl rfl (fun e => by cases e) (fun a ha j u hu => by injection ha with ha; rw [← ha, Addr.add_lit]; exact hcell0 j u hu) hvs h1v).mono ?_
        rintro _ w' ⟨he, hw'⟩
        rw [show Tryz.insI_ren.t 3 = 3 from rfl] at he hw'
        subst he
        subst hw'
        refine ⟨_, rfl, rw_new (rest := (Builtin.zeroCells (Value.int .i64 0).cells (grownCap w (cs.length + 1) cap 3 - (cs.length + 1))).toList) h.1 (by omega) hx hge ?_ hcm ?_, ⟨rfl, rfl, rfl, by simp, fun k hk _ => Below.heap_alloc w.drew _ k hk⟩, .inr ⟨_, rfl, Nat.le_refl _⟩⟩
        · rw [zlen, show (Value.int .i64 0).cells.size = 1 from rfl]
          omega
        · refine (heap_alloc_new w.drew _).trans ?_
          refine congrArg (fun z : Array Value => some (Obj.cells z 3 (0, 0))) ?_
          apply Array.ext'
          simp

end Go.Proofs.YtdhemdeapphfoaaGreatDoor
