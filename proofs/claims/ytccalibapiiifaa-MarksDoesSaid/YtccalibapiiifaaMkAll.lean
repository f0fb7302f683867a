/- marks: All, walked: the marks by their names. -/
import Derived.Test.YtccalibapiiifaaMkPure
import Derived.Test.YtccalibapiiifaaMkSh
import Derived.Test.YtccalibapiiifaaWWords
import Derived.Maps.OwnSet
namespace Go.Proofs.Ytccalibapiiifaa
open Go.RowKit Go.Maps Go.Proofs.YtccalibapiiifaaW.PrintWords

def encM (x : MK) : List Value := [.int .u8 x.1, .int .i64 x.2]
abbrev kdM : Kd MK := Kd.pair (Kd.int .u8) (Kd.int .i64)
theorem kdM_K {w : World} {x : MK} {cs : List Value} (h : kdM.K w x cs) : cs = encM x := by
  obtain ⟨c0, c1, rfl, h0, h1⟩ := h
  rw [show c0 = [.int .u8 x.1] from h0, show c1 = [.int .i64 x.2] from h1]
  rfl
theorem kdM_mk (w : World) (x : MK) : kdM.K w x (encM x) := ⟨[.int .u8 x.1], [.int .i64 x.2], rfl, rfl, rfl⟩
theorem kdM_mkM (w : World) (base : Nat) (ok : Nat → Prop) (x : MK) : kdM.M w base ok x (encM x) := ⟨[.int .u8 x.1], [.int .i64 x.2], rfl, rfl, rfl⟩

theorem holdsM {w : World} {g t : Nat} {cells : Array Value} {xs : List MK} (hb : w.heap[g]? = some (.cells cells t (0, 0))) (hC : kdM.C w (some ⟨g, 0, none⟩) xs.length xs) : Go.Sort.HoldsK encM 2 w g 0 xs.toArray := by
  intro j hj
  rw [Go.Sort.size_flatK] at hj
  have hj' : j < xs.length * 2 := by simpa using hj
  have hi : j / 2 < xs.length := by omega
  obtain ⟨ad, e, hc⟩ := hC.2.2 (by omega)
  injection e with e
  subst e
  obtain ⟨c, _, hK, hcell⟩ := hc (j / 2) _ (List.getElem?_eq_getElem hi)
  have hc' := kdM_K hK
  subst hc'
  rw [Go.Sort.get_flatK _ _ _ _ hj]
  have hd : xs.toArray[j / 2]! = xs[j / 2] := by simp [hi]
  rw [hd]
  refine ⟨?_, blk_frozen hb _⟩
  rcases Nat.mod_two_eq_zero_or_one j with h | h
  · have h2 := hcell 0 (.int .u8 xs[j / 2].1) rfl
    rw [add_plain] at h2
    rw [h, show 0 + j = j / 2 * 2 + 0 by omega]
    exact h2
  · have h2 := hcell 1 (.int .i64 xs[j / 2].2) rfl
    rw [add_plain] at h2
    rw [h, show 0 + j = j / 2 * 2 + 1 by omega]
    exact h2

theorem readsM {w : World} {g : Nat} {d : Array MK} (h : Go.Sort.HoldsK encM 2 w g 0 d) (hs : d.size ≤ 1000000) : kdM.C w (some ⟨g, 0, none⟩) d.toList.length d.toList := by
  refine ⟨rfl, by simp; omega, fun _ => ⟨_, rfl, fun j p hj => ⟨encM p, rfl, kdM_mk w p, fun i u hu => ?_⟩⟩⟩
  obtain ⟨hl, hp⟩ := List.getElem?_eq_some_iff.1 hj
  have hl' : j < d.size := by simpa using hl
  have hd : d[j]! = p := by rw [← hp]; simp [hl']
  have hi : i < 2 := by
    obtain ⟨h1, _⟩ := List.getElem?_eq_some_iff.1 hu
    simpa [encM] using h1
  have h2 := (Go.Sort.HoldsK.cell h hl' hi).1
  rw [hd] at h2
  rw [add_plain, show j * kdM.sz + i = 0 + j * 2 + i by show j * (1 + 1) + i = _; omega, h2]
  congr 1
  match i, hi with
  | 0, _ => simpa [encM] using hu
  | 1, _ => simpa [encM] using hu

theorem sort_below {w0 w : World} (hb : Below w0.heap.size w0 w) {g : Nat} (hg : w0.heap.size ≤ g) (n : Nat) (d : Array MK) (os : Array Obj) : Below w0.heap.size w0 (Go.Proofs.sortWorldK encM 2 w g 0 n d os) := by
  refine ⟨hb.os, hb.tape, hb.output, ?_, ?_⟩
  · refine Nat.le_trans hb.size ?_
    simp [Go.Proofs.sortWorldK, Go.Sort.grow, Go.Sort.putRowK, Go.Sort.putRow, Go.Sort.mapBlock, Go.Sort.ahead]
  · intro i hi
    rw [← hb.block i hi]
    have hs := hb.size
    simp only [Go.Proofs.sortWorldK, Go.Sort.grow, Go.Sort.putRowK, Go.Sort.putRow, Go.Sort.mapBlock, Go.Sort.ahead]
    rw [Array.getElem?_append_left (by simp; omega), Array.getElem?_modify, if_neg (by omega)]

/-! ### the order of two marks -/
set_option maxRecDepth 100000 in
theorem cmp_byte (x y : Int) (w : World) : Calls Try.prog 48 #[.int .u8 x, .int .u8 y] w fun e w' => e = .returned (.int .i64 (Go.Lib.compareInt x y)) ∧ w = w' := by
  unfold Go.Lib.compareInt
  by_cases h1 : x < y
  · rw [if_pos h1]
    go_enter Try.func48, Try.ntmps48
    go_wp2
    go_ret
    exact ⟨rfl, rfl⟩
  · rw [if_neg h1]
    by_cases h2 : x > y
    · rw [if_pos h2]
      go_enter Try.func48, Try.ntmps48
      go_wp2
      go_ret
      exact ⟨rfl, rfl⟩
    · rw [if_neg h2]
      go_enter Try.func48, Try.ntmps48
      go_wp2
      go_ret
      exact ⟨rfl, rfl⟩

def cfM (x y : MK) : Int := Go.Lib.compareInt x.1 y.1
theorem ltM (x y : MK) : Go.Proofs.ltOf cfM x y = decide (x.1 < y.1) := by
  unfold Go.Proofs.ltOf cfM Go.Lib.compareInt
  by_cases h1 : x.1 < y.1
  · simp [h1]
  · by_cases h2 : y.1 < x.1 <;> simp [h1, h2]
theorem swoM : Go.Sort.SWO (Go.Proofs.ltOf cfM) where
  irrefl x := by rw [ltM]; simp
  trans x y z h1 h2 := by rw [ltM] at *; simp at *; omega
  ntrans x y z h1 h2 := by rw [ltM] at *; simp at *; omega

set_option maxRecDepth 100000 in
set_option maxHeartbeats 1000000 in
theorem closM (x y : MK) (W : World) : Calls Try.prog 47 #[.agg #[.int .u8 x.1, .int .i64 x.2], .agg #[.int .u8 y.1, .int .i64 y.2]] W fun e w' => e = .returned (.int .i64 (cfM x y)) ∧ ∃ q os', w' = Go.Sort.grow (W.drewN q) os' := by
  have HC : Hid (∀ W', Calls Try.prog 48 #[.int .u8 x.1, .int .u8 y.1] W' fun e w' => e = .returned (.int .i64 (cfM x y)) ∧ W' = w') := fun W' => cmp_byte x.1 y.1 W'
  generalize cfM x y = r at HC ⊢
  go_enter Try.func47, Try.ntmps47
  go_wp2_with (first
    | (go_at_call 48; (with_reducible refine (HC.out _).mono ?_); rintro e w' ⟨rfl, rfl⟩)
    | go_in)
  go_ret
  exact ⟨rfl, 0, _, by rw [Go.Sort.alloc_eq_grow, Go.Sort.alloc_eq_grow, Go.Sort.grow_grow]; rfl⟩

theorem cmpLaysM (blk off size : Nat) (w : World) : Go.Proofs.CmpLays Try.prog 47 #[] encM 2 cfM blk off size w := fun _ _ _ _ x y => closM x y _

/-! ### the round over the map -/
def AllRel (mb n r : Nat) (f : Int → Int) (w : World) (v : Value) (wr : World) : Prop :=
  ∃ (D : DataW Unit) (left : Lit → Bool) (cnt : Nat) (xs : List MK), wr.ranges Try.prog 5 (plainElem Try.prog 3) mb r n D left cnt ∧ Below w.heap.size w wr ∧
    Kd.R kdM 51 wr w.heap.size (fun k => k ≠ r) v xs ∧ Reads D f ∧ xs.length + cnt ≤ n ∧
    (∀ x, 0 ≤ x → x ≤ 255 → left (.int .u8 x) = true → f x ≠ 0) ∧ (∀ p ∈ xs, p.2 ≠ 0 ∧ f p.1 = p.2 ∧ left (.int .u8 p.1) = false) ∧
    (∀ x, 0 ≤ x → x ≤ 255 → f x ≠ 0 → left (.int .u8 x) = false → (x, f x) ∈ xs) ∧ (xs.map Prod.fst).Nodup

theorem AllRel.start {mb n r cnt : Nat} {f : Int → Int} {w wr : World} {D : DataW Unit} (hD : Reads D f) (hrg : wr.ranges Try.prog 5 (plainElem Try.prog 3) mb r n D (Maps.has D) cnt) (hg : w.grownBy wr none) (hc : cnt ≤ n) :
    AllRel mb n r f w (.slice none 0 0) wr := by
  refine ⟨D, _, cnt, [], hrg, (Below.refl _ _).grown hg (Nat.le_refl _) (fun _ h => by cases h), Kd.R_nil _ _ _ _ _, hD, by simpa using hc, ?_, by simp, ?_, by simp⟩
  · intro x h0 h1 h
    rw [(hD x h0 h1).2] at h
    simpa using h
  · intro x h0 h1 hf h
    rw [(hD x h0 h1).2] at h
    simp [hf] at h

theorem AllRel.more {mb n r cnt cnt1 : Nat} {f : Int → Int} {w w2 : World} {v1 : Value} {D : DataW Unit} {left : Lit → Bool} {xs : List MK} {x c : Int}
    (hrg : w2.ranges Try.prog 5 (plainElem Try.prog 3) mb r n D (fun z => left z && !z.sameKey (.int .u8 x)) cnt1) (hb : Below w.heap.size w w2) (hr : Kd.R kdM 51 w2 w.heap.size (fun k => k ≠ r) v1 (xs ++ [(x, c)]))
    (hD : Reads D f) (hl : xs.length + cnt ≤ n) (hlt : cnt1 < cnt) (h1 : ∀ x, 0 ≤ x → x ≤ 255 → left (.int .u8 x) = true → f x ≠ 0) (h2 : ∀ p ∈ xs, p.2 ≠ 0 ∧ f p.1 = p.2 ∧ left (.int .u8 p.1) = false)
    (h3 : ∀ x, 0 ≤ x → x ≤ 255 → f x ≠ 0 → left (.int .u8 x) = false → (x, f x) ∈ xs) (h4 : (xs.map Prod.fst).Nodup) (hx : left (.int .u8 x) = true) (hx0 : 0 ≤ x) (hx1 : x ≤ 255) (hc : f x = c) :
    AllRel mb n r f w v1 w2 := by
  refine ⟨D, _, cnt1, xs ++ [(x, c)], hrg, hb, hr, hD, by simp; omega, ?_, ?_, ?_, ?_⟩
  · intro y y0 y1 h
    simp only [Bool.and_eq_true] at h
    exact h1 y y0 y1 h.1
  · intro p hp
    rcases List.mem_append.1 hp with hp | hp
    · obtain ⟨a1, a2, a3⟩ := h2 p hp
      exact ⟨a1, a2, by simp [a3]⟩
    · have : p = (x, c) := by simpa using hp
      subst this
      have hs : (Lit.int IntKind.u8 x).sameKey (.int .u8 x) = true := WideAt.sameKey_self trivial
      refine ⟨?_, hc, by simp [hs]⟩
      show c ≠ 0
      rw [← hc]
      exact h1 x hx0 hx1 hx
  · intro y y0 y1 hf h
    by_cases hy : y = x
    · subst hy
      rw [hc]
      simp
    · have hs : (Lit.int IntKind.u8 y).sameKey (.int .u8 x) = false := Maps.sameKey_ne (by simpa using hy)
      simp only [hs, Bool.not_false, Bool.and_true] at h
      exact List.mem_append_left _ (h3 y y0 y1 hf h)
  · rw [List.map_append, List.nodup_append]
    refine ⟨h4, by simp, ?_⟩
    intro a ha b hb2 e
    simp at hb2
    subst hb2
    subst e
    obtain ⟨p, hp, e⟩ := List.mem_map.1 ha
    have := (h2 p hp).2.2
    rw [e, hx] at this
    cases this

theorem AllRel.done {f : Int → Int} (hL : Letters f) {left : Lit → Bool} (hl : ∀ kl, left kl = false) {xs : List MK} (h2 : ∀ p ∈ xs, p.2 ≠ 0 ∧ f p.1 = p.2 ∧ left (.int .u8 p.1) = false)
    (h3 : ∀ x, 0 ≤ x → x ≤ 255 → f x ≠ 0 → left (.int .u8 x) = false → (x, f x) ∈ xs) (p : MK) : p ∈ xs ↔ p.2 ≠ 0 ∧ f p.1 = p.2 := by
  constructor
  · intro h
    exact ⟨(h2 p h).1, (h2 p h).2.1⟩
  · rintro ⟨h0, h1⟩
    have hf : f p.1 ≠ 0 := by rw [h1]; exact h0
    have := hL p.1 hf
    have h := h3 p.1 (by omega) (by omega) hf (hl _)
    rw [h1] at h
    exact h

theorem sorted_list {xs : List MK} {d : Array MK} (hp : Go.Sort.PermIn 0 xs.toArray.size xs.toArray d) (hs : Go.Sort.SortedIn (Go.Proofs.ltOf cfM) 0 xs.toArray.size d) {f : Int → Int} (hL : Letters f) (hm : ∀ p, p ∈ xs ↔ p.2 ≠ 0 ∧ f p.1 = p.2) (hn : (xs.map Prod.fst).Nodup) : d.toList = marksL f := by
  obtain ⟨h1, _, h3⟩ := hp
  have hsz : d.size = xs.length := by rw [h1]; simp
  have hperm : d.toList.Perm xs := by
    have e1 : d.extract 0 xs.toArray.size = d := by rw [← h1]; simp
    have e2 : xs.toArray.extract 0 xs.toArray.size = xs.toArray := by simp
    rw [e1, e2] at h3
    simpa using h3
  refine sorted_marks hL xs d.toList hm hn hperm ?_
  intro i j hi hj hij
  have hi' : i < d.size := by simpa using hi
  have hj' : j < d.size := by simpa using hj
  have := hs i j (Nat.zero_le _) hij (by simp; omega)
  rw [ltM] at this
  have e1 : d[i]! = d[i] := by simp [hi']
  have e2 : d[j]! = d[j] := by simp [hj']
  rw [e1, e2] at this
  simpa using this

end Go.Proofs.Ytccalibapiiifaa
