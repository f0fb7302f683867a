/- Rows of one-cell elements that may be clipped; the library's Insert, Delete and Clone on them. -/
import Derived.Test.YtdhemdeapphfoaaGreatDoorBiSh
import Derived.WalkKit
import Derived.Below
import Derived.Lib.Hide
import Derived.Deep.AppendSrc
import Derived.Deep.RegionLaw
import Derived.Deep.QuietTactic
import Derived.BigQuiet
import Derived.Test.YtdhemdeapphfoaaGreatDoorWWords
import Derived.Test.YtdhemdeapphfoaaGreatDoorWLast
set_option linter.unusedVariables false
set_option linter.unusedSimpArgs false
namespace Go.Proofs.YtdhemdeapphfoaaGreatDoor
open Go.RowKit Go.Proofs.YtdhemdeapphfoaaGreatDoorW.PrintWords Go.Proofs.YtdhemdeapphfoaaGreatDoorW.PrintLast

/-- a row of one-cell elements; its block may be longer than its capacity -/
def Rw (w : World) (e : TypeId) (v : Value) (cs : List Value) : Prop :=
  (∀ c ∈ cs, c.oneCell' = true) ∧ ((v = .slice none 0 0 ∧ cs = []) ∨ ∃ g cap rest, v = .slice (some ⟨g, 0, none⟩) cs.length cap ∧ w.heap[g]? = some (.cells (cs ++ rest).toArray e (0, 0)) ∧ cs.length ≤ cap ∧ cap ≤ cs.length + rest.length ∧ cap ≤ maxLen)

section
variable {w w' : World} {e : TypeId} {v : Value} {cs : List Value}
theorem Rw.nil (w : World) (e : TypeId) : Rw w e (.slice none 0 0) [] := ⟨by simp, .inl ⟨rfl, rfl⟩⟩
theorem Rw.step (h : Rw w e v cs) (hm : ∀ k, v.ownBlock = some k → w'.heap[k]? = w.heap[k]?) : Rw w' e v cs := by
  refine ⟨h.1, h.2.imp id ?_⟩
  rintro ⟨g, cap, rest, rfl, hg, hr⟩
  exact ⟨g, cap, rest, rfl, by rw [hm g rfl]; exact hg, hr⟩
theorem Rw.lt (h : Rw w e v cs) : ∀ k, v.ownBlock = some k → k < w.heap.size := by
  intro k hk
  rcases h.2 with ⟨rfl, _⟩ | ⟨g, cap, rest, rfl, hg, _⟩
  · cases hk
  · injection hk with hk
    subst hk
    exact blk_lt hg
theorem Rw.typed (h : Rw w e v cs) : ∀ k, v.ownBlock = some k → ∃ cells, w.heap[k]? = some (.cells cells e (0, 0)) := by
  intro k hk
  rcases h.2 with ⟨rfl, _⟩ | ⟨g, cap, rest, rfl, hg, _⟩
  · cases hk
  · injection hk with hk
    subst hk
    exact ⟨_, hg⟩
theorem Rw.ne (h : Rw w e v cs) {t g : Nat} {cells : Array Value} (hb : w.heap[g]? = some (.cells cells t (0, 0))) (ht : e ≠ t) : v.ownBlock ≠ some g := by
  intro hk
  obtain ⟨c2, h2⟩ := h.typed g hk
  rw [h2] at hb
  injection hb with hb
  injection hb with _ hb _
  exact ht hb
theorem Rw.slice (h : Rw w e v cs) : ∃ A c, v = .slice A cs.length c ∧ cs.length ≤ c ∧ c ≤ maxLen ∧ (0 < cs.length → ∃ g, A = some ⟨g, 0, none⟩) := by
  rcases h.2 with ⟨rfl, rfl⟩ | ⟨g, cap, rest, rfl, _, h2, _, h4⟩
  · exact ⟨none, 0, rfl, Nat.le_refl _, Nat.zero_le _, fun h => absurd h (by simp)⟩
  · exact ⟨_, cap, rfl, h2, h4, fun _ => ⟨g, rfl⟩⟩
theorem Rw.cell {g n c : Nat} (h : Rw w e (.slice (some ⟨g, 0, none⟩) n c) cs) {j : Nat} {u : Value} (hj : cs[j]? = some u) : w.cell? ⟨g, j, none⟩ = some u := by
  rcases h.2 with ⟨hv, _⟩ | ⟨g', cap, rest, hv, hg, _⟩
  · cases hv
  · injection hv with ha _ _
    injection ha with ha
    injection ha with ha _ _
    subst ha
    have hl := (List.getElem?_eq_some_iff.1 hj).1
    rw [blk_cell hg, List.getElem?_toArray, List.getElem?_append_left hl]
    exact hj
theorem Rw.frozen {g n c : Nat} (h : Rw w e (.slice (some ⟨g, 0, none⟩) n c) cs) (j : Nat) : w.frozen? ⟨g, j, none⟩ = false := by
  rcases h.2 with ⟨hv, _⟩ | ⟨g', cap, rest, hv, hg, _⟩
  · cases hv
  · injection hv with ha _ _
    injection ha with ha
    injection ha with ha _ _
    subst ha
    exact blk_frozen hg j
theorem Rw.len {A : Option Addr} {n c : Nat} (h : Rw w e (.slice A n c) cs) : n = cs.length ∧ n ≤ c ∧ c ≤ maxLen := by
  obtain ⟨A', c', hv, h1, h2, _⟩ := h.slice
  injection hv with _ h3 h4
  subst h3; subst h4
  exact ⟨rfl, h1, h2⟩
/-- xs[:m], xs[:m:c'] -/
theorem Rw.take {A : Option Addr} {n c : Nat} (h : Rw w e (.slice A n c) cs) {m c' : Nat} (hm : m ≤ n) (hc : m ≤ c') (hcc : c' ≤ c) : Rw w e (.slice A m c') (cs.take m) := by
  refine ⟨fun u hu => h.1 u (List.mem_of_mem_take hu), ?_⟩
  rcases h.2 with ⟨hv, rfl⟩ | ⟨g, cap, rest, hv, hg, h1, h2, h3⟩
  · injection hv with ha h1 h2
    subst ha; subst h1; subst h2
    left
    obtain rfl : m = 0 := by omega
    obtain rfl : c' = 0 := by omega
    exact ⟨rfl, by simp⟩
  · injection hv with ha hn hc2
    subst ha; subst hn; subst hc2
    refine .inr ⟨g, c', cs.drop m ++ rest, ?_, ?_, ?_, ?_, by omega⟩
    · rw [List.length_take, Nat.min_eq_left hm]
    · rw [hg, ← List.append_assoc, List.take_append_drop]
    · rw [List.length_take]; omega
    · rw [List.length_take, List.length_append, List.length_drop]; omega
theorem Rw.set {g n c : Nat} (h : Rw w e (.slice (some ⟨g, 0, none⟩) n c) cs) {j : Nat} (hj : j < n) {u : Value} (hu : u.oneCell' = true) : Rw (w.setCell ⟨g, j, none⟩ u) e (.slice (some ⟨g, 0, none⟩) n c) (cs.set j u) := by
  have hn := h.len.1
  refine ⟨fun x hx => ?_, ?_⟩
  · rcases List.mem_or_eq_of_mem_set hx with h1 | h1
    · exact h.1 x h1
    · rw [h1]; exact hu
  rcases h.2 with ⟨hv, _⟩ | ⟨g', cap, rest, hv, hg, h1, h2, h3⟩
  · cases hv
  · injection hv with ha hn' hc2
    injection ha with ha
    injection ha with ha _ _
    subst ha; subst hc2
    refine .inr ⟨g, c, rest, by rw [List.length_set, hn], ?_, by rw [List.length_set]; exact h1, by rw [List.length_set]; exact h2, h3⟩
    rw [blk_set hg j u]
    congr 2
    apply Array.ext'
    rw [Array.toList_setIfInBounds]
    simp only [List.set_append]
    rw [if_pos (by omega)]
theorem Rw.of_owns {base n : Nat} (h : w.ownsRow base e 1 v n cs) (h1 : ∀ c ∈ cs, c.oneCell' = true) : Rw w e v cs := by
  refine ⟨h1, ?_⟩
  have hl := h.1
  rcases h.2 with ⟨rfl, rfl⟩ | ⟨g, cap, cur, rfl, _, hg, hn, hm, hs, ht⟩
  · exact .inl ⟨rfl, List.eq_nil_of_length_eq_zero (by simpa using hl)⟩
  · rw [Nat.mul_one] at hl ht hs
    refine .inr ⟨g, cap, cur.toList.drop n, by rw [hl], ?_, by omega, ?_, hm⟩
    · rw [hg, ← ht, List.take_append_drop]
    · have h9 : cs.length = n := hl
      rw [h9, List.length_drop]
      have h8 : cur.toList.length = cap := by rw [Array.length_toList]; exact hs
      omega
end

theorem blk_setCells {g : Nat} {e : TypeId} : ∀ (vs : List Value) (w : World) (pre old post : List Value), w.heap[g]? = some (.cells (pre ++ (old ++ post)).toArray e (0, 0)) → old.length = vs.length →
    (w.setCells g pre.length vs).heap[g]? = some (.cells (pre ++ (vs ++ post)).toArray e (0, 0))
  | [], w, pre, old, post, h, hl => by
    obtain rfl := List.eq_nil_of_length_eq_zero hl
    exact h
  | v :: vs, w, pre, old, post, h, hl => by
    obtain ⟨o, old', rfl⟩ : ∃ o old', old = o :: old' := by
      cases old with
      | nil => simp at hl
      | cons o old' => exact ⟨o, old', rfl⟩
    have h2 := blk_set h pre.length v
    have e1 : (pre ++ ((o :: old') ++ post)).toArray.setIfInBounds pre.length v = ((pre ++ [v]) ++ (old' ++ post)).toArray := by
      apply Array.ext'
      simp [Array.toList_setIfInBounds, List.set_append]
    rw [e1] at h2
    have h3 := blk_setCells vs (w.setCell ⟨g, pre.length, none⟩ v) (pre ++ [v]) old' post h2 (by simpa using hl)
    rw [List.length_append, List.length_singleton] at h3
    rw [World.setCells, h3]
    simp
theorem grown_setCells (g : Nat) : ∀ (vs : List Value) (o : Nat) (w : World), w.grownBy (w.setCells g o vs) (some g)
  | [], _, w => ⟨rfl, rfl, rfl, Nat.le_refl _, fun _ _ _ => rfl⟩
  | v :: vs, o, w => by
    have h := grown_setCells g vs (o + 1) (w.setCell ⟨g, o, none⟩ v)
    have h2 : w.grownBy (w.setCell ⟨g, o, none⟩ v) (some g) := ⟨rfl, rfl, rfl, by simp [World.setCell], fun i _ hr => Below.heap_setCell w ⟨g, o, none⟩ v i (by simpa using hr)⟩
    exact ⟨h.os.trans h2.os, h.tape.trans h2.tape, h.output.trans h2.output, Nat.le_trans h2.size h.size, fun k hk hne => (h.block k (Nat.lt_of_lt_of_le hk h2.size) hne).trans (h2.block k hk hne)⟩
theorem grown_drew {w w' : World} {r : Option Nat} (h : w.drew.grownBy w' r) : w.grownBy w' r := ⟨h.os, h.tape, h.output, h.size, h.block⟩
theorem grown_drewN {w w' : World} {q : Nat} {r : Option Nat} (h : (w.drewN q).grownBy w' r) : w.grownBy w' r := ⟨h.os, h.tape, h.output, h.size, h.block⟩
theorem grown_trans {w w1 w2 : World} {r : Option Nat} (h : w.grownBy w1 r) (k : w1.grownBy w2 r) : w.grownBy w2 r :=
  ⟨k.os.trans h.os, k.tape.trans h.tape, k.output.trans h.output, Nat.le_trans h.size k.size, fun i hi hr => (k.block i (Nat.lt_of_lt_of_le hi h.size) hr).trans (h.block i hi hr)⟩

/-- where a new value's row lies: the old one, or a block made since -/
def At (w : World) (v v' : Value) : Prop := v'.ownBlock = v.ownBlock ∨ ∃ k, v'.ownBlock = some k ∧ w.heap.size ≤ k

section
variable {w : World} {e : TypeId} {v : Value} {cs : List Value}
/-- the new row of an insert in place -/
theorem rw_shift {g cap i : Nat} {x : Value} {w' : World} (h : Rw w e (.slice (some ⟨g, 0, none⟩) cs.length cap) cs) (hi : i ≤ cs.length) (hroom : cs.length + 1 ≤ cap) (hx : x.oneCell' = true)
    (hw' : w' = (w.drew.setCells g (i + 1) (cs.drop i)).setCells g i [x]) : Rw w' e (.slice (some ⟨g, 0, none⟩) (cs.length + 1) cap) (cs.take i ++ x :: cs.drop i) ∧ w.grownBy w' (some g) := by
  have hlen : (cs.take i ++ x :: cs.drop i).length = cs.length + 1 := by simp; omega
  refine ⟨⟨fun c hc => ?_, ?_⟩, ?_⟩
  · rcases List.mem_append.1 hc with h1 | h1
    · exact h.1 c (List.mem_of_mem_take h1)
    · rcases List.mem_cons.1 h1 with h1 | h1
      · rw [h1]; exact hx
      · exact h.1 c (List.mem_of_mem_drop h1)
  · rcases h.2 with ⟨hv, _⟩ | ⟨g', cap', rest, hv, hg, h1, h2, h3⟩
    · cases hv
    · injection hv with ha hn' hc2
      injection ha with ha
      injection ha with ha _ _
      subst ha; subst hc2
      obtain ⟨r0, rest', rfl⟩ : ∃ r0 r, rest = r0 :: r := by
        cases rest with
        | nil => simp at h2; omega
        | cons a b => exact ⟨a, b, rfl⟩
      obtain ⟨d0, D, hD⟩ : ∃ d0 D, cs.drop i ++ [r0] = d0 :: D := by
        cases hd : cs.drop i with
        | nil => exact ⟨r0, [], rfl⟩
        | cons a b => exact ⟨a, b ++ [r0], rfl⟩
      have hDl : D.length = cs.length - i := by
        have := congrArg List.length hD
        simp at this
        omega
      have hg0 : w.drew.heap[g]? = some (.cells ((cs.take i ++ [d0]) ++ (D ++ rest')).toArray e (0, 0)) := by
        rw [show (w.drew).heap = w.heap from rfl, hg]
        refine congrArg (fun z : List Value => some (Obj.cells z.toArray e (0, 0))) ?_
        calc cs ++ r0 :: rest' = (cs.take i ++ cs.drop i) ++ ([r0] ++ rest') := by rw [List.take_append_drop]; rfl
          _ = cs.take i ++ ((cs.drop i ++ [r0]) ++ rest') := by rw [List.append_assoc, List.append_assoc]
          _ = _ := by rw [hD]; simp
      have h5 := blk_setCells (cs.drop i) _ _ _ _ hg0 (by rw [hDl, List.length_drop])
      rw [show (cs.take i ++ [d0]).length = i + 1 by simp; omega] at h5
      rw [List.append_assoc] at h5
      have h6 := blk_setCells [x] _ (cs.take i) [d0] (cs.drop i ++ rest') h5 rfl
      rw [show (cs.take i).length = i by simp; omega] at h6
      refine .inr ⟨g, cap, rest', by rw [hlen], ?_, by omega, by rw [hlen]; simp at h2; omega, h3⟩
      rw [hw', h6]
      simp
  · rw [hw']
    exact grown_trans (grown_drew (grown_setCells g _ _ _)) (grown_setCells g _ _ _)
theorem rw_new {cap i : Nat} {x : Value} {w' : World} {rest : List Value} (h1 : ∀ c ∈ cs, c.oneCell' = true) (hi : i ≤ cs.length) (hx : x.oneCell' = true) (hc : cs.length + 1 ≤ cap) (hr : cap ≤ cs.length + 1 + rest.length) (hm : cap ≤ maxLen)
    (hw' : w'.heap[w.heap.size]? = some (.cells ((cs.take i ++ x :: cs.drop i) ++ rest).toArray e (0, 0))) : Rw w' e (.slice (some ⟨w.heap.size, 0, none⟩) (cs.length + 1) cap) (cs.take i ++ x :: cs.drop i) := by
  have hlen : (cs.take i ++ x :: cs.drop i).length = cs.length + 1 := by simp; omega
  refine ⟨fun c hc => ?_, .inr ⟨_, cap, rest, by rw [hlen], hw', by omega, by omega, hm⟩⟩
  rcases List.mem_append.1 hc with h2 | h2
  · exact h1 c (List.mem_of_mem_take h2)
  · rcases List.mem_cons.1 h2 with h2 | h2
    · rw [h2]; exact hx
    · exact h1 c (List.mem_of_mem_drop h2)
end
end Go.Proofs.YtdhemdeapphfoaaGreatDoor
