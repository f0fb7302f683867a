/- The plain part of MarksFollow: a text of lines that are told apart, and where one of them is. -/
import Derived.WalkKit
namespace Go.Proofs.Ytccalibapiiifaa

/-- the line 'mine' stands at pos (from 1 on) and nowhere else; 0: nowhere -/
def At (t : List Int) (mine pos : Int) : Prop := 0 ≤ pos ∧ ∀ i : Nat, t[i]? = some mine ↔ (i : Int) + 1 = pos

theorem At.le {t : List Int} {m p : Int} (h : At t m p) : p ≤ t.length := by
  rcases Int.lt_or_le 0 p with hp | hp
  · obtain ⟨i, hi⟩ : ∃ i : Nat, (i : Int) + 1 = p := ⟨(p - 1).toNat, by omega⟩
    have := (h.2 i).2 hi
    obtain ⟨hl, _⟩ := List.getElem?_eq_some_iff.1 this
    omega
  · have := h.1; omega

theorem At.nil (m : Int) : At [] m 0 := ⟨by omega, fun i => by simp; omega⟩

/-- one more, which is not it -/
theorem At.snoc_ne {t : List Int} {m p x : Int} (h : At t m p) (hx : x ≠ m) : At (t ++ [x]) m p := by
  refine ⟨h.1, fun i => ?_⟩
  by_cases hi : i < t.length
  · rw [List.getElem?_append_left hi]; exact h.2 i
  · have hp := h.le
    by_cases he : i = t.length
    · subst he
      simp
      constructor
      · intro e; exact absurd e hx
      · intro e; omega
    · rw [List.getElem?_eq_none (by simp; omega)]
      constructor
      · intro e; cases e
      · intro e; omega

/-- one more, which is it -/
theorem At.snoc_eq {t : List Int} {m : Int} (h : At t m 0) : At (t ++ [m]) m (t.length + 1) := by
  refine ⟨by omega, fun i => ?_⟩
  by_cases hi : i < t.length
  · rw [List.getElem?_append_left hi]
    constructor
    · intro e; have := (h.2 i).1 e; omega
    · intro e; omega
  · by_cases he : i = t.length
    · subst he; simp
    · rw [List.getElem?_eq_none (by simp; omega)]
      constructor
      · intro e; cases e
      · intro e; omega

theorem At.take {t : List Int} {m p : Int} (h : At t m p) (k : Nat) : At (t.take k) m (if p ≤ k then p else 0) := by
  refine ⟨by have := h.1; split <;> omega, fun i => ?_⟩
  have h0 := h.1
  by_cases hi : i < k
  · rw [List.getElem?_take_of_lt hi, h.2 i]
    split <;> omega
  · rw [List.getElem?_eq_none (by simp; omega)]
    constructor
    · intro e; cases e
    · intro e; split at e <;> omega

theorem At.drop {t : List Int} {m p : Int} (h : At t m p) (k : Nat) : At (t.drop k) m (if p ≤ k then 0 else p - k) := by
  have h0 := h.1
  refine ⟨by split <;> omega, fun i => ?_⟩
  rw [List.getElem?_drop, h.2 (k + i)]
  split <;> omega

theorem At.append {t u : List Int} {m p q : Int} (h : At t m p) (k : At u m q) (hpq : p = 0 ∨ q = 0) : At (t ++ u) m (if q = 0 then p else t.length + q) := by
  have h0 := h.1
  have k0 := k.1
  have hl := h.le
  refine ⟨by split <;> omega, fun i => ?_⟩
  by_cases hi : i < t.length
  · rw [List.getElem?_append_left hi, h.2 i]
    split <;> omega
  · rw [List.getElem?_append_right (by omega), k.2 (i - t.length)]
    split <;> omega

theorem At.get {t : List Int} {m p : Int} (h : At t m p) (i : Nat) (hi : i < t.length) : t[i] = m ↔ (i : Int) + 1 = p := by
  rw [← h.2 i, List.getElem?_eq_getElem hi]
  simp

/-- the lines 0, 1, .. -/
def tags (n : Nat) : List Int := (List.range n).map Int.ofNat

theorem tags_length (n : Nat) : (tags n).length = n := by simp [tags]
theorem tags_succ (n : Nat) : tags (n + 1) = tags n ++ [(n : Int)] := by simp [tags, List.range_succ]

theorem tags_at {n : Nat} {m : Int} (h0 : 0 ≤ m) (h1 : m < n) : At (tags n) m (m + 1) := by
  refine ⟨by omega, fun i => ?_⟩
  by_cases hi : i < n
  · simp [tags, hi]
  · rw [List.getElem?_eq_none (by simp [tags]; omega)]
    constructor
    · intro e; cases e
    · intro e; omega

/-! ### Splice -/

/-- where it is while the new lines are laid: k of them are -/
def splQ (a b p k : Int) : Int := if p < a then p else if p < a + b ∧ p < a + k then p else 0

theorem spl_start {t : List Int} {m p a b : Int} (h : At t m p) (ha : 1 ≤ a) (hal : a ≤ t.length + 1) : (t.take (a - 1).toNat).length = a - 1 + 0 ∧ At (t.take (a - 1).toNat) m (splQ a b p 0) := by
  have h0 := h.1
  refine ⟨by rw [List.length_take]; omega, ?_⟩
  have := h.take (a - 1).toNat
  have e : (if p ≤ ((a - 1).toNat : Int) then p else 0) = splQ a b p 0 := by
    unfold splQ
    repeat' split
    all_goals omega
  rwa [e] at this

theorem spl_kept {t u : List Int} {m p a b k x : Int} (h : At t m p) (ha : 1 ≤ a) (hk0 : 0 ≤ k) (hkb : k < b) (hb : a - 1 + b ≤ t.length) (hu : At u m (splQ a b p k)) (hl : u.length = a - 1 + k)
    (hx : t[(a - 1 + k).toNat]? = some x) : ((u ++ [x]).length : Int) = a - 1 + (k + 1) ∧ At (u ++ [x]) m (splQ a b p (k + 1)) := by
  have h0 := h.1
  refine ⟨by simp; omega, ?_⟩
  by_cases hxm : x = m
  · subst hxm
    have hp := (h.2 _).1 hx
    have e : splQ a b p k = 0 := by
      unfold splQ
      rw [if_neg (by omega), if_neg (by omega)]
    rw [e] at hu
    have e2 : splQ a b p (k + 1) = u.length + 1 := by
      unfold splQ
      rw [if_neg (by omega), if_pos (by omega)]
      omega
    rw [e2]
    exact hu.snoc_eq
  · have e2 : splQ a b p (k + 1) = splQ a b p k := by
      have hp : ¬ ((a - 1 + k).toNat : Int) + 1 = p := fun e => by
        have := (h.2 _).2 e
        rw [hx] at this
        exact hxm (Option.some.inj this)
      unfold splQ
      repeat' split
      all_goals omega
    rw [e2]
    exact hu.snoc_ne hxm

theorem spl_fresh {u : List Int} {m p a b k : Int} (hm : 0 ≤ m) (hkb : ¬ k < b) (hu : At u m (splQ a b p k)) (hl : u.length = a - 1 + k) : ((u ++ [(-1 : Int)]).length : Int) = a - 1 + (k + 1) ∧ At (u ++ [-1]) m (splQ a b p (k + 1)) := by
  refine ⟨by simp; omega, ?_⟩
  have e2 : splQ a b p (k + 1) = splQ a b p k := by
    unfold splQ
    repeat' split
    all_goals omega
  rw [e2]
  exact hu.snoc_ne (by omega)

/-- .. and behind all -/
def splAt (a b c p : Int) : Int := if p < a then p else if p < a + b then (if p < a + c then p else 0) else p - b + c

theorem spl_end {t u : List Int} {m p a b c : Int} (h : At t m p) (ha : 1 ≤ a) (hb : 0 ≤ b) (hc : 0 ≤ c) (hal : a - 1 + b ≤ t.length) (hu : At u m (splQ a b p c)) (hl : u.length = a - 1 + c) :
    ((u ++ t.drop (a - 1 + b).toNat).length : Int) = t.length - b + c ∧ At (u ++ t.drop (a - 1 + b).toNat) m (splAt a b c p) := by
  have h0 := h.1
  refine ⟨by simp; omega, ?_⟩
  have hd := h.drop (a - 1 + b).toNat
  have e0 : splQ a b p c = 0 ∨ (if p ≤ ((a - 1 + b).toNat : Int) then 0 else p - ((a - 1 + b).toNat : Int)) = 0 := by
    unfold splQ
    repeat' split
    all_goals omega
  have := hu.append hd e0
  have e : (if (if p ≤ ((a - 1 + b).toNat : Int) then 0 else p - ((a - 1 + b).toNat : Int)) = 0 then splQ a b p c else u.length + (if p ≤ ((a - 1 + b).toNat : Int) then 0 else p - ((a - 1 + b).toNat : Int))) = splAt a b c p := by
    unfold splQ splAt
    repeat' split
    all_goals omega
  rwa [e] at this

/-! ### Move -/

/-- behind which line the block is laid -/
def mvJ (a q b : Int) : Int := if b = q then a - 1 else b
/-- lines 1 to k - 1 without a to q: how many -/
def mvK (a q k : Int) : Int := if k ≤ 0 then 0 else if k - 1 < a then k - 1 else if k - 1 ≤ q then a - 1 else k - 1 - (q - a + 1)
def mvL (a q b j k : Int) : Int := mvK a q k + if mvJ a q b < j then q - a + 1 else 0
/-- where it is, when lines to k - 1 are laid, and the block, if its place is below j -/
def mvQ (a q b p j k : Int) : Int :=
  if p = 0 then 0 else if a ≤ p ∧ p ≤ q then (if mvJ a q b < j then mvK a q (mvJ a q b + 1) + (p - a + 1) else 0)
  else if p < k then mvK a q (p + 1) + (if mvJ a q b < p then q - a + 1 else 0) else 0

def mvAt (a q b p : Int) : Int :=
  if a - 1 ≤ b ∧ b ≤ q then p else if p = 0 then 0 else if a ≤ p ∧ p ≤ q ∧ b < a then p - a + b + 1 else if a ≤ p ∧ p ≤ q then p - q + b
  else if b < p ∧ p < a then p + (q - a + 1) else if q < p ∧ p ≤ b then p - (q - a + 1) else p

theorem mv_start {m p a q b : Int} (hp : 0 ≤ p) (ha : 1 ≤ a) (hb : 0 ≤ b) : (([] : List Int).length : Int) = mvL a q b 0 0 ∧ At [] m (mvQ a q b p 0 0) := by
  have hj : 0 ≤ mvJ a q b := by unfold mvJ; split <;> omega
  constructor
  · unfold mvL mvK
    rw [if_pos (by omega), if_neg (by omega)]
    simp
  · have e : mvQ a q b p 0 0 = 0 := by
      unfold mvQ
      repeat' split
      all_goals omega
    rw [e]
    exact At.nil m

theorem mv_line {t u : List Int} {m p a q b k x : Int} (h : At t m p) (ha : 1 ≤ a) (haq : a ≤ q) (hq : q ≤ t.length) (hb : 0 ≤ b) (hk : 0 < k) (hkn : k ≤ t.length) (hkept : k < a ∨ q < k)
    (hu : At u m (mvQ a q b p k k)) (hl : u.length = mvL a q b k k) (hx : t[(k - 1).toNat]? = some x) : ((u ++ [x]).length : Int) = mvL a q b k (k + 1) ∧ At (u ++ [x]) m (mvQ a q b p k (k + 1)) := by
  have h0 := h.1
  have hj : mvJ a q b = a - 1 ∨ mvJ a q b = b := by unfold mvJ; split <;> omega
  have e1 : mvK a q (k + 1) = mvK a q k + 1 := by
    unfold mvK
    repeat' split
    all_goals omega
  have hl2 : ((u ++ [x]).length : Int) = mvL a q b k (k + 1) := by
    simp only [List.length_append, List.length_singleton]
    unfold mvL at hl ⊢
    omega
  refine ⟨hl2, ?_⟩
  by_cases hxm : x = m
  · subst hxm
    have hp := (h.2 _).1 hx
    have e : mvQ a q b p k k = 0 := by
      unfold mvQ
      rw [if_neg (by omega), if_neg (by omega), if_neg (by omega)]
    rw [e] at hu
    have e2 : mvQ a q b p k (k + 1) = u.length + 1 := by
      unfold mvQ
      rw [if_neg (by omega), if_neg (by omega), if_pos (by omega), show p + 1 = k + 1 by omega]
      unfold mvL at hl
      rw [hl, e1, show p = k by omega]
      omega
    rw [e2]
    exact hu.snoc_eq
  · have e2 : mvQ a q b p k (k + 1) = mvQ a q b p k k := by
      have hp : ¬ ((k - 1).toNat : Int) + 1 = p := fun e => by
        have := (h.2 _).2 e
        rw [hx] at this
        exact hxm (Option.some.inj this)
      unfold mvQ
      repeat' split
      all_goals first | rfl | omega
    rw [e2]
    exact hu.snoc_ne hxm

theorem mv_skip {u : List Int} {m p a q b k : Int} (ha : 1 ≤ a) (haq : a ≤ q) (hp0 : 0 ≤ p) (hk0 : 0 ≤ k) (hkept : ¬ (0 < k ∧ (k < a ∨ q < k)))
    (hu : At u m (mvQ a q b p k k)) (hl : u.length = mvL a q b k k) : (u.length : Int) = mvL a q b k (k + 1) ∧ At u m (mvQ a q b p k (k + 1)) := by
  have e1 : mvK a q (k + 1) = mvK a q k := by
    unfold mvK
    repeat' split
    all_goals omega
  constructor
  · unfold mvL at hl ⊢
    omega
  · have e2 : mvQ a q b p k (k + 1) = mvQ a q b p k k := by
      unfold mvQ
      repeat' split
      all_goals first | rfl | omega
    rw [e2]
    exact hu

theorem mv_block {t u : List Int} {m p a q b k : Int} (h : At t m p) (ha : 1 ≤ a) (haq : a ≤ q) (hq : q ≤ t.length) (hJ : k = mvJ a q b)
    (hu : At u m (mvQ a q b p k (k + 1))) (hl : u.length = mvL a q b k (k + 1)) :
    ((u ++ (t.take q.toNat).drop (a - 1).toNat).length : Int) = mvL a q b (k + 1) (k + 1) ∧ At (u ++ (t.take q.toNat).drop (a - 1).toNat) m (mvQ a q b p (k + 1) (k + 1)) := by
  have h0 := h.1
  have hl2 : ((u ++ (t.take q.toNat).drop (a - 1).toNat).length : Int) = mvL a q b (k + 1) (k + 1) := by
    simp only [List.length_append, List.length_drop, List.length_take]
    unfold mvL at hl ⊢
    rw [if_neg (by omega)] at hl
    rw [if_pos (by omega)]
    omega
  refine ⟨hl2, ?_⟩
  have hd := (h.take q.toNat).drop (a - 1).toNat
  have ed : (if (if p ≤ (q.toNat : Int) then p else 0) ≤ ((a - 1).toNat : Int) then 0 else (if p ≤ (q.toNat : Int) then p else 0) - ((a - 1).toNat : Int)) = (if a ≤ p ∧ p ≤ q then p - (a - 1) else 0) := by
    repeat' split
    all_goals omega
  rw [ed] at hd
  have e0 : mvQ a q b p k (k + 1) = 0 ∨ (if a ≤ p ∧ p ≤ q then p - (a - 1) else 0) = 0 := by
    unfold mvQ
    repeat' split
    all_goals omega
  have := hu.append hd e0
  have e : (if (if a ≤ p ∧ p ≤ q then p - (a - 1) else 0) = 0 then mvQ a q b p k (k + 1) else u.length + (if a ≤ p ∧ p ≤ q then p - (a - 1) else 0)) = mvQ a q b p (k + 1) (k + 1) := by
    by_cases hap : a ≤ p ∧ p ≤ q
    · unfold mvL at hl
      rw [if_neg (by omega)] at hl
      rw [if_pos hap, if_neg (by omega)]
      unfold mvQ
      rw [if_neg (by omega), if_pos hap, if_pos (by omega), hl, ← hJ]
      omega
    · rw [if_neg hap, if_pos rfl]
      unfold mvQ
      simp only [if_neg hap]
  rwa [e] at this

theorem mv_stay {u : List Int} {m p a q b k : Int} (hJ : k ≠ mvJ a q b)
    (hu : At u m (mvQ a q b p k (k + 1))) (hl : u.length = mvL a q b k (k + 1)) : (u.length : Int) = mvL a q b (k + 1) (k + 1) ∧ At u m (mvQ a q b p (k + 1) (k + 1)) := by
  have e : (mvJ a q b < k + 1) = (mvJ a q b < k) := by apply propext; omega
  unfold mvL mvQ at *
  simp only [e]
  exact ⟨hl, hu⟩

theorem mv_end {u : List Int} {n m p a q b : Int} (hpn : p ≤ n) (hp0 : 0 ≤ p) (ha : 1 ≤ a) (haq : a ≤ q) (hq : q ≤ n) (hb0 : 0 ≤ b) (hbn : b ≤ n) (hout : ¬ (a ≤ b ∧ b < q))
    (hu : At u m (mvQ a q b p (n + 1) (n + 1))) (hl : u.length = mvL a q b (n + 1) (n + 1)) : (u.length : Int) = n ∧ At u m (mvAt a q b p) := by
  have hj : (b = q ∧ mvJ a q b = a - 1) ∨ (b ≠ q ∧ mvJ a q b = b) := by unfold mvJ; split <;> simp_all
  constructor
  · rw [hl]
    unfold mvL mvK
    repeat' split
    all_goals omega
  · have e : mvQ a q b p (n + 1) (n + 1) = mvAt a q b p := by
      unfold mvQ mvAt
      rcases hj with ⟨h1, h2⟩ | ⟨h1, h2⟩ <;> rw [h2] <;> unfold mvK
      all_goals
        repeat' split
        all_goals omega
    rwa [e] at hu

end Go.Proofs.Ytccalibapiiifaa
