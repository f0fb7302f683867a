/- norm: the keys of a text, as lists of bytes; no program in sight. -/
import Derived.Test.YtdkdoomjihflbaaDoorEdL
namespace Go.Proofs.YtdkdoomjihflbaaDoor

theorem wrap_mod (x : Int) : Go.RowKit.wrap64 (x % 256) = x % 256 := by unfold Go.RowKit.wrap64; omega

/-- a number, an operation, what stands with it -/
abbrev NK := Int × ByteArray × ByteArray
def isD (c : UInt8) : Bool := decide (48 ≤ c.toNat) && decide (c.toNat ≤ 57)
/-- the digits that lead; none if the first is 0 -/
def digs (l : List UInt8) : List UInt8 := if l.head? = some 48 then [] else l.takeWhile isD
def numD (n : Int) (l : List UInt8) : Int := l.foldl (fun n c => 10 * n + ((c.toNat : Int) - 48)) n
def oneB : List UInt8 := [106, 107, 71, 112, 80, 74, 120, 126, 68]
def twoB : List UInt8 := [103, 100, 121, 62, 60]
def regB : List UInt8 := [34, 64]
def wrB : List UInt8 := [65, 73, 111, 79]
def notE (c : UInt8) : Bool := c != 27
def ofL (l : List UInt8) : ByteArray := ⟨l.toArray⟩

def opP (n : Int) : List UInt8 → Option (NK × List UInt8)
  | [] => none
  | c :: r =>
    if oneB.contains c then some ((n, ofL [c], ofL []), r)
    else if twoB.contains c then (match r with | [] => none | d :: r' => if d = c then some ((n, ofL [c, c], ofL []), r') else none)
    else if regB.contains c then (match r with | [] => none | d :: r' => some ((n, ofL [c], ofL [d]), r'))
    else if wrB.contains c then some ((n, ofL [c], ofL (r.takeWhile notE)), (r.dropWhile notE).drop 1)
    else none

def keyP (l : List UInt8) : Option (NK × List UInt8) :=
  if 4 < (digs l).length then none else opP (numD 0 (digs l)) (l.drop (digs l).length)

def keysF : Nat → List UInt8 → Option (List NK)
  | 0, _ => some []
  | f + 1, l => if l = [] then some [] else (match keyP l with | none => none | some (k, r) => (keysF f r).map (k :: ·))
def keysP (l : List UInt8) : Option (List NK) := keysF l.length l

theorem opP_lt {n : Int} {l r : List UInt8} {k : NK} (h : opP n l = some (k, r)) : r.length < l.length := by
  cases l with
  | nil => simp [opP] at h
  | cons c t =>
    simp only [opP] at h
    by_cases h1 : oneB.contains c = true
    · rw [if_pos h1] at h
      injection h with h; injection h with _ h; subst h; simp
    rw [if_neg h1] at h
    by_cases h2 : twoB.contains c = true
    · rw [if_pos h2] at h
      cases t with
      | nil => cases h
      | cons d t =>
        simp only at h
        split at h
        · injection h with h; injection h with _ h; subst h; simp; omega
        · cases h
    rw [if_neg h2] at h
    by_cases h3 : regB.contains c = true
    · rw [if_pos h3] at h
      cases t with
      | nil => cases h
      | cons d t =>
        simp only at h
        injection h with h; injection h with _ h; subst h; simp; omega
    rw [if_neg h3] at h
    by_cases h4 : wrB.contains c = true
    · rw [if_pos h4] at h
      injection h with h; injection h with _ h; subst h
      have := (List.dropWhile_sublist notE (l := t)).length_le
      simp
      omega
    · rw [if_neg h4] at h; cases h

theorem digs_le (l : List UInt8) : (digs l).length ≤ l.length := by
  unfold digs
  split
  · simp
  · exact (List.takeWhile_sublist _).length_le

theorem keyP_lt {l r : List UInt8} {k : NK} (h : keyP l = some (k, r)) : r.length < l.length := by
  unfold keyP at h
  split at h
  · cases h
  · have := opP_lt h
    rw [List.length_drop] at this
    omega

theorem keysF_more : ∀ (f g : Nat) (l : List UInt8), l.length ≤ f → l.length ≤ g → keysF f l = keysF g l := by
  intro f
  induction f with
  | zero =>
    intro g l hf _
    have : l = [] := List.eq_nil_of_length_eq_zero (by omega)
    subst this
    cases g <;> simp [keysF]
  | succ f ih =>
    intro g l hf hg
    cases g with
    | zero =>
      have : l = [] := List.eq_nil_of_length_eq_zero (by omega)
      subst this
      simp [keysF]
    | succ g =>
      unfold keysF
      split
      · rfl
      · cases e : keyP l with
        | none => rfl
        | some kr =>
          obtain ⟨k, r⟩ := kr
          have hlt := keyP_lt e
          simp only
          rw [ih g r (by omega) (by omega)]

theorem keysP_nil : keysP [] = some [] := rfl
theorem keysP_cons {l r : List UInt8} {k : NK} (h : keyP l = some (k, r)) : keysP l = (keysP r).map (k :: ·) := by
  have hlt := keyP_lt h
  unfold keysP
  cases hl : l.length with
  | zero => omega
  | succ f =>
    have hne : l ≠ [] := by intro e; subst e; simp at hl
    rw [keysF, if_neg hne, h]
    simp only
    rw [keysF_more f r.length r (by omega) (Nat.le_refl _)]
theorem keysP_none {l : List UInt8} (hne : l ≠ []) (h : keyP l = none) : keysP l = none := by
  unfold keysP
  cases hl : l.length with
  | zero => exact absurd (List.eq_nil_of_length_eq_zero hl) hne
  | succ f => rw [keysF, if_neg hne, h]

theorem numD_bound : ∀ (l : List UInt8) (n : Int), (∀ c ∈ l, isD c = true) → 0 ≤ n → 0 ≤ numD n l ∧ numD n l < (n + 1) * 10 ^ l.length := by
  intro l
  induction l with
  | nil => intro n _ h; simp [numD]; omega
  | cons c l ih =>
    intro n h hn
    have hc := h c (by simp)
    simp [isD] at hc
    have h1 := ih (10 * n + ((c.toNat : Int) - 48)) (fun d hd => h d (by simp [hd])) (by omega)
    refine ⟨h1.1, Int.lt_of_lt_of_le h1.2 ?_⟩
    rw [List.length_cons, Int.pow_succ, Int.mul_comm (10 ^ l.length) 10, ← Int.mul_assoc]
    exact Int.mul_le_mul_of_nonneg_right (by omega) (Int.pow_nonneg (by omega))

theorem digs_all (l : List UInt8) : ∀ c ∈ digs l, isD c = true := by
  intro c hc
  unfold digs at hc
  split at hc
  · simp at hc
  · induction l with
    | nil => simp at hc
    | cons x xs ih =>
      by_cases hx : isD x = true
      · rw [List.takeWhile_cons_of_pos hx] at hc
        rcases List.mem_cons.1 hc with rfl | h
        · exact hx
        · by_cases h0 : xs.head? = some 48
          · clear ih
            rename_i h48
            clear h48 h0
            revert h
            clear hc
            induction xs with
            | nil => simp
            | cons y ys ih2 =>
              intro h
              by_cases hy : isD y = true
              · rw [List.takeWhile_cons_of_pos hy] at h
                rcases List.mem_cons.1 h with rfl | h
                · exact hy
                · exact ih2 h
              · rw [List.takeWhile_cons_of_neg hy] at h; simp at h
          · exact ih h0 h
      · rw [List.takeWhile_cons_of_neg hx] at hc; simp at hc

/-! ### the law NormKeys, plain -/
theorem tw_short (u : List UInt8) : ∀ (l : List UInt8), (l.takeWhile isD).length < l.length → (l ++ u).takeWhile isD = l.takeWhile isD := by
  intro l
  induction l with
  | nil => intro h; simp at h
  | cons x xs ih =>
    intro h
    rw [List.cons_append]
    by_cases hx : isD x = true
    · rw [List.takeWhile_cons_of_pos hx] at h
      rw [List.takeWhile_cons_of_pos hx, List.takeWhile_cons_of_pos hx, ih (by simpa using h)]
    · rw [List.takeWhile_cons_of_neg hx, List.takeWhile_cons_of_neg hx]

theorem digs_append {s u : List UInt8} (h : (digs s).length < s.length) : digs (s ++ u) = digs s := by
  have hh : (s ++ u).head? = s.head? := by cases s with
    | nil => simp at h
    | cons c t => rfl
  unfold digs at h ⊢
  rw [hh]
  by_cases h48 : s.head? = some 48
  · rw [if_pos h48, if_pos h48]
  · rw [if_neg h48] at h
    rw [if_neg h48, if_neg h48]
    exact tw_short u s h

theorem tw_append {p : UInt8 → Bool} (u : List UInt8) : ∀ (l : List UInt8), l.dropWhile p ≠ [] → (l ++ u).takeWhile p = l.takeWhile p ∧ (l ++ u).dropWhile p = l.dropWhile p ++ u := by
  intro l
  induction l with
  | nil => intro h; simp at h
  | cons x xs ih =>
    intro h
    rw [List.cons_append]
    by_cases hx : p x = true
    · rw [List.dropWhile_cons_of_pos hx] at h
      have := ih h
      rw [List.takeWhile_cons_of_pos hx, List.takeWhile_cons_of_pos hx, List.dropWhile_cons_of_pos hx, List.dropWhile_cons_of_pos hx, this.1, this.2]
      exact ⟨rfl, rfl⟩
    · rw [List.takeWhile_cons_of_neg hx, List.takeWhile_cons_of_neg hx, List.dropWhile_cons_of_neg hx, List.dropWhile_cons_of_neg hx]
      exact ⟨rfl, rfl⟩

theorem tw_open : ∀ (l : List UInt8), l.dropWhile notE = [] → (l ++ [27]).dropWhile notE = [27] := by
  intro l
  induction l with
  | nil => intro _; rfl
  | cons x xs ih =>
    intro h
    rw [List.cons_append]
    by_cases hx : notE x = true
    · rw [List.dropWhile_cons_of_pos hx] at h
      rw [List.dropWhile_cons_of_pos hx]
      exact ih h
    · rw [List.dropWhile_cons_of_neg hx] at h
      cases h

theorem opP_append {n : Int} {l r : List UInt8} {k : NK} (h : opP n l = some (k, r)) : (∀ u, opP n (l ++ u) = some (k, r ++ u)) ∨ ∃ k', opP n (l ++ [27]) = some (k', []) := by
  cases l with
  | nil => simp [opP] at h
  | cons c t =>
    simp only [opP, List.cons_append] at h ⊢
    by_cases h1 : oneB.contains c = true
    · rw [if_pos h1] at h
      injection h with h; injection h with h2 h3; subst h2; subst h3
      exact .inl fun u => by rw [if_pos h1]
    rw [if_neg h1] at h
    simp only [if_neg h1]
    by_cases h2 : twoB.contains c = true
    · rw [if_pos h2] at h
      simp only [if_pos h2]
      cases t with
      | nil => cases h
      | cons d t =>
        simp only [List.cons_append] at h ⊢
        by_cases hd : d = c
        · rw [if_pos hd] at h
          injection h with h; injection h with h4 h3; subst h4; subst h3
          exact .inl fun u => by rw [if_pos hd]
        · rw [if_neg hd] at h; cases h
    rw [if_neg h2] at h
    simp only [if_neg h2]
    by_cases h3 : regB.contains c = true
    · rw [if_pos h3] at h
      simp only [if_pos h3]
      cases t with
      | nil => cases h
      | cons d t =>
        simp only [List.cons_append] at h ⊢
        injection h with h; injection h with h4 h3; subst h4; subst h3
        exact .inl fun u => rfl
    rw [if_neg h3] at h
    simp only [if_neg h3]
    by_cases h4 : wrB.contains c = true
    · rw [if_pos h4] at h
      simp only [if_pos h4]
      injection h with h; injection h with h5 h6; subst h5; subst h6
      by_cases hd : t.dropWhile notE = []
      · exact .inr ⟨_, by rw [tw_open t hd]; rfl⟩
      · refine .inl fun u => ?_
        obtain ⟨e1, e2⟩ := tw_append (p := notE) u t hd
        rw [e1, e2]
        obtain ⟨x, xs, hx⟩ := List.exists_cons_of_ne_nil hd
        rw [hx]
        rfl
    · rw [if_neg h4] at h; cases h

theorem keyP_append {l r : List UInt8} {k : NK} (h : keyP l = some (k, r)) : (∀ u, keyP (l ++ u) = some (k, r ++ u)) ∨ ∃ k', keyP (l ++ [27]) = some (k', []) := by
  unfold keyP at h
  split at h
  · cases h
  · rename_i h4
    have hlt : (digs l).length < l.length := by
      have := opP_lt h
      rw [List.length_drop] at this
      omega
    have hd : ∀ u, (l ++ u).drop (digs l).length = l.drop (digs l).length ++ u := fun u => List.drop_append_of_le_length (by omega)
    have e : ∀ u, keyP (l ++ u) = opP (numD 0 (digs l)) (l.drop (digs l).length ++ u) := by
      intro u
      unfold keyP
      rw [digs_append hlt, if_neg h4, hd u]
    rcases opP_append h with h1 | ⟨k', h1⟩
    · exact .inl fun u => by rw [e u]; exact h1 u
    · exact .inr ⟨k', by rw [e]; exact h1⟩

theorem keys_law : ∀ (n : Nat) (s : List UInt8), s.length ≤ n → ∀ b, keysP s = some b → keysP (s ++ [27]) = none → ∀ t, keysP (s ++ t) = (keysP t).map (b ++ ·) := by
  intro n
  induction n with
  | zero =>
    intro s hs b hb _ t
    have : s = [] := List.eq_nil_of_length_eq_zero (by omega)
    subst this
    rw [keysP_nil] at hb
    injection hb with hb
    subst hb
    simp
  | succ n ih =>
    intro s hs b hb hx t
    by_cases h0 : s = []
    · subst h0
      rw [keysP_nil] at hb
      injection hb with hb
      subst hb
      simp
    cases e : keyP s with
    | none => rw [keysP_none h0 e] at hb; cases hb
    | some kr =>
      obtain ⟨k, r⟩ := kr
      have hlt := keyP_lt e
      rw [keysP_cons e] at hb
      cases er : keysP r with
      | none => rw [er] at hb; cases hb
      | some b' =>
        rw [er] at hb
        have hb' : k :: b' = b := by injection hb
        subst hb'
        rcases keyP_append e with h1 | ⟨k', h1⟩
        · rw [keysP_cons (h1 [27])] at hx
          have hx' : keysP (r ++ [27]) = none := by
            cases e3 : keysP (r ++ [27]) with
            | none => rfl
            | some z => rw [e3] at hx; cases hx
          rw [keysP_cons (h1 t), ih r (by omega) b' er hx' t]
          cases keysP t <;> rfl
        · rw [keysP_cons h1, keysP_nil] at hx
          cases hx

end Go.Proofs.YtdkdoomjihflbaaDoor
