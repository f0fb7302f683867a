/- The document's keys: its functions, as printed, answer what keyP and keysP say. -/
import Derived.Test.YtdkdoomjihflbaaDoorNL4
import Derived.Test.YtdkdoomjihflbaaDoorNmP
namespace Go.Proofs.YtdkdoomjihflbaaDoor.NL
open Go.RowKit Go.Proofs.YtdkdoomjihflbaaDoorW.PrintWords

theorem byte_nat {x y : UInt8} : ((x.toNat : Int) = (y.toNat : Int)) ↔ x = y := ⟨fun h => UInt8.toNat_inj.1 (by omega), fun h => by rw [h]⟩
theorem size_len (s : ByteArray) : s.data.toList.length = s.size := Array.length_toList
theorem bt_list {s : ByteArray} {i : Nat} {c : UInt8} (h : s.data.toList[i]? = some c) : bt s (i : Int) = c.toNat := by
  have hl := size_len s
  have hi : i < s.size := by
    obtain ⟨h1, _⟩ := List.getElem?_eq_some_iff.1 h
    omega
  rw [byte_at s i hi] at h
  have := bt_at s (i : Int) (by simpa using hi)
  rw [← this]
  injection h with h
  rw [← h]
  simp

theorem great100 : emendatorref01_great.f 100 = some false := by rfl
theorem is_digit (x : Int) : emendatorref01_Is.f 100 x = some (decide (48 ≤ x) && decide (x ≤ 57)) := by
  unfold emendatorref01_Is.f emendatorref01_Small.f
  rw [great100]
  simp only [Option.bind_some, Bool.false_eq_true, if_false]
  unfold emendatorref01_plain.f emendatorref01_digit.f emendatorref01_between.f
  by_cases h : x ≥ 48
  · rw [if_pos h]
    simp
    omega
  · rw [if_neg h]
    simp
    omega
theorem is_isD (c : UInt8) : emendatorref01_Is.f 100 (c.toNat : Int) = some (isD c) := by
  rw [is_digit]
  unfold isD
  congr 2
  · rw [decide_eq_decide]; omega
  · rw [decide_eq_decide]; omega

theorem in_loop (s : ByteArray) (hs : s.size ≤ 1000000) (c : UInt8) : ∀ d i k : Nat, d + i = s.size → d < k → emendatorref19_in.l0 k s (c.toNat : Int) (i : Int) = some ((s.data.toList.drop i).contains c) := by
  intro d
  induction d with
  | zero =>
    intro i k h hk
    obtain ⟨k, rfl⟩ : ∃ m, k = m + 1 := ⟨k - 1, by omega⟩
    simp only [emendatorref19_in.l0]
    rw [if_neg (by omega), List.drop_eq_nil_of_le (by rw [size_len]; omega)]
    rfl
  | succ d ih =>
    intro i k h hk
    obtain ⟨k, rfl⟩ : ∃ m, k = m + 1 := ⟨k - 1, by omega⟩
    have hi : i < s.data.toList.length := by rw [size_len]; omega
    have hb : s.data.toList[i]? = some s.data.toList[i] := List.getElem?_eq_getElem hi
    simp only [emendatorref19_in.l0]
    rw [if_pos (by omega), if_pos (by omega), bt_list hb, List.drop_eq_getElem_cons hi, List.contains_cons]
    by_cases e : s.data.toList[i] = c
    · rw [if_pos (byte_nat.2 e), e]
      simp
    · rw [if_neg (fun h => e (byte_nat.1 h)), show wrap64 ((i : Int) + 1) = ((i + 1 : Nat) : Int) by unfold wrap64; omega, ih (i + 1) k (by omega) (by omega)]
      have : (c == s.data.toList[i]) = false := by simpa using fun h => e h.symm
      rw [this]
      rfl

theorem in_is (s : ByteArray) (c : UInt8) (k : Nat) (hk : s.size < k) (hs : s.size ≤ 1000000) : emendatorref19_in.f k s (c.toNat : Int) = some (s.data.toList.contains c) := by
  unfold emendatorref19_in.f
  exact in_loop s hs c s.size 0 k (by omega) hk

theorem in_one (c : UInt8) (k : Nat) (hk : 20 ≤ k) : emendatorref19_in.f k ⟨#[106, 107, 71, 112, 80, 74, 120, 126, 68]⟩ (c.toNat : Int) = some (oneB.contains c) := in_is _ c k (by show 9 < k; omega) (by decide)
theorem in_two (c : UInt8) (k : Nat) (hk : 20 ≤ k) : emendatorref19_in.f k ⟨#[103, 100, 121, 62, 60]⟩ (c.toNat : Int) = some (twoB.contains c) := in_is _ c k (by show 5 < k; omega) (by decide)
theorem in_wr (c : UInt8) (k : Nat) (hk : 20 ≤ k) : emendatorref19_in.f k ⟨#[65, 73, 111, 79]⟩ (c.toNat : Int) = some (wrB.contains c) := in_is _ c k (by show 4 < k; omega) (by decide)

/-! ### the digits -/
theorem numD_snoc (l : List UInt8) (c : UInt8) (n : Int) : numD n (l ++ [c]) = 10 * numD n l + ((c.toNat : Int) - 48) := by
  unfold numD
  rw [List.foldl_append]
  rfl

theorem tw_get {p : UInt8 → Bool} (l : List UInt8) {j : Nat} (h : j < (l.takeWhile p).length) : (l.takeWhile p)[j]? = l[j]? := by
  have h1 := List.takeWhile_append_dropWhile (p := p) (l := l)
  generalize l.takeWhile p = a at h h1 ⊢
  generalize l.dropWhile p = b at h1
  rw [← h1, List.getElem?_append_left h]

theorem digs_in {l : List UInt8} {j : Nat} (h : j < (digs l).length) : ∃ c, l[j]? = some c ∧ isD c = true ∧ (j = 0 → c ≠ 48) ∧ (digs l).take (j + 1) = (digs l).take j ++ [c] := by
  unfold digs at h ⊢
  by_cases h48 : l.head? = some 48
  · rw [if_pos h48] at h; simp at h
  · rw [if_neg h48] at h
    rw [if_neg h48]
    obtain ⟨c, hc, hd⟩ := tw_in h
    refine ⟨c, hc, hd, ?_, ?_⟩
    · rintro rfl rfl
      apply h48
      cases l with
      | nil => simp at hc
      | cons x xs => simpa using hc
    · have h2 : (l.takeWhile isD)[j]? = some c := by
        rw [tw_get l h]
        exact hc
      rw [List.take_add_one, h2]
      rfl

theorem digs_out {l : List UInt8} {c : UInt8} (h : l[(digs l).length]? = some c) : isD c = false ∨ ((digs l).length = 0 ∧ c = 48) := by
  unfold digs at h ⊢
  by_cases h48 : l.head? = some 48
  · rw [if_pos h48] at h
    rw [if_pos h48]
    right
    cases l with
    | nil => simp at h48
    | cons x xs =>
      simp at h h48
      exact ⟨rfl, by rw [← h, h48]⟩
  · rw [if_neg h48] at h
    exact .inl (tw_out h)

theorem wrap_nat (i : Nat) (h : i ≤ 1000000) : wrap64 ((i : Int) + 1) = ((i + 1 : Nat) : Int) := by unfold wrap64; omega

theorem digits_loop (s : ByteArray) (hs : s.size ≤ 1000000) (i : Nat) (hi : i < s.size) (K : Nat) : ∀ d j (cnt : Int), d + j = (digs (s.data.toList.drop i)).length → (j ≤ 5 → cnt = numD 0 ((digs (s.data.toList.drop i)).take j)) →
    ∃ cnt', ((digs (s.data.toList.drop i)).length ≤ 4 → cnt' = numD 0 (digs (s.data.toList.drop i))) ∧
      emendatorref19_key.l0 (K + 2 * d + 2) s ((i + j : Nat) : Int) (j : Int) cnt ⟨#[]⟩ ⟨#[]⟩ = emendatorref19_key.j2 K s ((i + (digs (s.data.toList.drop i)).length : Nat) : Int) (decide (4 < (digs (s.data.toList.drop i)).length) || decide (s.size ≤ i + (digs (s.data.toList.drop i)).length)) cnt' ⟨#[]⟩ ⟨#[]⟩ := by
  have hle := digs_le (s.data.toList.drop i)
  rw [List.length_drop, size_len] at hle
  obtain ⟨m, hm⟩ : ∃ m, (digs (s.data.toList.drop i)).length = m := ⟨_, rfl⟩
  rw [hm] at hle
  intro d
  induction d with
  | zero =>
    intro j cnt hj hc
    rw [hm] at hj ⊢
    obtain rfl : j = m := by omega
    refine ⟨cnt, fun h4 => by rw [hc (by omega), ← hm, List.take_length], ?_⟩
    have key : emendatorref19_key.l0 (K + 2 * 0 + 2) s ((i + j : Nat) : Int) (j : Int) cnt ⟨#[]⟩ ⟨#[]⟩ = emendatorref19_key.j1 (K + 1) s ((i + j : Nat) : Int) (j : Int) false cnt ⟨#[]⟩ ⟨#[]⟩ := by
      simp only [emendatorref19_key.l0, Nat.mul_zero, Nat.add_zero]
      by_cases hlt : i + j < s.size
      · have hx : i + j < s.data.toList.length := by rw [size_len]; exact hlt
        have hb : s.data.toList[i + j]? = some s.data.toList[i + j] := List.getElem?_eq_getElem hx
        have hb2 : (s.data.toList.drop i)[(digs (s.data.toList.drop i)).length]? = some s.data.toList[i + j] := by rw [hm, List.getElem?_drop]; exact hb
        rw [if_pos (by omega), if_pos (by omega), bt_list hb, is_isD]
        simp only [Option.bind_some]
        rcases digs_out hb2 with h | ⟨h1, h2⟩
        · rw [h]; simp
        · rw [hm] at h1
          subst h1
          rw [h2]
          rfl
      · rw [if_neg (by omega)]
    rw [key]
    simp only [emendatorref19_key.j1, Bool.false_eq_true, if_false]
    by_cases h4 : 4 < j
    · rw [if_pos (by omega), show decide (4 < j) = true by simpa using h4]
      rfl
    · rw [if_neg (by omega), show decide (4 < j) = false by simpa using h4, Bool.false_or]
      congr 1
      rw [decide_eq_decide]
      omega
  | succ d ih =>
    intro j cnt hj hc
    rw [hm] at hj
    obtain ⟨c, hb0, hd, h0, ht⟩ := digs_in (l := s.data.toList.drop i) (j := j) (by omega)
    rw [List.getElem?_drop] at hb0
    have hlt : i + j < s.size := by omega
    obtain ⟨cnt', h1, h2⟩ := ih (j + 1) (if j < 5 then numD 0 ((digs (s.data.toList.drop i)).take (j + 1)) else cnt) (by omega) (fun h5 => by
      by_cases h : j < 5
      · rw [if_pos h]
      · omega)
    refine ⟨cnt', h1, ?_⟩
    rw [← h2]
    have hdc := hd
    simp [isD] at hdc
    have hflag : emendatorref19_key.l0 (K + 2 * (d + 1) + 2) s ((i + j : Nat) : Int) (j : Int) cnt ⟨#[]⟩ ⟨#[]⟩ = emendatorref19_key.j1 (K + 2 * d + 3) s ((i + j : Nat) : Int) (j : Int) true cnt ⟨#[]⟩ ⟨#[]⟩ := by
      rw [show K + 2 * (d + 1) + 2 = (K + 2 * d + 3) + 1 by omega]
      simp only [emendatorref19_key.l0]
      rw [if_pos (by omega), if_pos (by omega), bt_list hb0, is_isD, hd]
      simp only [Option.bind_some, if_true]
      by_cases hj0 : j = 0
      · have : ((c.toNat : Int) != 48) = true := by
          have h48 := h0 hj0
          have : (c.toNat : Int) ≠ 48 := fun h => h48 (byte_nat.1 (h.trans rfl))
          simpa using this
        rw [if_neg (by omega), this]
      · rw [if_pos (by omega)]
    rw [hflag, show K + 2 * d + 3 = (K + 2 * d + 2) + 1 by omega]
    simp only [emendatorref19_key.j1, if_true]
    have hw : wrap64 (((i + j : Nat) : Int) + 1) = ((i + (j + 1) : Nat) : Int) := by unfold wrap64; omega
    have hw2 : wrap64 ((j : Int) + 1) = ((j + 1 : Nat) : Int) := by unfold wrap64; omega
    by_cases h5 : j < 5
    · rw [if_pos (by omega), if_pos (by omega), if_pos (by omega), if_pos h5, hw, hw2, bt_list hb0, ht, numD_snoc, ← hc (by omega)]
      have hbd : 0 ≤ cnt ∧ cnt ≤ 100000 := by
        rw [hc (by omega)]
        have h6 := numD_bound ((digs (s.data.toList.drop i)).take j) 0 (fun x hx => digs_all _ x (List.mem_of_mem_take hx)) (by omega)
        refine ⟨h6.1, ?_⟩
        have h7 : (10 : Nat) ^ ((digs (s.data.toList.drop i)).take j).length ≤ 10 ^ 5 := Nat.pow_le_pow_right (by omega) (by rw [List.length_take]; omega)
        have h8 : (10 : Int) ^ ((digs (s.data.toList.drop i)).take j).length ≤ 10 ^ 5 := by exact_mod_cast h7
        omega
      have hv : wrap64 (wrap64 (10 * cnt) + ((c.toNat : Int) - 48) % 256) = 10 * cnt + ((c.toNat : Int) - 48) := by
        unfold wrap64
        omega
      rw [hv]
    · rw [if_neg (by omega), if_neg h5, hw, hw2]

/-! ### one key -/
def OpRes (s : ByteArray) (n : Int) (p : Nat) (o : Option (Int × ByteArray × ByteArray × Int × Bool)) : Prop :=
  match opP n (s.data.toList.drop p) with
  | none => ∃ r1 r2 r3 r4, o = some (r1, r2, r3, r4, false)
  | some (k, r) => ∃ j : Nat, r = s.data.toList.drop j ∧ p < j ∧ j ≤ s.size ∧ o = some (k.1, k.2.1, k.2.2, (j : Int), true)

theorem ext_mid (s : ByteArray) (p q : Nat) : (s.extract p q).data.toList = (s.data.toList.take q).drop p := by
  rw [ByteArray.data_extract, Array.toList_extract]
  simp [List.extract, List.drop_take]

theorem l1_loop (s : ByteArray) (hs : s.size ≤ 1000000) (f0 : Nat) (n : Int) (a b : ByteArray) : ∀ d p k : Nat, d + p = s.size → d < k → f0 ≤ p →
    emendatorref19_key.l1 k s (p : Int) (f0 : Int) n a b = some (n, a, s.extract f0 (p + ((s.data.toList.drop p).takeWhile notE).length), ((min (p + ((s.data.toList.drop p).takeWhile notE).length + 1) s.size : Nat) : Int), true) := by
  intro d
  induction d with
  | zero =>
    intro p k h hk hf
    obtain ⟨k, rfl⟩ : ∃ m, k = m + 1 := ⟨k - 1, by omega⟩
    simp only [emendatorref19_key.l1]
    rw [if_neg (by omega), if_pos (by omega), if_pos (by omega), if_pos (by omega), List.drop_eq_nil_of_le (by rw [size_len]; omega), wrap_nat p (by omega)]
    simp [mn]
    omega
  | succ d ih =>
    intro p k h hk hf
    obtain ⟨k, rfl⟩ : ∃ m, k = m + 1 := ⟨k - 1, by omega⟩
    have hi : p < s.data.toList.length := by rw [size_len]; omega
    have hb : s.data.toList[p]? = some s.data.toList[p] := List.getElem?_eq_getElem hi
    simp only [emendatorref19_key.l1]
    rw [if_pos (by omega), if_pos (by omega), bt_list hb, List.drop_eq_getElem_cons hi]
    by_cases e : s.data.toList[p] = 27
    · rw [e, if_pos (by rfl), if_pos (by omega), if_pos (by omega), if_pos (by omega), wrap_nat p (by omega), List.takeWhile_cons_of_neg (by decide)]
      simp [mn]
      omega
    · have h1 : ¬ ((s.data.toList[p].toNat : Int) = 27) := fun h => e (byte_nat.1 (h.trans rfl))
      have h2 : notE s.data.toList[p] = true := bne_iff_ne.2 e
      rw [if_neg h1, wrap_nat p (by omega), ih (p + 1) k (by omega) (by omega) (by omega), List.takeWhile_cons_of_pos h2, List.length_cons]
      rw [show p + 1 + ((s.data.toList.drop (p + 1)).takeWhile notE).length = p + (((s.data.toList.drop (p + 1)).takeWhile notE).length + 1) by omega]

theorem j2_is (s : ByteArray) (hs : s.size ≤ 1000000) (p : Nat) (hp : p < s.size) (n : Int) (K : Nat) (hK : 30 + s.size ≤ K) : OpRes s n p (emendatorref19_key.j2 K s (p : Int) false n ⟨#[]⟩ ⟨#[]⟩) := by
  obtain ⟨k, rfl⟩ : ∃ m, K = m + 1 := ⟨K - 1, by omega⟩
  have hi : p < s.data.toList.length := by rw [size_len]; exact hp
  obtain ⟨c, hc⟩ : ∃ c, s.data.toList[p] = c := ⟨_, rfl⟩
  have hb : s.data.toList[p]? = some c := by rw [List.getElem?_eq_getElem hi, hc]
  have hx : s.extract p (p + 1) = ofL [c] := ext_list (by
    rw [ext_mid, List.take_add_one, hb]
    exact List.drop_left' (by rw [List.length_take]; omega))
  unfold OpRes
  rw [List.drop_eq_getElem_cons hi, hc]
  have c1 : (0 : Int) ≤ (p : Int) := by omega
  have c2 : (p : Int) < (s.size : Int) := by omega
  have c3 : (p : Int) ≤ ((p + 1 : Nat) : Int) := by omega
  have c4 : ((p + 1 : Nat) : Int) ≤ (s.size : Int) := by omega
  simp only [opP, emendatorref19_key.j2, Bool.false_eq_true, if_false, wrap_nat p (by omega), bt_list hb, in_one c k (by omega), in_two c k (by omega), if_pos c1, if_pos c2, if_pos c3, if_pos c4, Option.bind_some, Int.toNat_natCast, hx]
  by_cases h1 : oneB.contains c = true
  · rw [if_pos h1, if_pos h1]
    exact ⟨p + 1, rfl, by omega, by omega, rfl⟩
  rw [if_neg h1, if_neg h1]
  by_cases h2 : twoB.contains c = true
  · rw [if_pos h2, if_pos h2]
    by_cases he : s.size ≤ p + 1
    · rw [if_pos (by omega), List.drop_eq_nil_of_le (by rw [size_len]; omega)]
      exact ⟨_, _, _, _, rfl⟩
    · have hi2 : p + 1 < s.data.toList.length := by rw [size_len]; omega
      have hb2 : s.data.toList[p + 1]? = some s.data.toList[p + 1] := List.getElem?_eq_getElem hi2
      rw [if_neg (by omega), if_pos (by omega), if_pos (by omega), bt_list hb2, List.drop_eq_getElem_cons hi2]
      simp only
      by_cases hd : s.data.toList[p + 1] = c
      · rw [if_pos hd, if_pos (byte_nat.2 hd), if_pos (show (ofL [c]).size + (ofL [c]).size ≤ 9223372036854775807 from by show 1 + 1 ≤ 9223372036854775807; decide), wrap_nat (p + 1) (by omega)]
        exact ⟨p + 1 + 1, rfl, by omega, by omega, rfl⟩
      · rw [if_neg hd, if_neg (fun h => hd (byte_nat.1 h))]
        exact ⟨_, _, _, _, rfl⟩
  rw [if_neg h2, if_neg h2]
  have h34 : ((c.toNat : Int) = 34) ↔ c = 34 := ⟨fun h => byte_nat.1 (h.trans rfl), fun h => by rw [h]; rfl⟩
  have h64 : ((c.toNat : Int) == 64) = (c == 64) := by
    by_cases h : c = 64
    · subst h; rfl
    · have : (c.toNat : Int) ≠ 64 := fun e => h (byte_nat.1 (e.trans rfl))
      have e1 : (c == 64) = false := by simpa using h
      rw [e1]
      simpa using this
  have hj3 : ∀ (if3 : Decidable ((c.toNat : Int) = 34)), (@ite _ ((c.toNat : Int) = 34) if3 (emendatorref19_key.j3 k s ((p + 1 : Nat) : Int) (c.toNat : Int) true n (ofL [c]) ⟨#[]⟩) (emendatorref19_key.j3 k s ((p + 1 : Nat) : Int) (c.toNat : Int) ((c.toNat : Int) == 64) n (ofL [c]) ⟨#[]⟩)) = emendatorref19_key.j3 k s ((p + 1 : Nat) : Int) (c.toNat : Int) (regB.contains c) n (ofL [c]) ⟨#[]⟩ := by
    intro if3
    by_cases h : c = 34
    · rw [if_pos (h34.2 h), h]; rfl
    · rw [if_neg (fun e => h (h34.1 e)), h64]
      congr 1
      simp [regB, h]
      first | done | rfl
  rw [hj3]
  obtain ⟨k, rfl⟩ : ∃ m, k = m + 1 := ⟨k - 1, by omega⟩
  simp only [emendatorref19_key.j3]
  by_cases h3 : regB.contains c = true
  · rw [if_pos h3, if_pos h3]
    by_cases he : s.size ≤ p + 1
    · rw [if_pos (by omega), List.drop_eq_nil_of_le (by rw [size_len]; omega)]
      exact ⟨_, _, _, _, rfl⟩
    · have hi2 : p + 1 < s.data.toList.length := by rw [size_len]; omega
      have hb2 : s.data.toList[p + 1]? = some s.data.toList[p + 1] := List.getElem?_eq_getElem hi2
      have hx2 : s.extract (p + 1) (p + 1 + 1) = ofL [s.data.toList[p + 1]] := ext_list (by
        rw [ext_mid, List.take_add_one, hb2]
        exact List.drop_left' (by rw [List.length_take]; omega))
      rw [if_neg (by omega), if_pos (by omega), wrap_nat (p + 1) (by omega), if_pos (by omega), if_pos (by omega), List.drop_eq_getElem_cons hi2]
      simp only [Int.toNat_natCast, hx2]
      exact ⟨p + 1 + 1, rfl, by omega, by omega, rfl⟩
  rw [if_neg h3, if_neg h3, in_wr c k (by omega)]
  simp only [Option.bind_some]
  by_cases h4 : wrB.contains c = true
  · rw [if_pos h4, if_pos h4, l1_loop s hs (p + 1) n (ofL [c]) ⟨#[]⟩ (s.size - (p + 1)) (p + 1) k (by omega) (by omega) (Nat.le_refl _)]
    have hsum := congrArg List.length (List.takeWhile_append_dropWhile (p := notE) (l := s.data.toList.drop (p + 1)))
    rw [List.length_append, List.length_drop, size_len] at hsum
    obtain ⟨m, hm⟩ : ∃ m, ((s.data.toList.drop (p + 1)).takeWhile notE).length = m := ⟨_, rfl⟩
    have hdl : (s.data.toList.drop (p + 1)).dropWhile notE = s.data.toList.drop (p + 1 + m) := by
      have h1 := List.takeWhile_append_dropWhile (p := notE) (l := s.data.toList.drop (p + 1))
      rw [show s.data.toList.drop (p + 1 + m) = (s.data.toList.drop (p + 1)).drop m by rw [List.drop_drop]]
      generalize (s.data.toList.drop (p + 1)).takeWhile notE = x at h1 hm
      generalize (s.data.toList.drop (p + 1)).dropWhile notE = y at h1 ⊢
      rw [← h1, ← hm, List.drop_left]
    have hex : s.extract (p + 1) (p + 1 + m) = ofL ((s.data.toList.drop (p + 1)).takeWhile notE) := ext_list (by
      have h1 := List.takeWhile_append_dropWhile (p := notE) (l := s.data.toList.drop (p + 1))
      rw [ext_mid, List.drop_take, show p + 1 + m - (p + 1) = m by omega]
      generalize (s.data.toList.drop (p + 1)).takeWhile notE = x at h1 hm ⊢
      generalize (s.data.toList.drop (p + 1)).dropWhile notE = y at h1
      rw [← h1, ← hm, List.take_left]
      rfl)
    rw [hm] at hsum ⊢
    rw [hex, hdl, List.drop_drop]
    refine ⟨min (p + 1 + m + 1) s.size, ?_, by omega, by omega, rfl⟩
    by_cases hh : p + 1 + m + 1 ≤ s.size
    · rw [Nat.min_eq_left hh]
    · rw [Nat.min_eq_right (by omega), List.drop_eq_nil_of_le (by rw [size_len]; omega), List.drop_eq_nil_of_le (by rw [size_len]; omega)]
  · rw [if_neg h4, if_neg h4]
    exact ⟨_, _, _, _, rfl⟩

def KeyRes (s : ByteArray) (p : Nat) (o : Option (Int × ByteArray × ByteArray × Int × Bool)) : Prop :=
  match keyP (s.data.toList.drop p) with
  | none => ∃ r1 r2 r3 r4, o = some (r1, r2, r3, r4, false)
  | some (k, r) => ∃ j : Nat, r = s.data.toList.drop j ∧ p < j ∧ j ≤ s.size ∧ o = some (k.1, k.2.1, k.2.2, (j : Int), true)

theorem refKey_is (s : ByteArray) (hs : s.size ≤ 1000000) (p : Nat) (hp : p < s.size) (K : Nat) (hK : 40 + 4 * s.size ≤ K) : KeyRes s p (emendatorref19_key.f K s (p : Int)) := by
  have hle := digs_le (s.data.toList.drop p)
  rw [List.length_drop, size_len] at hle
  obtain ⟨k, rfl⟩ : ∃ k, K = k + 2 * (digs (s.data.toList.drop p)).length + 2 := ⟨K - 2 * (digs (s.data.toList.drop p)).length - 2, by omega⟩
  obtain ⟨cnt, h1, h2⟩ := digits_loop s hs p hp k (digs (s.data.toList.drop p)).length 0 0 (by omega) (fun _ => rfl)
  unfold emendatorref19_key.f
  simp only [Nat.add_zero] at h2
  have h2' : emendatorref19_key.l0 (k + 2 * (digs (s.data.toList.drop p)).length + 2) s (p : Int) 0 0 ⟨#[]⟩ ⟨#[]⟩ = _ := h2
  rw [h2']
  clear h2 h2'
  unfold KeyRes keyP
  obtain ⟨m, hm⟩ : ∃ m, (digs (s.data.toList.drop p)).length = m := ⟨_, rfl⟩
  rw [hm] at h1 hle hK ⊢
  by_cases h4 : 4 < m
  · rw [if_pos h4, show decide (4 < m) = true by simpa using h4, Bool.true_or]
    obtain ⟨k, rfl⟩ : ∃ n, k = n + 1 := ⟨k - 1, by omega⟩
    exact ⟨_, _, _, _, rfl⟩
  · rw [if_neg h4, show decide (4 < m) = false by simpa using h4, Bool.false_or, h1 (by omega), List.drop_drop]
    by_cases he : s.size ≤ p + m
    · have hnil : s.data.toList.drop (p + m) = [] := List.drop_eq_nil_of_le (by rw [size_len]; omega)
      rw [show decide (s.size ≤ p + m) = true by simpa using he, hnil]
      obtain ⟨k, rfl⟩ : ∃ n, k = n + 1 := ⟨k - 1, by omega⟩
      exact ⟨_, _, _, _, rfl⟩
    · rw [show decide (s.size ≤ p + m) = false by simpa using he]
      have h := j2_is s hs (p + m) (by omega) (numD 0 (digs (s.data.toList.drop p))) k (by omega)
      unfold OpRes at h
      split at h
      · rename_i e
        exact h
      · rename_i kk r e
        obtain ⟨j, e1, e2, e3, e4⟩ := h
        exact ⟨j, e1, by omega, e3, e4⟩

/-! ### all keys -/
theorem refParse_loop (s : ByteArray) (hs : s.size ≤ 1000000) : ∀ d p K (acc : List S38), d + p = s.size → 41 + 5 * s.size ≤ K + p → acc.length ≤ p →
    emendatorref19_Parse.l0 K s acc (p : Int) = some (match keysP (s.data.toList.drop p) with | none => ([], 190) | some ks => (acc ++ ks.map (fun k => (⟨k.1, k.2.1, k.2.2⟩ : S38)), 0)) := by
  intro d
  induction d using Nat.strongRecOn with
  | _ d ih =>
    intro p K acc h hK ha
    obtain ⟨K, rfl⟩ : ∃ n, K = n + 1 := ⟨K - 1, by omega⟩
    simp only [emendatorref19_Parse.l0]
    by_cases hp : p < s.size
    · rw [if_pos (by omega)]
      have hk := refKey_is s hs p hp K (by omega)
      have hne : s.data.toList.drop p ≠ [] := by
        intro e
        have := congrArg List.length e
        rw [List.length_drop, size_len] at this
        simp at this
        omega
      unfold KeyRes at hk
      split at hk
      · rename_i e
        obtain ⟨r1, r2, r3, r4, hk⟩ := hk
        rw [hk, keysP_none hne e]
        rfl
      · rename_i kk r e
        obtain ⟨j, rfl, hj1, hj2, hk⟩ := hk
        rw [hk, keysP_cons e]
        simp only [Option.bind_some, if_true]
        rw [if_pos (by omega), ih (s.size - j) (by omega) j K _ (by omega) (by omega) (by simp; omega)]
        cases keysP (s.data.toList.drop j) <;> simp
    · rw [if_neg (by omega), List.drop_eq_nil_of_le (by rw [size_len]; omega), keysP_nil]
      simp

theorem refParse_is (s : ByteArray) (hs : s.size ≤ 1000000) (K : Nat) (hK : 41 + 5 * s.size ≤ K) :
    emendatorref19_Parse.f K s = some (match keysP s.data.toList with | none => ([], 190) | some ks => (ks.map (fun k => (⟨k.1, k.2.1, k.2.2⟩ : S38)), 0)) := by
  unfold emendatorref19_Parse.f
  have h := refParse_loop s hs s.size 0 K [] (by omega) (by omega) (by simp)
  simpa using h

theorem same_loop (xs : List S38) (hx : xs.length ≤ 1000000) : ∀ d i k : Nat, d + i = xs.length → d < k → emendatorref19_Same.l0 k xs xs (i : Int) = some true := by
  intro d
  induction d with
  | zero =>
    intro i k h hk
    obtain ⟨k, rfl⟩ : ∃ m, k = m + 1 := ⟨k - 1, by omega⟩
    simp only [emendatorref19_Same.l0]
    rw [if_neg (by omega)]
  | succ d ih =>
    intro i k h hk
    obtain ⟨k, rfl⟩ : ∃ m, k = m + 1 := ⟨k - 1, by omega⟩
    simp only [emendatorref19_Same.l0]
    rw [if_pos (by omega), if_pos (by omega), if_pos (by omega), if_neg (by simp), wrap_nat i (by omega)]
    exact ih (i + 1) k (by omega) (by omega)

theorem same_is (xs : List S38) (hx : xs.length ≤ 1000000) (k : Nat) (hk : xs.length < k) : emendatorref19_Same.f k xs xs = some true := by
  unfold emendatorref19_Same.f
  rw [if_pos rfl]
  exact same_loop xs hx xs.length 0 k (by omega) hk

end Go.Proofs.YtdkdoomjihflbaaDoor.NL
