/- The law TmplParses, without the program: the document's reading of a replacement is the code's. -/
import Derived.Test.YtccalibapiiifaaT4
import Derived.Test.YtccalibapiiifaaPlib
namespace Go.Proofs.Ytccalibapiiifaa.Pure
open Go.RowKit Go.Proofs.Ytccalibapiiifaa Go.Proofs.Ytccalibapiiifaa.T Go.Proofs.YtccalibapiiifaaW.PrintWords Go.Proofs.YtccalibapiiifaaW.PrintLast Go.Proofs.YtccalibapiiifaaW.PrintMore

/-- what is done does not end with a text -/
def NT (acc : List S42) : Prop := ∀ x, acc.getLast? = some x → x.f0 ≠ 1

theorem NT.nil : NT [] := by intro x h; simp at h
theorem NT.snoc (acc : List S42) (p : S42) (h : p.f0 ≠ 1) : NT (acc ++ [p]) := by
  intro x hx
  simp at hx
  subst hx
  exact h

theorem escP_kind {c : Int} {p : S42} (h : escP c = some p) : p.f0 ≠ 1 := by
  unfold escP at h
  repeat' split at h
  all_goals first
    | (injection h with h; subst h; simp)
    | cases h

theorem str_one {u : ByteArray} {c : Int} (h : u.data.toList = [UInt8.ofNat c.toNat]) : strOfNums [c] = u := ba_ext (by simp [strOfNums, h])

theorem str_snoc {u : ByteArray} {c : Int} {tx : List Int} (h : u.data.toList = [UInt8.ofNat c.toNat]) : strOfNums tx ++ u = strOfNums (tx ++ [c]) := ba_ext (by simp [strOfNums, h])

theorem flush_nil : flush [] = [] := rfl

/-- one byte more of a text -/
theorem text_is {acc : List S42} {tx : List Int} {u : ByteArray} {c : Int} (hn : NT acc) (hu : u.data.toList = [UInt8.ofNat c.toNat]) (hl : acc.length ≤ 10000) (ht : tx.length ≤ 10000) :
    emendatorref07_text.f (acc ++ flush tx) u = some (acc ++ flush (tx ++ [c])) := by
  have hus : u.size = 1 := by rw [← data_length, hu]; rfl
  have hf2 : flush (tx ++ [c]) = [⟨1, strOfNums (tx ++ [c]), 0, 0⟩] := by simp [flush]
  have last : ∀ (a : List S42) (x : S42), rd_T42 (a ++ [x]) (a.length : Int) = x := by intro a x; simp [rd_T42]
  have len : ∀ (a : List S42) (x : S42), ((a ++ [x]).length : Int) - 1 = (a.length : Int) := by intro a x; simp
  have len' : ∀ (a : List S42) (x : S42), ((a ++ [x]).length : Int) = (a.length : Int) + 1 := by intro a x; simp
  unfold emendatorref07_text.f
  rcases Nat.eq_zero_or_pos tx.length with h0 | h0
  · obtain rfl := List.eq_nil_of_length_eq_zero h0
    rw [flush_nil, List.append_nil, hf2, List.nil_append, str_one hu]
    rcases List.eq_nil_or_concat acc with rfl | ⟨a, x, rfl⟩
    · rfl
    · rw [List.concat_eq_append] at hn hl ⊢
      have hx := hn x (by simp)
      have hla : a.length ≤ 10000 := by simp at hl; omega
      rw [len, w64 (by omega) (by omega), if_pos (by rw [len']; omega), if_pos (by omega), if_pos (by rw [len']; omega), last, if_neg hx, if_pos (by simp; omega)]
  · have hf : flush tx = [⟨1, strOfNums tx, 0, 0⟩] := by unfold flush; rw [if_neg (by omega)]
    rw [hf, hf2]
    rw [len, w64 (by omega) (by omega), if_pos (by rw [len']; omega), if_pos (by omega), if_pos (by rw [len']; omega), last, if_pos rfl, if_pos (by rw [hus, strOfNums_size]; omega)]
    simp [str_snoc hu]

theorem flush_len (tx : List Int) : (flush tx).length ≤ 1 := flush_le tx

/-- what stands behind a backslash -/
theorem slash_is {acc : List S42} {tx : List Int} {c : Int} (h0 : 0 ≤ c) (h1 : c ≤ 255) (hn : NT acc) (hl : acc.length ≤ 10000) (ht : tx.length ≤ 10000) (k : Nat) (hk : 3 ≤ k) :
    emendatorref07_slash.f k (acc ++ flush tx) c = some (match escP c with | some p => acc ++ flush tx ++ [p] | none => acc ++ flush (tx ++ [meantP c])) := by
  obtain ⟨k, rfl⟩ : ∃ m, k = m + 3 := ⟨k - 3, by omega⟩
  have hlen : (acc ++ flush tx).length < 3518437208883 := by have := flush_len tx; simp; omega
  have hj0 : ∀ b : Bool, (b = decide (48 ≤ c ∧ c ≤ 57)) → emendatorref07_slash.j0 (k + 3) (acc ++ flush tx) c b = some (match escP c with | some p => acc ++ flush tx ++ [p] | none => acc ++ flush (tx ++ [meantP c])) := by
    intro b hb
    simp only [emendatorref07_slash.j0, emendatorref07_slash.j1, emendatorref07_slash.j2]
    by_cases c1 : 48 ≤ c ∧ c ≤ 57
    · have : escP c = some ⟨2, emp, c - 48, 0⟩ := by unfold escP; rw [if_pos c1]
      rw [this, hb, if_pos (by simpa using c1), if_pos hlen, show (c - 48) % 256 = c - 48 by omega]
      rfl
    · rw [hb, if_neg (by simpa using c1)]
      by_cases c2 : c = 114
      · have : escP c = some ⟨3, emp, 0, 0⟩ := by unfold escP; rw [if_neg c1, if_pos c2]
        rw [this, if_pos c2, if_pos hlen]
        rfl
      · rw [if_neg c2]
        by_cases c3 : c = 117 ∨ c = 108 ∨ c = 85 ∨ c = 76
        · have : escP c = some ⟨4, emp, 0, c⟩ := by unfold escP; rw [if_neg c1, if_neg c2, if_pos c3]
          rw [this]
          rcases c3 with e | e | e | e
          · rw [if_pos e, if_pos trivial, if_pos hlen]; rfl
          · rw [if_neg (by omega), if_pos e, if_pos trivial, if_pos hlen]; rfl
          · rw [if_neg (by omega), if_neg (by omega), if_pos e, if_pos trivial, if_pos hlen]; rfl
          · rw [if_neg (by omega), if_neg (by omega), if_neg (by omega), if_pos (by simpa using e), if_pos hlen]; rfl
        · rw [if_neg (by omega), if_neg (by omega), if_neg (by omega), if_neg (by simp; omega)]
          by_cases c4 : c = 101 ∨ c = 69
          · have : escP c = some ⟨4, emp, 0, 69⟩ := by unfold escP; rw [if_neg c1, if_neg c2, if_neg c3, if_pos c4]
            rw [this]
            rcases c4 with e | e
            · rw [if_pos e, if_pos trivial, if_pos hlen]; rfl
            · rw [if_neg (by omega), if_pos (by simpa using e), if_pos hlen]; rfl
          · have : escP c = none := by unfold escP; rw [if_neg c1, if_neg c2, if_neg c3, if_neg c4]
            rw [this, if_neg (by omega), if_neg (by simp; omega)]
            by_cases c5 : c = 110
            · rw [if_pos c5, text_is (c := 0) hn (by rfl) hl ht]
              subst c5; rfl
            · rw [if_neg c5]
              by_cases c6 : c = 116
              · rw [if_pos c6, text_is (c := 9) hn (by rfl) hl ht]
                subst c6; rfl
              · rw [if_neg c6, text_is (c := c) hn (by simp [strOfNums]) hl ht]
                have : meantP c = c := by unfold meantP; rw [if_neg c5, if_neg c6]
                rw [this]; rfl
  unfold emendatorref07_slash.f
  by_cases hc : c ≥ 48
  · rw [if_pos hc]
    exact hj0 _ (by simp; omega)
  · rw [if_neg hc]
    exact hj0 _ (by simp; omega)

theorem refParse_is (s : ByteArray) (hs : s.size ≤ 1500) : ∀ (d i k : Nat) (acc : List S42) (tx : List Int), i + d = s.size → 2 * d + 6 ≤ k → NT acc → acc.length ≤ 2 * i → tx.length ≤ i →
    emendatorref07_Parse.l0 k s (acc ++ flush tx) (i : Int) = some (acc ++ prs (s.data.toList.drop i) tx) := by
  intro d
  induction d using Nat.strongRecOn with
  | ind d ih =>
    intro i k acc tx hi hk hn hl ht
    obtain ⟨k, rfl⟩ : ∃ m, k = m + 1 := ⟨k - 1, by omega⟩
    simp only [emendatorref07_Parse.l0]
    by_cases hlt : i < s.size
    · rw [if_pos (by omega), if_pos (by omega), bt_nat s i hlt]
      have hw1 : wrap64 ((i : Int) + 1) = ((i + 1 : Nat) : Int) := by rw [w64 (by omega) (by omega)]; omega
      have hw2 : wrap64 (((i + 1 : Nat) : Int) + 1) = ((i + 2 : Nat) : Int) := by rw [w64 (by omega) (by omega)]; omega
      rw [hw1]
      have hd := drop_at s i hlt
      have hfl : (acc ++ flush tx).length < 3518437208883 := by have := flush_len tx; simp; omega
      obtain ⟨k, rfl⟩ : ∃ m, k = m + 1 := ⟨k - 1, by omega⟩
      have plain : ∀ b : Bool, b = false → (s[i].toNat ≠ 92 ∨ s.data.toList.drop (i + 1) = []) → emendatorref07_Parse.j1 (k + 1) s (acc ++ flush tx) (i : Int) b = some (acc ++ prs (s.data.toList.drop i) tx) := by
        intro b hb hp
        simp only [emendatorref07_Parse.j1]
        rw [hb, if_neg (by simp), if_pos (by omega), if_pos (by omega), bt_nat s i hlt, hw1]
        by_cases h38 : s[i].toNat = 38
        · rw [if_pos (by omega), if_pos hfl, hd, prs_amp h38]
          have := ih (d - 1) (by omega) (i + 1) k (acc ++ flush tx ++ [⟨2, emp, 0, 0⟩]) [] (by omega) (by omega) (NT.snoc _ _ (by decide)) (by have := flush_len tx; simp; omega) (by simp)
          rw [flush_nil, List.append_nil] at this
          rw [show (⟨2, ⟨#[]⟩, 0, 0⟩ : S42) = ⟨2, emp, 0, 0⟩ from rfl]
          rw [this]
          simp
        · rw [if_neg (by omega), if_pos (by omega), if_pos (by omega)]
          have he : (s.extract (i : Int).toNat ((i + 1 : Nat) : Int).toNat).data.toList = [UInt8.ofNat ((s[i].toNat : Int)).toNat] := by
            have := extract_one s i hlt
            simpa using this
          rw [text_is (c := (s[i].toNat : Int)) hn he (by omega) (by omega)]
          simp only [Option.bind_some]
          rw [ih (d - 1) (by omega) (i + 1) k acc (tx ++ [(s[i].toNat : Int)]) (by omega) (by omega) hn (by omega) (by simp; omega), hd, prs_plain h38 hp]
      by_cases h92 : s[i].toNat = 92
      · rw [if_pos (by omega)]
        by_cases hlt1 : i + 1 < s.size
        · have hb : decide ((((i + 1 : Nat) : Int)) < (s.size : Int)) = true := by simp; omega
          rw [hb]
          simp only [emendatorref07_Parse.j1]
          rw [hw1, if_pos trivial, if_pos (by omega), if_pos (by omega), bt_nat s (i + 1) hlt1, hw2]
          have hd1 := drop_at s (i + 1) hlt1
          have hc := s[i + 1].toNat_lt
          rw [slash_is (c := (s[i + 1].toNat : Int)) (by omega) (by omega) hn (by omega) (by omega) k (by omega)]
          simp only [Option.bind_some]
          rcases he : escP (s[i + 1].toNat : Int) with _ | p
          · simp only
            rw [ih (d - 2) (by omega) (i + 2) k acc (tx ++ [meantP (s[i + 1].toNat : Int)]) (by omega) (by omega) hn (by omega) (by simp; omega), hd, hd1, prs_none h92 he]
          · simp only
            have := ih (d - 2) (by omega) (i + 2) k (acc ++ flush tx ++ [p]) [] (by omega) (by omega) (NT.snoc _ _ (escP_kind he)) (by have := flush_len tx; simp; omega) (by simp)
            rw [flush_nil, List.append_nil] at this
            rw [hd, hd1, prs_some h92 he]
            rw [this]
            simp
        · have hb : decide ((((i + 1 : Nat) : Int)) < (s.size : Int)) = false := by simp; omega
          rw [hb]
          exact plain _ rfl (.inr (List.drop_eq_nil_of_le (by simp; omega)))
      · rw [if_neg (by omega)]
        exact plain _ rfl (.inl h92)
    · rw [if_neg (by omega)]
      have : s.data.toList.drop i = [] := List.drop_eq_nil_of_le (by simp; omega)
      rw [this]
      rfl

theorem same_is (l : List S42) (hl : l.length ≤ 100000) : ∀ (d i k : Nat), i + d = l.length → d + 1 ≤ k → emendatorref07_Same.l0 k l l (i : Int) = some true := by
  intro d
  induction d with
  | zero =>
    intro i k hi hk
    obtain ⟨k, rfl⟩ : ∃ m, k = m + 1 := ⟨k - 1, by omega⟩
    simp only [emendatorref07_Same.l0]
    rw [if_neg (by omega)]
  | succ d ih =>
    intro i k hi hk
    obtain ⟨k, rfl⟩ : ∃ m, k = m + 1 := ⟨k - 1, by omega⟩
    simp only [emendatorref07_Same.l0]
    rw [if_pos (by omega), if_pos (by omega), if_pos (by omega), if_neg (by simp), w64 (by omega) (by omega)]
    exact ih (i + 1) k (by omega) (by omega)

theorem refResolve_is (s last : ByteArray) (hs : s.size ≤ 1500) (hl : last.size ≤ 500) : ∀ (d i k : Nat) (acc : ByteArray), i + d = s.size → 2 * d + 6 ≤ k → acc.size ≤ i * 501 →
    emendatorref07_Resolve.l0 k s last acc (i : Int) = some (acc ++ ⟨(rsv last.data.toList (s.data.toList.drop i)).toArray⟩) := by
  intro d
  induction d using Nat.strongRecOn with
  | ind d ih =>
    intro i k acc hi hk ha
    obtain ⟨k, rfl⟩ : ∃ m, k = m + 1 := ⟨k - 1, by omega⟩
    simp only [emendatorref07_Resolve.l0]
    by_cases hlt : i < s.size
    · rw [if_pos (by omega), if_pos (by omega), bt_nat s i hlt]
      have hw1 : wrap64 ((i : Int) + 1) = ((i + 1 : Nat) : Int) := by rw [w64 (by omega) (by omega)]; omega
      have hw2 : wrap64 ((i : Int) + 2) = ((i + 2 : Nat) : Int) := by rw [w64 (by omega) (by omega)]; omega
      have hw3 : wrap64 (((i + 1 : Nat) : Int) + 1) = ((i + 2 : Nat) : Int) := by rw [w64 (by omega) (by omega)]; omega
      rw [hw1]
      have hd := drop_at s i hlt
      have he0 := extract_one s i hlt
      have hes0 : (s.extract i (i + 1)).size = 1 := by rw [← data_length, he0]; rfl
      obtain ⟨k, rfl⟩ : ∃ m, k = m + 1 := ⟨k - 1, by omega⟩
      have plain : ∀ b : Bool, b = false → (s[i].toNat ≠ 92 ∨ s.data.toList.drop (i + 1) = []) → emendatorref07_Resolve.j1 (k + 1) s last acc (i : Int) b = some (acc ++ ⟨(rsv last.data.toList (s.data.toList.drop i)).toArray⟩) := by
        intro b hb hp
        simp only [emendatorref07_Resolve.j1]
        rw [hb, if_neg (by simp), if_pos (by omega), if_pos (by omega), bt_nat s i hlt, hw1]
        by_cases h126 : s[i].toNat = 126
        · rw [if_pos (by omega), if_pos (by omega), ih (d - 1) (by omega) (i + 1) k (acc ++ last) (by omega) (by omega) (by rw [ByteArray.size_append]; omega), hd, rsv_tilde h126]
          exact congrArg some (ba_ext (by simp))
        · rw [if_neg (by omega), if_pos (by omega), if_pos (by omega), if_pos (by simp only [Int.toNat_natCast]; rw [hes0]; omega)]
          simp only [Int.toNat_natCast]
          rw [ih (d - 1) (by omega) (i + 1) k (acc ++ s.extract i (i + 1)) (by omega) (by omega) (by rw [ByteArray.size_append, hes0]; omega), hd, rsv_plain h126 hp]
          exact congrArg some (ba_ext (by rw [ba_append, ba_append, ba_append, he0]; simp))
      by_cases h92 : s[i].toNat = 92
      · rw [if_pos (by omega)]
        by_cases hlt1 : i + 1 < s.size
        · have hb : decide ((((i + 1 : Nat) : Int)) < (s.size : Int)) = true := by simp; omega
          rw [hb]
          simp only [emendatorref07_Resolve.j1]
          rw [hw1, if_pos trivial, if_pos (by omega), if_pos (by omega), bt_nat s (i + 1) hlt1, hw2, hw3]
          have hd1 := drop_at s (i + 1) hlt1
          have he1 := extract_one s (i + 1) hlt1
          have hes1 : (s.extract (i + 1) (i + 2)).size = 1 := by rw [← data_length, he1]; rfl
          have h5c : (⟨#[92]⟩ : ByteArray).size = 1 := rfl
          by_cases h126 : s[i + 1].toNat = 126
          · rw [if_pos (by omega), if_pos (by omega), if_pos (by omega), if_pos (by simp only [Int.toNat_natCast]; rw [hes1]; omega)]
            simp only [Int.toNat_natCast]
            rw [ih (d - 2) (by omega) (i + 2) k (acc ++ s.extract (i + 1) (i + 2)) (by omega) (by omega) (by rw [ByteArray.size_append, hes1]; omega), hd, hd1, rsv_esct h92 h126]
            exact congrArg some (ba_ext (by rw [ba_append, ba_append, ba_append, he1]; simp))
          · rw [if_neg (by omega), if_pos (by omega), if_pos (by omega), if_pos (by omega), if_pos (by simp only [Int.toNat_natCast]; rw [ByteArray.size_append, h5c, hes1]; omega)]
            simp only [Int.toNat_natCast]
            rw [ih (d - 2) (by omega) (i + 2) k (acc ++ ⟨#[92]⟩ ++ s.extract (i + 1) (i + 2)) (by omega) (by omega) (by rw [ByteArray.size_append, ByteArray.size_append, h5c, hes1]; omega), hd, hd1, rsv_esc h92 h126]
            have hc92 : s[i] = 92 := UInt8.toNat_inj.1 h92
            exact congrArg some (ba_ext (by rw [ba_append, ba_append, ba_append, ba_append, he1, hc92]; simp))
        · have hb : decide ((((i + 1 : Nat) : Int)) < (s.size : Int)) = false := by simp; omega
          rw [hb]
          exact plain _ rfl (.inr (List.drop_eq_nil_of_le (by simp; omega)))
      · rw [if_neg (by omega)]
        exact plain _ rfl (.inl h92)
    · rw [if_neg (by omega)]
      have : s.data.toList.drop i = [] := List.drop_eq_nil_of_le (by simp; omega)
      rw [this]
      exact congrArg some (ba_ext (by simp [rsv]))

theorem prs_len : ∀ (l : List UInt8) (tx : List Int), (prs l tx).length ≤ 2 * l.length + 1
  | [], tx => by have := flush_len tx; simpa [prs] using this
  | c :: r, tx => by
    rw [prs.eq_def]
    simp only
    split
    · have := prs_len r []; have := flush_len tx; simp; omega
    · split
      · match r with
        | [] => have := flush_len (tx ++ [92]); simp at this ⊢; omega
        | d :: r' =>
          simp only
          split
          · have := prs_len r' []; have := flush_len tx; simp; omega
          · have := prs_len r' (tx ++ [meantP ↑d.toNat]); simp; omega
      · have := prs_len r (tx ++ [(c.toNat : Int)]); simp; omega

theorem TmplParses : emendatorlaw07_TmplParses.Pure := by
  intro s last hs0 hl0
  refine ⟨100000, ?_⟩
  unfold emendatorlaw07_TmplParses.f
  have hk : emendatorlaw07_known.f = some true := rfl
  have hj : emendatorlaw07_TmplParses.j0 100000 s last true = some true := by
    rw [show (100000 : Nat) = 99999 + 1 from rfl]
    simp only [emendatorlaw07_TmplParses.j0, if_true, hk, Option.bind_some]
  by_cases h1 : (s.size : Int) > 1500
  · rw [if_pos h1, hj]
  · rw [if_neg h1]
    by_cases h2 : (last.size : Int) > 500
    · rw [if_pos h2, hj]
    · rw [if_neg h2, hk]
      simp only [Option.bind_some, Bool.not_true]
      rw [show (100000 : Nat) = 99999 + 1 from rfl]
      simp only [emendatorlaw07_TmplParses.j0]
      rw [if_neg (by simp)]
      have hp : tmpl_Parse.f s = some (prs s.data.toList []) := by unfold tmpl_Parse.f; rw [if_pos (by omega)]
      have hr : tmpl_Resolve.f s last = some ⟨(rsv last.data.toList s.data.toList).toArray⟩ := by unfold tmpl_Resolve.f; rw [if_pos (by omega)]
      have hp2 : emendatorref07_Parse.f 99999 s = some (prs s.data.toList []) := by
        have := refParse_is s (by omega) s.size 0 99999 [] [] (by omega) (by omega) NT.nil (by simp) (by simp)
        simpa [emendatorref07_Parse.f, flush] using this
      have hr2 : emendatorref07_Resolve.f 99999 s last = some ⟨(rsv last.data.toList s.data.toList).toArray⟩ := by
        have := refResolve_is s last (by omega) (by omega) s.size 0 99999 ⟨#[]⟩ (by omega) (by omega) (by decide)
        have e : (⟨#[]⟩ : ByteArray) ++ ⟨(rsv last.data.toList s.data.toList).toArray⟩ = ⟨(rsv last.data.toList s.data.toList).toArray⟩ := ba_ext (by rw [ba_append]; rfl)
        rw [List.drop_zero, e] at this
        exact this
      have hlen := prs_len s.data.toList []
      have hlen' : (prs s.data.toList []).length ≤ 5000 := by simp at hlen; omega
      have hsame : emendatorref07_Same.f 99999 (prs s.data.toList []) (prs s.data.toList []) = some true := by
        unfold emendatorref07_Same.f
        rw [if_pos rfl]
        exact same_is _ (by omega) (prs s.data.toList []).length 0 99999 (by omega) (by omega)
      rw [hp, hr, hp2, hr2]
      simp only [Option.bind_some]
      rw [hsame]
      simp

end Go.Proofs.Ytccalibapiiifaa.Pure
