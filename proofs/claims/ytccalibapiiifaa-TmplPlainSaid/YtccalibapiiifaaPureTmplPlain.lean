/- The law TmplPlain, without the program: a text each of whose bytes but letters and digits has a backslash ahead is itself. -/
import Derived.Test.YtccalibapiiifaaT6
import Derived.Test.YtccalibapiiifaaPlib
namespace Go.Proofs.Ytccalibapiiifaa.Pure
open Go.RowKit Go.Proofs.Ytccalibapiiifaa Go.Proofs.Ytccalibapiiifaa.T Go.Proofs.YtccalibapiiifaaW.PrintWords Go.Proofs.YtccalibapiiifaaW.PrintLast Go.Proofs.YtccalibapiiifaaW.PrintMore

def alnum (n : Nat) : Prop := (97 ≤ n ∧ n ≤ 122) ∨ (65 ≤ n ∧ n ≤ 90) ∨ (48 ≤ n ∧ n ≤ 57)
instance (n : Nat) : Decidable (alnum n) := by unfold alnum; infer_instance

def wrapL : List UInt8 → List UInt8
  | [] => []
  | c :: r => if alnum c.toNat then c :: wrapL r else 92 :: c :: wrapL r

theorem prs_wrap : ∀ (l : List UInt8) (tx : List Int), prs (wrapL l) tx = flush (tx ++ l.map fun c => (c.toNat : Int))
  | [], tx => by simp [wrapL, prs]
  | c :: r, tx => by
    unfold wrapL
    have hc := c.toNat_lt
    by_cases h : alnum c.toNat
    · rw [if_pos h, prs_plain (by unfold alnum at h; omega) (.inl (by unfold alnum at h; omega)), prs_wrap r]
      simp
    · rw [if_neg h]
      unfold alnum at h
      have he : escP (c.toNat : Int) = none := by
        unfold escP
        rw [if_neg (by omega), if_neg (by omega), if_neg (by omega), if_neg (by omega)]
      have hm : meantP (c.toNat : Int) = c.toNat := by
        unfold meantP
        rw [if_neg (by omega), if_neg (by omega)]
      rw [prs_none (by decide) he, prs_wrap r, hm]
      simp

theorem wrapL_len : ∀ l : List UInt8, (wrapL l).length ≤ 2 * l.length
  | [] => by simp [wrapL]
  | c :: r => by
    have := wrapL_len r
    unfold wrapL
    split <;> simp <;> omega

/-- what is answered of the text that was written -/
def fin (s w : ByteArray) : Option Bool :=
  (tmpl_Parse.f w).bind fun t => (if s.toList = ([] : List UInt8) then (some ((t.length : Int) == 0)) else (if (t.length : Int) = 1 then (if 0 < (t.length : Int) then (some (((rd_T42 t 0).f0) == 1 && ((((rd_T42 t 0).f1).toList) == s.toList && (((rd_T42 t 0).f2) == 0 && (((rd_T42 t 0).f3) == 0))))) else (none)) else (some false)))

theorem loop_is (s : ByteArray) (hs : s.size ≤ 500) : ∀ (d i k : Nat) (acc : ByteArray), i + d = s.size → d + 1 ≤ k → acc.size ≤ 2 * i →
    emendatorlaw07_TmplPlain.l0 k s acc (i : Int) = fin s (acc ++ ⟨(wrapL (s.data.toList.drop i)).toArray⟩) := by
  intro d
  induction d with
  | zero =>
    intro i k acc hi hk ha
    obtain ⟨k, rfl⟩ : ∃ m, k = m + 1 := ⟨k - 1, by omega⟩
    simp only [emendatorlaw07_TmplPlain.l0]
    rw [if_neg (by omega)]
    have : s.data.toList.drop i = [] := List.drop_eq_nil_of_le (by simp; omega)
    have e : acc ++ ⟨(wrapL []).toArray⟩ = acc := ba_ext (by simp [wrapL])
    rw [this, e]
    rfl
  | succ d ih =>
    intro i k acc hi hk ha
    obtain ⟨k, rfl⟩ : ∃ m, k = m + 1 := ⟨k - 1, by omega⟩
    have hlt : i < s.size := by omega
    simp only [emendatorlaw07_TmplPlain.l0]
    have hw1 : wrap64 ((i : Int) + 1) = ((i + 1 : Nat) : Int) := by rw [w64 (by omega) (by omega)]; omega
    have he0 := extract_one s i hlt
    have hes0 : (s.extract i (i + 1)).size = 1 := by rw [← data_length, he0]; rfl
    have h5c : (⟨#[92]⟩ : ByteArray).size = 1 := rfl
    have hd := drop_at s i hlt
    rw [if_pos (by omega), if_pos (by omega), bt_nat s i hlt, hw1]
    simp only [Int.toNat_natCast, ByteArray.size_append, hes0, h5c]
    have hA := ih (i + 1) k (acc ++ s.extract i (i + 1)) (by omega) (by omega) (by rw [ByteArray.size_append, hes0]; omega)
    have hB := ih (i + 1) k (acc ++ ⟨#[92]⟩ ++ s.extract i (i + 1)) (by omega) (by omega) (by rw [ByteArray.size_append, ByteArray.size_append, h5c, hes0]; omega)
    have eA : alnum s[i].toNat → acc ++ s.extract i (i + 1) ++ ⟨(wrapL (s.data.toList.drop (i + 1))).toArray⟩ = acc ++ ⟨(wrapL (s.data.toList.drop i)).toArray⟩ := fun h => ba_ext (by rw [hd, wrapL, if_pos h]; simp only [ba_append, he0]; simp)
    have eB : ¬ alnum s[i].toNat → acc ++ ⟨#[92]⟩ ++ s.extract i (i + 1) ++ ⟨(wrapL (s.data.toList.drop (i + 1))).toArray⟩ = acc ++ ⟨(wrapL (s.data.toList.drop i)).toArray⟩ := fun h => ba_ext (by rw [hd, wrapL, if_neg h]; simp only [ba_append, he0]; simp)
    by_cases c1 : 97 ≤ s[i].toNat
    · by_cases c2 : s[i].toNat ≤ 122
      · repeat (first | rw [if_pos (by omega)] | rw [if_neg (by omega)])
        rw [hA, eA (.inl ⟨c1, c2⟩)]
      · repeat (first | rw [if_pos (by omega)] | rw [if_neg (by omega)])
        rw [hB, eB (by unfold alnum; omega)]
    · by_cases c3 : 65 ≤ s[i].toNat
      · by_cases c4 : s[i].toNat ≤ 90
        · repeat (first | rw [if_pos (by omega)] | rw [if_neg (by omega)])
          rw [hA, eA (.inr (.inl ⟨c3, c4⟩))]
        · repeat (first | rw [if_pos (by omega)] | rw [if_neg (by omega)])
          rw [hB, eB (by unfold alnum; omega)]
      · by_cases c5 : 48 ≤ s[i].toNat
        · by_cases c6 : s[i].toNat ≤ 57
          · repeat (first | rw [if_pos (by omega)] | rw [if_neg (by omega)])
            rw [hA, eA (.inr (.inr ⟨c5, c6⟩))]
          · repeat (first | rw [if_pos (by omega)] | rw [if_neg (by omega)])
            rw [hB, eB (by unfold alnum; omega)]
        · repeat (first | rw [if_pos (by omega)] | rw [if_neg (by omega)])
          rw [hB, eB (by unfold alnum; omega)]

theorem fin_is (s : ByteArray) (hs : s.size ≤ 500) : fin s (⟨#[]⟩ ++ ⟨(wrapL s.data.toList).toArray⟩) = some true := by
  have e : (⟨#[]⟩ : ByteArray) ++ ⟨(wrapL s.data.toList).toArray⟩ = ⟨(wrapL s.data.toList).toArray⟩ := ba_ext (by rw [ba_append]; rfl)
  have hlen := wrapL_len s.data.toList
  have hp : tmpl_Parse.f ⟨(wrapL s.data.toList).toArray⟩ = some (flush (s.data.toList.map fun c => (c.toNat : Int))) := by
    unfold tmpl_Parse.f
    rw [if_pos (by rw [← data_length]; simp at hlen ⊢; omega)]
    have := prs_wrap s.data.toList []
    simpa using this
  unfold fin
  rw [e, hp]
  simp only [Option.bind_some]
  have hstr : strOfNums (s.data.toList.map fun c => (c.toNat : Int)) = s := ba_ext (by
    rw [strOfNums_data, List.map_map]
    exact (List.map_congr_left (fun c _ => ofNat_toNat c)).trans (List.map_id _))
  have htl : s.toList = s.data.toList := ByteArray.toList_eq s
  by_cases h : s.data.toList = []
  · rw [htl, if_pos h, h]
    rfl
  · have hne : ¬ (s.data.toList.map fun c => (c.toNat : Int)).length = 0 := by
      rw [List.length_map]
      exact fun e => h (List.eq_nil_of_length_eq_zero e)
    have hf : flush (s.data.toList.map fun c => (c.toNat : Int)) = [⟨1, s, 0, 0⟩] := by unfold flush; rw [if_neg hne, hstr]
    rw [hf, htl, if_neg h, if_pos (by simp), if_pos (by simp)]
    simp [rd_T42, htl]

theorem TmplPlain : emendatorlaw07_TmplPlain.Pure := by
  intro s hs0
  refine ⟨100000, ?_⟩
  unfold emendatorlaw07_TmplPlain.f
  have hk : emendatorlaw07_known.f = some true := rfl
  by_cases h1 : (s.size : Int) > 500
  · rw [if_pos h1, show (100000 : Nat) = 99999 + 1 from rfl]
    simp only [emendatorlaw07_TmplPlain.j0, if_true, hk, Option.bind_some]
  · rw [if_neg h1, hk]
    simp only [Option.bind_some, Bool.not_true]
    rw [show (100000 : Nat) = 99999 + 1 from rfl]
    simp only [emendatorlaw07_TmplPlain.j0]
    rw [if_neg (by simp)]
    have := loop_is s (by omega) s.size 0 99999 ⟨#[]⟩ (by omega) (by omega) (by decide)
    rw [List.drop_zero, fin_is s (by omega)] at this
    exact this

end Go.Proofs.Ytccalibapiiifaa.Pure
