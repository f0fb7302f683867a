/- The laws NormParses and NormKeys: what the printed functions answer, and the walks. -/
import Derived.Test.YtdkdoomjihflbaaDoorNL4
import Derived.Test.YtdkdoomjihflbaaDoorNref
namespace Go.Proofs.YtdkdoomjihflbaaDoor.NL
open Go.RowKit Go.Proofs.YtdkdoomjihflbaaDoorW.PrintWords

theorem known_is : emendatorlaw19_known.f = some true := rfl

theorem keysP_len : ∀ (n : Nat) (l : List UInt8), l.length ≤ n → ∀ ks, keysP l = some ks → ks.length ≤ l.length := by
  intro n
  induction n with
  | zero =>
    intro l hl ks h
    obtain rfl : l = [] := List.eq_nil_of_length_eq_zero (by omega)
    rw [keysP_nil] at h
    injection h with h
    subst h
    simp
  | succ n ih =>
    intro l hl ks h
    by_cases h0 : l = []
    · subst h0
      rw [keysP_nil] at h
      injection h with h
      subst h
      simp
    cases e : keyP l with
    | none => rw [keysP_none h0 e] at h; cases h
    | some kr =>
      obtain ⟨k, r⟩ := kr
      have hlt := keyP_lt e
      rw [keysP_cons e] at h
      cases er : keysP r with
      | none => rw [er] at h; cases h
      | some b =>
        rw [er] at h
        have hb : k :: b = ks := by injection h
        have := ih r (by omega) b er
        rw [← hb]
        simp
        omega

theorem parse_some {s : ByteArray} (hs : s.size ≤ 1000000) {ks : List NK} (h : keysP s.data.toList = some ks) : norm_Parse.f s = some (ks.map toS, 0) := by
  unfold norm_Parse.f parsA
  rw [if_pos hs, h]
  rfl
theorem parse_none {s : ByteArray} (hs : s.size ≤ 1000000) (h : keysP s.data.toList = none) : norm_Parse.f s = some ([], 190) := by
  unfold norm_Parse.f parsA
  rw [if_pos hs, h]
theorem app_list (a b : ByteArray) : (a ++ b).data.toList = a.data.toList ++ b.data.toList := by simp
theorem app_size (a b : ByteArray) : (a ++ b).size = a.size + b.size := by rw [← size_len, app_list, List.length_append, size_len, size_len]

theorem parses_pure : emendatorlaw19_NormParses.Pure := by
  intro s _
  refine ⟨10001, ?_⟩
  unfold emendatorlaw19_NormParses.f
  by_cases h : (s.size : Int) > 1000
  · rw [if_pos h]
    simp only [emendatorlaw19_NormParses.j0, known_is]
    rfl
  · rw [if_neg h, known_is]
    have hs : s.size ≤ 1000 := by omega
    simp only [Option.bind_some, Bool.not_true, emendatorlaw19_NormParses.j0, Bool.false_eq_true, if_false]
    rw [refParse_is s (by omega) 10000 (by omega)]
    cases e : keysP s.data.toList with
    | none =>
      rw [parse_none (by omega) e]
      simp only [Option.bind_some]
      rw [same_is [] (by simp) 10000 (by simp)]
      simp only [Option.bind_some, if_true]
      simp [wrap64]
    | some ks =>
      have hl := keysP_len _ _ (Nat.le_refl _) ks e
      rw [size_len] at hl
      rw [parse_some (by omega) e]
      simp only [Option.bind_some]
      have : (ks.map fun k => (⟨k.1, k.2.1, k.2.2⟩ : S38)) = ks.map toS := rfl
      rw [this, same_is (ks.map toS) (by simp; omega) 10000 (by simp; omega)]
      simp only [Option.bind_some, if_true]
      simp [wrap64]

theorem keys_pure : emendatorlaw19_NormKeys.Pure := by
  intro s t _ _
  refine ⟨10001, ?_⟩
  unfold emendatorlaw19_NormKeys.f
  by_cases h : (s.size : Int) > 200
  · rw [if_pos h]
    simp only [emendatorlaw19_NormKeys.j0, known_is]
    rfl
  rw [if_neg h]
  by_cases h' : (t.size : Int) > 200
  · rw [if_pos h']
    simp only [emendatorlaw19_NormKeys.j0, known_is]
    rfl
  rw [if_neg h', known_is]
  have hs : s.size ≤ 200 := by omega
  have ht : t.size ≤ 200 := by omega
  simp only [Option.bind_some, Bool.not_true, emendatorlaw19_NormKeys.j0, Bool.false_eq_true, if_false]
  have h27 : (s ++ (⟨#[27]⟩ : ByteArray)).data.toList = s.data.toList ++ [27] := app_list s _
  have hz27 : (s ++ (⟨#[27]⟩ : ByteArray)).size ≤ 1000000 := by rw [app_size]; show s.size + 1 ≤ 1000000; omega
  have hzt : (s ++ t).size ≤ 1000000 := by rw [app_size]; omega
  have hsum : s.size + t.size ≤ 9223372036854775807 := by omega
  rw [if_pos (by omega)]
  simp only [if_pos hsum]
  cases e1 : keysP (s.data.toList ++ [27]) with
  | some ks =>
    rw [parse_some hz27 (by rw [h27]; exact e1)]
    rfl
  | none =>
    rw [parse_none hz27 (by rw [h27]; exact e1)]
    cases e2 : keysP s.data.toList with
    | none =>
      rw [parse_none (by omega) e2]
      cases e3 : keysP t.data.toList with
      | none =>
        rw [parse_none (by omega) e3]
        cases e4 : keysP (s ++ t).data.toList with
        | none => rw [parse_none hzt e4]; rfl
        | some d => rw [parse_some hzt e4]; rfl
      | some c =>
        rw [parse_some (by omega) e3]
        cases e4 : keysP (s ++ t).data.toList with
        | none => rw [parse_none hzt e4]; rfl
        | some d => rw [parse_some hzt e4]; rfl
    | some b =>
      rw [parse_some (by omega) e2]
      have hbl := keysP_len _ _ (Nat.le_refl _) b e2
      rw [size_len] at hbl
      have hk := keys_law _ _ (Nat.le_refl _) b e2 e1 t.data.toList
      cases e3 : keysP t.data.toList with
      | none =>
        rw [parse_none (by omega) e3]
        rw [e3] at hk
        rw [parse_none hzt (by rw [app_list]; exact hk)]
        rfl
      | some c =>
        have hcl := keysP_len _ _ (Nat.le_refl _) c e3
        rw [size_len] at hcl
        rw [parse_some (by omega) e3]
        rw [e3] at hk
        rw [parse_some hzt (by rw [app_list]; exact hk)]
        simp only [Option.bind_some]
        rw [if_neg (by decide)]
        simp only [if_true, List.nil_append, List.length_nil]
        rw [if_pos (by simp; omega), if_pos (by simp; omega), ← List.map_append, same_is ((b ++ c).map toS) (by simp; omega) 10000 (by simp; omega)]
        rfl

theorem parses_walk (s : ByteArray) (hs : s.size ≤ 140737488351232) (w : World) : Calls Tryd.prog 3 #[.string s] w fun e w' => e = .returned (.bool true) ∧ Below w.heap.size w w' := emendatorlaw19_NormParses.walk parses_pure s w hs
theorem keys_walk (s : ByteArray) (hs : s.size ≤ 140737488351232) (t : ByteArray) (ht : t.size ≤ 140737488351232) (w : World) : Calls Tryd.prog 4 #[.string s, .string t] w fun e w' => e = .returned (.bool true) ∧ Below w.heap.size w w' := emendatorlaw19_NormKeys.walk keys_pure s t w hs ht

end Go.Proofs.YtdkdoomjihflbaaDoor.NL
