/- The law TmplResolves, walked: without ~ a text stays; a ~ alone is what there was last. -/
import Derived.Test.YtccalibapiiifaaPlib
import Derived.Deep.QuietTactic
import Derived.BigQuiet
namespace Go.Proofs.Ytccalibapiiifaa.T
open Go.RowKit Go.Proofs.YtccalibapiiifaaW.PrintWords Go.Proofs.YtccalibapiiifaaW.PrintLast Go.Proofs.YtccalibapiiifaaW.PrintMore

def noTilde (l : List UInt8) : Bool := l.all fun c => c != 126

theorem rsv_none (last : List UInt8) : ∀ l : List UInt8, noTilde l = true → rsv last l = l
  | [], _ => rfl
  | [c], h => by
    have h1 : c.toNat ≠ 126 := by
      intro e
      have : c = 126 := UInt8.toNat_inj.1 e
      subst this
      simp [noTilde] at h
    rw [rsv_plain h1 (.inr rfl)]
    rfl
  | c :: d :: r, h => by
    simp only [noTilde, List.all_cons, Bool.and_eq_true] at h
    obtain ⟨h1, h2, h3⟩ := h
    have n1 : c.toNat ≠ 126 := by intro e; have : c = 126 := UInt8.toNat_inj.1 e; subst this; simp at h1
    have n2 : d.toNat ≠ 126 := by intro e; have : d = 126 := UInt8.toNat_inj.1 e; subst this; simp at h2
    by_cases h92 : c.toNat = 92
    · rw [rsv_esc h92 n2, rsv_none last r h3]
      rfl
    · rw [rsv_plain n1 (.inl h92), rsv_none last (d :: r) (by simp [noTilde]; exact ⟨by simpa using h2, by simpa [noTilde] using h3⟩)]
      rfl

theorem resolve_to (s last r : ByteArray) (h : rsv last.data.toList s.data.toList = r.data.toList) (hs : s.size ≤ 1000000) (hl : last.size ≤ 1000000) (w : World) :
    Calls Try.prog 24 #[.string s, .string last] w fun e w' => e = .returned (.string r) ∧ Below w.heap.size w w' := by
  refine (resolve_any s last w hs hl).mono ?_
  rintro e w' ⟨rfl, hb⟩
  rw [h]
  exact ⟨rfl, hb⟩

theorem r1 (last : ByteArray) : rsv last.data.toList (⟨#[126]⟩ : ByteArray).data.toList = last.data.toList := by
  show rsv _ [126] = _
  rw [rsv_tilde (by decide)]
  simp [rsv]
theorem r2 (last : ByteArray) : rsv last.data.toList (⟨#[97, 126, 98]⟩ : ByteArray).data.toList = ((⟨#[97]⟩ : ByteArray) ++ last ++ ⟨#[98]⟩).data.toList := by
  show rsv _ [97, 126, 98] = _
  rw [rsv_plain (by decide) (.inl (by decide)), rsv_tilde (by decide), rsv_plain (by decide) (.inl (by decide))]
  simp [rsv]
theorem r3 (last : ByteArray) : rsv last.data.toList (⟨#[92, 126]⟩ : ByteArray).data.toList = (⟨#[126]⟩ : ByteArray).data.toList := by
  show rsv _ [92, 126] = _
  rw [rsv_esct (by decide) (by decide)]
  rfl

theorem known_is (w : World) : Calls Try.prog 20 #[] w fun e w' => e = .returned (.bool true) ∧ Below w.heap.size w w' := emendatorlaw07_known.calls true w rfl

def TilRel (s : ByteArray) (b i : Value) : Prop := ∃ k : Nat, k ≤ s.size ∧ i = .int .i64 k ∧ b = .bool (noTilde (s.data.toList.take k))

theorem take_at (s : ByteArray) (k : Nat) (h : k < s.size) : s.data.toList.take (k + 1) = s.data.toList.take k ++ [s[k]] := by
  have : k < s.data.toList.length := by simpa using h
  rw [List.take_succ_eq_append_getElem this]
  rfl

set_option maxRecDepth 100000 in
set_option maxHeartbeats 800000 in
theorem resolves_walk (s : ByteArray) (_hs0 : s.size ≤ 140737488351232) (last : ByteArray) (_hl0 : last.size ≤ 140737488351232) (w : World) :
    Calls Try.prog 9 #[.string s, .string last] w fun e w' => e = .returned (.bool true) ∧ Below w.heap.size w w' := by
  by_cases h1 : 500 < s.size
  · have h1' : (500 : Int) < (s.size : Int) := by omega
    go_enter Try.func9, Try.ntmps9
    go_wp2_with (first
      | (go_at_call 20; (with_reducible refine (known_is _).mono ?_); rintro e w1 ⟨rfl, hb⟩)
      | go_in)
    go_ret
    exact ⟨rfl, hb⟩
  by_cases h2 : 500 < last.size
  · have h1' : ¬ (500 : Int) < (s.size : Int) := by omega
    have h2' : (500 : Int) < (last.size : Int) := by omega
    go_enter Try.func9, Try.ntmps9
    go_wp2_with (first
      | (go_at_call 20; (with_reducible refine (known_is _).mono ?_); rintro e w1 ⟨rfl, hb⟩)
      | go_in)
    go_ret
    exact ⟨rfl, hb⟩
  have h1' : ¬ (500 : Int) < (s.size : Int) := by omega
  have h2' : ¬ (500 : Int) < (last.size : Int) := by omega
  go_enter Try.func9, Try.ntmps9
  go_wp2_with (first
    | (go_at_call 20; (with_reducible refine (known_is _).mono ?_); rintro e w1 ⟨rfl, hb1⟩; have HB1 := Lib.hid hb1; clear hb1)
    | go_in)
  go_loop [5, 6] (fun b i => TilRel s b i) (fun _ i => s.size - (intOf i).toNat)
  case atStart => exact ⟨0, Nat.zero_le _, rfl, by simp [noTilde]⟩
  case round =>
    obtain ⟨k, hk, rfl, rfl⟩ := hrel
    obtain ⟨b, hb⟩ : ∃ b, noTilde (s.data.toList.take k) = b := ⟨_, rfl⟩
    have HB := Lib.hid hb
    rw [hb]
    clear hb
    by_cases hlt : k < s.size
    · have hn : Hid (noTilde (s.data.toList.take (k + 1)) = (b && (s[k] != 126))) := by
        show _ = _
        rw [take_at s k hlt, ← HB.out]
        simp [noTilde]
      cases b
      · go_wp2
        go_round
        case rel => exact ⟨k + 1, by omega, by go_num, by rw [hn.out]; rfl⟩
        case measure => simp [intOf]; omega
      · by_cases h126 : s[k].toNat = 126
        · have d1 : ((s[k].toNat : Int) != 126) = false := by simp [h126]
          have e1 : Hid (s[k] = 126) := UInt8.toNat_inj.1 h126
          clear h126
          go_wp2
          go_round
          case rel => exact ⟨k + 1, by omega, by go_num, by rw [hn.out, e1.out]; rfl⟩
          case measure => simp [intOf]; omega
        · have d1 : ((s[k].toNat : Int) != 126) = true := by simp; omega
          have e1 : Hid (s[k] ≠ 126) := fun e => h126 (by rw [e]; rfl)
          clear h126
          go_wp2
          go_round
          case rel => exact ⟨k + 1, by omega, by go_num, by rw [hn.out]; simp [e1.out]⟩
          case measure => simp [intOf]; omega
    · have hks : Hid (noTilde s.data.toList = b) := by
        show _ = _
        rw [← HB.out, List.take_of_length_le (by simp; omega)]
      cases b
      all_goals
        go_wp2_with (first
          | (go_at_call 24; (with_reducible refine (resolve_to s last s (rsv_none _ _ hks.out) (by omega) (by omega) _).mono ?_); rintro e w2 ⟨rfl, hb2⟩; have HB2 := Lib.hid (below_then HB1.out HB1.out.size hb2); clear hb2 HB1; have HB1 := HB2; clear HB2)
          | (go_at_call 24; (with_reducible refine (resolve_to _ last last (r1 last) (by decide) (by omega) _).mono ?_); rintro e w3 ⟨rfl, hb2⟩; have HB3 := Lib.hid (below_then HB1.out HB1.out.size hb2); clear hb2)
          | (go_at_call 24; (with_reducible refine (resolve_to _ last (⟨#[97]⟩ ++ last ++ ⟨#[98]⟩) (r2 last) (by decide) (by omega) _).mono ?_); rintro e w4 ⟨rfl, hb2⟩; have HB4 := Lib.hid (below_then HB3.out HB3.out.size hb2); clear hb2)
          | (go_at_call 24; (with_reducible refine (resolve_to _ last ⟨#[126]⟩ (r3 last) (by decide) (by omega) _).mono ?_); rintro e w5 ⟨rfl, hb2⟩; have HB5 := Lib.hid (below_then HB4.out HB4.out.size hb2); clear hb2)
          | go_in)
        go_ret
        exact ⟨rfl, HB5.out⟩

end Go.Proofs.Ytccalibapiiifaa.T
