/- the document's less, walked. -/
import Derived.Test.YtdkdoomjihflbaaDoorEdS
namespace Go.Proofs.YtdkdoomjihflbaaDoor
open Go.RowKit Go.Proofs.YtdkdoomjihflbaaDoorW.PrintWords

theorem tw_in {p : UInt8 → Bool} : ∀ {l : List UInt8} {n : Nat}, n < (l.takeWhile p).length → ∃ x, l[n]? = some x ∧ p x = true := by
  intro l
  induction l with
  | nil => intro n h; simp at h
  | cons x xs ih =>
    intro n h
    by_cases hx : p x = true
    · rw [List.takeWhile_cons_of_pos hx] at h
      cases n with
      | zero => exact ⟨x, rfl, hx⟩
      | succ n => simpa using ih (by simpa using h)
    · rw [List.takeWhile_cons_of_neg hx] at h
      simp at h

theorem tw_out {p : UInt8 → Bool} : ∀ {l : List UInt8} {x : UInt8}, l[(l.takeWhile p).length]? = some x → p x = false := by
  intro l
  induction l with
  | nil => intro x h; simp at h
  | cons y ys ih =>
    intro x h
    by_cases hy : p y = true
    · rw [List.takeWhile_cons_of_pos hy] at h
      exact ih (by simpa using h)
    · rw [List.takeWhile_cons_of_neg hy] at h
      simp at h
      rw [← h]
      simpa using hy

theorem byte_at (s : ByteArray) (n : Nat) (h : n < s.size) : s.data.toList[n]? = some s[n] := by
  have : s.data.toList.length = s.size := Array.length_toList
  rw [List.getElem?_eq_getElem (by omega)]
  rfl

theorem byte_32 (x : UInt8) : ((x.toNat : Int) == 32) = (x == 32) := by
  by_cases e : x = 32
  · subst e; rfl
  · have : x.toNat ≠ 32 := fun h => e (UInt8.toNat_inj.1 h)
    have h1 : (x == 32) = false := by simpa using e
    rw [h1]
    simp
    omega

theorem byte_9 (x : UInt8) : ((x.toNat : Int) == 9) = (x == 9) := by
  by_cases e : x = 9
  · subst e; rfl
  · have : x.toNat ≠ 9 := fun h => e (UInt8.toNat_inj.1 h)
    have h1 : (x == 9) = false := by simpa using e
    rw [h1]
    simp
    omega

theorem lead_in {s : ByteArray} {n : Nat} (h : n < lead s.data.toList) : n < 8 ∧ ∃ hn : n < s.size, ((s[n].toNat : Int) == 32) = true := by
  have h1 : n < (s.data.toList.takeWhile (· == 32)).length := by unfold lead at h; omega
  refine ⟨by unfold lead at h; omega, ?_⟩
  have hl := lead_le s.data.toList
  have : s.data.toList.length = s.size := Array.length_toList
  have hn : n < s.size := by omega
  obtain ⟨x, hx, hp⟩ := tw_in h1
  rw [byte_at s n hn] at hx
  refine ⟨hn, ?_⟩
  rw [byte_32, Option.some.inj hx]
  exact hp

theorem lead_out {s : ByteArray} (h8 : lead s.data.toList < 8) (hn : lead s.data.toList < s.size) : ((s[lead s.data.toList].toNat : Int) == 32) = false := by
  have h1 : lead s.data.toList = (s.data.toList.takeWhile (· == 32)).length := by unfold lead at h8 ⊢; omega
  have hb := byte_at s _ hn
  have hx : s.data.toList[(s.data.toList.takeWhile (· == 32)).length]? = some s[lead s.data.toList] := by rw [← h1]; exact hb
  rw [byte_32]
  exact tw_out (p := fun x => x == 32) hx

/-- has it a shift? -/
def lessF (s : ByteArray) : Bool := s.data.toList.head? == some 9 || decide (0 < lead s.data.toList)

theorem back_same (s : ByteArray) (h : lessF s = false) : backB s = s := by
  unfold lessF at h
  simp at h
  unfold backB
  rw [if_neg h.1, h.2]
  exact ext_list (by rw [extract_list]; rfl)

set_option maxRecDepth 100000 in
theorem less_any (s : ByteArray) (hs : s.size ≤ 1000000) (w : World) :
    Calls Tryd.prog 23 #[.string s] w fun e w' => e = .returned (.tuple #[.string (backB s), .bool (lessF s)]) ∧ w = w' := by
  by_cases h9 : s.data.toList.head? = some 9
  · obtain ⟨xs, hx⟩ : ∃ xs, s.data.toList = 9 :: xs := by
      cases e : s.data.toList with
      | nil => rw [e] at h9; cases h9
      | cons x xs => rw [e] at h9; simp at h9; subst h9; exact ⟨xs, rfl⟩
    have hl : s.data.toList.length = s.size := Array.length_toList
    have h0 : 0 < s.size := by rw [← hl, hx]; simp
    have hb := byte_at s 0 h0
    rw [hx] at hb
    have hb9 : ((s[0].toNat : Int) == 9) = true := by rw [byte_9]; simp at hb; rw [← hb]; rfl
    have he : s.toList.isEmpty = false := by rw [emp_iff', hx]; simp
    have hne : ¬ s.toList = [] := by rw [ByteArray.toList_eq, hx]; simp
    have hB : backB s = s.extract 1 s.size := by unfold backB; rw [if_pos h9]
    have hF : lessF s = true := by unfold lessF; rw [h9]; simp
    rw [hB, hF]
    clear hB hF hx hb hl h9
    go_enter Tryd.func23, Tryd.ntmps23
    go_wp2
    go_ret2
    exact ⟨rfl, rfl⟩
  · obtain ⟨K, hK⟩ : ∃ K, lead s.data.toList = K := ⟨_, rfl⟩
    have hKs : K ≤ s.size := by
      rw [← hK]
      have h1 := lead_le s.data.toList
      have : s.data.toList.length = s.size := Array.length_toList
      omega
    have hB : backB s = s.extract K s.size := by unfold backB; rw [if_neg h9, hK]
    have hF : lessF s = decide (0 < (K : Int)) := by
      unfold lessF
      rw [hK]
      have : (s.data.toList.head? == some 9) = false := by simpa using h9
      rw [this]
      simp
    have hK8 : K ≤ 8 := by rw [← hK]; unfold lead; omega
    have HI : Hid (∀ n, n < K → n < 8 ∧ ∃ hn : n < s.size, ((s[n].toNat : Int) == 32) = true) := fun n h => lead_in (by rw [hK]; exact h)
    have HO : Hid (K < 8 → ∀ hn : K < s.size, ((s[K].toNat : Int) == 32) = false) := by
      subst hK
      exact fun h8 hn => lead_out h8 hn
    have H9 : Hid (∀ h : 0 < s.size, ((s[0].toNat : Int) == 9) = false) := by
      intro h
      rw [byte_9]
      have hb := byte_at s 0 h
      have : s.data.toList.head? = some s[0] := by rw [← hb]; cases s.data.toList <;> rfl
      rw [this] at h9
      simpa using h9
    rw [hB, hF]
    clear hB hF hK h9
    by_cases hz : s.toList = []
    · have he : s.toList.isEmpty = true := by rw [hz]; rfl
      have hs0 : s.size = 0 := by
        rw [ByteArray.toList_eq] at hz
        show s.data.size = 0
        rw [← Array.length_toList, hz]
        rfl
      have hK0 : K = 0 := by omega
      subst hK0
      go_enter Tryd.func23, Tryd.ntmps23
      go_wp2
      go_loopw [4] (fun v4 wr => v4 = .int .i64 0 ∧ wr = w) (fun _ _ => 0)
      case atStart => exact ⟨rfl, rfl⟩
      case round =>
        obtain ⟨rfl, rfl⟩ := hrel
        go_wp2
        go_ret2
        refine ⟨?_, rfl⟩
        have e : s.extract 0 s.size = ByteArray.empty := ext_list (by
          rw [extract_list]
          rw [ByteArray.toList_eq] at hz
          rw [hz]
          rfl)
        rw [e]
        rfl
    · have he : s.toList.isEmpty = false := by
        cases hx : s.toList.isEmpty with
        | false => rfl
        | true => exact absurd (by simpa using hx) hz
      have h0 := pos_of_ne hz
      have hb9 := H9.out h0
      clear H9
      go_enter Tryd.func23, Tryd.ntmps23
      go_wp2
      go_loopw [4] (fun v4 wr => ∃ n : Nat, v4 = .int .i64 n ∧ n ≤ K ∧ wr = w) (fun v4 _ => K - (intOf v4).toNat)
      case atStart => exact ⟨0, rfl, by omega, rfl⟩
      case round =>
        obtain ⟨n, rfl, hn, rfl⟩ := hrel
        by_cases hnK : n < K
        · obtain ⟨h8, hns, hb⟩ := HI.out n hnK
          go_wp2
          exact ⟨⟨n + 1, by congr 1, by omega, trivial⟩, by simp [intOf]; omega⟩
        · obtain rfl : n = K := by omega
          by_cases hn8 : n < 8
          · by_cases hns : n < s.size
            · have hb := HO.out hn8 hns
              go_wp2
              go_ret2
              refine ⟨?_, rfl⟩
              first | rfl | (show Ending.returned (Value.tuple #[.string _, .bool _]) = _; simp; done)
            · go_wp2
              go_ret2
              refine ⟨?_, rfl⟩
              first | rfl | (show Ending.returned (Value.tuple #[.string _, .bool _]) = _; simp; done)
          · go_wp2
            go_ret2
            refine ⟨?_, rfl⟩
            first | rfl | (show Ending.returned (Value.tuple #[.string _, .bool _]) = _; simp; done)

end Go.Proofs.YtdkdoomjihflbaaDoor
