/- The document's Join, walked: the same function. -/
import Derived.Test.YtdkdoomjihflbaaDoorEdJ2
namespace Go.Proofs.YtdkdoomjihflbaaDoor
open Go.RowKit Go.Proofs.YtdkdoomjihflbaaDoorW.PrintWords

theorem cutL_step (s : ByteArray) (h : 0 < s.size) (hb : blankB s[0] = true) : cutL (s.extract 1 s.size) = cutL s := by
  obtain ⟨⟨xs⟩⟩ := s
  cases xs with
  | nil => simp [ByteArray.size] at h
  | cons x xs =>
    have e : (⟨⟨x :: xs⟩⟩ : ByteArray)[0] = x := rfl
    rw [e] at hb
    unfold cutL
    have e2 : ((⟨⟨x :: xs⟩⟩ : ByteArray).extract 1 (⟨⟨x :: xs⟩⟩ : ByteArray).size).data.toList = xs := by
      simp [ByteArray.size]
    rw [e2]
    simp [List.dropWhile, hb]

theorem cutL_stop (s : ByteArray) (h : 0 < s.size) (hb : blankB s[0] = false) : cutL s = s := by
  obtain ⟨⟨xs⟩⟩ := s
  cases xs with
  | nil => simp [ByteArray.size] at h
  | cons x xs =>
    have e : (⟨⟨x :: xs⟩⟩ : ByteArray)[0] = x := rfl
    rw [e] at hb
    unfold cutL
    simp [List.dropWhile, hb]

theorem blank_int (c : UInt8) : (((c.toNat : Int) == 32) || ((c.toNat : Int) == 9)) = blankB c := by
  unfold blankB
  have h : ∀ k : UInt8, ((c.toNat : Int) == (k.toNat : Int)) = (c == k) := by
    intro k
    by_cases e : c = k
    · subst e; simp
    · have : c.toNat ≠ k.toNat := fun h => e (UInt8.toNat_inj.1 h)
      have h1 : (c == k) = false := by simpa using e
      rw [h1]
      simp
      omega
  have h1 := h 32
  have h2 := h 9
  rw [← h1, ← h2]
  rfl

theorem pos_of_ne {s : ByteArray} (he : ¬ s.toList = []) : 0 < s.size := by
  rw [ByteArray.toList_eq] at he
  have := List.length_pos_iff.2 he
  show 0 < s.data.size
  rw [← Array.length_toList]
  exact this

theorem cutR_last (a : ByteArray) (h : a.size - 1 < a.size) : (blankB a[a.size - 1] = true → cutR a ≠ a) ∧ (blankB a[a.size - 1] = false → cutR a = a) := by
  obtain ⟨⟨xs⟩⟩ := a
  have hsz : (⟨⟨xs⟩⟩ : ByteArray).size = xs.length := rfl
  have hne : xs ≠ [] := by
    intro e
    subst e
    simp [ByteArray.size] at h
  obtain ⟨ys, x, rfl⟩ : ∃ ys x, xs = ys ++ [x] := ⟨xs.dropLast, xs.getLast hne, (List.dropLast_concat_getLast hne).symm⟩
  have e : (⟨⟨ys ++ [x]⟩⟩ : ByteArray)[(⟨⟨ys ++ [x]⟩⟩ : ByteArray).size - 1] = x := by
    show (ys ++ [x])[(⟨⟨ys ++ [x]⟩⟩ : ByteArray).size - 1]'_ = x
    have e1 : (⟨⟨ys ++ [x]⟩⟩ : ByteArray).size - 1 = ys.length := by rw [hsz]; simp
    simp [e1]
  rw [e]
  constructor
  · intro hb e2
    have e3 : (cutR ⟨⟨ys ++ [x]⟩⟩).data.toList.length = (ys ++ [x]).length := by rw [e2]
    unfold cutR at e3
    simp [List.dropWhile, hb] at e3
    have := (List.dropWhile_sublist (p := blankB) (l := ys.reverse)).length_le
    simp at this
    omega
  · intro hb
    unfold cutR
    simp [List.dropWhile, hb]

structure RefEnd (a s j : ByteArray) : Prop where
  qa : a.toList = [] → a ++ s = j
  qb : ∀ (h : a.size - 1 < a.size) (h0 : 0 < s.size), ((a.toList.isEmpty = true ∨ ((a[a.size - 1].toNat : Int) == 32) = true ∨ ((a[a.size - 1].toNat : Int) == 9) = true) ∨ ((s[0].toNat : Int) == 41) = true) → a ++ s = j
  qc : ∀ (h : a.size - 1 < a.size) (h0 : 0 < s.size), ((a.toList.isEmpty = false ∧ ((a[a.size - 1].toNat : Int) == 32) = false ∧ ((a[a.size - 1].toNat : Int) == 9) = false) ∧ ((s[0].toNat : Int) == 41) = false) → a ++ ⟨#[32]⟩ ++ s = j

theorem RefEnd.qd {a s j : ByteArray} (H : RefEnd a s j) (h : a.size - 1 < a.size) (h0 : 0 < s.size) (hh : ¬ (¬ (a[a.size - 1].toNat : Int) = 32 ∧ ¬ (a[a.size - 1].toNat : Int) = 9)) : a ++ s = j :=
  H.qb h h0 (.inl (.inr (by
    by_cases e : (a[a.size - 1].toNat : Int) = 32
    · exact .inl (by simpa using e)
    · right
      have : (a[a.size - 1].toNat : Int) = 9 := Classical.byContradiction fun e2 => hh ⟨e, e2⟩
      simpa using this)))

theorem ref_end {a b s j : ByteArray} (HJ : JoinIs a (cutL b) (cutR a) j b false) (hs : cutL s = cutL b) (h0 : 0 < s.size) (hn : blankB s[0] = false) : RefEnd a s j := by
  have hl : cutL b = s := by rw [← hs]; exact cutL_stop s h0 hn
  rw [hl] at HJ
  have hse : s.toList.isEmpty = false := by
    rw [emp_iff']
    intro e
    have : s.size = 0 := by show s.data.size = 0; rw [← Array.length_toList, e]; rfl
    omega
  have hor : ∀ (h : a.size - 1 < a.size), (((a[a.size - 1].toNat : Int) == 32) || ((a[a.size - 1].toNat : Int) == 9)) = blankB a[a.size - 1] := fun h => blank_int _
  refine ⟨?_, ?_, ?_⟩
  · intro e
    exact HJ.p2 rfl hse (by rw [e]; rfl)
  · intro h h0 hh
    rcases hh with (e | e) | e
    · exact HJ.p2 rfl hse e
    · refine HJ.p3 rfl hse ?_
      have hb : blankB a[a.size - 1] = true := by rw [← hor h]; simpa using e
      have := (cutR_last a h).1 hb
      simp only [Bool.not_eq_true', beq_eq_false_iff_ne, ne_eq]
      exact fun e2 => this (ba_toList_eq.1 e2)
    · exact HJ.p4 rfl hse h0 e
  · rintro h h0 ⟨⟨e1, e2, e3⟩, e4⟩
    refine HJ.p5 rfl hse e1 ?_ h0 e4
    have hb : blankB a[a.size - 1] = false := by rw [← hor h, e2, e3]; rfl
    rw [(cutR_last a h).2 hb]
    simp

set_option maxRecDepth 100000 in
theorem refJoin_any (a b : ByteArray) (bold : Bool) (ha : a.size ≤ 1000000) (hb : b.size ≤ 1000000) (w : World) :
    Calls Tryd.prog 13 #[.string a, .string b, .bool bold] w fun e w' => e = .returned (.string (joinP a b bold)) ∧ Below w.heap.size w w' := by
  cases bold with
  | true =>
    go_enter Tryd.func13, Tryd.ntmps13
    go_wp2
    go_ret
    exact ⟨rfl, Below.refl _ _⟩
  | false =>
    have hJ := join_is a b false
    obtain ⟨j, hj⟩ : ∃ j, joinP a b false = j := ⟨_, rfl⟩
    rw [hj] at hJ ⊢
    have HJ := Lib.hid hJ
    clear hj hJ
    go_enter Tryd.func13, Tryd.ntmps13
    go_wp2
    go_loopw [1] (fun v1 wr => ∃ s : ByteArray, v1 = .string s ∧ cutL s = cutL b ∧ s.size ≤ b.size ∧ wr = w) (fun v1 _ => match v1 with | .string s => s.size | _ => 0)
    case atStart => exact ⟨b, rfl, rfl, Nat.le_refl _, rfl⟩
    case round =>
      obtain ⟨s, rfl, hs, hsz, rfl⟩ := hrel
      have HS := Lib.hid hs
      clear hs
      by_cases he : s.toList = []
      · have hje : a = j := HJ.out.p1 rfl (by
          rw [← HS.out, emp_iff]
          have : s.data.toList = [] := by rw [← ByteArray.toList_eq]; exact he
          unfold cutL
          rw [this]
          rfl)
        have hee : s.toList.isEmpty = true := by rw [he]; rfl
        go_wp2
        all_goals first
          | (go_ret
             exact ⟨congrArg Ending.returned (congrArg Value.string hje), Below.refl _ _⟩)
          | (exfalso
             simp_all
             done)
      · have h0 : 0 < s.size := by
          rw [ByteArray.toList_eq] at he
          have := List.length_pos_iff.2 he
          show 0 < s.data.size
          rw [← Array.length_toList]
          exact this
        have hee : s.toList.isEmpty = false := by
          cases hx : s.toList.isEmpty with
          | false => rfl
          | true => exact absurd (by simpa using hx) he
        by_cases hbl : blankB s[0] = true
        · have hc := Lib.hid ((cutL_step s h0 hbl).trans HS.out)
          have hb1 := blank_int s[0]
          rw [hbl] at hb1
          have hx : (s.extract 1 s.size).size = s.size - 1 := by simp
          go_wp2_with (first
            | (go_at_call 20; (with_reducible refine (blank_any _ _).mono ?_); rintro e w1 ⟨rfl, rfl⟩)
            | go_in)
          all_goals first
            | (exfalso
               simp_all
               done)
            | exact ⟨⟨_, rfl, hc.out, by omega, trivial⟩, by show (s.extract 1 s.size).size < s.size; omega⟩
            | (go_roundw
               case rel => exact ⟨_, rfl, hc.out, by omega, by first | rfl | trivial⟩
               case measure => show (s.extract 1 s.size).size < s.size; omega)
        · have hbf : blankB s[0] = false := by simpa using hbl
          have HE := Lib.hid (ref_end HJ.out HS.out h0 hbf)
          have hb1 := blank_int s[0]
          rw [hbf] at hb1
          clear hbl
          go_wp2_with (first
            | (go_at_call 20; (with_reducible refine (blank_any _ _).mono ?_); rintro e w1 ⟨rfl, rfl⟩)
            | go_in)
          all_goals first
            | (exfalso
               simp_all
               done)
            | (exfalso
               have := pos_of_ne (s := a) (by assumption)
               omega)
            | (go_ret
               refine ⟨congrArg Ending.returned (congrArg Value.string ?_), Below.refl _ _⟩
               first
                 | exact HE.out.qa (by assumption)
                 | exact HE.out.qd (by omega) (by omega) (by assumption)
                 | exact HE.out.qb (by omega) (by omega) (by assumption)
                 | exact HE.out.qc (by omega) (by omega) (by assumption))

end Go.Proofs.YtdkdoomjihflbaaDoor
