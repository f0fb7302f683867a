/- edit.Join, walked. -/
import Derived.Test.YtdkdoomjihflbaaDoorEdJ
namespace Go.Proofs.YtdkdoomjihflbaaDoor
open Go.RowKit Go.Proofs.YtdkdoomjihflbaaDoorW.PrintWords

theorem cutL_size (s : ByteArray) : (cutL s).size ≤ s.size := by
  show (s.data.toList.dropWhile blankB).toArray.size ≤ s.data.size
  have := (List.dropWhile_sublist (p := blankB) (l := s.data.toList)).length_le
  simpa using this

theorem emp_iff (s : ByteArray) : (s.toList.isEmpty = true) = (s.data.toList = []) := by rw [ByteArray.toList_eq]; simp
theorem emp_iff' (s : ByteArray) : (s.toList.isEmpty = false) = (s.data.toList ≠ []) := by rw [ByteArray.toList_eq]; simp

/-- what Join comes to, in the words of a walk -/
structure JoinIs (a l r j : ByteArray) (b : ByteArray) (bold : Bool) : Prop where
  p0 : bold = true → a ++ b = j
  p1 : bold = false → l.toList.isEmpty = true → a = j
  p2 : bold = false → l.toList.isEmpty = false → a.toList.isEmpty = true → a ++ l = j
  p3 : bold = false → l.toList.isEmpty = false → (!r.toList == a.toList) = true → a ++ l = j
  p4 : bold = false → l.toList.isEmpty = false → ∀ h : 0 < l.size, ((l[0].toNat : Int) == 41) = true → a ++ l = j
  p5 : bold = false → l.toList.isEmpty = false → a.toList.isEmpty = false → (!r.toList == a.toList) = false → ∀ h : 0 < l.size, ((l[0].toNat : Int) == 41) = false → a ++ ⟨#[32]⟩ ++ l = j
  pos : l.toList.isEmpty = false → 0 < l.size

theorem ba_toList_eq {r a : ByteArray} : r.toList = a.toList ↔ r = a := by
  rw [ByteArray.toList_eq, ByteArray.toList_eq]
  constructor
  · intro h
    cases r; cases a
    simp at h
    rw [h]
  · intro h; rw [h]

theorem head41 (l : ByteArray) (h : 0 < l.size) : ((l[0].toNat : Int) == 41) = true ↔ l.data.toList.head? = some 41 := by
  obtain ⟨⟨xs⟩⟩ := l
  cases xs with
  | nil => simp [ByteArray.size] at h
  | cons x xs =>
    have e : (⟨⟨x :: xs⟩⟩ : ByteArray)[0] = x := rfl
    rw [e]
    simp
    constructor
    · intro h1
      have : x.toNat = 41 := by omega
      exact UInt8.toNat_inj.1 (by simpa using this)
    · intro h1; rw [h1]; rfl

theorem join_is (a b : ByteArray) (bold : Bool) : JoinIs a (cutL b) (cutR a) (joinP a b bold) b bold := by
  constructor
  · intro h; unfold joinP; rw [if_pos h]
  · intro h h1; unfold joinP; rw [if_neg (by simp [h]), if_pos (by rwa [emp_iff] at h1)]
  · intro h h1 h2; unfold joinP; rw [if_neg (by simp [h]), if_neg (by rwa [emp_iff'] at h1), if_pos (.inl (by rwa [emp_iff] at h2))]
  · intro h h1 h2; unfold joinP; rw [if_neg (by simp [h]), if_neg (by rwa [emp_iff'] at h1), if_pos (.inr (.inl (fun e => by rw [e] at h2; simp at h2)))]
  · intro h h1 hp h2; unfold joinP; rw [if_neg (by simp [h]), if_neg (by rwa [emp_iff'] at h1), if_pos (.inr (.inr ((head41 _ hp).1 h2)))]
  · intro h h1 h2 h3 hp h4
    unfold joinP
    rw [if_neg (by simp [h]), if_neg (by rwa [emp_iff'] at h1), if_neg]
    rintro (e | e | e)
    · rw [emp_iff'] at h2; exact h2 e
    · exact e (ba_toList_eq.1 (by simpa using h3))
    · rw [(head41 _ hp).2 e] at h4; cases h4
  · intro h
    rw [emp_iff'] at h
    have := List.length_pos_iff.2 h
    show 0 < (cutL b).data.size
    rw [← Array.length_toList]
    exact this

set_option maxRecDepth 100000 in
theorem join_any (a b : ByteArray) (bold : Bool) (ha : a.size ≤ 1000000) (hb : b.size ≤ 1000000) (w : World) :
    Calls Tryd.prog 12 #[.string a, .string b, .bool bold] w fun e w' => e = .returned (.string (joinP a b bold)) ∧ Below w.heap.size w w' := by
  have hJ := join_is a b bold
  obtain ⟨j, hj⟩ : ∃ j, joinP a b bold = j := ⟨_, rfl⟩
  obtain ⟨l, hl⟩ : ∃ l, cutL b = l := ⟨_, rfl⟩
  obtain ⟨r, hr⟩ : ∃ r, cutR a = r := ⟨_, rfl⟩
  have hls : l.size ≤ 1000000 := by rw [← hl]; exact Nat.le_trans (cutL_size b) hb
  have HT : Hid (∀ w, Calls Tryd.prog 18 #[.string b, .string ⟨#[32, 9]⟩] w fun e w' => e = .returned (.string l) ∧ Below w.heap.size w w') := by rw [← hl]; exact fun w => trimL_blank b w
  have HT2 : Hid (∀ w, Calls Tryd.prog 19 #[.string a, .string ⟨#[32, 9]⟩] w fun e w' => e = .returned (.string r) ∧ Below w.heap.size w w') := by rw [← hr]; exact fun w => trimR_blank a (by omega) w
  rw [hl, hr, hj] at hJ
  rw [hj]
  have HJ := Lib.hid hJ
  clear hl hr hj hJ
  go_enter Tryd.func12, Tryd.ntmps12
  go_wp2_with (first
    | (go_at_call 18; (with_reducible refine (HT.out _).mono ?_); rintro e w1 ⟨rfl, hb1⟩; have HB1 := Lib.hid hb1; clear hb1)
    | (go_at_call 19; (with_reducible refine (HT2.out _).mono ?_); rintro e w2 ⟨rfl, hb2⟩; have HB2 := Lib.hid (below_then HB1.out HB1.out.size hb2); clear hb2)
    | go_in)
  all_goals first
    | (exfalso
       have := HJ.out.pos (by assumption)
       omega)
    | (exfalso
       simp_all
       done)
    | (go_ret
       refine ⟨congrArg Ending.returned (congrArg Value.string ?_), by first | exact HB2.out | exact HB1.out | exact Below.refl _ _⟩
       first
         | exact HJ.out.p0 (by assumption)
         | exact HJ.out.p1 (by assumption) (by assumption)
         | exact HJ.out.p2 (by assumption) (by assumption) (by assumption)
         | exact HJ.out.p3 (by assumption) (by assumption) (by assumption)
         | exact HJ.out.p4 (by assumption) (by assumption) (by assumption) (by assumption)
         | exact HJ.out.p5 (by assumption) (by assumption) (by assumption) (by assumption) (by assumption) (by assumption))

end Go.Proofs.YtdkdoomjihflbaaDoor
