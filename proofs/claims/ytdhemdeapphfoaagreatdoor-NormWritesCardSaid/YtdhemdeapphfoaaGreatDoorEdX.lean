import Derived.Test.YtdhemdeapphfoaaGreatDoorProg
import Derived.Test.YtdhemdeapphfoaaGreatDoorShelf
import Derived.Shelf.Strings.SlTrimAscii
import Derived.Tactics
import Derived.WalkKit
import Derived.Below
import Derived.Lib.Hide
import Derived.Deep.QuietTactic
import Derived.BigQuiet
import Derived.Test.YtdhemdeapphfoaaGreatDoorWWords
set_option linter.unusedVariables false
set_option linter.unusedSimpArgs false

/- edit: Join, and the document's Join: both are one function of the texts. -/
namespace Go.Proofs.YtdhemdeapphfoaaGreatDoor
open Go.RowKit Go.Proofs.YtdhemdeapphfoaaGreatDoorW.PrintWords

def blankB (c : UInt8) : Bool := c == 32 || c == 9
def cutL (s : ByteArray) : ByteArray := ⟨(s.data.toList.dropWhile blankB).toArray⟩
def cutR (s : ByteArray) : ByteArray := ⟨(s.data.toList.reverse.dropWhile blankB).reverse.toArray⟩

theorem lays161b : (Tryz.prog.info? (Tryz.lays161_ren.t 116)).map (fun i => (i.zero, i.size)) = some (some (.agg (Array.replicate 256 (.bool false))), 256) := by kernel_rfl

theorem lays162b : (Tryz.prog.info? (Tryz.lays162_ren.t 116)).map (fun i => (i.zero, i.size)) = some (some (.agg (Array.replicate 256 (.bool false))), 256) := by kernel_rfl

theorem blank_set : (fun x => (⟨#[32, 9]⟩ : ByteArray).data.toList.contains x) = blankB := by
  funext c
  show ([32, 9] : List UInt8).contains c = (c == 32 || c == 9)
  cases h : c == 32 <;> cases h2 : c == 9 <;> simp [List.contains, List.elem, h, h2]

theorem trimL_blank (s : ByteArray) (w : World) : Calls Tryz.prog 73 #[.string s, .string ⟨#[32, 9]⟩] w fun e w' => e = .returned (.string (cutL s)) ∧ Below w.heap.size w w' := by
  have h := Any.strings_TrimLeft_laid Tryz.lays161 lays161b s ⟨#[32, 9]⟩ w (by decide) (ascii_of_all (by decide))
  refine h.mono ?_
  rintro e w' ⟨rfl, hb⟩
  refine ⟨?_, hb⟩
  unfold cutL Lib.trimLeftS
  rw [blank_set]

theorem trimR_blank (s : ByteArray) (hs : s.size ≤ 9223372036854775807) (w : World) : Calls Tryz.prog 167 #[.string s, .string ⟨#[32, 9]⟩] w fun e w' => e = .returned (.string (cutR s)) ∧ Below w.heap.size w w' := by
  have h := Any.strings_TrimRight_laid Tryz.lays162 lays162b s ⟨#[32, 9]⟩ w hs (by decide) (ascii_of_all (by decide))
  refine h.mono ?_
  rintro e w' ⟨rfl, hb⟩
  refine ⟨?_, hb⟩
  unfold cutR Lib.trimRightS
  rw [blank_set]

/-- what Join comes to -/
def joinP (a b : ByteArray) (bold : Bool) : ByteArray :=
  if bold then a ++ b
  else if (cutL b).data.toList = [] then a
  else if a.data.toList = [] ∨ cutR a ≠ a ∨ (cutL b).data.toList.head? = some 41 then a ++ cutL b
  else a ++ ⟨#[32]⟩ ++ cutL b

end Go.Proofs.YtdhemdeapphfoaaGreatDoor

/- edit.Join, walked. -/
namespace Go.Proofs.YtdhemdeapphfoaaGreatDoor
open Go.RowKit Go.Proofs.YtdhemdeapphfoaaGreatDoorW.PrintWords

theorem cutL_size (s : ByteArray) : (cutL s).size ≤ s.size := by
  show (s.data.toList.dropWhile blankB).toArray.size ≤ s.data.size
  have := (List.dropWhile_sublist (p := blankB) (l := s.data.toList)).length_le
  simpa using this

theorem emp_iff (s : ByteArray) : (s.toList.isEmpty = true) = (s.data.toList = []) := by rw [ByteArray.toList_eq]; simp
theorem emp_iff' (s : ByteArray) : (s.toList.isEmpty = false) = (s.data.toList ≠ []) := by rw [ByteArray.toList_eq]; simp

/-- what Join comes to, in the words of a walk -/
structure JoinIs (a l r j : ByteArray) (b : ByteArray) (bold : Bool) : Prop where
  p0 : bold = true → a ++ b = j
  p1 : bold = false → l.toList.isEmpty = true → a = j
  p2 : bold = false → l.toList.isEmpty = false → a.toList.isEmpty = true → a ++ l = j
  p3 : bold = false → l.toList.isEmpty = false → (!r.toList == a.toList) = true → a ++ l = j
  p4 : bold = false → l.toList.isEmpty = false → ∀ h : 0 < l.size, ((l[0].toNat : Int) == 41) = true → a ++ l = j
  p5 : bold = false → l.toList.isEmpty = false → a.toList.isEmpty = false → (!r.toList == a.toList) = false → ∀ h : 0 < l.size, ((l[0].toNat : Int) == 41) = false → a ++ ⟨#[32]⟩ ++ l = j
  pos : l.toList.isEmpty = false → 0 < l.size

theorem ba_toList_eq {r a : ByteArray} : r.toList = a.toList ↔ r = a := by
  rw [ByteArray.toList_eq, ByteArray.toList_eq]
  constructor
  · intro h
    cases r; cases a
    simp at h
    rw [h]
  · intro h; rw [h]

theorem head41 (l : ByteArray) (h : 0 < l.size) : ((l[0].toNat : Int) == 41) = true ↔ l.data.toList.head? = some 41 := by
  obtain ⟨⟨xs⟩⟩ := l
  cases xs with
  | nil => simp [ByteArray.size] at h
  | cons x xs =>
    have e : (⟨⟨x :: xs⟩⟩ : ByteArray)[0] = x := rfl
    rw [e]
    simp
    constructor
    · intro h1
      have : x.toNat = 41 := by omega
      exact UInt8.toNat_inj.1 (by simpa using this)
    · intro h1; rw [h1]; rfl

theorem join_is (a b : ByteArray) (bold : Bool) : JoinIs a (cutL b) (cutR a) (joinP a b bold) b bold := by
  constructor
  · intro h; unfold joinP; rw [if_pos h]
  · intro h h1; unfold joinP; rw [if_neg (by simp [h]), if_pos (by rwa [emp_iff] at h1)]
  · intro h h1 h2; unfold joinP; rw [if_neg (by simp [h]), if_neg (by rwa [emp_iff'] at h1), if_pos (.inl (by rwa [emp_iff] at h2))]
  · intro h h1 h2; unfold joinP; rw [if_neg (by simp [h]), if_neg (by rwa [emp_iff'] at h1), if_pos (.inr (.inl (fun e => by rw [e] at h2; simp at h2)))]
  · intro h h1 hp h2; unfold joinP; rw [if_neg (by simp [h]), if_neg (by rwa [emp_iff'] at h1), if_pos (.inr (.inr ((head41 _ hp).1 h2)))]
  · intro h h1 h2 h3 hp h4
    unfold joinP
    rw [if_neg (by simp [h]), if_neg (by rwa [emp_iff'] at h1), if_neg]
    rintro (e | e | e)
    · rw [emp_iff'] at h2; exact h2 e
    · exact e (ba_toList_eq.1 (by simpa using h3))
    · rw [(head41 _ hp).2 e] at h4; cases h4
  · intro h
    rw [emp_iff'] at h
    have := List.length_pos_iff.2 h
    show 0 < (cutL b).data.size
    rw [← Array.length_toList]
    exact this

set_option maxRecDepth 100000 in
theorem join_any (a b : ByteArray) (bold : Bool) (ha : a.size ≤ 1000000) (hb : b.size ≤ 1000000) (w : World) :
    Calls Tryz.prog 146 #[.string a, .string b, .bool bold] w fun e w' => e = .returned (.string (joinP a b bold)) ∧ Below w.heap.size w w' := by
  have hJ := join_is a b bold
  obtain ⟨j, hj⟩ : ∃ j, joinP a b bold = j := ⟨_, rfl⟩
  obtain ⟨l, hl⟩ : ∃ l, cutL b = l := ⟨_, rfl⟩
  obtain ⟨r, hr⟩ : ∃ r, cutR a = r := ⟨_, rfl⟩
  have hls : l.size ≤ 1000000 := by rw [← hl]; exact Nat.le_trans (cutL_size b) hb
  have HT : Hid (∀ w, Calls Tryz.prog 73 #[.string b, .string ⟨#[32, 9]⟩] w fun e w' => e = .returned (.string l) ∧ Below w.heap.size w w') := by rw [← hl]; exact fun w => trimL_blank b w
  have HT2 : Hid (∀ w, Calls Tryz.prog 167 #[.string a, .string ⟨#[32, 9]⟩] w fun e w' => e = .returned (.string r) ∧ Below w.heap.size w w') := by rw [← hr]; exact fun w => trimR_blank a (by omega) w
  rw [hl, hr, hj] at hJ
  rw [hj]
  have HJ := Lib.hid hJ
  clear hl hr hj hJ
  go_enter Tryz.func146, Tryz.ntmps146
  go_wp2_with (first
    | (go_at_call 73; (with_reducible refine (HT.out _).mono ?_); rintro e w1 ⟨rfl, hb1⟩; have HB1 := Lib.hid hb1; clear hb1)
    | (go_at_call 167; (with_reducible refine (HT2.out _).mono ?_); rintro e w2 ⟨rfl, hb2⟩; have HB2 := Lib.hid (below_then HB1.out HB1.out.size hb2); clear hb2)
    | go_in)
  all_goals first
    | (exfalso
       have := HJ.out.pos (by assumption)
       omega)
    | (exfalso
       simp_all
       done)
    | (go_ret
       refine ⟨congrArg Ending.returned (congrArg Value.string ?_), by first | exact HB2.out | exact HB1.out | exact Below.refl _ _⟩
       first
         | exact HJ.out.p0 (by assumption)
         | exact HJ.out.p1 (by assumption) (by assumption)
         | exact HJ.out.p2 (by assumption) (by assumption) (by assumption)
         | exact HJ.out.p3 (by assumption) (by assumption) (by assumption)
         | exact HJ.out.p4 (by assumption) (by assumption) (by assumption) (by assumption)
         | exact HJ.out.p5 (by assumption) (by assumption) (by assumption) (by assumption) (by assumption) (by assumption))

end Go.Proofs.YtdhemdeapphfoaaGreatDoor

/- The document's Join, walked: the same function. -/
namespace Go.Proofs.YtdhemdeapphfoaaGreatDoor
open Go.RowKit Go.Proofs.YtdhemdeapphfoaaGreatDoorW.PrintWords

theorem cutL_step (s : ByteArray) (h : 0 < s.size) (hb : blankB s[0] = true) : cutL (s.extract 1 s.size) = cutL s := by
  obtain ⟨⟨xs⟩⟩ := s
  cases xs with
  | nil => simp [ByteArray.size] at h
  | cons x xs =>
    have e : (⟨⟨x :: xs⟩⟩ : ByteArray)[0] = x := rfl
    rw [e] at hb
    unfold cutL
    have e2 : ((⟨⟨x :: xs⟩⟩ : ByteArray).extract 1 (⟨⟨x :: xs⟩⟩ : ByteArray).size).data.toList = xs := by
      simp [ByteArray.size]
    rw [e2]
    simp [List.dropWhile, hb]

theorem cutL_stop (s : ByteArray) (h : 0 < s.size) (hb : blankB s[0] = false) : cutL s = s := by
  obtain ⟨⟨xs⟩⟩ := s
  cases xs with
  | nil => simp [ByteArray.size] at h
  | cons x xs =>
    have e : (⟨⟨x :: xs⟩⟩ : ByteArray)[0] = x := rfl
    rw [e] at hb
    unfold cutL
    simp [List.dropWhile, hb]

theorem blank_int (c : UInt8) : (((c.toNat : Int) == 32) || ((c.toNat : Int) == 9)) = blankB c := by
  unfold blankB
  have h : ∀ k : UInt8, ((c.toNat : Int) == (k.toNat : Int)) = (c == k) := by
    intro k
    by_cases e : c = k
    · subst e; simp
    · have : c.toNat ≠ k.toNat := fun h => e (UInt8.toNat_inj.1 h)
      have h1 : (c == k) = false := by simpa using e
      rw [h1]
      simp
      omega
  have h1 := h 32
  have h2 := h 9
  rw [← h1, ← h2]
  rfl

theorem pos_of_ne {s : ByteArray} (he : ¬ s.toList = []) : 0 < s.size := by
  rw [ByteArray.toList_eq] at he
  have := List.length_pos_iff.2 he
  show 0 < s.data.size
  rw [← Array.length_toList]
  exact this

theorem cutR_last (a : ByteArray) (h : a.size - 1 < a.size) : (blankB a[a.size - 1] = true → cutR a ≠ a) ∧ (blankB a[a.size - 1] = false → cutR a = a) := by
  obtain ⟨⟨xs⟩⟩ := a
  have hsz : (⟨⟨xs⟩⟩ : ByteArray).size = xs.length := rfl
  have hne : xs ≠ [] := by
    intro e
    subst e
    simp [ByteArray.size] at h
  obtain ⟨ys, x, rfl⟩ : ∃ ys x, xs = ys ++ [x] := ⟨xs.dropLast, xs.getLast hne, (List.dropLast_concat_getLast hne).symm⟩
  have e : (⟨⟨ys ++ [x]⟩⟩ : ByteArray)[(⟨⟨ys ++ [x]⟩⟩ : ByteArray).size - 1] = x := by
    show (ys ++ [x])[(⟨⟨ys ++ [x]⟩⟩ : ByteArray).size - 1]'_ = x
    have e1 : (⟨⟨ys ++ [x]⟩⟩ : ByteArray).size - 1 = ys.length := by rw [hsz]; simp
    simp [e1]
  rw [e]
  constructor
  · intro hb e2
    have e3 : (cutR ⟨⟨ys ++ [x]⟩⟩).data.toList.length = (ys ++ [x]).length := by rw [e2]
    unfold cutR at e3
    simp [List.dropWhile, hb] at e3
    have := (List.dropWhile_sublist (p := blankB) (l := ys.reverse)).length_le
    simp at this
    omega
  · intro hb
    unfold cutR
    simp [List.dropWhile, hb]

structure RefEnd (a s j : ByteArray) : Prop where
  qa : a.toList = [] → a ++ s = j
  qb : ∀ (h : a.size - 1 < a.size) (h0 : 0 < s.size), ((a.toList.isEmpty = true ∨ ((a[a.size - 1].toNat : Int) == 32) = true ∨ ((a[a.size - 1].toNat : Int) == 9) = true) ∨ ((s[0].toNat : Int) == 41) = true) → a ++ s = j
  qc : ∀ (h : a.size - 1 < a.size) (h0 : 0 < s.size), ((a.toList.isEmpty = false ∧ ((a[a.size - 1].toNat : Int) == 32) = false ∧ ((a[a.size - 1].toNat : Int) == 9) = false) ∧ ((s[0].toNat : Int) == 41) = false) → a ++ ⟨#[32]⟩ ++ s = j

theorem RefEnd.qd {a s j : ByteArray} (H : RefEnd a s j) (h : a.size - 1 < a.size) (h0 : 0 < s.size) (hh : ¬ (¬ (a[a.size - 1].toNat : Int) = 32 ∧ ¬ (a[a.size - 1].toNat : Int) = 9)) : a ++ s = j :=
  H.qb h h0 (.inl (.inr (by
    by_cases e : (a[a.size - 1].toNat : Int) = 32
    · exact .inl (by simpa using e)
    · right
      have : (a[a.size - 1].toNat : Int) = 9 := Classical.byContradiction fun e2 => hh ⟨e, e2⟩
      simpa using this)))

theorem ref_end {a b s j : ByteArray} (HJ : JoinIs a (cutL b) (cutR a) j b false) (hs : cutL s = cutL b) (h0 : 0 < s.size) (hn : blankB s[0] = false) : RefEnd a s j := by
  have hl : cutL b = s := by rw [← hs]; exact cutL_stop s h0 hn
  rw [hl] at HJ
  have hse : s.toList.isEmpty = false := by
    rw [emp_iff']
    intro e
    have : s.size = 0 := by show s.data.size = 0; rw [← Array.length_toList, e]; rfl
    omega
  have hor : ∀ (h : a.size - 1 < a.size), (((a[a.size - 1].toNat : Int) == 32) || ((a[a.size - 1].toNat : Int) == 9)) = blankB a[a.size - 1] := fun h => blank_int _
  refine ⟨?_, ?_, ?_⟩
  · intro e
    exact HJ.p2 rfl hse (by rw [e]; rfl)
  · intro h h0 hh
    rcases hh with (e | e) | e
    · exact HJ.p2 rfl hse e
    · refine HJ.p3 rfl hse ?_
      have hb : blankB a[a.size - 1] = true := by rw [← hor h]; simpa using e
      have := (cutR_last a h).1 hb
      simp only [Bool.not_eq_true', beq_eq_false_iff_ne, ne_eq]
      exact fun e2 => this (ba_toList_eq.1 e2)
    · exact HJ.p4 rfl hse h0 e
  · rintro h h0 ⟨⟨e1, e2, e3⟩, e4⟩
    refine HJ.p5 rfl hse e1 ?_ h0 e4
    have hb : blankB a[a.size - 1] = false := by rw [← hor h, e2, e3]; rfl
    rw [(cutR_last a h).2 hb]
    simp

end Go.Proofs.YtdhemdeapphfoaaGreatDoor

/- edit: Shift, back; the document's Shift, less: one function of the texts. -/
namespace Go.Proofs.YtdhemdeapphfoaaGreatDoor
open Go.RowKit Go.Proofs.YtdhemdeapphfoaaGreatDoorW.PrintWords

/-- how many blanks lead, eight at most -/
def lead (l : List UInt8) : Nat := min (l.takeWhile (· == 32)).length 8
/-- a line without a shift -/
def backB (s : ByteArray) : ByteArray := if s.data.toList.head? = some 9 then s.extract 1 s.size else s.extract (lead s.data.toList) s.size

theorem lead_le (l : List UInt8) : lead l ≤ l.length := by
  unfold lead
  have := (List.takeWhile_sublist (p := fun x : UInt8 => x == 32) (l := l)).length_le
  omega

theorem backB_size (s : ByteArray) : (backB s).size ≤ s.size := by
  unfold backB
  split <;> simp

theorem trim_lead (l : List UInt8) : l.length - (l.dropWhile (· == 32)).length = (l.takeWhile (· == 32)).length := by
  have h := List.takeWhile_append_dropWhile (p := fun x : UInt8 => x == 32) (l := l)
  have := congrArg List.length h
  rw [List.length_append] at this
  omega

theorem ext_list {a b : ByteArray} (h : a.data.toList = b.data.toList) : a = b := by
  cases a; cases b
  rename_i x y
  have : x = y := Array.toList_inj.1 h
  rw [this]

theorem extract_list (s : ByteArray) (k : Nat) : (s.extract k s.size).data.toList = s.data.toList.drop k := by
  rw [ByteArray.data_extract, Array.toList_extract]
  have : s.size = s.data.toList.length := Array.length_toList.symm
  rw [this]
  simp only [List.extract]
  exact List.take_of_length_le (by simp)

set_option maxRecDepth 100000 in
theorem back_any (s : ByteArray) (hs : s.size ≤ 1000000) (w : World) :
    Calls Tryz.prog 168 #[.string s] w fun e w' => e = .returned (.string (backB s)) ∧ w = w' := by
  have HC : Hid (∀ w, Calls Tryz.prog 54 #[.string s, .string ⟨#[9]⟩] w fun e w' => e = .returned (.tuple #[.string ⟨(Lib.trimPrefix s.data.toList [9]).toArray⟩, .bool (Lib.hasPrefix s.data.toList [9])]) ∧ w' = w) := fun w => Tryz.strings_CutPrefix s ⟨#[9]⟩ w
  have HT : Hid (∀ w, Calls Tryz.prog 73 #[.string s, .string ⟨#[32]⟩] w fun e w' => e = .returned (.string ⟨(Lib.trimLeftB s.data.toList 32).toArray⟩) ∧ w' = w) := fun w => Tryz.strings_TrimLeft_one s 32 (by decide) w
  by_cases h9 : s.data.toList.head? = some 9
  · obtain ⟨xs, hx⟩ : ∃ xs, s.data.toList = 9 :: xs := by
      cases e : s.data.toList with
      | nil => rw [e] at h9; cases h9
      | cons x xs => rw [e] at h9; simp at h9; subst h9; exact ⟨xs, rfl⟩
    have hp : Lib.hasPrefix s.data.toList [9] = true := by rw [hx]; rfl
    have ht : (⟨(Lib.trimPrefix s.data.toList [9]).toArray⟩ : ByteArray) = backB s := by
      unfold Lib.trimPrefix backB
      rw [if_pos hp, if_pos h9]
      exact ext_list (by rw [extract_list]; show s.data.toList.drop 1 = _; rfl)
    rw [hp, ht] at HC
    obtain ⟨r, hr⟩ : ∃ r, backB s = r := ⟨_, rfl⟩
    rw [hr] at HC ⊢
    clear hx hp ht hr h9 HT
    go_enter Tryz.func168, Tryz.ntmps168
    go_wp2_with (first
      | (go_at_call 54; (with_reducible refine (HC.out _).mono ?_); rintro e w1 ⟨rfl, rfl⟩)
      | go_in)
    go_ret
    exact ⟨rfl, rfl⟩
  · have hp : Lib.hasPrefix s.data.toList [9] = false := by
      cases e : s.data.toList with
      | nil => rfl
      | cons x xs =>
        rw [e] at h9
        simp at h9
        show (([9] : List UInt8).isPrefixOf (x :: xs)) = false
        simp [List.isPrefixOf]
        exact fun h => h9 h.symm
    have ht : (⟨(Lib.trimPrefix s.data.toList [9]).toArray⟩ : ByteArray) = s := by
      unfold Lib.trimPrefix
      rw [if_neg (by rw [hp]; simp)]
    rw [hp, ht] at HC
    obtain ⟨t, htr⟩ : ∃ t : ByteArray, ⟨(Lib.trimLeftB s.data.toList 32).toArray⟩ = t := ⟨_, rfl⟩
    rw [htr] at HT
    obtain ⟨m, hm⟩ : ∃ m : Nat, (s.data.toList.takeWhile (· == 32)).length = m := ⟨_, rfl⟩
    have hsz : s.data.toList.length = s.size := Array.length_toList
    have htz : t.size = (s.data.toList.dropWhile (· == 32)).length := by
      rw [← htr]
      show (Lib.trimLeftB s.data.toList 32).toArray.size = _
      simp [Lib.trimLeftB]
    have hsum := trim_lead s.data.toList
    have hle : (s.data.toList.dropWhile (· == 32)).length ≤ s.data.toList.length := (List.dropWhile_sublist _).length_le
    have hd : (s.size : Int) - (t.size : Int) = (m : Int) := by omega
    have hb : backB s = s.extract (min m 8) s.size := by
      unfold backB lead
      rw [if_neg h9, hm]
    have hmle : m ≤ s.size := by omega
    rw [hb]
    clear hp ht htr hm hsz htz hsum hle hb h9
    go_enter Tryz.func168, Tryz.ntmps168
    have hmin : (min (m : Int) 8).toNat = min m 8 := by omega
    have HM := Lib.hid hmin
    clear hmin
    go_wp2_with (first
      | (go_at_call 54; (with_reducible refine (HC.out _).mono ?_); rintro e w1 ⟨rfl, rfl⟩)
      | (go_at_call 73; (with_reducible refine (HT.out _).mono ?_); rintro e w1 ⟨rfl, rfl⟩)
      | go_in)
    go_ret
    refine ⟨?_, rfl⟩
    show Ending.returned (Value.string (s.extract (min (m : Int) 8).toNat s.size)) = _
    rw [HM.out]

end Go.Proofs.YtdhemdeapphfoaaGreatDoor

/- the document's less, walked. -/
namespace Go.Proofs.YtdhemdeapphfoaaGreatDoor
open Go.RowKit Go.Proofs.YtdhemdeapphfoaaGreatDoorW.PrintWords

theorem tw_in {p : UInt8 → Bool} : ∀ {l : List UInt8} {n : Nat}, n < (l.takeWhile p).length → ∃ x, l[n]? = some x ∧ p x = true := by
  intro l
  induction l with
  | nil => intro n h; simp at h
  | cons x xs ih =>
    intro n h
    by_cases hx : p x = true
    · rw [List.takeWhile_cons_of_pos hx] at h
      cases n with
      | zero => exact ⟨x, rfl, hx⟩
      | succ n => simpa using ih (by simpa using h)
    · rw [List.takeWhile_cons_of_neg hx] at h
      simp at h

theorem tw_out {p : UInt8 → Bool} : ∀ {l : List UInt8} {x : UInt8}, l[(l.takeWhile p).length]? = some x → p x = false := by
  intro l
  induction l with
  | nil => intro x h; simp at h
  | cons y ys ih =>
    intro x h
    by_cases hy : p y = true
    · rw [List.takeWhile_cons_of_pos hy] at h
      exact ih (by simpa using h)
    · rw [List.takeWhile_cons_of_neg hy] at h
      simp at h
      rw [← h]
      simpa using hy

theorem byte_at (s : ByteArray) (n : Nat) (h : n < s.size) : s.data.toList[n]? = some s[n] := by
  have : s.data.toList.length = s.size := Array.length_toList
  rw [List.getElem?_eq_getElem (by omega)]
  rfl

theorem byte_32 (x : UInt8) : ((x.toNat : Int) == 32) = (x == 32) := by
  by_cases e : x = 32
  · subst e; rfl
  · have : x.toNat ≠ 32 := fun h => e (UInt8.toNat_inj.1 h)
    have h1 : (x == 32) = false := by simpa using e
    rw [h1]
    simp
    omega

theorem byte_9 (x : UInt8) : ((x.toNat : Int) == 9) = (x == 9) := by
  by_cases e : x = 9
  · subst e; rfl
  · have : x.toNat ≠ 9 := fun h => e (UInt8.toNat_inj.1 h)
    have h1 : (x == 9) = false := by simpa using e
    rw [h1]
    simp
    omega

theorem lead_in {s : ByteArray} {n : Nat} (h : n < lead s.data.toList) : n < 8 ∧ ∃ hn : n < s.size, ((s[n].toNat : Int) == 32) = true := by
  have h1 : n < (s.data.toList.takeWhile (· == 32)).length := by unfold lead at h; omega
  refine ⟨by unfold lead at h; omega, ?_⟩
  have hl := lead_le s.data.toList
  have : s.data.toList.length = s.size := Array.length_toList
  have hn : n < s.size := by omega
  obtain ⟨x, hx, hp⟩ := tw_in h1
  rw [byte_at s n hn] at hx
  refine ⟨hn, ?_⟩
  rw [byte_32, Option.some.inj hx]
  exact hp

theorem lead_out {s : ByteArray} (h8 : lead s.data.toList < 8) (hn : lead s.data.toList < s.size) : ((s[lead s.data.toList].toNat : Int) == 32) = false := by
  have h1 : lead s.data.toList = (s.data.toList.takeWhile (· == 32)).length := by unfold lead at h8 ⊢; omega
  have hb := byte_at s _ hn
  have hx : s.data.toList[(s.data.toList.takeWhile (· == 32)).length]? = some s[lead s.data.toList] := by rw [← h1]; exact hb
  rw [byte_32]
  exact tw_out (p := fun x => x == 32) hx

/-- has it a shift? -/
def lessF (s : ByteArray) : Bool := s.data.toList.head? == some 9 || decide (0 < lead s.data.toList)

theorem back_same (s : ByteArray) (h : lessF s = false) : backB s = s := by
  unfold lessF at h
  simp at h
  unfold backB
  rw [if_neg h.1, h.2]
  exact ext_list (by rw [extract_list]; rfl)

end Go.Proofs.YtdhemdeapphfoaaGreatDoor

/- edit.Shift and the document's Shift, walked: one function of the text. -/
namespace Go.Proofs.YtdhemdeapphfoaaGreatDoor
open Go.RowKit Go.Proofs.YtdhemdeapphfoaaGreatDoorW.PrintWords

def iterB : Nat → ByteArray → ByteArray
  | 0, s => s
  | t + 1, s => iterB t (backB s)

def tabs (t : Nat) (s : ByteArray) : ByteArray := ⟨(List.replicate t 9).toArray⟩ ++ s

def shiftT (times : Int) : Nat := (min (max times 0) 200).toNat
def shiftP (s : ByteArray) (times : Int) (left : Bool) : ByteArray := if s.toList.isEmpty = true then s else if left then iterB (shiftT times) s else tabs (shiftT times) s

theorem iterB_fix {s : ByteArray} (h : backB s = s) : ∀ t, iterB t s = s
  | 0 => rfl
  | t + 1 => by unfold iterB; rw [h]; exact iterB_fix h t

theorem iterB_size : ∀ t (s : ByteArray), (iterB t s).size ≤ s.size
  | 0, s => Nat.le_refl _
  | t + 1, s => by unfold iterB; exact Nat.le_trans (iterB_size t _) (backB_size s)

theorem backB_empty {s : ByteArray} (h : s.toList.isEmpty = true) : backB s = s := by
  rw [emp_iff] at h
  refine ext_list ?_
  have h0 : s.size = 0 := by show s.data.size = 0; rw [← Array.length_toList, h]; rfl
  have := backB_size s
  have h1 : (backB s).data.toList.length = 0 := by
    rw [Array.length_toList]
    show (backB s).size = 0
    omega
  rw [h, List.eq_nil_of_length_eq_zero h1]

theorem tabs_zero (s : ByteArray) : tabs 0 s = s := by
  unfold tabs
  exact ext_list (by simp)

theorem tabs_succ (t : Nat) (s : ByteArray) : (⟨#[9]⟩ : ByteArray) ++ tabs t s = tabs (t + 1) s := by
  unfold tabs
  exact ext_list (by simp [List.replicate_succ])

theorem repeat9 (t : Nat) : (⟨(Lib.repeatL (⟨#[9]⟩ : ByteArray).data.toList t).toArray⟩ : ByteArray) = ⟨(List.replicate t 9).toArray⟩ := by
  have : Lib.repeatL ([9] : List UInt8) t = List.replicate t 9 := by
    induction t with
    | zero => rfl
    | succ t ih => rw [Lib.repeatL, ih, List.replicate_succ]; rfl
  show (⟨(Lib.repeatL ([9] : List UInt8) t).toArray⟩ : ByteArray) = _
  rw [this]

end Go.Proofs.YtdhemdeapphfoaaGreatDoor

/- The document's Shift, walked. -/
namespace Go.Proofs.YtdhemdeapphfoaaGreatDoor
open Go.RowKit Go.Proofs.YtdhemdeapphfoaaGreatDoorW.PrintWords

theorem tabs_size (t : Nat) (s : ByteArray) : (tabs t s).size = t + s.size := by
  unfold tabs
  rw [ByteArray.size_append]
  show (List.replicate t (9 : UInt8)).toArray.size + s.size = t + s.size
  simp

theorem tabs_ne {t : Nat} {s : ByteArray} (h : s.toList.isEmpty = false) : (tabs t s).toList.isEmpty = false ∧ ¬ (tabs t s).toList = [] := by
  have hs : 0 < s.size := by
    refine pos_of_ne ?_
    intro e
    rw [e] at h
    cases h
  have h1 : ¬ (tabs t s).data.toList = [] := by
    intro e
    have h0 : (tabs t s).size = 0 := by show (tabs t s).data.size = 0; rw [← Array.length_toList, e]; rfl
    rw [tabs_size] at h0
    omega
  exact ⟨by rw [emp_iff']; exact h1, by rw [ByteArray.toList_eq]; exact h1⟩

end Go.Proofs.YtdhemdeapphfoaaGreatDoor

/- The laws EditJoins and EditShifts, walked. -/
namespace Go.Proofs.YtdhemdeapphfoaaGreatDoor
open Go.RowKit Go.Proofs.YtdhemdeapphfoaaGreatDoorW.PrintWords

theorem kn1 : joinP ⟨#[97]⟩ ⟨#[32, 32, 98]⟩ false = ⟨#[97, 32, 98]⟩ := by decide +kernel
theorem kn2 : joinP ⟨#[97]⟩ ⟨#[32, 32, 98]⟩ true = ⟨#[97, 32, 32, 98]⟩ := by decide +kernel
theorem kn3 : shiftP ⟨#[120]⟩ 2 false = ⟨#[9, 9, 120]⟩ := by decide +kernel
theorem kn4 : shiftP ⟨#[9, 9, 120]⟩ 9 true = ⟨#[120]⟩ := by decide +kernel

end Go.Proofs.YtdhemdeapphfoaaGreatDoor
