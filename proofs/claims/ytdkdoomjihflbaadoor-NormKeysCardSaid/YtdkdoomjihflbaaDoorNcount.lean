/- (*reader).count, walked, in the printer's form. -/
import Derived.Test.YtdkdoomjihflbaaDoorNgiven
import Derived.LoopTactic
import Derived.Laws.RangeString
import Derived.StillTailTactics
import Derived.Deep.RegionLaw
namespace Go.Proofs.YtdkdoomjihflbaaDoor.NT
open Go.RowKit Go.Proofs.YtdkdoomjihflbaaDoorW.PrintWords Go.Proofs.YtdkdoomjihflbaaDoorW.PrintLast Go.Proofs.YtdkdoomjihflbaaDoorW.PrintMore

theorem digit_cases {c : UInt8} (h : isD c = true) : c = 48 ∨ c = 49 ∨ c = 50 ∨ c = 51 ∨ c = 52 ∨ c = 53 ∨ c = 54 ∨ c = 55 ∨ c = 56 ∨ c = 57 := by
  simp [isD] at h
  have : c.toNat = 48 ∨ c.toNat = 49 ∨ c.toNat = 50 ∨ c.toNat = 51 ∨ c.toNat = 52 ∨ c.toNat = 53 ∨ c.toNat = 54 ∨ c.toNat = 55 ∨ c.toNat = 56 ∨ c.toNat = 57 := by omega
  rcases this with h | h | h | h | h | h | h | h | h | h
  all_goals simp [← UInt8.toNat_inj, h]

theorem digit_set : (fun x => (⟨#[48, 49, 50, 51, 52, 53, 54, 55, 56, 57]⟩ : ByteArray).data.toList.contains x) = isD := by
  funext c
  show ([48, 49, 50, 51, 52, 53, 54, 55, 56, 57] : List UInt8).contains c = isD c
  rw [Bool.eq_iff_iff]
  constructor
  · intro h
    simp at h
    rcases h with rfl | rfl | rfl | rfl | rfl | rfl | rfl | rfl | rfl | rfl <;> decide
  · intro h
    rcases digit_cases h with rfl | rfl | rfl | rfl | rfl | rfl | rfl | rfl | rfl | rfl <;> decide

theorem trimL_digits (s : ByteArray) (w : World) : Calls Tryd.prog 18 #[.string s, .string ⟨#[48, 49, 50, 51, 52, 53, 54, 55, 56, 57]⟩] w fun e w' => e = .returned (.string (ofL (s.data.toList.dropWhile isD))) ∧ Below w.heap.size w w' := by
  have h := Any.strings_TrimLeft_laid Tryd.lays161 lays161b s ⟨#[48, 49, 50, 51, 52, 53, 54, 55, 56, 57]⟩ w (by decide) (ascii_of_all (by decide))
  refine h.mono ?_
  rintro e w' ⟨rfl, hb⟩
  refine ⟨?_, hb⟩
  unfold Lib.trimLeftS
  rw [digit_set]
  rfl

/-- what count answers, and what it leaves -/
def countR (s : ByteArray) : Int × Bool × ByteArray :=
  (if 4 < (digs s.data.toList).length then 0 else numD 0 (digs s.data.toList), decide ((digs s.data.toList).length ≤ 4), s.extract (digs s.data.toList).length s.size)
def norm_reader_count.f (s : ByteArray) : Option (Int × Bool × ByteArray) := if s.size ≤ 1000000 then some (countR s) else none

theorem digits_read {ds : List UInt8} {r : ByteArray} (hr : r.data.toList = ds) (ha : ∀ c ∈ ds, isD c = true) (h4 : ds.length ≤ 4) (pos : Nat) (hp : pos < r.size) :
    (0 ≤ numD 0 (ds.take pos) ∧ numD 0 (ds.take pos) ≤ 99999) ∧ (48 ≤ (r[pos].toNat : Int) ∧ (r[pos].toNat : Int) ≤ 57) ∧ 10 * numD 0 (ds.take pos) + ((r[pos].toNat : Int) - 48) = numD 0 (ds.take (pos + 1)) := by
  have hb := byte_at r pos hp
  rw [hr] at hb
  have hl : r.data.toList.length = r.size := Array.length_toList
  rw [hr] at hl
  have h1 := numD_bound (ds.take pos) 0 (fun c hc => ha c (List.mem_of_mem_take hc)) (by omega)
  have hd := ha _ (List.mem_of_getElem? hb)
  simp [isD] at hd
  refine ⟨⟨h1.1, ?_⟩, by omega, ?_⟩
  · have h2 : (10 : Int) ^ (ds.take pos).length ≤ 10 ^ 4 := by
      have : (ds.take pos).length ≤ 4 := by rw [List.length_take]; omega
      have h3 : (10 : Nat) ^ (ds.take pos).length ≤ 10 ^ 4 := Nat.pow_le_pow_right (by omega) this
      exact_mod_cast h3
    omega
  · rw [List.take_add_one, hb]
    simp [numD]

theorem count_big (s : ByteArray) (h : s.data.toList.head? = some 48) : Lib.hasPrefix s.data.toList [48] = true := by
  cases e : s.data.toList with
  | nil => rw [e] at h; cases h
  | cons x xs => rw [e] at h; simp at h; subst h; rfl
theorem count_not (s : ByteArray) (h : ¬ s.data.toList.head? = some 48) : Lib.hasPrefix s.data.toList [48] = false := by
  cases e : s.data.toList with
  | nil => rfl
  | cons x xs =>
    rw [e] at h
    simp at h
    show (([48] : List UInt8).isPrefixOf (x :: xs)) = false
    simp [List.isPrefixOf]
    exact fun h1 => h h1.symm

set_option maxRecDepth 100000 in
set_option maxHeartbeats 4000000 in
theorem norm_reader_count.calls (g : Nat) (s : ByteArray) (r1 : Int) (r2 : Bool) (r3 : ByteArray) (w0 w : World) (hI : IsS41 w0 w g s) (hB : Below w0.heap.size w0 w) (h : norm_reader_count.f s = some (r1, r2, r3)) :
    Calls Tryd.prog 24 #[.pointer (some ⟨g, 0, none⟩)] w fun e w' => e = .returned (.tuple #[.int .i64 r1, .bool r2]) ∧ IsS41 w0 w' g r3 ∧ Below w0.heap.size w0 w' ∧ KeepBut w w' g none := by
  unfold norm_reader_count.f at h
  split at h
  rotate_left
  · cases h
  rename_i hs
  injection h with h
  unfold countR at h
  have HI := Lib.hid hI
  have hc0 := cellS41_0 hI.1
  have hfz := blk_frozen hI.1 0
  by_cases h48 : s.data.toList.head? = some 48
  · have hP : Hid (∀ w, Calls Tryd.prog 38 #[.string s, .string ⟨#[48]⟩] w fun e w' => e = .returned (.bool true) ∧ w = w') := by
      intro w
      rw [← count_big s h48]
      exact (Tryd.strings_HasPrefix s ⟨#[48]⟩ w).mono (fun _ _ h => ⟨h.1, h.2.symm⟩)
    have hd0 : digs s.data.toList = [] := by unfold digs; rw [if_pos h48]
    rw [hd0] at h
    have e3 : s.extract 0 s.size = s := ext_list (by rw [extract_list]; rfl)
    injection h with h1 h
    injection h with h2 h3
    rw [← h1, ← h2, ← h3, show ([] : List UInt8).length = 0 from rfl, e3]
    clear h1 h2 h3 hd0 h48 e3
    go_enter Tryd.func24, Tryd.ntmps24
    go_wp2_with (first
      | (go_at_call 38; (with_reducible refine (hP.out _).mono ?_); rintro e w1 ⟨rfl, rfl⟩)
      | go_in)
    go_ret2
    exact ⟨rfl, HI.out, hB, KeepBut.refl _ _ _⟩
  · have hP : Hid (∀ w, Calls Tryd.prog 38 #[.string s, .string ⟨#[48]⟩] w fun e w' => e = .returned (.bool false) ∧ w = w') := by
      intro w
      rw [← count_not s h48]
      exact (Tryd.strings_HasPrefix s ⟨#[48]⟩ w).mono (fun _ _ h => ⟨h.1, h.2.symm⟩)
    obtain ⟨t, ht⟩ : ∃ t, ofL (s.data.toList.dropWhile isD) = t := ⟨_, rfl⟩
    have HT : Hid (∀ w, Calls Tryd.prog 18 #[.string s, .string ⟨#[48, 49, 50, 51, 52, 53, 54, 55, 56, 57]⟩] w fun e w' => e = .returned (.string t) ∧ Below w.heap.size w w') := by
      rw [← ht]
      exact fun w => trimL_digits s w
    have hdg : digs s.data.toList = s.data.toList.takeWhile isD := by unfold digs; rw [if_neg h48]
    have hda := digs_all s.data.toList
    rw [hdg] at h hda
    obtain ⟨ds, hds⟩ : ∃ ds, s.data.toList.takeWhile isD = ds := ⟨_, rfl⟩
    have htk := take_len isD s.data.toList
    have hsum := congrArg List.length (List.takeWhile_append_dropWhile (p := isD) (l := s.data.toList))
    rw [List.length_append] at hsum
    have hsz : s.data.toList.length = s.size := Array.length_toList
    have htz : t.size = (s.data.toList.dropWhile isD).length := by rw [← ht]; rfl
    rw [hds] at h hda htk hsum
    obtain ⟨m, hm⟩ : ∃ m, ds.length = m := ⟨_, rfl⟩
    rw [hm] at h htk hsum
    have hmi : (s.size : Int) - (t.size : Int) = (m : Int) := by omega
    have hms : m ≤ s.size := by omega
    have hwm : IntKind.i64.wrap (m : Int) = m := by
      rw [IntKind.wrap_i64]
      omega
    have HWM := Lib.hid hwm
    clear hwm
    have hr : (s.extract 0 m).data.toList = ds := by rw [extract_take, htk]
    have hrs : (s.extract 0 m).size = m := by
      show (s.extract 0 m).data.size = m
      rw [← Array.length_toList, hr, hm]
    injection h with h1 h
    injection h with h2 h3
    obtain ⟨r, hre⟩ : ∃ r, s.extract 0 m = r := ⟨_, rfl⟩
    obtain ⟨z, hze⟩ : ∃ z, s.extract m s.size = z := ⟨_, rfl⟩
    have HC : Hid (∀ w1, IsS41 w0 w1 g s → Below w0.heap.size w0 w1 → Calls Tryd.prog 25 #[.pointer (some ⟨g, 0, none⟩), .int .i64 (m : Int)] w1 fun e w' => e = .returned (.string r) ∧ IsS41 w0 w' g z ∧ Below w0.heap.size w0 w' ∧ KeepBut w1 w' g none) := by
      intro w1 hi hb
      refine norm_reader_cut.calls g s m r z w0 w1 hi hb ?_
      unfold norm_reader_cut.f
      rw [if_pos (by omega), if_pos (by omega)]
      simp [hre, hze]
    rw [hre] at hr hrs
    rw [hze] at h3
    rw [← h1, ← h2, ← h3]
    clear h1 h2 h3 hre hze htz hsz hsum htk hds hdg ht
    by_cases h4 : 4 < m
    · rw [if_pos h4]
      have h4' : (4 : Int) < (m : Int) := by omega
      have hd4 : decide (m ≤ 4) = false := by simp; omega
      rw [hd4]
      clear hda hr hm
      go_enter Tryd.func24, Tryd.ntmps24
      go_wp2_with (first
        | (go_at_call 38; (with_reducible refine (hP.out _).mono ?_); rintro e w1 ⟨rfl, rfl⟩)
        | go_in)
      go_region_law (first
        | (go_simp; go_at_call 18; (with_reducible refine (HT.out _).mono ?_); rintro e w1 ⟨rfl, hb1⟩; have HB1 := Lib.hid hb1; have HJ1 := Lib.hid ((IsS41.drew HI.out).below HB1.out); have HL1 := Lib.hid (below_then (below_drew hB) hB.size HB1.out); have hcc := cellS41_0 HJ1.out.1; clear hb1)
        | (go_simp; go_at_call 25; rw [HWM.out]; with_reducible refine (HC.out _ HJ1.out HL1.out).mono ?_; rintro e w2 ⟨rfl, hi2, hb2, hk2⟩; have HI2 := Lib.hid hi2; have HB2 := Lib.hid hb2; have HK2 := Lib.hid hk2; clear hi2 hb2 hk2))
      all_goals
        go_wp2
        go_ret2
        exact ⟨rfl, HI2.out, HB2.out, KeepBut.trans (show KeepBut w _ g none from KeepBut.of_below HB1.out g none) HK2.out (.inl rfl)⟩
    · rw [if_neg h4]
      have h4' : ¬ (4 : Int) < (m : Int) := by omega
      have hd4 : decide (m ≤ 4) = true := by simp; omega
      rw [hd4]
      have HD : Hid (∀ pos (hp : pos < r.size), (0 ≤ numD 0 (ds.take pos) ∧ numD 0 (ds.take pos) ≤ 99999) ∧ (48 ≤ (r[pos].toNat : Int) ∧ (r[pos].toNat : Int) ≤ 57) ∧ 10 * numD 0 (ds.take pos) + ((r[pos].toNat : Int) - 48) = numD 0 (ds.take (pos + 1))) := fun pos hp => digits_read hr hda (by omega) pos hp
      have HE : Hid (numD 0 (ds.take m) = numD 0 ds) := by
        rw [← hm, List.take_length]
        trivial
      clear hda hr hm
      go_enter Tryd.func24, Tryd.ntmps24
      go_wp2_with (first
        | (go_at_call 38; (with_reducible refine (hP.out _).mono ?_); rintro e w1 ⟨rfl, rfl⟩)
        | go_in)
      go_region_law (first
        | (go_simp; go_at_call 18; (with_reducible refine (HT.out _).mono ?_); rintro e w1 ⟨rfl, hb1⟩; have HB1 := Lib.hid hb1; have HJ1 := Lib.hid ((IsS41.drew HI.out).below HB1.out); have HL1 := Lib.hid (below_then (below_drew hB) hB.size HB1.out); have hcc := cellS41_0 HJ1.out.1; clear hb1)
        | (go_simp; go_at_call 25; rw [HWM.out]; with_reducible refine (HC.out _ HJ1.out HL1.out).mono ?_; rintro e w2 ⟨rfl, hi2, hb2, hk2⟩; have HI2 := Lib.hid hi2; have HB2 := Lib.hid hb2; have HK2 := Lib.hid hk2; clear hi2 hb2 hk2))
      all_goals
        have HKK := Lib.hid (KeepBut.trans (show KeepBut w _ g none from KeepBut.of_below HB1.out g none) HK2.out (.inl rfl))
        clear hcc HJ1 HL1 HB1 HK2
        as_aux_lemma =>
        go_wp2
        go_loopw [5] (fun v5 wr => ∃ pos : Nat, wr = w2.iter r pos ∧ pos ≤ m ∧ v5 = .int .i64 (numD 0 (ds.take pos))) (fun _ wr => m - wr.iterPos w2.heap.size)
        case atStart => exact ⟨0, rfl, by omega, rfl⟩
        case round =>
          obtain ⟨pos, rfl, hpm, rfl⟩ := hrel
          obtain ⟨n, hn⟩ : ∃ n, numD 0 (ds.take pos) = n := ⟨_, rfl⟩
          by_cases hp : pos < r.size
          · obtain ⟨⟨hn0, hn1⟩, ⟨hc0, hc1⟩, hnx⟩ := HD.out pos hp
            rw [hn] at hn0 hn1 hnx ⊢
            have hnx2 : ∀ ty, (Instr.next (.pointer (some ⟨w2.heap.size, 0, none⟩)) true ty).run Tryd.prog (w2.iter r pos) = _ := fun ty => run_next_ascii w2 r pos ty hp (by omega)
            obtain ⟨c, hc⟩ : ∃ c, (r[pos].toNat : Int) = c := ⟨_, rfl⟩
            have HX := Lib.hid hnx
            clear hnx
            rw [hc] at HX hc0 hc1
            simp only [hc] at hnx2
            clear hn hc
            go_wp2
            go_roundw
            case rel => exact ⟨pos + 1, rfl, by omega, congrArg (Value.int .i64) (by rw [← HX.out])⟩
            case measure => simp; omega
          · have hnx2 : ∀ ty, (Instr.next (.pointer (some ⟨w2.heap.size, 0, none⟩)) true ty).run Tryd.prog (w2.iter r pos) = _ := fun ty => run_next_end w2 r pos ty hp
            obtain rfl : pos = m := by omega
            have hbi : Below w2.heap.size w2 (w2.iter r pos) := (Below.refl _ _).alloc (Nat.le_refl _) _
            rw [HE.out] at hn ⊢
            go_wp2
            go_ret2
            exact ⟨rfl, HI2.out.below hbi, below_then HB2.out HB2.out.size hbi, KeepBut.trans HKK.out (KeepBut.of_below hbi g none) (.inl rfl)⟩

end Go.Proofs.YtdkdoomjihflbaaDoor.NT
