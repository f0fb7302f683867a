/- The law TmplParts, walked. -/
import Derived.Test.YtccalibapiiifaaTPrt
import Derived.Test.YtccalibapiiifaaTResW
import Derived.Test.YtccalibapiiifaaT1
import Derived.IntWalk
namespace Go.Proofs.Ytccalibapiiifaa.T
open Go.RowKit Go.Proofs.YtccalibapiiifaaW.PrintWords Go.Proofs.YtccalibapiiifaaW.PrintLast Go.Proofs.YtccalibapiiifaaW.PrintMore

def OpnRel (s : ByteArray) (b i : Value) : Prop := ∃ k : Nat, k ≤ s.size ∧ i = .int .i64 k ∧ b = .bool (opn false (s.data.toList.take k))

theorem conv_one (W : World) (x : Int) : (convert 40 9 (.slice (some ⟨W.heap.size, 0, none⟩) 1 1)).run Try.prog (W.alloc (.cells #[.int .u8 x] 5)) = .ok (.string (strOfNums [x])) (W.alloc (.cells #[.int .u8 x] 5)) := by
  refine Kd.C_string Try.underlying40 Try.underlying5 Try.underlying9 ?_
  refine ⟨rfl, by decide, fun _ => ⟨_, rfl, ?_⟩⟩
  intro j p hj
  match j, hj with
  | 0, hj =>
    simp at hj
    subst hj
    refine ⟨[.int .u8 x], rfl, rfl, ?_⟩
    intro i u hu
    rw [add_plain, blk_cell (heap_alloc_new W _)]
    simpa using hu

theorem parts_is {s t : ByteArray} {La Lb : List S42} {m : Int} (h0 : 0 ≤ m) (h9 : m ≤ 9) (hs : s.size ≤ 300) (ht : t.size ≤ 300) (ho : opn false s.data.toList = false) (ha : prs s.data.toList [] = La) (hb : prs t.data.toList [] = Lb) :
    tmpl_Parse.f (s ++ ⟨#[92]⟩ ++ strOfNums [48 + m] ++ t) = some (La ++ [⟨2, emp, m, 0⟩] ++ Lb) := by
  unfold tmpl_Parse.f
  have h5c : (⟨#[92]⟩ : ByteArray).size = 1 := rfl
  rw [if_pos (by simp only [ByteArray.size_append, strOfNums_size, h5c]; simp; omega)]
  have hd : (UInt8.ofNat (48 + m).toNat).toNat = (48 + m).toNat := by
    rw [UInt8.toNat_ofNat']
    omega
  have hp : escP ((UInt8.ofNat (48 + m).toNat).toNat : Int) = some ⟨2, emp, m, 0⟩ := by
    rw [hd]
    unfold escP
    rw [if_pos (by omega)]
    congr 2
    omega
  have := prs_parts _ _ hp t.data.toList s.data.toList [] ho
  have e : (s ++ ⟨#[92]⟩ ++ strOfNums [48 + m] ++ t).data.toList = s.data.toList ++ 92 :: UInt8.ofNat (48 + m).toNat :: t.data.toList := by
    simp only [ba_append, strOfNums_data]
    simp
  rw [e, this, ha, hb]

theorem rd_parts {La Lb : List S42} {p : S42} {x : Int} (h0 : 0 ≤ x) (hx : x < (La ++ [p] ++ Lb).length) :
    rd_T42 (La ++ [p] ++ Lb) x = if x < La.length then rd_T42 La x else if x = La.length then p else rd_T42 Lb (x - La.length - 1) := by
  obtain ⟨i, rfl⟩ : ∃ i : Nat, x = i := ⟨x.toNat, by omega⟩
  by_cases h1 : i < La.length
  · rw [if_pos (by omega)]
    simp [rd_T42, List.getElem?_append, h1]
  · rw [if_neg (by omega)]
    by_cases h2 : i = La.length
    · subst h2
      rw [if_pos rfl]
      simp [rd_T42]
    · rw [if_neg (by omega)]
      have e : ((i : Int) - La.length - 1).toNat = i - La.length - 1 := by omega
      simp only [rd_T42, e, Int.toNat_natCast, List.getD_eq_getElem?_getD]
      rw [List.getElem?_append_right (by simp; omega)]
      simp only [List.length_append, List.length_singleton, Nat.sub_sub]

def PrtRel (B : Nat) (Aa Ab Ac : Option Addr) (La Lb Lc : List S42) (w : World) (i : Value) (wr : World) : Prop :=
  ∃ x : Int, 0 ≤ x ∧ x ≤ Lc.length ∧ i = .int .i64 x ∧ Below B w wr ∧ B ≤ wr.heap.size ∧ Kd.C k42 wr Aa La.length La ∧ Kd.C k42 wr Ab Lb.length Lb ∧ Kd.C k42 wr Ac Lc.length Lc

set_option maxRecDepth 100000 in
set_option maxHeartbeats 1000000 in
theorem parts_walk (s : ByteArray) (_hs0 : s.size ≤ 140737488351232) (t : ByteArray) (_ht0 : t.size ≤ 140737488351232) (n : Int) (hn : (Lit.int .u8 n).wf = true) (w : World) :
    Calls Try.prog 5 #[.string s, .string t, .int .u8 n] w fun e w' => e = .returned (.bool true) ∧ Below w.heap.size w w' := by
  by_cases h1 : 300 < s.size
  · have h1' : (300 : Int) < (s.size : Int) := by omega
    go_enter Try.func5, Try.ntmps5
    go_wp2_with (first
      | (go_at_call 20; (with_reducible refine (known_is _).mono ?_); rintro e w1 ⟨rfl, hb⟩)
      | go_in)
    go_ret
    exact ⟨rfl, hb⟩
  by_cases h2 : 300 < t.size
  · have h1' : ¬ (300 : Int) < (s.size : Int) := by omega
    have h2' : (300 : Int) < (t.size : Int) := by omega
    go_enter Try.func5, Try.ntmps5
    go_wp2_with (first
      | (go_at_call 20; (with_reducible refine (known_is _).mono ?_); rintro e w1 ⟨rfl, hb⟩)
      | go_in)
    go_ret
    exact ⟨rfl, hb⟩
  have h1' : ¬ (300 : Int) < (s.size : Int) := by omega
  have h2' : ¬ (300 : Int) < (t.size : Int) := by omega
  have hconv := conv_one
  have hn2 : 0 ≤ n ∧ n ≤ 255 := ⟨(by simpa [Lit.wf, IntKind.min, IntKind.max, IntKind.signed, IntKind.bits] using hn : 0 ≤ n ∧ n ≤ 255).1, (by simpa [Lit.wf, IntKind.min, IntKind.max, IntKind.signed, IntKind.bits] using hn : 0 ≤ n ∧ n ≤ 255).2⟩
  obtain ⟨hn0, hn1⟩ := hn2
  go_enter Try.func5, Try.ntmps5
  go_wp2_with (first
    | (go_at_call 20; (with_reducible refine (known_is _).mono ?_); rintro e w1 ⟨rfl, hb1⟩; have HB1 := Lib.hid hb1; clear hb1)
    | go_in)
  go_loop [7, 8] (fun b i => OpnRel s b i) (fun _ i => s.size - (intOf i).toNat)
  case atStart => exact ⟨0, Nat.zero_le _, rfl, by simp [opn]⟩
  case round =>
    obtain ⟨k, hk, rfl, rfl⟩ := hrel
    obtain ⟨b, hb⟩ : ∃ b, opn false (s.data.toList.take k) = b := ⟨_, rfl⟩
    have HB := Lib.hid hb
    rw [hb]
    clear hb
    by_cases hlt : k < s.size
    · have hnx : Hid (opn false (s.data.toList.take (k + 1)) = (s[k] == 92 && !b)) := by
        show _ = _
        rw [take_at s k hlt, opn_snoc, HB.out]
      by_cases h92 : s[k].toNat = 92
      · have d1 : ((s[k].toNat : Int) == 92) = true := by simp [h92]
        have e1 : Hid (s[k] = 92) := UInt8.toNat_inj.1 h92
        clear h92
        cases b
        all_goals
          go_wp2
          go_round
          case rel => exact ⟨k + 1, by omega, by go_num, by rw [hnx.out, e1.out]; rfl⟩
          case measure => simp [intOf]; omega
      · have d1 : ((s[k].toNat : Int) == 92) = false := by simp; omega
        have e1 : Hid ((s[k] == 92) = false) := by
          have : s[k] ≠ 92 := fun e => h92 (by rw [e]; rfl)
          show _ = _
          simpa using this
        clear h92
        go_wp2
        go_round
        case rel => exact ⟨k + 1, by omega, by go_num, by rw [hnx.out, e1.out]; rfl⟩
        case measure => simp [intOf]; omega
    · have hks : Hid (opn false s.data.toList = b) := by
        show _ = _
        rw [← HB.out, List.take_of_length_le (by simp; omega)]
      cases b
      · obtain ⟨La, hLa⟩ : ∃ L, prs s.data.toList [] = L := ⟨_, rfl⟩
        obtain ⟨Lb, hLb⟩ : ∃ L, prs t.data.toList [] = L := ⟨_, rfl⟩
        have hm0 : 0 ≤ n % 10 ∧ n % 10 ≤ 9 := by omega
        have HPa : Hid (tmpl_Parse.f s = some La) := by show tmpl_Parse.f s = some La; unfold tmpl_Parse.f; rw [if_pos (by omega), hLa]
        have HPb : Hid (tmpl_Parse.f t = some Lb) := by show tmpl_Parse.f t = some Lb; unfold tmpl_Parse.f; rw [if_pos (by omega), hLb]
        have HPc : Hid (tmpl_Parse.f (s ++ ⟨#[92]⟩ ++ strOfNums [48 + n % 10] ++ t) = some (La ++ [⟨2, emp, n % 10, 0⟩] ++ Lb)) := parts_is hm0.1 hm0.2 (by omega) (by omega) hks.out hLa hLb
        obtain ⟨Lc, hLc⟩ : ∃ L, La ++ [⟨2, emp, n % 10, 0⟩] ++ Lb = L := ⟨_, rfl⟩
        have hlc : Lc.length = La.length + 1 + Lb.length := by rw [← hLc]; simp; omega
        have hla : La.length ≤ 1000 := by have := len_prs s.data.toList []; rw [hLa] at this; simp [flush] at this; omega
        have hlb : Lb.length ≤ 1000 := by have := len_prs t.data.toList []; rw [hLb] at this; simp [flush] at this; omega
        rw [hLc] at HPc
        have HLc := Lib.hid hLc
        clear hLa hLb hLc
        have hz1 : (strOfNums [48 + n % 10]).size = 1 := strOfNums_size _
        go_wp2_with (first
          | (go_at_call 21; (with_reducible refine (tmpl_Parse.calls s La _ HPa.out).mono ?_); rintro e w2 ⟨v, rfl, ho, hb2⟩; obtain ⟨Aa, ca, rfl, hca, hCa⟩ := Kd.R_reads ho; have HCa := Lib.hid hCa; have HB2 := Lib.hid (below_then HB1.out HB1.out.size hb2); clear hb2 ho hCa)
          | (go_at_call 21; (with_reducible refine (tmpl_Parse.calls t Lb _ HPb.out).mono ?_); rintro e w3 ⟨v, rfl, ho, hb3⟩; obtain ⟨Ab, cb, rfl, hcb, hCb⟩ := Kd.R_reads ho; have HCb := Lib.hid hCb; have HCa3 := Lib.hid (Kd.C_below HCa.out hb3); have HB3 := Lib.hid (below_then HB2.out HB2.out.size hb3); clear hb3 ho hCb)
          | (go_at_call 21; (with_reducible refine (tmpl_Parse.calls (s ++ ⟨#[92]⟩ ++ strOfNums [48 + n % 10] ++ t) Lc _ HPc.out).mono ?_); rintro e w4 ⟨v, rfl, ho, hb4⟩; obtain ⟨Ac, cc, rfl, hcc, hCc⟩ := Kd.R_reads ho; have HCc := Lib.hid hCc; have HCa4 := Lib.hid (Kd.C_below (Kd.C_alloc HCa3.out _) hb4); have HCb4 := Lib.hid (Kd.C_below (Kd.C_alloc HCb.out _) hb4); have HB4 := Lib.hid (below_then (below_alloc HB3.out _) (below_alloc HB3.out _).size hb4); clear hb4 ho hCc)
          | go_in)
        have hE := @eqA42
        go_loopw [12] (fun i wr => PrtRel w.heap.size Aa Ab Ac La Lb Lc w i wr) (fun i _ => La.length + 1 + Lb.length - (intOf i).toNat)
        case atStart => exact ⟨0, by omega, by omega, rfl, HB4.out, HB4.out.size, HCa4.out, HCb4.out, HCc.out⟩
        case round =>
          obtain ⟨x, h0, hx, rfl, hb, hB, hA1, hB1, hC1⟩ := hrel
          have HB := Lib.hid hb
          have HBB := Lib.hid hB
          have HA1 := Lib.hid hA1
          have HBl := Lib.hid hB1
          have HC1 := Lib.hid hC1
          clear hb hB hA1 hB1 hC1
          by_cases hlt2 : x < La.length + 1 + Lb.length
          · have hrd : rd_T42 Lc x = if x < La.length then rd_T42 La x else if x = La.length then ⟨2, emp, n % 10, 0⟩ else rd_T42 Lb (x - La.length - 1) := by
              rw [← HLc.out]
              exact rd_parts h0 (by simp; omega)
            by_cases c1 : x < La.length
            · rw [if_pos c1] at hrd
              obtain ⟨ada, rfl, a0, a1, a2, a3⟩ := at_T42 (Kd.C_alloc HA1.out (.cells #[.int .u8 2, .string ⟨#[]⟩, .int .i64 (n % 10), .int .u8 0] 42)) x h0 (by omega)
              obtain ⟨q, hq⟩ : ∃ q, rd_T42 La x = q := ⟨_, rfl⟩
              rw [hq] at hrd a0 a1 a2 a3
              obtain ⟨adc, rfl, b0, b1, b2, b3⟩ := at_T42 (Kd.C_alloc HC1.out (.cells #[.int .u8 q.f0, .string q.f1, .int .i64 q.f2, .int .u8 q.f3] 42)) x h0 (by omega)
              rw [hrd] at b0 b1 b2 b3
              clear hq hrd
              go_wp2
              go_quiet (fail)
              go_wp2
              go_roundw
              case rel => exact ⟨x + 1, by omega, by omega, rfl, pw_below_drewN (below_alloc HB.out _) _, by have := HBB.out; simp; omega, Kd.C_drewN (Kd.C_alloc HA1.out _) _, Kd.C_drewN (Kd.C_alloc HBl.out _) _, Kd.C_drewN (Kd.C_alloc HC1.out _) _⟩
              case measure => simp [intOf]; omega
            · rw [if_neg c1] at hrd
              by_cases c2 : x = La.length
              · rw [if_pos c2] at hrd
                have c2' : ¬ x < La.length ∧ ¬ (La.length : Int) < x := by omega
                obtain ⟨c3, c4⟩ := c2'
                clear c2
                obtain ⟨adc, rfl, b0, b1, b2, b3⟩ := at_T42 (Kd.C_alloc HC1.out (.cells #[.int .u8 2, .string ⟨#[]⟩, .int .i64 (n % 10), .int .u8 0] 42)) x h0 (by omega)
                rw [hrd] at b0 b1 b2 b3
                simp only [emp] at b1
                clear hrd
                go_wp2
                go_quiet (fail)
                go_wp2
                go_roundw
                case rel => exact ⟨x + 1, by omega, by omega, rfl, pw_below_drewN (below_alloc HB.out _) _, by have := HBB.out; simp; omega, Kd.C_drewN (Kd.C_alloc HA1.out _) _, Kd.C_drewN (Kd.C_alloc HBl.out _) _, Kd.C_drewN (Kd.C_alloc HC1.out _) _⟩
                case measure => simp [intOf]; omega
              · rw [if_neg c2] at hrd
                have c4 : (La.length : Int) < x := by omega
                clear c2
                obtain ⟨adb, rfl, a0, a1, a2, a3⟩ := at_T42 (Kd.C_alloc HBl.out (.cells #[.int .u8 2, .string ⟨#[]⟩, .int .i64 (n % 10), .int .u8 0] 42)) (x - La.length - 1) (by omega) (by omega)
                obtain ⟨q, hq⟩ : ∃ q, rd_T42 Lb (x - La.length - 1) = q := ⟨_, rfl⟩
                rw [hq] at hrd a0 a1 a2 a3
                rw [show (x - La.length - 1).toNat = x.toNat - La.length - 1 by omega] at a0 a1 a2 a3
                obtain ⟨adc, rfl, b0, b1, b2, b3⟩ := at_T42 (Kd.C_alloc HC1.out (.cells #[.int .u8 q.f0, .string q.f1, .int .i64 q.f2, .int .u8 q.f3] 42)) x h0 (by omega)
                rw [hrd] at b0 b1 b2 b3
                clear hq hrd
                go_wp2
                go_quiet (fail)
                go_wp2
                go_roundw
                case rel => exact ⟨x + 1, by omega, by omega, rfl, pw_below_drewN (below_alloc HB.out _) _, by have := HBB.out; simp; omega, Kd.C_drewN (Kd.C_alloc HA1.out _) _, Kd.C_drewN (Kd.C_alloc HBl.out _) _, Kd.C_drewN (Kd.C_alloc HC1.out _) _⟩
                case measure => simp [intOf]; omega
          · go_wp2
            go_ret
            exact ⟨rfl, HB.out⟩
      · go_wp2
        go_ret
        exact ⟨rfl, HB1.out⟩

end Go.Proofs.Ytccalibapiiifaa.T
