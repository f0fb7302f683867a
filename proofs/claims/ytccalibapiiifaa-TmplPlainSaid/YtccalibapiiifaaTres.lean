/- tmpl.Resolve: its walk. -/
import Derived.Test.YtccalibapiiifaaBld
import Derived.Lib.Hide
namespace Go.Proofs.Ytccalibapiiifaa
open Go.RowKit

/-- a replacement in which each ~ is what there was last -/
def rsv (last : List UInt8) : List UInt8 → List UInt8
  | [] => []
  | c :: r => if c = 92 then (match r with
      | [] => [92]
      | d :: r' => if d = 126 then 126 :: rsv last r' else 92 :: d :: rsv last r')
    else if c = 126 then last ++ rsv last r else c :: rsv last r

theorem drop_at (s : ByteArray) (k : Nat) (h : k < s.size) : s.data.toList.drop k = s[k] :: s.data.toList.drop (k + 1) := by
  have : k < s.data.toList.length := by simpa using h
  rw [List.drop_eq_getElem_cons this]
  rfl

theorem rsv_tilde {last r : List UInt8} {c : UInt8} (h : c.toNat = 126) : rsv last (c :: r) = last ++ rsv last r := by
  have : c = 126 := UInt8.toNat_inj.1 h
  subst this
  rw [rsv.eq_def]
  simp

theorem rsv_plain {last r : List UInt8} {c : UInt8} (h : c.toNat ≠ 126) (h' : c.toNat ≠ 92 ∨ r = []) : rsv last (c :: r) = [c] ++ rsv last r := by
  have h1 : c ≠ 126 := fun e => h (by rw [e]; rfl)
  by_cases h2 : c = 92
  · subst h2
    rcases h' with h' | rfl
    · exact absurd rfl h'
    · simp [rsv]
  · rw [rsv.eq_def]
    simp [h1, h2]

theorem rsv_esc {last r : List UInt8} {c d : UInt8} (h : c.toNat = 92) (h' : d.toNat ≠ 126) : rsv last (c :: d :: r) = [c] ++ [d] ++ rsv last r := by
  have : c = 92 := UInt8.toNat_inj.1 h
  subst this
  have h1 : d ≠ 126 := fun e => h' (by rw [e]; rfl)
  rw [rsv]
  simp [h1]

theorem rsv_esct {last r : List UInt8} {c d : UInt8} (h : c.toNat = 92) (h' : d.toNat = 126) : rsv last (c :: d :: r) = [d] ++ rsv last r := by
  have : c = 92 := UInt8.toNat_inj.1 h
  subst this
  have h1 : d = 126 := UInt8.toNat_inj.1 h'
  subst h1
  rw [rsv]
  simp

def ResRel (B : Nat) (s last : ByteArray) (w : World) (i : Value) (wr : World) : Prop :=
  ∃ (k : Nat) (acc : List UInt8), k ≤ s.size ∧ i = .int .i64 k ∧ IsB B B (Lib.byteCells acc) wr ∧ Below B w wr ∧ B ≤ wr.heap.size ∧
    rsv last.data.toList s.data.toList = acc ++ rsv last.data.toList (s.data.toList.drop k) ∧ acc.length ≤ k * (last.size + 1)

theorem writeByte_b (B : Nat) (acc : List UInt8) (c : UInt8) (w : World) (h : IsB B B (Lib.byteCells acc) w) (hlen : acc.length + 1 ≤ 140737488355328) (hBw : B ≤ w.heap.size) :
    Calls Try.prog 43 #[.pointer (some ⟨B, 0, none⟩), .int .u8 c.toNat] w fun e w' => e = .returned .nilIface ∧ IsB B B (Lib.byteCells (acc ++ [c])) w' ∧ Below B w w' := by
  refine (writeByte_any B B _ _ w h (by simpa [Lib.byteCells_length] using hlen) hBw).mono ?_
  rintro e w' ⟨rfl, h1, h2, _⟩
  refine ⟨rfl, .inr ?_, h2⟩
  have : Lib.byteCells (acc ++ [c]) = Lib.byteCells acc ++ [.int .u8 c.toNat] := by simp [Lib.byteCells]
  rw [this]
  exact h1

theorem writeString_b (B : Nat) (acc : List UInt8) (s : ByteArray) (w : World) (h : IsB B B (Lib.byteCells acc) w) (hlen : acc.length + s.size ≤ 140737488355328) (hBw : B ≤ w.heap.size) :
    Calls Try.prog 44 #[.pointer (some ⟨B, 0, none⟩), .string s] w fun e w' => e = .returned (.tuple #[.int .i64 s.size, .nilIface]) ∧ IsB B B (Lib.byteCells (acc ++ s.data.toList)) w' ∧ Below B w w' := by
  refine (writeString_any B B _ _ w h (by simpa [Lib.byteCells_length] using hlen) hBw).mono ?_
  rintro e w' ⟨rfl, h1, h2, _⟩
  refine ⟨rfl, .inr ?_, h2⟩
  have : Lib.byteCells (acc ++ s.data.toList) = Lib.byteCells acc ++ Lib.strCells s := by simp [Lib.byteCells, Lib.strCells]
  rw [this]
  exact h1

set_option maxRecDepth 100000 in
set_option maxHeartbeats 400000 in
theorem resolve_any (s last : ByteArray) (w : World) (hs : s.size ≤ 1000000) (hl : last.size ≤ 1000000) :
    Calls Try.prog 24 #[.string s, .string last] w fun e w' => e = .returned (.string ⟨(rsv last.data.toList s.data.toList).toArray⟩) ∧ Below w.heap.size w w' := by
  have hfr := Lib.fresh_isBuilder 74 5 w
  have HF : Hid (IsB w.heap.size w.heap.size [] (w.alloc (.cells #[.pointer none, .slice none 0 0] 74))) := Lib.IsBuilderF.of hfr
  clear hfr
  go_enter Try.func24, Try.ntmps24
  go_wp2
  go_loopw [6] (fun i wr => ResRel w.heap.size s last w i wr) (fun i _ => s.size - (intOf i).toNat)
  case atStart => exact ⟨0, [], Nat.zero_le _, rfl, HF.out, (Below.refl _ _).alloc (Nat.le_refl _) _, by simp, by simp, by simp⟩
  case round =>
    obtain ⟨k, acc, hk, rfl, hI, hb, hB, heq, hlen⟩ := hrel
    have HI := Lib.hid hI
    have HB := Lib.hid hB
    have HE := Lib.hid heq
    have HL := Lib.hid hlen
    clear hI hB heq hlen
    by_cases hlt : k < s.size
    · have hx : s.data.toList.drop k = s[k] :: s.data.toList.drop (k + 1) := drop_at s k hlt
      have HX := Lib.hid hx
      clear hx
      have hle : Hid (acc.length + last.size + 3 ≤ 140737488355328) := by
        show acc.length + last.size + 3 ≤ 140737488355328
        have h1 : k * (last.size + 1) ≤ 1000000 * 1000001 := Nat.mul_le_mul (by omega) (by omega)
        have := HL.out
        omega
      have hle' := hle.out
      by_cases h92 : s[k].toNat = 92 ∧ k + 1 < s.size
      · obtain ⟨h1, h2⟩ := h92
        have hd1 : ((s[k].toNat : Int) == 92) = true := by simp [h1]
        have hx1 : s.data.toList.drop (k + 1) = s[k + 1] :: s.data.toList.drop (k + 2) := drop_at s (k + 1) h2
        have HX1 := Lib.hid hx1
        have H1 := Lib.hid h1
        clear hx1 h1
        by_cases h126 : s[k + 1].toNat = 126
        · have hd2 : ((s[k + 1].toNat : Int) != 126) = false := by simp [h126]
          have H2 := Lib.hid h126
          clear h126
          go_wp2_with (first
            | (go_at_call 43; (with_reducible refine (writeByte_b _ acc s[k + 1] wr HI.out (by omega) HB.out).mono ?_); rintro e w1 ⟨rfl, g1, g2⟩)
            | go_in)
          go_roundw
          case rel => exact ⟨k + 2, _, by omega, by go_num, g1, hb.trans g2, Nat.le_trans HB.out g2.size, by rw [HE.out, HX.out, HX1.out, rsv_esct H1.out H2.out, List.append_assoc], by have := HL.out; rw [List.length_append, Nat.add_mul]; simp; omega⟩
          case measure => simp [intOf]; omega
        · have hd2 : ((s[k + 1].toNat : Int) != 126) = true := by simp; omega
          have H2 := Lib.hid h126
          clear h126
          go_wp2_with (first
            | (go_at_call 43; (with_reducible refine (writeByte_b _ acc s[k] wr HI.out (by omega) HB.out).mono ?_); rintro e w1 ⟨rfl, g1, g2⟩; have HB1 := Lib.hid (Nat.le_trans HB.out g2.size))
            | (go_at_call 43; (with_reducible refine (writeByte_b _ (acc ++ [s[k]]) s[k + 1] w1 g1 (by simp; omega) HB1.out).mono ?_); rintro e w2 ⟨rfl, k1, k2⟩)
            | go_in)
          go_roundw
          case rel => exact ⟨k + 2, _, by omega, by go_num, k1, (hb.trans g2).trans k2, Nat.le_trans HB1.out k2.size, by rw [HE.out, HX.out, HX1.out, rsv_esc H1.out H2.out]; simp only [List.append_assoc], by have := HL.out; rw [List.length_append, List.length_append, Nat.add_mul]; simp; omega⟩
          case measure => simp [intOf]; omega
      · have h92' : s[k].toNat ≠ 92 ∨ k + 1 = s.size := by omega
        have H92 : Hid (s[k].toNat ≠ 92 ∨ s.data.toList.drop (k + 1) = []) := by
          rcases h92' with h | h
          · exact .inl h
          · exact .inr (List.drop_eq_nil_of_le (by simp; omega))
        have hdec : ((s[k].toNat : Int) == 92) = false ∨ (((s[k].toNat : Int) == 92) = true ∧ ¬ k + 1 < s.size) := by
          by_cases h : s[k].toNat = 92
          · exact .inr ⟨by simp [h], by omega⟩
          · exact .inl (by simp; omega)
        clear h92 h92'
        by_cases h126 : s[k].toNat = 126
        · have hd2 : ((s[k].toNat : Int) == 126) = true := by simp [h126]
          have H2 := Lib.hid h126
          have hd1 : ((s[k].toNat : Int) == 92) = false := by simp [h126]
          clear h126 hdec
          go_wp2_with (first
            | (go_at_call 44; (with_reducible refine (writeString_b _ acc last wr HI.out (by omega) HB.out).mono ?_); rintro e w1 ⟨rfl, g1, g2⟩)
            | go_in)
          go_roundw
          case rel => exact ⟨k + 1, _, by omega, by go_num, g1, hb.trans g2, Nat.le_trans HB.out g2.size, by rw [HE.out, HX.out, rsv_tilde H2.out, List.append_assoc], by have := HL.out; rw [List.length_append, Nat.add_mul]; simp; omega⟩
          case measure => simp [intOf]; omega
        · have hd2 : ((s[k].toNat : Int) == 126) = false := by simp; omega
          have H2 := Lib.hid h126
          clear h126
          rcases hdec with hd1 | ⟨hd1, hd3⟩
          all_goals
            go_wp2_with (first
              | (go_at_call 43; (with_reducible refine (writeByte_b _ acc s[k] wr HI.out (by omega) HB.out).mono ?_); rintro e w1 ⟨rfl, g1, g2⟩)
              | go_in)
            go_roundw
            case rel => exact ⟨k + 1, _, by omega, by go_num, g1, hb.trans g2, Nat.le_trans HB.out g2.size, by rw [HE.out, HX.out, rsv_plain H2.out H92.out, List.append_assoc], by have := HL.out; rw [List.length_append, Nat.add_mul]; simp; omega⟩
            case measure => simp [intOf]; omega
    · have hks : Hid (k = s.size) := by show k = s.size; omega
      go_wp2_with (first
        | (go_at_call 45; (with_reducible refine (Try.Builder_String_any_k w.heap.size w.heap.size acc wr HI.out HB.out).mono ?_); rintro e w1 ⟨rfl, h1, h2, h3⟩)
        | go_in)
      go_ret
      refine ⟨?_, hb.trans h2⟩
      have he := HE.out
      rw [hks.out] at he
      have hd : s.data.toList.drop s.size = [] := List.drop_eq_nil_of_le (by simp)
      rw [he, hd]
      simp [rsv]

end Go.Proofs.Ytccalibapiiifaa
