/- The law TmplPieces, walked. -/
import Derived.Test.YtccalibapiiifaaTPcs
import Derived.Test.YtccalibapiiifaaTResW
namespace Go.Proofs.Ytccalibapiiifaa.T
open Go.RowKit Go.Proofs.YtccalibapiiifaaW.PrintWords Go.Proofs.YtccalibapiiifaaW.PrintLast Go.Proofs.YtccalibapiiifaaW.PrintMore

def PcsRel (B : Nat) (A : Option Addr) (L : List S42) (w : World) (i : Value) (wr : World) : Prop :=
  ∃ x : Int, 0 ≤ x ∧ x ≤ L.length ∧ i = .int .i64 x ∧ Below B w wr ∧ B ≤ wr.heap.size ∧ Kd.C k42 wr A L.length L

theorem rd_shape {L : List S42} (hf : Fine false L) {x : Int} (h0 : 0 ≤ x) (h1 : x < L.length) : Shape (rd_T42 L x) ∧ (0 < x → (rd_T42 L (x - 1)).f0 = 1 → (rd_T42 L x).f0 ≠ 1) := by
  obtain ⟨i, rfl⟩ : ∃ i : Nat, x = i := ⟨x.toNat, by omega⟩
  have hi : i < L.length := by omega
  have e : rd_T42 L (i : Int) = L[i] := by simp [rd_T42, hi]
  obtain ⟨a, b⟩ := hf.at i hi
  rw [e]
  refine ⟨a, fun hp => ?_⟩
  have hj : i - 1 < L.length := by omega
  have e2 : rd_T42 L ((i : Int) - 1) = L[i - 1] := by
    have : ((i : Int) - 1).toNat = i - 1 := by omega
    simp [rd_T42, this, hj]
  rw [e2]
  exact b (i - 1) hj (by omega)

set_option maxRecDepth 100000 in
set_option maxHeartbeats 1000000 in
theorem pieces_walk (s : ByteArray) (_hs0 : s.size ≤ 140737488351232) (w : World) :
    Calls Try.prog 7 #[.string s] w fun e w' => e = .returned (.bool true) ∧ Below w.heap.size w w' := by
  by_cases h1 : 1500 < s.size
  · have h1' : (1500 : Int) < (s.size : Int) := by omega
    go_enter Try.func7, Try.ntmps7
    go_wp2_with (first
      | (go_at_call 20; (with_reducible refine (known_is _).mono ?_); rintro e w1 ⟨rfl, hb⟩)
      | go_in)
    go_ret
    exact ⟨rfl, hb⟩
  have h1' : ¬ (1500 : Int) < (s.size : Int) := by omega
  obtain ⟨L, hL⟩ : ∃ L, prs s.data.toList [] = L := ⟨_, rfl⟩
  have hp : Hid (tmpl_Parse.f s = some L) := by
    show tmpl_Parse.f s = some L
    unfold tmpl_Parse.f
    rw [if_pos (by omega), hL]
  have HF : Hid (Fine false L) := by rw [← hL]; exact fine_prs _ _
  have hlen : L.length ≤ s.size := by
    have := len_prs s.data.toList []
    rw [hL] at this
    simp [flush] at this
    exact this
  clear hL
  go_enter Try.func7, Try.ntmps7
  go_wp2_with (first
    | (go_at_call 20; (with_reducible refine (known_is _).mono ?_); rintro e w1 ⟨rfl, hb1⟩; have HB1 := Lib.hid hb1; clear hb1)
    | (go_at_call 21; (with_reducible refine (tmpl_Parse.calls s L _ hp.out).mono ?_); rintro e w2 ⟨v, rfl, ho, hb2⟩; obtain ⟨A, c, rfl, hc, hC⟩ := Kd.R_reads ho; have HC := Lib.hid hC; have HB2 := Lib.hid (below_then HB1.out HB1.out.size hb2); clear hb2 ho hC)
    | go_in)
  go_loopw [4] (fun i wr => PcsRel w.heap.size A L w i wr) (fun i _ => L.length - (intOf i).toNat)
  case atStart => exact ⟨0, by omega, by omega, rfl, HB2.out, HB2.out.size, HC.out⟩
  case round =>
    obtain ⟨x, h0, hx, rfl, hb, hB, hCr⟩ := hrel
    have HB := Lib.hid hb
    have HBB := Lib.hid hB
    have HCr := Lib.hid hCr
    clear hb hB hCr
    by_cases hlt : x < L.length
    · obtain ⟨hs, hprev⟩ := rd_shape HF.out h0 hlt
      obtain ⟨ad, rfl, a0, a1, a2, a3⟩ := at_T42 HCr.out x h0 hlt
      obtain ⟨q, hq⟩ : ∃ q, rd_T42 L x = q := ⟨_, rfl⟩
      rw [hq] at hs hprev a0 a1 a2 a3
      rcases hs with ⟨t, rfl, ht⟩ | ⟨n, rfl, hn0, hn9⟩ | rfl | rfl | rfl | rfl | rfl | rfl
      · have ht' : t.toList.isEmpty = false := by rw [ByteArray.toList_eq]; simpa using ht
        clear ht hq
        by_cases hx0 : 0 < x
        · obtain ⟨m, hm, hc0⟩ : ∃ m : Int, (m == 1) = false ∧ (wr.alloc (.cells #[.int .u8 1, .string t, .int .i64 0, .int .u8 0] 42)).cell? (ad.add ((x.toNat - 1) * 4)) = some (.int .u8 m) := by
            obtain ⟨ad', e1, b0, _⟩ := at_T42 (Kd.C_alloc HCr.out (.cells #[.int .u8 1, .string t, .int .i64 0, .int .u8 0] 42)) (x - 1) (by omega) (by omega)
            obtain rfl := Option.some.inj e1
            rw [show (x - 1).toNat = x.toNat - 1 by omega] at b0
            exact ⟨_, by simpa using fun e => hprev hx0 e rfl, b0⟩
          clear hprev
          go_wp2
          go_roundw
          case rel => exact ⟨x + 1, by omega, by omega, rfl, below_alloc HB.out _, by have := HBB.out; simp; omega, Kd.C_alloc HCr.out _⟩
          case measure => simp [intOf]; omega
        · clear hprev
          go_wp2
          go_roundw
          case rel => exact ⟨x + 1, by omega, by omega, rfl, below_alloc HB.out _, by have := HBB.out; simp; omega, Kd.C_alloc HCr.out _⟩
          case measure => simp [intOf]; omega
      all_goals
        clear hq hprev
        simp only [emp] at a1
        go_wp2
        go_roundw
        case rel => exact ⟨x + 1, by omega, by omega, rfl, below_alloc HB.out _, by have := HBB.out; simp; omega, Kd.C_alloc HCr.out _⟩
        case measure => simp [intOf]; omega
    · have hfin : decide (L.length ≤ s.size) = true := by simpa using hlen
      go_wp2
      go_ret
      exact ⟨rfl, HB.out⟩

end Go.Proofs.Ytccalibapiiifaa.T
