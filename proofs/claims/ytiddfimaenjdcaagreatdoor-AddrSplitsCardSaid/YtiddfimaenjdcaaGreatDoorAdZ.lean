import Derived.Test.YtiddfimaenjdcaaGreatDoorAdO
import Derived.Test.YtiddfimaenjdcaaGreatDoorShelf
import Derived.WalkKit
import Derived.WalkSpells
import Derived.WalkLawsBesides
import Derived.Laws.DeepStrings4
set_option linter.unusedVariables false
set_option linter.unusedSimpArgs false

/- strings.Builder's WriteByte; addr.Split: walked. -/
namespace Go.Proofs.YtiddfimaenjdcaaGreatDoor
open Go.RowKit Go.Shelf Go.Maps Go.Proofs.YtiddfimaenjdcaaGreatDoorW.PrintWords Go.Proofs.YtiddfimaenjdcaaGreatDoorW.PrintLast

/-- block b holds a builder of the bytes l, all that it has from B on -/
abbrev IsB (B b : Nat) (l : List Value) (w : World) : Prop := Lib.IsBuilderF 72 5 B b l w
abbrev AtB (B b : Nat) (l : List Value) (w : World) : Prop := Lib.BuilderAtF 72 5 B b (.pointer (some ⟨b, 0, none⟩)) l w
abbrev KeptB (b : Nat) (w w' : World) : Prop := Lib.OthersKept 5 (some b) w w'

theorem sizeBuilder : (Tryz.prog.info? 72).map TypeInfo.size = some 2 := by kernel_rfl
theorem liesBuilder : liesAt Tryz.prog Tryz.prog.depth 72 (2 / Tryz.prog.cellsOf 72) 0 72 1 = true := by kernel_rfl
theorem infoByte : (Tryz.prog.info? 5).map (fun i => (i.zero, i.size, i.bytes)) = some (some (.int .u8 0), 1, 1) := by kernel_rfl

set_option maxRecDepth 100000 in
theorem copyCheck_used (b : Nat) (w : World) (c0 : w.cell? ⟨b, 0, none⟩ = some (.pointer (some ⟨b, 0, none⟩))) :
    Calls Tryz.prog 38 #[.pointer (some ⟨b, 0, none⟩)] w fun e w' => e = .returned (.tuple #[]) ∧ w' = w := by
  obtain ⟨j, hj, _⟩ := Option.map_eq_some_iff.1 sizeBuilder
  go_enter Tryz.func38, Tryz.ntmps38
  go_wp2
  rw [Lib.run_neq_ptr_same w _ Tryz.underlying70 hj]
  go_wp2
  go_end0
  exact ⟨rfl, rfl⟩

set_option maxRecDepth 100000 in
theorem copyCheck_fresh (b : Nat) (w : World) (c0 : w.cell? ⟨b, 0, none⟩ = some (.pointer none)) (hs : w.shape? b = some (72, 2)) (f0 : w.frozen? ⟨b, 0, none⟩ = false) :
    Calls Tryz.prog 38 #[.pointer (some ⟨b, 0, none⟩)] w fun e w' => e = .returned (.tuple #[]) ∧ w' = w.setCell ⟨b, 0, none⟩ (.pointer (some ⟨b, 0, none⟩)) := by
  obtain ⟨j, hj, hjs⟩ := Option.map_eq_some_iff.1 sizeBuilder
  go_enter Tryz.func38, Tryz.ntmps38
  go_wp2
  rw [Lib.run_to_unsafe w ⟨b, 0, none⟩ Tryz.underlying70 Tryz.underlying135 hj (by rw [hjs]; decide) hs (Nat.zero_lt_succ 1)]
  simp only [Result.andThen]
  rw [Oper.upon_value]
  go_wp2
  rw [run_callFunc_extern Tryz.func55 (by kernel_rfl) (by kernel_rfl) (by kernel_rfl) (e := Extern.AbiNoEscape.same) (by kernel_rfl)]
  rw [Lib.run_noEscape]
  simp only [Result.andThen]
  rw [Oper.upon_value]
  go_wp2
  rw [Lib.run_from_unsafe w ⟨b, 0, none⟩ Tryz.underlying135 Tryz.underlying70 hj hs liesBuilder]
  simp only [Result.andThen]
  rw [Oper.upon_value]
  go_wp2
  go_end0
  exact ⟨rfl, rfl⟩

theorem copyCheck_any (B b : Nat) (bs : List Value) (w : World) (h : IsB B b bs w) :
    Calls Tryz.prog 38 #[.pointer (some ⟨b, 0, none⟩)] w fun e w' => e = .returned (.tuple #[]) ∧ AtB B b bs w' ∧ Below B w w' ∧ KeptB b w w' := by
  rcases h with h | h
  · refine (copyCheck_fresh b w h.cell0 h.shape h.frozen0).mono ?_
    rintro e w' ⟨rfl, rfl⟩
    exact ⟨rfl, h.used _, (Below.refl B w).setCell (p := ⟨b, 0, none⟩) h.1 _, (Lib.OthersKept.refl _ _ w).setCell ⟨b, 0, none⟩ rfl _⟩
  · refine (copyCheck_used b w h.cell0).mono ?_
    rintro e w' ⟨rfl, rfl⟩
    exact ⟨rfl, h, Below.refl B _, Lib.OthersKept.refl _ _ _⟩

set_option maxHeartbeats 1000000 in
set_option maxRecDepth 100000 in
theorem writeByte_any (B b : Nat) (bs : List Value) (c : Int) (w : World) (h : IsB B b bs w) (hlen : bs.length + 1 ≤ 140737488355328) (hBw : B ≤ w.heap.size) :
    Calls Tryz.prog 25 #[.pointer (some ⟨b, 0, none⟩), .int .u8 c] w fun e w' => e = .returned .nilIface ∧ AtB B b (bs ++ [.int .u8 c]) w' ∧ Below B w w' ∧ KeptB b w w' := by
  obtain ⟨i0, hi, hz0, hz1, hz2⟩ := info_parts infoByte
  go_enter Tryz.func25, Tryz.ntmps25
  go_wp2_with (go_at_call 38; refine (copyCheck_any B b bs _ h).mono ?_)
  rintro e w1 ⟨rfl, h1, hb1, hk1⟩
  obtain ⟨hB, v, hbk, hown, hne⟩ := h1
  have c0 : w1.cell? ⟨b, 0, none⟩ = some (.pointer (some ⟨b, 0, none⟩)) := by rw [Lib.cell_of_heap hbk]; rfl
  have c1 : w1.cell? ⟨b, 1, none⟩ = some v := by rw [Lib.cell_of_heap hbk]; rfl
  go_wp2_with (at_builtin; refine wpList_append_ownF _ rfl _ _ 54 rfl B 5 i0 (.int .u8 0) 1 1 Tryz.underlying54 hi hz0 hz1 hz2 rfl (by decide) _ _ _ rfl (hown.alloc _) ⟨w1.heap.size, 0, none⟩ 1 1 [.int .u8 c] rfl rfl ?c1 ?c2 ?c3 ?c4 ?c5 ?_)
  case c1 =>
    intro j u hj
    match j, hj with
    | 0, hj => simp at hj; subst hj; simp [Addr.add]
  case c2 => intro u hu; simp at hu; subst hu; rfl
  case c3 => unfold maxLen; omega
  case c4 => omega
  case c5 => have := hb1.size; simp; omega
  intro v' w2 hown' hgrow _
  have hlt : b < w1.heap.size := by
    rcases Nat.lt_or_ge b w1.heap.size with h' | h'
    · exact h'
    · simp [Array.getElem?_eq_none h'] at hbk
  have hb2 : w2.heap[b]? = some (.cells #[.pointer (some ⟨b, 0, none⟩), v] 72 (0, 0)) := by
    rw [hgrow.block b (by simp; omega) (fun e => hne e.symm), Lib.alloc_old w1 _ b hlt]
    exact hbk
  have d0 : w2.cell? ⟨b, 0, none⟩ = some (.pointer (some ⟨b, 0, none⟩)) := by rw [Lib.cell_of_heap hb2]; rfl
  have d1 : w2.cell? ⟨b, 1, none⟩ = some v := by rw [Lib.cell_of_heap hb2]; rfl
  have f1 : w2.frozen? ⟨b, 1, none⟩ = false := Lib.frozen_of_heap hb2 1
  obtain ⟨g, cap, rfl⟩ : ∃ g cap, v' = .slice (some ⟨g, 0, none⟩) (bs.length + 1) cap := by
    rcases hown'.2 with ⟨_, h0⟩ | ⟨g, cap, cur, fz, hv, _⟩
    · omega
    · exact ⟨g, cap, hv⟩
  go_wp2
  go_ret
  refine ⟨rfl, ?_, ?_, ((hk1.alloc _).grown hgrow (Lib.ownsRowF_kind (hown.alloc _))).setCell ⟨b, 1, none⟩ rfl _⟩
  · exact Lib.BuilderAtF.put hB hb2 (bs' := bs ++ [.int .u8 c]) (by simpa using hown') (by decide)
  · exact ((hb1.alloc (by have := hb1.size; omega) _).grown hgrow (by have := hb1.size; simp; omega) (fun k hk => (hown.lt k hk).1)).setCell (p := ⟨b, 1, none⟩) hB _

theorem writeByte_b (B : Nat) (acc : List UInt8) (c : UInt8) (w : World) (h : IsB B B (Lib.byteCells acc) w) (hlen : acc.length + 1 ≤ 140737488355328) (hBw : B ≤ w.heap.size) :
    Calls Tryz.prog 25 #[.pointer (some ⟨B, 0, none⟩), .int .u8 c.toNat] w fun e w' => e = .returned .nilIface ∧ IsB B B (Lib.byteCells (acc ++ [c])) w' ∧ Below B w w' := by
  refine (writeByte_any B B _ _ w h (by simpa [Lib.byteCells_length] using hlen) hBw).mono ?_
  rintro e w' ⟨rfl, h1, h2, _⟩
  refine ⟨rfl, .inr ?_, h2⟩
  have : Lib.byteCells (acc ++ [c]) = Lib.byteCells acc ++ [.int .u8 c.toNat] := by simp [Lib.byteCells]
  rw [this]
  exact h1


/-- signs with a backslash ahead -/
def esc (l : List UInt8) : List UInt8 := l.flatMap fun c => if c = 47 then [92, 47] else [c]
theorem esc_cons (c : UInt8) (l : List UInt8) : esc (c :: l) = (if c = 47 then [92, 47] else [c]) ++ esc l := by simp [esc]
theorem esc_snoc (l : List UInt8) (c : UInt8) : esc (l ++ [c]) = esc l ++ (if c = 47 then [92, 47] else [c]) := by simp [esc]
theorem drop_one {l r : List UInt8} {k : Nat} {c : UInt8} (h : l.drop k = c :: r) : k < l.length ∧ l[k]? = some c ∧ l.drop (k + 1) = r := by
  refine ⟨?_, ?_, ?_⟩
  · have := congrArg List.length h
    rw [List.length_drop] at this
    simp at this
    omega
  · rw [← Nat.add_zero k, ← List.getElem?_drop, h]
    rfl
  · rw [← List.drop_drop, h]
    rfl
theorem byte_eq {T : ByteArray} {k : Nat} {c : UInt8} (h : T.data.toList[k]? = some c) (hk : k < T.size) : T[k]'hk = c := by
  have := byte_at' T k hk
  rw [h] at this
  exact (Option.some.inj this).symm
set_option maxRecDepth 100000 in
set_option maxHeartbeats 1000000 in
theorem split_any {T : ByteArray} {l tl : List UInt8} (w : World) (hT : T.data.toList = esc l ++ tl) (ht : tl = [] ∨ ∃ m, tl = 47 :: m) (h92 : ∀ c ∈ l, c ≠ 92) (hs : T.size ≤ 1000000) (R : Int) (hR : R = if tl = [] then (T.size : Int) else ((esc l).length : Int) + 1) :
    Calls Tryz.prog 11 #[.string T, .int .i64 0, .int .u8 47] w fun e w' => e = .returned (.tuple #[.string ⟨l.toArray⟩, .int .i64 R]) ∧ Below w.heap.size w w' := by
  have hfr := Lib.fresh_isBuilder 72 5 w
  have HF : Hid (IsB w.heap.size w.heap.size [] (w.alloc (.cells #[.pointer none, .slice none 0 0] 72))) := Lib.IsBuilderF.of hfr
  clear hfr
  have HR := Lib.hid hR
  have HT := Lib.hid hT
  have HTL := Lib.hid ht
  have H92 := Lib.hid h92
  clear hR hT ht h92
  go_enter Tryz.func11, Tryz.ntmps11
  go_wp2
  go_loopw [9] (fun v9 wr => ∃ (k : Nat) (p q : List UInt8), v9 = .int .i64 (k : Int) ∧ l = p ++ q ∧ k = (esc p).length ∧ T.data.toList.drop k = esc q ++ tl ∧ IsB w.heap.size w.heap.size (Lib.byteCells p) wr ∧ Below w.heap.size w wr ∧ w.heap.size ≤ wr.heap.size) (fun v9 _ => T.size + 1 - (intOf v9).toNat)
  case atStart => exact ⟨0, [], l, rfl, rfl, rfl, HT.out, HF.out, (Below.refl _ _).alloc (Nat.le_refl _) _, by simp⟩
  case round =>
    obtain ⟨k, p, q, rfl, hl, hk, hd, hI, hb, hB⟩ := hrel
    have hpl : p.length ≤ k := by
      rw [hk]
      clear hd hl hI hk
      induction p with
      | nil => simp
      | cons c p ih => rw [esc_cons]; split <;> simp <;> omega
    have hkT : k ≤ T.size := by
      have h1 := congrArg List.length HT.out
      rw [show T.data.toList.length = T.size from Array.length_toList, hl, show esc (p ++ q) = esc p ++ esc q by simp [esc]] at h1
      simp at h1
      omega
    have HI := Lib.hid hI
    have HB := Lib.hid hB
    have HL := Lib.hid hl
    have HK := Lib.hid hk
    clear hI hB hl hk
    cases q with
    | nil =>
      have hlp : l = p := by rw [HL.out]; simp
      have hd2 : T.data.toList.drop k = tl := hd
      rcases HTL.out with rfl | ⟨m, rfl⟩
      · have hkz : k = T.size := by
          have h1 := congrArg List.length hd2
          rw [List.length_drop, show T.data.toList.length = T.size from Array.length_toList] at h1
          simp at h1
          omega
        have hnl : ¬ ((k : Int) < T.size) := by omega
        have hRr : R = (T.size : Int) := by rw [HR.out, if_pos rfl]
        go_wp2_with (first
          | (go_at_call 26; (with_reducible refine (Tryz.Builder_String_any_k w.heap.size w.heap.size p wr HI.out HB.out).mono ?_); rintro e w1 ⟨rfl, h1, h2, h3⟩)
          | go_in)
        go_ret2
        exact ⟨by rw [hlp, hRr]; rfl, hb.trans h2⟩
      · obtain ⟨h1, h2, h3⟩ := drop_one hd2
        have h1' : k < T.size := by rw [show T.size = T.data.toList.length from Array.length_toList.symm]; exact h1
        have hx : T[k] = 47 := byte_eq h2 h1'
        have hx1 : ((T[k].toNat : Int) == 92) = false := by rw [hx]; rfl
        have hx2 : ((T[k].toNat : Int) == 47) = true := by rw [hx]; rfl
        have hRr : R = (k : Int) + 1 := by rw [HR.out, if_neg (by simp), hlp, HK.out]
        clear h1 h2 h3 hx hd hd2
        go_wp2_with (first
          | (go_at_call 26; (with_reducible refine (Tryz.Builder_String_any_k w.heap.size w.heap.size p wr HI.out HB.out).mono ?_); rintro e w1 ⟨rfl, h1, h2, h3⟩)
          | go_in)
        go_ret2
        exact ⟨by rw [hlp, hRr]; rfl, hb.trans h2⟩
    | cons c q =>
      have hc92 : c ≠ 92 := H92.out c (by rw [HL.out]; simp)
      by_cases hc : c = 47
      · subst hc
        have hd2 : T.data.toList.drop k = 92 :: 47 :: (esc q ++ tl) := by rw [hd, esc_cons, if_pos rfl]; rfl
        obtain ⟨h1, h2, h3⟩ := drop_one hd2
        obtain ⟨g1, g2, g3⟩ := drop_one h3
        have hz : T.data.toList.length = T.size := Array.length_toList
        have h1' : k < T.size := by omega
        have g1' : k + 1 < T.size := by omega
        have hx : T[k] = 92 := byte_eq h2 h1'
        have hy : T[k + 1] = 47 := byte_eq g2 g1'
        have hx1 : ((T[k].toNat : Int) == 92) = true := by rw [hx]; rfl
        have hy1 : ((T[k + 1].toNat : Int) != 47) = false := by rw [hy]; rfl
        have HG := Lib.hid g3
        have HY := Lib.hid hy
        clear h1 h2 h3 g1 g2 g3 hx hy hd hd2 hz
        go_wp2_with (first
          | (go_at_call 25; (with_reducible refine (writeByte_b _ p T[k + 1] wr HI.out (by omega) HB.out).mono ?_); rintro e w1 ⟨rfl, g1, g2⟩)
          | go_in)
        go_roundw
        case rel => exact ⟨k + 2, p ++ [47], q, by go_num, by rw [HL.out]; simp, by rw [esc_snoc, HK.out]; simp, HG.out, by rw [← HY.out]; exact g1, hb.trans g2, Nat.le_trans HB.out g2.size⟩
        case measure => simp [intOf]; omega
      · have hd2 : T.data.toList.drop k = c :: (esc q ++ tl) := by rw [hd, esc_cons, if_neg hc]; rfl
        obtain ⟨h1, h2, h3⟩ := drop_one hd2
        have hz : T.data.toList.length = T.size := Array.length_toList
        have h1' : k < T.size := by omega
        have hx : T[k] = c := byte_eq h2 h1'
        have hx1 : ((T[k].toNat : Int) == 92) = false := by
          rw [hx, beq_eq_false_iff_ne]
          intro h
          exact hc92 (UInt8.toNat_inj.1 (by simpa using Int.ofNat.inj h))
        have hx2 : ((T[k].toNat : Int) == 47) = false := by
          rw [hx, beq_eq_false_iff_ne]
          intro h
          exact hc (UInt8.toNat_inj.1 (by simpa using Int.ofNat.inj h))
        have HG := Lib.hid h3
        have HX := Lib.hid hx
        clear h1 h2 h3 hx hd hd2 hz
        go_wp2_with (first
          | (go_at_call 25; (with_reducible refine (writeByte_b _ p T[k] wr HI.out (by omega) HB.out).mono ?_); rintro e w1 ⟨rfl, g1, g2⟩)
          | go_in)
        go_roundw
        case rel => exact ⟨k + 1, p ++ [c], q, by go_num, by rw [HL.out]; simp, by rw [esc_snoc, HK.out, if_neg hc]; simp, HG.out, by rw [← HX.out]; exact g1, hb.trans g2, Nat.le_trans HB.out g2.size⟩
        case measure => simp [intOf]; omega
end Go.Proofs.YtiddfimaenjdcaaGreatDoor

/- The law AddrSplits: a text whose signs have a backslash ahead comes back, whatever stands behind the sign. -/
set_option linter.unusedVariables false
set_option linter.unusedSimpArgs false
namespace Go.Proofs.YtiddfimaenjdcaaGreatDoor
open Go.RowKit Go.Shelf Go.Maps Go.Proofs.YtiddfimaenjdcaaGreatDoorW.PrintWords Go.Proofs.YtiddfimaenjdcaaGreatDoorW.PrintLast

theorem takeA (s : ByteArray) (j : Nat) (h : j < s.size) : s.data.toList.take (j + 1) = s.data.toList.take j ++ [s[j]] := by
  have := byte_at' s j h
  obtain ⟨h1, h2⟩ := List.getElem?_eq_some_iff.1 this
  rw [List.take_succ_eq_append_getElem h1, h2]
theorem extA (s : ByteArray) (j : Nat) (h : j < s.size) : (s.extract j (j + 1)).data.toList = [s[j]] := by
  have := byte_at' s j h
  obtain ⟨h1, h2⟩ := List.getElem?_eq_some_iff.1 this
  have e : (s.extract j (j + 1)).data.toList = (s.data.toList.drop j).take 1 := by
    simp [ByteArray.data_extract, Array.toList_extract, List.extract]
  rw [e, List.drop_eq_getElem_cons h1, h2]
  rfl
theorem ba_extA {a b : ByteArray} (h : a.data.toList = b.data.toList) : a = b := by
  apply ByteArray.ext
  rw [← Array.toList_inj]
  exact h
def escN (s : ByteArray) (j : Nat) : ByteArray := ⟨(esc (s.data.toList.take j)).toArray⟩
theorem esc_len (l : List UInt8) : (esc l).length ≤ 2 * l.length := by
  induction l with
  | nil => simp [esc]
  | cons c l ih => rw [esc_cons]; split <;> simp <;> omega
theorem escN_size (s : ByteArray) (j : Nat) : (escN s j).size = (esc (s.data.toList.take j)).length := by simp only [escN, ByteArray.size, List.size_toArray]
theorem escN_le (s : ByteArray) (j : Nat) : (escN s j).size ≤ 2 * s.size := by
  have h1 := esc_len (s.data.toList.take j)
  have h2 : (s.data.toList.take j).length ≤ s.size := by
    rw [List.length_take, show s.data.toList.length = s.size from Array.length_toList]
    omega
  rw [escN_size]
  omega
theorem escN_sign {s : ByteArray} {j : Nat} (h : j < s.size) (hc : s[j] = 47) : (escN s j ++ (⟨#[92]⟩ : ByteArray)) ++ s.extract j (j + 1) = escN s (j + 1) := by
  apply ba_extA
  unfold escN
  rw [takeA s j h, esc_snoc, if_pos hc]
  have h2 := extA s j h
  simp only [ByteArray.data_append, Array.toList_append, h2, hc]
  simp
theorem escN_other {s : ByteArray} {j : Nat} (h : j < s.size) (hc : ¬ s[j] = 47) : escN s j ++ s.extract j (j + 1) = escN s (j + 1) := by
  apply ba_extA
  unfold escN
  rw [takeA s j h, esc_snoc, if_neg hc]
  have h2 := extA s j h
  simp only [ByteArray.data_append, Array.toList_append, h2]
theorem no92 {s : ByteArray} {j : Nat} (h : j < s.size) (hc : ¬ s[j] = 92) (h9 : ∀ c ∈ s.data.toList.take j, c ≠ 92) : ∀ c ∈ s.data.toList.take (j + 1), c ≠ 92 := by
  rw [takeA s j h]
  intro c hm
  rcases List.mem_append.1 hm with hm | hm
  · exact h9 c hm
  · obtain rfl : c = s[j] := by simpa using hm
    exact hc
theorem u8_ne {a b : UInt8} {i : Int} (hb : (b.toNat : Int) = i) : ((a.toNat : Int) == i) = decide (a = b) := by
  subst hb
  rw [Bool.eq_iff_iff]
  simp only [beq_iff_eq, decide_eq_true_eq]
  constructor
  · intro h
    exact UInt8.toNat_inj.1 (by omega)
  · rintro rfl
    rfl
/-- the two calls, at the whole text -/
theorem split_one (s t : ByteArray) (w : World) (hs : s.size ≤ 300) (ht : t.size ≤ 100) (h9 : ∀ c ∈ s.data.toList, c ≠ 92) :
    Calls Tryz.prog 11 #[.string ((escN s s.size ++ (⟨#[47]⟩ : ByteArray)) ++ t), .int .i64 0, .int .u8 47] w fun e w' => e = .returned (.tuple #[.string s, .int .i64 ((escN s s.size).size + 1)]) ∧ Below w.heap.size w w' := by
  have hl : s.data.toList.take s.size = s.data.toList := List.take_of_length_le (by simp)
  have hz := escN_le s s.size
  have e := escN_size s s.size
  rw [hl] at e
  have h := split_any (T := (escN s s.size ++ (⟨#[47]⟩ : ByteArray)) ++ t) (l := s.data.toList) (tl := 47 :: t.data.toList) w
    (by unfold escN; rw [hl]; simp only [ByteArray.data_append, Array.toList_append]; simp)
    (.inr ⟨_, rfl⟩) h9 (by simp only [ByteArray.size_append]; have : (⟨#[47]⟩ : ByteArray).size = 1 := rfl; omega) ((escN s s.size).size + 1) (by rw [if_neg (by simp), e])
  rw [show (⟨s.data.toList.toArray⟩ : ByteArray) = s from rfl] at h
  exact h
theorem split_two (s : ByteArray) (w : World) (hs : s.size ≤ 300) (h9 : ∀ c ∈ s.data.toList, c ≠ 92) :
    Calls Tryz.prog 11 #[.string (escN s s.size), .int .i64 0, .int .u8 47] w fun e w' => e = .returned (.tuple #[.string s, .int .i64 (escN s s.size).size]) ∧ Below w.heap.size w w' := by
  have hl : s.data.toList.take s.size = s.data.toList := List.take_of_length_le (by simp)
  have hz := escN_le s s.size
  have h := split_any (T := escN s s.size) (l := s.data.toList) (tl := []) w
    (by unfold escN; rw [hl]; simp)
    (.inl rfl) h9 (by omega) (escN s s.size).size (by rw [if_pos rfl])
  rw [show (⟨s.data.toList.toArray⟩ : ByteArray) = s from rfl] at h
  exact h

set_option maxRecDepth 100000 in
set_option maxHeartbeats 2000000 in
theorem asplits_walk (w : World) (s t : ByteArray) (hs1 : s.size ≤ 140737488351232) (ht1 : t.size ≤ 140737488351232) :
    Calls Tryz.prog 4 #[.string s, .string t] w fun e w' => e = .returned (.bool true) ∧ Below w.heap.size w w' := by
  go_enter Tryz.func4, Tryz.ntmps4
  by_cases hs : 300 < s.size
  · have g1 : (300 : Int) < (s.size : Int) := by omega
    go_wp2_with fail
    refine (known14_any _).mono ?_
    rintro e w1 ⟨rfl, hb⟩
    go_wp2
    go_ret
    exact ⟨rfl, hb⟩
  have g1 : ¬ (300 : Int) < (s.size : Int) := by omega
  by_cases ht : 100 < t.size
  · have g2 : (100 : Int) < (t.size : Int) := by omega
    go_wp2_with fail
    refine (known14_any _).mono ?_
    rintro e w1 ⟨rfl, hb⟩
    go_wp2
    go_ret
    exact ⟨rfl, hb⟩
  have g2 : ¬ (100 : Int) < (t.size : Int) := by omega
  have hs' : s.size ≤ 300 := by omega
  have ht' : t.size ≤ 100 := by omega
  clear hs ht hs1 ht1
  go_wp2_with fail
  refine (known14_any _).mono ?_
  rintro e w1 ⟨rfl, hb⟩
  have HB := Lib.hid hb
  clear hb
  go_wp2
  go_loopw [5, 6] (fun v5 v6 wr => ∃ k : Nat, v5 = .string (escN s k) ∧ v6 = .int .i64 (k : Int) ∧ k ≤ s.size ∧ (∀ c ∈ s.data.toList.take k, c ≠ 92) ∧ wr = w1) (fun _ v6 _ => s.size - (intOf v6).toNat)
  case atStart => exact ⟨0, by simp [escN, esc], rfl, Nat.zero_le _, by simp, rfl⟩
  case round =>
    obtain ⟨k, rfl, rfl, hk, h9, rfl⟩ := hrel
    have H9 := Lib.hid h9
    clear h9
    by_cases hlt : k < s.size
    · have hlt' : (k : Int) < s.size := by omega
      have hlt2 : (k : Int) + 1 ≤ s.size := by omega
      have hsz := escN_le s k
      have hse : (s.extract k (k + 1)).size ≤ 1 := by simp; omega
      have q1 := u8_ne (a := s[k]) (b := 92) (i := 92) rfl
      have q2 := u8_ne (a := s[k]) (b := 47) (i := 47) rfl
      by_cases c1 : s[k] = 92
      · rw [decide_eq_true c1] at q1
        clear q2
        go_wp2_with fail
        go_ret
        exact ⟨rfl, HB.out⟩
      · rw [decide_eq_false c1] at q1
        have H93 := Lib.hid (no92 hlt c1 H9.out)
        by_cases c2 : s[k] = 47
        · rw [decide_eq_true c2] at q2
          have HE := Lib.hid (escN_sign hlt c2)
          have hz1 : (escN s k ++ (⟨#[92]⟩ : ByteArray)).size ≤ 2 * s.size + 1 := by
            simp only [ByteArray.size_append]
            have : (⟨#[92]⟩ : ByteArray).size = 1 := rfl
            omega
          clear c1 c2
          go_wp2_with fail
          go_roundw
          case rel => exact ⟨k + 1, by rw [HE.out], by go_num, by omega, H93.out, trivial⟩
          case measure => simp [intOf]; omega
        · rw [decide_eq_false c2] at q2
          have HE := Lib.hid (escN_other hlt c2)
          clear c1 c2
          go_wp2_with fail
          go_roundw
          case rel => exact ⟨k + 1, by rw [HE.out], by go_num, by omega, H93.out, trivial⟩
          case measure => simp [intOf]; omega
    · obtain rfl : k = s.size := by omega
      have hlt' : ¬ (s.size : Int) < s.size := by omega
      have h9 := H9.out
      rw [List.take_of_length_le (by simp)] at h9
      have hz := escN_le s s.size
      have HS1 := Lib.hid (split_one s t · hs' ht' h9)
      have HS2 := Lib.hid (split_two s · hs' h9)
      obtain ⟨q, hq⟩ : ∃ q, escN s s.size = q := ⟨_, rfl⟩
      rw [hq] at HS1 HS2 hz ⊢
      have hz1 : (q ++ (⟨#[47]⟩ : ByteArray)).size ≤ 2 * s.size + 1 := by
        simp only [ByteArray.size_append]
        have : (⟨#[47]⟩ : ByteArray).size = 1 := rfl
        omega
      have hz2 : ((q ++ (⟨#[47]⟩ : ByteArray)) ++ t).size ≤ 2 * s.size + 1 + t.size := by
        simp only [ByteArray.size_append] at hz1 ⊢
        omega
      clear hlt H9 h9 hq
      go_wp2_with fail
      refine (HS1.out _).mono ?_
      rintro e w2 ⟨rfl, hb2⟩
      have H2 := Lib.hid hb2
      clear hb2
      go_wp2_with fail
      refine (HS2.out _).mono ?_
      rintro e w3 ⟨rfl, hb3⟩
      have H3 := Lib.hid hb3
      clear hb3
      go_wp2_with fail
      go_ret
      exact ⟨rfl, below_then HB.out HB.out.size (below_then H2.out H2.out.size H3.out)⟩
theorem asplits_row (W : World) (x1 : ByteArray) (h1 : x1.size ≤ 140737488351232) (x2 : ByteArray) (h2 : x2.size ≤ 140737488351232) :
    Calls Tryz.prog 4 #[.string x1, .string x2] W fun e w' => e = .returned (.bool true) ∧ Below W.heap.size W w' := asplits_walk W x1 x2 h1 h2
end Go.Proofs.YtiddfimaenjdcaaGreatDoor
