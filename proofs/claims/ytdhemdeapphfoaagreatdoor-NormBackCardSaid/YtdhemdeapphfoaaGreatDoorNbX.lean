import Derived.Test.YtdhemdeapphfoaaGreatDoorNvY
import Derived.Test.YtdhemdeapphfoaaGreatDoorNwX
import Derived.Laws.IdiomStrings
set_option linter.unusedVariables false
set_option linter.unusedSimpArgs false

/- kind's Great and Small of any byte; letters turned, twice. -/
set_option linter.unusedVariables false
set_option linter.unusedSimpArgs false
namespace Go.Proofs.YtdhemdeapphfoaaGreatDoor
open Go.RowKit Go.Shelf Go.Maps Go.Proofs.YtdhemdeapphfoaaGreatDoorW.PrintWords Go.Proofs.YtdhemdeapphfoaaGreatDoorW.PrintLast

def betB (lo hi x : Int) : Bool := decide (lo ≤ x) && decide (x ≤ hi)
theorem great_b (x : Int) (w : World) : Calls Tryz.prog 44 #[.int .u8 x] w fun e w' => e = .returned (.bool (betB 65 90 x)) ∧ w' = w := by
  have HB := Lib.hid (between_any x 65 90)
  unfold betB
  obtain ⟨q, hq⟩ : ∃ q, (decide ((65 : Int) ≤ x) && decide (x ≤ 90)) = q := ⟨_, rfl⟩
  rw [hq] at HB ⊢
  go_enter Tryz.func44, Tryz.ntmps44
  go_wp2_with (go_at_call 64; refine (HB.out _).mono ?_; rintro e w1 ⟨rfl, rfl⟩)
  go_ret
  exact ⟨rfl, rfl⟩
theorem small_b (x : Int) (w : World) : Calls Tryz.prog 81 #[.int .u8 x] w fun e w' => e = .returned (.bool (betB 97 122 x)) ∧ w' = w := by
  have HB := Lib.hid (between_any x 97 122)
  unfold betB
  obtain ⟨q, hq⟩ : ∃ q, (decide ((97 : Int) ≤ x) && decide (x ≤ 122)) = q := ⟨_, rfl⟩
  rw [hq] at HB ⊢
  go_enter Tryz.func81, Tryz.ntmps81
  go_wp2_with (go_at_call 64; refine (HB.out _).mono ?_; rintro e w1 ⟨rfl, rfl⟩)
  go_ret
  exact ⟨rfl, rfl⟩
def smallI (x : Int) : Int := if betB 65 90 x then x + 32 else x
def greatI (x : Int) : Int := if betB 97 122 x then x - 32 else x
theorem bet_t {lo hi x : Int} (h : betB lo hi x = true) : lo ≤ x ∧ x ≤ hi := by simpa [betB] using h
theorem Small_b (x : Int) (w : World) : Calls Tryz.prog 26 #[.int .u8 x] w fun e w' => e = .returned (.int .u8 (smallI x)) ∧ w' = w := by
  have HB := Lib.hid (great_b x)
  unfold smallI
  cases hq : betB 65 90 x
  all_goals
    rw [hq] at HB
    go_enter Tryz.func26, Tryz.ntmps26
  · go_wp2_with (go_at_call 44; refine (HB.out _).mono ?_; rintro e w1 ⟨rfl, rfl⟩)
    go_ret
    exact ⟨rfl, rfl⟩
  · have := bet_t hq
    have iw1 : IntKind.u8.wrap (x + 32) = x + 32 := by
      rw [IntKind.wrap_u8]
      omega
    go_wp2_with (go_at_call 44; refine (HB.out _).mono ?_; rintro e w1 ⟨rfl, rfl⟩)
    go_ret
    exact ⟨rfl, rfl⟩
theorem Great_b (x : Int) (w : World) : Calls Tryz.prog 61 #[.int .u8 x] w fun e w' => e = .returned (.int .u8 (greatI x)) ∧ w' = w := by
  have HB := Lib.hid (small_b x)
  unfold greatI
  cases hq : betB 97 122 x
  all_goals
    rw [hq] at HB
    go_enter Tryz.func61, Tryz.ntmps61
  · go_wp2_with (go_at_call 81; refine (HB.out _).mono ?_; rintro e w1 ⟨rfl, rfl⟩)
    go_ret
    exact ⟨rfl, rfl⟩
  · have := bet_t hq
    have iw1 : IntKind.u8.wrap (x - 32) = x - 32 := by
      rw [IntKind.wrap_u8]
      omega
    go_wp2_with (go_at_call 81; refine (HB.out _).mono ?_; rintro e w1 ⟨rfl, rfl⟩)
    go_ret
    exact ⟨rfl, rfl⟩

/-- a letter turned -/
def flipU (c : UInt8) : UInt8 := if 97 ≤ c ∧ c ≤ 122 then c - 32 else if 65 ≤ c ∧ c ≤ 90 then c + 32 else c
theorem u8_all {P : UInt8 → Prop} (h : ∀ n : Fin 256, P (UInt8.ofFin n)) (c : UInt8) : P c := h c.toFin
theorem flip_twice (c : UInt8) : flipU (flipU c) = c := u8_all (P := fun c => flipU (flipU c) = c) (by decide +kernel) c
theorem flip_great (c : UInt8) : greatI (c.toNat : Int) ≠ c.toNat → ((flipU c).toNat : Int) = greatI (c.toNat : Int) := u8_all (P := fun c => greatI (c.toNat : Int) ≠ c.toNat → ((flipU c).toNat : Int) = greatI (c.toNat : Int)) (by decide +kernel) c
theorem flip_small (c : UInt8) : greatI (c.toNat : Int) = c.toNat → ((flipU c).toNat : Int) = smallI (c.toNat : Int) := u8_all (P := fun c => greatI (c.toNat : Int) = c.toNat → ((flipU c).toNat : Int) = smallI (c.toNat : Int)) (by decide +kernel) c
/-- so many letters turned -/
def flipN (j : Nat) (l : List UInt8) : List UInt8 := (l.take j).map flipU ++ l.drop j
def flipT (j : Nat) (t : ByteArray) : ByteArray := ⟨(flipN j t.data.toList).toArray⟩
theorem flipN_len (j : Nat) (l : List UInt8) : (flipN j l).length = l.length := by
  simp [flipN]
  omega
theorem flipT_size (j : Nat) (t : ByteArray) : (flipT j t).size = t.size := by
  simp only [flipT, ByteArray.size, List.size_toArray, flipN_len]
  simp
theorem flipN_twice (j : Nat) (l : List UInt8) : flipN j (flipN j l) = l := by
  unfold flipN
  by_cases h : j ≤ l.length
  · rw [List.take_left' (by simp; omega), List.drop_left' (by simp; omega), List.map_map, show flipU ∘ flipU = id from funext flip_twice, List.map_id, List.take_append_drop]
  · rw [List.take_of_length_le (l := l) (by omega), List.drop_of_length_le (l := l) (by omega), List.append_nil, List.take_of_length_le (by simp; omega), List.drop_of_length_le (by simp; omega), List.append_nil, List.map_map, show flipU ∘ flipU = id from funext flip_twice, List.map_id]
theorem flipT_twice (j : Nat) (t : ByteArray) : flipT j (flipT j t) = t := by
  apply ByteArray.ext
  rw [← Array.toList_inj]
  simp only [flipT]
  exact flipN_twice j t.data.toList
theorem flipN_at (j : Nat) (l : List UInt8) (i : Nat) : (flipN j l)[i]? = (l[i]?).map fun c => if i < j then flipU c else c := by
  unfold flipN
  by_cases h : i < j
  · by_cases h2 : i < l.length
    · rw [List.getElem?_append_left (by simp; omega)]
      simp [h]
    · rw [List.getElem?_eq_none (by simp; omega), List.getElem?_eq_none (by omega)]
      rfl
  · by_cases h2 : j ≤ l.length
    · rw [List.getElem?_append_right (by simp; omega)]
      simp only [List.length_map, List.length_take, List.getElem?_drop]
      rw [show j + (i - min j l.length) = i by omega]
      simp [h]
    · rw [List.getElem?_eq_none (by simp; omega), List.getElem?_eq_none (by omega)]
      rfl
end Go.Proofs.YtdhemdeapphfoaaGreatDoor

/- the law's heavy, walked. -/
set_option linter.unusedVariables false
set_option linter.unusedSimpArgs false
namespace Go.Proofs.YtdhemdeapphfoaaGreatDoor
open Go.RowKit Go.Shelf Go.Maps Go.Proofs.YtdhemdeapphfoaaGreatDoorW.PrintWords Go.Proofs.YtdhemdeapphfoaaGreatDoorW.PrintLast

def Heavy19nPost (w : World) (n : Nat) (e : Ending) (w' : World) : Prop := ∃ b, e = .returned (.bool b) ∧ Below w.heap.size w w' ∧ (b = false → n ≤ 60)
set_option maxRecDepth 100000 in
set_option maxHeartbeats 1000000 in
theorem heavy19n {w : World} {G : Nat → Prop} {v : Value} {xs : List ByteArray} (h : Ls w G v xs) :
    Calls Tryz.prog 15 #[v, .slice none 0 0] w (Heavy19nPost w xs.length) := by
  obtain ⟨A1, c1, rfl, hc, hm, h3⟩ := h
  have H3 := Lib.hid h3
  have hxl : xs.length ≤ maxLen := Nat.le_trans hc hm
  unfold maxLen at hxl
  clear h3
  go_enter Tryz.func15, Tryz.ntmps15
  go_wp2
  go_loopw [5, 6] (fun v5 v6 wr => ∃ (m : Int) (j : Nat), v5 = .int .i64 m ∧ v6 = .int .i64 j ∧ j ≤ xs.length ∧ Below w.heap.size w wr) (fun _ v6 _ => xs.length - (intOf v6).toNat)
  case atStart => exact ⟨0, 0, rfl, rfl, by omega, Below.refl _ _⟩
  case round =>
    obtain ⟨m, j, rfl, rfl, hj, hbl⟩ := hrel
    by_cases hlt : j < xs.length
    · obtain ⟨b1, o1, rfl, _, hb1, hc1⟩ := H3.out (by omega)
      obtain ⟨x, hx⟩ : ∃ x, xs[j]? = some x := ⟨_, List.getElem?_eq_getElem hlt⟩
      have d1 := (World.cell?_of_block (w := w) (w' := wr) (a := ⟨b1, o1 + j, none⟩) (hbl.block b1 hb1)).trans (hc1 j x hx)
      have HBL := Lib.hid hbl
      have hlt' : (j : Int) < xs.length := by omega
      clear hc1 hx hbl
      go_wp2
      go_roundw
      case rel => exact ⟨_, j + 1, rfl, by go_num, by omega, HBL.out⟩
      case measure => simp [intOf]; omega
    · obtain rfl : j = xs.length := by omega
      have HBL := Lib.hid hbl
      clear hbl
      by_cases hle : xs.length ≤ 60
      · have hd : decide (60 < (xs.length : Int)) = false := by simp; omega
        go_wp2
        go_loopw [5, 7] (fun v5 v7 w2 => v5 = .int .i64 m ∧ v7 = .int .i64 0 ∧ w2 = wr) (fun _ _ _ => 0)
        case atStart => exact ⟨rfl, rfl, rfl⟩
        case round =>
          obtain ⟨rfl, rfl, rfl⟩ := hrel
          go_wp2
          all_goals
            go_ret
            exact ⟨_, rfl, HBL.out, fun _ => hle⟩
      · have hd : decide (60 < (xs.length : Int)) = true := by simp; omega
        go_wp2
        go_loopw [5, 7] (fun v5 v7 w2 => v5 = .int .i64 m ∧ v7 = .int .i64 0 ∧ w2 = wr) (fun _ _ _ => 0)
        case atStart => exact ⟨rfl, rfl, rfl⟩
        case round =>
          obtain ⟨rfl, rfl, rfl⟩ := hrel
          go_wp2
          go_ret
          refine ⟨true, ?_, HBL.out, fun h => by cases h⟩
          rfl
def Heavy19sPost (w : World) (xs : List ByteArray) (e : Ending) (w' : World) : Prop := ∃ b, e = .returned (.bool b) ∧ Below w.heap.size w w' ∧ (b = false → xs.length ≤ 60 ∧ sumS xs ≤ 2500)
set_option maxRecDepth 100000 in
set_option maxHeartbeats 1000000 in
theorem heavy19s {w : World} {G : Nat → Prop} {v : Value} {xs : List ByteArray} (h : Ls w G v xs) (hs : ∀ x ∈ xs, x.size ≤ 1000) :
    Calls Tryz.prog 15 #[v, .slice none 0 0] w (Heavy19sPost w xs) := by
  by_cases hle : xs.length ≤ 60
  · obtain ⟨A1, c1, rfl, hc, hm, h3⟩ := h
    have H3 := Lib.hid h3
    have HS := Lib.hid hs
    clear h3 hs
    have hd : decide (60 < (xs.length : Int)) = false := by simp; omega
    go_enter Tryz.func15, Tryz.ntmps15
    go_wp2
    go_loopw [5, 6] (fun v5 v6 wr => ∃ j : Nat, v5 = .int .i64 (sumS (xs.take j) : Nat) ∧ v6 = .int .i64 j ∧ j ≤ xs.length ∧ Below w.heap.size w wr) (fun _ v6 _ => xs.length - (intOf v6).toNat)
    case atStart => exact ⟨0, rfl, rfl, by omega, Below.refl _ _⟩
    case round =>
      obtain ⟨j, rfl, rfl, hj, hbl⟩ := hrel
      have hsj := sumS_le (xs.take j) (fun x hx => HS.out x (List.mem_of_mem_take hx))
      have hsl : (xs.take j).length ≤ 60 := by rw [List.length_take]; omega
      have hsb : sumS (xs.take j) ≤ 60060 := Nat.le_trans hsj (Nat.mul_le_mul_right 1001 hsl)
      obtain ⟨S, hS⟩ : ∃ S, sumS (xs.take j) = S := ⟨_, rfl⟩
      rw [hS] at hsb ⊢
      by_cases hlt : j < xs.length
      · obtain ⟨b1, o1, rfl, _, hb1, hc1⟩ := H3.out (by omega)
        obtain ⟨x, hx⟩ : ∃ x, xs[j]? = some x := ⟨_, List.getElem?_eq_getElem hlt⟩
        have d1 := (World.cell?_of_block (w := w) (w' := wr) (a := ⟨b1, o1 + j, none⟩) (hbl.block b1 hb1)).trans (hc1 j x hx)
        have hxs := HS.out x (List.mem_of_getElem? hx)
        have hst := sumS_step hx
        rw [hS] at hst
        have HST := Lib.hid hst
        have HBL := Lib.hid hbl
        have hlt' : (j : Int) < xs.length := by omega
        clear hc1 hx hbl hst hS hsj hsl
        go_wp2
        go_roundw
        case rel => exact ⟨j + 1, by rw [HST.out]; go_num, by go_num, by omega, HBL.out⟩
        case measure => simp [intOf]; omega
      · obtain rfl : j = xs.length := by omega
        have HBL := Lib.hid hbl
        rw [List.take_length] at hS
        have HSE := Lib.hid hS
        clear hbl hS hsj hsl
        by_cases h6 : S ≤ 2500
        · have hd6 : decide (2500 < (S : Int)) = false := by simp; omega
          go_wp2
          go_loopw [5, 7] (fun v5 v7 w2 => v5 = .int .i64 (S : Int) ∧ v7 = .int .i64 0 ∧ w2 = wr) (fun _ _ _ => 0)
          case atStart => exact ⟨rfl, rfl, rfl⟩
          case round =>
            obtain ⟨rfl, rfl, rfl⟩ := hrel
            go_wp2
            go_ret
            exact ⟨_, rfl, HBL.out, fun _ => ⟨hle, by rw [HSE.out]; exact h6⟩⟩
        · have hd6 : decide (2500 < (S : Int)) = true := by simp; omega
          go_wp2
          go_loopw [5, 7] (fun v5 v7 w2 => v5 = .int .i64 (S : Int) ∧ v7 = .int .i64 0 ∧ w2 = wr) (fun _ _ _ => 0)
          case atStart => exact ⟨rfl, rfl, rfl⟩
          case round =>
            obtain ⟨rfl, rfl, rfl⟩ := hrel
            go_wp2
            go_ret
            exact ⟨true, rfl, HBL.out, fun h => by cases h⟩
  · refine (heavy19n h).mono ?_
    rintro e w' ⟨b, rfl, hb, hn⟩
    exact ⟨b, rfl, hb, fun h => absurd (hn h) hle⟩

end Go.Proofs.YtdhemdeapphfoaaGreatDoor

/- edit's remove at a register; Do of the command d with a number; norm's lines: walked. -/
set_option linter.unusedVariables false
set_option linter.unusedSimpArgs false
namespace Go.Proofs.YtdhemdeapphfoaaGreatDoor
open Go.RowKit Go.Shelf Go.Maps Go.Proofs.YtdhemdeapphfoaaGreatDoorW.PrintWords Go.Proofs.YtdhemdeapphfoaaGreatDoorW.PrintLast

def CutCPost (w : World) (R mb n : Nat) (c : Int) (b : Bool) (xs : List ByteArray) (e : Ending) (w' : World) : Prop :=
  ∃ v n' ρ', e = .returned (.int .u16 0) ∧ Ls w' (fun k => w.heap.size ≤ k) v xs ∧ Rg w' R mb n' ρ' ∧ n' ≤ n + 11 ∧ Shp ρ' ∧ ρ' c = some (.agg #[v, .bool b]) ∧ w.grownBy w' (some mb)
theorem cutc_any {w : World} {R mb n : Nat} {ρ : Int → Option Value} {c : Int} (hc : 97 ≤ c ∧ c ≤ 122 ∨ c = 34) (h : Rg w R mb n ρ) (hsh : Shp ρ) (hn : n + 20 < maxLen) {G : Nat → Prop} {v : Value} {xs : List ByteArray} (hv : Ls w G v xs) (h0 : 0 < xs.length) (hl : xs.length ≤ 300) (hs : ∀ x ∈ xs, x.size ≤ 1000) (hsum : sumS xs ≤ 20000) (b : Bool) :
    Calls Tryz.prog 60 #[.pointer (some ⟨R, 0, none⟩), .int .u8 c, .agg #[v, .bool b]] w (CutCPost w R mb n c b xs) := by
  rcases hc with hc | rfl
  · refine (zcut_any h (by omega) hc.1 hc.2 hsh hv h0 hl hs hsum b).mono ?_
    rintro e w' ⟨v2, rfl, h1, h2, h3⟩
    obtain ⟨A2, c2, rfl, _⟩ := id h1
    exact ⟨_, _, _, rfl, h1, h2, by omega, (hsh.set c A2 _ c2 b).set 34 A2 _ c2 b, zset_same _ _ _ _, h3⟩
  · exact cut_any h hsh hn hv h0 hl hs hsum b

section
variable {N0 : Nat} {w0 : Base} {w w' : World} {B R mb n n' : Nat} {s s' : Bs} {ρ ρ' : Int → Option Value}
def EdCPost (N0 : Nat) (wo : Base) (B R mb : Nat) (s : Bs) (m : Nat) (vr : Value) (c : Int) (Y : Option (List ByteArray)) (e : Ending) (w' : World) : Prop :=
  ∃ (w0 : Base) (n : Nat) (ρ : Int → Option Value), e = .returned vr ∧ w0.w = wo.w ∧ n ≤ m ∧ Ed N0 w0 w' B R mb s n ρ ∧ (∀ ys, Y = some ys → ∃ v, ρ c = some (.agg #[v, .bool true]) ∧ Ls w' w0.P v ys) ∧ ∀ b, wo.P b → b ≠ mb → w'.heap[b]? = wo.z.heap[b]?

set_option maxRecDepth 100000 in
set_option maxHeartbeats 2000000 in
theorem remove_reg {m : Nat} (h : Ed N0 w0 w B R mb s m ρ) (hm : m + 20 < maxLen) {W : Nat} {vr vd : Value} {nm p1 p2 p3 p4 : ByteArray} {bang : Bool} {reg cnt d : Int} {i n : Nat} {f t : Int} (hP : w0.P W) (hWm : W ≠ mb) (hc : 97 ≤ reg ∧ reg ≤ 122 ∨ reg = 34) (hw : Wk w0.z W B R vr vd nm p1 p2 p3 p4 bang reg cnt f t d) (hf : f = (i : Int) + 1) (ht : t = (i : Int) + n) (hn : 0 < n) (hi : i + n ≤ s.ls.length) (hlt : n < s.ls.length) (hl : s.ls.length ≤ 1000) (hn3 : n ≤ 300) (hsz : ∀ x ∈ s.ls, x.size ≤ 1000) (hsum : sumS s.ls ≤ 20000) (ho : s.opn.length ≤ 1000000) (hnm : s.nm < maxLen) :
    Calls Tryz.prog 112 #[.pointer (some ⟨W, 0, none⟩)] w (EdCPost N0 w0 B R mb (putS (spliceS s i n []) ((i : Int) + 1)) (m + 11) (.int .u16 0) reg (some ((s.ls.drop i).take n))) := by
  subst hf ht
  have hln : ((s.ls.drop i).take n).length = n := by rw [List.length_take, List.length_drop]; omega
  have hsm : sumS ((s.ls.drop i).take n) ≤ 20000 := Nat.le_trans (sumS_sub s.ls i n) hsum
  have hmem : ∀ x ∈ (s.ls.drop i).take n, x.size ≤ 1000 := fun x hx => hsz x (List.mem_of_mem_drop (List.mem_of_mem_take hx))
  have HPL := Lib.hid (And.intro hln (And.intro hsm hmem))
  have hwk := h.bf.wk hP hw
  have hWl := blk_lt hwk
  have HLI := Lib.hid (lines_any h.bf hwk rfl rfl hi (by omega))
  have HRG := Lib.hid (fun V (hb : Below w.heap.size w V) => reg_any (w := V) (show Wk V W B R vr vd nm p1 p2 p3 p4 bang reg cnt ((i : Int) + 1) ((i : Int) + n) d from (hb.block W hWl).trans hwk) (by omega))
  have HWK := Lib.hid hwk
  have HS := Lib.hid (show ∀ V, Below w.heap.size w V → V.cell? ⟨W, 11, none⟩ = some (.pointer (some ⟨R, 0, none⟩)) from fun V hb => by rw [blk_cell ((hb.block W hWl).trans hwk)]; rfl)
  have HH := Lib.hid h
  clear h hw hwk hln hsm hmem hsz hsum
  go_enter Tryz.func112, Tryz.ntmps112
  go_wp2_with fail
  refine HLI.out.mono ?_
  rintro e w2 ⟨v2, rfl, h21, h22, h23⟩
  obtain ⟨A2, c2, hv2, _⟩ := h21.slice
  rw [cS_len, HPL.out.1] at hv2
  subst hv2
  have HO := Lib.hid (And.intro h21 (And.intro h22 h23))
  have y11 := HS.out _ h23
  have HBC := Lib.hid ((Below.refl w2.heap.size w2).drew)
  have HB2 := Lib.hid h23
  clear h21 h22 h23
  go_wp2
  go_region_held3 (fun V => V.cell? ⟨W, 11, none⟩ = some (.pointer (some ⟨R, 0, none⟩))) (first | exact z11 | exact y11 | go_keep) (first
    | (go_at_call 142; refine (HRG.out _ (below_then HB2.out HB2.out.size HBC.out)).mono ?_; rintro e w1 ⟨rfl, rfl⟩)
    | (go_at_call 60; refine (cutc_any hc ((HH.out.rg.step HB2.out).step HBC.out) HH.out.shp hm ((Ls.of_rw HO.out.1).step HBC.out.size fun b hb _ => HBC.out.block b hb) (by rw [HPL.out.1]; exact hn) (by rw [HPL.out.1]; omega) HPL.out.2.2 HPL.out.2.1 true).mono ?_; rintro e w3 ⟨v3, n3, ρ3, rfl, h31, h32, h33, h34, h35, h36⟩; have z11 := (World.cell?_of_block (a := ⟨W, 11, none⟩) (h36.block W (Nat.lt_of_lt_of_le (Nat.lt_of_lt_of_le hWl HB2.out.size) HBC.out.size) (fun e => hWm (Option.some.inj e)))).trans ((World.cell?_of_block (a := ⟨W, 11, none⟩) (HBC.out.block W (Nat.lt_of_lt_of_le hWl HB2.out.size))).trans y11); have H3 := Lib.hid (And.intro h31 (And.intro h32 (And.intro h33 (And.intro h34 (And.intro h35 h36))))); clear h31 h32 h33 h34 h35 h36))
  all_goals
    have hbl23 := below_then HB2.out HB2.out.size HBC.out
    have hWl2 := Nat.lt_of_lt_of_le hWl hbl23.size
    have hwk3 : Wk w3 W B R vr vd nm p1 p2 p3 p4 bang reg cnt ((i : Int) + 1) ((i : Int) + n) d := (H3.out.2.2.2.2.2.block W hWl2 (fun e => hWm (Option.some.inj e))).trans ((hbl23.block W hWl).trans HWK.out)
    have ed3 := (HH.out.new hbl23).turn H3.out.2.2.2.2.2 H3.out.2.1 H3.out.2.2.2.1
    have hput := fun V (hb : Below w3.heap.size w3 V) => put_ok (ed3.new hb).bf (.inl hP) hwk3 (Ls.nil V (fun _ => False)) (i := i) (k := n) (a := (i : Int) + 1) (c := (i : Int) + 1) rfl hi (by simp only [List.length_nil]; omega) (by omega) (by omega) rfl (by omega) (fun x hx => by cases hx) ho hnm
    have hsp : sputs s.ls.length n [] = [] := by rw [sputs, if_neg (by omega)]
    rw [hsp] at hput
    have f12 : w3.cell? ⟨W, 12, none⟩ = some (.int .i64 ((i : Int) + 1)) := by rw [blk_cell hwk3]; rfl
    have HED := Lib.hid ed3
    have HPUT := Lib.hid hput
    have HWK3 := Lib.hid hwk3
    have HBD := Lib.hid ((Below.refl w3.heap.size w3).drew)
    clear hbl23 hwk3 ed3 hput hsp z11 y11
    go_wp2
    go_region_held3 (fun V => V.cell? ⟨W, 12, none⟩ = some (.int .i64 ((i : Int) + 1))) (first | exact f12 | exact g12 | go_keep) (first | (go_at_call 143; refine (HPUT.out _ HBD.out).mono ?_; rintro e w4 ⟨rfl, b4⟩; have g12 : w4.cell? ⟨W, 12, none⟩ = some (.int .i64 ((i : Int) + 1)) := (by rw [blk_cell (b4.wk (.inl hP) HWK3.out)]; rfl); have H4 := Lib.hid b4; clear b4))
    all_goals
      go_wp2
      go_ret
      refine ⟨⟨w0.w, fun b => w0.P b ∨ (w2.drew.heap.size ≤ b ∧ b < w3.heap.size), w3⟩, n3, ρ3, rfl, rfl, H3.out.2.2.1, HED.out.text H4.out, fun ys hys => ⟨v3, H3.out.2.2.2.2.1, ?_⟩, fun b hb hne => (H4.out.prot b (.inl hb)).2.trans ((H3.out.2.2.2.2.2.block b (Nat.lt_of_lt_of_le (HH.out.bf.prot b hb).1 (below_then HB2.out HB2.out.size HBC.out).size) (fun e => hne (Option.some.inj e))).trans (((below_then HB2.out HB2.out.size HBC.out).block b (HH.out.bf.prot b hb).1).trans (HH.out.bf.prot b hb).2))⟩
      obtain rfl := Option.some.inj hys
      exact (H3.out.1.wide (H := fun b => w0.P b ∨ (w2.drew.heap.size ≤ b ∧ b < w3.heap.size)) fun b hlt hk => .inr ⟨hk, hlt⟩).kept (w' := _) fun c hc hw => H4.out.prot c hw


end
end Go.Proofs.YtdhemdeapphfoaaGreatDoor

/- Do of the command d with a number, at a register: walked. -/
set_option linter.unusedVariables false
set_option linter.unusedSimpArgs false
namespace Go.Proofs.YtdhemdeapphfoaaGreatDoor
open Go.RowKit Go.Shelf Go.Maps Go.Proofs.YtdhemdeapphfoaaGreatDoorW.PrintWords Go.Proofs.YtdhemdeapphfoaaGreatDoorW.PrintLast

def dObj (reg cnt : Int) : Obj := .cells #[.slice none 0 0, .string ⟨#[100]⟩, .bool false, .int .u8 reg, .int .i64 cnt, .slice none 0 0, .string ⟨#[]⟩, .string ⟨#[]⟩, .string ⟨#[]⟩, .string ⟨#[100]⟩] 125
theorem six_d : Lib.containsS sixS ⟨#[100]⟩ = true := by decide +kernel
theorem d_cells {w w3 : World} {n1 : Nat} {reg cnt : Int} (h : Below ((w.alloc (dObj reg cnt)).drewN n1).heap.size ((w.alloc (dObj reg cnt)).drewN n1) w3) : w3.heap[w.heap.size]? = some (dObj reg cnt) := by
  have h1 : w.heap.size < ((w.alloc (dObj reg cnt)).drewN n1).heap.size := by simp
  exact (h.block _ h1).trans (World.alloc_heap_new w _)
theorem dcell {w3 : World} {C : Nat} {reg cnt : Int} (h : w3.heap[C]? = some (dObj reg cnt)) : w3.cell? ⟨C, 0, none⟩ = some (.slice none 0 0) ∧ w3.cell? ⟨C, 1, none⟩ = some (.string ⟨#[100]⟩) ∧ w3.cell? ⟨C, 2, none⟩ = some (.bool false) ∧ w3.cell? ⟨C, 3, none⟩ = some (.int .u8 reg) ∧ w3.cell? ⟨C, 4, none⟩ = some (.int .i64 cnt) ∧ w3.cell? ⟨C, 5, none⟩ = some (.slice none 0 0) ∧ w3.cell? ⟨C, 6, none⟩ = some (.string ⟨#[]⟩) ∧ w3.cell? ⟨C, 7, none⟩ = some (.string ⟨#[]⟩) ∧ w3.cell? ⟨C, 8, none⟩ = some (.string ⟨#[]⟩) ∧ w3.cell? ⟨C, 9, none⟩ = some (.string ⟨#[100]⟩) := by
  refine ⟨?_, ?_, ?_, ?_, ?_, ?_, ?_, ?_, ?_, ?_⟩ <;> (rw [blk_cell h]; rfl)

section
variable {N0 : Nat} {w0 : Base} {w w' : World} {B R mb n n' : Nat} {s s' : Bs} {ρ ρ' : Int → Option Value}
set_option maxRecDepth 100000 in
set_option maxHeartbeats 2000000 in
theorem do_dn {m : Nat} (h : Ed N0 w0 w B R mb s m ρ) (hm : m + 20 < maxLen) {i k : Nat} {reg cnt d : Int} (hcr : 97 ≤ reg ∧ reg ≤ 122 ∨ reg = 34) (hc1 : 1 ≤ cnt) (hcb : cnt ≤ 1000000) (hk : min (cnt - 1) ((s.ls.length : Int) - ((i : Int) + 1)) = (k : Int)) (hi : i + (k + 1) ≤ s.ls.length) (hlt : k + 1 < s.ls.length) (hl : s.ls.length ≤ 1000) (hn3 : k + 1 ≤ 300) (hsz : ∀ x ∈ s.ls, x.size ≤ 1000) (hsum : sumS s.ls ≤ 20000) (ho : s.opn.length ≤ 1000000) (hnm : s.nm < maxLen) :
    Calls Tryz.prog 57 #[.pointer (some ⟨B, 0, none⟩), .pointer (some ⟨R, 0, none⟩), .agg #[.slice none 0 0, .string ⟨#[100]⟩, .bool false, .int .u8 reg, .int .i64 cnt, .slice none 0 0, .string ⟨#[]⟩, .string ⟨#[]⟩, .string ⟨#[]⟩, .string ⟨#[100]⟩], .int .i64 ((i : Int) + 1), .int .i64 ((i : Int) + 1), .int .i64 d] w (EdCPost N0 w0 B R mb (putS (spliceS s i (k + 1) []) ((i : Int) + 1)) (m + 11) (.tuple #[.slice none 0 0, .int .u16 0]) reg (some ((s.ls.drop i).take (k + 1)))) := by
  obtain ⟨T, hlen⟩ := h.bf.lenW
  have HL := Lib.hid hlen
  have HH := Lib.hid h
  obtain ⟨k0, _⟩ := hlen w (Below.refl _ _)
  have hBl := cell_lt k0
  dsimp only at hBl
  have b1 : decide ((i : Int) + 1 < 0) = false := by simp; omega
  have b3 : decide ((s.ls.length : Int) < i + 1) = false := by simp; omega
  have b4 : ((i : Int) + 1 == 0) = false := by rw [beq_eq_false_iff_ne]; omega
  have b5 : (cnt == -1) = false := by rw [beq_eq_false_iff_ne]; omega
  have b6 : (cnt != -1) = true := by show (!(cnt == -1)) = true; rw [b5]; rfl
  have HCO := Lib.hid (fun W => counted_any ⟨#[100]⟩ W)
  have HJC := Lib.hid (And.intro hsz hsum)
  rw [six_d] at HCO
  clear h hlen hsz hsum
  go_enter Tryz.func57, Tryz.ntmps57
  go_wp2_with (first
    | (go_at_call 22; refine (HL.out _ (below_alloc (Below.refl _ w) _)).2.mono ?_; rintro e wa ⟨rfl, n1, rfl⟩)
    | (go_at_call 76; refine (HCO.out _).mono ?_; rintro e w3 ⟨rfl, hb3⟩; have hp3 := d_cells hb3; have gc := dcell hp3; obtain ⟨g0, g1, g2, g3, g4, g5, g6, g7, g8, g9⟩ := gc; have hB3 := below_then (pw_below_drewN (below_alloc (Below.refl _ w) (dObj reg cnt)) n1) (by simp) hb3; have k3 := (HL.out _ hB3).1; have hlt3 := blk_lt hp3; have hBl3 := cell_lt k3; have H3 := Lib.hid hB3; clear hb3 hp3 hB3))
  go_quiet (first | (go_at_call 22; exact Calls.quiet_of (HL.out _ (pw_below_drewN H3.out _)).2))
  have hq1 : ∀ o, ((w3.drewN nq).alloc o).cell? ⟨w.heap.size, 1, none⟩ = some (.string ⟨#[100]⟩) := fun o => (World.cell?_of_block (w := w3) (w' := (w3.drewN nq).alloc o) (a := ⟨w.heap.size, 1, none⟩) (Below.heap_alloc (w3.drewN nq) o _ hlt3)).trans g1
  have hbx : ∀ o, Below w.heap.size w ((w3.drewN nq).alloc o) ∧ ((w3.drewN nq).alloc o).heap[w3.heap.size]? = some o := fun o => ⟨below_alloc (pw_below_drewN H3.out nq) o, World.alloc_heap_new (w3.drewN nq) o⟩
  have HBX := Lib.hid hbx
  clear hbx
  go_wp2_with fail
  obtain ⟨V, hV⟩ : ∃ V, (w3.drewN nq).alloc (.cells #[Value.slice none 0 0, Value.string { data := #[100] }, Value.bool false, Value.int IntKind.u8 reg, Value.int IntKind.i64 cnt, Value.slice none 0 0, Value.string { data := #[] }, Value.string { data := #[] }, Value.string { data := #[] }, Value.string { data := #[100] }, Value.pointer (some { block := B, off := 0 }), Value.pointer (some { block := R, off := 0 }), Value.int IntKind.i64 ((i : Int) + 1), Value.int IntKind.i64 ((i : Int) + 1 + k), Value.int IntKind.i64 d] 145) = V := ⟨_, rfl⟩
  obtain ⟨hb1, hb2⟩ := HBX.out (.cells #[Value.slice none 0 0, Value.string { data := #[100] }, Value.bool false, Value.int IntKind.u8 reg, Value.int IntKind.i64 cnt, Value.slice none 0 0, Value.string { data := #[] }, Value.string { data := #[] }, Value.string { data := #[] }, Value.string { data := #[100] }, Value.pointer (some { block := B, off := 0 }), Value.pointer (some { block := R, off := 0 }), Value.int IntKind.i64 ((i : Int) + 1), Value.int IntKind.i64 ((i : Int) + 1 + k), Value.int IntKind.i64 d] 145)
  rw [hV] at hb1 hb2 ⊢
  clear hV hq1
  have hwk : Wk V w3.heap.size B R _ _ _ _ _ _ _ _ _ _ _ _ _ := hb2
  have hrc := remove_reg (HH.out.guard hb1) hm (.inr ⟨by omega, blk_lt hb2⟩) (by have := HH.out.rg.ltM; omega) hcr hwk rfl (by omega) (Nat.succ_pos k) hi hlt hl hn3 HJC.out.1 HJC.out.2 ho hnm
  have HJ := Lib.hid hrc
  have HB1 := Lib.hid hb1
  clear hrc hb1 hb2
  refine (way_d hwk).mono ?_
  rintro e w4 ⟨rfl, rfl⟩
  clear hwk
  go_wp2_with fail
  refine HJ.out.mono ?_
  rintro e w4 ⟨wz, n4, ρ4, rfl, h42, h43, h44, h45, h46⟩
  have H4 := Lib.hid (And.intro h42 (And.intro h43 (And.intro h44 (And.intro h45 h46))))
  clear h42 h43 h44 h45 h46
  go_wp2
  go_ret2
  exact ⟨wz, n4, ρ4, rfl, H4.out.1, H4.out.2.1, H4.out.2.2.1, H4.out.2.2.2.1, fun b hb hne => (H4.out.2.2.2.2 b (.inl hb) hne).trans ((HB1.out.block b (HH.out.bf.prot b hb).1).trans (HH.out.bf.prot b hb).2)⟩
end
end Go.Proofs.YtdhemdeapphfoaaGreatDoor

/- norm's lines at the command d; does of the key dd: walked. -/
set_option linter.unusedVariables false
set_option linter.unusedSimpArgs false
namespace Go.Proofs.YtdhemdeapphfoaaGreatDoor
open Go.RowKit Go.Shelf Go.Maps Go.Proofs.YtdhemdeapphfoaaGreatDoorW.PrintWords Go.Proofs.YtdhemdeapphfoaaGreatDoorW.PrintLast

section
variable {N0 : Nat} {w0 : Base} {w w' : World} {B R mb W : Nat} {s : Bs} {cnt reg n here : Int} {op arg text : ByteArray} {ρ : Int → Option Value}
set_option maxRecDepth 100000 in
set_option maxHeartbeats 2000000 in
theorem nlines_d {m : Nat} (h : Ed N0 w0 w B R mb s m ρ) (hm : m + 20 < maxLen) (hP : w0.P W) (hWm : W ≠ mb) (hw : Wn w0.z W B (.pointer (some ⟨R, 0, none⟩)) cnt op arg reg n here text) {i k : Nat} (hh : here = (i : Int) + 1) (hcr : 97 ≤ reg ∧ reg ≤ 122 ∨ reg = 34) (hi : i + (k + 1) ≤ s.ls.length) (hlt : k + 1 < s.ls.length) (hl : s.ls.length ≤ 1000) (hn3 : k + 1 ≤ 300) (hsz : ∀ x ∈ s.ls, x.size ≤ 1000) (hsum : sumS s.ls ≤ 20000) (ho : s.opn.length ≤ 1000000) (hnm : s.nm < maxLen) {q : Int} (hq : q = (k : Int) + 1) :
    Calls Tryz.prog 37 #[.pointer (some ⟨W, 0, none⟩), .string ⟨#[100]⟩, .int .i64 q] w (EdCPost N0 w0 B R mb (putS (spliceS s i (k + 1) []) ((i : Int) + 1)) (m + 11) (.int .u16 0) reg (some ((s.ls.drop i).take (k + 1)))) := by
  obtain ⟨T, hlen⟩ := h.bf.lenW
  have HL := Lib.hid hlen
  have hwk := h.bf.wn hP hw
  have hWl := blk_lt hwk
  subst hh hq
  have k3 : w.cell? ⟨W, 3, none⟩ = some (.pointer (some ⟨B, 0, none⟩)) := by rw [blk_cell hwk]; rfl
  have k4 : w.cell? ⟨W, 4, none⟩ = some (.pointer (some ⟨R, 0, none⟩)) := by rw [blk_cell hwk]; rfl
  have k5 : w.cell? ⟨W, 5, none⟩ = some (.int .u8 reg) := by rw [blk_cell hwk]; rfl
  have k7 : w.cell? ⟨W, 7, none⟩ = some (.int .i64 ((i : Int) + 1)) := by rw [blk_cell hwk]; rfl
  have kB := (hlen w (Below.refl _ _)).1
  have HD := Lib.hid (fun V (hb : Below w.heap.size w V) => do_dn (h.new hb) hm (d := 0) hcr (cnt := (k : Int) + 1) (i := i) (k := k) (by omega) (by omega) (by omega) hi hlt hl hn3 hsz hsum ho hnm)
  have HWN := Lib.hid hw
  have q1 : ¬ ((s.ls.length : Int) - ((i : Int) + 1) < (k : Int)) := by omega
  have q2 : decide ((s.ls.length : Int) - ((i : Int) + 1) < (k : Int)) = false := decide_eq_false q1
  have hll : (s.ls.length : Int) ≤ 1000 := by omega
  clear h hw hwk hlen hsz hsum
  go_enter Tryz.func37, Tryz.ntmps37
  go_wp2
  go_quiet (first | (go_at_call 22; exact Calls.quiet_of (HL.out _ (below_drewN w _)).2))
  go_wp2
  go_region_held3 (fun V => V.cell? ⟨W, 3, none⟩ = some (.pointer (some ⟨B, 0, none⟩)) ∧ V.cell? ⟨W, 4, none⟩ = some (.pointer (some ⟨R, 0, none⟩)) ∧ V.cell? ⟨W, 5, none⟩ = some (.int .u8 reg) ∧ V.cell? ⟨W, 7, none⟩ = some (.int .i64 ((i : Int) + 1))) (first | exact ⟨k3, k4, k5, k7⟩ | exact z3 | go_keep) (first | (go_at_call 57; (with_reducible refine (HD.out _ (below_drewN w (nq + 1))).mono ?_); rintro e w3 ⟨wz, n4, ρ4, rfl, h42, h43, h44, h45, h46⟩; have hwk3 : Wn w3 W B (.pointer (some ⟨R, 0, none⟩)) cnt op arg reg n ((i : Int) + 1) text := (h46 W hP hWm).trans HWN.out; have z3 : w3.cell? ⟨W, 3, none⟩ = some (.pointer (some ⟨B, 0, none⟩)) ∧ w3.cell? ⟨W, 4, none⟩ = some (.pointer (some ⟨R, 0, none⟩)) ∧ w3.cell? ⟨W, 5, none⟩ = some (.int .u8 reg) ∧ w3.cell? ⟨W, 7, none⟩ = some (.int .i64 ((i : Int) + 1)) := ⟨by rw [blk_cell hwk3]; rfl, by rw [blk_cell hwk3]; rfl, by rw [blk_cell hwk3]; rfl, by rw [blk_cell hwk3]; rfl⟩; have H4 := Lib.hid (And.intro h42 (And.intro h43 (And.intro h44 (And.intro h45 h46)))); clear h42 h43 h44 h45 h46 hwk3))
  all_goals
    go_wp2
    go_ret
    exact ⟨wz, n4, ρ4, rfl, H4.out⟩
end
end Go.Proofs.YtdhemdeapphfoaaGreatDoor

/- norm's lay and open; does of the keys dd, o: walked. -/
set_option linter.unusedVariables false
set_option linter.unusedSimpArgs false
namespace Go.Proofs.YtdhemdeapphfoaaGreatDoor
open Go.RowKit Go.Shelf Go.Maps Go.Proofs.YtdhemdeapphfoaaGreatDoorW.PrintWords Go.Proofs.YtdhemdeapphfoaaGreatDoorW.PrintLast

theorem ls_blk {w : World} {G : Nat → Prop} {b : Nat} {x : ByteArray} {t : TypeId} (h : w.heap[b]? = some (.cells #[.string x] t (0, 0))) (hG : G b) : Ls w G (.slice (some ⟨b, 0, none⟩) 1 1) [x] :=
  ⟨_, _, rfl, Nat.le_refl _, by decide, fun _ => ⟨b, 0, rfl, hG, blk_lt h, fun j y hj => by
    match j, hj with
    | 0, hj =>
      obtain rfl : x = y := by simpa using hj
      rw [blk_cell h]
      rfl⟩⟩
section
variable {N0 : Nat} {w0 : Base} {w w' : World} {B R mb W : Nat} {s : Bs} {vr : Value} {cnt reg n here : Int} {op arg text : ByteArray} {ρ : Int → Option Value}
set_option maxRecDepth 100000 in
set_option maxHeartbeats 1000000 in
theorem nlay_any (h : Bf N0 w0 w B s) (hP : w0.P W) (hw : Wn w0.z W B vr cnt op arg reg n here text) {G : Nat → Prop} {v : Value} {xs : List ByteArray} (hv : Ls w G v xs) {i : Nat} {a c : Int} (ha : a = (i : Int) + 1) (hi : i ≤ s.ls.length) (hl : s.ls.length + xs.length ≤ 2000) (hpos : 0 < s.ls.length) (hlg : isLong xs = false) (hne : 0 < xs.length) (hx : ∀ x ∈ xs, x.size ≤ 1000000000) (ho : s.opn.length ≤ 1000000) (hnm : s.nm < maxLen) :
    Calls Tryz.prog 59 #[.pointer (some ⟨W, 0, none⟩), .int .i64 a, v, .int .i64 c] w (BfPost N0 w0 B (putS (spliceS s i 0 xs) c) (.int .u16 0)) := by
  have hs := bsplice_any (k := 0) h hv ha (by omega) (by omega) (by omega) hpos hlg (by omega) hx ho hnm
  rw [show sputs s.ls.length 0 xs = xs from if_neg (by omega)] at hs
  have HS := Lib.hid hs
  have hk := h.wn hP hw
  have g3 : w.cell? ⟨W, 3, none⟩ = some (.pointer (some ⟨B, 0, none⟩)) := by rw [blk_cell hk]; rfl
  have HW := Lib.hid hw
  obtain ⟨Av, cv, hvs, _⟩ := id hv
  subst hvs
  clear h hv hw hk hx ha hs
  go_enter Tryz.func59, Tryz.ntmps59
  go_wp2_with (first
    | (go_at_call 62; refine HS.out.mono ?_; rintro e w2 ⟨rfl, b2⟩; have q3 : w2.cell? ⟨W, 3, none⟩ = some (.pointer (some ⟨B, 0, none⟩)) := (by rw [blk_cell (b2.wn hP HW.out)]; rfl); have HPU := Lib.hid (bput_any b2 c); clear b2)
    | (go_at_call 9; refine HPU.out.mono ?_; rintro e w3 ⟨rfl, b3, _, _⟩; have H3 := Lib.hid b3; clear b3))
  go_ret
  exact ⟨rfl, H3.out⟩

theorem dd_cut : (⟨#[100, 100]⟩ : ByteArray).extract 0 1 = ⟨#[100]⟩ := by decide +kernel
set_option maxRecDepth 100000 in
set_option maxHeartbeats 2000000 in
theorem does_dd {m : Nat} (h : Ed N0 w0 w B R mb s m ρ) (hm : m + 20 < maxLen) (hP : w0.P W) (hWm : W ≠ mb) {i k : Nat} (hw : Wn w0.z W B (.pointer (some ⟨R, 0, none⟩)) cnt ⟨#[100, 100]⟩ arg reg ((k : Int) + 1) here text) (hh : here = (i : Int) + 1) (hcr : 97 ≤ reg ∧ reg ≤ 122 ∨ reg = 34) (hi : i + (k + 1) ≤ s.ls.length) (hlt : k + 1 < s.ls.length) (hl : s.ls.length ≤ 1000) (hn3 : k + 1 ≤ 300) (hsz : ∀ x ∈ s.ls, x.size ≤ 1000) (hsum : sumS s.ls ≤ 20000) (ho : s.opn.length ≤ 1000000) (hnm : s.nm < maxLen) :
    Calls Tryz.prog 24 #[.pointer (some ⟨W, 0, none⟩)] w (EdCPost N0 w0 B R mb (putS (spliceS s i (k + 1) []) ((i : Int) + 1)) (m + 11) (.int .u16 0) reg (some ((s.ls.drop i).take (k + 1)))) := by
  have hwk := h.bf.wn hP hw
  have k1 : w.cell? ⟨W, 1, none⟩ = some (.string ⟨#[100, 100]⟩) := by rw [blk_cell hwk]; rfl
  have k6 : w.cell? ⟨W, 6, none⟩ = some (.int .i64 ((k : Int) + 1)) := by rw [blk_cell hwk]; rfl
  have HD := Lib.hid (nlines_d (h.new (Below.refl w.heap.size w).drew) hm hP hWm hw hh hcr hi hlt hl hn3 hsz hsum ho hnm rfl)
  have hz : (⟨#[100, 100]⟩ : ByteArray).size = 2 := rfl
  have hcut := dd_cut
  have HWN := Lib.hid hw
  clear h hw hwk hsz hsum
  go_enter Tryz.func24, Tryz.ntmps24
  go_wp2
  go_region_held3 (fun V => V.cell? ⟨W, 1, none⟩ = some (.string ⟨#[100, 100]⟩) ∧ V.cell? ⟨W, 6, none⟩ = some (.int .i64 ((k : Int) + 1))) (first | exact ⟨k1, k6⟩ | exact z3 | go_keep) (first | (go_at_call 37; (with_reducible refine HD.out.mono ?_); rintro e w3 ⟨wz, n4, ρ4, rfl, h42, h43, h44, h45, h46⟩; have hwk3 : Wn w3 W B (.pointer (some ⟨R, 0, none⟩)) cnt ⟨#[100, 100]⟩ arg reg ((k : Int) + 1) here text := (h46 W hP hWm).trans HWN.out; have z3 : w3.cell? ⟨W, 1, none⟩ = some (.string ⟨#[100, 100]⟩) ∧ w3.cell? ⟨W, 6, none⟩ = some (.int .i64 ((k : Int) + 1)) := ⟨by rw [blk_cell hwk3]; rfl, by rw [blk_cell hwk3]; rfl⟩; have H4 := Lib.hid (And.intro h42 (And.intro h43 (And.intro h44 (And.intro h45 h46)))); clear h42 h43 h44 h45 h46 hwk3))
  all_goals
    go_wp2
    go_ret
    exact ⟨wz, n4, ρ4, rfl, H4.out⟩

set_option maxRecDepth 100000 in
set_option maxHeartbeats 2000000 in
theorem nopen_any (h : Bf N0 w0 w B s) (hP : w0.P W) (hw : Wn w0.z W B vr cnt op arg reg 1 here text) {i : Nat} {a : Int} (ha : a = (i : Int) + 1) (hi : i ≤ s.ls.length) (hl : s.ls.length ≤ 1000) (hpos : 0 < s.ls.length) (hlg : arg.size ≤ 1000) (ho : s.opn.length ≤ 1000000) (hnm : s.nm < maxLen) :
    Calls Tryz.prog 43 #[.pointer (some ⟨W, 0, none⟩), .int .i64 a] w (BfPost N0 w0 B (putS (spliceS s i 0 [arg]) a) (.int .u16 0)) := by
  have hwk := h.wn hP hw
  have k2 : w.cell? ⟨W, 2, none⟩ = some (.string arg) := by rw [blk_cell hwk]; rfl
  have k6 : w.cell? ⟨W, 6, none⟩ = some (.int .i64 1) := by rw [blk_cell hwk]; rfl
  have hWl := blk_lt hwk
  have hmk : ∀ W : World, (Instr.makeSlice 23 (.int .i64 1) (.int .i64 1)).run Tryz.prog W = .ok (.slice (some ⟨W.heap.size, 0, none⟩) 1 1) (W.alloc (.cells #[.string ⟨#[]⟩] 9)) := fun _ => by kernel_rfl
  have HW := Lib.hid hw
  go_enter Tryz.func43, Tryz.ntmps43
  have HH := Lib.hid h
  clear h hw
  subst ha
  go_wp2
  go_loopw [6, 14] (fun v6 v14 wr => ∃ j : Nat, v14 = .int .i64 (j : Int) ∧ j ≤ 1 ∧ Below w.heap.size w wr ∧ wr.heap[w.heap.size]? = some (.cells #[.string (if j = 0 then ⟨#[]⟩ else arg)] 9 (0, 0))) (fun _ v14 _ => 1 - (intOf v14).toNat)
  case atStart => exact ⟨0, rfl, Nat.zero_le _, below_alloc (Below.refl _ w) _, World.alloc_heap_new w _⟩
  case round =>
    obtain ⟨j, rfl, hj, hb, hk⟩ := hrel
    have y2 : wr.cell? ⟨W, 2, none⟩ = some (.string arg) := by rw [blk_cell ((hb.block W hWl).trans hwk)]; rfl
    have y6 : wr.cell? ⟨W, 6, none⟩ = some (.int .i64 1) := by rw [blk_cell ((hb.block W hWl).trans hwk)]; rfl
    have HB := Lib.hid (And.intro hb hk)
    by_cases hlt : j = 0
    · subst hlt
      have f0 : wr.frozen? ⟨w.heap.size, 0, none⟩ = false := blk_frozen hk 0
      have c0 : wr.cell? ⟨w.heap.size, 0, none⟩ = some (.string ⟨#[]⟩) := by rw [blk_cell hk]; rfl
      clear hb hk
      go_wp2
      go_roundw
      case rel => exact ⟨1, rfl, Nat.le_refl _, HB.out.1.setCell (p := ⟨w.heap.size, 0, none⟩) (Nat.le_refl _) _, blk_set HB.out.2 0 (.string arg)⟩
      case measure => simp [intOf]
    · obtain rfl : j = 1 := by omega
      have hls := ls_blk (G := fun k => w.heap.size ≤ k) hk (Nat.le_refl _)
      have hlay := nlay_any (HH.out.new hb) hP HW.out hls (i := i) (a := (i : Int) + 1) (c := (i : Int) + 1) rfl hi (by simp only [List.length_singleton]; omega) hpos (long_one hlg) (by simp) (one_le (Nat.le_trans hlg (by decide))) ho hnm
      have HLAY := Lib.hid hlay
      clear hb hk hls hlay hlt
      go_wp2_with fail
      refine HLAY.out.mono ?_
      rintro e w3 ⟨rfl, h3⟩
      have H3 := Lib.hid h3
      clear h3
      go_wp2
      go_ret
      exact ⟨rfl, H3.out⟩
set_option maxRecDepth 100000 in
set_option maxHeartbeats 1000000 in
theorem does_o (h : Bf N0 w0 w B s) (hP : w0.P W) (hw : Wn w0.z W B vr cnt ⟨#[111]⟩ arg reg 1 here text) {i : Nat} (hh : here = (i : Int) + 1) (hi : i + 1 ≤ s.ls.length) (hl : s.ls.length ≤ 1000) (hlg : arg.size ≤ 1000) (ho : s.opn.length ≤ 1000000) (hnm : s.nm < maxLen) :
    Calls Tryz.prog 24 #[.pointer (some ⟨W, 0, none⟩)] w (BfPost N0 w0 B (putS (spliceS s (i + 1) 0 [arg]) ((i : Int) + 1 + 1)) (.int .u16 0)) := by
  have hwk := h.wn hP hw
  subst hh
  have k1 : w.cell? ⟨W, 1, none⟩ = some (.string ⟨#[111]⟩) := by rw [blk_cell hwk]; rfl
  have k7 : w.cell? ⟨W, 7, none⟩ = some (.int .i64 ((i : Int) + 1)) := by rw [blk_cell hwk]; rfl
  have hno := nopen_any h hP hw (i := i + 1) (a := (i : Int) + 1 + 1) (by omega) hi hl (by omega) hlg ho hnm
  have HO := Lib.hid hno
  clear h hw hwk hno
  go_enter Tryz.func24, Tryz.ntmps24
  go_wp2_with fail
  refine HO.out.mono ?_
  rintro e w3 ⟨rfl, h3⟩
  have H3 := Lib.hid h3
  clear h3
  go_wp2
  go_ret
  exact ⟨rfl, H3.out⟩
end
end Go.Proofs.YtdhemdeapphfoaaGreatDoor

/- norm's turn; does of the key ~: walked. -/
set_option linter.unusedVariables false
set_option linter.unusedSimpArgs false
namespace Go.Proofs.YtdhemdeapphfoaaGreatDoor
open Go.RowKit Go.Shelf Go.Maps Go.Proofs.YtdhemdeapphfoaaGreatDoorW.PrintWords Go.Proofs.YtdhemdeapphfoaaGreatDoorW.PrintLast

theorem mblk_set {w : World} {g : Nat} {t : TypeId} {cs : Array Value} {fz : Nat × Nat} (h : w.heap[g]? = some (.cells cs t fz)) (i : Nat) (u : Value) : (w.setCell ⟨g, i, none⟩ u).heap[g]? = some (.cells (cs.setIfInBounds i u) t fz) := by
  simp [World.setCell, Array.getElem?_modify, h]
theorem mblk_cell {w : World} {g : Nat} {t : TypeId} {cs : Array Value} {fz : Nat × Nat} (h : w.heap[g]? = some (.cells cs t fz)) (i : Nat) : w.cell? ⟨g, i, none⟩ = cs[i]? := cell_of_row w g i cs t fz h
theorem mblk_frozen {w : World} {g : Nat} {t : TypeId} {cs : Array Value} {a b : Nat} (h : w.heap[g]? = some (.cells cs t (a, b))) (i : Nat) (hi : i < a) : w.frozen? ⟨g, i, none⟩ = false := by
  simp [World.frozen?, h]
  omega
theorem bytesRow_at {s : ByteArray} {cap i : Nat} (h : i < s.size) : (bytesRow s cap)[i]? = some (.int .u8 (s[i].toNat : Int)) := by
  unfold bytesRow
  rw [Array.getElem?_append_left (by simpa using h)]
  simp [h]
  rfl
theorem bytesRow_size {s : ByteArray} {cap : Nat} (h : s.size ≤ cap) : (bytesRow s cap).size = cap := by
  unfold bytesRow
  simp
  omega
theorem flipT_at {t : ByteArray} {j i : Nat} (h : i < t.size) (h' : i < (flipT j t).size) : (flipT j t)[i] = if i < j then flipU t[i] else t[i] := by
  have h1 := flipN_at j t.data.toList i
  have h2 : (flipT j t).data.toList[i]? = some (flipT j t)[i] := by
    rw [Array.getElem?_toList]
    exact Array.getElem?_eq_getElem h'
  have h3 : t.data.toList[i]? = some t[i] := by
    rw [Array.getElem?_toList]
    exact Array.getElem?_eq_getElem h
  rw [h3] at h1
  change (flipN j t.data.toList)[i]? = _ at h2
  rw [h1] at h2
  exact (Option.some.inj h2).symm
theorem flipRow_step {t : ByteArray} {cap k : Nat} (hk : k < t.size) (hc : t.size ≤ cap) : (bytesRow (flipT k t) cap).setIfInBounds k (.int .u8 ((flipU t[k]).toNat : Int)) = bytesRow (flipT (k + 1) t) cap := by
  have s1 := flipT_size k t
  have s2 := flipT_size (k + 1) t
  apply Array.ext
  · rw [Array.size_setIfInBounds, bytesRow_size (by omega), bytesRow_size (by omega)]
  · intro i h1 h2
    rw [Array.size_setIfInBounds, bytesRow_size (by omega)] at h1
    have e1 : ((bytesRow (flipT k t) cap).setIfInBounds k (.int .u8 ((flipU t[k]).toNat : Int)))[i]? = (bytesRow (flipT (k + 1) t) cap)[i]? := by
      rw [Array.getElem?_setIfInBounds]
      by_cases hi : i < t.size
      · rw [bytesRow_at (s := flipT (k + 1) t) (by omega), flipT_at hi (by omega)]
        by_cases he : k = i
        · subst he
          rw [if_pos rfl, if_pos (by rw [bytesRow_size (by omega)]; omega), if_pos (by omega)]
        · rw [if_neg he, bytesRow_at (by omega), flipT_at hi (by omega)]
          by_cases hl : i < k
          · rw [if_pos hl, if_pos (by omega)]
          · rw [if_neg hl, if_neg (by omega)]
      · rw [if_neg (by omega)]
        unfold bytesRow
        rw [Array.getElem?_append_right (by simp; omega), Array.getElem?_append_right (by simp; omega)]
        simp [s1, s2]
    rw [Array.getElem?_eq_getElem (by rw [Array.size_setIfInBounds, bytesRow_size (by omega)]; exact h1), Array.getElem?_eq_getElem h2] at e1
    exact Option.some.inj e1
theorem flipT_zero (t : ByteArray) : flipT 0 t = t := by
  apply ByteArray.ext
  rw [← Array.toList_inj]
  simp [flipT, flipN]
theorem flipT_all {t : ByteArray} {j k : Nat} (h1 : t.size ≤ j ∨ j = k) (h2 : k = min j t.size) : flipT k t = flipT j t := by
  rcases h1 with h1 | rfl
  · apply ByteArray.ext
    rw [← Array.toList_inj]
    have hs : t.data.toList.length = t.size := Array.length_toList
    simp only [flipT, flipN]
    rw [List.take_of_length_le (by omega), List.take_of_length_le (by omega), List.drop_of_length_le (by omega), List.drop_of_length_le (by omega)]
  · rfl

section
variable {N0 : Nat} {w0 : Base} {w w' : World} {B R mb W : Nat} {s : Bs} {vr : Value} {cnt reg n here : Int} {op arg text : ByteArray} {ρ : Int → Option Value}
set_option maxRecDepth 100000 in
set_option maxHeartbeats 1000000 in
theorem nturn_none (h : Bf N0 w0 w B s) (hP : w0.P W) (hw : Wn w0.z W B vr cnt op arg reg n here ⟨#[]⟩) :
    Calls Tryz.prog 40 #[.pointer (some ⟨W, 0, none⟩)] w fun e w' => e = .returned (.int .u16 190) ∧ w' = w := by
  have g8 : w.cell? ⟨W, 8, none⟩ = some (.string ⟨#[]⟩) := by rw [blk_cell (h.wn hP hw)]; rfl
  clear h hw
  go_enter Tryz.func40, Tryz.ntmps40
  go_wp2_with fail
  go_ret
  exact ⟨rfl, rfl⟩
set_option maxRecDepth 100000 in
set_option maxHeartbeats 2000000 in
theorem nturn_some (h : Bf N0 w0 w B s) (hP : w0.P W) (hw : Wn w0.z W B vr cnt op arg reg 9 here text) (ht : text.size ≠ 0) (ht2 : text.size ≤ 1000) {i : Nat} (hh : here = (i : Int) + 1) (hi : i + 1 ≤ s.ls.length) (hl : s.ls.length ≤ 1500) (ho : s.opn.length ≤ 1000000) (hnm : s.nm < maxLen) :
    Calls Tryz.prog 40 #[.pointer (some ⟨W, 0, none⟩)] w (BfPost N0 w0 B (putS (spliceS s i 1 [flipT 9 text]) here) (.int .u16 0)) := by
  have hwk := h.wn hP hw
  have g8 : w.cell? ⟨W, 8, none⟩ = some (.string text) := by rw [blk_cell hwk]; rfl
  have hWl := blk_lt hwk
  have e1 : text.toList.isEmpty = false := by
    rw [ByteArray.toList_eq]
    cases h9 : text.data.toList with
    | nil => exact absurd (show text.data.size = 0 by rw [← Array.length_toList, h9]; rfl) ht
    | cons a b => rfl
  obtain ⟨cap, V, hcap, hVb, hVg, hkc⟩ : ∃ cap V, text.size ≤ cap ∧ Below w.heap.size w V ∧ V.heap[w.heap.size]? = some (.cells (bytesRow text cap) 5 (cap, cap + 1)) ∧ (convert 9 129 (.string text)).run Tryz.prog w = .ok (.slice (some ⟨w.heap.size, 0, none⟩) text.size cap) V := by
    have hge := grownCap_ge w text.size 0 5
    refine ⟨grownCap w text.size 0 5, _, hge, below_alloc (Below.refl w.heap.size w).drew _, ?_, run_bytes_of_string w 9 129 5 text Tryz.underlying9 Tryz.underlying129 Tryz.underlying5⟩
    rw [bytesRow_size hge]
    exact World.alloc_heap_new w.drew _
  have g6 : V.cell? ⟨W, 6, none⟩ = some (.int .i64 9) := by rw [blk_cell ((hVb.block W hWl).trans hwk)]; rfl
  obtain ⟨p, hp⟩ : ∃ p, min 9 text.size = p := ⟨_, rfl⟩
  have hp1 : min (9 : Int) (text.size : Int) = (p : Int) := by omega
  have hp2 : (p : Int) ≤ (cap : Int) := by omega
  have HV := Lib.hid (And.intro hVb hVg)
  have HH := Lib.hid (And.intro h (And.intro hw hwk))
  clear h hw hwk hVb hVg
  go_enter Tryz.func40, Tryz.ntmps40
  go_wp2
  go_loopw [4, 5, 26] (fun v4 v5 v26 wr => ∃ k : Nat, v26 = .int .i64 (k : Int) ∧ k ≤ p ∧ Below w.heap.size w wr ∧ wr.heap[w.heap.size]? = some (.cells (bytesRow (flipT k text) cap) 5 (cap, cap + 1))) (fun _ _ v26 _ => p - (intOf v26).toNat)
  case atStart => exact ⟨0, rfl, Nat.zero_le _, HV.out.1, by rw [flipT_zero]; exact HV.out.2⟩
  case round =>
    obtain ⟨k, rfl, hk, hb, hg⟩ := hrel
    by_cases hlt : k < p
    · have hlt' : (k : Int) < p := by omega
      have hkt : k < text.size := by omega
      have sz := flipT_size k text
      have c0 : wr.cell? ⟨w.heap.size, k, none⟩ = some (.int .u8 (text[k].toNat : Int)) := by
        rw [mblk_cell hg, bytesRow_at (by omega), flipT_at hkt (by omega), if_neg (by omega)]
      have f0 : wr.frozen? ⟨w.heap.size, k, none⟩ = false := mblk_frozen hg k (by omega)
      have hst := flipRow_step hkt hcap
      have q1 := mblk_set hg k (.int .u8 (greatI (text[k].toNat : Int)))
      have f1 : (wr.setCell ⟨w.heap.size, k, none⟩ (.int .u8 (greatI (text[k].toNat : Int)))).frozen? ⟨w.heap.size, k, none⟩ = false := mblk_frozen q1 k (by omega)
      have c1 : (wr.setCell ⟨w.heap.size, k, none⟩ (.int .u8 (greatI (text[k].toNat : Int)))).cell? ⟨w.heap.size, k, none⟩ = some (.int .u8 (greatI (text[k].toNat : Int))) := by
        rw [mblk_cell q1, Array.getElem?_setIfInBounds, if_pos rfl, if_pos (by rw [bytesRow_size (by omega)]; omega)]
      have q2 := mblk_set q1 k (.int .u8 (smallI (text[k].toNat : Int)))
      rw [Array.setIfInBounds_setIfInBounds] at q2
      have HG := Lib.hid (Great_b (text[k].toNat : Int))
      have HS := Lib.hid (Small_b (text[k].toNat : Int))
      have hf1 := flip_great text[k]
      have hf2 := flip_small text[k]
      have HB := Lib.hid hb
      by_cases he : greatI (text[k].toNat : Int) = text[k].toNat
      · rw [hf2 he] at hst
        rw [hst] at q2
        have HQ := Lib.hid q2
        have he' : (greatI (text[k].toNat : Int) == (text[k].toNat : Int)) = true := by rw [beq_iff_eq]; exact he
        clear hf1 hf2 q1 q2 hst hg hb he
        go_wp2_with (first
          | (go_at_call 61; refine (HG.out _).mono ?_; rintro e w1 ⟨rfl, rfl⟩)
          | (go_at_call 26; refine (HS.out _).mono ?_; rintro e w1 ⟨rfl, rfl⟩))
        go_roundw
        case rel => exact ⟨k + 1, by go_num, by omega, (HB.out.setCell (p := ⟨w.heap.size, k, none⟩) (Nat.le_refl _) _).setCell (p := ⟨w.heap.size, k, none⟩) (Nat.le_refl _) _, HQ.out⟩
        case measure => simp [intOf]; omega
      · rw [hf1 he] at hst
        rw [hst] at q1
        have HQ := Lib.hid q1
        have he' : (greatI (text[k].toNat : Int) == (text[k].toNat : Int)) = false := by rw [beq_eq_false_iff_ne]; exact he
        clear hf1 hf2 q1 q2 hst hg hb he
        go_wp2_with (first
          | (go_at_call 61; refine (HG.out _).mono ?_; rintro e w1 ⟨rfl, rfl⟩)
          | (go_at_call 26; refine (HS.out _).mono ?_; rintro e w1 ⟨rfl, rfl⟩))
        go_roundw
        case rel => exact ⟨k + 1, by go_num, by omega, HB.out.setCell (p := ⟨w.heap.size, k, none⟩) (Nat.le_refl _) _, HQ.out⟩
        case measure => simp [intOf]; omega
    · obtain rfl : k = p := by omega
      have hlt' : ¬ ((k : Int) < k) := by omega
      have sz := flipT_size k text
      have hsz : (flipT k text).data.toList.length = text.size := by rw [Array.length_toList]; exact sz
      have hback : (convert 129 9 (.slice (some ⟨w.heap.size, 0, none⟩) text.size cap)).run Tryz.prog wr = .ok (.string (flipT k text)) wr := by
        have h9 := run_convert_bytes_back (P := Tryz.prog) wr 129 9 5 ⟨w.heap.size, 0, none⟩ cap (flipT k text).data.toList Tryz.underlying129 Tryz.underlying5 Tryz.underlying9 (fun j hj => by
          rw [show (⟨w.heap.size, 0, none⟩ : Addr).add j = ⟨w.heap.size, j, none⟩ by simp [Addr.add]; exact fun h => h.symm]
          rw [mblk_cell hg, bytesRow_at (by omega)]
          rfl)
        rw [hsz] at h9
        exact h9
      rw [flipT_all (j := 9) (k := k) (by omega) (by omega)] at hback
      have hz9 := flipT_size 9 text
      have hset := nset_any (HH.out.1.new (below_alloc hb (.cells #[.string (flipT 9 text)] 9))) hP HH.out.2.1 (ls_one wr (flipT 9 text)) hh hi (by show s.ls.length + 1 ≤ _; omega) (by omega) (long_one (by omega)) (one_le (by omega)) ho hnm
      rw [show sputs s.ls.length 1 [flipT 9 text] = [flipT 9 text] from if_neg (by simp)] at hset
      have HSET := Lib.hid hset
      clear hset hg hb
      go_wp2_with fail
      refine HSET.out.mono ?_
      rintro e w3 ⟨rfl, h3⟩
      have H3 := Lib.hid h3
      clear h3
      go_wp2
      go_ret
      exact ⟨rfl, H3.out⟩
end
end Go.Proofs.YtdhemdeapphfoaaGreatDoor

/- norm's row, paste ahead; does of the keys P, ~: walked. -/
set_option linter.unusedVariables false
set_option linter.unusedSimpArgs false
namespace Go.Proofs.YtdhemdeapphfoaaGreatDoor
open Go.RowKit Go.Shelf Go.Maps Go.Proofs.YtdhemdeapphfoaaGreatDoorW.PrintWords Go.Proofs.YtdhemdeapphfoaaGreatDoorW.PrintLast

section
variable {N0 : Nat} {w0 : Base} {w w' : World} {B R mb W : Nat} {s : Bs} {vr : Value} {cnt reg n here : Int} {op arg text : ByteArray} {ρ : Int → Option Value}
def NRowPost (w : World) (ys : List ByteArray) (e : Ending) (w' : World) : Prop := ∃ v, e = .returned v ∧ Own w.heap.size w w' v ys
set_option maxRecDepth 100000 in
set_option maxHeartbeats 2000000 in
theorem nrow_whole {w : World} {W B : Nat} (hw : Wn w W B vr cnt op arg reg 1 here text) {G : Nat → Prop} {A : Option Addr} {c : Nat} {ys : List ByteArray} (hv : Ls w G (.slice A ys.length c) ys) (hy0 : 0 < ys.length) (hyl : ys.length ≤ 300) :
    Calls Tryz.prog 58 #[.pointer (some ⟨W, 0, none⟩), .agg #[.slice A ys.length c, .bool true]] w (NRowPost w ys) := by
  have hWl := blk_lt hw
  obtain ⟨i0, hi0, hz0, hz1, hz2⟩ := info_parts infoS
  have HINF := Lib.hid (And.intro hi0 (And.intro hz0 (And.intro hz1 hz2)))
  clear hi0 hz0 hz1 hz2
  have hb0 : Below w.heap.size w (w.alloc (.cells #[.slice A ys.length c, .bool true] 48)) := below_alloc (Below.refl _ w) _
  have hk0 : (w.alloc (.cells #[.slice A ys.length c, .bool true] 48)).heap[w.heap.size]? = some (.cells #[.slice A ys.length c, .bool true] 48 (0, 0)) := World.alloc_heap_new w _
  have g6 : (w.alloc (.cells #[.slice A ys.length c, .bool true] 48)).cell? ⟨W, 6, none⟩ = some (.int .i64 1) := by rw [blk_cell ((hb0.block W hWl).trans hw)]; rfl
  have HB0 := Lib.hid (And.intro hb0 hk0)
  have HV := Lib.hid hv
  have HWN := Lib.hid hw
  clear hb0 hk0 hv hw
  go_enter Tryz.func58, Tryz.ntmps58
  obtain ⟨W1, hW1⟩ : ∃ W1, w.alloc (.cells #[.slice A ys.length c, .bool true] 48) = W1 := ⟨_, rfl⟩
  rw [hW1] at g6 HB0
  have HW1 := Lib.hid hW1
  go_wp2
  try rw [hW1]
  clear hW1
  go_loopw [5, 6, 7, 13] (fun v5 v6 v7 v13 wr => ∃ j : Nat, v13 = .int .i64 (j : Int) ∧ j ≤ 1 ∧ Own W1.heap.size W1 wr v5 (if j = 0 then [] else ys)) (fun _ _ _ v13 _ => 1 - (intOf v13).toNat)
  case atStart => exact ⟨0, rfl, Nat.zero_le _, Rw.nil _ _, fun b hb => (by cases hb), Below.refl _ _⟩
  case round =>
    obtain ⟨j, rfl, hj, hrw, hrN, hbl⟩ := hrel
    have hk := (hbl.block w.heap.size (blk_lt HB0.out.2)).trans HB0.out.2
    obtain ⟨X, hX⟩ : ∃ X, w.heap.size = X := ⟨_, rfl⟩
    rw [hX] at hk
    have x0 : wr.cell? ⟨X, 0, none⟩ = some (.slice A ys.length c) := by rw [blk_cell hk]; rfl
    have x1 : wr.cell? ⟨X, 1, none⟩ = some (.bool true) := by rw [blk_cell hk]; rfl
    by_cases hlt : j = 0
    · subst hlt
      rw [if_pos rfl] at hrw
      obtain ⟨A0, c0, hv0, hl0, hm0, _⟩ := hrw.slice
      change _ = Value.slice A0 0 c0 at hv0
      subst hv0
      have HLS := Lib.hid ((HV.out.step (w' := wr) (Nat.le_trans HB0.out.1.size hbl.size) fun b hb _ => (hbl.block b (Nat.lt_of_lt_of_le hb HB0.out.1.size)).trans (HB0.out.1.block b hb)))
      have HRW := Lib.hid hrw
      have HRN := Lib.hid hrN
      have HBl := Lib.hid hbl
      clear hrw hrN hbl hk
      try rw [hX]
      go_wp2_with (at_builtin; refine wpList_append_rw (v := .slice A0 0 c0) (cs := cS []) _ rfl _ _ 23 23 rfl 9 i0 (.string ⟨#[]⟩) 16 Tryz.underlying23 HINF.out.1 HINF.out.2.1 HINF.out.2.2.1 HINF.out.2.2.2 rfl rfl HRW.out (.slice A ys.length c) ys.length (cS ys) rfl (HLS.out.src Tryz.underlying23) ?c1 ?c2 ?_; rotate_left 2; intro v1 w1 hr1 hg1 ha1; have HR1 := Lib.hid hr1; have HG1 := Lib.hid hg1; have HA1 := Lib.hid ha1; clear hr1 hg1 ha1)
      case c1 => rw [cS_len]; simp; omega
      case c2 => rw [cS_len]; simp; omega
      have h5 := HR1.out
      rw [show cS [] ++ cS ys = cS ys from rfl] at h5
      have h6 : ∀ b, v1.ownBlock = some b → W1.heap.size ≤ b := HA1.out.from HRN.out HBl.out.size
      have h7 : Below W1.heap.size W1 w1 := HBl.out.grown HG1.out HBl.out.size HRN.out
      have H5 := Lib.hid (And.intro h5 (And.intro h6 h7))
      clear h5 h6 h7
      go_roundw
      case rel => exact ⟨1, rfl, Nat.le_refl _, H5.out.1, H5.out.2.1, H5.out.2.2⟩
      case measure => simp [intOf]
    · obtain rfl : j = 1 := by omega
      rw [if_neg (by decide)] at hrw
      have HRW := Lib.hid hrw
      have HRN := Lib.hid hrN
      have HBl := Lib.hid hbl
      clear hrw hrN hbl hk hlt
      go_wp2
      go_ret
      exact ⟨_, rfl, HRW.out, fun b hb => Nat.le_trans HB0.out.1.size (HRN.out b hb), below_then HB0.out.1 HB0.out.1.size HBl.out⟩

set_option maxRecDepth 100000 in
set_option maxHeartbeats 2000000 in
theorem npaste_P {m : Nat} (h : Ed N0 w0 w B R mb s m ρ) {v : Value} {ys : List ByteArray} (hρ : ρ 34 = some (.agg #[v, .bool true])) (hv : Ls w w0.P v ys) (hy0 : 0 < ys.length) (hyl : s.ls.length + ys.length ≤ 1000) (hyl3 : ys.length ≤ 300) (hlg : isLong ys = false) (hyx : ∀ x ∈ ys, x.size ≤ 1000) {i : Nat} (hP : w0.P W) (hw : Wn w0.z W B (.pointer (some ⟨R, 0, none⟩)) cnt op arg 34 1 ((i : Int) + 1) text) (hi : i ≤ s.ls.length) (hpos : 0 < s.ls.length) (ho : s.opn.length ≤ 1000000) (hnm : s.nm < maxLen) :
    Calls Tryz.prog 38 #[.pointer (some ⟨W, 0, none⟩), .bool true] w (BfPost N0 w0 B (putS (spliceS s i 0 ys) ((i : Int) + 1)) (.int .u16 0)) := by
  have hwk := h.bf.wn hP hw
  have hWl := blk_lt hwk
  have HGT := Lib.hid (fun V (hb : Below w.heap.size w V) => rget_gen (h.rg.step hb) (c := 34) (by omega) (by omega) Small_34 Known_34 hρ (hv.step hb.size fun b hlt _ => hb.block b hlt) hy0 (by omega))
  have HS := Lib.hid (show ∀ V, Below w.heap.size w V → (V.cell? ⟨W, 4, none⟩ = some (.pointer (some ⟨R, 0, none⟩)) ∧ V.cell? ⟨W, 5, none⟩ = some (.int .u8 34)) ∧ V.cell? ⟨W, 7, none⟩ = some (.int .i64 ((i : Int) + 1)) ∧ Wn V W B (.pointer (some ⟨R, 0, none⟩)) cnt op arg 34 1 ((i : Int) + 1) text from fun V hb => by
    have h9 := (hb.block W hWl).trans hwk
    exact ⟨⟨by rw [blk_cell h9]; rfl, by rw [blk_cell h9]; rfl⟩, by rw [blk_cell h9]; rfl, h9⟩)
  have y11 := (HS.out _ (Below.refl _ w)).1
  have HH := Lib.hid h
  have HW := Lib.hid hw
  have HYS := Lib.hid (And.intro hlg hyx)
  have hal : Below w.heap.size w (w.alloc (.cells #[.slice none 0 0, .bool false] 48)).drew := (below_alloc (Below.refl _ w) _).drew
  have hsz : (w.alloc (.cells #[.slice none 0 0, .bool false] 48)).drew.heap.size = w.heap.size + 1 := by simp
  have e0 : (w.alloc (.cells #[.slice none 0 0, .bool false] 48)).drew.heap[w.heap.size]? = some (.cells #[.slice none 0 0, .bool false] 48 (0, 0)) := World.alloc_heap_new w _
  have HBC := Lib.hid ((Below.refl w.heap.size w).drew)
  have HAL := Lib.hid (And.intro hal (And.intro hsz e0))
  have z11 := (HS.out _ hal).1
  clear h hw hwk hv hρ hlg hyx hal hsz e0
  go_enter Tryz.func38, Tryz.ntmps38
  go_wp2
  go_region_held3 (fun V => V.cell? ⟨W, 4, none⟩ = some (.pointer (some ⟨R, 0, none⟩)) ∧ V.cell? ⟨W, 5, none⟩ = some (.int .u8 34)) (first | exact z11 | exact y11 | exact x11 | exact u11 | go_keep) (first
    | (go_at_call 14; (with_reducible refine (HGT.out _ HBC.out).mono ?_); rintro e w3 ⟨v3, rfl, h31, h32, h33⟩; obtain ⟨A3, c3, hv3, _⟩ := h31.slice; rw [cS_len] at hv3; subst hv3; have x11 := (HS.out _ (below_then HBC.out HBC.out.size h33)).1; have H3 := Lib.hid (And.intro h31 (And.intro h32 h33)); clear h31 h32 h33)
    | (go_at_call 14; (with_reducible refine (HGT.out _ HAL.out.1).mono ?_); rintro e w3 ⟨v3, rfl, h31, h32, h33⟩; obtain ⟨A3, c3, hv3, _⟩ := h31.slice; rw [cS_len] at hv3; subst hv3; have x11 := (HS.out _ (below_then HAL.out.1 HAL.out.1.size h33)).1; have f0 : w3.heap[w.heap.size]? = some (.cells #[.slice none 0 0, .bool false] 48 (0, 0)) := (h33.block _ (by rw [HAL.out.2.1]; omega)).trans HAL.out.2.2; have g0 : w3.frozen? ⟨w.heap.size, 0, none⟩ = false := blk_frozen f0 0; have g1 : w3.frozen? ⟨w.heap.size, 1, none⟩ = false := blk_frozen f0 1; have d0 : w3.cell? ⟨w.heap.size, 0, none⟩ = some (.slice none 0 0) := (by rw [blk_cell f0]; rfl); have d1 : w3.cell? ⟨w.heap.size, 1, none⟩ = some (.bool false) := (by rw [blk_cell f0]; rfl); have u11 : ((w3.setCell ⟨w.heap.size, 0, none⟩ (.slice A3 ys.length c3)).setCell ⟨w.heap.size, 1, none⟩ (.bool true)).cell? ⟨W, 4, none⟩ = some (.pointer (some ⟨R, 0, none⟩)) ∧ ((w3.setCell ⟨w.heap.size, 0, none⟩ (.slice A3 ys.length c3)).setCell ⟨w.heap.size, 1, none⟩ (.bool true)).cell? ⟨W, 5, none⟩ = some (.int .u8 34) := (by constructor <;> (rw [World.cell?_setCell_other _ _ _ _ (by simp; try omega), World.cell?_setCell_other _ _ _ _ (by simp; try omega)]) ; exact x11.1; exact x11.2); have H3 := Lib.hid (And.intro h31 (And.intro h32 (And.intro h33 f0))); clear h31 h32 h33 f0))
  all_goals
    first
      | (have hq := paste_a H3.out.1 H3.out.2.2
         obtain ⟨W4, hW4⟩ : ∃ W4, (w3.alloc (.cells #[.slice A3 ys.length c3, .bool true] 48)) = W4 := ⟨_, rfl⟩
         obtain ⟨X, hX⟩ : ∃ X, w3.heap.size = X := ⟨_, rfl⟩)
      | (have hq := paste_b (below_then HAL.out.1 HAL.out.1.size H3.out.2.2.1) H3.out.1 (fun k hk => by have := H3.out.2.1 k hk; rw [HAL.out.2.1] at this; exact this) H3.out.2.2.2
         obtain ⟨W4, hW4⟩ : ∃ W4, (w3.setCell ⟨w.heap.size, 0, none⟩ (.slice A3 ys.length c3)).setCell ⟨w.heap.size, 1, none⟩ (.bool true) = W4 := ⟨_, rfl⟩
         obtain ⟨X, hX⟩ : ∃ X, w.heap.size = X := ⟨_, rfl⟩)
    rw [hW4] at hq ⊢
    have HW0 := Lib.hid hW4
    clear hW4
    have hq2 := hq.2.1
    rw [hX] at hq2
    have HX := Lib.hid hX
    have x0 : W4.cell? ⟨X, 0, none⟩ = some (.slice A3 ys.length c3) := by rw [blk_cell hq2]; rfl
    have x1 : W4.cell? ⟨X, 1, none⟩ = some (.bool true) := by rw [blk_cell hq2]; rfl
    have hrow := nrow_whole (HS.out _ hq.1).2.2 hq.2.2 hy0 hyl3
    have HROW := Lib.hid hrow
    have HQ := Lib.hid hq
    have hxl := blk_lt hq2
    have HED := Lib.hid (HH.out.new hq.1)
    clear hrow
    first | rw [hX] | skip
    go_wp2_with fail
    refine HROW.out.mono ?_
    rintro e w5 ⟨v5, rfl, h51, h52, h53⟩
    obtain ⟨A5, c5, hv5, _⟩ := h51.slice
    rw [cS_len] at hv5
    subst hv5
    have q5 := (h53.block X hxl).trans hq2
    have p1 : w5.cell? ⟨X, 1, none⟩ = some (.bool true) := by rw [blk_cell q5]; rfl
    have hb5 := below_then HQ.out.1 HQ.out.1.size h53
    have v7 := (HS.out _ hb5).2.1
    have hlay := nlay_any (HH.out.bf.new (hb5.drew)) hP HW.out ((Ls.of_rw h51).step (w' := w5.drew) (Nat.le_refl _) fun _ _ _ => rfl) (i := i) (a := (i : Int) + 1) (c := (i : Int) + 1) rfl hi (by omega) hpos HYS.out.1 hy0 (fun x hx => Nat.le_trans (HYS.out.2 x hx) (by decide)) ho hnm
    have HLAY := Lib.hid hlay
    clear hlay h51 h52 h53 q5 hb5 hq hq2 x0 x1
    go_wp2
    go_region_held3 (fun V => V.cell? ⟨W, 7, none⟩ = some (.int .i64 ((i : Int) + 1))) (first | exact v7 | exact u7 | go_keep) (first | (go_at_call 59; (with_reducible refine HLAY.out.mono ?_); rintro e w6 ⟨rfl, h6⟩; have u7 : w6.cell? ⟨W, 7, none⟩ = some (.int .i64 ((i : Int) + 1)) := (by rw [blk_cell (h6.wn hP HW.out)]; rfl); have H6 := Lib.hid h6; clear h6))
    all_goals
      go_wp2
      go_ret
      exact ⟨rfl, H6.out⟩

set_option maxRecDepth 100000 in
set_option maxHeartbeats 1000000 in
theorem does_t0 (h : Bf N0 w0 w B s) (hP : w0.P W) (hw : Wn w0.z W B vr cnt ⟨#[126]⟩ arg reg n here ⟨#[]⟩) :
    Calls Tryz.prog 24 #[.pointer (some ⟨W, 0, none⟩)] w fun e w' => e = .returned (.int .u16 190) ∧ Below w.heap.size w w' := by
  have hwk := h.wn hP hw
  have k1 : w.cell? ⟨W, 1, none⟩ = some (.string ⟨#[126]⟩) := by rw [blk_cell hwk]; rfl
  have HC := Lib.hid (nturn_none h hP hw)
  clear h hw hwk
  go_enter Tryz.func24, Tryz.ntmps24
  go_wp2_with fail
  refine HC.out.mono ?_
  rintro e w2 ⟨rfl, rfl⟩
  go_wp2
  go_ret
  exact ⟨rfl, Below.refl _ _⟩
set_option maxRecDepth 100000 in
set_option maxHeartbeats 1000000 in
theorem does_t (h : Bf N0 w0 w B s) (hP : w0.P W) (hw : Wn w0.z W B vr cnt ⟨#[126]⟩ arg reg 9 here text) (ht : text.size ≠ 0) (ht2 : text.size ≤ 1000) {i : Nat} (hh : here = (i : Int) + 1) (hi : i + 1 ≤ s.ls.length) (hl : s.ls.length ≤ 1500) (ho : s.opn.length ≤ 1000000) (hnm : s.nm < maxLen) :
    Calls Tryz.prog 24 #[.pointer (some ⟨W, 0, none⟩)] w (BfPost N0 w0 B (putS (spliceS s i 1 [flipT 9 text]) here) (.int .u16 0)) := by
  have hwk := h.wn hP hw
  have k1 : w.cell? ⟨W, 1, none⟩ = some (.string ⟨#[126]⟩) := by rw [blk_cell hwk]; rfl
  have HC := Lib.hid (nturn_some h hP hw ht ht2 hh hi hl ho hnm)
  clear h hw hwk
  go_enter Tryz.func24, Tryz.ntmps24
  go_wp2_with fail
  refine HC.out.mono ?_
  rintro e w2 ⟨rfl, h2⟩
  have H2 := Lib.hid h2
  clear h2
  go_wp2
  go_ret
  exact ⟨rfl, H2.out⟩
set_option maxRecDepth 100000 in
set_option maxHeartbeats 1000000 in
theorem does_P {m : Nat} (h : Ed N0 w0 w B R mb s m ρ) {v : Value} {ys : List ByteArray} (hρ : ρ 34 = some (.agg #[v, .bool true])) (hv : Ls w w0.P v ys) (hy0 : 0 < ys.length) (hyl : s.ls.length + ys.length ≤ 1000) (hyl3 : ys.length ≤ 300) (hlg : isLong ys = false) (hyx : ∀ x ∈ ys, x.size ≤ 1000) {i : Nat} (hP : w0.P W) (hw : Wn w0.z W B (.pointer (some ⟨R, 0, none⟩)) cnt ⟨#[80]⟩ arg 34 1 ((i : Int) + 1) text) (hi : i ≤ s.ls.length) (hpos : 0 < s.ls.length) (ho : s.opn.length ≤ 1000000) (hnm : s.nm < maxLen) :
    Calls Tryz.prog 24 #[.pointer (some ⟨W, 0, none⟩)] w (BfPost N0 w0 B (putS (spliceS s i 0 ys) ((i : Int) + 1)) (.int .u16 0)) := by
  have hwk := h.bf.wn hP hw
  have k1 : w.cell? ⟨W, 1, none⟩ = some (.string ⟨#[80]⟩) := by rw [blk_cell hwk]; rfl
  have HC := Lib.hid (npaste_P h hρ hv hy0 hyl hyl3 hlg hyx hP hw hi hpos ho hnm)
  clear h hw hwk hv hρ
  go_enter Tryz.func24, Tryz.ntmps24
  go_wp2_with fail
  refine HC.out.mono ?_
  rintro e w2 ⟨rfl, h2⟩
  have H2 := Lib.hid h2
  clear h2
  go_wp2
  go_ret
  exact ⟨rfl, H2.out⟩
end
end Go.Proofs.YtdhemdeapphfoaaGreatDoor

/- norm.Do of the keys dd, P, o, ~ by what they do to the lines. -/
set_option linter.unusedVariables false
set_option linter.unusedSimpArgs false
namespace Go.Proofs.YtdhemdeapphfoaaGreatDoor
open Go.RowKit Go.Shelf Go.Maps Go.Proofs.YtdhemdeapphfoaaGreatDoorW.PrintWords Go.Proofs.YtdhemdeapphfoaaGreatDoorW.PrintLast

/-- a text, told by its lines and its cursor; its registers; what is in the one without a name -/
def NEq (N0 : Nat) (wb w : World) (B R mb : Nat) (X : List ByteArray) (k q m : Nat) (Y : Option (List ByteArray)) : Prop :=
  ∃ (w0 : Base) (s : Bs) (n : Nat) (ρ : Int → Option Value), w0.w = wb ∧ Ed N0 w0 w B R mb s n ρ ∧ s.ls = X ∧ s.cur = (k : Int) ∧ s.opn.length ≤ q ∧ s.nm = 0 ∧ n ≤ m ∧ ∀ ys, Y = some ys → ∃ v, ρ 34 = some (.agg #[v, .bool true]) ∧ Ls w w0.P v ys
theorem mem_splice0 {X : List ByteArray} {i k : Nat} {t x : ByteArray} (h : x ∈ Bt.splice X i k [t]) : x ∈ X ∨ x = t := by
  unfold Bt.splice at h
  rcases List.mem_append.1 h with h | h
  · exact .inl (List.mem_of_mem_take h)
  · rcases List.mem_append.1 h with h | h
    · exact .inr (by simpa using h)
    · exact .inl (List.mem_of_mem_drop h)
theorem sum_splice0 (X : List ByteArray) (i : Nat) (t : ByteArray) : sumS (Bt.splice X i 0 [t]) = sumS X + (t.size + 1) := by
  unfold Bt.splice
  rw [sumS_app, sumS_app, Nat.add_zero, show sumS [t] = t.size + 1 from rfl]
  have : sumS X = sumS (X.take i) + sumS (X.drop i) := by rw [← sumS_app, List.take_append_drop]
  omega
section
variable {N0 : Nat} {wb w w' : World} {B R mb k q m : Nat} {X : List ByteArray} {Y : Option (List ByteArray)}
theorem NEq.new (h : NEq N0 wb w B R mb X k q m Y) (hb : Below w.heap.size w w') : NEq N0 wb w' B R mb X k q m Y := by
  obtain ⟨w0, s, n, ρ, h1, h2, h3, h4, h5, h6, h7, h8⟩ := h
  exact ⟨w0, s, n, ρ, h1, h2.new hb, h3, h4, h5, h6, h7, fun ys hy => by
    obtain ⟨v, a, b⟩ := h8 ys hy
    exact ⟨v, a, b.step hb.size fun c hc _ => hb.block c hc⟩⟩
theorem NEq.below (h : NEq N0 wb w B R mb X k q m Y) : Below N0 wb w := by
  obtain ⟨w0, s, n, ρ, h1, h2, h3⟩ := h
  exact h1 ▸ h2.bf.below
theorem NEq.lines (h : NEq N0 wb w B R mb X k q m Y) (hl : X.length ≤ 1000000000) : ∃ T, ∀ V, Below w.heap.size w V → V.cell? ⟨B, 0, none⟩ = some (.pointer (some ⟨T, 0, none⟩)) ∧ Calls Tryz.prog 12 #[.pointer (some ⟨T, 0, none⟩)] V (OwnPost V.heap.size V X) := by
  obtain ⟨w0, s, n, ρ, h1, h2, rfl, h4⟩ := h
  exact h2.bf.linesW hl
theorem NEq.put (h : NEq N0 wb w B R mb X k q m Y) {j : Nat} {t : Int} (ht : t = (j : Int)) (h1 : 1 ≤ j) (h2 : j ≤ X.length) :
    Calls Tryz.prog 9 #[.pointer (some ⟨B, 0, none⟩), .int .i64 t] w fun e w' => e = .returned (.tuple #[]) ∧ NEq N0 wb w' B R mb X j q m Y := by
  subst ht
  obtain ⟨w0, s, n, ρ, e1, e2, rfl, e4, e5, e6, e7, e8⟩ := h
  refine (bput_any e2.bf j).mono ?_
  rintro e w' ⟨rfl, b, hsz, hk⟩
  refine ⟨rfl, w0, _, n, ρ, e1, e2.text b, rfl, ?_, e5, e6, e7, fun ys hy => ?_⟩
  · show min (max (j : Int) 1) (s.ls.length : Int) = _
    omega
  · obtain ⟨v, a, c⟩ := e8 ys hy
    exact ⟨v, a, c.step hsz fun x hx hP => (b.prot x hP).2.trans (e2.bf.prot x hP).2.symm⟩
theorem neq_do (h : NEq N0 wb w B R mb X k q m Y) (h1 : 1 ≤ k) (h2 : k ≤ X.length) (hl : X.length ≤ 1000000) {c : Nat} {op arg : ByteArray} {reg : Int} {Q : Value → World → Prop}
    (hd : ∀ (w0 : Base) (s : Bs) (W n : Nat) (V : World) (ρ : Int → Option Value), w0.w = wb → w0.P W → W ≠ mb → Ed N0 w0 V B R mb s n ρ → s.ls = X → s.cur = (k : Int) → s.opn.length ≤ q → s.nm = 0 → n ≤ m → (∀ ys, Y = some ys → ∃ v, ρ 34 = some (.agg #[v, .bool true]) ∧ Ls V w0.P v ys) → Wn w0.z W B (.pointer (some ⟨R, 0, none⟩)) c op arg (if reg = 0 then 34 else reg) (min (max (c : Int) 1) 2000) (k : Int) (X.getD (k - 1) ByteArray.empty) → Calls Tryz.prog 24 #[.pointer (some ⟨W, 0, none⟩)] V fun e w' => ∃ v, e = .returned v ∧ Q v w') :
    Calls Tryz.prog 10 #[.pointer (some ⟨B, 0, none⟩), .pointer (some ⟨R, 0, none⟩), .agg #[.int .i64 (c : Int), .string op, .string arg], .int .u8 reg] w fun e w' => ∃ v, e = .returned v ∧ Q v w' := by
  obtain ⟨w0, s, n, ρ, e1, h9, rfl, e3, e4, e5, e6, e7⟩ := h
  refine ndo_any h9.bf (R := R) (Q := Q) (k := k - 1) (n := min (max (c : Int) 1) 2000) (by omega) (by omega) hl (by omega) rfl fun W V a1 a2 a3 a4 => ?_
  rw [show ((k - 1 : Nat) : Int) + 1 = k by omega] at a4
  exact hd ⟨w0.w, fun b => w0.P b ∨ (w.heap.size ≤ b ∧ b < V.heap.size), V⟩ s W n V ρ e1 (.inr ⟨a1, a2⟩) (by have := h9.rg.ltM; omega) (h9.guard a3) rfl e3 e4 e5 e6 (fun ys hy => by
    obtain ⟨v, a, c⟩ := e7 ys hy
    exact ⟨v, a, (c.step a3.size fun x hx _ => a3.block x hx).wide fun x _ hx => .inl hx⟩) a4

theorem neq_dd (h : NEq N0 wb w B R mb X k q m Y) (h1 : 1 ≤ k) {c j : Nat} (hc : (max (c : Int) 1) = (j : Int) + 1) (h2 : k + j ≤ X.length) (hlt : j + 1 < X.length) (hl : X.length ≤ 1000) (hj : j + 1 ≤ 300) (hsz : ∀ x ∈ X, x.size ≤ 1000) (hsum : sumS X ≤ 20000) (hq : q ≤ 1000000) (hm : m + 20 < maxLen) {reg : Int} (hreg : reg = 0 ∨ 97 ≤ reg ∧ reg ≤ 122) {arg : ByteArray} {k' : Nat} (hk' : k' = min k (X.length - (j + 1))) :
    Calls Tryz.prog 10 #[.pointer (some ⟨B, 0, none⟩), .pointer (some ⟨R, 0, none⟩), .agg #[.int .i64 (c : Int), .string ⟨#[100, 100]⟩, .string arg], .int .u8 reg] w fun e w' => ∃ v, e = .returned v ∧ v = .int .u16 0 ∧ NEq N0 wb w' B R mb (Bt.splice X (k - 1) (j + 1) []) k' (q + 1) (m + 11) (if reg = 0 then some ((X.drop (k - 1)).take (j + 1)) else none) := by
  refine neq_do h h1 (by omega) (by omega) (Q := fun v w' => v = .int .u16 0 ∧ NEq N0 wb w' B R mb (Bt.splice X (k - 1) (j + 1) []) k' (q + 1) (m + 11) (if reg = 0 then some ((X.drop (k - 1)).take (j + 1)) else none)) fun w0 s W n V ρ e1 hP hW he hX hk hq2 hn hnm hy hw => ?_
  rw [show min (max (c : Int) 1) 2000 = (j : Int) + 1 by omega] at hw
  have hcr : 97 ≤ (if reg = 0 then (34 : Int) else reg) ∧ (if reg = 0 then (34 : Int) else reg) ≤ 122 ∨ (if reg = 0 then (34 : Int) else reg) = 34 := by
    rcases hreg with rfl | hr
    · exact .inr rfl
    · rw [if_neg (by omega)]
      exact .inl hr
  refine (does_dd (i := k - 1) (k := j) he (by omega) hP hW hw (by omega) hcr (by rw [hX]; omega) (by rw [hX]; exact hlt) (by rw [hX]; exact hl) hj (by rw [hX]; exact hsz) (by rw [hX]; exact hsum) (by omega) (by rw [hn]; decide)).mono ?_
  rintro e w9 ⟨wz, n4, ρ4, rfl, b1, b2, b3, b4, _⟩
  refine ⟨_, rfl, rfl, wz, _, n4, ρ4, b1.trans e1, b3, ?_, ?_, ?_, hn, by omega, ?_⟩
  · show Bt.splice s.ls (k - 1) (j + 1) [] = _
    rw [hX]
  · show min (max (((k - 1 : Nat) : Int) + 1) 1) ((Bt.splice s.ls (k - 1) (j + 1) []).length : Int) = _
    rw [hX, splice_len (by omega)]
    simp only [List.length_nil]
    omega
  · show (s.opn ++ [_]).length ≤ _
    rw [List.length_append]
    simp
    omega
  · intro ys hys
    by_cases h0 : reg = 0
    · rw [if_pos h0] at hys b4
      rw [hX] at b4
      exact b4 ys hys
    · rw [if_neg h0] at hys
      cases hys
theorem neq_P {ys : List ByteArray} (h : NEq N0 wb w B R mb X k q m (some ys)) (h1 : 1 ≤ k) (h2 : k ≤ X.length) (hy0 : 0 < ys.length) (hyl : X.length + ys.length ≤ 1000) (hyl3 : ys.length ≤ 300) (hlg : isLong ys = false) (hyx : ∀ x ∈ ys, x.size ≤ 1000) (hq : q ≤ 1000000) {arg : ByteArray} :
    Calls Tryz.prog 10 #[.pointer (some ⟨B, 0, none⟩), .pointer (some ⟨R, 0, none⟩), .agg #[.int .i64 0, .string ⟨#[80]⟩, .string arg], .int .u8 0] w fun e w' => ∃ v, e = .returned v ∧ v = .int .u16 0 ∧ NEq N0 wb w' B R mb (Bt.splice X (k - 1) 0 ys) k (q + 1) m none := by
  refine neq_do (c := 0) (reg := 0) h h1 h2 (by omega) (Q := fun v w' => v = .int .u16 0 ∧ NEq N0 wb w' B R mb (Bt.splice X (k - 1) 0 ys) k (q + 1) m none) fun w0 s W n V ρ e1 hP hW he hX hk hq2 hn hnm hy hw => ?_
  obtain ⟨v, a1, a2⟩ := hy ys rfl
  rw [show (k : Int) = ((k - 1 : Nat) : Int) + 1 by omega] at hw
  refine (does_P (i := k - 1) he a1 a2 hy0 (by rw [hX]; exact hyl) hyl3 hlg hyx hP hw (by rw [hX]; omega) (by rw [hX]; omega) (by omega) (by rw [hn]; decide)).mono ?_
  rintro e w9 ⟨rfl, b9⟩
  refine ⟨_, rfl, rfl, w0, _, n, ρ, e1, he.text b9, ?_, ?_, ?_, hn, hnm, fun ys h => by cases h⟩
  · show Bt.splice s.ls (k - 1) 0 ys = _
    rw [hX]
  · show min (max (((k - 1 : Nat) : Int) + 1) 1) ((Bt.splice s.ls (k - 1) 0 ys).length : Int) = _
    rw [hX, splice_len (by omega)]
    omega
  · show (s.opn ++ [_]).length ≤ _
    rw [List.length_append]
    simp
    omega
theorem neq_o (h : NEq N0 wb w B R mb X k q m Y) (h1 : 1 ≤ k) (h2 : k ≤ X.length) (hl : X.length ≤ 900) {arg : ByteArray} (ha : arg.size ≤ 1000) (hq : q ≤ 1000000) :
    Calls Tryz.prog 10 #[.pointer (some ⟨B, 0, none⟩), .pointer (some ⟨R, 0, none⟩), .agg #[.int .i64 0, .string ⟨#[111]⟩, .string arg], .int .u8 0] w fun e w' => ∃ v, e = .returned v ∧ v = .int .u16 0 ∧ NEq N0 wb w' B R mb (Bt.splice X k 0 [arg]) (k + 1) (q + 1) m none := by
  refine neq_do (c := 0) (reg := 0) h h1 h2 (by omega) (Q := fun v w' => v = .int .u16 0 ∧ NEq N0 wb w' B R mb (Bt.splice X k 0 [arg]) (k + 1) (q + 1) m none) fun w0 s W n V ρ e1 hP hW he hX hk hq2 hn hnm hy hw => ?_
  refine (does_o (i := k - 1) he.bf hP hw (by omega) (by rw [hX]; omega) (by rw [hX]; omega) ha (by omega) (by rw [hn]; decide)).mono ?_
  rintro e w9 ⟨rfl, b9⟩
  rw [show k - 1 + 1 = k by omega] at b9
  refine ⟨_, rfl, rfl, w0, _, n, ρ, e1, he.text b9, ?_, ?_, ?_, hn, hnm, fun ys h => by cases h⟩
  · show Bt.splice s.ls k 0 [arg] = _
    rw [hX]
  · show min (max (((k - 1 : Nat) : Int) + 1 + 1) 1) ((Bt.splice s.ls k 0 [arg]).length : Int) = _
    rw [hX, splice_len (by omega)]
    simp only [List.length_singleton]
    omega
  · show (s.opn ++ [_]).length ≤ _
    rw [List.length_append]
    simp
    omega
theorem neq_t (h : NEq N0 wb w B R mb X k q m Y) (h1 : 1 ≤ k) (h2 : k ≤ X.length) (hl : X.length ≤ 900) {t : ByteArray} (ht : X.getD (k - 1) ByteArray.empty = t) (ht0 : t.size ≠ 0) (hts : t.size ≤ 1000) (hq : q ≤ 1000000) {arg : ByteArray} :
    Calls Tryz.prog 10 #[.pointer (some ⟨B, 0, none⟩), .pointer (some ⟨R, 0, none⟩), .agg #[.int .i64 9, .string ⟨#[126]⟩, .string arg], .int .u8 0] w fun e w' => ∃ v, e = .returned v ∧ v = .int .u16 0 ∧ NEq N0 wb w' B R mb (Bt.splice X (k - 1) 1 [flipT 9 t]) k (q + 1) m none := by
  refine neq_do (c := 9) (reg := 0) h h1 h2 (by omega) (Q := fun v w' => v = .int .u16 0 ∧ NEq N0 wb w' B R mb (Bt.splice X (k - 1) 1 [flipT 9 t]) k (q + 1) m none) fun w0 s W n V ρ e1 hP hW he hX hk hq2 hn hnm hy hw => ?_
  rw [ht] at hw
  refine (does_t (i := k - 1) he.bf hP hw ht0 hts (by omega) (by rw [hX]; omega) (by rw [hX]; omega) (by omega) (by rw [hn]; decide)).mono ?_
  rintro e w9 ⟨rfl, b9⟩
  refine ⟨_, rfl, rfl, w0, _, n, ρ, e1, he.text b9, ?_, ?_, ?_, hn, hnm, fun ys h => by cases h⟩
  · show Bt.splice s.ls (k - 1) 1 [flipT 9 t] = _
    rw [hX]
  · show min (max (k : Int) 1) ((Bt.splice s.ls (k - 1) 1 [flipT 9 t]).length : Int) = _
    rw [hX, splice_len (by omega)]
    simp only [List.length_singleton]
    omega
  · show (s.opn ++ [_]).length ≤ _
    rw [List.length_append]
    simp
    omega
theorem neq_t0 (h : NEq N0 wb w B R mb X k q m Y) (h1 : 1 ≤ k) (h2 : k ≤ X.length) (hl : X.length ≤ 900) (ht : X.getD (k - 1) ByteArray.empty = ⟨#[]⟩) {arg : ByteArray} :
    Calls Tryz.prog 10 #[.pointer (some ⟨B, 0, none⟩), .pointer (some ⟨R, 0, none⟩), .agg #[.int .i64 9, .string ⟨#[126]⟩, .string arg], .int .u8 0] w fun e w' => ∃ v, e = .returned v ∧ v = .int .u16 190 ∧ NEq N0 wb w' B R mb X k q m none := by
  refine neq_do (c := 9) (reg := 0) h h1 h2 (by omega) (Q := fun v w' => v = .int .u16 190 ∧ NEq N0 wb w' B R mb X k q m none) fun w0 s W n V ρ e1 hP hW he hX hk hq2 hn hnm hy hw => ?_
  rw [ht] at hw
  refine (does_t0 he.bf hP hw).mono ?_
  rintro e w9 ⟨rfl, b9⟩
  exact ⟨_, rfl, rfl, w0, s, n, ρ, e1, he.new b9, hX, hk, hq2, hn, hnm, fun ys h => by cases h⟩
end
end Go.Proofs.YtdhemdeapphfoaaGreatDoor
