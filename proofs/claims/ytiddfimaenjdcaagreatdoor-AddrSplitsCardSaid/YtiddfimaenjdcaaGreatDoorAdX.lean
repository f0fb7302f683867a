import Derived.Test.YtiddfimaenjdcaaGreatDoorEdJ
import Derived.Test.YtiddfimaenjdcaaGreatDoorBtRow
import Derived.LoopTactic
import Derived.StillTailTactics
import Derived.Deep.RegionLaw
import Derived.Test.YtiddfimaenjdcaaGreatDoorBwX
set_option linter.unusedVariables false
set_option linter.unusedSimpArgs false

/- addr's place: next, pass, number: walked. -/
set_option linter.unusedVariables false
set_option linter.unusedSimpArgs false
namespace Go.Proofs.YtiddfimaenjdcaaGreatDoor
open Go.RowKit Go.Proofs.YtiddfimaenjdcaaGreatDoorW.PrintWords Go.Proofs.YtiddfimaenjdcaaGreatDoorW.PrintLast

theorem between_any (x lo hi : Int) (w : World) : Calls Tryz.prog 98 #[.int .u8 x, .int .u8 lo, .int .u8 hi] w fun e w' => e = .returned (.bool (decide (lo ≤ x) && decide (x ≤ hi))) ∧ w' = w := by
  go_enter Tryz.func98, Tryz.ntmps98
  cases h1 : decide (lo ≤ x) <;> cases h2 : decide (x ≤ hi)
  all_goals
    go_wp2
    go_ret
    exact ⟨by simp [h1, h2], rfl⟩
/-- is it a digit? -/
def dgB (x : Int) : Bool := decide (48 ≤ x) && decide (x ≤ 57)
theorem digit_is (x : Int) (w : World) : Calls Tryz.prog 90 #[.int .u8 x] w fun e w' => e = .returned (.bool (dgB x)) ∧ w' = w := by
  have HB := Lib.hid (between_any x 48 57)
  go_enter Tryz.func90, Tryz.ntmps90
  go_wp2_with (go_at_call 98; refine (HB.out _).mono ?_; rintro e w1 ⟨rfl, rfl⟩)
  go_ret
  exact ⟨rfl, rfl⟩
theorem great_d (w : World) : Calls Tryz.prog 66 #[.int .u8 100] w fun e w' => e = .returned (.bool false) ∧ w' = w := by
  have hb := between_any 100 65 90
  rw [show (decide ((65 : Int) ≤ 100) && decide ((100 : Int) ≤ 90)) = false from rfl] at hb
  have HB := Lib.hid hb
  clear hb
  go_enter Tryz.func66, Tryz.ntmps66
  go_wp2_with (go_at_call 98; refine (HB.out _).mono ?_; rintro e w1 ⟨rfl, rfl⟩)
  go_ret
  exact ⟨rfl, rfl⟩
theorem Small_d (w : World) : Calls Tryz.prog 89 #[.int .u8 100] w fun e w' => e = .returned (.int .u8 100) ∧ w' = w := by
  have HB := Lib.hid great_d
  go_enter Tryz.func89, Tryz.ntmps89
  go_wp2_with (go_at_call 66; refine (HB.out _).mono ?_; rintro e w1 ⟨rfl, rfl⟩)
  go_ret
  exact ⟨rfl, rfl⟩
set_option maxRecDepth 100000 in
theorem asks_d (w : World) : Calls Tryz.prog 65 #[.int .u8 100] w fun e w' => e = .returned (.func (.func 90) #[] #[]) ∧ w' = w := by
  have HB := Lib.hid Small_d
  go_enter Tryz.func65, Tryz.ntmps65
  go_wp2_with (go_at_call 89; refine (HB.out _).mono ?_; rintro e w1 ⟨rfl, rfl⟩)
  go_ret
  exact ⟨rfl, rfl⟩
theorem fneq_d (w : World) : (binOp .neq 148 (.func (.func 90) #[] #[]) .nilFunc).run Tryz.prog w = .ok (.bool true) w := by kernel_rfl
set_option maxRecDepth 100000 in
theorem Is_digit (x : Int) (w : World) : Calls Tryz.prog 49 #[.int .u8 100, .int .u8 x] w fun e w' => e = .returned (.bool (dgB x)) ∧ w' = w := by
  have HA := Lib.hid asks_d
  have hfn := fneq_d
  have HD := Lib.hid (digit_is x)
  have HG := Lib.hid great_d
  obtain ⟨b, hb⟩ : ∃ b, dgB x = b := ⟨_, rfl⟩
  rw [hb] at HD ⊢
  clear hb
  go_enter Tryz.func49, Tryz.ntmps49
  cases b
  all_goals
    go_wp2_with (first
      | (go_at_call 65; refine (HA.out _).mono ?_; rintro e w1 ⟨rfl, rfl⟩)
      | (go_at_call 90; refine (HD.out _).mono ?_; rintro e w1 ⟨rfl, rfl⟩)
      | (go_at_call 66; refine (HG.out _).mono ?_; rintro e w1 ⟨rfl, rfl⟩))
    go_ret
    exact ⟨rfl, rfl⟩

/-- a place in a text, in memory -/
def Pl (w : World) (G : Nat) (s : ByteArray) (i : Nat) : Prop := w.heap[G]? = some (.cells #[.string s, .int .i64 (i : Int)] 57 (0, 0))
/-- what a call on a place leaves -/
def Plp (w : World) (G : Nat) (s : ByteArray) (i : Nat) (w' : World) : Prop := Pl w' G s i ∧ w.grownBy w' (some G)
theorem Plp.then {w w1 w2 : World} {G : Nat} {s t : ByteArray} {i j : Nat} (h : Plp w G s i w1) (k : Plp w1 G t j w2) : Plp w G t j w2 :=
  ⟨k.1, k.2.os.trans h.2.os, k.2.tape.trans h.2.tape, k.2.output.trans h.2.output, Nat.le_trans h.2.size k.2.size, fun b hb hne => (k.2.block b (Nat.lt_of_lt_of_le hb h.2.size) hne).trans (h.2.block b hb hne)⟩
theorem Plp.of_below {w w1 : World} {G : Nat} {s : ByteArray} {i : Nat} (h : Pl w G s i) (hb : Below w.heap.size w w1) : Plp w G s i w1 :=
  ⟨(hb.block G (blk_lt h)).trans h, hb.os, hb.tape, hb.output, hb.size, fun b hlt _ => hb.block b hlt⟩
theorem Plp.drewN {w w1 : World} {G : Nat} {s : ByteArray} {i : Nat} (h : Plp w G s i w1) (q : Nat) : Plp w G s i (w1.drewN q) := ⟨h.1, h.2.os, h.2.tape, h.2.output, h.2.size, h.2.block⟩
theorem Plp.go {w w1 : World} {G : Nat} {s : ByteArray} {i : Nat} (h : Plp w G s i w1) (j : Nat) : Plp w G s j (w1.setCell ⟨G, 1, none⟩ (.int .i64 (j : Int))) :=
  ⟨blk_set h.1 1 _, h.2.os, h.2.tape, h.2.output, by have := h.2.size; simpa using this, fun b hb hne => (Below.heap_setCell _ _ _ _ (fun e => hne (congrArg some e))).trans (h.2.block b hb hne)⟩

theorem byte_at' (s : ByteArray) (i : Nat) (h : i < s.size) : s.data.toList[i]? = some s[i] := by
  have h2 : i < s.data.size := h
  rw [Array.getElem?_toList, Array.getElem?_eq_getElem h2]
  rfl
/-- the byte that stands next -/
def nxB (s : ByteArray) (i : Nat) : Int := match s.data.toList[i]? with | some c => (c.toNat : Int) | none => 0
theorem nxB_end (s : ByteArray) {i : Nat} (h : s.size ≤ i) : nxB s i = 0 := by
  unfold nxB
  rw [List.getElem?_eq_none (by simpa using h)]
theorem nxB_at (s : ByteArray) {i : Nat} (h : i < s.size) : nxB s i = ((s[i]).toNat : Int) := by
  unfold nxB
  rw [byte_at' s i h]

theorem drewN2 (w : World) (a b : Nat) : (w.drewN a).drewN b = w.drewN (a + b) := by
  simp only [World.drewN, Nat.add_assoc]
def NextPost (w : World) (c : Int) (e : Ending) (w' : World) : Prop := e = .returned (.int .u8 c) ∧ ∃ q, w' = w.drewN q
set_option maxRecDepth 100000 in
theorem next_any {w : World} {G : Nat} {s : ByteArray} {i : Nat} (h : Pl w G s i) (hi : i ≤ s.size) :
    Calls Tryz.prog 20 #[.pointer (some ⟨G, 0, none⟩)] w (NextPost w (nxB s i)) := by
  have k0 : w.cell? ⟨G, 0, none⟩ = some (.string s) := by rw [blk_cell h]; rfl
  have k1 : w.cell? ⟨G, 1, none⟩ = some (.int .i64 (i : Int)) := by rw [blk_cell h]; rfl
  clear h
  by_cases he : i < s.size
  · rw [nxB_at s he]
    have b1 : ((i : Int) == s.size) = false := by rw [beq_eq_false_iff_ne]; omega
    have b2 : ¬ ((i : Int) = s.size) := by omega
    have b3 : (i : Int) < s.size := by omega
    go_enter Tryz.func20, Tryz.ntmps20
    go_wp2
    go_quiet (fail)
    go_wp2
    go_quiet (fail)
    go_wp2
    go_ret
    exact ⟨rfl, _, drewN2 _ _ _⟩
  · obtain rfl : i = s.size := by omega
    rw [nxB_end s (Nat.le_refl _)]
    have b1 : ((s.size : Int) == s.size) = true := by simp
    go_enter Tryz.func20, Tryz.ntmps20
    go_wp2
    go_quiet (fail)
    go_wp2
    go_ret
    exact ⟨rfl, _, rfl⟩

/-- the value of digits -/
def nuD (n : Int) : List UInt8 → Int
  | [] => n
  | c :: t => nuD (10 * n + ((c.toNat : Int) - 48)) t
theorem nuD_snoc (l : List UInt8) (c : UInt8) : ∀ n, nuD n (l ++ [c]) = 10 * nuD n l + ((c.toNat : Int) - 48) := by
  induction l with
  | nil => intro n; rfl
  | cons x t ih => intro n; exact ih _
/-- is a byte a digit? -/
def isDg (c : UInt8) : Bool := dgB (c.toNat : Int)
theorem isDg_le {c : UInt8} (h : isDg c = true) : 48 ≤ (c.toNat : Int) ∧ (c.toNat : Int) ≤ 57 := by
  simpa [isDg, dgB] using h
theorem nuD_grow : ∀ (l : List UInt8) (n : Int), 0 ≤ n → (∀ c ∈ l, isDg c = true) → 0 ≤ nuD n l ∧ nuD n l + 1 ≤ (n + 1) * 10 ^ l.length
  | [], n, h0, _ => by simp [nuD]; exact h0
  | c :: t, n, h0, hd => by
    have h2 := isDg_le (hd c (List.mem_cons_self ..))
    have ih := nuD_grow t (10 * n + ((c.toNat : Int) - 48)) (by omega) (fun x hx => hd x (List.mem_cons_of_mem _ hx))
    refine ⟨ih.1, Int.le_trans ih.2 ?_⟩
    have h3 : (0 : Int) ≤ 10 ^ t.length := Int.pow_nonneg (by decide)
    have h4 := Int.mul_le_mul_of_nonneg_right (show 10 * n + ((c.toNat : Int) - 48) + 1 ≤ (n + 1) * 10 by omega) h3
    rw [List.length_cons, Int.pow_succ, Int.mul_comm (10 ^ t.length) 10, ← Int.mul_assoc]
    exact h4
theorem nuD_bound (l : List UInt8) (hd : ∀ c ∈ l, isDg c = true) (hl : l.length ≤ 9) : 0 ≤ nuD 0 l ∧ nuD 0 l < 1000000000 := by
  have h1 := nuD_grow l 0 (by decide) hd
  have h2 : (10 : Int) ^ l.length ≤ 10 ^ 9 := by
    have : (10 : Nat) ^ l.length ≤ 10 ^ 9 := Nat.pow_le_pow_right (by decide) hl
    exact_mod_cast this
  omega

/-- where one stands -/
def plOf (G : Nat) (w : World) : Nat := match w.cell? ⟨G, 1, none⟩ with | some (.int _ x) => x.toNat | _ => 0
theorem plOf_is {w : World} {G : Nat} {s : ByteArray} {i : Nat} (h : Pl w G s i) : plOf G w = i := by
  unfold plOf
  rw [blk_cell h]
  rfl
def NumPost (w : World) (G : Nat) (s : ByteArray) (n : Int) (b : Bool) (j : Nat) (e : Ending) (w' : World) : Prop := e = .returned (.tuple #[.int .i64 n, .bool b, .int .u16 0]) ∧ Plp w G s j w'
set_option maxRecDepth 100000 in
set_option maxHeartbeats 1000000 in
theorem number_any {w : World} {G : Nat} {s : ByteArray} {i : Nat} {ds r : List UInt8} (h : Pl w G s i) (hs : s.size ≤ 1000000) (hi : i ≤ s.size) (hd : s.data.toList.drop i = ds ++ r) (ha : ∀ c ∈ ds, isDg c = true) (hl : ds.length ≤ 9) (hr : ∀ c, r.head? = some c → isDg c = false) :
    Calls Tryz.prog 34 #[.pointer (some ⟨G, 0, none⟩)] w (NumPost w G s (nuD 0 ds) (decide (0 < ds.length)) (i + ds.length)) := by
  have hsz : i + (ds.length + r.length) = s.size := by
    have h1 := congrArg List.length hd
    rw [List.length_drop, List.length_append, show s.data.toList.length = s.size from Array.length_toList] at h1
    omega
  have hat : ∀ k, k < ds.length → nxB s (i + k) = ((ds.getD k 0).toNat : Int) ∧ dgB (nxB s (i + k)) = true := fun k hk => by
    have h1 : s.data.toList[i + k]? = ds[k]? := by rw [← List.getElem?_drop, hd, List.getElem?_append_left hk]
    have h2 : ds[k]? = some ds[k] := List.getElem?_eq_getElem hk
    have h3 : nxB s (i + k) = (ds[k].toNat : Int) := by unfold nxB; rw [h1, h2]
    refine ⟨?_, ?_⟩
    · rw [h3, List.getD_eq_getElem?_getD, h2]
      rfl
    · rw [h3]
      exact ha _ (List.getElem_mem hk)
  have hend : dgB (nxB s (i + ds.length)) = false := by
    have h1 : s.data.toList[i + ds.length]? = r.head? := by
      rw [← List.getElem?_drop, hd, List.getElem?_append_right (Nat.le_refl _), Nat.sub_self, List.head?_eq_getElem?]
    unfold nxB
    rw [h1]
    cases hh : r.head? with
    | none => rfl
    | some c => exact hr c hh
  have HH := Lib.hid h
  have HAT := Lib.hid (And.intro hat (And.intro hend ha))
  have k1 : w.cell? ⟨G, 1, none⟩ = some (.int .i64 (i : Int)) := by rw [blk_cell h]; rfl
  have HI := Lib.hid Is_digit
  clear h hat hend hd hr ha
  go_enter Tryz.func34, Tryz.ntmps34
  go_wp2
  go_loopw [6] (fun v6 wr => ∃ k : Nat, v6 = .int .i64 (nuD 0 (ds.take k)) ∧ k ≤ ds.length ∧ Plp w G s (i + k) wr) (fun _ wr => i + ds.length - plOf G wr)
  case atStart => exact ⟨0, rfl, Nat.zero_le _, Plp.of_below HH.out (Below.refl _ w)⟩
  case round =>
    obtain ⟨k, rfl, hk, hp⟩ := hrel
    have e1 : wr.cell? ⟨G, 1, none⟩ = some (.int .i64 ((i + k : Nat) : Int)) := by rw [blk_cell hp.1]; rfl
    have z1 : wr.frozen? ⟨G, 1, none⟩ = false := blk_frozen hp.1 1
    have hle : i + k ≤ s.size := by omega
    have HN := Lib.hid (fun q => next_any (w := wr.drewN q) (show Pl (wr.drewN q) G s (i + k) from hp.1) hle)
    have HN0 := Lib.hid (next_any hp.1 hle)
    have HP := Lib.hid hp
    clear hp
    by_cases hlt : k < ds.length
    · obtain ⟨b1, b2⟩ := HAT.out.1 k hlt
      obtain ⟨c, hc⟩ : ∃ c, nxB s (i + k) = c := ⟨_, rfl⟩
      have hc2 := isDg_le (HAT.out.2.2 _ (List.getElem_mem hlt))
      have hcg : c = (ds[k].toNat : Int) := by
        rw [← hc, b1, List.getD_eq_getElem?_getD, List.getElem?_eq_getElem hlt]
        rfl
      have htk : ds.take (k + 1) = ds.take k ++ [ds[k]] := List.take_succ_eq_append_getElem hlt
      have hnx := nuD_snoc (ds.take k) ds[k] 0
      rw [← htk, ← hcg] at hnx
      have hbd := nuD_bound (ds.take k) (fun x hx => HAT.out.2.2 x (List.mem_of_mem_take hx)) (by rw [List.length_take]; omega)
      rw [← hcg] at hc2
      rw [hc] at HN HN0 b2
      obtain ⟨n, hn⟩ : ∃ n, nuD 0 (ds.take k) = n := ⟨_, rfl⟩
      rw [hn] at hnx hbd ⊢
      have HNX := Lib.hid hnx
      have hid := HI.out c
      rw [b2] at hid
      have HID := Lib.hid hid
      have f1 : ((((i + k : Nat) : Int) - i) == 9) = false := by rw [beq_eq_false_iff_ne]; omega
      have f2 : ¬ ((((i + k : Nat) : Int) - i) = 9) := by omega
      have f3 : ¬ ((k : Int) = 9) := by omega
      have w8 : (c - 48) % 256 = c - 48 := by omega
      clear hc hcg htk hnx hn b1 b2 hid
      go_wp2_with (first
        | (go_at_call 20; (with_reducible refine HN0.out.mono ?_); rintro e w2 ⟨rfl, q, rfl⟩)
        | (go_at_call 49; (with_reducible refine (HID.out _).mono ?_); rintro e w3 ⟨rfl, rfl⟩)
        | (go_at_call 20; (with_reducible refine (HN.out _).mono ?_); rintro e w2 ⟨rfl, q2, rfl⟩))
      have hg := (HP.out.drewN (q + q2)).go (i + (k + 1))
      rw [show ((i + (k + 1) : Nat) : Int) = (i : Int) + k + 1 by omega] at hg
      refine ⟨⟨k + 1, by rw [HNX.out], hlt, hg⟩, ?_⟩
      show i + ds.length - plOf G _ < i + ds.length - plOf G wr
      rw [plOf_is hg.1, plOf_is HP.out.1]
      omega
    · obtain rfl : k = ds.length := by omega
      have hid := HI.out (nxB s (i + ds.length))
      rw [HAT.out.2.1] at hid
      have HID := Lib.hid hid
      clear hid
      rw [List.take_length]
      obtain ⟨b, hb⟩ : ∃ b, decide (0 < ds.length) = b := ⟨_, rfl⟩
      have f1 : decide (((i + ds.length : Nat) : Int) > i) = b := by rw [← hb]; exact decide_eq_decide.2 (by omega)
      have f2 : decide ((i : Int) < ((i + ds.length : Nat) : Int)) = b := by rw [← hb]; exact decide_eq_decide.2 (by omega)
      have f3 : decide ((i : Int) < (i : Int) + ds.length) = b := by rw [← hb]; exact decide_eq_decide.2 (by omega)
      obtain ⟨n, hn⟩ : ∃ n, nuD 0 ds = n := ⟨_, rfl⟩
      rw [hn]
      have HNB := Lib.hid (And.intro hn hb)
      clear hn hb hlt
      go_wp2_with (first
        | (go_at_call 20; (with_reducible refine HN0.out.mono ?_); rintro e w2 ⟨rfl, q, rfl⟩)
        | (go_at_call 49; (with_reducible refine (HID.out _).mono ?_); rintro e w3 ⟨rfl, rfl⟩))
      go_quiet (fail)
      go_wp2
      refine bodyPost_ret (by simp [results, Tryz.results34, go_sem]; try rfl) rfl ?_
      exact ⟨by rw [HNB.out.1, HNB.out.2], (HP.out.drewN _).drewN _⟩
end Go.Proofs.YtiddfimaenjdcaaGreatDoor

/- addr's place: pass, base: walked. -/
set_option linter.unusedVariables false
set_option linter.unusedSimpArgs false
namespace Go.Proofs.YtiddfimaenjdcaaGreatDoor
open Go.RowKit Go.Proofs.YtiddfimaenjdcaaGreatDoorW.PrintWords Go.Proofs.YtiddfimaenjdcaaGreatDoorW.PrintLast

/-- nothing of the set stands at i -/
def stayB (set : List UInt8) (s : ByteArray) (i : Nat) : Prop := ∀ c, s.data.toList[i]? = some c → set.contains c = false
theorem stay_trim {set : List UInt8} {s : ByteArray} {i : Nat} (h : stayB set s i) : Lib.trimLeftS (s.extract i s.size).data.toList set = (s.extract i s.size).data.toList := by
  have e : (s.extract i s.size).data.toList = s.data.toList.drop i := by
    rw [ByteArray.data_extract, Array.toList_extract]
    simp
    rw [List.take_of_length_le]
    simp
  rw [e]
  unfold Lib.trimLeftS
  cases hd : s.data.toList.drop i with
  | nil => rfl
  | cons c t =>
    have h1 : s.data.toList[i]? = some c := by rw [← Nat.add_zero i, ← List.getElem?_drop, hd]; rfl
    have h2 := h c h1
    rw [List.dropWhile_cons_of_neg]
    simpa using h2

set_option maxRecDepth 100000 in
set_option maxHeartbeats 1000000 in
theorem pass_any {w : World} {G : Nat} {s set : ByteArray} {i : Nat} (h : Pl w G s i) (hi : i ≤ s.size) (hs : s.size ≤ 1000000) (h2 : set.size < 4294967281) (has : (set.data.toList.all fun b => decide (b.toNat < 128)) = true) (hst : stayB set.data.toList s i) :
    Calls Tryz.prog 19 #[.pointer (some ⟨G, 0, none⟩), .string set] w fun e w' => e = .returned (.tuple #[]) ∧ Plp w G s i w' := by
  have k0 : w.cell? ⟨G, 0, none⟩ = some (.string s) := by rw [blk_cell h]; rfl
  have k1 : w.cell? ⟨G, 1, none⟩ = some (.int .i64 (i : Int)) := by rw [blk_cell h]; rfl
  have hT : ∀ W, Calls Tryz.prog 32 #[.string (s.extract i s.size), .string set] W fun e w' => e = .returned (.string (s.extract i s.size)) ∧ Below W.heap.size W w' := fun W => by
    have h9 := Any.strings_TrimLeft_laid Tryz.lays161 lays161b (s.extract i s.size) set W h2 (ascii_of_all has)
    refine h9.mono ?_
    rintro e w' ⟨rfl, hb⟩
    refine ⟨?_, hb⟩
    rw [stay_trim hst]
  have hz : (s.extract i s.size).size = s.size - i := by simp
  have HT := Lib.hid hT
  have HH := Lib.hid h
  have hi' : (i : Int) ≤ s.size := by omega
  obtain ⟨t, ht⟩ : ∃ t, s.extract i s.size = t := ⟨_, rfl⟩
  have hzt : (s.size : Int) - t.size = i := by rw [ht] at hz; omega
  have iw1 : IntKind.i64.wrap ((s.size : Int) - t.size) = i := by rw [hzt, IntKind.wrap_i64]; omega
  have hsl : s.extract i s.size = t := ht
  rw [ht] at HT
  have HBC := Lib.hid ((Below.refl w.heap.size w).drew)
  have HK := Lib.hid (show ∀ V, Below w.heap.size w V → V.cell? ⟨G, 0, none⟩ = some (.string s) ∧ V.cell? ⟨G, 1, none⟩ = some (.int .i64 (i : Int)) ∧ V.frozen? ⟨G, 1, none⟩ = false from fun V hb => by
    have h9 := (hb.block G (blk_lt h)).trans h
    exact ⟨by rw [blk_cell h9]; rfl, by rw [blk_cell h9]; rfl, blk_frozen h9 1⟩)
  clear h hst hT hz ht hzt
  go_enter Tryz.func19, Tryz.ntmps19
  go_wp2
  go_region_held3 (fun V => V.cell? ⟨G, 0, none⟩ = some (.string s) ∧ V.cell? ⟨G, 1, none⟩ = some (.int .i64 (i : Int))) (first | exact ⟨k0, k1⟩ | exact ⟨kk0, kk1⟩ | (refine ⟨?_, ?_⟩ <;> simp [go_sem, kk0, kk1, kz]) | go_keep) (first
    | (go_at_call 32; (first | rw [hsl] | skip); refine (HT.out _).mono ?_; rintro e w2 ⟨rfl, hb2⟩; have HBC := Lib.hid (below_then HBC.out HBC.out.size hb2); obtain ⟨kk0, kk1, kz⟩ := HK.out _ HBC.out; clear hb2))
  all_goals
    go_end0
    exact ⟨rfl, (Plp.of_below HH.out HBC.out).go i⟩
end Go.Proofs.YtiddfimaenjdcaaGreatDoor

/- addr's base: a number, the end, a mark: walked. -/
set_option linter.unusedVariables false
set_option linter.unusedSimpArgs false
namespace Go.Proofs.YtiddfimaenjdcaaGreatDoor
open Go.RowKit Go.Proofs.YtiddfimaenjdcaaGreatDoorW.PrintWords Go.Proofs.YtiddfimaenjdcaaGreatDoorW.PrintLast

abbrev adT : Nat := 61
abbrev adO (k n c : Int) (off : Int) (semi : Bool) : Obj := .cells #[.int .u8 k, .int .i64 n, .int .u8 c, .string ⟨#[]⟩, .int .i64 off, .bool semi] 61
/-- an address -/
abbrev adV (k n c off : Int) (semi : Bool) : Value := .agg #[.int .u8 k, .int .i64 n, .int .u8 c, .string ⟨#[]⟩, .int .i64 off, .bool semi]
theorem ad_cells {w : World} {A : Nat} {cs : Array Value} (h : w.heap[A]? = some (.cells cs 61 (0, 0))) : ∀ j, w.cell? ⟨A, j, none⟩ = cs[j]? ∧ w.frozen? ⟨A, j, none⟩ = false := fun j => ⟨blk_cell h j, blk_frozen h j⟩
theorem grown_set {w0 w : World} {G : Nat} (h : w0.grownBy w (some G)) {p : Addr} (hp : p.block = G ∨ w0.heap.size ≤ p.block) (v : Value) : w0.grownBy (w.setCell p v) (some G) :=
  ⟨h.os, h.tape, h.output, by have := h.size; simpa using this, fun b hb hne => (Below.heap_setCell _ _ _ _ (fun e => by
    rcases hp with hp | hp
    · exact hne (congrArg some (e.trans hp))
    · omega)).trans (h.block b hb hne)⟩
theorem Plp.far {w w1 : World} {G : Nat} {s : ByteArray} {i : Nat} (h : Plp w G s i w1) {A : Nat} (hA : w.heap.size ≤ A) (hG : G < w.heap.size) (j : Nat) (v : Value) : Plp w G s i (w1.setCell ⟨A, j, none⟩ v) :=
  ⟨blk_far (p := ⟨A, j, none⟩) h.1 (by show G ≠ A; omega) v, grown_set h.2 (p := ⟨A, j, none⟩) (.inr hA) v⟩
theorem ad_old {w : World} {A : Nat} {k n c : Int} {t : ByteArray} {o : Int} {b : Bool} (h : w.heap[A]? = some (.cells #[.int .u8 k, .int .i64 n, .int .u8 c, .string t, .int .i64 o, .bool b] 61 (0, 0))) :
    (w.frozen? ⟨A, 0, none⟩ = false ∧ w.frozen? ⟨A, 1, none⟩ = false ∧ w.frozen? ⟨A, 2, none⟩ = false ∧ w.frozen? ⟨A, 3, none⟩ = false ∧ w.frozen? ⟨A, 4, none⟩ = false ∧ w.frozen? ⟨A, 5, none⟩ = false) ∧
    w.cell? ⟨A, 0, none⟩ = some (.int .u8 k) ∧ w.cell? ⟨A, 1, none⟩ = some (.int .i64 n) ∧ w.cell? ⟨A, 2, none⟩ = some (.int .u8 c) ∧ w.cell? ⟨A, 3, none⟩ = some (.string t) ∧ w.cell? ⟨A, 4, none⟩ = some (.int .i64 o) ∧ w.cell? ⟨A, 5, none⟩ = some (.bool b) :=
  ⟨⟨blk_frozen h 0, blk_frozen h 1, blk_frozen h 2, blk_frozen h 3, blk_frozen h 4, blk_frozen h 5⟩, by rw [blk_cell h]; rfl, by rw [blk_cell h]; rfl, by rw [blk_cell h]; rfl, by rw [blk_cell h]; rfl, by rw [blk_cell h]; rfl, by rw [blk_cell h]; rfl⟩
/-- six cells are laid -/
theorem ad_laid {w : World} {A : Nat} {k0 n0 c0 s0 o0 b0 : Value} (h : w.heap[A]? = some (.cells #[k0, n0, c0, s0, o0, b0] 61 (0, 0))) (a b c d e f : Value) :
    ((((((w.setCell ⟨A, 0, none⟩ a).setCell ⟨A, 1, none⟩ b).setCell ⟨A, 2, none⟩ c).setCell ⟨A, 3, none⟩ d).setCell ⟨A, 4, none⟩ e).setCell ⟨A, 5, none⟩ f).heap[A]? = some (.cells #[a, b, c, d, e, f] 61 (0, 0)) :=
  blk_set (blk_set (blk_set (blk_set (blk_set (blk_set h 0 a) 1 b) 2 c) 3 d) 4 e) 5 f

def BasePost (w : World) (G : Nat) (s : ByteArray) (v : Value) (b : Bool) (j : Nat) (e : Ending) (w' : World) : Prop := e = .returned (.tuple #[v, .bool b, .int .u16 0]) ∧ Plp w G s j w'
set_option maxRecDepth 100000 in
set_option maxHeartbeats 1000000 in
theorem base_num {w : World} {G : Nat} {s : ByteArray} {i : Nat} {ds r : List UInt8} (h : Pl w G s i) (hs : s.size ≤ 1000000) (hi : i ≤ s.size) (hd : s.data.toList.drop i = ds ++ r) (ha : ∀ c ∈ ds, isDg c = true) (hl : ds.length ≤ 9) (hl0 : 0 < ds.length) (hr : ∀ c, r.head? = some c → isDg c = false) :
    Calls Tryz.prog 33 #[.pointer (some ⟨G, 0, none⟩)] w (BasePost w G s (adV 1 (nuD 0 ds) 0 0 false) true (i + ds.length)) := by
  have hal : Plp w G s i (w.alloc (adO 0 0 0 0 false)) := Plp.of_below h (below_alloc (Below.refl _ w) _)
  have hnum := number_any hal.1 hs hi hd ha hl hr
  rw [show decide (0 < ds.length) = true by simpa using hl0] at hnum
  obtain ⟨n, hn⟩ : ∃ n, nuD 0 ds = n := ⟨_, rfl⟩
  rw [hn] at hnum ⊢
  have HN := Lib.hid hnum
  have HAL := Lib.hid hal
  have hGl := blk_lt h
  have hA1 : (w.alloc (adO 0 0 0 0 false)).heap[w.heap.size]? = some (.cells #[.int .u8 0, .int .i64 0, .int .u8 0, .string ⟨#[]⟩, .int .i64 0, .bool false] 61 (0, 0)) := heap_alloc_new w _
  have HA := Lib.hid (show ∀ w2 : World, (w.alloc (adO 0 0 0 0 false)).grownBy w2 (some G) → w2.heap[w.heap.size]? = some (.cells #[.int .u8 0, .int .i64 0, .int .u8 0, .string ⟨#[]⟩, .int .i64 0, .bool false] 61 (0, 0)) from fun w2 hg => (hg.block _ (by simp) (fun e => by have := Option.some.inj e; omega)).trans hA1)
  clear h hnum hal hd ha hr hA1 hn
  go_enter Tryz.func33, Tryz.ntmps33
  go_wp2_with fail
  refine HN.out.mono ?_
  rintro e w2 ⟨rfl, h2⟩
  have hA2 := HA.out w2 h2.2
  obtain ⟨⟨f0, f1, f2, f3, f4, f5⟩, o0, o1, o2, o3, o4, o5⟩ := ad_old hA2
  have H2 := Lib.hid (HAL.out.then h2)
  have HA2 := Lib.hid hA2
  clear h2 hA2
  go_wp2
  have hA3 := ad_laid HA2.out (.int .u8 1) (.int .i64 n) (.int .u8 0) (.string ⟨#[]⟩) (.int .i64 0) (.bool false)
  have h3 := (((((H2.out.far (Nat.le_refl _) hGl 0 (.int .u8 1)).far (Nat.le_refl _) hGl 1 (.int .i64 n)).far (Nat.le_refl _) hGl 2 (.int .u8 0)).far (Nat.le_refl _) hGl 3 (.string ⟨#[]⟩)).far (Nat.le_refl _) hGl 4 (.int .i64 0)).far (Nat.le_refl _) hGl 5 (.bool false)
  obtain ⟨Z, hZ⟩ : ∃ Z, (((((w2.setCell ⟨w.heap.size, 0, none⟩ (.int .u8 1)).setCell ⟨w.heap.size, 1, none⟩ (.int .i64 n)).setCell ⟨w.heap.size, 2, none⟩ (.int .u8 0)).setCell ⟨w.heap.size, 3, none⟩ (.string ⟨#[]⟩)).setCell ⟨w.heap.size, 4, none⟩ (.int .i64 0)).setCell ⟨w.heap.size, 5, none⟩ (.bool false) = Z := ⟨_, rfl⟩
  rw [hZ] at hA3 h3 ⊢
  have r0 : Z.cell? ⟨w.heap.size, 0, none⟩ = some (.int .u8 1) := by rw [blk_cell hA3]; rfl
  have r1 : Z.cell? ⟨w.heap.size, 1, none⟩ = some (.int .i64 n) := by rw [blk_cell hA3]; rfl
  have r2 : Z.cell? ⟨w.heap.size, 2, none⟩ = some (.int .u8 0) := by rw [blk_cell hA3]; rfl
  have r3 : Z.cell? ⟨w.heap.size, 3, none⟩ = some (.string ⟨#[]⟩) := by rw [blk_cell hA3]; rfl
  have r4 : Z.cell? ⟨w.heap.size, 4, none⟩ = some (.int .i64 0) := by rw [blk_cell hA3]; rfl
  have r5 : Z.cell? ⟨w.heap.size, 5, none⟩ = some (.bool false) := by rw [blk_cell hA3]; rfl
  clear hZ hA3
  refine bodyPost_ret (by simp [results, Tryz.results33, r0, r1, r2, r3, r4, r5, go_sem]; try rfl) rfl ?_
  exact ⟨rfl, h3⟩
set_option maxRecDepth 100000 in
set_option maxHeartbeats 1000000 in
theorem base_end {w : World} {G : Nat} {s : ByteArray} {i : Nat} (h : Pl w G s i) (hs : s.size ≤ 1000000) (hi : i < s.size) (hcx : nxB s i = 36) :
    Calls Tryz.prog 33 #[.pointer (some ⟨G, 0, none⟩)] w (BasePost w G s (adV 3 0 0 0 false) true (i + 1)) := by
  have hal : Plp w G s i (w.alloc (adO 0 0 0 0 false)) := Plp.of_below h (below_alloc (Below.refl _ w) _)
  have hr : ∀ c, (s.data.toList.drop i).head? = some c → isDg c = false := fun c hc => by
    have h1 : s.data.toList[i]? = some c := by rw [← Nat.add_zero i, ← List.getElem?_drop, ← List.head?_eq_getElem?]; exact hc
    have h2 : nxB s i = (c.toNat : Int) := by unfold nxB; rw [h1]
    unfold isDg
    rw [← h2, hcx]
    rfl
  have hnum := number_any (ds := []) (r := s.data.toList.drop i) hal.1 hs (Nat.le_of_lt hi) rfl (fun _ h => by cases h) (by simp) hr
  rw [show decide (0 < ([] : List UInt8).length) = false from rfl, show nuD 0 [] = 0 from rfl, show i + ([] : List UInt8).length = i from rfl] at hnum
  have HN := Lib.hid hnum
  have HAL := Lib.hid hal
  have hGl := blk_lt h
  have hA1 : (w.alloc (adO 0 0 0 0 false)).heap[w.heap.size]? = some (.cells #[.int .u8 0, .int .i64 0, .int .u8 0, .string ⟨#[]⟩, .int .i64 0, .bool false] 61 (0, 0)) := heap_alloc_new w _
  have HA := Lib.hid (show ∀ w2 : World, (w.alloc (adO 0 0 0 0 false)).grownBy w2 (some G) → w2.heap[w.heap.size]? = some (.cells #[.int .u8 0, .int .i64 0, .int .u8 0, .string ⟨#[]⟩, .int .i64 0, .bool false] 61 (0, 0)) from fun w2 hg => (hg.block _ (by simp) (fun e => by have := Option.some.inj e; omega)).trans hA1)
  have HNX := Lib.hid (fun W (hW : Pl W G s i) => next_any hW (Nat.le_of_lt hi))
  rw [hcx] at HNX
  have hGA : G ≠ w.heap.size := by omega
  have hAG : w.heap.size ≠ G := by omega
  have b1 : ¬ ((i : Int) = s.size) := by omega
  have b2 : ((i : Int) == s.size) = false := by rw [beq_eq_false_iff_ne]; omega
  clear h hnum hal hr hA1
  go_enter Tryz.func33, Tryz.ntmps33
  go_wp2_with fail
  refine HN.out.mono ?_
  rintro e w2 ⟨rfl, h2⟩
  have k0 : w2.cell? ⟨G, 0, none⟩ = some (.string s) := by rw [blk_cell h2.1]; rfl
  have k1 : w2.cell? ⟨G, 1, none⟩ = some (.int .i64 (i : Int)) := by rw [blk_cell h2.1]; rfl
  have z1 : w2.frozen? ⟨G, 1, none⟩ = false := blk_frozen h2.1 1
  have hA2 := HA.out w2 h2.2
  obtain ⟨⟨f0, f1, f2, f3, f4, f5⟩, o0, o1, o2, o3, o4, o5⟩ := ad_old hA2
  have H2 := Lib.hid (And.intro (HAL.out.then h2) h2.1)
  have HA2 := Lib.hid hA2
  clear h2 hA2
  go_wp2_with (go_at_call 20; refine (HNX.out _ H2.out.2).mono ?_; rintro e w3 ⟨rfl, q, rfl⟩)
  go_quiet (fail)
  revert nq
  intro n0
  go_wp2
  have hgo := (H2.out.1.drewN (q + n0)).go (i + 1)
  rw [show ((i + 1 : Nat) : Int) = (i : Int) + 1 by omega] at hgo
  have hA3 := ad_laid (blk_far (p := ⟨G, 1, none⟩) (show (w2.drewN (q + n0)).heap[w.heap.size]? = _ from HA2.out) hAG (.int .i64 ((i : Int) + 1))) (.int .u8 3) (.int .i64 0) (.int .u8 0) (.string ⟨#[]⟩) (.int .i64 0) (.bool false)
  have h3 := (((((hgo.far (Nat.le_refl _) hGl 0 (.int .u8 3)).far (Nat.le_refl _) hGl 1 (.int .i64 0)).far (Nat.le_refl _) hGl 2 (.int .u8 0)).far (Nat.le_refl _) hGl 3 (.string ⟨#[]⟩)).far (Nat.le_refl _) hGl 4 (.int .i64 0)).far (Nat.le_refl _) hGl 5 (.bool false)
  obtain ⟨Z, hZ⟩ : ∃ Z, (((((((w2.drewN (q + n0)).setCell ⟨G, 1, none⟩ (.int .i64 ((i : Int) + 1))).setCell ⟨w.heap.size, 0, none⟩ (.int .u8 3)).setCell ⟨w.heap.size, 1, none⟩ (.int .i64 0)).setCell ⟨w.heap.size, 2, none⟩ (.int .u8 0)).setCell ⟨w.heap.size, 3, none⟩ (.string ⟨#[]⟩)).setCell ⟨w.heap.size, 4, none⟩ (.int .i64 0)).setCell ⟨w.heap.size, 5, none⟩ (.bool false) = Z := ⟨_, rfl⟩
  rw [hZ] at hA3 h3 ⊢
  have r0 : Z.cell? ⟨w.heap.size, 0, none⟩ = some (.int .u8 3) := by rw [blk_cell hA3]; rfl
  have r1 : Z.cell? ⟨w.heap.size, 1, none⟩ = some (.int .i64 0) := by rw [blk_cell hA3]; rfl
  have r2 : Z.cell? ⟨w.heap.size, 2, none⟩ = some (.int .u8 0) := by rw [blk_cell hA3]; rfl
  have r3 : Z.cell? ⟨w.heap.size, 3, none⟩ = some (.string ⟨#[]⟩) := by rw [blk_cell hA3]; rfl
  have r4 : Z.cell? ⟨w.heap.size, 4, none⟩ = some (.int .i64 0) := by rw [blk_cell hA3]; rfl
  have r5 : Z.cell? ⟨w.heap.size, 5, none⟩ = some (.bool false) := by rw [blk_cell hA3]; rfl
  clear hZ hA3
  refine bodyPost_ret (by simp [results, Tryz.results33, r0, r1, r2, r3, r4, r5, go_sem]; try rfl) rfl ?_
  exact ⟨rfl, h3⟩
set_option maxRecDepth 100000 in
set_option maxHeartbeats 400000 in
theorem base_mark {w : World} {G : Nat} {s : ByteArray} {i : Nat} (h : Pl w G s i) (hs : s.size ≤ 1000000) (hi : i < s.size) (hcx : nxB s i = 39) (hi2 : i + 2 ≤ s.size) :
    Calls Tryz.prog 33 #[.pointer (some ⟨G, 0, none⟩)] w (BasePost w G s (adV 4 0 (nxB s (i + 1)) 0 false) true (i + 2)) := by
  have hal : Plp w G s i (w.alloc (adO 0 0 0 0 false)) := Plp.of_below h (below_alloc (Below.refl _ w) _)
  have hr : ∀ c, (s.data.toList.drop i).head? = some c → isDg c = false := fun c hc => by
    have h1 : s.data.toList[i]? = some c := by rw [← Nat.add_zero i, ← List.getElem?_drop, ← List.head?_eq_getElem?]; exact hc
    have h2 : nxB s i = (c.toNat : Int) := by unfold nxB; rw [h1]
    unfold isDg
    rw [← h2, hcx]
    rfl
  have hnum := number_any (ds := []) (r := s.data.toList.drop i) hal.1 hs (Nat.le_of_lt hi) rfl (fun _ h => by cases h) (by simp) hr
  rw [show decide (0 < ([] : List UInt8).length) = false from rfl, show nuD 0 [] = 0 from rfl, show i + ([] : List UInt8).length = i from rfl] at hnum
  have HN := Lib.hid hnum
  have HAL := Lib.hid hal
  have hGl := blk_lt h
  have hA1 : (w.alloc (adO 0 0 0 0 false)).heap[w.heap.size]? = some (.cells #[.int .u8 0, .int .i64 0, .int .u8 0, .string ⟨#[]⟩, .int .i64 0, .bool false] 61 (0, 0)) := heap_alloc_new w _
  have HA := Lib.hid (show ∀ w2 : World, (w.alloc (adO 0 0 0 0 false)).grownBy w2 (some G) → w2.heap[w.heap.size]? = some (.cells #[.int .u8 0, .int .i64 0, .int .u8 0, .string ⟨#[]⟩, .int .i64 0, .bool false] 61 (0, 0)) from fun w2 hg => (hg.block _ (by simp) (fun e => by have := Option.some.inj e; omega)).trans hA1)
  have HNX := Lib.hid (fun W (hW : Pl W G s i) => next_any hW (Nat.le_of_lt hi))
  rw [hcx] at HNX
  have hGA : G ≠ w.heap.size := by omega
  have hAG : w.heap.size ≠ G := by omega
  have b3 : ¬ ((s.size : Int) < (i : Int) + 2) := by omega
  have b4 : decide ((s.size : Int) < (i : Int) + 2) = false := by simp; omega
  have b1 : ¬ ((i : Int) = s.size) := by omega
  have b2 : ((i : Int) == s.size) = false := by rw [beq_eq_false_iff_ne]; omega
  clear h hnum hal hr hA1
  go_enter Tryz.func33, Tryz.ntmps33
  go_wp2_with fail
  refine HN.out.mono ?_
  rintro e w2 ⟨rfl, h2⟩
  have k0 : w2.cell? ⟨G, 0, none⟩ = some (.string s) := by rw [blk_cell h2.1]; rfl
  have k1 : w2.cell? ⟨G, 1, none⟩ = some (.int .i64 (i : Int)) := by rw [blk_cell h2.1]; rfl
  have z1 : w2.frozen? ⟨G, 1, none⟩ = false := blk_frozen h2.1 1
  have hA2 := HA.out w2 h2.2
  obtain ⟨⟨f0, f1, f2, f3, f4, f5⟩, o0, o1, o2, o3, o4, o5⟩ := ad_old hA2
  have H2 := Lib.hid (And.intro (HAL.out.then h2) h2.1)
  have HA2 := Lib.hid hA2
  clear h2 hA2
  go_wp2_with (go_at_call 20; refine (HNX.out _ H2.out.2).mono ?_; rintro e w3 ⟨rfl, q, rfl⟩)
  go_quiet (fail)
  revert nq
  intro n0
  go_wp2
  go_quiet (fail)
  go_wp2
  have hgo := ((H2.out.1.drewN (q + n0)).go (i + 2)).drewN nq
  have hA4 : (((w2.drewN (q + n0)).setCell ⟨G, 1, none⟩ (.int .i64 ((i : Int) + 2))).drewN nq).heap[w.heap.size]? = _ := blk_far (p := ⟨G, 1, none⟩) (show (w2.drewN (q + n0)).heap[w.heap.size]? = _ from HA2.out) hAG (.int .i64 ((i : Int) + 2))
  rw [show ((i + 2 : Nat) : Int) = (i : Int) + 2 by omega] at hgo
  obtain ⟨V, hV⟩ : ∃ V, ((w2.drewN (q + n0)).setCell ⟨G, 1, none⟩ (.int .i64 ((i : Int) + 2))).drewN nq = V := ⟨_, rfl⟩
  rw [hV] at hgo hA4 ⊢
  clear hV k0 k1 z1 f0 f1 f2 f3 f4 f5 o0 o1 o2 o3 o4 o5
  obtain ⟨⟨f0, f1, f2, f3, f4, f5⟩, o0, o1, o2, o3, o4, o5⟩ := ad_old hA4
  have k0 : V.cell? ⟨G, 0, none⟩ = some (.string s) := by rw [blk_cell hgo.1]; rfl
  obtain ⟨p, hp⟩ : ∃ p, i + 1 = p := ⟨_, rfl⟩
  have k1 : V.cell? ⟨G, 1, none⟩ = some (.int .i64 ((p : Int) + 1)) := by
    rw [blk_cell hgo.1]
    show some (Value.int .i64 ((i + 2 : Nat) : Int)) = _
    rw [show ((i + 2 : Nat) : Int) = (p : Int) + 1 by omega]
  have x2 : p < s.size := by omega
  have hix : ((s[p]'x2).toNat : Int) = nxB s (i + 1) := by
    subst hp
    rw [nxB_at s x2]
  obtain ⟨c, hc⟩ : ∃ c, nxB s (i + 1) = c := ⟨_, rfl⟩
  rw [hc] at hix
  have HC := Lib.hid hc
  have iw1 := show IntKind.i64.wrap ((p : Int) + 1 - 1) = (p : Int) by rw [IntKind.wrap_i64]; omega
  have iw2 := show IntKind.i64.wrap ((p : Int)) = (p : Int) by rw [IntKind.wrap_i64]; omega
  have x0 : (0 : Int) ≤ (p : Int) := by omega
  have x1 : (p : Int) < s.size := by omega
  have HGO := Lib.hid hgo
  have HA4 := Lib.hid hA4
  clear hgo hA4 hc hp
  go_still_tail 11, (by kernel_rfl)
  go_wp2
  have hA3 := ad_laid HA4.out (.int .u8 4) (.int .i64 0) (.int .u8 c) (.string ⟨#[]⟩) (.int .i64 0) (.bool false)
  have h3 := (((((HGO.out.far (Nat.le_refl _) hGl 0 (.int .u8 4)).far (Nat.le_refl _) hGl 1 (.int .i64 0)).far (Nat.le_refl _) hGl 2 (.int .u8 c)).far (Nat.le_refl _) hGl 3 (.string ⟨#[]⟩)).far (Nat.le_refl _) hGl 4 (.int .i64 0)).far (Nat.le_refl _) hGl 5 (.bool false)
  obtain ⟨Z, hZ⟩ : ∃ Z, (((((V.setCell ⟨w.heap.size, 0, none⟩ (.int .u8 4)).setCell ⟨w.heap.size, 1, none⟩ (.int .i64 0)).setCell ⟨w.heap.size, 2, none⟩ (.int .u8 c)).setCell ⟨w.heap.size, 3, none⟩ (.string ⟨#[]⟩)).setCell ⟨w.heap.size, 4, none⟩ (.int .i64 0)).setCell ⟨w.heap.size, 5, none⟩ (.bool false) = Z := ⟨_, rfl⟩
  rw [hZ] at hA3 h3 ⊢
  have hA5 : Z.drew.heap[w.heap.size]? = _ := hA3
  have r0 : Z.drew.cell? ⟨w.heap.size, 0, none⟩ = some (.int .u8 4) := by rw [blk_cell hA5]; rfl
  have r1 : Z.drew.cell? ⟨w.heap.size, 1, none⟩ = some (.int .i64 0) := by rw [blk_cell hA5]; rfl
  have r2 : Z.drew.cell? ⟨w.heap.size, 2, none⟩ = some (.int .u8 c) := by rw [blk_cell hA5]; rfl
  have r3 : Z.drew.cell? ⟨w.heap.size, 3, none⟩ = some (.string ⟨#[]⟩) := by rw [blk_cell hA5]; rfl
  have r4 : Z.drew.cell? ⟨w.heap.size, 4, none⟩ = some (.int .i64 0) := by rw [blk_cell hA5]; rfl
  have r5 : Z.drew.cell? ⟨w.heap.size, 5, none⟩ = some (.bool false) := by rw [blk_cell hA5]; rfl
  clear hZ hA3 hA5
  refine bodyPost_ret (by simp [results, Tryz.results33, r0, r1, r2, r3, r4, r5, go_sem]; try rfl) rfl ?_
  exact ⟨by rw [HC.out], h3.drewN 1⟩
end Go.Proofs.YtiddfimaenjdcaaGreatDoor

/- addr's one: an address, and at most one offset: walked. -/
set_option linter.unusedVariables false
set_option linter.unusedSimpArgs false
namespace Go.Proofs.YtiddfimaenjdcaaGreatDoor
open Go.RowKit Go.Proofs.YtiddfimaenjdcaaGreatDoorW.PrintWords Go.Proofs.YtiddfimaenjdcaaGreatDoorW.PrintLast

theorem Plp.alloc {w w1 : World} {G : Nat} {s : ByteArray} {i : Nat} (h : Plp w G s i w1) (o : Obj) : Plp w G s i (w1.alloc o) := h.then (Plp.of_below h.1 (below_alloc (Below.refl _ w1) o))
abbrev adC (k n c off : Int) : Array Value := #[.int .u8 k, .int .i64 n, .int .u8 c, .string ⟨#[]⟩, .int .i64 off, .bool false]

/-- the result is laid -/
def laidZ (U : World) (A : Nat) (k n c o : Int) : World := (((((U.setCell ⟨A, 0, none⟩ (.int .u8 k)).setCell ⟨A, 1, none⟩ (.int .i64 n)).setCell ⟨A, 2, none⟩ (.int .u8 c)).setCell ⟨A, 3, none⟩ (.string ⟨#[]⟩)).setCell ⟨A, 4, none⟩ (.int .i64 o)).setCell ⟨A, 5, none⟩ (.bool false)
theorem laidZ_is {w U : World} {G A : Nat} {s : ByteArray} {j : Nat} {k n c o : Int} {k0 n0 c0 s0 o0 b0 : Value} (hp : Plp w G s j U) (hA : U.heap[A]? = some (.cells #[k0, n0, c0, s0, o0, b0] 61 (0, 0))) (hw : w.heap.size ≤ A) (hG : G < w.heap.size) :
    (laidZ U A k n c o).heap[A]? = some (.cells (adC k n c o) 61 (0, 0)) ∧ Plp w G s j (laidZ U A k n c o) :=
  ⟨ad_laid hA _ _ _ _ _ _, (((((hp.far hw hG 0 _).far hw hG 1 _).far hw hG 2 _).far hw hG 3 _).far hw hG 4 _).far hw hG 5 _⟩
/-- no offset stands there -/
def noOff (s : ByteArray) (j : Nat) : Prop := nxB s j ≠ 43 ∧ nxB s j ≠ 45
set_option maxRecDepth 100000 in
set_option maxHeartbeats 2000000 in
theorem one_none {w : World} {G : Nat} {s : ByteArray} {i j : Nat} {k n c : Int} (h : Pl w G s i) (hB : ∀ W, Pl W G s i → Calls Tryz.prog 33 #[.pointer (some ⟨G, 0, none⟩)] W (BasePost W G s (adV k n c 0 false) true j)) (hj : j ≤ s.size) (hno : noOff s j) :
    Calls Tryz.prog 21 #[.pointer (some ⟨G, 0, none⟩)] w (BasePost w G s (adV k n c 0 false) true j) := by
  have hal : Plp w G s i (w.alloc (adO 0 0 0 0 false)) := Plp.of_below h (below_alloc (Below.refl _ w) _)
  have hGl := blk_lt h
  have hA1 : (w.alloc (adO 0 0 0 0 false)).heap[w.heap.size]? = some (.cells #[.int .u8 0, .int .i64 0, .int .u8 0, .string ⟨#[]⟩, .int .i64 0, .bool false] 61 (0, 0)) := heap_alloc_new w _
  have HA := Lib.hid (show ∀ w2 : World, (w.alloc (adO 0 0 0 0 false)).grownBy w2 (some G) → w2.heap[w.heap.size]? = some (.cells #[.int .u8 0, .int .i64 0, .int .u8 0, .string ⟨#[]⟩, .int .i64 0, .bool false] 61 (0, 0)) from fun w2 hg => (hg.block _ (by simp) (fun e => by have := Option.some.inj e; omega)).trans hA1)
  have HBS := Lib.hid (hB _ hal.1)
  have HAL := Lib.hid hal
  have HNX := Lib.hid (fun W (hW : Pl W G s j) => next_any hW hj)
  obtain ⟨x, hx⟩ : ∃ x, nxB s j = x := ⟨_, rfl⟩
  rw [hx] at HNX
  have b1 : (x == 43) = false := by rw [beq_eq_false_iff_ne, ← hx]; exact hno.1
  have b2 : (x == 45) = false := by rw [beq_eq_false_iff_ne, ← hx]; exact hno.2
  clear h hal hA1 hB hno hx
  go_enter Tryz.func21, Tryz.ntmps21
  go_wp2_with fail
  refine HBS.out.mono ?_
  rintro e w2 ⟨rfl, h2⟩
  have hA2 := HA.out w2 h2.2
  have hAl := blk_lt hA2
  have hGl2 := blk_lt h2.1
  have hW1 : (w2.alloc (adO k n c 0 false)).heap[w.heap.size]? = _ := (Below.heap_alloc w2 _ _ hAl).trans hA2
  have hW2 : (w2.alloc (adO k n c 0 false)).heap[w2.heap.size]? = some (.cells (adC k n c 0) 61 (0, 0)) := heap_alloc_new w2 _
  have hP2 := (HAL.out.then h2).alloc (adO k n c 0 false)
  have HAL2 := Lib.hid (And.intro hW1 (And.intro hW2 hP2))
  have n1 : w.heap.size ≠ w2.heap.size := by omega
  have n2 : w2.heap.size ≠ w.heap.size := by omega
  have n3 : w.heap.size < w2.heap.size := by omega
  clear hA2 hW1 hW2 hP2 h2
  go_wp2
  obtain ⟨V, hV⟩ : ∃ V, w2.alloc (adO k n c 0 false) = V := ⟨_, rfl⟩
  rw [hV] at HAL2 ⊢
  obtain ⟨A2, hA2⟩ : ∃ A2, w2.heap.size = A2 := ⟨_, rfl⟩
  rw [hA2] at HAL2 n1 n2 n3 ⊢
  obtain ⟨⟨f0, f1, f2, f3, f4, f5⟩, o0, o1, o2, o3, o4, o5⟩ := ad_old HAL2.out.1
  obtain ⟨_, p0, p1, p2, p3, p4, p5⟩ := ad_old HAL2.out.2.1
  have HNV := Lib.hid (fun q => HNX.out (V.drewN q) (show Pl (V.drewN q) G s j from HAL2.out.2.2.1))
  go_loopw [6, 7, 8, 9, 10] (fun v6 v7 v8 v9 v10 wr => v6 = .bool true ∧ v7 = .int .u16 0 ∧ ∃ q, wr = V.drewN q) (fun _ _ _ _ _ _ => 0)
  case atStart => exact ⟨rfl, rfl, 0, rfl⟩
  case round =>
    obtain ⟨rfl, rfl, q, rfl⟩ := hrel
    go_wp2_with (go_at_call 20; (with_reducible refine (HNV.out _).mono ?_); rintro e w3 ⟨rfl, q2, rfl⟩)
    rename_i q3
    have hUA : (V.drewN (q + q3 + q2)).heap[w.heap.size]? = _ := HAL2.out.1
    have hUP := HAL2.out.2.2.drewN (q + q3 + q2)
    obtain ⟨U, hU⟩ : ∃ U, V.drewN (q + q3 + q2) = U := ⟨_, rfl⟩
    rw [hU] at hUA hUP ⊢
    obtain ⟨hz1, hz2⟩ := laidZ_is (k := k) (n := n) (c := c) (o := 0) hUP hUA (Nat.le_refl _) hGl
    obtain ⟨Z, hZ⟩ : ∃ Z, laidZ U w.heap.size k n c 0 = Z := ⟨_, rfl⟩
    rw [hZ] at hz1 hz2
    have hZ' : (((((U.setCell ⟨w.heap.size, 0, none⟩ (.int .u8 k)).setCell ⟨w.heap.size, 1, none⟩ (.int .i64 n)).setCell ⟨w.heap.size, 2, none⟩ (.int .u8 c)).setCell ⟨w.heap.size, 3, none⟩ (.string ⟨#[]⟩)).setCell ⟨w.heap.size, 4, none⟩ (.int .i64 0)).setCell ⟨w.heap.size, 5, none⟩ (.bool false) = Z := hZ
    rw [hZ']
    obtain ⟨_, r0, r1, r2, r3, r4, r5⟩ := ad_old hz1
    clear hZ hZ' hU hUA hUP f0 f1 f2 f3 f4 f5 o0 o1 o2 o3 o4 o5 p0 p1 p2 p3 p4 p5
    first
      | (refine bodyPost_ret (by simp [results, Tryz.results21, r0, r1, r2, r3, r4, r5, go_sem]; try rfl) rfl ?_
         exact ⟨rfl, hz2⟩)
      | (have hz4 : Z.drew.heap[w.heap.size]? = _ := hz1
         obtain ⟨_, t0, t1, t2, t3, t4, t5⟩ := ad_old hz4
         refine bodyPost_ret (by simp [results, Tryz.results21, t0, t1, t2, t3, t4, t5, go_sem]; try rfl) rfl ?_
         exact ⟨rfl, hz2.drewN 1⟩)
end Go.Proofs.YtiddfimaenjdcaaGreatDoor

/- addr's one with an offset: walked. -/
set_option linter.unusedVariables false
set_option linter.unusedSimpArgs false
namespace Go.Proofs.YtiddfimaenjdcaaGreatDoor
open Go.RowKit Go.Proofs.YtiddfimaenjdcaaGreatDoorW.PrintWords Go.Proofs.YtiddfimaenjdcaaGreatDoorW.PrintLast

/-- a number is read: the addresses stay -/
theorem num_step {w wr w5 : World} {G A1 A2 q : Nat} {s : ByteArray} {j j2 : Nat} {x : Value} {cs ds : Array Value} (hp : Plp w G s j wr) (h1 : wr.heap[A1]? = some (.cells cs 61 (0, 0))) (h2 : wr.heap[A2]? = some (.cells ds 61 (0, 0))) (hne : A1 ≠ G ∧ A2 ≠ G) (h5 : Plp ((wr.drewN q).setCell ⟨G, 1, none⟩ x) G s j2 w5) :
    w5.heap[A1]? = some (.cells cs 61 (0, 0)) ∧ w5.heap[A2]? = some (.cells ds 61 (0, 0)) ∧ Plp w G s j2 w5 := by
  have e : ∀ A, A < wr.heap.size → A ≠ G → w5.heap[A]? = wr.heap[A]? := fun A hA hn =>
    (h5.2.block A (by simpa using hA) (fun e => hn (Option.some.inj e))).trans (Below.heap_setCell (wr.drewN q) _ _ _ hn)
  refine ⟨(e A1 (blk_lt h1) hne.1).trans h1, (e A2 (blk_lt h2) hne.2).trans h2, h5.1, ?_⟩
  exact ⟨h5.2.os.trans hp.2.os, h5.2.tape.trans hp.2.tape, h5.2.output.trans hp.2.output, Nat.le_trans hp.2.size (by have := h5.2.size; simpa using this), fun b hb hn => (e b (Nat.lt_of_lt_of_le hb hp.2.size) (fun e => hn (congrArg some e))).trans (hp.2.block b hb hn)⟩

set_option maxRecDepth 100000 in
set_option maxHeartbeats 2000000 in
theorem one_off {w : World} {G : Nat} {s : ByteArray} {i j j2 : Nat} {k n c m b sg : Int} (h : Pl w G s i) (hB : ∀ W, Pl W G s i → Calls Tryz.prog 33 #[.pointer (some ⟨G, 0, none⟩)] W (BasePost W G s (adV k n c 0 false) true j)) (hj : j < s.size) (hsb : nxB s j = b) (hsg : (b = 43 ∧ sg = 1) ∨ (b = 45 ∧ sg = -1)) (hN : ∀ W, Pl W G s (j + 1) → Calls Tryz.prog 34 #[.pointer (some ⟨G, 0, none⟩)] W (NumPost W G s m true j2)) (hj1 : j < j2) (hj2 : j2 ≤ s.size) (hm : 0 ≤ m ∧ m < 1000000000) (hs : s.size ≤ 1000000) (hno : noOff s j2) :
    Calls Tryz.prog 21 #[.pointer (some ⟨G, 0, none⟩)] w (BasePost w G s (adV k n c (sg * m) false) true j2) := by
  have hal : Plp w G s i (w.alloc (adO 0 0 0 0 false)) := Plp.of_below h (below_alloc (Below.refl _ w) _)
  have hGl := blk_lt h
  have hA1 : (w.alloc (adO 0 0 0 0 false)).heap[w.heap.size]? = some (.cells #[.int .u8 0, .int .i64 0, .int .u8 0, .string ⟨#[]⟩, .int .i64 0, .bool false] 61 (0, 0)) := heap_alloc_new w _
  have HA := Lib.hid (show ∀ w2 : World, (w.alloc (adO 0 0 0 0 false)).grownBy w2 (some G) → w2.heap[w.heap.size]? = some (.cells #[.int .u8 0, .int .i64 0, .int .u8 0, .string ⟨#[]⟩, .int .i64 0, .bool false] 61 (0, 0)) from fun w2 hg => (hg.block _ (by simp) (fun e => by have := Option.some.inj e; omega)).trans hA1)
  have HBS := Lib.hid (hB _ hal.1)
  have HAL := Lib.hid hal
  have HNX := Lib.hid (fun W (hW : Pl W G s j) => next_any hW (Nat.le_of_lt hj))
  rw [hsb] at HNX
  have HN2 := Lib.hid (fun W (hW : Pl W G s j2) => next_any hW hj2)
  have HNU := Lib.hid hN
  have HSG := Lib.hid hsg
  obtain ⟨x, hx⟩ : ∃ x, nxB s j2 = x := ⟨_, rfl⟩
  rw [hx] at HN2
  have b1 : (x == 43) = false := by rw [beq_eq_false_iff_ne, ← hx]; exact hno.1
  have b2 : (x == 45) = false := by rw [beq_eq_false_iff_ne, ← hx]; exact hno.2
  clear h hal hA1 hB hno hx hN hsg hsb
  go_enter Tryz.func21, Tryz.ntmps21
  go_wp2_with fail
  refine HBS.out.mono ?_
  rintro e w2 ⟨rfl, h2⟩
  have hA2 := HA.out w2 h2.2
  have hAl := blk_lt hA2
  have hGl2 := blk_lt h2.1
  have hW1 : (w2.alloc (adO k n c 0 false)).heap[w.heap.size]? = _ := (Below.heap_alloc w2 _ _ hAl).trans hA2
  have hW2 : (w2.alloc (adO k n c 0 false)).heap[w2.heap.size]? = some (.cells (adC k n c 0) 61 (0, 0)) := heap_alloc_new w2 _
  have hP2 := (HAL.out.then h2).alloc (adO k n c 0 false)
  have HAL2 := Lib.hid (And.intro hW1 (And.intro hW2 hP2))
  have n1 : w.heap.size ≠ w2.heap.size := by omega
  have n2 : w2.heap.size ≠ w.heap.size := by omega
  have n3 : w.heap.size < w2.heap.size := by omega
  clear hA2 hW1 hW2 hP2 h2
  go_wp2
  obtain ⟨V, hV⟩ : ∃ V, w2.alloc (adO k n c 0 false) = V := ⟨_, rfl⟩
  rw [hV] at HAL2 ⊢
  obtain ⟨A2, hA2⟩ : ∃ A2, w2.heap.size = A2 := ⟨_, rfl⟩
  rw [hA2] at HAL2 n1 n2 n3 ⊢
  have HGA := Lib.hid (show w.heap.size ≠ G ∧ A2 ≠ G from ⟨by omega, by omega⟩)
  have hGA2 : G < A2 := by omega
  go_loopw [6, 7, 8, 9, 10] (fun v6 v7 v8 v9 v10 wr => v6 = .bool true ∧ v7 = .int .u16 0 ∧ wr.heap[w.heap.size]? = some (.cells #[.int .u8 0, .int .i64 0, .int .u8 0, .string ⟨#[]⟩, .int .i64 0, .bool false] 61 (0, 0)) ∧ ((Plp w G s j wr ∧ wr.heap[A2]? = some (.cells (adC k n c 0) 61 (0, 0))) ∨ (Plp w G s j2 wr ∧ wr.heap[A2]? = some (.cells (adC k n c (sg * m)) 61 (0, 0))))) (fun _ _ _ _ _ wr => j2 - plOf G wr)
  case atStart => exact ⟨rfl, rfl, HAL2.out.1, .inl ⟨HAL2.out.2.2, HAL2.out.2.1⟩⟩
  case round =>
    obtain ⟨rfl, rfl, hw1, (⟨hwp, hw2⟩ | ⟨hwp, hw2⟩)⟩ := hrel
    · have k1 : wr.cell? ⟨G, 1, none⟩ = some (.int .i64 (j : Int)) := by rw [blk_cell hwp.1]; rfl
      have z1 : wr.frozen? ⟨G, 1, none⟩ = false := blk_frozen hwp.1 1
      have HNV := Lib.hid (fun q => HNX.out (wr.drewN q) (show Pl (wr.drewN q) G s j from hwp.1))
      have HNW := Lib.hid (HNX.out wr hwp.1)
      have hj9 : (j : Int) ≤ 1000000 := by omega
      obtain ⟨hm1, hm2⟩ := hm
      have hGw := blk_lt hwp.1
      have hA2w := blk_lt hw2
      have hstep : ∀ q, Plp w G s (j + 1) ((wr.drewN q).setCell ⟨G, 1, none⟩ (.int .i64 ((j : Int) + 1))) := fun q => by
        have := (hwp.drewN q).go (j + 1)
        rw [show ((j + 1 : Nat) : Int) = (j : Int) + 1 by omega] at this
        exact this
      have hNum := fun q => HNU.out _ (hstep q).1
      have HST := Lib.hid (And.intro hstep hNum)
      have HW := Lib.hid (And.intro hw1 hw2)
      have HPW := Lib.hid hwp
      clear hwp hw1 hw2 hstep hNum
      rcases HSG.out with ⟨rfl, rfl⟩ | ⟨rfl, rfl⟩
      · go_wp2_with (first
          | (go_at_call 20; (with_reducible refine (HNV.out _).mono ?_); rintro e w3 ⟨rfl, q2, rfl⟩)
          | (go_at_call 20; (with_reducible refine HNW.out.mono ?_); rintro e w3 ⟨rfl, q2, rfl⟩)
          | (go_at_call 34; refine (HST.out.2 _).mono ?_; rintro e w5 ⟨rfl, h5⟩; have HW5 := Lib.hid (num_step HPW.out HW.out.1 HW.out.2 HGA.out h5); obtain ⟨_, p0, p1, p2, p3, p4, p5⟩ := ad_old HW5.out.2.1; obtain ⟨⟨y0, y1, y2, y3, y4, y5⟩, _⟩ := ad_old HW5.out.2.1; have H5 := Lib.hid h5; clear h5))
        have hfar := HW5.out.2.2.far (Nat.le_of_lt n3) hGl 4 (.int .i64 (m))
        refine ⟨⟨rfl, rfl, blk_far (p := ⟨A2, 4, none⟩) HW5.out.1 n1 _, .inr ⟨hfar, by rw [Int.one_mul]; exact blk_set HW5.out.2.1 4 (.int .i64 (m))⟩⟩, ?_⟩
        show j2 - plOf G _ < j2 - plOf G wr
        rw [plOf_is hfar.1, plOf_is HPW.out.1]
        omega
      · go_wp2_with (first
          | (go_at_call 20; (with_reducible refine (HNV.out _).mono ?_); rintro e w3 ⟨rfl, q2, rfl⟩)
          | (go_at_call 20; (with_reducible refine HNW.out.mono ?_); rintro e w3 ⟨rfl, q2, rfl⟩)
          | (go_at_call 34; refine (HST.out.2 _).mono ?_; rintro e w5 ⟨rfl, h5⟩; have HW5 := Lib.hid (num_step HPW.out HW.out.1 HW.out.2 HGA.out h5); obtain ⟨_, p0, p1, p2, p3, p4, p5⟩ := ad_old HW5.out.2.1; obtain ⟨⟨y0, y1, y2, y3, y4, y5⟩, _⟩ := ad_old HW5.out.2.1; have H5 := Lib.hid h5; clear h5))
        have hfar := HW5.out.2.2.far (Nat.le_of_lt n3) hGl 4 (.int .i64 (-m))
        refine ⟨⟨rfl, rfl, blk_far (p := ⟨A2, 4, none⟩) HW5.out.1 n1 _, .inr ⟨hfar, by rw [show (-1 : Int) * m = -m by omega]; exact blk_set HW5.out.2.1 4 (.int .i64 (-m))⟩⟩, ?_⟩
        show j2 - plOf G _ < j2 - plOf G wr
        rw [plOf_is hfar.1, plOf_is HPW.out.1]
        omega
    · have hUP := hwp
      have HNW := Lib.hid (HN2.out wr hwp.1)
      have HNV := Lib.hid (fun q => HN2.out (wr.drewN q) (show Pl (wr.drewN q) G s j2 from hwp.1))
      obtain ⟨⟨f0, f1, f2, f3, f4, f5⟩, o0, o1, o2, o3, o4, o5⟩ := ad_old hw1
      obtain ⟨_, p0, p1, p2, p3, p4, p5⟩ := ad_old hw2
      have HW := Lib.hid (And.intro hw1 (And.intro hw2 hwp))
      clear hw1 hw2 hwp hUP
      go_wp2_with (first
        | (go_at_call 20; (with_reducible refine (HNV.out _).mono ?_); rintro e w3 ⟨rfl, q2, rfl⟩)
        | (go_at_call 20; (with_reducible refine HNW.out.mono ?_); rintro e w3 ⟨rfl, q2, rfl⟩))
      rename_i q3
      have hUA : (wr.drewN (q3 + q2)).heap[w.heap.size]? = _ := HW.out.1
      have hUP := HW.out.2.2.drewN (q3 + q2)
      obtain ⟨U, hU⟩ : ∃ U, wr.drewN (q3 + q2) = U := ⟨_, rfl⟩
      rw [hU] at hUA hUP ⊢
      obtain ⟨hz1, hz2⟩ := laidZ_is (k := k) (n := n) (c := c) (o := sg * m) hUP hUA (Nat.le_refl _) hGl
      obtain ⟨Z, hZ⟩ : ∃ Z, laidZ U w.heap.size k n c (sg * m) = Z := ⟨_, rfl⟩
      rw [hZ] at hz1 hz2
      have hZ' : (((((U.setCell ⟨w.heap.size, 0, none⟩ (.int .u8 k)).setCell ⟨w.heap.size, 1, none⟩ (.int .i64 n)).setCell ⟨w.heap.size, 2, none⟩ (.int .u8 c)).setCell ⟨w.heap.size, 3, none⟩ (.string ⟨#[]⟩)).setCell ⟨w.heap.size, 4, none⟩ (.int .i64 (sg * m))).setCell ⟨w.heap.size, 5, none⟩ (.bool false) = Z := hZ
      rw [hZ']
      have hz4 : Z.drew.heap[w.heap.size]? = _ := hz1
      obtain ⟨_, t0, t1, t2, t3, t4, t5⟩ := ad_old hz4
      obtain ⟨_, r0, r1, r2, r3, r4, r5⟩ := ad_old hz1
      clear hZ hZ' hU hUA hUP f0 f1 f2 f3 f4 f5 o0 o1 o2 o3 o4 o5 p0 p1 p2 p3 p4 p5
      first
        | (refine bodyPost_ret (by simp [results, Tryz.results21, r0, r1, r2, r3, r4, r5, go_sem]; try rfl) rfl ?_
           exact ⟨rfl, hz2⟩)
        | (refine bodyPost_ret (by simp [results, Tryz.results21, t0, t1, t2, t3, t4, t5, go_sem]; try rfl) rfl ?_
           exact ⟨rfl, hz2.drewN 1⟩)
end Go.Proofs.YtiddfimaenjdcaaGreatDoor

/- addr.Parse of a list of addresses: walked. -/
set_option linter.unusedVariables false
set_option linter.unusedSimpArgs false
namespace Go.Proofs.YtiddfimaenjdcaaGreatDoor
open Go.RowKit Go.Shelf Go.Maps Go.Proofs.YtiddfimaenjdcaaGreatDoorW.PrintWords Go.Proofs.YtiddfimaenjdcaaGreatDoorW.PrintLast

theorem infoA : (Tryz.prog.info? 61).map (fun i => (i.zero, i.size, i.bytes)) = some (some (.agg #[.int .u8 0, .int .i64 0, .int .u8 0, .string ⟨#[]⟩, .int .i64 0, .bool false]), 6, 56) := by kernel_rfl
/-- an address: kind, number, mark, offset -/
structure Ad where
  k : Int
  n : Int
  c : Int
  o : Int
/-- the cells of an address in a row -/
def adL (a : Ad) : List Value := [.int .u8 a.k, .int .i64 a.n, .int .u8 a.c, .string ⟨#[]⟩, .int .i64 a.o, .bool false]
/-- the cells of a row of addresses -/
def adR (ads : List Ad) : List Value := ads.flatMap adL
theorem adR_snoc (ads : List Ad) (a : Ad) : adR (ads ++ [a]) = adR ads ++ adL a := by simp [adR]
theorem stay_nx {set : List UInt8} {s : ByteArray} {i : Nat} (h : ∀ c ∈ set, nxB s i ≠ (c.toNat : Int)) : stayB set s i := by
  intro c hc
  rw [← Bool.not_eq_true]
  intro h2
  refine h c (by simpa using h2) ?_
  unfold nxB
  rw [hc]
/-- one address stands at i, up to j -/
def AdAt (G : Nat) (s : ByteArray) (i : Nat) (a : Ad) (j : Nat) : Prop := ∀ W, Pl W G s i → Calls Tryz.prog 21 #[.pointer (some ⟨G, 0, none⟩)] W (BasePost W G s (adV a.k a.n a.c a.o false) true j)
/-- a list of addresses stands at i, up to e -/
inductive Chain (G : Nat) (s : ByteArray) (e : Nat) : Nat → List Ad → Prop where
  | last {i : Nat} {a : Ad} (h : AdAt G s i a e) (hi : i ≤ e) (he : e ≤ s.size) (hx : nxB s e ≠ 32 ∧ nxB s e ≠ 9 ∧ nxB s e ≠ 44 ∧ nxB s e ≠ 59) : Chain G s e i [a]
  | more {i j : Nat} {a : Ad} {ads : List Ad} (h : AdAt G s i a j) (hi : i ≤ j) (hj : j + 1 ≤ s.size) (hx : nxB s j = 44) (hy : nxB s (j + 1) ≠ 32 ∧ nxB s (j + 1) ≠ 9) (hs : Chain G s e (j + 1) ads) : Chain G s e i (a :: ads)
theorem blank_has : ((⟨#[32, 9]⟩ : ByteArray).data.toList.all fun b => decide (b.toNat < 128)) = true := by decide
theorem blanks_has : ((⟨#[32, 9, 58]⟩ : ByteArray).data.toList.all fun b => decide (b.toNat < 128)) = true := by decide
theorem pass2 {w : World} {G : Nat} {s : ByteArray} {i : Nat} (h : Pl w G s i) (hi : i ≤ s.size) (hs : s.size ≤ 1000000) (hx : nxB s i ≠ 32 ∧ nxB s i ≠ 9) : Calls Tryz.prog 19 #[.pointer (some ⟨G, 0, none⟩), .string ⟨#[32, 9]⟩] w fun e w' => e = .returned (.tuple #[]) ∧ Plp w G s i w' :=
  pass_any h hi hs (by decide) blank_has (stay_nx fun c hc => by
    have hc2 : c = 32 ∨ c = 9 := by simpa using hc
    rcases hc2 with rfl | rfl
    · exact hx.1
    · exact hx.2)
theorem pass3 {w : World} {G : Nat} {s : ByteArray} {i : Nat} (h : Pl w G s i) (hi : i ≤ s.size) (hs : s.size ≤ 1000000) (hx : nxB s i ≠ 32 ∧ nxB s i ≠ 9 ∧ nxB s i ≠ 58) : Calls Tryz.prog 19 #[.pointer (some ⟨G, 0, none⟩), .string ⟨#[32, 9, 58]⟩] w fun e w' => e = .returned (.tuple #[]) ∧ Plp w G s i w' :=
  pass_any h hi hs (by decide) blanks_has (stay_nx fun c hc => by
    have hc2 : c = 32 ∨ c = 9 ∨ c = 58 := by simpa using hc
    rcases hc2 with rfl | rfl | rfl
    · exact hx.1
    · exact hx.2.1
    · exact hx.2.2)
theorem row_x {wr X : World} {G n : Nat} {v : Value} {cs : List Value} (h : wr.ownsRow 0 61 6 v n cs) (hg : wr.grownBy X (some G)) (hne : ∀ b, v.ownBlock = some b → b ≠ G) : X.ownsRow 0 61 6 v n cs := owns_step h fun b hb => hg.block b (owns_lt h b hb) (fun e => hne b hb (Option.some.inj e))
theorem app_step {w X w5 : World} {G j : Nat} {s : ByteArray} {v v1 : Value} (hX : Plp w G s j X) (hv : ∀ b, v.ownBlock = some b → w.heap.size ≤ b) (hGl : G < w.heap.size) (hg : X.grownBy w5 v.ownBlock) (ha : v1.ownBlock = v.ownBlock ∨ v1.ownBlock = some X.heap.size) : Plp w G s j w5 ∧ (∀ b, v1.ownBlock = some b → w.heap.size ≤ b) := by
  have hne : ∀ b, b < w.heap.size → some b ≠ v.ownBlock := fun b hb e => by have := hv b e.symm; omega
  refine ⟨⟨(hg.block G (blk_lt hX.1) (hne G hGl)).trans hX.1, ?_⟩, fun b hb => ?_⟩
  · exact ⟨hg.os.trans hX.2.os, hg.tape.trans hX.2.tape, hg.output.trans hX.2.output, Nat.le_trans hX.2.size hg.size, fun b hb hn => (hg.block b (Nat.lt_of_lt_of_le hb hX.2.size) (hne b hb)).trans (hX.2.block b hb hn)⟩
  · rcases ha with e | e
    · exact hv b (e ▸ hb)
    · rw [e] at hb
      have := Option.some.inj hb
      have := hX.2.size
      omega
theorem ad_new {w : World} {B : Nat} (hB : B = w.heap.size) (k n c o : Int) : ∀ j u, (adL ⟨k, n, c, o⟩)[j]? = some u → (w.alloc (adO k n c o false)).cell? ((⟨B, 0, none⟩ : Addr).add j) = some u := by
  subst hB
  intro j u hu
  have hn := heap_alloc_new w (adO k n c o false)
  unfold adL at hu
  match j, hu with
  | 0, hu => rw [← hu, Addr.add_lit, blk_cell hn]; rfl
  | 1, hu => rw [← hu, Addr.add_lit, blk_cell hn]; rfl
  | 2, hu => rw [← hu, Addr.add_lit, blk_cell hn]; rfl
  | 3, hu => rw [← hu, Addr.add_lit, blk_cell hn]; rfl
  | 4, hu => rw [← hu, Addr.add_lit, blk_cell hn]; rfl
  | 5, hu => rw [← hu, Addr.add_lit, blk_cell hn]; rfl
theorem ad_one (k n c o : Int) : ∀ u ∈ adL ⟨k, n, c, o⟩, u.oneCell' = true := by
  intro u hu
  simp [adL] at hu
  rcases hu with rfl | rfl | rfl | rfl | rfl | rfl <;> rfl
theorem row_slice {w : World} {n : Nat} {v : Value} {cs : List Value} (h : w.ownsRow 0 61 6 v n cs) : ∃ ad c, v = .slice ad n c := by
  rcases h.2 with ⟨rfl, rfl, _⟩ | ⟨g, cap, cur, rfl, _⟩
  · exact ⟨none, 0, rfl⟩
  · exact ⟨_, _, rfl⟩
theorem below_place {w W0 w5 : World} {G j : Nat} {s : ByteArray} (h : Below w.heap.size w W0) (hG : w.heap.size = G) (k : Plp W0 G s j w5) : Below w.heap.size w w5 :=
  ⟨k.2.os.trans h.os, k.2.tape.trans h.tape, k.2.output.trans h.output, Nat.le_trans h.size k.2.size, fun b hb => (k.2.block b (Nat.lt_of_lt_of_le hb h.size) (fun e => by have := Option.some.inj e; omega)).trans (h.block b hb)⟩
theorem place_set {w : World} {G j : Nat} (hG : G < w.heap.size) (v : Value) : w.grownBy (w.setCell ⟨G, j, none⟩ v) (some G) :=
  ⟨rfl, rfl, rfl, by simp, fun b hb hn => Below.heap_setCell _ _ _ _ (fun e => hn (congrArg some e))⟩
def AParse (w : World) (ads : List Ad) (j : Nat) (e : Ending) (w' : World) : Prop := ∃ v, e = .returned (.tuple #[v, .int .i64 (j : Int), .int .u16 0]) ∧ w'.ownsRow 0 61 6 v ads.length (adR ads) ∧ Below w.heap.size w w'
set_option maxRecDepth 100000 in
set_option maxHeartbeats 4000000 in
theorem aparse_any (w : World) {s : ByteArray} {e : Nat} {ads : List Ad} (hs : s.size ≤ 1000000) (hl : ads.length ≤ 100) (h0 : nxB s 0 ≠ 32 ∧ nxB s 0 ≠ 9 ∧ nxB s 0 ≠ 58) (h1 : nxB s 0 ≠ 37) (hC : ∀ G, Chain G s e 0 ads) : Calls Tryz.prog 8 #[.string s] w (AParse w ads e) := by
  obtain ⟨i0, hi0, hz0, hz1, hz2⟩ := info_parts infoA
  have HINF := Lib.hid (And.intro hi0 (And.intro hz0 (And.intro hz1 hz2)))
  clear hi0 hz0 hz1 hz2
  have hn := heap_alloc_new w (.cells #[.string s, .int .i64 0] 57)
  have hal : Pl (w.alloc (.cells #[.string s, .int .i64 0] 57)) w.heap.size s 0 := hn
  obtain ⟨W0, hW0⟩ : ∃ W0, w.alloc (.cells #[.string s, .int .i64 0] 57) = W0 := ⟨_, rfl⟩
  have HB0 := Lib.hid (show Below w.heap.size w W0 from hW0 ▸ below_alloc (Below.refl _ w) _)
  rw [hW0] at hal
  obtain ⟨G, hG⟩ : ∃ G, w.heap.size = G := ⟨_, rfl⟩
  rw [hG] at hal
  have HP0 := Lib.hid (pass3 hal (Nat.zero_le _) hs h0)
  obtain ⟨x, hx⟩ : ∃ x, nxB s 0 = x := ⟨_, rfl⟩
  have HN0 := Lib.hid (fun W (hW : Pl W G s 0) => next_any hW (Nat.zero_le _))
  rw [hx] at HN0 h1
  have b1 : (x == 37) = false := by rw [beq_eq_false_iff_ne]; exact h1
  have HC := Lib.hid (hC G)
  have HAL := Lib.hid hal
  clear hn hC h0 h1 hx hal
  go_enter Tryz.func8, Tryz.ntmps8
  go_wp2_with fail
  first | rw [hW0] | skip
  first | rw [hG] | skip
  refine HP0.out.mono ?_
  rintro e1 w1 ⟨rfl, h1⟩
  have H1 := Lib.hid h1
  have HN1 := Lib.hid (HN0.out w1 h1.1)
  have HN2 := Lib.hid (fun q => HN0.out (w1.drewN q) (show Pl (w1.drewN q) G s 0 from h1.1))
  clear h1
  go_wp2_with (first
    | (go_at_call 20; (with_reducible refine (HN2.out _).mono ?_); rintro e w3 ⟨rfl, q2, rfl⟩)
    | (go_at_call 20; (with_reducible refine HN1.out.mono ?_); rintro e w3 ⟨rfl, q2, rfl⟩))
  have hstart := H1.out.drewN q2
  have HST := Lib.hid hstart
  have hGl : G < W0.heap.size := blk_lt HAL.out
  clear hstart
  go_loopw [6] (fun v6 wr => ∃ (i : Nat) (done rest : List Ad), done ++ rest = ads ∧ Chain G s e i rest ∧ i ≤ s.size ∧ Plp W0 G s i wr ∧ wr.ownsRow 0 61 6 v6 done.length (adR done) ∧ ∀ b, v6.ownBlock = some b → W0.heap.size ≤ b) (fun _ wr => s.size + 1 - plOf G wr)
  case atStart => exact ⟨0, [], ads, rfl, HC.out, Nat.zero_le _, HST.out, World.ownsRow_nil _ _ _ _, fun b hb => (by cases hb)⟩
  case round =>
    obtain ⟨i, done, rest, hcat, hch, his, hP, hrow, hv⟩ := hrel
    have hlen : done.length ≤ 100 := by rw [← hcat] at hl; simp at hl; omega
    cases hch with
    | last hA hi he hx =>
      rename_i a
      obtain ⟨k, n, c, o⟩ := a
      have HA := Lib.hid (hA wr hP.1)
      obtain ⟨x, hxx⟩ : ∃ x, nxB s e = x := ⟨_, rfl⟩
      have HNX := Lib.hid (fun W (hW : Pl W G s e) => next_any hW he)
      have HPS := Lib.hid (fun W (hW : Pl W G s e) => pass2 hW he hs ⟨hx.1, hx.2.1⟩)
      rw [hxx] at hx HNX
      have x1 : (x == 44) = false := by rw [beq_eq_false_iff_ne]; exact hx.2.2.1
      have x2 : (x == 59) = false := by rw [beq_eq_false_iff_ne]; exact hx.2.2.2
      have HR := Lib.hid (And.intro hP (And.intro hrow hv))
      clear hP hrow hv hA hx hxx
      go_wp2_with (first
        | (go_at_call 21; refine HA.out.mono ?_; rintro e1 w2 ⟨rfl, h2⟩; have H2 := Lib.hid h2; clear h2))
      have hV : (w2.alloc (adO k n c o false)).heap[w2.heap.size]? = some (.cells (adC k n c o) 61 (0, 0)) := heap_alloc_new w2 _
      have hPV := H2.out.alloc (adO k n c o false)
      have hAw : wr.heap.size ≤ w2.heap.size := H2.out.2.size
      have hAV : w2.heap.size < (w2.alloc (adO k n c o false)).heap.size := by simp
      obtain ⟨V, hVV⟩ : ∃ V, w2.alloc (adO k n c o false) = V := ⟨_, rfl⟩
      obtain ⟨A, hA⟩ : ∃ A, w2.heap.size = A := ⟨_, rfl⟩
      rw [hVV, hA] at hV
      rw [hVV] at hPV
      rw [hVV, hA] at hAV
      rw [hA] at hAw
      have hwr := HR.out.1.2.size
      have hAG : A ≠ G := by omega
      first | rw [hVV] | skip
      first | rw [hA] | skip
      refine (HPS.out V hPV.1).mono ?_
      rintro e1 w3 ⟨rfl, h3⟩
      have h3A := (h3.2.block A hAV (fun e => hAG (Option.some.inj e))).trans hV
      have hP3 := hPV.then h3
      clear hVV hV hPV h3
      obtain ⟨⟨f0, f1, f2, f3, f4, f5⟩, o0, o1, o2, o3, o4, o5⟩ := ad_old h3A
      have HN3 := Lib.hid (HNX.out w3 hP3.1)
      have HN4 := Lib.hid (fun q => HNX.out (w3.drewN q) (show Pl (w3.drewN q) G s e from hP3.1))
      have H3 := Lib.hid (And.intro h3A hP3)
      clear h3A hP3
      have hGw : G < wr.heap.size := by omega
      have HX := Lib.hid (fun q => ((H3.out.2.drewN q).far hAw hGw 5 (.bool false)).alloc (adO k n c o false))
      have HROW := Lib.hid (fun q => row_x HR.out.2.1 (HX.out q).2 (fun b hb => by have := HR.out.2.2 b hb; omega))
      obtain ⟨ad6, c6, hu6⟩ := row_slice HR.out.2.1
      subst hu6
      go_wp2_with (first
        | (go_at_call 20; (with_reducible refine (HN4.out _).mono ?_); rintro e w4 ⟨rfl, q2, rfl⟩)
        | (go_at_call 20; (with_reducible refine HN3.out.mono ?_); rintro e w4 ⟨rfl, q2, rfl⟩)
        | (at_builtin; refine wpList_append_own_at _ rfl _ _ 30 rfl 0 61 i0 _ 6 56 Tryz.underlying30 HINF.out.1 HINF.out.2.1 HINF.out.2.2.1 HINF.out.2.2.2 rfl (by decide) _ done.length (adR done) rfl (HROW.out _) ⟨w3.heap.size, 0, none⟩ 1 1 (adL ⟨k, n, c, o⟩) rfl rfl (ad_new (by simp) k n c o) (ad_one k n c o) (by unfold maxLen; omega) (by omega) (by simp) ?_; intro v1 w5 hr1 hg1 _ ha1; have HR1 := Lib.hid (app_step (HR.out.1.then (HX.out _)) HR.out.2.2 hGl hg1 ha1); have HR2 := Lib.hid hr1; have k5 := Lib.hid HR1.out.1; have k1 : w5.cell? ⟨G, 1, none⟩ = some (.int .i64 (e : Int)) := (by rw [blk_cell HR1.out.1.1]; rfl); clear hr1 hg1 ha1))
      go_quiet (fail)
      go_wp2
      first | rw [Exit.noGoto_ret] | skip
      go_ret3
      refine ⟨v1, rfl, ?_, below_place HB0.out hG (HR1.out.1.drewN nq)⟩
      rw [← hcat, adR_snoc, List.length_append]
      exact HR2.out
    | more hA hi hj hx hy hs2 =>
      rename_i j a ads2
      obtain ⟨k, n, c, o⟩ := a
      have HA := Lib.hid (hA wr hP.1)
      have HNX := Lib.hid (fun W (hW : Pl W G s j) => next_any hW (by omega))
      have HPS := Lib.hid (fun W (hW : Pl W G s j) => pass2 hW (by omega) hs (by rw [hx]; decide))
      rw [hx] at HNX
      have HPN := Lib.hid (fun W (hW : Pl W G s (j + 1)) => pass2 hW hj hs hy)
      have HR := Lib.hid (And.intro hP (And.intro hrow hv))
      clear hP hrow hv hA hx hy
      go_wp2_with (first
        | (go_at_call 21; refine HA.out.mono ?_; rintro e1 w2 ⟨rfl, h2⟩; have H2 := Lib.hid h2; clear h2))
      have hV : (w2.alloc (adO k n c o false)).heap[w2.heap.size]? = some (.cells (adC k n c o) 61 (0, 0)) := heap_alloc_new w2 _
      have hPV := H2.out.alloc (adO k n c o false)
      have hAw : wr.heap.size ≤ w2.heap.size := H2.out.2.size
      have hAV : w2.heap.size < (w2.alloc (adO k n c o false)).heap.size := by simp
      obtain ⟨V, hVV⟩ : ∃ V, w2.alloc (adO k n c o false) = V := ⟨_, rfl⟩
      obtain ⟨A, hA⟩ : ∃ A, w2.heap.size = A := ⟨_, rfl⟩
      rw [hVV, hA] at hV
      rw [hVV] at hPV
      rw [hVV, hA] at hAV
      rw [hA] at hAw
      have hwr := HR.out.1.2.size
      have hAG : A ≠ G := by omega
      first | rw [hVV] | skip
      first | rw [hA] | skip
      refine (HPS.out V hPV.1).mono ?_
      rintro e1 w3 ⟨rfl, h3⟩
      have h3A := (h3.2.block A hAV (fun e => hAG (Option.some.inj e))).trans hV
      have hP3 := hPV.then h3
      clear hVV hV hPV h3
      obtain ⟨⟨f0, f1, f2, f3, f4, f5⟩, o0, o1, o2, o3, o4, o5⟩ := ad_old h3A
      have HN3 := Lib.hid (HNX.out w3 hP3.1)
      have HN4 := Lib.hid (fun q => HNX.out (w3.drewN q) (show Pl (w3.drewN q) G s j from hP3.1))
      have H3 := Lib.hid (And.intro h3A hP3)
      clear h3A hP3
      have hGw : G < wr.heap.size := by omega
      have HX := Lib.hid (fun q => ((H3.out.2.drewN q).far hAw hGw 5 (.bool false)).alloc (adO k n c o false))
      have HROW := Lib.hid (fun q => row_x HR.out.2.1 (HX.out q).2 (fun b hb => by have := HR.out.2.2 b hb; omega))
      obtain ⟨ad6, c6, hu6⟩ := row_slice HR.out.2.1
      subst hu6
      go_wp2_with (first
        | (go_at_call 20; (with_reducible refine (HN4.out _).mono ?_); rintro e w4 ⟨rfl, q2, rfl⟩)
        | (go_at_call 20; (with_reducible refine HN3.out.mono ?_); rintro e w4 ⟨rfl, q2, rfl⟩)
        | (at_builtin; refine wpList_append_own_at _ rfl _ _ 30 rfl 0 61 i0 _ 6 56 Tryz.underlying30 HINF.out.1 HINF.out.2.1 HINF.out.2.2.1 HINF.out.2.2.2 rfl (by decide) _ done.length (adR done) rfl (HROW.out _) ⟨w3.heap.size, 0, none⟩ 1 1 (adL ⟨k, n, c, o⟩) rfl rfl (ad_new (by simp) k n c o) (ad_one k n c o) (by unfold maxLen; omega) (by omega) (by simp) ?_; intro v1 w5 hr1 hg1 _ ha1; have HR1 := Lib.hid (app_step (HR.out.1.then (HX.out _)) HR.out.2.2 hGl hg1 ha1); have HR2 := Lib.hid hr1; have z1 : w5.frozen? ⟨G, 1, none⟩ = false := blk_frozen HR1.out.1.1 1; have k1 : w5.cell? ⟨G, 1, none⟩ = some (.int .i64 (j : Int)) := (by rw [blk_cell HR1.out.1.1]; rfl); clear hr1 hg1 ha1))
      have hgo := HR1.out.1.go (j + 1)
      rw [show ((j + 1 : Nat) : Int) = (j : Int) + 1 by omega] at hgo
      refine (HPN.out _ hgo.1).mono ?_
      rintro e1 w6 ⟨rfl, h6⟩
      have hP6 := hgo.then h6
      have hr6 := row_x HR2.out (G := G) ((show Plp w5 G s (j + 1) w6 from ⟨h6.1, (Plp.then ⟨hgo.1, place_set (Nat.lt_of_lt_of_le hGl HR1.out.1.2.size) _⟩ h6).2⟩).2) (fun b hb => by have := HR1.out.2 b hb; omega)
      have H6 := Lib.hid (And.intro hP6 hr6)
      clear h6 hP6 hr6 hgo
      go_wp2
      go_roundw
      case rel => exact ⟨j + 1, done ++ [⟨k, n, c, o⟩], ads2, by rw [← hcat]; simp, hs2, hj, H6.out.1, by rw [adR_snoc, List.length_append]; exact H6.out.2, HR1.out.2⟩
      case measure =>
        show s.size + 1 - plOf G w6 < s.size + 1 - plOf G wr
        rw [plOf_is H6.out.1.1, plOf_is HR.out.1.1]
        omega
end Go.Proofs.YtiddfimaenjdcaaGreatDoor
