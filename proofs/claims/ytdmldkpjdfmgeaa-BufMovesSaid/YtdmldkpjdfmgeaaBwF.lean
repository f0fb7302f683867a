/- The law BufMoves: lines that are moved are all there; undone, they are as they were; what is refused changes nothing. -/
import Derived.Test.YtdmldkpjdfmgeaaBwC
set_option linter.unusedVariables false
set_option linter.unusedSimpArgs false
namespace Go.Proofs.Ytdmldkpjdfmgeaa
open Go.RowKit Go.Shelf Go.Maps Go.Proofs.YtdmldkpjdfmgeaaW.PrintWords Go.Proofs.YtdmldkpjdfmgeaaW.PrintLast

theorem splice_eq {X Y : List ByteArray} {i k : Nat} : Bt.splice X i k Y = X.take i ++ (Y ++ X.drop (i + k)) := by simp [Bt.splice]
theorem moved_front {X : List ByteArray} {low k cut : Nat} (h : low + k ≤ X.length) (hc : cut ≤ k) : ((Bt.splice X low k (rot X low k cut)).drop low).take (k - cut) = (X.drop (low + cut)).take (k - cut) := by
  have h1 : (X.take low).length = low := by rw [List.length_take]; omega
  have h2 : (((X.drop low).take k).drop cut).length = k - cut := by rw [List.length_drop, List.length_take, List.length_drop]; omega
  rw [splice_eq, List.drop_append_of_le_length (by omega), List.drop_of_length_le (by omega), List.nil_append, rot, List.append_assoc, List.take_append_of_le_length (by omega), List.take_of_length_le (by omega), List.drop_take, List.drop_drop]
theorem moved_back {X : List ByteArray} {low k cut : Nat} (h : low + k ≤ X.length) (hc : cut ≤ k) : ((Bt.splice X low k (rot X low k cut)).drop (low + (k - cut))).take cut = (X.drop low).take cut := by
  have h1 : (X.take low ++ ((X.drop low).take k).drop cut).length = low + (k - cut) := by rw [List.length_append, List.length_take, List.length_drop, List.length_take, List.length_drop]; omega
  have h2 : (((X.drop low).take k).take cut).length = cut := by rw [List.length_take, List.length_take, List.length_drop]; omega
  rw [splice_eq, rot, List.append_assoc, ← List.append_assoc, List.drop_append_of_le_length (by omega), List.drop_of_length_le (by omega), List.nil_append, List.take_append_of_le_length (by omega), List.take_of_length_le (by omega), List.take_take, Nat.min_eq_left hc]

/-- lines out of lines -/
theorem Ls.sub {w : World} {G : Nat → Prop} {g o n c : Nat} {xs : List ByteArray} (h : Ls w G (.slice (some ⟨g, o, none⟩) n c) xs) {i m : Nat} (hj : i + m ≤ n) : Ls w G (.slice (some ⟨g, o + i, none⟩) m (c - i)) ((xs.drop i).take m) := by
  obtain ⟨A, c', e, h1, h2, h3⟩ := h
  injection e with e1 e2 e3
  subst e1 e2 e3
  refine ⟨some ⟨g, o + i, none⟩, c - i, ?_, ?_, by unfold maxLen at *; omega, fun h0 => ?_⟩
  · rw [List.length_take, List.length_drop, Nat.min_eq_left (by omega)]
  · rw [List.length_take, List.length_drop]; omega
  · obtain ⟨b, o', e, hg, hb, hc⟩ := h3 (by rw [List.length_take, List.length_drop] at h0; omega)
    injection e with e
    injection e with e1 e2 _
    subst e1 e2
    refine ⟨g, o + i, rfl, hg, hb, fun k x hm => ?_⟩
    have hm1 : k < m := by
      obtain ⟨h9, _⟩ := List.getElem?_eq_some_iff.1 hm
      rw [List.length_take] at h9
      omega
    rw [List.getElem?_take_of_lt hm1, List.getElem?_drop] at hm
    rw [Nat.add_assoc]
    exact hc _ x hm
theorem Ls.kept {w w' : World} {G : Nat → Prop} {v : Value} {xs : List ByteArray} (h : Ls w G v xs) (hs : ∀ b, b < w.heap.size → G b → b < w'.heap.size ∧ w'.heap[b]? = w.heap[b]?) : Ls w' G v xs := by
  obtain ⟨A, c, hv, h1, h2, h3⟩ := h
  refine ⟨A, c, hv, h1, h2, fun h0 => ?_⟩
  obtain ⟨b, o, ha, hg, hl, hc⟩ := h3 h0
  exact ⟨b, o, ha, hg, (hs b hl hg).1, fun j x hx => (World.cell?_of_block (w := w) (a := ⟨b, o + j, none⟩) (hs b hl hg).2).trans (hc j x hx)⟩
theorem Ls.sub0 {w : World} {G : Nat → Prop} {g n c : Nat} {xs : List ByteArray} (h : Ls w G (.slice (some ⟨g, 0, none⟩) n c) xs) {i m : Nat} (hj : i + m ≤ n) : Ls w G (.slice (some ⟨g, i, none⟩) m (c - i)) ((xs.drop i).take m) := by
  have := h.sub hj
  rwa [Nat.zero_add] at this

section
variable {N0 : Nat} {w0 : Base} {w w' : World} {B : Nat} {s : Bs}
theorem Bf.lines (h : Bf N0 w0 w B s) (hl : s.ls.length ≤ 1000000000) : ∃ T, w.cell? ⟨B, 0, none⟩ = some (.pointer (some ⟨T, 0, none⟩)) ∧ Calls Try.prog 12 #[.pointer (some ⟨T, 0, none⟩)] w (OwnPost w.heap.size w s.ls) := by
  obtain ⟨T, k, F, t⟩ := h.len
  exact ⟨T, k, Lines_any t hl⟩
/-- blocks that are new are kept from here on -/
theorem Bf.guard (h : Bf N0 w0 w B s) (hb : Below w.heap.size w w') : Bf N0 ⟨w0.w, fun b => w0.P b ∨ (w.heap.size ≤ b ∧ b < w'.heap.size), w'⟩ w' B s := by
  obtain ⟨col, T, p1, U, vl, vm, vo, L, h⟩ := h
  have k := h.onNew 7 (by decide) hb
  refine ⟨_, T, p1, U, vl, vm, vo, L, { k with prot := ?_, below := k.below }⟩
  intro b hp
  rcases hp with hp | ⟨h1, h2⟩
  · obtain ⟨a1, a2, _⟩ := k.prot b hp
    exact ⟨a1, a2, rfl⟩
  · exact ⟨h2, recol_new h1, rfl⟩
theorem Bf.prot (h : Bf N0 w0 w B s) : ∀ b, w0.P b → b < w.heap.size ∧ w.heap[b]? = w0.z.heap[b]? := fun b hb => by
  obtain ⟨col, T, p1, U, vl, vm, vo, L, h⟩ := h
  exact ⟨(h.prot b hb).1, (h.prot b hb).2.2⟩
end


def m1of (m : Int) (X : List ByteArray) (p q c : Int) (low k cut : Nat) : Bs := moveS (newS m X) p q c low k cut
def m2of (m : Int) (X : List ByteArray) (p q c : Int) (low k cut : Nat) : Bs := commitS (m1of m X p q c low k cut) st0
def m3of (m : Int) (X : List ByteArray) (p q c : Int) (low k cut : Nat) : Bs := undoS (m2of m X p q c low k cut) (st1 X low k (rot X low k cut)) sp1
theorem m3_ls {m : Int} {X : List ByteArray} {p q c : Int} {low k cut : Nat} (hi : low + k ≤ X.length) : (m3of m X p q c low k cut).ls = X := by
  show Bt.splice (Bt.splice X low k (rot X low k cut)) (Int.toNat (low : Int)) (rot X low k cut).length ((X.drop low).take k) = X
  rw [Int.toNat_natCast]
  exact splice_back hi
theorem m_commit {N0 : Nat} {w0 : Base} {w : World} {B : Nat} {m : Int} {X : List ByteArray} {p q c : Int} {low k cut : Nat} (hm : 2 ≤ m) (hm2 : m ≤ 200) (hi : low + k ≤ X.length) (hX : X.length ≤ 1000000) (h : Bf N0 w0 w B (moveS (newS m X) p q c low k cut)) :
    Calls Try.prog 14 #[.pointer (some ⟨B, 0, none⟩)] w (BfPost N0 w0 B (m2of m X p q c low k cut) (.tuple #[.int .i64 1, .bool true])) := by
  have hl : (Bt.splice X low k (rot X low k cut)).length = X.length - k + (rot X low k cut).length := splice_len hi
  rw [rot_length hi] at hl
  have ht : ((X.drop low).take k).length = k := by rw [List.length_take, List.length_drop]; omega
  have hr := rot_length (cut := cut) hi
  refine commit_any h (st := st0) us_now us_next (show (0 : Int) ≤ 1 by decide) (show (1 : Int) ≤ 1000000000 by decide) (show ((1 : Nat) : Int) + 1 ≤ m by omega) (show m ≤ 1000000 by omega) (show 0 ≤ 1000000000 by decide) (show 0 < 1 by decide) (show 1 ≤ 1000000000 by decide) ?_ ?_
  · intro d hd
    have hd : d ∈ [dof X low k (rot X low k cut)] := hd
    simp at hd
    subst hd
    exact ⟨by show ((X.drop low).take k).length ≤ _; omega, by show (rot X low k cut).length ≤ _; omega⟩
  · show (Bt.splice X low k (rot X low k cut)).length ≤ _
    rw [hl]
    omega
theorem m_undo {N0 : Nat} {w0 : Base} {w : World} {B : Nat} {m : Int} {X : List ByteArray} {p q c : Int} {low k cut : Nat} (hi : low + k ≤ X.length) (hX : X.length ≤ 1000000) (hx : ∀ x ∈ X, x.size ≤ 1000000000) (h : Bf N0 w0 w B (m2of m X p q c low k cut)) :
    Calls Try.prog 15 #[.pointer (some ⟨B, 0, none⟩)] w (BfPost N0 w0 B (m3of m X p q c low k cut) (.int .u16 0)) := by
  have hr := rot_length (cut := cut) hi
  have hl : (Bt.splice X low k (rot X low k cut)).length = X.length - k + (rot X low k cut).length := splice_len hi
  have ht : ((X.drop low).take k).length = k := by rw [List.length_take, List.length_drop]; omega
  refine bundo_any h rfl (show (Bt.splice X low k (rot X low k cut)).length + 2 ≤ _ by omega) ?_ (show 0 < maxLen by decide) (st := st1 X low k (rot X low k cut)) (sp := sp1) rfl (show (0 : Int) ≠ -1 by decide) rfl (show 1 ≤ 1000000000 by decide) ?_ (s2_fits (m := m) (Y := rot X low k cut) hi hX (show (rot X low k cut).length ≤ 1000000 by omega) hx) ?_
  · intro x h
    have h : x ∈ Bt.splice X low k (rot X low k cut) := h
    rw [Bt.splice] at h
    simp only [List.mem_append] at h
    rcases h with h | h | h
    · exact hx x (List.mem_of_mem_take h)
    · exact hx x (rot_mem h)
    · exact hx x (List.mem_of_mem_drop h)
  · intro d hd
    have hd2 : d ∈ [dof X low k (rot X low k cut)] := hd
    simp at hd2
    subst hd2
    exact ⟨by show ((X.drop low).take k).length ≤ _; omega, by show (rot X low k cut).length ≤ _; omega⟩
  · show (Bt.splice (Bt.splice X low k (rot X low k cut)) (Int.toNat (low : Int)) (rot X low k cut).length ((X.drop low).take k)).length ≤ 1000000000
    rw [Int.toNat_natCast, splice_back hi]
    omega

theorem bounds64 {x : Int} (h : (Lit.int .i64 x).wf = true) : -9223372036854775808 ≤ x ∧ x ≤ 9223372036854775807 := by
  simpa [Lit.wf, IntKind.min, IntKind.max, IntKind.signed, IntKind.bits] using h

theorem iw (n m : Int) (h : n = m) (h1 : -9223372036854775808 ≤ n) (h2 : n ≤ 9223372036854775807) : IntKind.i64.wrap n = m := by
  rw [IntKind.wrap_i64]
  omega
theorem rem_nat (x : Int) {m : Int} (hm : 0 < m) : ∃ a : Nat, max x 0 % m = (a : Int) ∧ (a : Int) < m :=
  ⟨(max x 0 % m).toNat, (Int.toNat_of_nonneg (Int.emod_nonneg _ (by omega))).symm, by rw [Int.toNat_of_nonneg (Int.emod_nonneg _ (by omega))]; exact Int.emod_lt_of_pos _ hm⟩

set_option maxRecDepth 100000 in
set_option maxHeartbeats 2000000 in
theorem moves_walk {w : World} {G : Nat → Prop} {v : Value} {xs : List ByteArray} (h : Ls w G v xs) (x y z : Int) (hx1 : (Lit.int .i64 x).wf = true) (hy1 : (Lit.int .i64 y).wf = true) (hz1 : (Lit.int .i64 z).wf = true) :
    Calls Try.prog 5 #[v, .int .i64 x, .int .i64 y, .int .i64 z] w fun e w' => e = .returned (.bool true) ∧ Below w.heap.size w w' := by
  have HH := Lib.hid (heavyL h)
  have HV := Lib.hid h
  obtain ⟨Av, cv, hvs, hcv, hcm, hAv⟩ := id h
  subst hvs
  unfold maxLen at hcm
  have bx := bounds64 hx1
  have by_ := bounds64 hy1
  have bz := bounds64 hz1
  clear h hx1 hy1 hz1
  by_cases h0 : 0 < xs.length
  · obtain ⟨gv, ov, rfl, _⟩ := hAv h0
    have h0' : ¬ xs.length = 0 := by omega
    have hb0 : ((xs.length : Int) == 0) = false := by rw [beq_eq_false_iff_ne]; omega
    go_enter Try.func5, Try.ntmps5
    go_wp2_with fail
    refine HH.out.mono ?_
    rintro e w1 ⟨b, rfl, hb1⟩
    have HB1 := Lib.hid hb1
    clear hb1
    cases b
    · by_cases hl : xs.length ≤ 300
      · have hl' : (xs.length : Int) ≤ 300 := by omega
        have hbl : decide (300 < (xs.length : Int)) = false := by simp; omega
        obtain ⟨a, ha, ha1⟩ := rem_nat x (m := xs.length) (by omega)
        have hn0 : ¬ ((xs.length : Int) - (1 + a) + 1 = 0) := by omega
        obtain ⟨b, hb, hb1⟩ := rem_nat y (m := (xs.length : Int) - (1 + a) + 1) (by omega)
        obtain ⟨d, hd, hd1⟩ := rem_nat z (m := (xs.length : Int) + 1) (by omega)
        go_wp2_with (go_at_call 7; refine (bknown_any w1).mono ?_; rintro e w2 ⟨rfl, hb2⟩; have HB2 := Lib.hid (below_then HB1.out HB1.out.size hb2); clear hb2)
        have hv2 := HV.out.step HB2.out.size fun b hb _ => HB2.out.block b hb
        cases hlg : isLong xs
        · have hs := notLong hlg
          have hnw := bnew_any (m := 20) hv2 (by decide) (by decide) (by omega) hlg (fun x hx => by have := hs x hx; omega)
          rw [show fullS xs = xs from if_neg (fun e => h0' (by rw [e]; rfl))] at hnw
          have HNW := Lib.hid hnw
          have HFS := Lib.hid hs
          clear hnw hs hv2
          refine HNW.out.mono ?_
          rintro e w3 ⟨B, rfl, b3⟩
          have H3 := Lib.hid b3
          clear b3 HNW
          go_wp2_with fail
          have e1 : ((1 + a : Nat) : Int) = 1 + (a : Int) := by omega
          have e2 : ((1 + a + b : Nat) : Int) = 1 + (a : Int) + b := by omega
          by_cases c1 : 1 + a ≤ d ∧ d < 1 + a + b
          · obtain ⟨c1, c2⟩ := c1
            have hm := bmove_err H3.out (p := 1 + a) (q := 1 + a + b) (c := d) (by omega) (by omega) (show 1 + a + b ≤ xs.length by omega) (show d ≤ xs.length by omega) c1 c2
            rw [e1, e2] at hm
            have HM := Lib.hid hm
            have f1 : 1 + (a : Int) ≤ d := by omega
            have f2 : (d : Int) < 1 + a + b := by omega
            clear hm H3
            refine HM.out.mono ?_
            rintro e w4 ⟨rfl, b4⟩
            obtain ⟨T4, k4, l4⟩ := b4.lines (show xs.length ≤ 1000000000 by omega)
            have H4 := Lib.hid (And.intro b4 l4)
            clear b4 l4 HM
            go_wp2_with fail
            refine H4.out.2.mono ?_
            rintro e w5 ⟨v5, rfl, h51, h52, h53⟩
            obtain ⟨A5, c5, hv5, _⟩ := h51.slice
            rw [cS_len] at hv5
            subst hv5
            have hB5 := below_then (below_then HB2.out HB2.out.size H4.out.1.below) (Nat.le_trans HB2.out.size H4.out.1.below.size) h53
            have HSM := Lib.hid (sameL (Ls.of_rw h51) (HV.out.step hB5.size fun b hb _ => hB5.block b hb) (show xs.length ≤ 1000000000 by omega))
            have HB5 := Lib.hid hB5
            clear h51 h52 h53 hB5
            go_wp2_with fail
            refine HSM.out.mono ?_
            rintro e w6 ⟨rfl, hb6⟩
            have HB6 := Lib.hid (below_then HB5.out HB5.out.size hb6)
            clear hb6
            go_wp2
            go_ret
            exact ⟨rfl, HB6.out⟩
          · by_cases c2 : d = a ∨ d = 1 + a + b
            · have hm := bmove_same H3.out (p := 1 + a) (q := 1 + a + b) (c := d) (by omega) (by omega) (show 1 + a + b ≤ xs.length by omega) (show d ≤ xs.length by omega) (by omega) (show xs.length ≤ 1000000 by omega)
              rw [e1, e2] at hm
              have HM := Lib.hid hm
              have hfirst : ((d : Int) < 1 + a ∧ d = a) ∨ (¬ ((d : Int) < 1 + a) ∧ d = 1 + a + b) := by omega
              clear hm H3 c1 c2
              refine HM.out.mono ?_
              rintro e w4 ⟨rfl, b4⟩
              obtain ⟨T4, k4, l4⟩ := b4.lines (show xs.length ≤ 1000000000 by omega)
              have H4 := Lib.hid (And.intro b4 l4)
              clear b4 l4 HM
              rcases hfirst with ⟨f1, f2⟩ | ⟨f1, f2⟩
              · subst f2
                have f3 : ¬ (1 + (d : Int) ≤ d) := by omega
                go_wp2_with fail
                refine H4.out.2.mono ?_
                rintro e w5 ⟨v5, rfl, h51, h52, h53⟩
                obtain ⟨A5, c5, hv5, hc5, hm5, hA5⟩ := h51.slice
                rw [cS_len] at hv5 hc5 hA5
                obtain ⟨g5, rfl⟩ := hA5 h0
                have hv5 : v5 = .slice (some ⟨g5, 0, none⟩) xs.length c5 := hv5
                subst hv5
                unfold maxLen at hm5
                have hc5 : xs.length ≤ c5 := hc5
                have b5 := H4.out.1.guard h53
                have hB5 := below_then (below_then HB2.out HB2.out.size H4.out.1.below) (Nat.le_trans HB2.out.size H4.out.1.below.size) h53
                have hnow := (Ls.of_rw h51).wide (H := fun b => w4.heap.size ≤ b) (fun b _ hb => h52 b hb)
                have hlin := HV.out.step hB5.size fun b hb _ => hB5.block b hb
                have s1 := hnow.sub0 (i := d) (m := b + 1) (show d + (b + 1) ≤ xs.length by omega)
                have s2 := hlin.sub (i := d) (m := b + 1) (show d + (b + 1) ≤ xs.length by omega)
                have HB5 := Lib.hid (And.intro b5 (And.intro hB5 hnow))
                have HSM := Lib.hid (sameL ((loc_ls _ _).step (w' := w5.drew) s1 (Nat.le_refl _) fun _ _ _ => rfl) ((loc_ls _ _).step (w' := w5.drew) s2 (Nat.le_refl _) fun _ _ _ => rfl) (show ((xs.drop d).take (b + 1)).length ≤ 1000000000 by rw [List.length_take, List.length_drop]; omega))
                have q0 : ¬ (c5 = d) := by omega
                have q1 : ¬ (cv = d) := by omega
                have q2 : (d : Int) ≤ 1 + d + b := by omega
                have q3 : 1 + (d : Int) + b ≤ c5 := by omega
                have q4 : 1 + (d : Int) + b ≤ cv := by omega
                have iw0 := iw ((d : Int) + 1 - 1) (d) (by omega) (by omega) (by omega)
                have iw1 := iw ((d : Int)) (d) (by omega) (by omega) (by omega)
                have iw2 := iw ((d : Int) + 1 + (1 + d + b)) (d + 1 + (1 + d + b)) (by omega) (by omega) (by omega)
                have iw3 := iw ((d : Int) + 1 + (1 + d + b) - (1 + d)) (1 + d + b) (by omega) (by omega) (by omega)
                have iw4 := iw (1 + (d : Int) - 1) (d) (by omega) (by omega) (by omega)
                clear s1 s2 hnow hlin hB5 b5 h51 h52 h53
                go_wp2_with fail
                go_region_held3 (fun _ => True) (trivial) (first | (go_at_call 11; rw [show (1 + (d : Int) + b).toNat - d = b + 1 by omega]; with_reducible refine HSM.out.mono ?_; rintro e w6 ⟨rfl, hb6⟩; have H6 := Lib.hid hb6; clear hb6))
                have b6 := HB5.out.1.new (below_undrew H6.out)
                have HCM := Lib.hid (commit_none b6 rfl (show xs.length ≤ 1000000000 by omega))
                have HFX := Lib.hid (show ∀ x ∈ (keepS (newS 20 xs)).sls, x.size ≤ 1000000000 from fun x hx => Nat.le_trans (HFS.out x hx) (by decide))
                clear b6
                go_wp2_with (first
                  | (go_at_call 14; refine HCM.out.mono ?_; rintro e w7 ⟨rfl, b7⟩; have HUN := Lib.hid (bundo_end b7 rfl (show xs.length + 2 ≤ 1000000000 by omega) HFX.out us_now rfl); clear b7)
                  | (go_at_call 15; refine HUN.out.mono ?_; rintro e w8 ⟨rfl, b8⟩; have H8 := Lib.hid b8; clear b8))
                have n8 := HB5.out.2.2.kept (w' := w8) (fun b hb hg => H8.out.prot b (.inr ⟨hg, hb⟩))
                have hB8 := below_then HB2.out HB2.out.size H8.out.below
                have HSN := Lib.hid (sameL n8 (HV.out.step hB8.size fun b hb _ => hB8.block b hb) (show xs.length ≤ 1000000000 by omega))
                have HB8 := Lib.hid hB8
                clear n8 hB8
                go_at_call 11
                refine HSN.out.mono ?_
                rintro e w9 ⟨rfl, hb9⟩
                have HB9 := Lib.hid (below_then HB8.out HB8.out.size hb9)
                clear hb9
                go_wp2
                go_ret
                exact ⟨rfl, HB9.out⟩
              · subst f2
                have f3 : 1 + (a : Int) ≤ ((1 + a + b : Nat) : Int) := by omega
                have f4 : ¬ (1 + (a : Int) + b < ((1 + a + b : Nat) : Int)) := by omega
                go_wp2_with fail
                refine H4.out.2.mono ?_
                rintro e w5 ⟨v5, rfl, h51, h52, h53⟩
                obtain ⟨A5, c5, hv5, hc5, hm5, hA5⟩ := h51.slice
                rw [cS_len] at hv5 hc5 hA5
                obtain ⟨g5, rfl⟩ := hA5 h0
                have hv5 : v5 = .slice (some ⟨g5, 0, none⟩) xs.length c5 := hv5
                subst hv5
                unfold maxLen at hm5
                have hc5 : xs.length ≤ c5 := hc5
                have b5 := H4.out.1.guard h53
                have hB5 := below_then (below_then HB2.out HB2.out.size H4.out.1.below) (Nat.le_trans HB2.out.size H4.out.1.below.size) h53
                have hnow := (Ls.of_rw h51).wide (H := fun b => w4.heap.size ≤ b) (fun b _ hb => h52 b hb)
                have hlin := HV.out.step hB5.size fun b hb _ => hB5.block b hb
                have s1 := hnow.sub0 (i := a) (m := b + 1) (show a + (b + 1) ≤ xs.length by omega)
                have s2 := hlin.sub (i := a) (m := b + 1) (show a + (b + 1) ≤ xs.length by omega)
                have HB5 := Lib.hid (And.intro b5 (And.intro hB5 hnow))
                have HSM := Lib.hid (sameL ((loc_ls _ _).step (w' := w5.drew) s1 (Nat.le_refl _) fun _ _ _ => rfl) ((loc_ls _ _).step (w' := w5.drew) s2 (Nat.le_refl _) fun _ _ _ => rfl) (show ((xs.drop a).take (b + 1)).length ≤ 1000000000 by rw [List.length_take, List.length_drop]; omega))
                have q0 : ¬ (c5 = a) := by omega
                have q1 : ¬ (cv = a) := by omega
                have q2 : (a : Int) ≤ 1 + a + b := by omega
                have q3 : 1 + (a : Int) + b ≤ c5 := by omega
                have q4 : 1 + (a : Int) + b ≤ cv := by omega
                have iw0 := iw (1 + (a : Int) - 1) (a) (by omega) (by omega) (by omega)
                have iw1 := iw ((a : Int)) (a) (by omega) (by omega) (by omega)
                have iw2 := iw (1 + (a : Int) + (1 + a + b)) (1 + a + (1 + a + b)) (by omega) (by omega) (by omega)
                have iw3 := iw (1 + (a : Int) + (1 + a + b) - (1 + a)) (1 + a + b) (by omega) (by omega) (by omega)
                clear s1 s2 hnow hlin hB5 b5 h51 h52 h53
                go_wp2_with fail
                go_region_held3 (fun _ => True) (trivial) (first | (go_at_call 11; rw [show (1 + (a : Int) + b).toNat - a = b + 1 by omega]; with_reducible refine HSM.out.mono ?_; rintro e w6 ⟨rfl, hb6⟩; have H6 := Lib.hid hb6; clear hb6))
                have b6 := HB5.out.1.new (below_undrew H6.out)
                have HCM := Lib.hid (commit_none b6 rfl (show xs.length ≤ 1000000000 by omega))
                have HFX := Lib.hid (show ∀ x ∈ (keepS (newS 20 xs)).sls, x.size ≤ 1000000000 from fun x hx => Nat.le_trans (HFS.out x hx) (by decide))
                clear b6
                go_wp2_with (first
                  | (go_at_call 14; refine HCM.out.mono ?_; rintro e w7 ⟨rfl, b7⟩; have HUN := Lib.hid (bundo_end b7 rfl (show xs.length + 2 ≤ 1000000000 by omega) HFX.out us_now rfl); clear b7)
                  | (go_at_call 15; refine HUN.out.mono ?_; rintro e w8 ⟨rfl, b8⟩; have H8 := Lib.hid b8; clear b8))
                have n8 := HB5.out.2.2.kept (w' := w8) (fun b hb hg => H8.out.prot b (.inr ⟨hg, hb⟩))
                have hB8 := below_then HB2.out HB2.out.size H8.out.below
                have HSN := Lib.hid (sameL n8 (HV.out.step hB8.size fun b hb _ => hB8.block b hb) (show xs.length ≤ 1000000000 by omega))
                have HB8 := Lib.hid hB8
                clear n8 hB8
                go_at_call 11
                refine HSN.out.mono ?_
                rintro e w9 ⟨rfl, hb9⟩
                have HB9 := Lib.hid (below_then HB8.out HB8.out.size hb9)
                clear hb9
                go_wp2
                go_ret
                exact ⟨rfl, HB9.out⟩
            · by_cases c3 : d < a
              · have f1 : (d : Int) < 1 + a := by omega
                have f2 : ¬ (1 + (a : Int) ≤ d) := by omega
                have f3 : ((d : Int) == a) = false := by rw [beq_eq_false_iff_ne]; omega
                have f4 : ((d : Int) == 1 + a + b) = false := by rw [beq_eq_false_iff_ne]; omega
                have hkl : d + (1 + a + b - d) ≤ xs.length := by omega
                have hm := bmove_any H3.out (p := 1 + a) (q := 1 + a + b) (c := d) (low := d) (high := (1 + a + b)) (k := (1 + a + b - d)) (cut := (a - d)) (by omega) (by omega) (show 1 + a + b ≤ xs.length by omega) (show d ≤ xs.length by omega) (by omega) (by omega) (by omega) (by omega) (by omega) (by omega) hkl (show xs.length ≤ 1000000 by omega) (fun x hx => Nat.le_trans (HFS.out x hx) (by decide)) (show 0 ≤ 1000000 by decide) (show 0 < maxLen by decide)
                rw [e1, e2] at hm
                have HM := Lib.hid hm
                clear hm H3
                refine HM.out.mono ?_
                rintro e w4 ⟨rfl, b4⟩
                have hml : (moveS (newS 20 xs) (1 + a) (1 + a + b) d d ((1 + a + b - d)) ((a - d))).ls.length = xs.length := (splice_len hkl).trans (by show xs.length - (1 + a + b - d) + (rot xs d (1 + a + b - d) (a - d)).length = xs.length; rw [rot_length hkl]; omega)
                obtain ⟨T4, k4, l4⟩ := b4.lines (by omega)
                have H4 := Lib.hid (And.intro b4 l4)
                have HML := Lib.hid hml
                clear b4 l4 HM hml
                have hpt := moved_front hkl (show a - d ≤ 1 + a + b - d by omega)
                rw [show 1 + a + b - d - (a - d) = b + 1 by omega, show d + (a - d) = a by omega] at hpt
                have HPT := Lib.hid (show ((moveS (newS 20 xs) (1 + a) (1 + a + b) d d (1 + a + b - d) (a - d)).ls.drop d).take (b + 1) = (xs.drop a).take (b + 1) from hpt)
                clear hpt
                go_wp2_with fail
                refine H4.out.2.mono ?_
                rintro e w5 ⟨v5, rfl, h51, h52, h53⟩
                obtain ⟨A5, c5, hv5, hc5, hm5, hA5⟩ := h51.slice
                rw [cS_len, HML.out] at hv5 hc5 hA5
                obtain ⟨g5, rfl⟩ := hA5 h0
                have hv5 : v5 = .slice (some ⟨g5, 0, none⟩) xs.length c5 := hv5
                subst hv5
                unfold maxLen at hm5
                have hc5 : xs.length ≤ c5 := hc5
                have b5 := H4.out.1.guard h53
                have hB5 := below_then (below_then HB2.out HB2.out.size H4.out.1.below) (Nat.le_trans HB2.out.size H4.out.1.below.size) h53
                have hnow := (Ls.of_rw h51).wide (H := fun b => w4.heap.size ≤ b) (fun b _ hb => h52 b hb)
                have hlin := HV.out.step hB5.size fun b hb _ => hB5.block b hb
                have s1 := hnow.sub0 (i := d) (m := b + 1) (show d + (b + 1) ≤ xs.length by omega)
                have s2 := hlin.sub (i := a) (m := b + 1) (show a + (b + 1) ≤ xs.length by omega)
                rw [HPT.out] at s1
                have HB5 := Lib.hid (And.intro b5 (And.intro hB5 hnow))
                have HSM := Lib.hid (sameL ((loc_ls _ _).step (w' := w5.drew) s1 (Nat.le_refl _) fun _ _ _ => rfl) ((loc_ls _ _).step (w' := w5.drew) s2 (Nat.le_refl _) fun _ _ _ => rfl) (show ((xs.drop a).take (b + 1)).length ≤ 1000000000 by rw [List.length_take, List.length_drop]; omega))
                have q0 : ¬ (c5 = d) := by omega
                have q1 : ¬ (cv = a) := by omega
                have q2 : (d : Int) ≤ d + 1 + b := by omega
                have q3 : (d : Int) + 1 + b ≤ c5 := by omega
                have q4 : 1 + (a : Int) + b ≤ cv := by omega
                have q5 : (a : Int) ≤ 1 + a + b := by omega
                have iw0 := iw ((d : Int) + 1 - 1) (d) (by omega) (by omega) (by omega)
                have iw1 := iw ((d : Int)) (d) (by omega) (by omega) (by omega)
                have iw2 := iw ((d : Int) + 1 + (1 + a + b)) (d + 1 + (1 + a + b)) (by omega) (by omega) (by omega)
                have iw3 := iw ((d : Int) + 1 + (1 + a + b) - (1 + a)) (d + 1 + b) (by omega) (by omega) (by omega)
                have iw4 := iw (1 + (a : Int) - 1) (a) (by omega) (by omega) (by omega)
                have iw5 := iw ((a : Int)) (a) (by omega) (by omega) (by omega)
                clear s1 s2 hnow hlin hB5 b5 h51 h52 h53
                go_wp2_with fail
                go_region_held3 (fun _ => True) (trivial) (first | (go_at_call 11; rw [show ((d : Int) + 1 + b).toNat - d = b + 1 by omega]; rw [show (1 + (a : Int) + b).toNat - a = b + 1 by omega]; with_reducible refine HSM.out.mono ?_; rintro e w6 ⟨rfl, hb6⟩; have H6 := Lib.hid hb6; clear hb6))
                have b6 := HB5.out.1.new (below_undrew H6.out)
                have HCM := Lib.hid (m_commit (by decide) (by decide) hkl (show xs.length ≤ 1000000 by omega) b6)
                have HFX := Lib.hid (fun x (hx : x ∈ xs) => Nat.le_trans (HFS.out x hx) (show 1000 ≤ 1000000000 by decide))
                clear b6
                go_wp2_with (first
                  | (go_at_call 14; refine HCM.out.mono ?_; rintro e w7 ⟨rfl, b7⟩; have HUN := Lib.hid (m_undo hkl (show xs.length ≤ 1000000 by omega) HFX.out b7); clear b7)
                  | (go_at_call 15; refine HUN.out.mono ?_; rintro e w8 ⟨rfl, b8⟩; have H8 := Lib.hid b8; obtain ⟨T8, k8, l8⟩ := b8.lines (by rw [m3_ls hkl]; omega); rw [m3_ls hkl] at l8; have HL8 := Lib.hid l8; clear b8 l8))
                refine HL8.out.mono ?_
                rintro e wa ⟨va, rfl, ha1, ha2, ha3⟩
                obtain ⟨Aa, ca, hva, _⟩ := ha1.slice
                rw [cS_len] at hva
                subst hva
                have hB8 := below_then (below_then HB2.out HB2.out.size H8.out.below) (Nat.le_trans HB2.out.size H8.out.below.size) ha3
                have HSN := Lib.hid (sameL (Ls.of_rw ha1) (HV.out.step hB8.size fun b hb _ => hB8.block b hb) (show xs.length ≤ 1000000000 by omega))
                have HB8 := Lib.hid hB8
                clear hB8 ha1 ha2 ha3
                go_wp2_with fail
                refine HSN.out.mono ?_
                rintro e w9 ⟨rfl, hb9⟩
                have HB9 := Lib.hid (below_then HB8.out HB8.out.size hb9)
                clear hb9
                go_wp2
                go_ret
                exact ⟨rfl, HB9.out⟩
              · have f1 : ¬ ((d : Int) < 1 + a) := by omega
                have f2 : 1 + (a : Int) + b < d := by omega
                have f2' : ¬ ((d : Int) < 1 + a + b) := by omega
                have f3 : ((d : Int) == a) = false := by rw [beq_eq_false_iff_ne]; omega
                have f4 : ((d : Int) == 1 + a + b) = false := by rw [beq_eq_false_iff_ne]; omega
                have f5 : 1 + (a : Int) ≤ d := by omega
                obtain ⟨e0, he0⟩ : ∃ e0 : Nat, (d : Int) - (1 + a + b - (1 + a)) = (e0 : Int) + 1 := ⟨d - b - 1, by omega⟩
                have hkl : a + (d - a) ≤ xs.length := by omega
                have hm := bmove_any H3.out (p := 1 + a) (q := 1 + a + b) (c := d) (low := a) (high := d) (k := (d - a)) (cut := (b + 1)) (by omega) (by omega) (show 1 + a + b ≤ xs.length by omega) (show d ≤ xs.length by omega) (by omega) (by omega) (by omega) (by omega) (by omega) (by omega) hkl (show xs.length ≤ 1000000 by omega) (fun x hx => Nat.le_trans (HFS.out x hx) (by decide)) (show 0 ≤ 1000000 by decide) (show 0 < maxLen by decide)
                rw [e1, e2] at hm
                have HM := Lib.hid hm
                clear hm H3
                refine HM.out.mono ?_
                rintro e w4 ⟨rfl, b4⟩
                have hml : (moveS (newS 20 xs) (1 + a) (1 + a + b) d a ((d - a)) ((b + 1))).ls.length = xs.length := (splice_len hkl).trans (by show xs.length - (d - a) + (rot xs a (d - a) (b + 1)).length = xs.length; rw [rot_length hkl]; omega)
                obtain ⟨T4, k4, l4⟩ := b4.lines (by omega)
                have H4 := Lib.hid (And.intro b4 l4)
                have HML := Lib.hid hml
                clear b4 l4 HM hml
                have hpt := moved_back hkl (show b + 1 ≤ d - a by omega)
                rw [show a + (d - a - (b + 1)) = e0 by omega] at hpt
                have HPT := Lib.hid (show ((moveS (newS 20 xs) (1 + a) (1 + a + b) d a (d - a) (b + 1)).ls.drop e0).take (b + 1) = (xs.drop a).take (b + 1) from hpt)
                clear hpt
                go_wp2_with fail
                refine H4.out.2.mono ?_
                rintro e w5 ⟨v5, rfl, h51, h52, h53⟩
                obtain ⟨A5, c5, hv5, hc5, hm5, hA5⟩ := h51.slice
                rw [cS_len, HML.out] at hv5 hc5 hA5
                obtain ⟨g5, rfl⟩ := hA5 h0
                have hv5 : v5 = .slice (some ⟨g5, 0, none⟩) xs.length c5 := hv5
                subst hv5
                unfold maxLen at hm5
                have hc5 : xs.length ≤ c5 := hc5
                have b5 := H4.out.1.guard h53
                have hB5 := below_then (below_then HB2.out HB2.out.size H4.out.1.below) (Nat.le_trans HB2.out.size H4.out.1.below.size) h53
                have hnow := (Ls.of_rw h51).wide (H := fun b => w4.heap.size ≤ b) (fun b _ hb => h52 b hb)
                have hlin := HV.out.step hB5.size fun b hb _ => hB5.block b hb
                have s1 := hnow.sub0 (i := e0) (m := b + 1) (show e0 + (b + 1) ≤ xs.length by omega)
                have s2 := hlin.sub (i := a) (m := b + 1) (show a + (b + 1) ≤ xs.length by omega)
                rw [HPT.out] at s1
                have HB5 := Lib.hid (And.intro b5 (And.intro hB5 hnow))
                have HSM := Lib.hid (sameL ((loc_ls _ _).step (w' := w5.drew) s1 (Nat.le_refl _) fun _ _ _ => rfl) ((loc_ls _ _).step (w' := w5.drew) s2 (Nat.le_refl _) fun _ _ _ => rfl) (show ((xs.drop a).take (b + 1)).length ≤ 1000000000 by rw [List.length_take, List.length_drop]; omega))
                have q0 : ¬ (c5 = e0) := by omega
                have q1 : ¬ (cv = a) := by omega
                have q2 : (e0 : Int) ≤ e0 + 1 + b := by omega
                have q3 : (e0 : Int) + 1 + b ≤ c5 := by omega
                have q4 : 1 + (a : Int) + b ≤ cv := by omega
                have q5 : (a : Int) ≤ 1 + a + b := by omega
                have iw0 := iw ((e0 : Int) + 1 - 1) (e0) (by omega) (by omega) (by omega)
                have iw1 := iw ((e0 : Int)) (e0) (by omega) (by omega) (by omega)
                have iw2 := iw ((e0 : Int) + 1 + (1 + a + b)) (e0 + 1 + (1 + a + b)) (by omega) (by omega) (by omega)
                have iw3 := iw ((e0 : Int) + 1 + (1 + a + b) - (1 + a)) (e0 + 1 + b) (by omega) (by omega) (by omega)
                have iw4 := iw (1 + (a : Int) - 1) (a) (by omega) (by omega) (by omega)
                have iw5 := iw ((a : Int)) (a) (by omega) (by omega) (by omega)
                clear s1 s2 hnow hlin hB5 b5 h51 h52 h53
                go_wp2_with fail
                go_region_held3 (fun _ => True) (trivial) (first | (go_at_call 11; rw [show ((e0 : Int) + 1 + b).toNat - e0 = b + 1 by omega]; rw [show (1 + (a : Int) + b).toNat - a = b + 1 by omega]; with_reducible refine HSM.out.mono ?_; rintro e w6 ⟨rfl, hb6⟩; have H6 := Lib.hid hb6; clear hb6))
                have b6 := HB5.out.1.new (below_undrew H6.out)
                have HCM := Lib.hid (m_commit (by decide) (by decide) hkl (show xs.length ≤ 1000000 by omega) b6)
                have HFX := Lib.hid (fun x (hx : x ∈ xs) => Nat.le_trans (HFS.out x hx) (show 1000 ≤ 1000000000 by decide))
                clear b6
                go_wp2_with (first
                  | (go_at_call 14; refine HCM.out.mono ?_; rintro e w7 ⟨rfl, b7⟩; have HUN := Lib.hid (m_undo hkl (show xs.length ≤ 1000000 by omega) HFX.out b7); clear b7)
                  | (go_at_call 15; refine HUN.out.mono ?_; rintro e w8 ⟨rfl, b8⟩; have H8 := Lib.hid b8; obtain ⟨T8, k8, l8⟩ := b8.lines (by rw [m3_ls hkl]; omega); rw [m3_ls hkl] at l8; have HL8 := Lib.hid l8; clear b8 l8))
                refine HL8.out.mono ?_
                rintro e wa ⟨va, rfl, ha1, ha2, ha3⟩
                obtain ⟨Aa, ca, hva, _⟩ := ha1.slice
                rw [cS_len] at hva
                subst hva
                have hB8 := below_then (below_then HB2.out HB2.out.size H8.out.below) (Nat.le_trans HB2.out.size H8.out.below.size) ha3
                have HSN := Lib.hid (sameL (Ls.of_rw ha1) (HV.out.step hB8.size fun b hb _ => hB8.block b hb) (show xs.length ≤ 1000000000 by omega))
                have HB8 := Lib.hid hB8
                clear hB8 ha1 ha2 ha3
                go_wp2_with fail
                refine HSN.out.mono ?_
                rintro e w9 ⟨rfl, hb9⟩
                have HB9 := Lib.hid (below_then HB8.out HB8.out.size hb9)
                clear hb9
                go_wp2
                go_ret
                exact ⟨rfl, HB9.out⟩
        · have hnw := bnew_long (m := 20) hv2 (by decide) (by decide) (by omega) hlg
          have HNW := Lib.hid hnw
          clear hnw hv2
          refine HNW.out.mono ?_
          rintro e w3 ⟨rfl, hb3⟩
          have HB3 := Lib.hid hb3
          clear hb3
          go_wp2
          go_ret
          exact ⟨rfl, below_then HB2.out HB2.out.size HB3.out⟩
      · have hl' : ¬ (xs.length : Int) ≤ 300 := by omega
        have hbl : decide (300 < (xs.length : Int)) = true := by simp; omega
        go_wp2_with (go_at_call 7; refine (bknown_any w1).mono ?_; rintro e w2 ⟨rfl, hb2⟩; have HB2 := Lib.hid (below_then HB1.out HB1.out.size hb2); clear hb2)
        go_ret
        exact ⟨rfl, HB2.out⟩
    · go_wp2_with (go_at_call 7; refine (bknown_any w1).mono ?_; rintro e w2 ⟨rfl, hb2⟩; have HB2 := Lib.hid (below_then HB1.out HB1.out.size hb2); clear hb2)
      go_ret
      exact ⟨rfl, HB2.out⟩
  · have hb0 : ((xs.length : Int) == 0) = true := by rw [beq_iff_eq]; omega
    clear h0
    go_enter Try.func5, Try.ntmps5
    go_wp2_with fail
    refine HH.out.mono ?_
    rintro e w1 ⟨b, rfl, hb1⟩
    have HB1 := Lib.hid hb1
    clear hb1
    cases b
    all_goals
      go_wp2_with (go_at_call 7; refine (bknown_any w1).mono ?_; rintro e w2 ⟨rfl, hb2⟩; have HB2 := Lib.hid (below_then HB1.out HB1.out.size hb2); clear hb2)
      go_ret
      exact ⟨rfl, HB2.out⟩
end Go.Proofs.Ytdmldkpjdfmgeaa
namespace Go.Proofs.Ytdmldkpjdfmgeaa
open Go.RowKit Go.Shelf Go.Maps
theorem moves_row (W : World) (A : Option Addr) (len cap : Nat) (_l : len ≤ cap) (h : LsAt W (.slice A len cap)) (x1 : Int) (h1 : (Lit.int .i64 x1).wf = true) (x2 : Int) (h2 : (Lit.int .i64 x2).wf = true) (x3 : Int) (h3 : (Lit.int .i64 x3).wf = true) :
    Calls Try.prog 5 #[.slice A len cap, .int .i64 x1, .int .i64 x2, .int .i64 x3] W fun e w' => e = .returned (.bool true) ∧ Below W.heap.size W w' := by
  obtain ⟨xs, h⟩ := h
  exact moves_walk h x1 x2 x3 h1 h2 h3
end Go.Proofs.Ytdmldkpjdfmgeaa
