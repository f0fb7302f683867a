/- prog.Sound: walked. -/
import Derived.Test.YtjdlbejmdjcajaaGreatSnB
set_option linter.unusedVariables false
set_option linter.unusedSimpArgs false
namespace Go.Proofs.YtjdlbejmdjcajaaGreat
open Go.RowKit Go.Shelf Go.Maps Go.Proofs.YtjdlbejmdjcajaaGreatW.PrintWords Go.Proofs.YtjdlbejmdjcajaaGreatW.PrintLast

/-- a program in a variable, with its rounds -/
def BoxR (w : World) (B : Nat) (A : Option Addr) (c : Nat) (r : Int) (f : Bool) (l : List Pp.In) : Prop :=
  w.heap[B]? = some (.cells #[.slice A l.length c, .int .i64 r, .bool f] 24 (0, 0)) ∧ CodeM w (fun _ => True) (.slice A l.length c) l
theorem BoxR.far {w w' : World} {B c : Nat} {A : Option Addr} {r : Int} {f : Bool} {l : List Pp.In} (h : BoxR w B A c r f l) (hb : Below w.heap.size w w') : BoxR w' B A c r f l :=
  ⟨(hb.block B (blk_lt h.1)).trans h.1, h.2.step hb.size fun b _ hl => ⟨hb.block b hl, trivial⟩⟩
theorem BoxR.cells {w : World} {B c : Nat} {A : Option Addr} {r : Int} {f : Bool} {l : List Pp.In} (h : BoxR w B A c r f l) : w.cell? ⟨B, 0, none⟩ = some (.slice A l.length c) ∧ w.cell? ⟨B, 1, none⟩ = some (.int .i64 r) ∧ w.cell? ⟨B, 2, none⟩ = some (.bool f) := by
  refine ⟨?_, ?_, ?_⟩ <;> (rw [blk_cell h.1]; rfl)
def soundI (l : List Pp.In) (r : Int) : Bool :=
  if l.length = 0 ∨ 2000 < l.length ∨ r < 0 ∨ 2000 < r then false
  else if l.all (fineI (l.length : Int) r) = true then (match l[l.length - 1]? with | some z => (z.op == 14) || (z.op == 5) | none => false)
  else false
section
variable {w : World} {B c : Nat} {A : Option Addr} {r : Int} {f : Bool} {l : List Pp.In}
set_option maxRecDepth 100000 in
set_option maxHeartbeats 2000000 in
theorem sclose_any (h : BoxR w B A c r f l) (z : Pp.In) : Calls Tryz.prog 13 #[inV z, .pointer (some ⟨B, 0, none⟩)] w fun e w' => e = .returned (.bool (!fineI (l.length : Int) r z)) ∧ Below w.heap.size w w' := by
  have hal := below_alloc (Below.refl w.heap.size w) (.cells (inC z).toArray 47)
  have hB := blk_lt h.1
  obtain ⟨a0, a1, a2⟩ := (h.far hal).cells
  have HF := Lib.hid (fine_p A l.length c r f z)
  have HB := Lib.hid hal
  unfold inV at HF
  unfold inC at a0 a1 a2 HB HF
  obtain ⟨n, hn⟩ : ∃ n, l.length = n := ⟨_, rfl⟩
  rw [hn] at a0 HF ⊢
  clear h hal hn
  unfold inV inC
  go_enter Tryz.func13, Tryz.ntmps13
  go_wp2_with fail
  refine (HF.out _).mono ?_
  rintro e w1 ⟨rfl, hb1⟩
  have HB1 := Lib.hid (HB.out.trans (hb1.mono HB.out.size))
  clear hb1
  go_wp2
  go_ret
  exact ⟨rfl, HB1.out⟩
set_option maxRecDepth 100000 in
set_option maxHeartbeats 4000000 in
theorem sindex_any (h : BoxR w B A c r f l) (hl : l.length ≤ 100000) : Calls Tryz.prog 27 #[.slice A l.length c, .func (.func 13) #[] #[.pointer (some ⟨B, 0, none⟩)]] w fun e w' => (∃ k : Int, e = .returned (.int .i64 k) ∧ decide (0 ≤ k) = !(l.all (fineI (l.length : Int) r))) ∧ Below w.heap.size w w' := by
  have HH := Lib.hid h
  clear h
  obtain ⟨n, hn⟩ : ∃ n, l.length = n := ⟨_, rfl⟩
  have HN := Lib.hid hn
  have hnl : n ≤ 100000 := by omega
  rw [hn]
  clear hn
  go_enter Tryz.func27, Tryz.ntmps27
  go_wp2
  go_loopw [8] (fun v8 wr => ∃ (j : Nat), v8 = .int .i64 j ∧ j ≤ n ∧ BoxR wr B A c r f l ∧ Below w.heap.size w wr ∧ (l.drop j).all (fineI (n : Int) r) = l.all (fineI (n : Int) r)) (fun v8 _ => n - (intOf v8).toNat)
  case atStart => exact ⟨0, rfl, Nat.zero_le _, HH.out, Below.refl _ _, rfl⟩
  case round =>
    rename World => wr
    obtain ⟨j, rfl, hj, hbx, hbw, hall⟩ := hrel
    by_cases hjn : j < n
    · obtain ⟨z, hz⟩ : ∃ z, l[j]? = some z := ⟨_, List.getElem?_eq_getElem (by rw [HN.out]; exact hjn)⟩
      have hd : l.drop j = z :: l.drop (j + 1) := by
        obtain ⟨h1, h2⟩ := List.getElem?_eq_some_iff.1 hz
        rw [List.drop_eq_getElem_cons h1, h2]
      rw [hd, List.all_cons] at hall
      obtain ⟨b, o, c', e1, hc1, _, _, a0, a1, a2, a3, a4, a5, a6, a7⟩ := hbx.2.inst hz
      injection e1 with e1 _ e3
      subst e1 e3
      have HC := Lib.hid (sclose_any hbx z)
      unfold inV inC at HC
      rw [HN.out] at hc1 HC
      have HW := Lib.hid (And.intro hbx (And.intro hbw hall))
      have i1 : (0 : Int) ≤ (j : Int) := by omega
      have i2 : (j : Int) < (n : Int) := by omega
      clear hz hd hbx hbw hall
      go_wp2_with fail
      refine HC.out.mono ?_
      rintro e w1 ⟨rfl, hb1⟩
      have hall := HW.out.2.2
      cases hf : fineI (n : Int) r z with
      | true =>
        rw [hf, Bool.true_and] at hall
        have H1 := Lib.hid (And.intro (HW.out.1.far hb1) (And.intro (HW.out.2.1.trans (hb1.mono HW.out.2.1.size)) hall))
        clear hb1 hall hf
        go_wp2
        go_roundw
        case rel => exact ⟨j + 1, by go_num, by omega, H1.out.1, H1.out.2.1, H1.out.2.2⟩
        case measure => simp [intOf]; omega
      | false =>
        rw [hf, Bool.false_and] at hall
        have H1 := Lib.hid (And.intro (HW.out.2.1.trans (hb1.mono HW.out.2.1.size)) hall)
        clear hb1 hall hf
        go_wp2
        go_ret
        exact ⟨⟨(j : Int), rfl, by rw [← H1.out.2]; simp⟩, H1.out.1⟩
    · obtain rfl : j = n := by omega
      rw [List.drop_of_length_le (by rw [HN.out]; exact Nat.le_refl _)] at hall
      have HW := Lib.hid (And.intro hbw hall)
      clear hbx hbw hall
      go_wp2
      go_ret
      exact ⟨⟨-1, rfl, by rw [← HW.out.2]; rfl⟩, HW.out.1⟩
set_option maxRecDepth 100000 in
set_option maxHeartbeats 4000000 in
theorem scontains_any (h : BoxR w B A c r f l) (hl : l.length ≤ 100000) : Calls Tryz.prog 12 #[.slice A l.length c, .func (.func 13) #[] #[.pointer (some ⟨B, 0, none⟩)]] w fun e w' => e = .returned (.bool (!(l.all (fineI (l.length : Int) r)))) ∧ Below w.heap.size w w' := by
  have HI := Lib.hid (sindex_any h hl)
  obtain ⟨P, hP⟩ : ∃ P, l.all (fineI (l.length : Int) r) = P := ⟨_, rfl⟩
  rw [hP] at HI ⊢
  obtain ⟨n, hn⟩ : ∃ n, l.length = n := ⟨_, rfl⟩
  rw [hn] at HI ⊢
  clear h hP hn hl
  go_enter Tryz.func12, Tryz.ntmps12
  go_wp2_with fail
  refine HI.out.mono ?_
  rintro e w1 ⟨⟨k, rfl, hk⟩, hb1⟩
  have H1 := Lib.hid (And.intro hk hb1)
  clear hk hb1
  go_wp2
  go_ret
  have hP := H1.out.1
  obtain rfl : P = !decide (0 ≤ k) := by rw [hP]; simp
  exact ⟨by simp only [Bool.not_not]; rfl, H1.out.2⟩
set_option maxRecDepth 100000 in
set_option maxHeartbeats 4000000 in
theorem sound04_any (hC : CodeM w (fun _ => True) (.slice A l.length c) l) (hl : l.length ≤ 100000) : Calls Tryz.prog 6 #[.agg #[.slice A l.length c, .int .i64 r, .bool f]] w fun e w' => e = .returned (.bool (soundI l r)) ∧ Below w.heap.size w w' := by
  have hal := below_alloc (Below.refl w.heap.size w) (.cells #[.slice A l.length c, .int .i64 r, .bool f] 24)
  have hbx : BoxR (w.alloc (.cells #[.slice A l.length c, .int .i64 r, .bool f] 24)) w.heap.size A c r f l := ⟨alloc_at w _, hC.step hal.size fun b _ hb => ⟨hal.block b hb, trivial⟩⟩
  have HB := Lib.hid (And.intro hal hbx)
  have hmf : ∀ (fn : Fn) (first cap : Array Value) (w : World), (Instr.makeFunc fn first cap).run Tryz.prog w = .ok (.func fn first cap) w := fun _ _ _ _ => rfl
  have HCF := Lib.hid (scontains_any hbx hl)
  unfold soundI
  clear hC hal hbx
  obtain ⟨n, hn⟩ : ∃ n, l.length = n := ⟨_, rfl⟩
  rw [hn] at HB HCF ⊢
  have HN := Lib.hid hn
  clear hn hl
  by_cases h1 : n = 0
  · have b1 : ((n : Int) == 0) = true := by rw [h1]; rfl
    rw [if_pos (.inl h1)]
    clear h1
    go_enter Tryz.func6, Tryz.ntmps6
    go_wp2
    go_ret
    exact ⟨rfl, HB.out.1⟩
  have b1 : ((n : Int) == 0) = false := beq_eq_false_iff_ne.2 (by omega)
  by_cases h2 : 2000 < n
  · have b2 : (2000 : Int) < (n : Int) := by omega
    rw [if_pos (.inr (.inl h2))]
    go_enter Tryz.func6, Tryz.ntmps6
    go_wp2
    go_ret
    exact ⟨rfl, HB.out.1⟩
  have b2 : ¬ ((2000 : Int) < (n : Int)) := by omega
  by_cases h3 : r < 0
  · rw [if_pos (.inr (.inr (.inl h3)))]
    go_enter Tryz.func6, Tryz.ntmps6
    go_wp2
    go_ret
    exact ⟨rfl, HB.out.1⟩
  by_cases h4 : 2000 < r
  · rw [if_pos (.inr (.inr (.inr h4)))]
    go_enter Tryz.func6, Tryz.ntmps6
    go_wp2
    go_ret
    exact ⟨rfl, HB.out.1⟩
  rw [if_neg (by omega)]
  obtain ⟨P, hP⟩ : ∃ P, l.all (fineI (n : Int) r) = P := ⟨_, rfl⟩
  rw [hP] at HCF ⊢
  clear hP
  cases P with
  | false =>
    rw [if_neg (by decide)]
    go_enter Tryz.func6, Tryz.ntmps6
    go_wp2_with fail
    refine HCF.out.mono ?_
    rintro e w1 ⟨rfl, hb1⟩
    have H1 := Lib.hid (HB.out.1.trans (hb1.mono HB.out.1.size))
    clear hb1
    go_wp2
    go_ret
    exact ⟨rfl, H1.out⟩
  | true =>
    rw [if_pos rfl]
    obtain ⟨z, hz⟩ : ∃ z, l[n - 1]? = some z := ⟨_, List.getElem?_eq_getElem (by rw [HN.out]; omega)⟩
    rw [hz]
    obtain ⟨k, hk⟩ : ∃ k, k = n - 1 := ⟨n - 1, rfl⟩
    rw [← hk] at hz
    have i4 : (n : Int) - 1 = (k : Int) := by omega
    have i3 : (k : Int) < (n : Int) := by omega
    clear hk
    have HZ := Lib.hid hz
    simp only
    clear hz
    go_enter Tryz.func6, Tryz.ntmps6
    go_wp2_with fail
    refine HCF.out.mono ?_
    rintro e w1 ⟨rfl, hb1⟩
    have hbx := HB.out.2.far hb1
    obtain ⟨a0, a1, a2⟩ := hbx.cells
    obtain ⟨b, o, c', e1, hc1, _, _, z0, _⟩ := hbx.2.inst HZ.out
    injection e1 with e1 _ e3
    subst e1 e3
    rw [HN.out] at a0 hc1
    have H1 := Lib.hid (HB.out.1.trans (hb1.mono HB.out.1.size))
    have i1 : (0 : Int) ≤ (k : Int) := by omega
    clear hb1 hbx
    cases q14 : (z.op == 14)
    all_goals
      have Q := Lib.hid q14
      go_wp2
      go_ret
      exact ⟨by have q := Q.out; simp at q ⊢; simp [q], H1.out⟩
end
end Go.Proofs.YtjdlbejmdjcajaaGreat
