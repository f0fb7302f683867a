/- the chapter's Sound of a program: walked. -/
import Derived.Test.YtjdlbejmdjcajaaGreatSnC
set_option linter.unusedVariables false
set_option linter.unusedSimpArgs false
namespace Go.Proofs.YtjdlbejmdjcajaaGreat
open Go.RowKit Go.Shelf Go.Maps Go.Proofs.YtjdlbejmdjcajaaGreatW.PrintWords Go.Proofs.YtjdlbejmdjcajaaGreatW.PrintLast

section
variable {w : World} {B c : Nat} {A : Option Addr} {r : Int} {f : Bool} {l : List Pp.In}
set_option maxRecDepth 100000 in
set_option maxHeartbeats 4000000 in
theorem soundr_any (hC : CodeM w (fun _ => True) (.slice A l.length c) l) (hl : l.length ≤ 100000) : Calls Tryz.prog 7 #[.agg #[.slice A l.length c, .int .i64 r, .bool f]] w fun e w' => e = .returned (.bool (soundI l r)) ∧ Below w.heap.size w w' := by
  have hal := below_alloc (Below.refl w.heap.size w) (.cells #[.slice A l.length c, .int .i64 r, .bool f] 24)
  have hbx : BoxR (w.alloc (.cells #[.slice A l.length c, .int .i64 r, .bool f] 24)) w.heap.size A c r f l := ⟨alloc_at w _, hC.step hal.size fun b _ hb => ⟨hal.block b hb, trivial⟩⟩
  have HB := Lib.hid (And.intro hal hbx)
  unfold soundI
  clear hC hal hbx
  obtain ⟨n, hn⟩ : ∃ n, l.length = n := ⟨_, rfl⟩
  rw [hn] at HB ⊢
  have HN := Lib.hid hn
  clear hn hl
  by_cases h1 : n = 0
  · subst h1
    rw [if_pos (.inl rfl)]
    go_enter Tryz.func7, Tryz.ntmps7
    go_wp2
    go_ret
    exact ⟨rfl, HB.out.1⟩
  have b1 : ¬ ((n : Int) < 1) := by omega
  have b1' : (1 : Int) ≤ (n : Int) := by omega
  by_cases h2 : 2000 < n
  · have b2 : (2000 : Int) < (n : Int) := by omega
    rw [if_pos (.inr (.inl h2))]
    go_enter Tryz.func7, Tryz.ntmps7
    go_wp2
    go_ret
    exact ⟨rfl, HB.out.1⟩
  have b2 : ¬ ((2000 : Int) < (n : Int)) := by omega
  by_cases h3 : r < 0
  · rw [if_pos (.inr (.inr (.inl h3)))]
    go_enter Tryz.func7, Tryz.ntmps7
    go_wp2
    go_ret
    exact ⟨rfl, HB.out.1⟩
  by_cases h4 : 2000 < r
  · rw [if_pos (.inr (.inr (.inr h4)))]
    go_enter Tryz.func7, Tryz.ntmps7
    go_wp2
    go_ret
    exact ⟨rfl, HB.out.1⟩
  rw [if_neg (by omega)]
  obtain ⟨P, hP⟩ : ∃ P, l.all (fineI (n : Int) r) = P := ⟨_, rfl⟩
  rw [hP]
  have HP := Lib.hid hP
  obtain ⟨z, hz⟩ : ∃ z, l[n - 1]? = some z := ⟨_, List.getElem?_eq_getElem (by rw [HN.out]; omega)⟩
  rw [hz]
  obtain ⟨k, hk⟩ : ∃ k, k = n - 1 := ⟨n - 1, rfl⟩
  rw [← hk] at hz
  have i4 : (n : Int) - 1 = (k : Int) := by omega
  have i3 : (k : Int) < (n : Int) := by omega
  clear hk hP
  have HZ := Lib.hid hz
  simp only
  clear hz
  go_enter Tryz.func7, Tryz.ntmps7
  go_wp2
  go_loopw [4] (fun v4 wr => ∃ (j : Nat), v4 = .int .i64 j ∧ j ≤ n ∧ BoxR wr w.heap.size A c r f l ∧ Below w.heap.size w wr ∧ (l.drop j).all (fineI (n : Int) r) = P) (fun v4 _ => n - (intOf v4).toNat)
  case atStart => exact ⟨0, rfl, Nat.zero_le _, HB.out.2, HB.out.1, HP.out⟩
  case round =>
    rename World => wr
    obtain ⟨j, rfl, hj, hbx, hbw, hall⟩ := hrel
    obtain ⟨a0, a1, a2⟩ := hbx.cells
    rw [HN.out] at a0
    by_cases hjn : j < n
    · obtain ⟨y, hy⟩ : ∃ y, l[j]? = some y := ⟨_, List.getElem?_eq_getElem (by rw [HN.out]; exact hjn)⟩
      have hd : l.drop j = y :: l.drop (j + 1) := by
        obtain ⟨h1, h2⟩ := List.getElem?_eq_some_iff.1 hy
        rw [List.drop_eq_getElem_cons h1, h2]
      rw [hd, List.all_cons] at hall
      obtain ⟨b, o, c', e1, hc1, _, _, z0, z1, z2, z3, z4, z5, z6, z7⟩ := hbx.2.inst hy
      injection e1 with e1 _ e3
      subst e1 e3
      have HC := Lib.hid (fun W => fine_r (some ⟨b, o, none⟩) n c r f y W)
      unfold inV inC at HC
      rw [HN.out] at hc1
      have HW := Lib.hid (And.intro hbx (And.intro hbw hall))
      have j1 : (0 : Int) ≤ (j : Int) := by omega
      have j2 : (j : Int) < (n : Int) := by omega
      clear hy hd hbx hbw hall
      go_wp2
      go_still_tail 6, (by kernel_rfl)
      go_wp2_with fail
      refine (HC.out _).mono ?_
      rintro e w1 ⟨rfl, hb1⟩
      have hall := HW.out.2.2
      have hb2 : Below wr.heap.size wr w1 := (Below.refl _ _).drew.trans hb1
      cases hf : fineI (n : Int) r y with
      | true =>
        rw [hf, Bool.true_and] at hall
        have H1 := Lib.hid (And.intro (HW.out.1.far hb2) (And.intro (HW.out.2.1.trans (hb2.mono HW.out.2.1.size)) hall))
        clear hb1 hb2 hall hf
        go_wp2
        go_roundw
        case rel => exact ⟨j + 1, by go_num, by omega, H1.out.1, H1.out.2.1, H1.out.2.2⟩
        case measure => simp [intOf]; omega
      | false =>
        rw [hf, Bool.false_and] at hall
        have H1 := Lib.hid (HW.out.2.1.trans (hb2.mono HW.out.2.1.size))
        clear hb1 hb2 hf HW
        subst hall
        go_wp2
        go_ret
        exact ⟨rfl, H1.out⟩
    · obtain rfl : j = n := by omega
      rw [List.drop_of_length_le (by rw [HN.out]; exact Nat.le_refl _)] at hall
      obtain ⟨b, o, c', e1, hc1, _, _, z0, _⟩ := hbx.2.inst HZ.out
      injection e1 with e1 _ e3
      subst e1 e3
      rw [HN.out] at hc1
      have i1 : (0 : Int) ≤ (k : Int) := by omega
      have HW := Lib.hid (And.intro hbw hall)
      clear hbx hbw hall
      cases q14 : (z.op == 14)
      all_goals
        have Q := Lib.hid q14
        go_wp2
        go_ret
        exact ⟨by have q := Q.out; have p := HW.out.2; simp at q p ⊢; simp [q, ← p], HW.out.1⟩
end
end Go.Proofs.YtjdlbejmdjcajaaGreat
