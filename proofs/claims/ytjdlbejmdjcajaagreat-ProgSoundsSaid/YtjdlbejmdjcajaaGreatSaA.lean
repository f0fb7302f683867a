/- the document's Same at the same programs: walked; letters alone. -/
import Derived.Test.YtjdlbejmdjcajaaGreatKnB
import Derived.Test.YtjdlbejmdjcajaaGreatEqI
set_option linter.unusedVariables false
set_option linter.unusedSimpArgs false
namespace Go.Proofs.YtjdlbejmdjcajaaGreat
open Go.RowKit Go.Shelf Go.Maps Go.Proofs.YtjdlbejmdjcajaaGreatW.PrintWords Go.Proofs.YtjdlbejmdjcajaaGreatW.PrintLast

/-- an instruction in memory -/
theorem CodeM.inst {w : World} {F : Nat → Prop} {v : Value} {l : List Pp.In} (h : CodeM w F v l) {j : Nat} {z : Pp.In} (hz : l[j]? = some z) : ∃ b o c, v = .slice (some ⟨b, o, none⟩) l.length c ∧ l.length ≤ c ∧ F b ∧ b < w.heap.size ∧ w.cell? ⟨b, o + j * 8, none⟩ = some (.int .u8 z.op) ∧ w.cell? ⟨b, o + j * 8 + 1, none⟩ = some (.int .u8 z.c) ∧ w.cell? ⟨b, o + j * 8 + 2, none⟩ = some (.int .u64 z.s0) ∧ w.cell? ⟨b, o + j * 8 + 3, none⟩ = some (.int .u64 z.s1) ∧ w.cell? ⟨b, o + j * 8 + 4, none⟩ = some (.int .u64 z.s2) ∧ w.cell? ⟨b, o + j * 8 + 5, none⟩ = some (.int .u64 z.s3) ∧ w.cell? ⟨b, o + j * 8 + 6, none⟩ = some (.int .i64 z.x) ∧ w.cell? ⟨b, o + j * 8 + 7, none⟩ = some (.int .i64 z.y) := by
  obtain ⟨A, c, rfl, h2, h3, h4⟩ := h
  obtain ⟨b, o, rfl, hF, hl, hc⟩ := h4 (by have := (List.getElem?_eq_some_iff.1 hz).1; omega)
  exact ⟨b, o, c, rfl, h2, hF, hl, hc j z hz 0 _ rfl, hc j z hz 1 _ rfl, hc j z hz 2 _ rfl, hc j z hz 3 _ rfl, hc j z hz 4 _ rfl, hc j z hz 5 _ rfl, hc j z hz 6 _ rfl, hc j z hz 7 _ rfl⟩
theorem CodeM.slice {w : World} {F : Nat → Prop} {v : Value} {l : List Pp.In} (h : CodeM w F v l) : ∃ A c, v = .slice A l.length c := by
  obtain ⟨A, c, h1, _⟩ := h
  exact ⟨A, c, h1⟩
set_option maxRecDepth 100000 in
set_option maxHeartbeats 4000000 in
theorem same_any {va vb : Value} {l : List Pp.In} {r : Int} {f : Bool} {w : World} (hA : CodeM w (fun _ => True) va l) (hB : CodeM w (fun _ => True) vb l) (hl : l.length ≤ 100000) :
    Calls Tryz.prog 10 #[.agg #[va, .int .i64 r, .bool f], .agg #[vb, .int .i64 r, .bool f]] w fun e w' => e = .returned (.bool true) ∧ Below w.heap.size w w' := by
  obtain ⟨Aa, ca, rfl⟩ := hA.slice
  obtain ⟨Ab, cb, rfl⟩ := hB.slice
  obtain ⟨X, hX, x1, x2, xb⟩ := two_allocs w (.cells #[.slice Aa l.length ca, .int .i64 r, .bool f] 24) (.cells #[.slice Ab l.length cb, .int .i64 r, .bool f] 24)
  have hA2 := hA.step xb.size (F' := fun _ => True) fun b _ hb => ⟨xb.block b hb, trivial⟩
  have hB2 := hB.step xb.size (F' := fun _ => True) fun b _ hb => ⟨xb.block b hb, trivial⟩
  have HA := Lib.hid (And.intro hA2 hB2)
  have HX := Lib.hid (And.intro xb hX)
  have g0 : X.cell? ⟨w.heap.size, 0, none⟩ = some (.slice Aa l.length ca) := by rw [blk_cell x1]; rfl
  have g3 : X.cell? ⟨w.heap.size + 1, 0, none⟩ = some (.slice Ab l.length cb) := by rw [blk_cell x2]; rfl
  have hne : (f != f) = false := by cases f <;> rfl
  have hne2 : (r != r) = false := by simp
  clear hA hB hA2 hB2 x1 x2 xb hX
  obtain ⟨n, hn⟩ : ∃ n, l.length = n := ⟨_, rfl⟩
  rw [hn] at g0 g3 HX ⊢
  have HN := Lib.hid hn
  go_enter Tryz.func10, Tryz.ntmps10
  go_wp2
  rw [HX.out.2]
  go_loopw [5] (fun v5 wr => ∃ (j : Nat), v5 = .int .i64 j ∧ j ≤ n ∧ wr.heap = X.heap ∧ Below w.heap.size w wr) (fun v5 _ => n - (intOf v5).toNat)
  case atStart => exact ⟨0, rfl, Nat.zero_le _, rfl, HX.out.1⟩
  case round =>
    rename World => wr
    obtain ⟨j, rfl, hj, hwr, hbw⟩ := hrel
    have hcs : ∀ a, wr.cell? a = X.cell? a := fun a => by unfold World.cell?; rw [hwr]
    have k0 := (hcs ⟨w.heap.size, 0, none⟩).trans g0
    have k3 := (hcs ⟨w.heap.size + 1, 0, none⟩).trans g3
    have HW := Lib.hid (And.intro hwr hbw)
    by_cases hjn : j < n
    · obtain ⟨z, hz⟩ : ∃ z, l[j]? = some z := ⟨_, List.getElem?_eq_getElem (by omega)⟩
      obtain ⟨b, o, c, e1, hc1, _, _, a0, a1, a2, a3, a4, a5, a6, a7⟩ := HA.out.1.inst hz
      obtain ⟨b', o', c', e2, hc2, _, _, b0, b1, b2, b3, b4, b5, b6, b7⟩ := HA.out.2.inst hz
      injection e1 with e1 _ e3
      injection e2 with e2 _ e4
      subst e1 e2 e3 e4
      rw [hn] at hc1 hc2
      rw [← hcs] at a0 a1 a2 a3 a4 a5 a6 a7 b0 b1 b2 b3 b4 b5 b6 b7
      have hnq : ∀ W : World, (binOp .neq 47 (.agg #[.int .u8 z.op, .int .u8 z.c, .int .u64 z.s0, .int .u64 z.s1, .int .u64 z.s2, .int .u64 z.s3, .int .i64 z.x, .int .i64 z.y]) (.agg #[.int .u8 z.op, .int .u8 z.c, .int .u64 z.s0, .int .u64 z.s1, .int .u64 z.s2, .int .u64 z.s3, .int .i64 z.x, .int .i64 z.y])).run Tryz.prog W = .ok (.bool false) W := fun W => inst_neq z W
      have i1 : (0 : Int) ≤ (j : Int) := by omega
      have i2 : (j : Int) < (n : Int) := by omega
      clear hz hcs hwr hbw g0 g3
      go_wp2
      go_still_tail 10, (by kernel_rfl)
      go_wp2
      refine ⟨⟨j + 1, by go_num, by omega, HW.out.1, HW.out.2.drew⟩, ?_⟩
      simp [intOf]
      omega
    · obtain rfl : j = n := by omega
      clear hcs hwr hbw g0 g3
      go_wp2
      go_ret
      exact ⟨rfl, HW.out.2⟩
end Go.Proofs.YtjdlbejmdjcajaaGreat
