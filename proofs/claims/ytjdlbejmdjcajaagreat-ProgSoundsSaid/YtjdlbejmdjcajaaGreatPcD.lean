/- prog: round: walked, over any node. -/
import Derived.Test.YtjdlbejmdjcajaaGreatPcC
set_option linter.unusedVariables false
set_option linter.unusedSimpArgs false
namespace Go.Proofs.YtjdlbejmdjcajaaGreat
open Go.RowKit Go.Shelf Go.Maps Go.Proofs.YtjdlbejmdjcajaaGreatW.PrintWords Go.Proofs.YtjdlbejmdjcajaaGreatW.PrintLast

theorem Pp.layP_ok {i : Pp.In} {c c1 : Pp.Cd} (h : Pp.layP i c = .ok c1) : c1 = (c.1 ++ [i], c.2) ∧ c.1.length < 2000 := by
  unfold Pp.layP at h
  split at h
  · cases h
  · injection h with h
    exact ⟨h.symm, by omega⟩
theorem Pp.layP_ne {i : Pp.In} {c : Pp.Cd} : Pp.layP i c ≠ .error false := by
  unfold Pp.layP
  split <;> (intro h; cases h)
/-- what is asked of node -/
def NodeOk (rec : Int → Pp.Cd → Pp.Er Pp.Cd) (L : List Pp.Nk) (Wb : Nat) (nv : Value) : Prop :=
  ∀ (kid : Int) (c : Pp.Cd) (w : World) (cv : Value), WrM w Wb nv cv L c → rec kid c ≠ .error false →
    Calls Tryz.prog 18 #[.pointer (some ⟨Wb, 0, none⟩), .int .i64 kid] w (WPost (.tuple #[]) w Wb nv cv L (rec kid c))
section
variable {w w' : World} {Wb g n cp : Nat} {nv cv : Value} {L : List Pp.Nk} {c : Pp.Cd}
theorem WrM.rnd (h : WrM w Wb nv cv L c) (r : Nat) (hr : r ≤ 1000000000000 + c.1.length) {x : Int} (hx : x = (r : Int)) : WrM (w.setCell ⟨Wb, 2, none⟩ (.int .i64 x)) Wb nv cv L (c.1, r) := by
  subst hx
  exact ⟨blk_set h.box 2 _, own_move h.row fun b e => Below.heap_setCell w ⟨Wb, 2, none⟩ _ b (fun e2 => h.ne (by rw [e, e2])), h.ne, h.ns.step (by simp [World.setCell]) fun b hF _ => ⟨Below.heap_setCell w ⟨Wb, 2, none⟩ _ b hF.1, hF⟩, h.le, hr⟩
theorem Pf.box {w0 : World} {v0 : Value} (h : Pf w0 w Wb v0 cv) (i : Nat) (u : Value) : Pf w0 (w.setCell ⟨Wb, i, none⟩ u) Wb v0 cv :=
  ⟨h.os, h.tape, h.output, by simpa [World.setCell] using h.size, fun b hb hne hv => (Below.heap_setCell w ⟨Wb, i, none⟩ u b hne).trans (h.block b hb hne hv), h.own⟩
set_option maxRecDepth 100000 in
set_option maxHeartbeats 4000000 in
theorem round_any {rec : Int → Pp.Cd → Pp.Er Pp.Cd} (hrec : NodeOk rec L Wb nv) (h : WrM w Wb nv cv L c) (kid : Int) (lz : Bool) {R : Pp.Er Pp.Cd} (hR : Pp.roundP rec kid c = R) (hne : R ≠ .error false) :
    Calls Tryz.prog 44 #[.pointer (some ⟨Wb, 0, none⟩), .int .i64 kid, .bool lz] w (SpPost lz c.1.length w Wb nv cv L R) := by
  unfold Pp.roundP at hR
  have HS := Lib.hid (split_any h lz)
  have HH := Lib.hid h
  have HREC := Lib.hid hrec
  clear h hrec
  go_enter Tryz.func44, Tryz.ntmps44
  go_wp2_with fail
  refine HS.out.mono ?_
  intro e w1 hpo
  cases h1 : Pp.layP { Pp.in0 with op := 4 } c with
  | error b =>
    rw [h1] at hR hpo
    cases b with
    | false => exact absurd h1 Pp.layP_ne
    | true =>
      subst hR
      obtain ⟨rfl, cv2, hp2⟩ := hpo
      exact ⟨rfl, rfl, cv2, hp2⟩
  | ok c1 =>
  rw [h1] at hR hpo
  simp only at hR
  obtain ⟨hc1, hl1⟩ := Pp.layP_ok h1
  obtain ⟨cv1, p, q, r, rfl, hw1, hp1, hy1, hpqr⟩ := hpo
  have hc12 : c1.2 = c.2 := by rw [hc1]
  have hc1l : c1.1.length = c.1.length + 1 := by rw [hc1]; simp
  have hrl := HH.out.rle
  have hle := HH.out.le
  have hr1 := hw1.rnd (c1.2 + 1) (by omega) (x := (c1.2 : Int) + 1) (by omega)
  have hpr := (Pf.refl w1 Wb cv1).box 2 (.int .i64 ((c1.2 : Int) + 1))
  have e2 := hw1.cells.2.2
  have f2 := blk_frozen hw1.box 2
  have b2 : (c1.2 : Int) ≤ 1000000000000 + 2000 := by omega
  have HL := Lib.hid (lay_any hr1 { Pp.in0 with op := 12, x := c1.2 })
  unfold inV inC at HL
  simp only [Pp.in0] at HL
  have H1 := Lib.hid (And.intro (hp1.trans hpr) (hy1.step hpr))
  clear hc1 hl1 hw1 hp1 hy1 hc12 hc1l hrl hle hr1 hpr h1
  unfold wayV
  go_wp2_with fail
  refine HL.out.mono ?_
  intro e w2 hpo
  simp only [Pp.in0] at hR
  cases h2 : Pp.layP { op := 12, c := 0, s0 := 0, s1 := 0, s2 := 0, s3 := 0, x := (c1.2 : Int), y := 0 } (c1.1, c1.2 + 1) with
  | error b =>
    rw [h2] at hR hpo
    cases b with
    | false => exact absurd h2 Pp.layP_ne
    | true =>
      subst hR
      obtain ⟨rfl, cv2, hp2⟩ := hpo
      exact ⟨rfl, rfl, cv2, H1.out.1.trans hp2⟩
  | ok c2 =>
  rw [h2] at hR hpo
  simp only at hR
  obtain ⟨cv2, rfl, hw2, hp2⟩ := hpo
  have hnr : rec kid c2 ≠ .error false := fun e => by rw [e] at hR; exact hne hR.symm
  have HN := Lib.hid (HREC.out kid c2 w2 cv2 hw2 hnr)
  have H2 := Lib.hid (And.intro (H1.out.1.trans hp2) (H1.out.2.step hp2))
  clear hw2 hp2 e2 f2 b2 h2
  go_wp2_with fail
  refine HN.out.mono ?_
  intro e w3 hpo
  cases h3 : rec kid c2 with
  | error b =>
    rw [h3] at hR hpo
    cases b with
    | false => exact absurd h3 hnr
    | true =>
      subst hR
      obtain ⟨rfl, cv3, hp3⟩ := hpo
      exact ⟨rfl, rfl, cv3, H2.out.1.trans hp3⟩
  | ok c3 =>
  rw [h3] at hR hpo
  simp only at hR
  obtain ⟨cv3, rfl, hw3, hp3⟩ := hpo
  have HL3 := Lib.hid (lay_any hw3 { Pp.in0 with op := 13, x := c1.2 })
  unfold inV inC at HL3
  simp only [Pp.in0] at HL3
  have H3 := Lib.hid (And.intro (H2.out.1.trans hp3) (H2.out.2.step hp3))
  clear hw3 hp3 hnr h3
  go_wp2_with fail
  refine HL3.out.mono ?_
  intro e w4 hpo
  rw [hR] at hpo
  cases R with
  | error b =>
    cases b with
    | false => exact absurd rfl hne
    | true =>
      obtain ⟨rfl, cv4, hp4⟩ := hpo
      exact ⟨rfl, rfl, cv4, H3.out.1.trans hp4⟩
  | ok c4 =>
  obtain ⟨cv4, rfl, hw4, hp4⟩ := hpo
  have H4 := Lib.hid (And.intro hw4 (And.intro (H3.out.1.trans hp4) (H3.out.2.step hp4)))
  clear hw4 hp4 hR
  go_wp2
  go_ret
  exact ⟨cv4, p, q, r, rfl, H4.out.1, H4.out.2.1, H4.out.2.2, hpqr⟩
end
end Go.Proofs.YtjdlbejmdjcajaaGreat
