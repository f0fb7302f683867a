/- layer 7's examples ('known'). -/
import Derived.Test.YtccalibapiiifaaTgiven
import Derived.Test.YtccalibapiiifaaT1
namespace Go.Proofs.Ytccalibapiiifaa.T
open Go.RowKit Go.Proofs.YtccalibapiiifaaW.PrintWords Go.Proofs.YtccalibapiiifaaW.PrintLast Go.Proofs.YtccalibapiiifaaW.PrintMore

def kl : List S42 := [⟨1, ⟨#[97]⟩, 0, 0⟩, ⟨4, emp, 0, 117⟩, ⟨2, emp, 0, 0⟩, ⟨3, emp, 0, 0⟩]
theorem kl_is : tmpl_Parse.f ⟨#[97, 92, 117, 38, 92, 114]⟩ = some kl := by
  have h : prs [97, 92, 117, 38, 92, 114] [] = kl := by
    rw [prs_plain (by decide) (.inl (by decide)), prs_some (p := ⟨4, emp, 0, 117⟩) (by decide) rfl, prs_amp (by decide), prs_some (p := ⟨3, emp, 0, 0⟩) (by decide) rfl]
    rfl
  unfold tmpl_Parse.f
  rw [if_pos (by decide)]
  exact congrArg some h
theorem kr_is : tmpl_Resolve.f ⟨#[120, 126, 92, 126]⟩ ⟨#[38]⟩ = some ⟨#[120, 38, 126]⟩ := by decide +kernel

theorem kl_cells {w : World} {B : Nat} {ok : Nat → Prop} {v : Value} (h : Kd.R k42 42 w B ok v kl) : ∃ g cap, v = .slice (some ⟨g, 0, none⟩) 4 cap ∧
    w.cell? ⟨g, 0, none⟩ = some (.int .u8 1) ∧ w.cell? ⟨g, 1, none⟩ = some (.string ⟨#[97]⟩) ∧ w.cell? ⟨g, 2, none⟩ = some (.int .i64 0) ∧ w.cell? ⟨g, 3, none⟩ = some (.int .u8 0) ∧ w.cell? ⟨g, 4, none⟩ = some (.int .u8 4) ∧ w.cell? ⟨g, 5, none⟩ = some (.string ⟨#[]⟩) ∧ w.cell? ⟨g, 6, none⟩ = some (.int .i64 0) ∧ w.cell? ⟨g, 7, none⟩ = some (.int .u8 117) ∧ w.cell? ⟨g, 8, none⟩ = some (.int .u8 2) ∧ w.cell? ⟨g, 9, none⟩ = some (.string ⟨#[]⟩) ∧ w.cell? ⟨g, 10, none⟩ = some (.int .i64 0) ∧ w.cell? ⟨g, 11, none⟩ = some (.int .u8 0) ∧ w.cell? ⟨g, 12, none⟩ = some (.int .u8 3) ∧ w.cell? ⟨g, 13, none⟩ = some (.string ⟨#[]⟩) ∧ w.cell? ⟨g, 14, none⟩ = some (.int .i64 0) ∧ w.cell? ⟨g, 15, none⟩ = some (.int .u8 0) := by
  obtain ⟨g, cap, rfl, _, _, _⟩ := Kd.R_form h (by decide)
  obtain ⟨_, _, hC⟩ := Kd.R_reads' h
  have hc : ∀ j p, kl[j]? = some p → ∀ i u, (tm p)[i]? = some u → w.cell? ⟨g, j * 4 + i, none⟩ = some u := by
    intro j p hj i u hu
    obtain ⟨ad, e, hr⟩ := hC.2.2 (by decide)
    obtain rfl := Option.some.inj e
    obtain ⟨c, _, hK, hcc⟩ := hr j p hj
    obtain rfl := k42_open hK
    have := hcc i u hu
    rwa [add_plain] at this
  exact ⟨g, cap, rfl, hc 0 _ rfl 0 _ rfl, hc 0 _ rfl 1 _ rfl, hc 0 _ rfl 2 _ rfl, hc 0 _ rfl 3 _ rfl, hc 1 _ rfl 0 _ rfl, hc 1 _ rfl 1 _ rfl, hc 1 _ rfl 2 _ rfl, hc 1 _ rfl 3 _ rfl, hc 2 _ rfl 0 _ rfl, hc 2 _ rfl 1 _ rfl, hc 2 _ rfl 2 _ rfl, hc 2 _ rfl 3 _ rfl, hc 3 _ rfl 0 _ rfl, hc 3 _ rfl 1 _ rfl, hc 3 _ rfl 2 _ rfl, hc 3 _ rfl 3 _ rfl⟩

def emendatorlaw07_known.f : Option Bool := some true

set_option maxRecDepth 100000 in
set_option maxHeartbeats 400000 in
theorem emendatorlaw07_known.calls (r : Bool) (w : World) (h : emendatorlaw07_known.f = some r) :
    Calls Try.prog 20 #[] w fun e w' => e = .returned (.bool r) ∧ Below w.heap.size w w' := by
  obtain rfl := Option.some.inj h
  go_enter Try.func20, Try.ntmps20
  go_wp2_with (first
    | (go_at_call 21; (with_reducible refine (tmpl_Parse.calls _ _ _ kl_is).mono ?_); rintro e w1 ⟨v, rfl, ho, hb⟩; obtain ⟨g, cap, rfl, c0, c1, c2, c3, c4, c5, c6, c7, c8, c9, c10, c11, c12, c13, c14, c15⟩ := kl_cells ho; have HB := Lib.hid hb; clear ho hb)
    | (go_at_call 24; (with_reducible refine (tmpl_Resolve.calls _ _ _ _ kr_is).mono ?_); rintro e w2 ⟨rfl, hb⟩; have HB2 := Lib.hid hb; clear hb)
    | go_in)
  go_ret
  exact ⟨rfl, below_then HB.out HB.out.size HB2.out⟩

end Go.Proofs.Ytccalibapiiifaa.T
