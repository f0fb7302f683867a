/- emendatorlaw19.known, walked, in the printer's form. -/
import Derived.Test.YtdkdoomjihflbaaDoorNParse
namespace Go.Proofs.YtdkdoomjihflbaaDoor.NL
open Go.RowKit Go.Proofs.YtdkdoomjihflbaaDoorW.PrintWords Go.Proofs.YtdkdoomjihflbaaDoorW.PrintLast Go.Proofs.YtdkdoomjihflbaaDoorW.PrintMore
attribute [local go_sem high] eqA38

theorem kn1 : keysP [50, 100, 100, 65, 120] = some [(2, ⟨#[100, 100]⟩, ⟨#[]⟩), (0, ⟨#[65]⟩, ⟨#[120]⟩)] := by decide +kernel
theorem kn2 : keysP [103] = none := by decide +kernel
def knK : List S38 := [⟨2, ⟨#[100, 100]⟩, ⟨#[]⟩⟩, ⟨0, ⟨#[65]⟩, ⟨#[120]⟩⟩]
theorem kn3 : norm_Parse.f (⟨#[50, 100, 100, 65, 120]⟩ : ByteArray) = some (knK, 0) := by
  unfold norm_Parse.f parsA
  rw [if_pos (by decide), show (⟨#[50, 100, 100, 65, 120]⟩ : ByteArray).data.toList = [50, 100, 100, 65, 120] from rfl, kn1]
  rfl
theorem kn4 : norm_Parse.f (⟨#[103]⟩ : ByteArray) = some ([], 190) := by
  unfold norm_Parse.f parsA
  rw [if_pos (by decide), show (⟨#[103]⟩ : ByteArray).data.toList = [103] from rfl, kn2]

def emendatorlaw19_known.f : Option Bool := some true

theorem cells6 {w : World} {base : Nat} {ok : Nat → Prop} {v : Value} (h : Kd.R k38 38 w base ok v knK) : ∃ g cap, v = .slice (some ⟨g, 0, none⟩) 2 cap ∧
    w.cell? ⟨g, 0, none⟩ = some (.int .i64 2) ∧ w.cell? ⟨g, 1, none⟩ = some (.string ⟨#[100, 100]⟩) ∧ w.cell? ⟨g, 2, none⟩ = some (.string ⟨#[]⟩) ∧
    w.cell? ⟨g, 3, none⟩ = some (.int .i64 0) ∧ w.cell? ⟨g, 4, none⟩ = some (.string ⟨#[65]⟩) ∧ w.cell? ⟨g, 5, none⟩ = some (.string ⟨#[120]⟩) := by
  obtain ⟨g, cap, rfl, _, _, _⟩ := Kd.R_form h (by decide)
  obtain ⟨_, _, hC⟩ := Kd.R_reads' h
  obtain ⟨ad, e, x0, x1, x2⟩ := at_T38 hC 0 (by decide) (by decide)
  injection e with e
  subst e
  obtain ⟨ad, e, y0, y1, y2⟩ := at_T38 hC 1 (by decide) (by decide)
  injection e with e
  subst e
  rw [add_plain] at x0 x1 x2 y0 y1 y2
  simp only [Nat.zero_add] at x0 x1 x2 y0 y1 y2
  exact ⟨g, cap, rfl, x0, x1, x2, y0, y1, y2⟩

set_option maxRecDepth 100000 in
set_option maxHeartbeats 2000000 in
theorem known_calls (w : World) : Calls Tryd.prog 7 #[] w fun e w' => e = .returned (.bool true) ∧ Below w.heap.size w w' := by
  go_enter Tryd.func7, Tryd.ntmps7
  go_wp2_with (first
    | (go_at_call 8; (with_reducible refine (norm_Parse.calls _ knK 0 _ kn3).mono ?_); rintro e w1 ⟨v1, rfl, hr1, hb1⟩; have HB1 := Lib.hid hb1; have HR1 := Lib.hid hr1; clear hr1 hb1)
    | (go_at_call 8; (with_reducible refine (norm_Parse.calls _ [] 190 _ kn4).mono ?_); rintro e w2 ⟨v2, rfl, hr2, hb2⟩; have HB2 := Lib.hid (below_then HB1.out HB1.out.size hb2); obtain ⟨g, cap, rfl, x0, x1, x2, y0, y1, y2⟩ := cells6 (Kd.R_below HR1.out hb2); clear hr2 hb2 HR1)
    | go_in)
  go_ret
  exact ⟨rfl, HB2.out⟩

theorem emendatorlaw19_known.calls (r : Bool) (w : World) (h : emendatorlaw19_known.f = some r) : Calls Tryd.prog 7 #[] w fun e w' => e = .returned (.bool r) ∧ Below w.heap.size w w' := by
  obtain rfl : true = r := Option.some.inj h
  exact known_calls w

end Go.Proofs.YtdkdoomjihflbaaDoor.NL
