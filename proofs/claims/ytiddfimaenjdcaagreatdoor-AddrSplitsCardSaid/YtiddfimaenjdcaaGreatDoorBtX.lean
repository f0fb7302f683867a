/- The tree's span, Splice and New, walked. -/
import Derived.Test.YtiddfimaenjdcaaGreatDoorBtV
import Derived.Test.YtiddfimaenjdcaaGreatDoorBtPx
import Derived.WalkLawsBesides
import Derived.WalkSpells
set_option linter.unusedVariables false
set_option linter.unusedSimpArgs false
namespace Go.Proofs.YtiddfimaenjdcaaGreatDoor
open Go.RowKit Go.Shelf Go.Proofs.YtiddfimaenjdcaaGreatDoorW.PrintWords Go.Proofs.YtiddfimaenjdcaaGreatDoorW.PrintLast

/-- lines that are read; their block is one of G -/
def Ls (w : World) (G : Nat → Prop) (v : Value) (xs : List ByteArray) : Prop :=
  ∃ A c, v = .slice A xs.length c ∧ xs.length ≤ c ∧ c ≤ maxLen ∧ (0 < xs.length → ∃ b o, A = some ⟨b, o, none⟩ ∧ G b ∧ b < w.heap.size ∧ ∀ j x, xs[j]? = some x → w.cell? ⟨b, o + j, none⟩ = some (.string x))
theorem Ls.step {w w' : World} {G : Nat → Prop} {v : Value} {xs : List ByteArray} (h : Ls w G v xs) (hsz : w.heap.size ≤ w'.heap.size) (hs : ∀ b, b < w.heap.size → G b → w'.heap[b]? = w.heap[b]?) : Ls w' G v xs := by
  obtain ⟨A, c, hv, h1, h2, h3⟩ := h
  refine ⟨A, c, hv, h1, h2, fun h0 => ?_⟩
  obtain ⟨b, o, ha, hg, hl, hc⟩ := h3 h0
  exact ⟨b, o, ha, hg, Nat.lt_of_lt_of_le hl hsz, fun j x hx => (World.cell?_of_block (w := w) (a := ⟨b, o + j, none⟩) (hs b hl hg)).trans (hc j x hx)⟩
theorem Ls.chg {w w' : World} {F G : Nat → Prop} {v : Value} {xs : List ByteArray} (h : Ls w G v xs) (hc : Chg F w w') (hd : ∀ b, b < w.heap.size → G b → ¬ F b) : Ls w' G v xs := h.step hc.size fun b hl hg => hc.block b hl (hd b hl hg)
theorem Ls.of_rw {w : World} {v : Value} {xs : List ByteArray} (h : Rw w 9 v (cS xs)) : Ls w (fun b => v.ownBlock = some b) v xs := by
  rcases h.2 with ⟨rfl, h0⟩ | ⟨g, cap, rest, rfl, hg, h1, h2, h3⟩
  · have hx : xs = [] := by rw [cS, List.map_eq_nil_iff] at h0; exact h0
    subst hx
    exact ⟨none, 0, rfl, Nat.le_refl _, Nat.zero_le _, fun h => absurd h (by simp)⟩
  · rw [cS_len] at h1
    refine ⟨_, cap, by rw [cS_len], h1, h3, fun h0 => ⟨g, 0, rfl, rfl, blk_lt hg, fun j x hx => ?_⟩⟩
    rw [Nat.zero_add]
    exact h.cell (cS_at hx)

end Go.Proofs.YtiddfimaenjdcaaGreatDoor
