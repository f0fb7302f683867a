/- pat's next, by the plain token. -/
import Derived.Test.YtjdlbejmdjcajaaGreatPaD
set_option linter.unusedVariables false
set_option linter.unusedSimpArgs false
namespace Go.Proofs.YtjdlbejmdjcajaaGreat
open Go.RowKit Go.Shelf Go.Maps Go.Proofs.YtjdlbejmdjcajaaGreatW.PrintWords Go.Proofs.YtjdlbejmdjcajaaGreatW.PrintLast

theorem at_get {s : ByteArray} {k : Nat} {c : UInt8} (h : s.data.toList[k]? = some c) : ∃ hk : k < s.size, s[k] = c := by
  obtain ⟨h1, h2⟩ := List.getElem?_eq_some_iff.1 h
  have hk : k < s.size := by simpa using h1
  exact ⟨hk, by rw [← h2]; simp [ByteArray.getElem_eq_getElem_data]⟩
theorem get_at {s : ByteArray} {k : Nat} (hk : k < s.size) : s.data.toList[k]? = some s[k] := by
  rw [Array.getElem?_toList]
  exact Array.getElem?_eq_getElem hk
theorem plain_eq (m : Int) (c : UInt8) : (Pp.plainL m).contains c = hasB (plainB m) c := by
  unfold Pp.plainL plainB hasB
  split
  · rfl
  · split
    · rfl
    · split <;> rfl
section
variable {w w' : World} {G : Nat} {s last : ByteArray} {r r' : Pp.Rs} {v : Value} {t : Pp.Tk}
theorem next_any (h : RdM w G s last r v) (hp : r.pos ≤ 1000000) (hn : Pp.nextP s.data.toList r = some (t, r')) :
    Calls Tryz.prog 38 #[.pointer (some ⟨G, 0, none⟩)] w (NextPost w G s last v t r') := by
  unfold Pp.nextP at hn
  cases hc : s.data.toList[r.pos]? with
  | none => rw [hc] at hn; cases hn
  | some c =>
    rw [hc] at hn
    obtain ⟨hk, rfl⟩ := at_get hc
    by_cases h92 : s[r.pos] = 92
    · simp only [h92, if_pos] at hn
      cases hd : s.data.toList[r.pos + 1]? with
      | none => rw [hd] at hn; cases hn
      | some d =>
        rw [hd] at hn
        obtain ⟨hk1, rfl⟩ := at_get hd
        refine next_bs h hk h92 fun W hW => ?_
        by_cases hs : Pp.sg.contains s[r.pos + 1] = true
        · simp only [hs, if_pos] at hn
          have h9 := slash_sign hW hk1 hp hs
          rw [plain_eq] at hn
          obtain ⟨rfl, rfl⟩ := Prod.mk.inj (Option.some.inj hn)
          exact h9
        · simp only [hs, if_neg] at hn
          by_cases hm : s[r.pos + 1] = 118 ∨ s[r.pos + 1] = 109 ∨ s[r.pos + 1] = 77 ∨ s[r.pos + 1] = 86
          · rw [if_neg (by simp), if_pos hm] at hn
            obtain ⟨rfl, rfl⟩ := Prod.mk.inj (Option.some.inj hn)
            refine slash_mode hW hk1 hp ?_
            rcases hm with hm | hm | hm | hm <;> rw [hm]
            · exact .inl rfl
            · exact .inr (.inl rfl)
            · exact .inr (.inr (.inl rfl))
            · exact .inr (.inr (.inr rfl))
          · rw [if_neg (by simp), if_neg hm] at hn
            cases hn
    · simp only [h92, if_neg, not_false_eq_true, if_false] at hn
      rw [plain_eq] at hn
      obtain ⟨rfl, rfl⟩ := Prod.mk.inj (Option.some.inj hn)
      exact next_lit h hk h92 hp
end
end Go.Proofs.YtjdlbejmdjcajaaGreat
