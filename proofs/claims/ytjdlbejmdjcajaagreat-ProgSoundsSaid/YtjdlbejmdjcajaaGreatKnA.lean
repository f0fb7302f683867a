/- pat's sign at a star; the chapter's example of prog: walked. -/
import Derived.Test.YtjdlbejmdjcajaaGreatPaQ
import Derived.Test.YtjdlbejmdjcajaaGreatPcI
set_option linter.unusedVariables false
set_option linter.unusedSimpArgs false
namespace Go.Proofs.YtjdlbejmdjcajaaGreat
open Go.RowKit Go.Shelf Go.Maps Go.Proofs.YtjdlbejmdjcajaaGreatW.PrintWords Go.Proofs.YtjdlbejmdjcajaaGreatW.PrintLast

/-- the signs: a star alone -/
def sgnStar (s : List UInt8) : UInt8 → Nat → Pp.Br → Pp.Res Pp.Br := fun c p b => if c = 42 then Pp.manyP s 42 p b else none
theorem star_ok {w0 w : World} {G Bk : Nat} {s last : ByteArray} {v0 : Value} {L0 : List (Pp.Nd × Value)} {b b2 : Pp.Br} {l : List UInt8} {p : Nat} (hc : CurB w0 G Bk s last v0 L0 b w) (hl : b.r.2.length ≤ 100000) (hk : b.kids.length ≤ 100000) (h : Pp.manyP l 42 p b = some (.ok b2)) :
    Calls Tryz.prog 50 #[.pointer (some ⟨Bk, 0, none⟩), .int .u8 42, .int .i64 (p : Int)] w fun e w' => e = .returned (.tuple #[]) ∧ CurB w0 G Bk s last v0 L0 b2 w' := by
  obtain ⟨v, kv, N, hcur, hm⟩ := hc
  have hlen : (L0 ++ N).length = b.r.2.length := by rw [← hm]; simp
  obtain ⟨⟨r1, bn⟩, ks, may⟩ := b
  simp only at hl hk hcur hm hlen
  refine sign_star (P := fun _ w' => CurB w0 G Bk s last v0 L0 b2 w') ?_
  unfold Pp.manyP at h
  cases may with
  | false =>
    simp only [if_true] at h
    obtain rfl := Except.ok.inj (Option.some.inj h)
    refine (many_byte hcur (p : Int) (by omega) hk).mono ?_
    rintro e w' ⟨v', kv', rfl, h1⟩
    refine ⟨rfl, v', kv', N ++ [(Pp.lit 42, .slice none 0 0)], ?_, by rw [← List.append_assoc, List.map_append, hm]; rfl⟩
    show Cur w0 w' G Bk s last r1 v0 v' kv' L0 _ (ks ++ [bn.length]) true
    rw [← hlen]
    exact h1
  | true =>
    simp only [if_neg (show ¬ (true = false) by decide)] at h
    cases hg : ks.getLast? with
    | none => rw [hg] at h; cases h
    | some k =>
      rw [hg] at h
      simp only [if_neg (show ¬ ((42 : UInt8) = 43) by decide), if_neg (show ¬ ((42 : UInt8) = 61 ∨ (42 : UInt8) = 63) by decide), if_neg (show ¬ ((42 : UInt8) = 123) by decide)] at h
      obtain rfl := Except.ok.inj (Option.some.inj h)
      have hks : ks = ks.dropLast ++ [k] := by
        have h9 : ks ≠ [] := by rintro rfl; simp at hg
        rw [List.getLast?_eq_some_getLast h9] at hg
        obtain rfl := Option.some.inj hg
        exact (List.dropLast_concat_getLast h9).symm
      rw [hks] at hcur
      refine (many_star hcur (p : Int) (by omega) (by rw [List.length_dropLast]; omega)).mono ?_
      rintro e w' ⟨v', kv', N', rfl, h1, h2⟩
      refine ⟨rfl, v', kv', N', ?_, ?_⟩
      · show Cur w0 w' G Bk s last r1 v0 v' kv' L0 _ (ks.dropLast ++ [bn.length]) false
        rw [← hlen]
        exact h1
      · rw [List.map_append, h2, ← List.append_assoc, ← List.map_append, hm]
        rfl
theorem signok_star (l : List UInt8) (s last : ByteArray) (G : Nat) : SignOk (sgnStar l) G s last := by
  intro w0 w Bk v0 L0 b b2 c p hc hl hk h
  unfold sgnStar at h
  by_cases h42 : c = 42
  · subst h42
    rw [if_pos rfl] at h
    exact star_ok hc hl hk h
  · rw [if_neg h42] at h
    cases h
def ptStar : Pp.Pt := ⟨[Pp.lit 97, { Pp.nd0 with op := 7, mx := -1, kids := [0] }], 1, 0, 0⟩
theorem parse_astar : parseG (sgnStar [97, 42]) [97, 42] ptStar :=
  ⟨1, (⟨109, 0, 2, 0, fun _ => false⟩, [Pp.lit 97, { Pp.nd0 with op := 7, mx := -1, kids := [0] }]), 1, (⟨109, 0, 2, 0, fun _ => false⟩, [Pp.lit 97, { Pp.nd0 with op := 7, mx := -1, kids := [0] }]), by kernel_rfl, by kernel_rfl, by decide, rfl⟩
def cdStar : List Pp.In := [{ Pp.in0 with op := 4, x := 1, y := 5 }, { Pp.in0 with op := 12 }, { Pp.in0 with op := 1, c := 97 }, { Pp.in0 with op := 13 }, { Pp.in0 with op := 5 }, { Pp.in0 with op := 14 }]
theorem comp_astar : Pp.compP ptStar.nk 1 = .ok (cdStar, 1) := by kernel_rfl
theorem sound_astar : Pp.soundR ptStar.nk 1 0 = some true := by kernel_rfl
theorem nocat_astar : NoCat ptStar.nk := by
  intro x hx h7 y hy
  have : x = (Pp.lit 97, []) ∨ x = ({ Pp.nd0 with op := 7, mx := -1, kids := [0] }, [0]) := by
    have h9 : ptStar.nk = [(Pp.lit 97, []), ({ Pp.nd0 with op := 7, mx := -1, kids := [0] }, [0])] := rfl
    rw [h9] at hx
    simpa using hx
  rcases this with rfl | rfl
  · cases h7
  · have h9 : Pp.nodeAt ptStar.nk 0 = some (Pp.lit 97, []) := by kernel_rfl
    rw [show ([0] : List Int).headD 0 = 0 from rfl, h9] at hy
    obtain rfl := Option.some.inj hy
    decide
end Go.Proofs.YtjdlbejmdjcajaaGreat
