/- pat's sign at a star: walked. -/
import Derived.Test.YtjdlbejmdjcajaaGreatPaI
set_option linter.unusedVariables false
set_option linter.unusedSimpArgs false
namespace Go.Proofs.YtjdlbejmdjcajaaGreat
open Go.RowKit Go.Shelf Go.Maps Go.Proofs.YtjdlbejmdjcajaaGreatW.PrintWords Go.Proofs.YtjdlbejmdjcajaaGreatW.PrintLast

section
variable {w0 w w' : World} {G Bk : Nat} {s last : ByteArray} {r : Pp.Rs} {v0 v kv kn : Value} {L0 N : List (Pp.Nd × Value)} {ks : List Nat} {may : Bool}
set_option maxRecDepth 100000 in
set_option maxHeartbeats 1000000 in
theorem many_byte (h : Cur w0 w G Bk s last r v0 v kv L0 N ks false) (at_ : Int) (hl : (L0 ++ N).length ≤ 100000) (hk : ks.length ≤ 100000) :
    Calls Tryz.prog 66 #[.pointer (some ⟨Bk, 0, none⟩), .int .u8 42, .int .i64 at_] w (CurPost w0 G Bk s last r v0 L0 (N ++ [(Pp.lit 42, .slice none 0 0)]) (ks ++ [(L0 ++ N).length]) true (.tuple #[])) := by
  obtain ⟨c0, c1, c2⟩ := h.bcell
  have HB := Lib.hid (byte_any h 42 hl hk)
  rw [show (((42 : UInt8).toNat : Nat) : Int) = 42 from rfl] at HB
  clear h hl hk
  go_enter Tryz.func66, Tryz.ntmps66
  go_wp2_with fail
  refine HB.out.mono ?_
  rintro e w2 ⟨v2, kv2, rfl, h2⟩
  have H2 := Lib.hid h2
  clear h2 HB
  go_wp2
  first | go_end0 | refine bodyPost_ret (results_none rfl _ _ _) rfl ?_
  exact ⟨v2, kv2, rfl, H2.out⟩
set_option maxRecDepth 100000 in
set_option maxHeartbeats 1000000 in
/-- sign at what it hands on to many -/
theorem sign_star {at_ : Int} {P : Ending → World → Prop} (hm : Calls Tryz.prog 66 #[.pointer (some ⟨Bk, 0, none⟩), .int .u8 42, .int .i64 at_] w fun e w' => e = .returned (.tuple #[]) ∧ P e w') :
    Calls Tryz.prog 50 #[.pointer (some ⟨Bk, 0, none⟩), .int .u8 42, .int .i64 at_] w fun e w' => e = .returned (.tuple #[]) ∧ P e w' := by
  have HM := Lib.hid hm
  clear hm
  go_enter Tryz.func50, Tryz.ntmps50
  go_wp2_with fail
  refine HM.out.mono ?_
  rintro e w2 ⟨rfl, h2⟩
  have H2 := Lib.hid h2
  clear h2 HM
  go_wp2
  first | go_end0 | refine bodyPost_ret (results_none rfl _ _ _) rfl ?_
  exact ⟨rfl, H2.out⟩
end
end Go.Proofs.YtjdlbejmdjcajaaGreat
