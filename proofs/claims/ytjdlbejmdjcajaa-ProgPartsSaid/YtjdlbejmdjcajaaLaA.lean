/- patterns whose program is known: branches of one byte each: plainly. -/
import Derived.Test.YtjdlbejmdjcajaaKnB
set_option linter.unusedVariables false
set_option linter.unusedSimpArgs false
namespace Go.Proofs.Ytjdlbejmdjcajaa
open Go.RowKit Go.Shelf Go.Maps Go.Proofs.YtjdlbejmdjcajaaW.PrintWords Go.Proofs.YtjdlbejmdjcajaaW.PrintLast

instance inDec : DecidableEq Pp.In := fun a b => decidable_of_iff (a.op = b.op ∧ a.c = b.c ∧ a.s0 = b.s0 ∧ a.s1 = b.s1 ∧ a.s2 = b.s2 ∧ a.s3 = b.s3 ∧ a.x = b.x ∧ a.y = b.y) ⟨fun ⟨h1, h2, h3, h4, h5, h6, h7, h8⟩ => by cases a; cases b; simp_all, fun h => by subst h; simp⟩
/-- bytes as a text -/
def bA (l : List UInt8) : ByteArray := ⟨l.toArray⟩
theorem bA_app (l m : List UInt8) : bA l ++ bA m = bA (l ++ m) := by
  apply ByteArray.ext
  simp [bA]
theorem bA_size (l : List UInt8) : (bA l).size = l.length := by simp [bA, ByteArray.size]
theorem bA_list (l : List UInt8) : (bA l).data.toList = l := by simp [bA]
/-- what Parse makes with these signs -/
def evalP (sgn : UInt8 → Nat → Pp.Br → Pp.Res Pp.Br) (s : List UInt8) : Option Pp.Pt :=
  match Pp.branchL sgn s false (s.length + 1) ⟨(r0P, []), [], false⟩ with
  | some (.ok (k1, r1)) =>
    match Pp.branchesL sgn s false (s.length + 1) [k1] r1 with
    | some (.ok (k, r)) => if r.2.length ≤ 400 then some ⟨r.2, k, r.1.groups, r.1.fold⟩ else none
    | _ => none
  | _ => none
theorem parseG_of {sgn : UInt8 → Nat → Pp.Br → Pp.Res Pp.Br} {s : List UInt8} {pt : Pp.Pt} (h : evalP sgn s = some pt) : parseG sgn s pt := by
  unfold evalP at h
  split at h
  · rename_i k1 r1 h1
    split at h
    · rename_i k r h2
      split at h
      · rename_i h3
        obtain rfl := Option.some.inj h
        exact ⟨k1, r1, k, r, h1, h2, h3, rfl⟩
      · cases h
    · cases h
  · cases h
def noS : UInt8 → Nat → Pp.Br → Pp.Res Pp.Br := fun _ _ _ => none
theorem signok_none (s last : ByteArray) (G : Nat) : SignOk noS G s last := fun _ _ _ _ _ _ _ _ _ _ _ _ h => by cases h
/-- no Many over a row, by reckoning -/
def noCatB (L : List Pp.Nk) : Bool := L.all fun x => decide (x.1.op ≠ 7) || match Pp.nodeAt L (x.2.headD 0) with | some y => decide (y.1.op ≠ 5) | none => true
theorem noCat_of {L : List Pp.Nk} (h : noCatB L = true) : NoCat L := by
  intro x hx h7 y hy
  have := List.all_eq_true.1 h x hx
  simp only [h7, hy] at this
  simpa using this
/-- the text: bytes from 'a' on, parted -/
def altL : Nat → List UInt8
  | 0 => []
  | i + 1 => (if 0 < i then altL i ++ [92, 124] else altL i) ++ [(97 + i).toUInt8]
def ptA (m : Nat) : Pp.Pt := ⟨(List.range m).map (fun i => Pp.lit (97 + i).toUInt8) ++ (if 1 < m then [{ Pp.nd0 with op := 6, kids := List.range m }] else []), if 1 < m then m else 0, 0, 0⟩
def codeA (m : Nat) : List Pp.In := (List.range (m - 1)).flatMap (fun i => [{ Pp.in0 with op := 4, x := 3 * (i : Int) + 1, y := 3 * (i : Int) + 3 }, { Pp.in0 with op := 1, c := 97 + (i : Int) }, { Pp.in0 with op := 5, x := 3 * (m : Int) - 2 }]) ++ [{ Pp.in0 with op := 1, c := 97 + (m : Int) - 1 }, { Pp.in0 with op := 14 }]
theorem alt_parse : ∀ m, 1 ≤ m → m ≤ 20 → evalP noS (altL m) = some (ptA m)
  | 0, h, _ => absurd h (by decide)
  | 1, _, _ => by kernel_rfl
  | 2, _, _ => by kernel_rfl
  | 3, _, _ => by kernel_rfl
  | 4, _, _ => by kernel_rfl
  | 5, _, _ => by kernel_rfl
  | 6, _, _ => by kernel_rfl
  | 7, _, _ => by kernel_rfl
  | 8, _, _ => by kernel_rfl
  | 9, _, _ => by kernel_rfl
  | 10, _, _ => by kernel_rfl
  | 11, _, _ => by kernel_rfl
  | 12, _, _ => by kernel_rfl
  | 13, _, _ => by kernel_rfl
  | 14, _, _ => by kernel_rfl
  | 15, _, _ => by kernel_rfl
  | 16, _, _ => by kernel_rfl
  | 17, _, _ => by kernel_rfl
  | 18, _, _ => by kernel_rfl
  | 19, _, _ => by kernel_rfl
  | 20, _, _ => by kernel_rfl
  | n + 21, _, h => absurd h (by omega)
theorem alt_comp : ∀ m, 1 ≤ m → m ≤ 20 → Pp.compP (ptA m).nk (ptA m).root = .ok (codeA m, 0)
  | 0, h, _ => absurd h (by decide)
  | 1, _, _ => by kernel_rfl
  | 2, _, _ => by kernel_rfl
  | 3, _, _ => by kernel_rfl
  | 4, _, _ => by kernel_rfl
  | 5, _, _ => by kernel_rfl
  | 6, _, _ => by kernel_rfl
  | 7, _, _ => by kernel_rfl
  | 8, _, _ => by kernel_rfl
  | 9, _, _ => by kernel_rfl
  | 10, _, _ => by kernel_rfl
  | 11, _, _ => by kernel_rfl
  | 12, _, _ => by kernel_rfl
  | 13, _, _ => by kernel_rfl
  | 14, _, _ => by kernel_rfl
  | 15, _, _ => by kernel_rfl
  | 16, _, _ => by kernel_rfl
  | 17, _, _ => by kernel_rfl
  | 18, _, _ => by kernel_rfl
  | 19, _, _ => by kernel_rfl
  | 20, _, _ => by kernel_rfl
  | n + 21, _, h => absurd h (by omega)
theorem alt_sound : ∀ m, 1 ≤ m → m ≤ 20 → Pp.soundR (ptA m).nk (ptA m).root (ptA m).groups = some true
  | 0, h, _ => absurd h (by decide)
  | 1, _, _ => by kernel_rfl
  | 2, _, _ => by kernel_rfl
  | 3, _, _ => by kernel_rfl
  | 4, _, _ => by kernel_rfl
  | 5, _, _ => by kernel_rfl
  | 6, _, _ => by kernel_rfl
  | 7, _, _ => by kernel_rfl
  | 8, _, _ => by kernel_rfl
  | 9, _, _ => by kernel_rfl
  | 10, _, _ => by kernel_rfl
  | 11, _, _ => by kernel_rfl
  | 12, _, _ => by kernel_rfl
  | 13, _, _ => by kernel_rfl
  | 14, _, _ => by kernel_rfl
  | 15, _, _ => by kernel_rfl
  | 16, _, _ => by kernel_rfl
  | 17, _, _ => by kernel_rfl
  | 18, _, _ => by kernel_rfl
  | 19, _, _ => by kernel_rfl
  | 20, _, _ => by kernel_rfl
  | n + 21, _, h => absurd h (by omega)
theorem alt_nocat : ∀ m, 1 ≤ m → m ≤ 20 → noCatB (ptA m).nk = true
  | 0, h, _ => absurd h (by decide)
  | 1, _, _ => by kernel_rfl
  | 2, _, _ => by kernel_rfl
  | 3, _, _ => by kernel_rfl
  | 4, _, _ => by kernel_rfl
  | 5, _, _ => by kernel_rfl
  | 6, _, _ => by kernel_rfl
  | 7, _, _ => by kernel_rfl
  | 8, _, _ => by kernel_rfl
  | 9, _, _ => by kernel_rfl
  | 10, _, _ => by kernel_rfl
  | 11, _, _ => by kernel_rfl
  | 12, _, _ => by kernel_rfl
  | 13, _, _ => by kernel_rfl
  | 14, _, _ => by kernel_rfl
  | 15, _, _ => by kernel_rfl
  | 16, _, _ => by kernel_rfl
  | 17, _, _ => by kernel_rfl
  | 18, _, _ => by kernel_rfl
  | 19, _, _ => by kernel_rfl
  | 20, _, _ => by kernel_rfl
  | n + 21, _, h => absurd h (by omega)
theorem altL_len : ∀ m, m ≤ 20 → (altL m).length ≤ 60 := by decide +kernel
theorem codeA_len : ∀ m, m ≤ 20 → 1 ≤ m → (codeA m).length = 3 * m - 1 := by decide +kernel
theorem codeA_at : ∀ m : Nat, m ≤ 20 → ∀ i : Nat, i < m - 1 → (codeA m)[3 * i]? = some { Pp.in0 with op := 4, x := 3 * (i : Int) + 1, y := 3 * (i : Int) + 3 } ∧ (codeA m)[3 * i + 1]? = some { Pp.in0 with op := 1, c := 97 + (i : Int) } ∧ (codeA m)[3 * i + 2]? = some { Pp.in0 with op := 5, x := 3 * (m : Int) - 2 } := by decide +kernel
theorem codeA_last : ∀ m, m ≤ 20 → 1 ≤ m → (codeA m)[3 * m - 3]? = some { Pp.in0 with op := 1, c := 97 + (m : Int) - 1 } := by decide +kernel
end Go.Proofs.Ytjdlbejmdjcajaa
