import Derived.Test.YtdhemdeapphfoaaGreatDoorBvE
set_option linter.unusedVariables false
set_option linter.unusedSimpArgs false

/- buf's Back, walked. -/
namespace Go.Proofs.YtdhemdeapphfoaaGreatDoor
open Go.RowKit Go.Shelf Go.Maps Go.Proofs.YtdhemdeapphfoaaGreatDoorW.PrintWords Go.Proofs.YtdhemdeapphfoaaGreatDoorW.PrintLast

def BfU (N0 : Nat) (w0 : Base) (w : World) (B : Nat) (s : Bs) (U : Nat) : Prop := ∃ col T p1 vl vm vo L, Bw N0 w0 w col B s T p1 U vl vm vo L
theorem BfU.bf {N0 : Nat} {w0 : Base} {w : World} {B : Nat} {s : Bs} {U : Nat} (h : BfU N0 w0 w B s U) : Bf N0 w0 w B s := by
  obtain ⟨col, T, p1, vl, vm, vo, L, h⟩ := h
  exact ⟨col, T, p1, U, vl, vm, vo, L, h⟩
def BfUPost (N0 : Nat) (w0 : Base) (B : Nat) (s : Bs) (U : Nat) (v : Value) (e : Ending) (w' : World) : Prop := e = .returned v ∧ BfU N0 w0 w' B s U
def backS (s : Bs) : Bs := { s with ls := s.sls, mar := s.smk, nm := s.ns, cur := s.scur, opn := [] }
section
variable {N0 : Nat} {w0 : Base} {w w' : World} {col : Nat → Nat} {B T p1 U : Nat} {s : Bs} {vl vm vo : Value} {L : List DV}
end
end Go.Proofs.YtdhemdeapphfoaaGreatDoor

/- buf's Commit, walked (something is open, there is room). -/
namespace Go.Proofs.YtdhemdeapphfoaaGreatDoor
open Go.RowKit Go.Shelf Go.Maps Go.Proofs.YtdhemdeapphfoaaGreatDoorW.PrintWords Go.Proofs.YtdhemdeapphfoaaGreatDoorW.PrintLast

def keepS (s : Bs) : Bs := { s with sls := s.ls, scur := s.cur, smk := s.mar, ns := s.nm, opn := [], kept := true }
def commitS (s : Bs) (st : St) : Bs := keepS { s with us := addUs s.us st s.opn, nu := s.nu + 1 }
section
variable {N0 : Nat} {w0 : Base} {w w' : World} {col : Nat → Nat} {B T p1 U : Nat} {s : Bs} {vl vm vo : Value} {L : List DV}
end
end Go.Proofs.YtdhemdeapphfoaaGreatDoor

/- buf's leap over Undo, walked. -/
namespace Go.Proofs.YtdhemdeapphfoaaGreatDoor
open Go.RowKit Go.Shelf Go.Maps Go.Proofs.YtdhemdeapphfoaaGreatDoorW.PrintWords Go.Proofs.YtdhemdeapphfoaaGreatDoorW.PrintLast

def stepS (s : Bs) (d : Dl) : Bs := putS (marS { s with ls := Bt.splice s.ls d.at_.toNat d.old.length d.new } (d.at_ + 1) d.old.length d.new.length) (d.at_ + 1)
def leapS : Bs → List Dl → Bs
  | s, [] => s
  | s, d :: ds => leapS (stepS s d) ds
theorem leapS_snoc (s : Bs) (ds : List Dl) (d : Dl) : leapS s (ds ++ [d]) = stepS (leapS s ds) d := by
  induction ds generalizing s with
  | nil => rfl
  | cons x ds ih => exact ih _
/-- the changes fit -/
def fits : List ByteArray → List Dl → Prop
  | _, [] => True
  | ls, d :: ds => 0 ≤ d.at_ ∧ d.at_ + d.old.length ≤ ls.length ∧ ls.length + d.new.length + 2 ≤ 1000000000 ∧ d.old.length ≤ 1000000000 ∧ (∀ x ∈ d.new, x.size ≤ 1000000000) ∧ fits (Bt.splice ls d.at_.toNat d.old.length d.new) ds
theorem fits_at {s : Bs} {ds : List Dl} (h : fits s.ls ds) {j : Nat} {d : Dl} (hd : ds[j]? = some d) : fits (leapS s (ds.take j)).ls (ds.drop j) ∧ (leapS s (ds.take j)).nm = s.nm := by
  induction ds generalizing s j with
  | nil => simp at hd
  | cons x ds ih =>
    cases j with
    | zero => exact ⟨h, rfl⟩
    | succ j => exact ih (s := stepS s x) h.2.2.2.2.2 hd

/-- a change in a box -/
def Dx (w : World) (F : Nat → Prop) (D : Nat) (a : Int) (vo vn : Value) : Prop := F D ∧ w.heap[D]? = some (.cells #[.int .i64 a, vo, vn] 178 (0, 0))
theorem loc_dx (D : Nat) (a : Int) (vo vn : Value) : Loc (fun w F => Dx w F D a vo vn) where
  step h _ hs := ⟨h.1, (hs D (blk_lt h.2) h.1).trans h.2⟩
  wide h hF := ⟨hF D (blk_lt h.2) h.1, h.2⟩
theorem loc_dw (v : Value) (L : List DV) (ds : List Dl) : Loc (fun w F => Dw w F v L ds) where
  step h hsz hs := h.step hsz hs
  wide h hF := h.wide hF

section
variable {N0 : Nat} {w0 : Base} {w w' : World} {col : Nat → Nat} {B T p1 U : Nat} {s : Bs} {vl vm vo : Value} {L : List DV}

theorem chg_mono {F F' : Nat → Prop} {w w' : World} (h : Chg F w w') (hF : ∀ b, F b → F' b) : Chg F' w w' := ⟨h.os, h.tape, h.output, h.size, fun b hb hn => h.block b hb fun h => hn (hF b h)⟩

/-- between two rounds -/
def Li (N0 : Nat) (w0 : Base) (w : World) (B : Nat) (s : Bs) (v : Value) (Lv : List DV) (ds : List Dl) (j : Nat) : Prop :=
  ∃ col T p1 U vl vm vo L, Bw N0 w0 w col B (leapS s (ds.take j)) T p1 U vl vm vo L ∧ Dw w (fun b => col b = 4) v Lv ds

end
end Go.Proofs.YtdhemdeapphfoaaGreatDoor
