/- edit's put, walked. -/
import Derived.Test.YtoejfgmfdjoonaaGreatDoorEjA
import Derived.Test.YtoejfgmfdjoonaaGreatDoorEjB
import Derived.Test.YtoejfgmfdjoonaaGreatDoorEeB
set_option linter.unusedVariables false
set_option linter.unusedSimpArgs false
namespace Go.Proofs.YtoejfgmfdjoonaaGreatDoor
open Go.RowKit Go.Shelf Go.Maps Go.Proofs.YtoejfgmfdjoonaaGreatDoorW.PrintWords Go.Proofs.YtoejfgmfdjoonaaGreatDoorW.PrintLast

/-- a command's block is kept -/
theorem Bf.wk {N0 : Nat} {w0 : Base} {w : World} {B : Nat} {s : Bs} (h : Bf N0 w0 w B s) {W R : Nat} {vr vd : Value} {nm p1 p2 p3 p4 : ByteArray} {bang : Bool} {reg cnt f t d : Int} (hP : w0.P W) (hw : Wk w0.z W B R vr vd nm p1 p2 p3 p4 bang reg cnt f t d) : Wk w W B R vr vd nm p1 p2 p3 p4 bang reg cnt f t d := (h.prot W hP).2.trans hw

section
variable {N0 : Nat} {w0 : Base} {w w' : World} {B : Nat} {s : Bs}
set_option maxRecDepth 100000 in
set_option maxHeartbeats 1000000 in
theorem put_long (h : Bf N0 w0 w B s) {W R : Nat} {vr vd : Value} {nm p1 p2 p3 p4 : ByteArray} {bang : Bool} {reg cnt f t d : Int} (hw : Wk w W B R vr vd nm p1 p2 p3 p4 bang reg cnt f t d) {G : Nat → Prop} {v : Value} {xs : List ByteArray} (hv : Ls w G v xs) {i k : Nat} {a c : Int} (ha : a = i + 1) (hi : i + k ≤ s.ls.length) (hl : s.ls.length + xs.length ≤ k + 2000) (hsl : s.ls.length ≤ 1000000) (hlg : isLong xs = true) :
    Calls Tryz.prog 83 #[.pointer (some ⟨W, 0, none⟩), .int .i64 a, .int .i64 k, v, .int .i64 c] w (BfPost N0 w0 B s (.int .u16 90)) := by
  have HS := Lib.hid (bsplice_long h hv ha hi hl hsl hlg)
  have g10 : w.cell? ⟨W, 10, none⟩ = some (.pointer (some ⟨B, 0, none⟩)) := by rw [blk_cell hw]; rfl
  obtain ⟨Av, cv, hvs, _⟩ := id hv
  subst hvs
  clear h hv hw ha
  go_enter Tryz.func83, Tryz.ntmps83
  go_wp2_with (go_at_call 111; refine HS.out.mono ?_; rintro e w2 ⟨rfl, b2⟩; have H2 := Lib.hid b2; clear b2)
  go_ret
  exact ⟨rfl, H2.out⟩

set_option maxRecDepth 100000 in
set_option maxHeartbeats 1000000 in
theorem put_ok (h : Bf N0 w0 w B s) {W R : Nat} {vr vd : Value} {nm p1 p2 p3 p4 : ByteArray} {bang : Bool} {reg cnt f t d : Int} (hP : w0.P W) (hw : Wk w0.z W B R vr vd nm p1 p2 p3 p4 bang reg cnt f t d) {G : Nat → Prop} {v : Value} {xs : List ByteArray} (hv : Ls w G v xs) {i k : Nat} {a c : Int} (ha : a = i + 1) (hi : i + k ≤ s.ls.length) (hl : s.ls.length + xs.length ≤ k + 2000) (hsl : s.ls.length ≤ 1000000) (hpos : 0 < s.ls.length) (hlg : isLong xs = false) (hne : ¬ (k < 1 ∧ xs.length < 1)) (hx : ∀ x ∈ xs, x.size ≤ 1000000000) (ho : s.opn.length ≤ 1000000) (hnm : s.nm < maxLen) :
    Calls Tryz.prog 83 #[.pointer (some ⟨W, 0, none⟩), .int .i64 a, .int .i64 k, v, .int .i64 c] w (BfPost N0 w0 B (putS (spliceS s i k (sputs s.ls.length k xs)) c) (.int .u16 0)) := by
  have HS := Lib.hid (bsplice_any h hv ha hi hl hsl hpos hlg hne hx ho hnm)
  have g10 : w.cell? ⟨W, 10, none⟩ = some (.pointer (some ⟨B, 0, none⟩)) := by rw [blk_cell (h.wk hP hw)]; rfl
  have HW := Lib.hid hw
  obtain ⟨Av, cv, hvs, _⟩ := id hv
  subst hvs
  clear h hv hw ha hne hx
  go_enter Tryz.func83, Tryz.ntmps83
  go_wp2_with (first
    | (go_at_call 111; refine HS.out.mono ?_; rintro e w2 ⟨rfl, b2⟩; have g2 : w2.cell? ⟨W, 10, none⟩ = some (.pointer (some ⟨B, 0, none⟩)) := (by rw [blk_cell (b2.wk hP HW.out)]; rfl); have HPU := Lib.hid (bput_any b2 c); clear b2)
    | (go_at_call 28; refine HPU.out.mono ?_; rintro e w3 ⟨rfl, b3, _, _⟩; have H3 := Lib.hid b3; clear b3))
  go_ret
  exact ⟨rfl, H3.out⟩
end
end Go.Proofs.YtoejfgmfdjoonaaGreatDoor
