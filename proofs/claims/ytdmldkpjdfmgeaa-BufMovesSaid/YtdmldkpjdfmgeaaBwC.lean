/- buf's Move where it does nothing; Commit of nothing; Undo at the first state. -/
import Derived.Test.YtdmldkpjdfmgeaaBwB
set_option linter.unusedVariables false
set_option linter.unusedSimpArgs false
namespace Go.Proofs.Ytdmldkpjdfmgeaa
open Go.RowKit Go.Shelf Go.Maps Go.Proofs.YtdmldkpjdfmgeaaW.PrintWords Go.Proofs.YtdmldkpjdfmgeaaW.PrintLast

section
variable {N0 : Nat} {w0 : Base} {w w' : World} {col : Nat → Nat} {B T p1 U : Nat} {s : Bs} {vl vm vo : Value} {L : List DV}
theorem bmove_err (h : Bf N0 w0 w B s) {p q c : Nat} (h1 : 1 ≤ p) (h2 : p ≤ q) (h3 : q ≤ s.ls.length) (h4 : c ≤ s.ls.length) (h5 : p ≤ c) (h6 : c < q) :
    Calls Try.prog 22 #[.pointer (some ⟨B, 0, none⟩), .int .i64 p, .int .i64 q, .int .i64 c] w (BfPost N0 w0 B s (.int .u16 160)) := by
  obtain ⟨col, T, p1, U, vl, vm, vo, L, h⟩ := h
  have k0 : w.cell? ⟨B, 0, none⟩ = some (.pointer (some ⟨T, 0, none⟩)) := by rw [blk_cell h.box]; rfl
  have hlen : ∀ W, Below w.heap.size w W → Calls Try.prog 9 #[.pointer (some ⟨T, 0, none⟩)] W fun e w' => e = .returned (.int .i64 s.ls.length) ∧ ∃ n, w' = W.drewN n := fun W hb => len_is (h.tree.step (fun b hl hf => hb.block b hl))
  have HL := Lib.hid hlen
  have HH := Lib.hid h
  have c1 : ¬ ((p : Int) < 1) := by omega
  have c2 : ¬ ((q : Int) < p) := by omega
  have c3 : ¬ ((s.ls.length : Int) < q) := by omega
  have c4 : ¬ ((c : Int) < 0) := by omega
  have c5 : ¬ ((s.ls.length : Int) < c) := by omega
  have c6 : (p : Int) ≤ c := by omega
  have c7 : (c : Int) < q := by omega
  clear h hlen
  go_enter Try.func22, Try.ntmps22
  go_wp2_with (first
    | (go_at_call 9; refine (HL.out _ (Below.refl _ _)).mono ?_; rintro e wa ⟨rfl, n1, rfl⟩)
    | (go_at_call 9; refine (HL.out _ (below_drewN w _)).mono ?_; rintro e wa ⟨rfl, n2, rfl⟩))
  go_ret
  exact ⟨rfl, _, _, _, _, _, _, _, _, HH.out.drewN _⟩
theorem bmove_same (h : Bf N0 w0 w B s) {p q c : Nat} (h1 : 1 ≤ p) (h2 : p ≤ q) (h3 : q ≤ s.ls.length) (h4 : c ≤ s.ls.length) (h5 : c + 1 = p ∨ c = q) (hsl : s.ls.length ≤ 1000000) :
    Calls Try.prog 22 #[.pointer (some ⟨B, 0, none⟩), .int .i64 p, .int .i64 q, .int .i64 c] w (BfPost N0 w0 B s (.int .u16 0)) := by
  obtain ⟨col, T, p1, U, vl, vm, vo, L, h⟩ := h
  have k0 : w.cell? ⟨B, 0, none⟩ = some (.pointer (some ⟨T, 0, none⟩)) := by rw [blk_cell h.box]; rfl
  have hlen : ∀ W, Below w.heap.size w W → Calls Try.prog 9 #[.pointer (some ⟨T, 0, none⟩)] W fun e w' => e = .returned (.int .i64 s.ls.length) ∧ ∃ n, w' = W.drewN n := fun W hb => len_is (h.tree.step (fun b hl hf => hb.block b hl))
  have HL := Lib.hid hlen
  have HH := Lib.hid h
  have c1 : ¬ ((p : Int) < 1) := by omega
  have c2 : ¬ ((q : Int) < p) := by omega
  have c3 : ¬ ((s.ls.length : Int) < q) := by omega
  have c4 : ¬ ((c : Int) < 0) := by omega
  have c5 : ¬ ((s.ls.length : Int) < c) := by omega
  clear h hlen
  rcases h5 with h5 | h5
  · have c6 : ¬ ((p : Int) ≤ c) := by omega
    have c7 : (p : Int) - 1 = c := by omega
    go_enter Try.func22, Try.ntmps22
    go_wp2_with (first
      | (go_at_call 9; refine (HL.out _ (Below.refl _ _)).mono ?_; rintro e wa ⟨rfl, n1, rfl⟩)
      | (go_at_call 9; refine (HL.out _ (below_drewN w _)).mono ?_; rintro e wa ⟨rfl, n2, rfl⟩))
    go_ret
    exact ⟨rfl, _, _, _, _, _, _, _, _, HH.out.drewN _⟩
  · subst h5
    have c6 : ((p : Nat) : Int) ≤ c := by omega
    have c7 : ¬ ((c : Int) < c) := by omega
    have c8 : ¬ ((c : Int) = p - 1) := by omega
    go_enter Try.func22, Try.ntmps22
    go_wp2_with (first
      | (go_at_call 9; refine (HL.out _ (Below.refl _ _)).mono ?_; rintro e wa ⟨rfl, n1, rfl⟩)
      | (go_at_call 9; refine (HL.out _ (below_drewN w _)).mono ?_; rintro e wa ⟨rfl, n2, rfl⟩))
    all_goals
      go_ret
      exact ⟨rfl, _, _, _, _, _, _, _, _, HH.out.drewN _⟩

set_option maxRecDepth 100000 in
theorem commit_none (h : Bf N0 w0 w B s) (ho : s.opn = []) (hl : s.ls.length ≤ 1000000000) :
    Calls Try.prog 14 #[.pointer (some ⟨B, 0, none⟩)] w (BfPost N0 w0 B (keepS s) (.tuple #[.int .i64 0, .bool false])) := by
  have HKP := Lib.hid (keep_any h hl)
  obtain ⟨col, T, p1, U, vl, vm, vo, L, h⟩ := h
  have hvo : ∃ A c, vo = .slice A 0 c := by
    have hl := h.ope.1
    rw [ho] at hl
    rcases h.opr.1.2 with ⟨h9, _⟩ | ⟨g, cap, cur, rfl, _⟩
    · exact ⟨_, _, h9⟩
    · exact ⟨_, cap, by rw [hl]; rfl⟩
  obtain ⟨A, c, rfl⟩ := hvo
  have k6 : w.cell? ⟨B, 6, none⟩ = some (.slice A 0 c) := by rw [blk_cell h.box]; rfl
  clear h
  go_enter Try.func14, Try.ntmps14
  go_wp2_with (go_at_call 28; refine HKP.out.mono ?_; rintro e w5 ⟨rfl, hb5⟩; have H5 := Lib.hid hb5; clear hb5)
  go_ret2
  exact ⟨rfl, H5.out⟩

set_option maxRecDepth 100000 in
set_option maxHeartbeats 1000000 in
theorem bundo_end (h : Bf N0 w0 w B s) (hk : s.kept = true) (hl : s.sls.length + 2 ≤ 1000000000) (hx : ∀ x ∈ s.sls, x.size ≤ 1000000000) {st : St} (hs : s.us.all s.us.now = some st) (hf : st.frm = -1) :
    Calls Try.prog 15 #[.pointer (some ⟨B, 0, none⟩)] w (BfPost N0 w0 B (backS s) (.int .u16 121)) := by
  obtain ⟨col, T, p1, U, vl, vm, vo, L, h⟩ := h
  have k5 : w.cell? ⟨B, 5, none⟩ = some (.pointer (some ⟨U, 0, none⟩)) := by rw [blk_cell h.box]; rfl
  have hleap : Calls Try.prog 35 #[.pointer (some ⟨B, 0, none⟩), .func (.func 36) #[.pointer (some ⟨U, 0, none⟩)] #[]] w (BfPost N0 w0 B (backS s) (.int .u16 121)) := by
    have HBK := Lib.hid (back_any ⟨_, _, _, _, _, _, _, h⟩ hk hl hx)
    clear h
    go_enter Try.func35, Try.ntmps35
    go_wp2_with fail
    go_at_call 51
    refine HBK.out.mono ?_
    rintro e w1 ⟨rfl, col, T, p1, vl, vm, vo, L, b1⟩
    have HU := Lib.hid (undo_end (n := s.nu) b1.undo hs hf)
    have H1 := Lib.hid b1
    clear b1
    go_wp2_with fail
    refine HU.out.mono ?_
    rintro e w2 ⟨rfl, hb2⟩
    have H2 := Lib.hid (H1.out.onNew 9 (by decide) hb2)
    clear hb2
    go_wp2
    go_ret
    exact ⟨rfl, _, _, _, _, _, _, _, _, H2.out⟩
  have HL := Lib.hid hleap
  clear h hk hl hx hs hf hleap
  go_enter Try.func15, Try.ntmps15
  go_wp2_with (go_at_call 35; refine HL.out.mono ?_; rintro e w5 ⟨rfl, hb5⟩; have H5 := Lib.hid hb5; clear hb5)
  go_ret
  exact ⟨rfl, H5.out⟩
end
end Go.Proofs.Ytdmldkpjdfmgeaa
