/- buf's Move, walked. -/
import Derived.Test.YtdmldkpjdfmgeaaBwA
import Derived.Test.YtdmldkpjdfmgeaaBvMx
set_option linter.unusedVariables false
set_option linter.unusedSimpArgs false
namespace Go.Proofs.Ytdmldkpjdfmgeaa
open Go.RowKit Go.Shelf Go.Maps Go.Proofs.YtdmldkpjdfmgeaaW.PrintWords Go.Proofs.YtdmldkpjdfmgeaaW.PrintLast

theorem move_mk {w : World} {F : Nat → Prop} {p n : Nat} {f : Int → Int} (h : Mk w F p n f) (hn : n < maxLen) (x y z : Int) :
    Calls Try.prog 41 #[.pointer (some ⟨p, 0, none⟩), .int .i64 x, .int .i64 y, .int .i64 z] w fun e w' => e = .returned (.tuple #[]) ∧ Mk w' F p n (movF f x y z) ∧ Chg F w w' := by
  obtain ⟨mb, h1, h2, h3, h4, h5⟩ := h
  refine (move_any p mb n f x y z w h4 h3 h5 hn).mono ?_
  rintro e w' ⟨rfl, hg, hm⟩
  refine ⟨rfl, ⟨mb, h1, h2, h3, (World.cell?_of_block (a := ⟨p, 0, none⟩) (hg.block p (cell_lt h4) (fun e => h3 (Option.some.inj e)))).trans h4, hm.congr fun y _ _ => ?_⟩, (Chg.refl F w).grown hg fun i hi => Option.some.inj hi ▸ h2⟩
  unfold movF
  split <;> rfl

/-- the lines from low on, k of them, turned round at cut -/
def rot (ls : List ByteArray) (low k cut : Nat) : List ByteArray := ((ls.drop low).take k).drop cut ++ ((ls.drop low).take k).take cut
def moveS (s : Bs) (p q c : Int) (low k cut : Nat) : Bs := { changeS s low k (rot s.ls low k cut) with mar := movF s.mar p q c }

theorem Rw.ls_drop {w : World} {g n c : Nat} {xs : List ByteArray} (h : Rw w 9 (.slice (some ⟨g, 0, none⟩) n c) (cS xs)) {k : Nat} (hk : k ≤ n) : Ls w (fun _ => True) (.slice (some ⟨g, k, none⟩) (n - k) (c - k)) (xs.drop k) := by
  obtain ⟨h1, h2, h3⟩ := h.len
  rw [cS_len] at h1
  refine ⟨some ⟨g, k, none⟩, c - k, by rw [List.length_drop, h1], by rw [List.length_drop]; omega, by unfold maxLen at *; omega, fun h0 => ⟨g, k, rfl, trivial, h.lt g rfl, fun j x hx => ?_⟩⟩
  rw [List.getElem?_drop] at hx
  exact h.cell (cS_at hx)
theorem Rw.ls_take {w : World} {g n c : Nat} {xs : List ByteArray} (h : Rw w 9 (.slice (some ⟨g, 0, none⟩) n c) (cS xs)) {k : Nat} (hk : k ≤ n) : Ls w (fun _ => True) (.slice (some ⟨g, 0, none⟩) k c) (xs.take k) := by
  obtain ⟨h1, h2, h3⟩ := h.len
  rw [cS_len] at h1
  refine ⟨some ⟨g, 0, none⟩, c, by rw [List.length_take, Nat.min_eq_left (by omega)], by rw [List.length_take]; omega, h3, fun h0 => ⟨g, 0, rfl, trivial, h.lt g rfl, fun j x hx => ?_⟩⟩
  rw [List.length_take] at h0
  obtain ⟨hj, _⟩ := List.getElem?_eq_some_iff.1 hx
  rw [List.length_take] at hj
  rw [List.getElem?_take_of_lt (by omega)] at hx
  rw [Nat.zero_add]
  exact h.cell (cS_at hx)

theorem rot_length {ls : List ByteArray} {low k cut : Nat} (h : low + k ≤ ls.length) : (rot ls low k cut).length = k := by
  have e : ((ls.drop low).take k).length = k := by
    rw [List.length_take, List.length_drop]
    omega
  unfold rot
  rw [List.length_append, List.length_drop, e, List.length_take, e]
  omega
theorem rot_mem {ls : List ByteArray} {low k cut : Nat} {x : ByteArray} (h : x ∈ rot ls low k cut) : x ∈ ls := by
  unfold rot at h
  rcases List.mem_append.1 h with h | h
  · exact List.mem_of_mem_drop (List.mem_of_mem_take (List.mem_of_mem_drop h))
  · exact List.mem_of_mem_drop (List.mem_of_mem_take (List.mem_of_mem_take h))
theorem concat_rot {w w' : World} {g c b k cut : Nat} {xs : List ByteArray} (h : Rw w 9 (.slice (some ⟨g, 0, none⟩) k c) (cS xs)) (hcut : cut ≤ k) (hk : k ≤ 1000000) (hb : Below w.heap.size w w') (hc : w'.heap[b]? = some (.cells #[.slice (some ⟨g, cut, none⟩) (k - cut) (c - cut), .slice (some ⟨g, 0, none⟩) cut c] 22 (0, 0))) :
    Calls Try.prog 40 #[.slice (some ⟨b, 0, none⟩) 2 2] w' (OwnPost w'.heap.size w' (xs.drop cut ++ xs.take cut)) := by
  have hl : k = xs.length := by
    have := h.len.1
    rwa [cS_len] at this
  have h' := h.below hb
  have := concat_any (w := w') (G := fun _ => True) (b := b) (rows := [.slice (some ⟨g, cut, none⟩) (k - cut) (c - cut), .slice (some ⟨g, 0, none⟩) cut c]) (xss := [xs.drop cut, xs.take cut]) rfl (blk_lt hc)
    (fun j v hj => by
      match j, hj with
      | 0, hj => cases hj; rw [blk_cell hc]; rfl
      | 1, hj => cases hj; rw [blk_cell hc]; rfl)
    (fun j v ys hj hy => by
      match j, hj, hy with
      | 0, hj, hy => cases hj; cases hy; exact h'.ls_drop hcut
      | 1, hj, hy => cases hj; cases hy; exact h'.ls_take hcut)
    (by simp; omega) (by simp)
  simpa using this

theorem concat_rot' {w w' : World} {g c b k cut low : Nat} {ls : List ByteArray} (h : Rw w 9 (.slice (some ⟨g, 0, none⟩) k c) (cS ((ls.drop low).take k))) (hcut : cut ≤ k) (hk : k ≤ 1000000) (hb : Below w.heap.size w w') (hc : w'.heap[b]? = some (.cells #[.slice (some ⟨g, cut, none⟩) (k - cut) (c - cut), .slice (some ⟨g, 0, none⟩) cut c] 22 (0, 0))) :
    Calls Try.prog 40 #[.slice (some ⟨b, 0, none⟩) 2 2] w' (OwnPost w'.heap.size w' (rot ls low k cut)) := concat_rot h hcut hk hb hc

section
variable {N0 : Nat} {w0 : Base} {w w' : World} {col : Nat → Nat} {B T p1 U : Nat} {s : Bs} {vl vm vo : Value} {L : List DV}
set_option maxRecDepth 100000 in
set_option maxHeartbeats 2000000 in
theorem bmove_any (h : Bf N0 w0 w B s) {p q c low high k cut : Nat} (h1 : 1 ≤ p) (h2 : p ≤ q) (h3 : q ≤ s.ls.length) (h4 : c ≤ s.ls.length) (e1 : min (p : Int) ((c : Int) + 1) = (low : Int) + 1) (e2 : max (q : Int) (c : Int) = high) (e3 : high = low + k) (hcut : (q < c ∧ q = low + cut) ∨ (c + 1 < p ∧ p = low + 1 + cut)) (hck : cut < k) (hk : 0 < k) (hkl : low + k ≤ s.ls.length)
    (hsl : s.ls.length ≤ 1000000) (hx : ∀ x ∈ s.ls, x.size ≤ 1000000000) (ho : s.opn.length ≤ 1000000) (hnm : s.nm < maxLen) :
    Calls Try.prog 22 #[.pointer (some ⟨B, 0, none⟩), .int .i64 p, .int .i64 q, .int .i64 c] w (BfPost N0 w0 B (moveS s p q c low k cut) (.int .u16 0)) := by
  obtain ⟨col, T, p1, U, vl, vm, vo, L, h⟩ := h
  have k0 : w.cell? ⟨B, 0, none⟩ = some (.pointer (some ⟨T, 0, none⟩)) := by rw [blk_cell h.box]; rfl
  have hlen : ∀ W, Below w.heap.size w W → Calls Try.prog 9 #[.pointer (some ⟨T, 0, none⟩)] W fun e w' => e = .returned (.int .i64 s.ls.length) ∧ ∃ n, w' = W.drewN n := fun W hb => len_is (h.tree.step (fun b hl hf => hb.block b hl))
  have HL := Lib.hid hlen
  have hpart : ∀ W, Below w.heap.size w W → Calls Try.prog 39 #[.pointer (some ⟨T, 0, none⟩), .int .i64 low, .int .i64 k] W (PartPost W.heap.size W ((s.ls.drop low).take k)) := fun W hb => Part_any (h.tree.step (fun b hl hf => hb.block b hl)) hkl (by omega)
  have HP := Lib.hid hpart
  have HH := Lib.hid h
  have HX := Lib.hid hx
  have hlk : ((s.ls.drop low).take k).length = k := by rw [List.length_take, List.length_drop]; omega
  have HLK := Lib.hid hlk
  have c1 : ¬ ((p : Int) < 1) := by omega
  have c2 : ¬ ((q : Int) < p) := by omega
  have c3 : ¬ ((s.ls.length : Int) < q) := by omega
  have c4 : ¬ ((c : Int) < 0) := by omega
  have c5 : ¬ ((s.ls.length : Int) < c) := by omega
  clear h hx hpart hlk hlen
  rcases hcut with hcut | hcut
  · obtain ⟨d1, d2⟩ := hcut
    have d3 : (q : Int) < c := by omega
    have d4 : ¬ ((c : Int) < p) := by omega
    have d5 : ¬ ((c : Int) < q) := by omega
    have d6 : (q : Int) - ((low : Int) + 1) + 1 = cut := by omega
    clear d2
    go_enter Try.func22, Try.ntmps22
    go_wp2_with (first
      | (go_at_call 9; refine (HL.out _ (Below.refl _ _)).mono ?_; rintro e wa ⟨rfl, n1, rfl⟩)
      | (go_at_call 9; refine (HL.out _ (below_drewN w _)).mono ?_; rintro e wa ⟨rfl, n2, rfl⟩))
    rw [show ((low : Int) + k - (low + 1) + 1) = k by omega]
    refine (HP.out _ (below_drewN w _)).mono ?_
    rintro e w3 ⟨v3, rfl, h31, h32, h33⟩
    obtain ⟨A3, c3, hv3, hk3, hm3, hA3⟩ := h31.slice
    rw [cS_len, HLK.out] at hv3 hk3 hA3
    obtain ⟨g, rfl⟩ := hA3 hk
    subst hv3
    have b3 := (HH.out.onNew 9 (by decide) (below_drewN w (n1 + n2))).onNew 9 (by decide) h33
    have H3 := Lib.hid (And.intro b3 h31)
    clear b3 h31 h32 h33 hA3
    unfold maxLen at hm3
    have hck' : (cut : Int) ≤ k := by omega
    have hk3' : (k : Int) ≤ c3 := by omega
    have hck3 : (cut : Int) ≤ c3 := by omega
    have hcc : ¬ (c3 = cut) := by omega
    have hck0 : cut ≤ k := by omega
    go_wp2_with fail
    go_region_held3 (fun _ => True) (trivial) (first
      | (go_at_call 40; refine (concat_rot' H3.out.2 hck0 (by omega) (below_alloc (Below.refl _ w3) _).drew (heap_alloc_new w3 _)).mono ?_; rintro e w5 ⟨v5, rfl, h51, h52, h53⟩; obtain ⟨A5, c5, hv5, _⟩ := h51.slice; rw [cS_len, rot_length hkl] at hv5; subst hv5; have b5 := (H3.out.1.onNew 9 (by decide) (below_alloc (Below.refl _ w3) _).drew).onNew 8 (by decide) h53; have o5 := (loc_ls _ _).fresh (col := recol (recol (recol col w.heap.size 9) (w.drewN (n1 + n2)).heap.size 9) w3.heap.size 9) (i := 8) ((Ls.of_rw h51).wide fun b _ hb => h52 b hb); have H5 := Lib.hid (And.intro b5 o5); clear b5 o5 h51 h52 h53)
      | (go_at_call 30; refine (change_any H5.out.1 H5.out.2 (i := low) (k := k) rfl hkl (by have := rot_length (cut := cut) hkl; omega) (fun x hxx => HX.out x (rot_mem hxx)) ho).mono ?_; rintro e w6 ⟨rfl, col6, T6, p6, U6, vl6, vm6, vo6, L6, b6⟩; have H6 := Lib.hid b6; clear b6))
    have b6 := H6.out
    have k4 : w6.cell? ⟨B, 4, none⟩ = some (.pointer (some ⟨p6, 0, none⟩)) := by rw [blk_cell b6.box]; rfl
    have HM := Lib.hid (move_mk ((loc_mk _ _ _).open b6.mar) hnm)
    clear b6
    go_wp2_with (go_at_call 41; refine (HM.out _ _ _).mono ?_; rintro e w7 ⟨rfl, h71, h72⟩)
    go_ret
    exact ⟨rfl, _, _, _, _, _, _, _, _, H6.out.onMarks h72 h71⟩
  · obtain ⟨d1, d2⟩ := hcut
    have d3 : (c : Int) + 1 < p := by omega
    have d4 : ((c : Int) < p) := by omega
    have d5 : ¬ ((q : Int) < c) := by omega
    have d6 : (p : Int) - ((low : Int) + 1) = cut := by omega
    clear d2
    go_enter Try.func22, Try.ntmps22
    go_wp2_with (first
      | (go_at_call 9; refine (HL.out _ (Below.refl _ _)).mono ?_; rintro e wa ⟨rfl, n1, rfl⟩)
      | (go_at_call 9; refine (HL.out _ (below_drewN w _)).mono ?_; rintro e wa ⟨rfl, n2, rfl⟩))
    rw [show ((low : Int) + k - (low + 1) + 1) = k by omega]
    refine (HP.out _ (below_drewN w _)).mono ?_
    rintro e w3 ⟨v3, rfl, h31, h32, h33⟩
    obtain ⟨A3, c3, hv3, hk3, hm3, hA3⟩ := h31.slice
    rw [cS_len, HLK.out] at hv3 hk3 hA3
    obtain ⟨g, rfl⟩ := hA3 hk
    subst hv3
    have b3 := (HH.out.onNew 9 (by decide) (below_drewN w (n1 + n2))).onNew 9 (by decide) h33
    have H3 := Lib.hid (And.intro b3 h31)
    clear b3 h31 h32 h33 hA3
    unfold maxLen at hm3
    have hck' : (cut : Int) ≤ k := by omega
    have hk3' : (k : Int) ≤ c3 := by omega
    have hck3 : (cut : Int) ≤ c3 := by omega
    have hcc : ¬ (c3 = cut) := by omega
    have hck0 : cut ≤ k := by omega
    go_wp2_with fail
    go_region_held3 (fun _ => True) (trivial) (first
      | (go_at_call 40; refine (concat_rot' H3.out.2 hck0 (by omega) (below_alloc (Below.refl _ w3) _).drew (heap_alloc_new w3 _)).mono ?_; rintro e w5 ⟨v5, rfl, h51, h52, h53⟩; obtain ⟨A5, c5, hv5, _⟩ := h51.slice; rw [cS_len, rot_length hkl] at hv5; subst hv5; have b5 := (H3.out.1.onNew 9 (by decide) (below_alloc (Below.refl _ w3) _).drew).onNew 8 (by decide) h53; have o5 := (loc_ls _ _).fresh (col := recol (recol (recol col w.heap.size 9) (w.drewN (n1 + n2)).heap.size 9) w3.heap.size 9) (i := 8) ((Ls.of_rw h51).wide fun b _ hb => h52 b hb); have H5 := Lib.hid (And.intro b5 o5); clear b5 o5 h51 h52 h53)
      | (go_at_call 30; refine (change_any H5.out.1 H5.out.2 (i := low) (k := k) rfl hkl (by have := rot_length (cut := cut) hkl; omega) (fun x hxx => HX.out x (rot_mem hxx)) ho).mono ?_; rintro e w6 ⟨rfl, col6, T6, p6, U6, vl6, vm6, vo6, L6, b6⟩; have H6 := Lib.hid b6; clear b6))
    have b6 := H6.out
    have k4 : w6.cell? ⟨B, 4, none⟩ = some (.pointer (some ⟨p6, 0, none⟩)) := by rw [blk_cell b6.box]; rfl
    have HM := Lib.hid (move_mk ((loc_mk _ _ _).open b6.mar) hnm)
    clear b6
    go_wp2_with (go_at_call 41; refine (HM.out _ _ _).mono ?_; rintro e w7 ⟨rfl, h71, h72⟩)
    go_ret
    exact ⟨rfl, _, _, _, _, _, _, _, _, H6.out.onMarks h72 h71⟩
end
end Go.Proofs.Ytdmldkpjdfmgeaa
