import Derived.Shelf.Spec.SlicesGrow
import Derived.Test.YtdhemdeapphfoaaGreatDoorProg
import Derived.Test.YtdhemdeapphfoaaGreatDoorBuA
import Derived.Test.YtdhemdeapphfoaaGreatDoorBvMx
set_option linter.unusedVariables false
set_option linter.unusedSimpArgs false

/- The library's slices.Grow at strings, laid at this program (its numbers by name). -/
namespace Go.Proofs
open Go.Shelf
def Tryz.growS_ren : Go.Shelf.Ren := ⟨fun | 4 => 178 | n => n, fun | 22 => 23 | 25 => 9 | 9 => 9 | 3 => 3 | 4 => 4 | 0 => 0 | 20 => 20 | n => n, fun | n => n⟩
theorem Tryz.growS : Go.Proofs.Lays8.n4 Tryz.prog Tryz.growS_ren := {
  mixed := by kernel_rfl
  f4 := ⟨Tryz.f178.name, by decide, Tryz.func178.trans (congrArg some (by kernel_rfl))⟩
  t0 := Tryz.underlying0
  a0 := Tryz.isAgg0
  z0 := Tryz.sizeOf0
  v0 := Tryz.zeroValue0
  t3 := Tryz.underlying3
  a3 := Tryz.isAgg3
  z3 := Tryz.sizeOf3
  v3 := Tryz.zeroValue3
  t4 := Tryz.underlying4
  a4 := Tryz.isAgg4
  z4 := Tryz.sizeOf4
  v4 := Tryz.zeroValue4
  t9 := Tryz.underlying9
  a9 := Tryz.isAgg9
  z9 := Tryz.sizeOf9
  v9 := Tryz.zeroValue9
  t20 := Tryz.underlying20
  a20 := Tryz.isAgg20
  z20 := Tryz.sizeOf20
  v20 := Tryz.zeroValue20
  t22 := Tryz.underlying23
  a22 := Tryz.isAgg23
  z22 := Tryz.sizeOf23
  v22 := Tryz.zeroValue23 }
end Go.Proofs

/- slices.Concat of rows of lines. -/
set_option linter.unusedVariables false
set_option linter.unusedSimpArgs false
namespace Go.Proofs.YtdhemdeapphfoaaGreatDoor
open Go.RowKit Go.Shelf Go.Proofs.YtdhemdeapphfoaaGreatDoorW.PrintWords Go.Proofs.YtdhemdeapphfoaaGreatDoorW.PrintLast

theorem grow_nil (w : World) (n : Nat) (hn : n ≤ 1000000000) : Calls Tryz.prog 178 #[.slice none 0 0, .int .i64 n] w (OwnPost w.heap.size w []) := by
  by_cases h0 : n = 0
  · subst h0
    refine (Any8.slices_Grow_room Tryz.growS none 0 0 0 w (Nat.le_refl _) (by decide) (by decide) (by decide)).mono ?_
    rintro e w' ⟨rfl, rfl⟩
    exact ⟨_, rfl, Rw.nil _ _, fun b hb => by (cases hb), Below.refl _ _⟩
  · obtain ⟨i0, hi0, hz0, hz1, hz2⟩ := info_parts infoS
    refine (Any8.slices_Grow_grow Tryz.growS i0 (.string ⟨#[]⟩) hi0 hz0 (by rw [hz1]; decide) none 0 0 n [] w (Nat.le_refl _) (by omega) (by rw [hz2]; omega) (by omega) (by simp) (fun _ => rfl) (fun a ha => by cases ha)).mono ?_
    rintro e w' ⟨rfl, rfl⟩
    have hge := grownCap_ge w (0 + n) 0 (Tryz.growS_ren.t 25)
    have hcm := grownCap_le_maxLen w (0 + n) 0 (Tryz.growS_ren.t 25) (by unfold maxLen; omega)
    generalize hK : grownCap w (0 + n) 0 (Tryz.growS_ren.t 25) = K at hge hcm ⊢
    have hzl : (([] : List Value).toArray ++ Builtin.zeroCells #[Value.string ⟨#[]⟩] (0 + n - 0) ++ Builtin.zeroCells #[Value.string ⟨#[]⟩] (K - (0 + n))).toList.length = K := by
      rw [Array.toList_append, List.length_append, Array.toList_append, List.length_append, zlen, zlen]
      simp
      omega
    refine ⟨_, rfl, ⟨fun c hc => by (cases hc), .inr ⟨w.heap.size, K, _, rfl, (heap_alloc_new w.drew _).trans (congrArg (fun z : Array Value => some (Obj.cells z 9 (0, 0))) (Array.toArray_toList (xs := _)).symm), Nat.zero_le _, ?_, hcm⟩⟩, fun b hb => Nat.le_of_eq (Option.some.inj hb), ?_⟩
    · show _ ≤ 0 + _
      rw [Nat.zero_add]
      exact Nat.le_of_eq hzl.symm
    · exact below_alloc ((Below.refl w.heap.size w).drew) _

theorem Ls.src {P : Program} {w : World} {G : Nat → Prop} {t e' : TypeId} {v : Value} {xs : List ByteArray} (h : Ls w G v xs) (ht : P.underlying t = some (.slice e')) : Src P 1 t v xs.length (cS xs) w := by
  obtain ⟨A, c, rfl, h1, h2, h3⟩ := h
  by_cases h0 : 0 < xs.length
  · obtain ⟨b, o, rfl, _, _, hc⟩ := h3 h0
    refine Src.ofSlice _ ht ⟨b, o, none⟩ xs.length c (cS xs) (by simp [cS]) (fun j u hu => ?_) cS_one
    rw [Addr.add_lit]
    simp only [cS, List.getElem?_map, Option.map_eq_some_iff] at hu
    obtain ⟨x, hx, rfl⟩ := hu
    exact hc j x hx
  · have hx : xs = [] := List.eq_nil_of_length_eq_zero (by omega)
    subst hx
    cases A with
    | none => exact Src.ofNil _ ht c
    | some a => exact Src.ofSlice _ ht a 0 c [] rfl (fun j u hu => by simp at hu) (by simp)

theorem take_flat {α : Type} {l : List (List α)} {j : Nat} {x : List α} (h : l[j]? = some x) : (l.take (j + 1)).flatten = (l.take j).flatten ++ x := by
  obtain ⟨hj, rfl⟩ := List.getElem?_eq_some_iff.1 h
  rw [List.take_succ_eq_append_getElem hj, List.flatten_append]
  simp
theorem take_flat_le {α : Type} (l : List (List α)) (j : Nat) : (l.take j).flatten.length ≤ l.flatten.length := by
  have := congrArg (fun l => (List.flatten l).length) (List.take_append_drop j l)
  simp only [List.flatten_append, List.length_append] at this
  omega

set_option maxRecDepth 100000 in
set_option maxHeartbeats 1000000 in
theorem concat_any {w : World} {G : Nat → Prop} {b : Nat} {rows : List Value} {xss : List (List ByteArray)} (hn : rows.length = xss.length) (hbl : b < w.heap.size) (hc : ∀ (k : Nat) v, rows[k]? = some v → w.cell? ⟨b, k, none⟩ = some v)
    (hl : ∀ (k : Nat) (v : Value) xs, rows[k]? = some v → xss[k]? = some xs → Ls w G v xs) (hs : xss.flatten.length ≤ 1000000000) (hm : rows.length ≤ 1000) :
    Calls Tryz.prog 165 #[.slice (some ⟨b, 0, none⟩) rows.length rows.length] w (OwnPost w.heap.size w xss.flatten) := by
  obtain ⟨i0, hi0, hz0, hz1, hz2⟩ := info_parts infoS
  have HINF := Lib.hid (And.intro hi0 (And.intro hz0 (And.intro hz1 hz2)))
  have HC := Lib.hid hc
  have HL := Lib.hid hl
  have HBL := Lib.hid hbl
  obtain ⟨tot, htot⟩ : ∃ tot : Nat → Nat, ∀ k, tot k = (xss.take k).flatten.length := ⟨_, fun _ => rfl⟩
  have HTOT := Lib.hid htot
  have htn : tot rows.length = xss.flatten.length := by rw [htot, hn, List.take_length]
  have HG := Lib.hid (grow_nil w xss.flatten.length hs)
  rw [← htn] at HG
  have HHS := Lib.hid hs
  obtain ⟨N, hN⟩ : ∃ N, N = rows.length := ⟨_, rfl⟩
  rw [← hN] at hm HG ⊢
  have HN := Lib.hid (And.intro hN hn)
  clear hi0 hz0 hz1 hz2 hc hl hN hn hbl htot htn hs
  go_enter Tryz.func165, Tryz.ntmps165
  go_wp2
  go_loopw [3, 11] (fun v3 v11 wr => ∃ k : Nat, v11 = .int .i64 k ∧ k ≤ N ∧ v3 = .int .i64 (tot k : Nat) ∧ w = wr) (fun _ v11 _ => N - (intOf v11).toNat)
  case atStart => exact ⟨0, rfl, Nat.zero_le _, by rw [HTOT.out]; rfl, rfl⟩
  case round =>
    obtain ⟨k, rfl, hk, rfl, rfl⟩ := hrel
    by_cases hlt : k < N
    · obtain ⟨v, hv⟩ : ∃ v, rows[k]? = some v := ⟨_, List.getElem?_eq_getElem (by rw [← HN.out.1]; exact hlt)⟩
      obtain ⟨xs, hx⟩ : ∃ xs, xss[k]? = some xs := ⟨_, List.getElem?_eq_getElem (by rw [← HN.out.2, ← HN.out.1]; exact hlt)⟩
      have hcell := HC.out k v hv
      obtain ⟨A, c, rfl, _⟩ := HL.out k v xs hv hx
      have h1 := take_flat hx
      have h2 := take_flat_le xss (k + 1)
      have h3 : tot (k + 1) = tot k + xs.length := by rw [HTOT.out, HTOT.out, h1, List.length_append]
      have h4 : tot k + xs.length ≤ 1000000000 := by rw [← h3, HTOT.out]; exact Nat.le_trans h2 HHS.out
      have H3 := Lib.hid (And.intro hlt h3)
      have hlt' : (k : Int) < N := by omega
      clear hv hx h1 h2 h3 hlt
      go_wp2
      go_roundw
      case rel => exact ⟨k + 1, by go_num, H3.out.1, by rw [H3.out.2]; go_num, by trivial⟩
      case measure => have := H3.out.1; simp [intOf]; omega
    · obtain rfl : k = N := by omega
      have hlt' : ¬ (k : Int) < k := by omega
      clear hlt
      have htk : xss.take k = xss := List.take_of_length_le (by rw [← HN.out.2, ← HN.out.1]; exact Nat.le_refl _)
      go_wp2_with (go_at_call 178; refine HG.out.mono ?_; rintro e w2 ⟨v2, rfl, h21, h22, h23⟩; have H2 := Lib.hid (And.intro h21 (And.intro h22 h23)); clear h21 h22 h23)
      go_loopw [6, 27] (fun v6 v27 wr => ∃ j : Nat, v27 = .int .i64 j ∧ j ≤ k ∧ Own w.heap.size w wr v6 (xss.take j).flatten) (fun _ v27 _ => k - (intOf v27).toNat)
      case atStart => exact ⟨0, rfl, Nat.zero_le _, H2.out.1, H2.out.2.1, H2.out.2.2⟩
      case round =>
        obtain ⟨j, rfl, hj, hrw, hrN, hbl⟩ := hrel
        obtain ⟨A0, c0, hv0, hl0, hm0, _⟩ := hrw.slice
        rw [cS_len, ← HTOT.out] at hv0 hl0
        subst hv0
        unfold maxLen at hm0
        have HRW := Lib.hid hrw
        have HRN := Lib.hid hrN
        have HBl := Lib.hid hbl
        clear hrw hrN hbl
        by_cases hlt : j < k
        · obtain ⟨v, hv⟩ : ∃ v, rows[j]? = some v := ⟨_, List.getElem?_eq_getElem (by rw [← HN.out.1]; exact hlt)⟩
          obtain ⟨xs, hx⟩ : ∃ xs, xss[j]? = some xs := ⟨_, List.getElem?_eq_getElem (by rw [← HN.out.2, ← HN.out.1]; exact hlt)⟩
          have hcell := (World.cell?_of_block (w := w) (w' := wr) (a := ⟨b, j, none⟩) (HBl.out.block b HBL.out)).trans (HC.out j v hv)
          have hls := (HL.out j v xs hv hx).step (w' := wr) HBl.out.size (fun b' hb' _ => HBl.out.block b' hb')
          obtain ⟨A, c, rfl, _⟩ := id hls
          have h1 := take_flat hx
          have h2 := take_flat_le xss (j + 1)
          have h3 : tot (j + 1) = tot j + xs.length := by rw [HTOT.out, HTOT.out, h1, List.length_append]
          have h4 : tot j + xs.length ≤ 1000000000 := by rw [← h3, HTOT.out]; exact Nat.le_trans h2 HHS.out
          have H4 := Lib.hid h4
          have H3 := Lib.hid (And.intro hlt h1)
          have HLS := Lib.hid hls
          have hlt' : (j : Int) < k := by omega
          clear hv hx h1 h2 h3 h4 hlt hls
          go_wp2_with (at_builtin; refine wpList_append_rw (v := .slice A0 (tot j) c0) (cs := cS (xss.take j).flatten) _ rfl _ _ 23 23 rfl 9 i0 (.string ⟨#[]⟩) 16 Tryz.underlying23 HINF.out.1 HINF.out.2.1 HINF.out.2.2.1 HINF.out.2.2.2 rfl rfl HRW.out (.slice A xs.length c) xs.length (cS xs) rfl (HLS.out.src Tryz.underlying23) ?c1 ?c2 ?_; rotate_left 2; intro v1 w1 hr1 hg1 ha1; have HR1 := Lib.hid hr1; have HG1 := Lib.hid hg1; have HA1 := Lib.hid ha1; clear hr1 hg1 ha1)
          case c1 => rw [cS_len, ← HTOT.out]; have := H4.out; omega
          case c2 => rw [cS_len, ← HTOT.out]; have := H4.out; omega
          have h5 := HR1.out
          rw [show cS (xss.take j).flatten ++ cS xs = cS (xss.take (j + 1)).flatten by rw [H3.out.2]; simp [cS]] at h5
          have h6 : ∀ b, v1.ownBlock = some b → w.heap.size ≤ b := HA1.out.from HRN.out HBl.out.size
          have h7 : Below w.heap.size w w1 := HBl.out.grown HG1.out HBl.out.size HRN.out
          have H5 := Lib.hid (And.intro h5 (And.intro h6 h7))
          clear h5 h6 h7
          go_roundw
          case rel => first | exact ⟨j + 1, by go_num, H3.out.1, H5.out.1, H5.out.2.1, H5.out.2.2⟩ | ((repeat apply Exists.intro); exact ⟨⟨j + 1, by go_num, H3.out.1, H5.out.1, H5.out.2.1, H5.out.2.2⟩, rfl⟩)
          case measure => have := H3.out.1; simp [intOf]; omega
        · obtain rfl : j = k := by omega
          have hlt' : ¬ (j : Int) < j := by omega
          clear hlt
          go_wp2
          go_ret
          have h9 := HRW.out
          rw [htk] at h9
          exact ⟨_, rfl, htk ▸ HRW.out, HRN.out, HBl.out⟩
end Go.Proofs.YtdhemdeapphfoaaGreatDoor

/- buf's Move, walked. -/
set_option linter.unusedVariables false
set_option linter.unusedSimpArgs false
namespace Go.Proofs.YtdhemdeapphfoaaGreatDoor
open Go.RowKit Go.Shelf Go.Maps Go.Proofs.YtdhemdeapphfoaaGreatDoorW.PrintWords Go.Proofs.YtdhemdeapphfoaaGreatDoorW.PrintLast

theorem move_mk {w : World} {F : Nat → Prop} {p n : Nat} {f : Int → Int} (h : Mk w F p n f) (hn : n < maxLen) (x y z : Int) :
    Calls Tryz.prog 166 #[.pointer (some ⟨p, 0, none⟩), .int .i64 x, .int .i64 y, .int .i64 z] w fun e w' => e = .returned (.tuple #[]) ∧ Mk w' F p n (movF f x y z) ∧ Chg F w w' := by
  obtain ⟨mb, h1, h2, h3, h4, h5⟩ := h
  refine (move_any p mb n f x y z w h4 h3 h5 hn).mono ?_
  rintro e w' ⟨rfl, hg, hm⟩
  refine ⟨rfl, ⟨mb, h1, h2, h3, (World.cell?_of_block (a := ⟨p, 0, none⟩) (hg.block p (cell_lt h4) (fun e => h3 (Option.some.inj e)))).trans h4, hm.congr fun y _ _ => ?_⟩, (Chg.refl F w).grown hg fun i hi => Option.some.inj hi ▸ h2⟩
  unfold movF
  split <;> rfl

/-- the lines from low on, k of them, turned round at cut -/
def rot (ls : List ByteArray) (low k cut : Nat) : List ByteArray := ((ls.drop low).take k).drop cut ++ ((ls.drop low).take k).take cut
def moveS (s : Bs) (p q c : Int) (low k cut : Nat) : Bs := { changeS s low k (rot s.ls low k cut) with mar := movF s.mar p q c }

theorem Rw.ls_drop {w : World} {g n c : Nat} {xs : List ByteArray} (h : Rw w 9 (.slice (some ⟨g, 0, none⟩) n c) (cS xs)) {k : Nat} (hk : k ≤ n) : Ls w (fun _ => True) (.slice (some ⟨g, k, none⟩) (n - k) (c - k)) (xs.drop k) := by
  obtain ⟨h1, h2, h3⟩ := h.len
  rw [cS_len] at h1
  refine ⟨some ⟨g, k, none⟩, c - k, by rw [List.length_drop, h1], by rw [List.length_drop]; omega, by unfold maxLen at *; omega, fun h0 => ⟨g, k, rfl, trivial, h.lt g rfl, fun j x hx => ?_⟩⟩
  rw [List.getElem?_drop] at hx
  exact h.cell (cS_at hx)
theorem Rw.ls_take {w : World} {g n c : Nat} {xs : List ByteArray} (h : Rw w 9 (.slice (some ⟨g, 0, none⟩) n c) (cS xs)) {k : Nat} (hk : k ≤ n) : Ls w (fun _ => True) (.slice (some ⟨g, 0, none⟩) k c) (xs.take k) := by
  obtain ⟨h1, h2, h3⟩ := h.len
  rw [cS_len] at h1
  refine ⟨some ⟨g, 0, none⟩, c, by rw [List.length_take, Nat.min_eq_left (by omega)], by rw [List.length_take]; omega, h3, fun h0 => ⟨g, 0, rfl, trivial, h.lt g rfl, fun j x hx => ?_⟩⟩
  rw [List.length_take] at h0
  obtain ⟨hj, _⟩ := List.getElem?_eq_some_iff.1 hx
  rw [List.length_take] at hj
  rw [List.getElem?_take_of_lt (by omega)] at hx
  rw [Nat.zero_add]
  exact h.cell (cS_at hx)

theorem rot_length {ls : List ByteArray} {low k cut : Nat} (h : low + k ≤ ls.length) : (rot ls low k cut).length = k := by
  have e : ((ls.drop low).take k).length = k := by
    rw [List.length_take, List.length_drop]
    omega
  unfold rot
  rw [List.length_append, List.length_drop, e, List.length_take, e]
  omega
theorem rot_mem {ls : List ByteArray} {low k cut : Nat} {x : ByteArray} (h : x ∈ rot ls low k cut) : x ∈ ls := by
  unfold rot at h
  rcases List.mem_append.1 h with h | h
  · exact List.mem_of_mem_drop (List.mem_of_mem_take (List.mem_of_mem_drop h))
  · exact List.mem_of_mem_drop (List.mem_of_mem_take (List.mem_of_mem_take h))
theorem concat_rot {w w' : World} {g c b k cut : Nat} {xs : List ByteArray} (h : Rw w 9 (.slice (some ⟨g, 0, none⟩) k c) (cS xs)) (hcut : cut ≤ k) (hk : k ≤ 1000000) (hb : Below w.heap.size w w') (hc : w'.heap[b]? = some (.cells #[.slice (some ⟨g, cut, none⟩) (k - cut) (c - cut), .slice (some ⟨g, 0, none⟩) cut c] 23 (0, 0))) :
    Calls Tryz.prog 165 #[.slice (some ⟨b, 0, none⟩) 2 2] w' (OwnPost w'.heap.size w' (xs.drop cut ++ xs.take cut)) := by
  have hl : k = xs.length := by
    have := h.len.1
    rwa [cS_len] at this
  have h' := h.below hb
  have := concat_any (w := w') (G := fun _ => True) (b := b) (rows := [.slice (some ⟨g, cut, none⟩) (k - cut) (c - cut), .slice (some ⟨g, 0, none⟩) cut c]) (xss := [xs.drop cut, xs.take cut]) rfl (blk_lt hc)
    (fun j v hj => by
      match j, hj with
      | 0, hj => cases hj; rw [blk_cell hc]; rfl
      | 1, hj => cases hj; rw [blk_cell hc]; rfl)
    (fun j v ys hj hy => by
      match j, hj, hy with
      | 0, hj, hy => cases hj; cases hy; exact h'.ls_drop hcut
      | 1, hj, hy => cases hj; cases hy; exact h'.ls_take hcut)
    (by simp; omega) (by simp)
  simpa using this

theorem concat_rot' {w w' : World} {g c b k cut low : Nat} {ls : List ByteArray} (h : Rw w 9 (.slice (some ⟨g, 0, none⟩) k c) (cS ((ls.drop low).take k))) (hcut : cut ≤ k) (hk : k ≤ 1000000) (hb : Below w.heap.size w w') (hc : w'.heap[b]? = some (.cells #[.slice (some ⟨g, cut, none⟩) (k - cut) (c - cut), .slice (some ⟨g, 0, none⟩) cut c] 23 (0, 0))) :
    Calls Tryz.prog 165 #[.slice (some ⟨b, 0, none⟩) 2 2] w' (OwnPost w'.heap.size w' (rot ls low k cut)) := concat_rot h hcut hk hb hc

section
variable {N0 : Nat} {w0 : Base} {w w' : World} {col : Nat → Nat} {B T p1 U : Nat} {s : Bs} {vl vm vo : Value} {L : List DV}
set_option maxRecDepth 100000 in
set_option maxHeartbeats 2000000 in
theorem bmove_any (h : Bf N0 w0 w B s) {p q c low high k cut : Nat} (h1 : 1 ≤ p) (h2 : p ≤ q) (h3 : q ≤ s.ls.length) (h4 : c ≤ s.ls.length) (e1 : min (p : Int) ((c : Int) + 1) = (low : Int) + 1) (e2 : max (q : Int) (c : Int) = high) (e3 : high = low + k) (hcut : (q < c ∧ q = low + cut) ∨ (c + 1 < p ∧ p = low + 1 + cut)) (hck : cut < k) (hk : 0 < k) (hkl : low + k ≤ s.ls.length)
    (hsl : s.ls.length ≤ 1000000) (hx : ∀ x ∈ s.ls, x.size ≤ 1000000000) (ho : s.opn.length ≤ 1000000) (hnm : s.nm < maxLen) :
    Calls Tryz.prog 145 #[.pointer (some ⟨B, 0, none⟩), .int .i64 p, .int .i64 q, .int .i64 c] w (BfPost N0 w0 B (moveS s p q c low k cut) (.int .u16 0)) := by
  obtain ⟨col, T, p1, U, vl, vm, vo, L, h⟩ := h
  have k0 : w.cell? ⟨B, 0, none⟩ = some (.pointer (some ⟨T, 0, none⟩)) := by rw [blk_cell h.box]; rfl
  have hlen : ∀ W, Below w.heap.size w W → Calls Tryz.prog 22 #[.pointer (some ⟨T, 0, none⟩)] W fun e w' => e = .returned (.int .i64 s.ls.length) ∧ ∃ n, w' = W.drewN n := fun W hb => len_is (h.tree.step (fun b hl hf => hb.block b hl))
  have HL := Lib.hid hlen
  have hpart : ∀ W, Below w.heap.size w W → Calls Tryz.prog 123 #[.pointer (some ⟨T, 0, none⟩), .int .i64 low, .int .i64 k] W (PartPost W.heap.size W ((s.ls.drop low).take k)) := fun W hb => Part_any (h.tree.step (fun b hl hf => hb.block b hl)) hkl (by omega)
  have HP := Lib.hid hpart
  have HH := Lib.hid h
  have HX := Lib.hid hx
  have hlk : ((s.ls.drop low).take k).length = k := by rw [List.length_take, List.length_drop]; omega
  have HLK := Lib.hid hlk
  have c1 : ¬ ((p : Int) < 1) := by omega
  have c2 : ¬ ((q : Int) < p) := by omega
  have c3 : ¬ ((s.ls.length : Int) < q) := by omega
  have c4 : ¬ ((c : Int) < 0) := by omega
  have c5 : ¬ ((s.ls.length : Int) < c) := by omega
  clear h hx hpart hlk hlen
  rcases hcut with hcut | hcut
  · obtain ⟨d1, d2⟩ := hcut
    have d3 : (q : Int) < c := by omega
    have d4 : ¬ ((c : Int) < p) := by omega
    have d5 : ¬ ((c : Int) < q) := by omega
    have d6 : (q : Int) - ((low : Int) + 1) + 1 = cut := by omega
    clear d2
    go_enter Tryz.func145, Tryz.ntmps145
    go_wp2_with (first
      | (go_at_call 22; refine (HL.out _ (Below.refl _ _)).mono ?_; rintro e wa ⟨rfl, n1, rfl⟩)
      | (go_at_call 22; refine (HL.out _ (below_drewN w _)).mono ?_; rintro e wa ⟨rfl, n2, rfl⟩))
    rw [show ((low : Int) + k - (low + 1) + 1) = k by omega]
    refine (HP.out _ (below_drewN w _)).mono ?_
    rintro e w3 ⟨v3, rfl, h31, h32, h33⟩
    obtain ⟨A3, c3, hv3, hk3, hm3, hA3⟩ := h31.slice
    rw [cS_len, HLK.out] at hv3 hk3 hA3
    obtain ⟨g, rfl⟩ := hA3 hk
    subst hv3
    have b3 := (HH.out.onNew 9 (by decide) (below_drewN w (n1 + n2))).onNew 9 (by decide) h33
    have H3 := Lib.hid (And.intro b3 h31)
    clear b3 h31 h32 h33 hA3
    unfold maxLen at hm3
    have hck' : (cut : Int) ≤ k := by omega
    have hk3' : (k : Int) ≤ c3 := by omega
    have hck3 : (cut : Int) ≤ c3 := by omega
    have hcc : ¬ (c3 = cut) := by omega
    have hck0 : cut ≤ k := by omega
    go_wp2_with fail
    go_region_held3 (fun _ => True) (trivial) (first
      | (go_at_call 165; refine (concat_rot' H3.out.2 hck0 (by omega) (below_alloc (Below.refl _ w3) _).drew (heap_alloc_new w3 _)).mono ?_; rintro e w5 ⟨v5, rfl, h51, h52, h53⟩; obtain ⟨A5, c5, hv5, _⟩ := h51.slice; rw [cS_len, rot_length hkl] at hv5; subst hv5; have b5 := (H3.out.1.onNew 9 (by decide) (below_alloc (Below.refl _ w3) _).drew).onNew 8 (by decide) h53; have o5 := (loc_ls _ _).fresh (col := recol (recol (recol col w.heap.size 9) (w.drewN (n1 + n2)).heap.size 9) w3.heap.size 9) (i := 8) ((Ls.of_rw h51).wide fun b _ hb => h52 b hb); have H5 := Lib.hid (And.intro b5 o5); clear b5 o5 h51 h52 h53)
      | (go_at_call 82; refine (change_any H5.out.1 H5.out.2 (i := low) (k := k) rfl hkl (by have := rot_length (cut := cut) hkl; omega) (fun x hxx => HX.out x (rot_mem hxx)) ho).mono ?_; rintro e w6 ⟨rfl, col6, T6, p6, U6, vl6, vm6, vo6, L6, b6⟩; have H6 := Lib.hid b6; clear b6))
    have b6 := H6.out
    have k4 : w6.cell? ⟨B, 4, none⟩ = some (.pointer (some ⟨p6, 0, none⟩)) := by rw [blk_cell b6.box]; rfl
    have HM := Lib.hid (move_mk ((loc_mk _ _ _).open b6.mar) hnm)
    clear b6
    go_wp2_with (go_at_call 166; refine (HM.out _ _ _).mono ?_; rintro e w7 ⟨rfl, h71, h72⟩)
    go_ret
    exact ⟨rfl, _, _, _, _, _, _, _, _, H6.out.onMarks h72 h71⟩
  · obtain ⟨d1, d2⟩ := hcut
    have d3 : (c : Int) + 1 < p := by omega
    have d4 : ((c : Int) < p) := by omega
    have d5 : ¬ ((q : Int) < c) := by omega
    have d6 : (p : Int) - ((low : Int) + 1) = cut := by omega
    clear d2
    go_enter Tryz.func145, Tryz.ntmps145
    go_wp2_with (first
      | (go_at_call 22; refine (HL.out _ (Below.refl _ _)).mono ?_; rintro e wa ⟨rfl, n1, rfl⟩)
      | (go_at_call 22; refine (HL.out _ (below_drewN w _)).mono ?_; rintro e wa ⟨rfl, n2, rfl⟩))
    rw [show ((low : Int) + k - (low + 1) + 1) = k by omega]
    refine (HP.out _ (below_drewN w _)).mono ?_
    rintro e w3 ⟨v3, rfl, h31, h32, h33⟩
    obtain ⟨A3, c3, hv3, hk3, hm3, hA3⟩ := h31.slice
    rw [cS_len, HLK.out] at hv3 hk3 hA3
    obtain ⟨g, rfl⟩ := hA3 hk
    subst hv3
    have b3 := (HH.out.onNew 9 (by decide) (below_drewN w (n1 + n2))).onNew 9 (by decide) h33
    have H3 := Lib.hid (And.intro b3 h31)
    clear b3 h31 h32 h33 hA3
    unfold maxLen at hm3
    have hck' : (cut : Int) ≤ k := by omega
    have hk3' : (k : Int) ≤ c3 := by omega
    have hck3 : (cut : Int) ≤ c3 := by omega
    have hcc : ¬ (c3 = cut) := by omega
    have hck0 : cut ≤ k := by omega
    go_wp2_with fail
    go_region_held3 (fun _ => True) (trivial) (first
      | (go_at_call 165; refine (concat_rot' H3.out.2 hck0 (by omega) (below_alloc (Below.refl _ w3) _).drew (heap_alloc_new w3 _)).mono ?_; rintro e w5 ⟨v5, rfl, h51, h52, h53⟩; obtain ⟨A5, c5, hv5, _⟩ := h51.slice; rw [cS_len, rot_length hkl] at hv5; subst hv5; have b5 := (H3.out.1.onNew 9 (by decide) (below_alloc (Below.refl _ w3) _).drew).onNew 8 (by decide) h53; have o5 := (loc_ls _ _).fresh (col := recol (recol (recol col w.heap.size 9) (w.drewN (n1 + n2)).heap.size 9) w3.heap.size 9) (i := 8) ((Ls.of_rw h51).wide fun b _ hb => h52 b hb); have H5 := Lib.hid (And.intro b5 o5); clear b5 o5 h51 h52 h53)
      | (go_at_call 82; refine (change_any H5.out.1 H5.out.2 (i := low) (k := k) rfl hkl (by have := rot_length (cut := cut) hkl; omega) (fun x hxx => HX.out x (rot_mem hxx)) ho).mono ?_; rintro e w6 ⟨rfl, col6, T6, p6, U6, vl6, vm6, vo6, L6, b6⟩; have H6 := Lib.hid b6; clear b6))
    have b6 := H6.out
    have k4 : w6.cell? ⟨B, 4, none⟩ = some (.pointer (some ⟨p6, 0, none⟩)) := by rw [blk_cell b6.box]; rfl
    have HM := Lib.hid (move_mk ((loc_mk _ _ _).open b6.mar) hnm)
    clear b6
    go_wp2_with (go_at_call 166; refine (HM.out _ _ _).mono ?_; rintro e w7 ⟨rfl, h71, h72⟩)
    go_ret
    exact ⟨rfl, _, _, _, _, _, _, _, _, H6.out.onMarks h72 h71⟩
end
end Go.Proofs.YtdhemdeapphfoaaGreatDoor

/- buf's Move where it does nothing; Commit of nothing; Undo at the first state. -/
set_option linter.unusedVariables false
set_option linter.unusedSimpArgs false
namespace Go.Proofs.YtdhemdeapphfoaaGreatDoor
open Go.RowKit Go.Shelf Go.Maps Go.Proofs.YtdhemdeapphfoaaGreatDoorW.PrintWords Go.Proofs.YtdhemdeapphfoaaGreatDoorW.PrintLast

section
variable {N0 : Nat} {w0 : Base} {w w' : World} {col : Nat → Nat} {B T p1 U : Nat} {s : Bs} {vl vm vo : Value} {L : List DV}
theorem bmove_err (h : Bf N0 w0 w B s) {p q c : Nat} (h1 : 1 ≤ p) (h2 : p ≤ q) (h3 : q ≤ s.ls.length) (h4 : c ≤ s.ls.length) (h5 : p ≤ c) (h6 : c < q) :
    Calls Tryz.prog 145 #[.pointer (some ⟨B, 0, none⟩), .int .i64 p, .int .i64 q, .int .i64 c] w (BfPost N0 w0 B s (.int .u16 160)) := by
  obtain ⟨col, T, p1, U, vl, vm, vo, L, h⟩ := h
  have k0 : w.cell? ⟨B, 0, none⟩ = some (.pointer (some ⟨T, 0, none⟩)) := by rw [blk_cell h.box]; rfl
  have hlen : ∀ W, Below w.heap.size w W → Calls Tryz.prog 22 #[.pointer (some ⟨T, 0, none⟩)] W fun e w' => e = .returned (.int .i64 s.ls.length) ∧ ∃ n, w' = W.drewN n := fun W hb => len_is (h.tree.step (fun b hl hf => hb.block b hl))
  have HL := Lib.hid hlen
  have HH := Lib.hid h
  have c1 : ¬ ((p : Int) < 1) := by omega
  have c2 : ¬ ((q : Int) < p) := by omega
  have c3 : ¬ ((s.ls.length : Int) < q) := by omega
  have c4 : ¬ ((c : Int) < 0) := by omega
  have c5 : ¬ ((s.ls.length : Int) < c) := by omega
  have c6 : (p : Int) ≤ c := by omega
  have c7 : (c : Int) < q := by omega
  clear h hlen
  go_enter Tryz.func145, Tryz.ntmps145
  go_wp2_with (first
    | (go_at_call 22; refine (HL.out _ (Below.refl _ _)).mono ?_; rintro e wa ⟨rfl, n1, rfl⟩)
    | (go_at_call 22; refine (HL.out _ (below_drewN w _)).mono ?_; rintro e wa ⟨rfl, n2, rfl⟩))
  go_ret
  exact ⟨rfl, _, _, _, _, _, _, _, _, HH.out.drewN _⟩
theorem bmove_same (h : Bf N0 w0 w B s) {p q c : Nat} (h1 : 1 ≤ p) (h2 : p ≤ q) (h3 : q ≤ s.ls.length) (h4 : c ≤ s.ls.length) (h5 : c + 1 = p ∨ c = q) (hsl : s.ls.length ≤ 1000000) :
    Calls Tryz.prog 145 #[.pointer (some ⟨B, 0, none⟩), .int .i64 p, .int .i64 q, .int .i64 c] w (BfPost N0 w0 B s (.int .u16 0)) := by
  obtain ⟨col, T, p1, U, vl, vm, vo, L, h⟩ := h
  have k0 : w.cell? ⟨B, 0, none⟩ = some (.pointer (some ⟨T, 0, none⟩)) := by rw [blk_cell h.box]; rfl
  have hlen : ∀ W, Below w.heap.size w W → Calls Tryz.prog 22 #[.pointer (some ⟨T, 0, none⟩)] W fun e w' => e = .returned (.int .i64 s.ls.length) ∧ ∃ n, w' = W.drewN n := fun W hb => len_is (h.tree.step (fun b hl hf => hb.block b hl))
  have HL := Lib.hid hlen
  have HH := Lib.hid h
  have c1 : ¬ ((p : Int) < 1) := by omega
  have c2 : ¬ ((q : Int) < p) := by omega
  have c3 : ¬ ((s.ls.length : Int) < q) := by omega
  have c4 : ¬ ((c : Int) < 0) := by omega
  have c5 : ¬ ((s.ls.length : Int) < c) := by omega
  clear h hlen
  rcases h5 with h5 | h5
  · have c6 : ¬ ((p : Int) ≤ c) := by omega
    have c7 : (p : Int) - 1 = c := by omega
    go_enter Tryz.func145, Tryz.ntmps145
    go_wp2_with (first
      | (go_at_call 22; refine (HL.out _ (Below.refl _ _)).mono ?_; rintro e wa ⟨rfl, n1, rfl⟩)
      | (go_at_call 22; refine (HL.out _ (below_drewN w _)).mono ?_; rintro e wa ⟨rfl, n2, rfl⟩))
    go_ret
    exact ⟨rfl, _, _, _, _, _, _, _, _, HH.out.drewN _⟩
  · subst h5
    have c6 : ((p : Nat) : Int) ≤ c := by omega
    have c7 : ¬ ((c : Int) < c) := by omega
    have c8 : ¬ ((c : Int) = p - 1) := by omega
    go_enter Tryz.func145, Tryz.ntmps145
    go_wp2_with (first
      | (go_at_call 22; refine (HL.out _ (Below.refl _ _)).mono ?_; rintro e wa ⟨rfl, n1, rfl⟩)
      | (go_at_call 22; refine (HL.out _ (below_drewN w _)).mono ?_; rintro e wa ⟨rfl, n2, rfl⟩))
    all_goals
      go_ret
      exact ⟨rfl, _, _, _, _, _, _, _, _, HH.out.drewN _⟩

end
end Go.Proofs.YtdhemdeapphfoaaGreatDoor

/- The law BufMoves: lines that are moved are all there; undone, they are as they were; what is refused changes nothing. -/
set_option linter.unusedVariables false
set_option linter.unusedSimpArgs false
namespace Go.Proofs.YtdhemdeapphfoaaGreatDoor
open Go.RowKit Go.Shelf Go.Maps Go.Proofs.YtdhemdeapphfoaaGreatDoorW.PrintWords Go.Proofs.YtdhemdeapphfoaaGreatDoorW.PrintLast

theorem splice_eq {X Y : List ByteArray} {i k : Nat} : Bt.splice X i k Y = X.take i ++ (Y ++ X.drop (i + k)) := by simp [Bt.splice]
theorem moved_front {X : List ByteArray} {low k cut : Nat} (h : low + k ≤ X.length) (hc : cut ≤ k) : ((Bt.splice X low k (rot X low k cut)).drop low).take (k - cut) = (X.drop (low + cut)).take (k - cut) := by
  have h1 : (X.take low).length = low := by rw [List.length_take]; omega
  have h2 : (((X.drop low).take k).drop cut).length = k - cut := by rw [List.length_drop, List.length_take, List.length_drop]; omega
  rw [splice_eq, List.drop_append_of_le_length (by omega), List.drop_of_length_le (by omega), List.nil_append, rot, List.append_assoc, List.take_append_of_le_length (by omega), List.take_of_length_le (by omega), List.drop_take, List.drop_drop]
theorem moved_back {X : List ByteArray} {low k cut : Nat} (h : low + k ≤ X.length) (hc : cut ≤ k) : ((Bt.splice X low k (rot X low k cut)).drop (low + (k - cut))).take cut = (X.drop low).take cut := by
  have h1 : (X.take low ++ ((X.drop low).take k).drop cut).length = low + (k - cut) := by rw [List.length_append, List.length_take, List.length_drop, List.length_take, List.length_drop]; omega
  have h2 : (((X.drop low).take k).take cut).length = cut := by rw [List.length_take, List.length_take, List.length_drop]; omega
  rw [splice_eq, rot, List.append_assoc, ← List.append_assoc, List.drop_append_of_le_length (by omega), List.drop_of_length_le (by omega), List.nil_append, List.take_append_of_le_length (by omega), List.take_of_length_le (by omega), List.take_take, Nat.min_eq_left hc]

/-- lines out of lines -/
theorem Ls.sub {w : World} {G : Nat → Prop} {g o n c : Nat} {xs : List ByteArray} (h : Ls w G (.slice (some ⟨g, o, none⟩) n c) xs) {i m : Nat} (hj : i + m ≤ n) : Ls w G (.slice (some ⟨g, o + i, none⟩) m (c - i)) ((xs.drop i).take m) := by
  obtain ⟨A, c', e, h1, h2, h3⟩ := h
  injection e with e1 e2 e3
  subst e1 e2 e3
  refine ⟨some ⟨g, o + i, none⟩, c - i, ?_, ?_, by unfold maxLen at *; omega, fun h0 => ?_⟩
  · rw [List.length_take, List.length_drop, Nat.min_eq_left (by omega)]
  · rw [List.length_take, List.length_drop]; omega
  · obtain ⟨b, o', e, hg, hb, hc⟩ := h3 (by rw [List.length_take, List.length_drop] at h0; omega)
    injection e with e
    injection e with e1 e2 _
    subst e1 e2
    refine ⟨g, o + i, rfl, hg, hb, fun k x hm => ?_⟩
    have hm1 : k < m := by
      obtain ⟨h9, _⟩ := List.getElem?_eq_some_iff.1 hm
      rw [List.length_take] at h9
      omega
    rw [List.getElem?_take_of_lt hm1, List.getElem?_drop] at hm
    rw [Nat.add_assoc]
    exact hc _ x hm
theorem Ls.kept {w w' : World} {G : Nat → Prop} {v : Value} {xs : List ByteArray} (h : Ls w G v xs) (hs : ∀ b, b < w.heap.size → G b → b < w'.heap.size ∧ w'.heap[b]? = w.heap[b]?) : Ls w' G v xs := by
  obtain ⟨A, c, hv, h1, h2, h3⟩ := h
  refine ⟨A, c, hv, h1, h2, fun h0 => ?_⟩
  obtain ⟨b, o, ha, hg, hl, hc⟩ := h3 h0
  exact ⟨b, o, ha, hg, (hs b hl hg).1, fun j x hx => (World.cell?_of_block (w := w) (a := ⟨b, o + j, none⟩) (hs b hl hg).2).trans (hc j x hx)⟩
theorem Ls.sub0 {w : World} {G : Nat → Prop} {g n c : Nat} {xs : List ByteArray} (h : Ls w G (.slice (some ⟨g, 0, none⟩) n c) xs) {i m : Nat} (hj : i + m ≤ n) : Ls w G (.slice (some ⟨g, i, none⟩) m (c - i)) ((xs.drop i).take m) := by
  have := h.sub hj
  rwa [Nat.zero_add] at this

section
variable {N0 : Nat} {w0 : Base} {w w' : World} {B : Nat} {s : Bs}
theorem Bf.lines (h : Bf N0 w0 w B s) (hl : s.ls.length ≤ 1000000000) : ∃ T, w.cell? ⟨B, 0, none⟩ = some (.pointer (some ⟨T, 0, none⟩)) ∧ Calls Tryz.prog 12 #[.pointer (some ⟨T, 0, none⟩)] w (OwnPost w.heap.size w s.ls) := by
  obtain ⟨T, k, F, t⟩ := h.len
  exact ⟨T, k, Lines_any t hl⟩
/-- blocks that are new are kept from here on -/
theorem Bf.guard (h : Bf N0 w0 w B s) (hb : Below w.heap.size w w') : Bf N0 ⟨w0.w, fun b => w0.P b ∨ (w.heap.size ≤ b ∧ b < w'.heap.size), w'⟩ w' B s := by
  obtain ⟨col, T, p1, U, vl, vm, vo, L, h⟩ := h
  have k := h.onNew 7 (by decide) hb
  refine ⟨_, T, p1, U, vl, vm, vo, L, { k with prot := ?_, below := k.below }⟩
  intro b hp
  rcases hp with hp | ⟨h1, h2⟩
  · obtain ⟨a1, a2, _⟩ := k.prot b hp
    exact ⟨a1, a2, rfl⟩
  · exact ⟨h2, recol_new h1, rfl⟩
theorem Bf.prot (h : Bf N0 w0 w B s) : ∀ b, w0.P b → b < w.heap.size ∧ w.heap[b]? = w0.z.heap[b]? := fun b hb => by
  obtain ⟨col, T, p1, U, vl, vm, vo, L, h⟩ := h
  exact ⟨(h.prot b hb).1, (h.prot b hb).2.2⟩
end


def m1of (m : Int) (X : List ByteArray) (p q c : Int) (low k cut : Nat) : Bs := moveS (newS m X) p q c low k cut
def m2of (m : Int) (X : List ByteArray) (p q c : Int) (low k cut : Nat) : Bs := commitS (m1of m X p q c low k cut) st0
def m3of (m : Int) (X : List ByteArray) (p q c : Int) (low k cut : Nat) : Bs := undoS (m2of m X p q c low k cut) (st1 X low k (rot X low k cut)) sp1
theorem m3_ls {m : Int} {X : List ByteArray} {p q c : Int} {low k cut : Nat} (hi : low + k ≤ X.length) : (m3of m X p q c low k cut).ls = X := by
  show Bt.splice (Bt.splice X low k (rot X low k cut)) (Int.toNat (low : Int)) (rot X low k cut).length ((X.drop low).take k) = X
  rw [Int.toNat_natCast]
  exact splice_back hi
theorem bounds64 {x : Int} (h : (Lit.int .i64 x).wf = true) : -9223372036854775808 ≤ x ∧ x ≤ 9223372036854775807 := by
  simpa [Lit.wf, IntKind.min, IntKind.max, IntKind.signed, IntKind.bits] using h

theorem iw (n m : Int) (h : n = m) (h1 : -9223372036854775808 ≤ n) (h2 : n ≤ 9223372036854775807) : IntKind.i64.wrap n = m := by
  rw [IntKind.wrap_i64]
  omega
theorem rem_nat (x : Int) {m : Int} (hm : 0 < m) : ∃ a : Nat, max x 0 % m = (a : Int) ∧ (a : Int) < m :=
  ⟨(max x 0 % m).toNat, (Int.toNat_of_nonneg (Int.emod_nonneg _ (by omega))).symm, by rw [Int.toNat_of_nonneg (Int.emod_nonneg _ (by omega))]; exact Int.emod_lt_of_pos _ hm⟩

end Go.Proofs.YtdhemdeapphfoaaGreatDoor
namespace Go.Proofs.YtdhemdeapphfoaaGreatDoor
open Go.RowKit Go.Shelf Go.Maps
end Go.Proofs.YtdhemdeapphfoaaGreatDoor
