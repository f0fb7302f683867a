/- edit's join, walked. -/
import Derived.Test.YtoejfgmfdjoonaaGreatDoorEjC
set_option linter.unusedVariables false
set_option linter.unusedSimpArgs false
namespace Go.Proofs.YtoejfgmfdjoonaaGreatDoor
open Go.RowKit Go.Shelf Go.Maps Go.Proofs.YtoejfgmfdjoonaaGreatDoorW.PrintWords Go.Proofs.YtoejfgmfdjoonaaGreatDoorW.PrintLast

theorem joinAll_snoc (bold : Bool) (s : ByteArray) (l : List ByteArray) (x : ByteArray) : joinAll bold s (l ++ [x]) = joinP (joinAll bold s l) x bold := by
  unfold joinAll
  rw [List.foldl_append]
  rfl

/-- what join answers -/
def JoinP (N0 : Nat) (w0 : Base) (B : Nat) (s : Bs) (i n : Nat) (c : Int) (J : ByteArray) (e : Ending) (w' : World) : Prop :=
  (J.size ≤ 1000 ∧ e = .returned (.int .u16 0) ∧ Bf N0 w0 w' B (putS (spliceS s i n [J]) c)) ∨ (1000 < J.size ∧ e = .returned (.int .u16 90) ∧ Bf N0 w0 w' B s)

section
variable {N0 : Nat} {w0 : Base} {w w' : World} {B : Nat} {s : Bs}
set_option maxRecDepth 100000 in
set_option maxHeartbeats 2000000 in
theorem join_cmd (h : Bf N0 w0 w B s) {W R : Nat} {vr vd : Value} {nm p1 p2 p3 p4 : ByteArray} {bang : Bool} {reg cnt d : Int} {i n : Nat} {f t : Int} (hP : w0.P W) (hw : Wk w0.z W B R vr vd nm p1 p2 p3 p4 bang reg cnt f t d) (hf : f = (i : Int) + 1) (ht : t = (i : Int) + n) (hn : 2 ≤ n) (hi : i + n ≤ s.ls.length) (hl : s.ls.length ≤ 300) (hsz : ∀ x ∈ s.ls, x.size ≤ 1000) (ho : s.opn.length ≤ 1000000) (hnm : s.nm < maxLen) {l0 : ByteArray} {rest : List ByteArray} (hL : (s.ls.drop i).take n = l0 :: rest) :
    Calls Tryz.prog 51 #[.pointer (some ⟨W, 0, none⟩)] w (JoinP N0 w0 B s i n ((i : Int) + 1) (joinAll bang l0 rest)) := by
  have hrl : n = rest.length + 1 := by
    have h1 := congrArg List.length hL
    rw [List.length_take, List.length_drop, List.length_cons] at h1
    omega
  subst hrl
  subst hf ht
  have hwk := h.wk hP hw
  have hWlt := blk_lt hwk
  have hWall : ∀ V, Below w.heap.size w V → V.cell? ⟨W, 2, none⟩ = some (.bool bang) ∧ V.cell? ⟨W, 12, none⟩ = some (.int .i64 ((i : Int) + 1)) := fun V hb => by
    have h9 := (hb.block W hWlt).trans hwk
    exact ⟨by rw [blk_cell h9]; rfl, by rw [blk_cell h9]; rfl⟩
  have HWALL := Lib.hid hWall
  have hmem : ∀ x ∈ l0 :: rest, x.size ≤ 1000 := fun x hx => hsz x (List.mem_of_mem_drop (List.mem_of_mem_take (hL ▸ hx)))
  have HMEM := Lib.hid hmem
  have hll : rest.length + 1 ≤ 300 := by omega
  have HH := Lib.hid h
  have HW := Lib.hid hw
  have HLI := Lib.hid (fun q => hL ▸ lines_any (h.new (below_drewN w q)) (show Wk (w.drewN q) W B R vr vd nm p1 p2 p3 p4 bang reg cnt _ _ d from hwk) rfl rfl hi (by omega))
  have c12 : w.cell? ⟨W, 12, none⟩ = some (.int .i64 ((i : Int) + 1)) := by rw [blk_cell hwk]; rfl
  have c13 : w.cell? ⟨W, 13, none⟩ = some (.int .i64 ((i : Int) + ((rest.length + 1 : Nat) : Int))) := by rw [blk_cell hwk]; rfl
  have c10 : w.cell? ⟨W, 10, none⟩ = some (.pointer (some ⟨B, 0, none⟩)) := by rw [blk_cell hwk]; rfl
  obtain ⟨T, hlen⟩ := h.lenW
  obtain ⟨k0, _⟩ := hlen w (Below.refl _ _)
  have HL := Lib.hid hlen
  have b1 : ((i : Int) + 1 == i + ((rest.length + 1 : Nat) : Int)) = false := by rw [beq_eq_false_iff_ne]; omega
  have b2 : ¬ ((i : Int) + 1 = i + ((rest.length + 1 : Nat) : Int)) := by omega
  have b3 : ¬ ((s.ls.length : Int) < i + ((rest.length + 1 : Nat) : Int)) := by omega
  clear h hw hwk hlen hWall hmem hsz
  go_enter Tryz.func51, Tryz.ntmps51
  go_wp2
  go_quiet (fail)
  go_wp2
  go_region_held3 (fun V => V.cell? ⟨W, 13, none⟩ = some (.int .i64 ((i : Int) + ((rest.length + 1 : Nat) : Int))) ∧ V.cell? ⟨W, 10, none⟩ = some (.pointer (some ⟨B, 0, none⟩)) ∧ V.cell? ⟨B, 0, none⟩ = some (.pointer (some ⟨T, 0, none⟩))) (first | exact ⟨c13, c10, k0⟩ | go_keep) (first | (go_at_call 15; refine (HL.out _ (below_drewN w _)).2.mono ?_; rintro e wa ⟨rfl, n1, rfl⟩))
  go_wp2_with fail
  refine (HLI.out _).mono ?_
  rintro e w2 ⟨v2, rfl, h21, h22, h23⟩
  obtain ⟨A2, c2, hv2', hc2, hm2, hA2⟩ := h21.slice
  rw [cS_len, List.length_cons] at hv2' hc2 hA2
  obtain ⟨g, rfl⟩ := hA2 (by omega)
  have hv2 : v2 = .slice (some ⟨g, 0, none⟩) (rest.length + 1) c2 := hv2'
  clear hv2' hA2
  subst hv2
  unfold maxLen at hm2
  have k1 := h21.cell (j := 0) (u := .string l0) rfl
  have hB2 := below_then (below_drewN w (nq + 1 + n1)) (Nat.le_refl _) h23
  have H2 := Lib.hid (And.intro h21 hB2)
  have hgl := h21.lt g rfl
  have q1 : ¬ (c2 = 1) := by omega
  have q2 : (1 : Int) ≤ c2 := by omega
  have q3 : (1 : Int) ≤ (rest.length : Int) + 1 := by omega
  clear h21 h22 h23 hB2
  go_wp2
  go_loopw [4, 44] (fun v4 v44 wr => ∃ j : Nat, v44 = .int .i64 j ∧ j ≤ rest.length ∧ v4 = .string (joinAll bang l0 (rest.take j)) ∧ Below w2.heap.size w2 wr) (fun _ v44 _ => rest.length - (intOf v44).toNat)
  case atStart => exact ⟨0, rfl, Nat.zero_le _, by simp [joinAll], Below.refl _ _⟩
  case round =>
    obtain ⟨j, rfl, hj, rfl, hbl⟩ := hrel
    have hBr := below_then H2.out.2 H2.out.2.size hbl
    obtain ⟨f2, f12⟩ := HWALL.out wr hBr
    have HBR := Lib.hid (And.intro hbl hBr)
    by_cases hlt : j < rest.length
    · obtain ⟨x, hx⟩ : ∃ x, rest[j]? = some x := ⟨_, List.getElem?_eq_getElem hlt⟩
      have hcell := (World.cell?_of_block (w := w2) (w' := wr) (a := ⟨g, j + 1, none⟩) (hbl.block g hgl)).trans (H2.out.1.cell (j := j + 1) (u := .string x) (cS_at (by rw [List.getElem?_cons_succ]; exact hx)))
      have hcell' : wr.cell? ⟨g, 1 + j, none⟩ = some (.string x) := by rw [Nat.add_comm]; exact hcell
      have hxm : x ∈ rest := List.mem_of_getElem? hx
      have htk : rest.take (j + 1) = rest.take j ++ [x] := by
        obtain ⟨e1, e2⟩ := List.getElem?_eq_some_iff.1 hx
        rw [List.take_succ_eq_append_getElem e1, e2]
      have hJ := joinAll_snoc bang l0 (rest.take j) x
      rw [← htk] at hJ
      have hs1 := joinAll_size bang 1000 (rest.take j) l0 (fun y hy => HMEM.out y (List.mem_cons_of_mem _ (List.mem_of_mem_take hy)))
      have hs2 := HMEM.out l0 (List.mem_cons_self ..)
      have hs3 := HMEM.out x (List.mem_cons_of_mem _ hxm)
      have hs4 : (rest.take j).length ≤ 300 := by rw [List.length_take]; omega
      have hs5 : (joinAll bang l0 (rest.take j)).size ≤ 1000000 := by
        have := Nat.mul_le_mul_right 1001 hs4
        omega
      have hjn := join_any (joinAll bang l0 (rest.take j)) x bang hs5 (by omega)
      rw [← hJ] at hjn
      have HJN := Lib.hid hjn
      have hlt' : (j : Int) < rest.length := by omega
      clear hx hcell hxm htk hJ hs1 hs2 hs3 hs4 hs5 hjn hbl hBr
      go_wp2_with (go_at_call 25; refine (HJN.out wr).mono ?_; rintro e w3 ⟨rfl, hb3⟩; have H3 := Lib.hid (below_then HBR.out.1 HBR.out.1.size hb3); clear hb3)
      go_roundw
      case rel => exact ⟨j + 1, by go_num, by omega, rfl, H3.out⟩
      case measure => simp [intOf]; omega
    · obtain rfl : j = rest.length := by omega
      have hlt' : ¬ ((rest.length : Int) < rest.length) := by omega
      rw [List.take_length]
      clear hbl hBr hlt
      obtain ⟨J, hJ⟩ : ∃ J, joinAll bang l0 rest = J := ⟨_, rfl⟩
      rw [hJ]
      have HJE := Lib.hid hJ
      clear hJ
      have hlsJ : ∀ V : World, V.heap[wr.heap.size]? = some (.cells #[.string J] 9 (0, 0)) → Ls V (fun _ => True) (.slice (some ⟨wr.heap.size, 0, none⟩) 1 1) [J] := fun V hc =>
        ⟨_, _, rfl, Nat.le_refl _, by decide, fun _ => ⟨wr.heap.size, 0, rfl, trivial, blk_lt hc, fun j x hj => by
          match j, hj with
          | 0, hj => cases hj; rw [blk_cell hc]; rfl⟩⟩
      have hsp : sputs s.ls.length (rest.length + 1) [J] = [J] := by
        rw [sputs, if_neg (by simp)]
      by_cases hJ : J.size ≤ 1000
      · have hput : ∀ V : World, Below wr.heap.size wr V → V.heap[wr.heap.size]? = some (.cells #[.string J] 9 (0, 0)) → Calls Tryz.prog 83 #[.pointer (some ⟨W, 0, none⟩), .int .i64 ((i : Int) + 1), .int .i64 ((rest.length + 1 : Nat) : Int), .slice (some ⟨wr.heap.size, 0, none⟩) 1 1, .int .i64 ((i : Int) + 1)] V (BfPost N0 w0 B (putS (spliceS s i (rest.length + 1) [J]) ((i : Int) + 1)) (.int .u16 0)) := fun V hb hc => by
          have := put_ok (HH.out.new (below_then HBR.out.2 HBR.out.2.size hb)) hP HW.out (hlsJ V hc) (i := i) (k := rest.length + 1) (a := (i : Int) + 1) (c := (i : Int) + 1) rfl hi (by simp; omega) (by omega) (by omega) (by unfold isLong; simp; omega) (by omega) (fun x hx => by simp at hx; subst hx; omega) ho hnm
          rw [hsp] at this
          exact this
        have HPUT := Lib.hid hput
        clear hput hlsJ hsp
        go_wp2
        go_region_held3 (fun V => V.cell? ⟨W, 12, none⟩ = some (.int .i64 ((i : Int) + 1))) (first | exact f12 | exact g12 | go_keep) (first | (go_at_call 83; refine (HPUT.out _ (below_alloc (Below.refl _ wr) _).drew (heap_alloc_new wr _)).mono ?_; rintro e w4 ⟨rfl, b4⟩; have g12 : w4.cell? ⟨W, 12, none⟩ = some (.int .i64 ((i : Int) + 1)) := (by rw [blk_cell (b4.wk hP HW.out)]; rfl); have H4 := Lib.hid b4; clear b4))
        go_wp2
        go_ret
        exact .inl ⟨by rw [HJE.out]; exact hJ, rfl, by rw [HJE.out]; exact H4.out⟩
      · have hput : ∀ V : World, Below wr.heap.size wr V → V.heap[wr.heap.size]? = some (.cells #[.string J] 9 (0, 0)) → Calls Tryz.prog 83 #[.pointer (some ⟨W, 0, none⟩), .int .i64 ((i : Int) + 1), .int .i64 ((rest.length + 1 : Nat) : Int), .slice (some ⟨wr.heap.size, 0, none⟩) 1 1, .int .i64 ((i : Int) + 1)] V (BfPost N0 w0 B s (.int .u16 90)) := fun V hb hc => by
          have hbV := HH.out.new (below_then HBR.out.2 HBR.out.2.size hb)
          exact put_long hbV (hbV.wk hP HW.out) (hlsJ V hc) (i := i) (k := rest.length + 1) (a := (i : Int) + 1) (c := (i : Int) + 1) rfl hi (by simp; omega) (by omega) (by unfold isLong; simp; omega)
        have HPUT := Lib.hid hput
        clear hput hlsJ hsp
        go_wp2
        go_region_held3 (fun V => V.cell? ⟨W, 12, none⟩ = some (.int .i64 ((i : Int) + 1))) (first | exact f12 | exact g12 | go_keep) (first | (go_at_call 83; refine (HPUT.out _ (below_alloc (Below.refl _ wr) _).drew (heap_alloc_new wr _)).mono ?_; rintro e w4 ⟨rfl, b4⟩; have g12 : w4.cell? ⟨W, 12, none⟩ = some (.int .i64 ((i : Int) + 1)) := (by rw [blk_cell (b4.wk hP HW.out)]; rfl); have H4 := Lib.hid b4; clear b4))
        go_wp2
        go_ret
        exact .inr ⟨by rw [HJE.out]; omega, rfl, H4.out⟩
end
end Go.Proofs.YtoejfgmfdjoonaaGreatDoor
