import Derived.Test.YtiddfimaenjdcaaGreatDoorAdX
set_option linter.unusedVariables false
set_option linter.unusedSimpArgs false

/- addr's eye: the line of an address; walked. -/
set_option linter.unusedVariables false
set_option linter.unusedSimpArgs false
namespace Go.Proofs.YtiddfimaenjdcaaGreatDoor
open Go.RowKit Go.Shelf Go.Maps Go.Proofs.YtiddfimaenjdcaaGreatDoorW.PrintWords Go.Proofs.YtiddfimaenjdcaaGreatDoorW.PrintLast

/-- an eye on a text -/
def Eye (w : World) (Y B : Nat) (h : Int) : Prop := w.heap[Y]? = some (.cells #[.pointer (some ⟨B, 0, none⟩), .int .i64 h, .string ⟨#[]⟩, .string ⟨#[]⟩, .bool false] 67 (0, 0))
theorem Eye.new {w w' : World} {Y B : Nat} {h : Int} (k : Eye w Y B h) (hb : Below w.heap.size w w') : Eye w' Y B h := (hb.block Y (blk_lt k)).trans k
def LinePost (w : World) (x : Int × Int) (e : Ending) (w' : World) : Prop := e = .returned (.tuple #[.int .i64 x.1, .int .u16 x.2]) ∧ Below w.heap.size w w'
/-- what an address says: its line, an error -/
def lnV (s : Bs) (a : Ad) : Int × Int := if a.k = 1 then (a.n, 0) else if a.k = 3 then ((s.ls.length : Nat), 0) else if s.mar a.c = 0 then (0, 100) else (s.mar a.c, 0)
set_option maxRecDepth 100000 in
theorem line_num (w : World) (Y : Nat) (n c o : Int) : Calls Tryz.prog 23 #[.pointer (some ⟨Y, 0, none⟩), adV 1 n c o false] w (LinePost w (n, 0)) := by
  have hA := heap_alloc_new w (adO 1 n c o false)
  have HB := Lib.hid (below_alloc (Below.refl w.heap.size w) (adO 1 n c o false))
  obtain ⟨_, p0, p1, p2, p3, p4, p5⟩ := ad_old hA
  clear hA
  go_enter Tryz.func23, Tryz.ntmps23
  go_wp2
  first | rw [Exit.noGoto_ret] | skip
  go_ret2
  exact ⟨rfl, HB.out⟩
set_option maxRecDepth 100000 in
set_option maxHeartbeats 1000000 in
theorem line_end {N0 : Nat} {w0 : Base} {w : World} {Y B : Nat} {h : Int} {s : Bs} (hb : Bf N0 w0 w B s) (hy : Eye w Y B h) (n c o : Int) : Calls Tryz.prog 23 #[.pointer (some ⟨Y, 0, none⟩), adV 3 n c o false] w (LinePost w ((s.ls.length : Nat), 0)) := by
  have hA := heap_alloc_new w (adO 3 n c o false)
  have hbl := below_alloc (Below.refl w.heap.size w) (adO 3 n c o false)
  have hb1 := hb.new hbl
  have hy1 := hy.new hbl
  obtain ⟨T, c0, F, ht⟩ := hb1.len
  have k0 : (w.alloc (adO 3 n c o false)).cell? ⟨Y, 0, none⟩ = some (.pointer (some ⟨B, 0, none⟩)) := by rw [blk_cell hy1]; rfl
  obtain ⟨_, p0, p1, p2, p3, p4, p5⟩ := ad_old hA
  have HL := Lib.hid (len_is ht)
  have HB := Lib.hid hbl
  clear hA hb hy hb1 hy1 ht hbl
  go_enter Tryz.func23, Tryz.ntmps23
  go_wp2_with (first
    | (go_at_call 24; refine HL.out.mono ?_; rintro e w3 ⟨rfl, q, rfl⟩))
  first | rw [Exit.noGoto_ret] | skip
  go_ret2
  exact ⟨rfl, below_then HB.out HB.out.size (below_drewN _ q)⟩
theorem marks_at {w : World} {B p1 : Nat} (k4 : w.cell? ⟨B, 4, none⟩ = some (.pointer (some ⟨p1, 0, none⟩))) : Calls Tryz.prog 12 #[.pointer (some ⟨B, 0, none⟩)] w fun e w' => e = .returned (.pointer (some ⟨p1, 0, none⟩)) ∧ w' = w := by
  go_enter Tryz.func12, Tryz.ntmps12
  go_wp2
  go_ret
  exact ⟨rfl, rfl⟩
set_option maxRecDepth 100000 in
set_option maxHeartbeats 1000000 in
theorem line_mark {N0 : Nat} {w0 : Base} {w : World} {Y B : Nat} {h : Int} {s : Bs} (hb : Bf N0 w0 w B s) (hy : Eye w Y B h) (n c o : Int) (hc : 0 ≤ c ∧ c ≤ 255) : Calls Tryz.prog 23 #[.pointer (some ⟨Y, 0, none⟩), adV 4 n c o false] w (LinePost w (if s.mar c = 0 then (0, 100) else (s.mar c, 0))) := by
  have hA := heap_alloc_new w (adO 4 n c o false)
  have hbl := below_alloc (Below.refl w.heap.size w) (adO 4 n c o false)
  have hb1 := hb.new hbl
  have hy1 := hy.new hbl
  obtain ⟨col, T, p1, U, vl, vm, vo, L, h1⟩ := hb1
  obtain ⟨mb, _, _, _, m0, hm⟩ := h1.mar
  have k0 : (w.alloc (adO 4 n c o false)).cell? ⟨Y, 0, none⟩ = some (.pointer (some ⟨B, 0, none⟩)) := by rw [blk_cell hy1]; rfl
  have k4 : (w.alloc (adO 4 n c o false)).cell? ⟨B, 4, none⟩ = some (.pointer (some ⟨p1, 0, none⟩)) := by rw [blk_cell h1.box]; rfl
  obtain ⟨_, p0, p1', p2, p3, p4, p5⟩ := ad_old hA
  have hM : ∀ q, Bf N0 w0 ((w.alloc (adO 4 n c o false)).drewN q) B s := fun q => ⟨col, T, p1, U, vl, vm, vo, L, h1.drewN q⟩
  have hM2 : ∀ q, Calls Tryz.prog 12 #[.pointer (some ⟨B, 0, none⟩)] ((w.alloc (adO 4 n c o false)).drewN q) fun e w' => e = .returned (.pointer (some ⟨p1, 0, none⟩)) ∧ w' = (w.alloc (adO 4 n c o false)).drewN q := fun q => marks_at (show ((w.alloc (adO 4 n c o false)).drewN q).cell? ⟨B, 4, none⟩ = _ from k4)
  obtain ⟨m, hm1⟩ : ∃ m, s.mar c = m := ⟨_, rfl⟩
  obtain ⟨er, her⟩ : ∃ er : Int, (if m = 0 then 100 else 0) = er := ⟨_, rfl⟩
  have HG := Lib.hid (show ∀ q, Calls Tryz.prog 35 #[.pointer (some ⟨p1, 0, none⟩), .int .u8 c] ((w.alloc (adO 4 n c o false)).drewN q) fun e w' => e = .returned (.tuple #[.int .i64 m, .int .u16 er]) ∧ (w.alloc (adO 4 n c o false)).drewN q = w' from fun q => by
    have := get_any p1 mb s.nm s.mar c ((w.alloc (adO 4 n c o false)).drewN q) m0 hm hc.1 hc.2
    unfold GetPost at this
    rw [hm1, her] at this
    exact this)
  have HM := Lib.hid hM2
  have HB := Lib.hid hbl
  have hr : (if s.mar c = 0 then ((0 : Int), (100 : Int)) else (s.mar c, 0)) = (m, er) := by
    rw [hm1, ← her]
    split <;> rename_i h
    · rw [h]
    · rfl
  rw [hr]
  clear hA hb hy h1 hy1 hm hbl k4 m0 hM hM2 hr hm1 her
  go_enter Tryz.func23, Tryz.ntmps23
  go_wp2
  go_region_held3 (fun V => V.cell? ⟨Y, 0, none⟩ = some (.pointer (some ⟨B, 0, none⟩)) ∧ V.cell? ⟨w.heap.size, 2, none⟩ = some (.int .u8 c)) (first | exact ⟨k0, p2⟩ | exact ⟨kk0, kk1⟩ | go_keep) (first
    | (go_at_call 12; refine (HM.out 1).mono ?_; rintro e w2 ⟨rfl, rfl⟩)
    | (go_at_call 35; refine (HG.out 1).mono ?_; rintro e w2 ⟨rfl, rfl⟩))
  go_wp2
  first | rw [Exit.noGoto_ret] | skip
  go_ret2
  exact ⟨rfl, below_then HB.out HB.out.size (below_drewN _ 1)⟩
end Go.Proofs.YtiddfimaenjdcaaGreatDoor

/- addr.Eval over a list of addresses: walked. -/
set_option linter.unusedVariables false
set_option linter.unusedSimpArgs false
namespace Go.Proofs.YtiddfimaenjdcaaGreatDoor
open Go.RowKit Go.Shelf Go.Maps Go.Proofs.YtiddfimaenjdcaaGreatDoorW.PrintWords Go.Proofs.YtiddfimaenjdcaaGreatDoorW.PrintLast

/-- what Eval makes of a list: from, to, error -/
def evF (val : Ad → Int × Int) (len : Int) : Bool → Int → Int → List Ad → Int × Int × Int
  | _, f, t, [] => if t < f then (0, 0, 140) else (f, t, 0)
  | first, f, t, a :: ads =>
    if (val a).2 ≠ 0 then (0, 0, (val a).2)
    else if (val a).1 + a.o < 0 ∨ len < (val a).1 + a.o then (0, 0, 140)
    else evF val len false (if first then (val a).1 + a.o else t) ((val a).1 + a.o) ads
def okAd (s : Bs) (a : Ad) : Prop := (a.k = 1 ∨ a.k = 3 ∨ (a.k = 4 ∧ 0 ≤ a.c ∧ a.c ≤ 255)) ∧ -4000000000 ≤ (lnV s a).1 ∧ (lnV s a).1 ≤ 4000000000 ∧ -4000000000 ≤ a.o ∧ a.o ≤ 4000000000
def EvPost (w : World) (r : Int × Int × Int) (e : Ending) (w' : World) : Prop := e = .returned (.tuple #[.int .i64 r.1, .int .i64 r.2.1, .string ⟨#[]⟩, .int .u16 r.2.2]) ∧ Below w.heap.size w w'
theorem line_is {N0 : Nat} {w0 : Base} {w : World} {Y B : Nat} {h : Int} {s : Bs} (hb : Bf N0 w0 w B s) (hy : Eye w Y B h) {a : Ad} (ha : okAd s a) : Calls Tryz.prog 23 #[.pointer (some ⟨Y, 0, none⟩), adV a.k a.n a.c a.o false] w (LinePost w (lnV s a)) := by
  obtain ⟨k, n, c, o⟩ := a
  rcases ha.1 with h1 | h1 | ⟨h1, h2⟩
  · cases h1
    exact line_num w Y n c o
  · cases h1
    exact line_end hb hy n c o
  · cases h1
    exact line_mark hb hy n c o h2
theorem adR_at {ads : List Ad} {i : Nat} {a : Ad} (h : ads[i]? = some a) {j : Nat} {u : Value} (hj : (adL a)[j]? = some u) : (adR ads)[i * 6 + j]? = some u := by
  induction ads generalizing i with
  | nil => cases h
  | cons x t ih =>
    have e : adR (x :: t) = adL x ++ adR t := by simp [adR]
    rw [e]
    cases i with
    | zero =>
      cases h
      rw [show 0 * 6 + j = j by omega, List.getElem?_append_left (List.getElem?_eq_some_iff.1 hj).1, hj]
    | succ i =>
      have h6 : (adL x).length = 6 := rfl
      rw [List.getElem?_append_right (by rw [h6]; omega), h6, show (i + 1) * 6 + j - 6 = i * 6 + j by omega]
      exact ih h
theorem ad_cell {w : World} {g cap n : Nat} {xs : List Value} (h : w.ownsRow 0 61 6 (.slice (some ⟨g, 0, none⟩) n cap) n xs) {j : Nat} {u : Value} (hj : xs[j]? = some u) : w.cell? ⟨g, j, none⟩ = some u := by
  obtain ⟨h1, h2⟩ := h
  rcases h2 with ⟨hv, _⟩ | ⟨g', cap', cur, hv, _, hc, _, _, _, ht⟩
  · cases hv
  · injection hv with ha _ _
    injection ha with ha
    injection ha with ha _ _
    subst ha
    rw [blk_cell hc]
    have hl : j < n * 6 := by
      have := (List.getElem?_eq_some_iff.1 hj).1
      omega
    rw [← ht, List.getElem?_take_of_lt hl] at hj
    simpa using hj
set_option maxRecDepth 100000 in
set_option maxHeartbeats 200000 in
theorem eval_any {N0 : Nat} {w0 : Base} {w : World} {B : Nat} {s : Bs} {v : Value} {ads : List Ad} (hb : Bf N0 w0 w B s) (hr : w.ownsRow 0 61 6 v ads.length (adR ads)) (hl : s.ls.length ≤ 1000000000) (hal : ads.length ≤ 100) (ha : ∀ a ∈ ads, okAd s a) :
    Calls Tryz.prog 9 #[.pointer (some ⟨B, 0, none⟩), v, .string ⟨#[]⟩, .string ⟨#[]⟩, .bool false] w (EvPost w (evF (lnV s) (s.ls.length : Nat) true s.cur s.cur ads)) := by
  obtain ⟨ad, cap, rfl⟩ := row_slice hr
  obtain ⟨cu, hcu⟩ : ∃ cu, s.cur = cu := ⟨_, rfl⟩
  obtain ⟨R, hR⟩ : ∃ R, evF (lnV s) (s.ls.length : Nat) true s.cur s.cur ads = R := ⟨_, rfl⟩
  rw [hR]
  rw [hcu] at hR
  have hy := heap_alloc_new w (.cells #[.pointer (some ⟨B, 0, none⟩), .int .i64 cu, .string ⟨#[]⟩, .string ⟨#[]⟩, .bool false] 67)
  have hbl := below_alloc (Below.refl w.heap.size w) (.cells #[.pointer (some ⟨B, 0, none⟩), .int .i64 cu, .string ⟨#[]⟩, .string ⟨#[]⟩, .bool false] 67)
  have HC := cursor_any hb
  rw [hcu] at HC
  have HCU := Lib.hid HC
  have HBF := Lib.hid hb
  have HY := Lib.hid hy
  have HBL := Lib.hid hbl
  have HROW := Lib.hid hr
  have HEV := Lib.hid hR
  clear HC hb hy hbl hr hR hcu
  go_enter Tryz.func9, Tryz.ntmps9
  go_wp2_with (first
    | (go_at_call 22; refine HCU.out.mono ?_; rintro e w1 ⟨rfl, rfl⟩; have k1 : (w1.alloc (.cells #[.pointer (some ⟨B, 0, none⟩), .int .i64 cu, .string ⟨#[]⟩, .string ⟨#[]⟩, .bool false] 67)).cell? ⟨w1.heap.size, 1, none⟩ = some (.int .i64 cu) := (by rw [blk_cell HY.out]; rfl)))
  go_quiet (fail)
  have hbw := below_then HBL.out HBL.out.size (below_drewN _ nq)
  have hyw : Eye ((w1.alloc (.cells #[.pointer (some ⟨B, 0, none⟩), .int .i64 cu, .string ⟨#[]⟩, .string ⟨#[]⟩, .bool false] 67)).drewN nq) w1.heap.size B cu := HY.out
  obtain ⟨W, hW⟩ : ∃ W, (w1.alloc (.cells #[.pointer (some ⟨B, 0, none⟩), .int .i64 cu, .string ⟨#[]⟩, .string ⟨#[]⟩, .bool false] 67)).drewN nq = W := ⟨_, rfl⟩
  rw [hW] at hbw hyw ⊢
  have hbfw := HBF.out.new hbw
  have hrw := owns_step HROW.out fun b hb9 => hbw.block b (owns_lt HROW.out b hb9)
  obtain ⟨Y, hY⟩ : ∃ Y, w1.heap.size = Y := ⟨_, rfl⟩
  rw [hY] at hyw
  have HW := Lib.hid (And.intro hbw (And.intro hbfw hrw))
  have HYW := Lib.hid hyw
  rw [hY]
  clear hY
  clear hbw hyw hbfw hrw hW k1 HY HBF HROW HBL
  go_wp2
  go_loopw [15, 16, 39] (fun v15 v16 v39 wr => ∃ (i : Nat) (f t : Int), v15 = .int .i64 f ∧ v16 = .int .i64 t ∧ v39 = .int .i64 (i : Int) ∧ i ≤ ads.length ∧ evF (lnV s) (s.ls.length : Nat) (decide (i = 0)) f t (ads.drop i) = R ∧ Below W.heap.size W wr) (fun _ _ v39 wr => ads.length - (intOf v39).toNat)
  case atStart => exact ⟨0, cu, cu, rfl, rfl, rfl, Nat.zero_le _, HEV.out, Below.refl _ _⟩
  case round =>
    obtain ⟨i, f, t, rfl, rfl, rfl, hi, hev, hbl⟩ := hrel
    by_cases hin : i < ads.length
    · obtain ⟨a, hget⟩ : ∃ a, ads[i]? = some a := ⟨_, List.getElem?_eq_getElem hin⟩
      have hok := ha a (List.mem_of_getElem? hget)
      rw [List.drop_eq_getElem_cons hin, show ads[i] = a from (List.getElem?_eq_some_iff.1 hget).2, evF] at hev
      have hrow := owns_step (w' := wr) HW.out.2.2 fun b hb9 => hbl.block b (owns_lt HW.out.2.2 b hb9)
      obtain ⟨g, rfl⟩ : ∃ g, ad = some ⟨g, 0, none⟩ := by
        rcases hrow.2 with ⟨hv, _⟩ | ⟨g', cap', cur, hv, _⟩
        · injection hv with _ h2 _
          omega
        · injection hv with h1 _ _
          exact ⟨g', h1⟩
      obtain ⟨k, n, c, o⟩ := a
      have e0 := ad_cell hrow (adR_at hget (j := 0) rfl)
      have e1 := ad_cell hrow (adR_at hget (j := 1) rfl)
      have e2 := ad_cell hrow (adR_at hget (j := 2) rfl)
      have e3 := ad_cell hrow (adR_at hget (j := 3) rfl)
      have e4 := ad_cell hrow (adR_at hget (j := 4) rfl)
      have e5 := ad_cell hrow (adR_at hget (j := 5) rfl)
      simp only [Nat.add_zero] at e0
      have hb1 : Below W.heap.size W (wr.alloc (adO k n c o false)) := below_alloc hbl _
      have hA1 := heap_alloc_new wr (adO k n c o false)
      have HLN := Lib.hid (line_is (HW.out.2.1.new hb1) (HYW.out.new hb1) hok)
      obtain ⟨r, er, hre⟩ : ∃ r er, lnV s ⟨k, n, c, o⟩ = (r, er) := ⟨_, _, rfl⟩
      obtain ⟨_, hr1, hr2, ho1, ho2⟩ := hok
      rw [hre] at HLN hev hr1 hr2
      simp only at hev hr1 hr2 ho1 ho2
      have hiI : (i : Int) < (ads.length : Nat) := by omega
      obtain ⟨_, p0, p1, p2, p3, p4, p5⟩ := ad_old hA1
      have H1 := Lib.hid (And.intro hb1 hA1)
      have HEV2 := Lib.hid hev
      clear hrow hb1 hA1 hev hbl hre hget ha hin HCU HEV
      go_wp2_with fail
      refine HLN.out.mono ?_
      rintro e w2 ⟨rfl, h2⟩
      obtain ⟨A, hA⟩ : ∃ A, wr.heap.size = A := ⟨_, rfl⟩
      have hA2 := (h2.block A (by simp; omega)).trans (show _ = _ from hA ▸ H1.out.2)
      have hbl2 := below_then H1.out.1 H1.out.1.size h2
      rw [hA]
      clear p0 p1 p2 p3 p4 p5 e0 e1 e2 e3 e4 e5 hA h2
      obtain ⟨_, p0, p1, p2, p3, p4, p5⟩ := ad_old hA2
      have hbf2 := HW.out.2.1.new hbl2
      have hy2 := HYW.out.new hbl2
      obtain ⟨T, c0, F, ht⟩ := hbf2.len
      have k0 : w2.cell? ⟨Y, 0, none⟩ = some (.pointer (some ⟨B, 0, none⟩)) := by rw [blk_cell hy2]; rfl
      have HL := Lib.hid (len_is ht)
      have H2 := Lib.hid hbl2
      clear hA2 hbl2 hbf2 hy2 ht
      obtain ⟨m, hm⟩ : ∃ m, r + o = m := ⟨_, rfl⟩
      have iw1 : IntKind.i64.wrap (r + o) = m := by rw [← hm, IntKind.wrap_i64]; omega
      obtain ⟨len, hlen⟩ : ∃ len : Int, ((s.ls.length : Nat) : Int) = len := ⟨_, rfl⟩
      have HV := HEV2.out
      rw [hm, hlen] at HV
      rw [hlen] at HL
      have HLN2 := Lib.hid hlen
      have iw2 : IntKind.i64.wrap ((i : Int) + 1) = (i : Int) + 1 := by rw [IntKind.wrap_i64]; omega
      clear HEV2 hr1 hr2 ho1 ho2 hm hlen HLN
      dsimp only
      by_cases he : er = 0
      · subst he
        rw [if_neg (fun h => h rfl)] at HV
        by_cases hlo : m < 0 ∨ len < m
        · rw [if_pos hlo] at HV
          subst HV
          have HO := Lib.hid hlo
          clear hlo
          go_wp2_with (first
            | (go_at_call 24; refine HL.out.mono ?_; rintro e w3 ⟨rfl, q, rfl⟩))
          all_goals first
            | (exfalso
               have := HO.out
               omega)
            | ((first | rw [Exit.noGoto_ret] | skip)
               refine bodyPost_ret (by simp [results, Tryz.results9, go_sem]; try rfl) rfl ?_
               exact ⟨rfl, below_then HW.out.1 HW.out.1.size H2.out⟩)
            | ((first | rw [Exit.noGoto_ret] | skip)
               refine bodyPost_ret (by simp [results, Tryz.results9, go_sem]; try rfl) rfl ?_
               exact ⟨rfl, below_then HW.out.1 HW.out.1.size (below_then H2.out H2.out.size (below_drewN _ q))⟩)
        · rw [if_neg hlo] at HV
          have l1 : ¬ (m < 0) := fun h => hlo (.inl h)
          have l2 : ¬ (len < m) := fun h => hlo (.inr h)
          have HV2 := Lib.hid HV
          have l3 : 0 ≤ m := by omega
          have l4 : m ≤ len := by omega
          clear hlo HV
          go_wp2_with (first
            | (go_at_call 24; refine HL.out.mono ?_; rintro e w3 ⟨rfl, q, rfl⟩))
          all_goals first
            | (exfalso; omega)
            | (go_roundw
               case rel =>
                 first
                   | (have hz : ((i : Int) == 0) = true := by assumption
                      have hz2 : i = 0 := by have := eq_of_beq hz; omega
                      refine ⟨i + 1, m, m, rfl, rfl, by rw [show (((i + 1 : Nat)) : Int) = (i : Int) + 1 by omega], by omega, ?_, below_then H2.out H2.out.size (below_drewN _ q)⟩
                      have h9 := HV2.out
                      rw [hz2] at h9 ⊢
                      rw [HLN2.out]
                      exact h9)
                   | (have hz : ((i : Int) == 0) = false := by assumption
                      have hz2 : ¬ i = 0 := fun h => by rw [h] at hz; exact absurd hz (by decide)
                      refine ⟨i + 1, t, m, rfl, rfl, by rw [show (((i + 1 : Nat)) : Int) = (i : Int) + 1 by omega], by omega, ?_, below_then H2.out H2.out.size (below_drewN _ q)⟩
                      have h9 := HV2.out
                      rw [show decide (i = 0) = false from decide_eq_false hz2] at h9
                      rw [HLN2.out, show decide (i + 1 = 0) = false from rfl]
                      exact h9)
               case measure =>
                 show ads.length - ((i : Int) + 1).toNat < ads.length - ((i : Int)).toNat
                 omega)
      · rw [if_pos he] at HV
        subst HV
        have he2 : (er != 0) = true := by simpa using he
        clear he
        go_wp2
        first | rw [Exit.noGoto_ret] | skip
        refine bodyPost_ret (by simp [results, Tryz.results9, go_sem]; try rfl) rfl ?_
        exact ⟨rfl, below_then (HW.out.1) (HW.out.1.size) H2.out⟩
    · have hie : i = ads.length := by omega
      subst hie
      rw [List.drop_length, evF] at hev
      have hnl : ¬ ((ads.length : Int) < (ads.length : Nat)) := by omega
      have hyr := HYW.out.new hbl
      have k2 : wr.cell? ⟨Y, 2, none⟩ = some (.string ⟨#[]⟩) := by rw [blk_cell hyr]; rfl
      have H2 := Lib.hid hbl
      clear hyr hbl
      by_cases hft : t < f
      · rw [if_pos hft] at hev
        subst hev
        go_wp2
        first | rw [Exit.noGoto_ret] | skip
        refine bodyPost_ret (by simp [results, Tryz.results9, go_sem]; try rfl) rfl ?_
        exact ⟨rfl, below_then HW.out.1 HW.out.1.size H2.out⟩
      · rw [if_neg hft] at hev
        subst hev
        go_wp2
        go_quiet (fail)
        go_wp2
        first | rw [Exit.noGoto_ret] | skip
        refine bodyPost_ret (by simp [results, Tryz.results9, go_sem]; try rfl) rfl ?_
        exact ⟨rfl, below_then HW.out.1 HW.out.1.size (below_then H2.out H2.out.size (below_drewN _ nq))⟩
end Go.Proofs.YtiddfimaenjdcaaGreatDoor

/- emendatorlaw14.known: walked. -/
set_option linter.unusedVariables false
set_option linter.unusedSimpArgs false
namespace Go.Proofs.YtiddfimaenjdcaaGreatDoor
open Go.RowKit Go.Shelf Go.Maps Go.Proofs.YtiddfimaenjdcaaGreatDoorW.PrintWords Go.Proofs.YtiddfimaenjdcaaGreatDoorW.PrintLast

theorem adat_num {G : Nat} {s : ByteArray} {i j : Nat} {ds r : List UInt8} {n : Int} (hs : s.size ≤ 1000000) (hd : s.data.toList.drop i = ds ++ r) (ha : ∀ c ∈ ds, isDg c = true) (hl : ds.length ≤ 9) (hl0 : 0 < ds.length) (hr : ∀ c, r.head? = some c → isDg c = false) (hj : i + ds.length = j) (hn : nuD 0 ds = n) (hno : noOff s j) : AdAt G s i ⟨1, n, 0, 0⟩ j := by
  subst hj hn
  have hsz : i + (ds.length + r.length) = s.size ∧ i ≤ s.size := by
    have h1 := congrArg List.length hd
    rw [List.length_drop, List.length_append, show s.data.toList.length = s.size from Array.length_toList] at h1
    omega
  exact fun W hW => one_none hW (fun V hV => base_num hV hs hsz.2 hd ha hl hl0 hr) (by omega) hno
/-- a base, a sign, a number -/
theorem adat_off {G : Nat} {s : ByteArray} {i j j2 : Nat} {ds r : List UInt8} {k n c m sg b : Int} (hs : s.size ≤ 1000000) (hB : ∀ W, Pl W G s i → Calls Tryz.prog 33 #[.pointer (some ⟨G, 0, none⟩)] W (BasePost W G s (adV k n c 0 false) true j)) (hsb : nxB s j = b) (hsg : (b = 43 ∧ sg = 1) ∨ (b = 45 ∧ sg = -1)) (hd : s.data.toList.drop (j + 1) = ds ++ r) (ha : ∀ c ∈ ds, isDg c = true) (hl : ds.length ≤ 9) (hl0 : 0 < ds.length) (hr : ∀ c, r.head? = some c → isDg c = false) (hj : j + 1 + ds.length = j2) (hm : nuD 0 ds = m) (hm2 : m < 1000000000) (hno : noOff s j2) : AdAt G s i ⟨k, n, c, sg * m⟩ j2 := by
  subst hj
  have hsz : j + 1 + (ds.length + r.length) = s.size ∧ j + 1 ≤ s.size := by
    have h1 := congrArg List.length hd
    rw [List.length_drop, List.length_append, show s.data.toList.length = s.size from Array.length_toList] at h1
    omega
  have h0 := (nuD_grow ds 0 (by decide) ha).1
  refine fun W hW => one_off hW hB (by omega) hsb hsg (fun V hV => ?_) (by omega) (by omega) ⟨by omega, hm2⟩ hs hno
  have := number_any hV hs hsz.2 hd ha hl hr
  rw [hm, show decide (0 < ds.length) = true by simpa using hl0] at this
  exact this
/-- the text of known -/
abbrev sK : ByteArray := ⟨#[50, 44, 36, 45, 49, 100]⟩
theorem chainK (G : Nat) : Chain G sK 5 0 [⟨1, 2, 0, 0⟩, ⟨3, 0, 0, -1⟩] := by
  refine .more (j := 1) (adat_num (ds := [50]) (r := [44, 36, 45, 49, 100]) (by decide) rfl (by decide) (by decide) (by decide) (by decide) rfl rfl ⟨by decide, by decide⟩) (by omega) (by decide) (by decide) ⟨by decide, by decide⟩ (.last ?_ (by omega) (by decide) ⟨by decide, by decide, by decide, by decide⟩)
  exact adat_off (j := 3) (ds := [49]) (r := [100]) (m := 1) (sg := -1) (by decide) (fun W hW => base_end hW (by decide) (by decide) (by decide)) (b := 45) (by decide) (.inr ⟨rfl, rfl⟩) rfl (by decide) (by decide) (by decide) (by decide) rfl rfl (by decide) ⟨by decide, by decide⟩
def lsK : List ByteArray := [⟨#[97]⟩, ⟨#[98]⟩, ⟨#[99]⟩, ⟨#[100]⟩, ⟨#[101]⟩]
def sNew (xs : List ByteArray) : Bs := newS 9 (fullS xs)
theorem evK : evF (lnV (newS 9 lsK)) ((5 : Nat) : Int) true 1 1 [⟨1, 2, 0, 0⟩, ⟨3, 0, 0, -1⟩] = (2, 4, 0) := by decide
theorem okK : ∀ a ∈ [(⟨1, 2, 0, 0⟩ : Ad), ⟨3, 0, 0, -1⟩], okAd (newS 9 lsK) a := by
  intro a ha
  have h2 : a = ⟨1, 2, 0, 0⟩ ∨ a = ⟨3, 0, 0, -1⟩ := by simpa using ha
  rcases h2 with rfl | rfl
  · unfold okAd
    decide
  · unfold okAd
    decide
set_option maxRecDepth 100000 in
set_option maxHeartbeats 1000000 in
theorem known14_any (w : World) : Calls Tryz.prog 10 #[] w fun e w' => e = .returned (.bool true) ∧ Below w.heap.size w w' := by
  have HP := Lib.hid (aparse_any w (s := sK) (e := 5) (ads := [⟨1, 2, 0, 0⟩, ⟨3, 0, 0, -1⟩]) (by decide) (by decide) ⟨by decide, by decide, by decide⟩ (by decide) chainK)
  go_enter Tryz.func10, Tryz.ntmps10
  go_wp2_with fail
  refine HP.out.mono ?_
  rintro e w1 ⟨v, rfl, hr1, hb1⟩
  obtain ⟨ad, cap, rfl⟩ := row_slice hr1
  obtain ⟨g, rfl⟩ : ∃ g, ad = some ⟨g, 0, none⟩ := by
    rcases hr1.2 with ⟨hv, _⟩ | ⟨g', cap', cur, hv, _⟩
    · injection hv with _ h2 _
      cases h2
    · injection hv with h1 _ _
      exact ⟨g', h1⟩
  have hN := bnew_any (m := 9) (ls_lit w1 lsK (by decide)) (by decide) (by decide) (by decide) (by decide) (by decide)
  have HN := Lib.hid hN
  have H1 := Lib.hid (And.intro hr1 hb1)
  clear hN hr1 hb1
  go_wp2_with fail
  refine HN.out.mono ?_
  rintro e w2 ⟨B, rfl, b2⟩
  have b2' : Bf _ _ w2 B (newS 9 lsK) := b2
  have hbl := below_then (below_alloc (Below.refl w1.heap.size w1) (.cells (cS lsK).toArray 9)) (by simp) b2'.below
  have hr2 := owns_step (w' := w2) H1.out.1 fun b hb9 => hbl.block b (owns_lt H1.out.1 b hb9)
  have hE := eval_any b2' hr2 (by decide) (by decide) okK
  rw [show evF (lnV (newS 9 lsK)) ((newS 9 lsK).ls.length : Nat) true (newS 9 lsK).cur (newS 9 lsK).cur [⟨1, 2, 0, 0⟩, ⟨3, 0, 0, -1⟩] = (2, 4, 0) from evK] at hE
  have HE := Lib.hid hE
  have HM := Lib.hid (marks_any b2')
  have HB2 := Lib.hid (And.intro hbl hr2)
  clear b2 b2' hbl hr2 hE
  go_wp2_with (first
    | (go_at_call 12; refine HM.out.mono ?_; rintro e w3 ⟨⟨p, rfl⟩, rfl⟩)
    | (go_at_call 9; refine HE.out.mono ?_; rintro e w4 ⟨rfl, h4⟩; have hr4 := owns_step (w' := w4) HB2.out.2 (fun b hb9 => h4.block b (owns_lt HB2.out.2 b hb9)); have e0 := ad_cell hr4 (j := 6) rfl; have e1 := ad_cell hr4 (j := 7) rfl; have e2 := ad_cell hr4 (j := 8) rfl; have e3 := ad_cell hr4 (j := 9) rfl; have e4 := ad_cell hr4 (j := 10) rfl; have e5 := ad_cell hr4 (j := 11) rfl; have H4 := Lib.hid h4; clear h4 hr4))
  go_ret
  exact ⟨rfl, below_then H1.out.2 H1.out.2.size (below_then HB2.out.1 HB2.out.1.size H4.out)⟩
end Go.Proofs.YtiddfimaenjdcaaGreatDoor

/- a mark is set in a text; the addresses of marks. -/
set_option linter.unusedVariables false
set_option linter.unusedSimpArgs false
namespace Go.Proofs.YtiddfimaenjdcaaGreatDoor
open Go.RowKit Go.Shelf Go.Maps Go.Proofs.YtiddfimaenjdcaaGreatDoorW.PrintWords Go.Proofs.YtiddfimaenjdcaaGreatDoorW.PrintLast

theorem turned_chg {w w' : World} {b : Nat} {F : Nat → Prop} (h : w.mapTurned w' b) (hF : F b) : Chg F w w' := by
  have g := h.grown
  exact ⟨g.os, g.tape, g.output, g.size, fun k hk hf => g.block k hk (fun e => hf (by rw [Option.some.inj e]; exact hF))⟩
def setS (s : Bs) (x v : Int) : Bs := { s with mar := fun y => if y = x then v else s.mar y, nm := s.nm + 1 }
theorem bset_any {N0 : Nat} {w0 : Base} {w : World} {B : Nat} {s : Bs} (h : Bf N0 w0 w B s) {x v : Int} (hx : 97 ≤ x ∧ x ≤ 122) (hv : 1 ≤ v ∧ v ≤ 2147483647) (hn : s.nm < maxLen) : ∃ p1, w.cell? ⟨B, 4, none⟩ = some (.pointer (some ⟨p1, 0, none⟩)) ∧ Calls Tryz.prog 13 #[.pointer (some ⟨p1, 0, none⟩), .int .u8 x, .int .i64 v] w fun e w' => e = .returned (.int .u16 0) ∧ Bf N0 w0 w' B (setS s x v) := by
  obtain ⟨col, T, p1, U, vl, vm, vo, L, h⟩ := h
  obtain ⟨mb, hp, hm, hne, m0, hmap⟩ := h.mar
  refine ⟨p1, by rw [blk_cell h.box]; rfl, (set_any p1 mb s.nm s.mar x v w m0 hmap (by omega) (by omega) hn).mono ?_⟩
  rintro e w' hs
  unfold SetPost at hs
  rw [if_neg (by omega), if_neg (by omega)] at hs
  obtain ⟨rfl, hmap2, ht⟩ := hs
  have hc := turned_chg (F := fun b => col b = 2 ∨ w.heap.size ≤ b) ht (.inl hm)
  have hk : w'.heap[p1]? = w.heap[p1]? := ht.grown.block p1 (cell_lt m0) (fun e => hne (Option.some.inj e))
  refine ⟨rfl, _, _, _, _, _, _, _, _, h.onMarks hc (f := fun y => if y = x then v else s.mar y) (n := s.nm + 1) ⟨mb, .inl hp, .inl hm, hne, ?_, hmap2⟩⟩
  exact (World.cell?_of_block (a := ⟨p1, 0, none⟩) hk).trans m0
/-- the texts of the marks -/
abbrev sAB : ByteArray := ⟨#[39, 97, 44, 39, 98]⟩
abbrev sCC : ByteArray := ⟨#[39, 99]⟩
theorem chainAB (G : Nat) : Chain G sAB 5 0 [⟨4, 0, 97, 0⟩, ⟨4, 0, 98, 0⟩] := by
  refine .more (j := 2) (fun W hW => one_none hW (fun V hV => ?_) (by decide) ⟨by decide, by decide⟩) (by omega) (by decide) (by decide) ⟨by decide, by decide⟩ (.last (fun W hW => one_none hW (fun V hV => ?_) (by decide) ⟨by decide, by decide⟩) (by omega) (by decide) ⟨by decide, by decide, by decide, by decide⟩)
  · exact base_mark hV (by decide) (by decide) (by decide) (by decide)
  · exact base_mark hV (by decide) (by decide) (by decide) (by decide)
theorem chainC (G : Nat) : Chain G sCC 2 0 [⟨4, 0, 99, 0⟩] :=
  .last (fun W hW => one_none hW (fun V hV => base_mark hV (by decide) (by decide) (by decide) (by decide)) (by decide) ⟨by decide, by decide⟩) (by omega) (by decide) ⟨by decide, by decide, by decide, by decide⟩
end Go.Proofs.YtiddfimaenjdcaaGreatDoor
