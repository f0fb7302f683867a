/- (*reader).key, walked: it reads one key, as keyP says. -/
import Derived.Test.YtdkdoomjihflbaaDoorNcount
import Derived.Deep.Cut
namespace Go.Proofs.YtdkdoomjihflbaaDoor.NT
open Go.RowKit Go.Proofs.YtdkdoomjihflbaaDoorW.PrintWords Go.Proofs.YtdkdoomjihflbaaDoorW.PrintLast Go.Proofs.YtdkdoomjihflbaaDoorW.PrintMore

/-- what key answers, what it leaves -/
def KeyIs (l : List UInt8) (r1 : Int) (r2 r3 : ByteArray) (r4 : Bool) (r5 : ByteArray) : Prop :=
  match keyP l with
  | none => r4 = false
  | some (k, r) => (r1, r2, r3) = k ∧ r4 = true ∧ r5 = ofL r

theorem size_len (s : ByteArray) : s.data.toList.length = s.size := Array.length_toList
theorem toList_data (s : ByteArray) : s.toList = s.data.toList := ByteArray.toList_eq s
theorem ofL_toList (l : List UInt8) : (ofL l).toList = l := by rw [toList_data]; rfl
theorem ofL_size (l : List UInt8) : (ofL l).size = l.length := by rw [← size_len]; rfl

theorem cut_one (c : UInt8) (t : List UInt8) : norm_reader_cut.f (ofL (c :: t)) 1 = some (ofL [c], ofL t) := by
  have hl := ofL_size (c :: t)
  simp at hl
  unfold norm_reader_cut.f
  rw [if_pos (by omega), if_pos (by omega)]
  have e1 : (ofL (c :: t)).extract 0 1 = ofL [c] := ext_list (by rw [extract_take]; rfl)
  have e2 : (ofL (c :: t)).extract 1 (ofL (c :: t)).size = ofL t := ext_list (by rw [extract_list]; rfl)
  simp [e1, e2]

theorem two_is (n : Int) (c : UInt8) (t : List UInt8) (h1 : oneB.contains c = false) (h2 : twoB.contains c = true) :
    match opP n (c :: t) with
    | none => Lib.hasPrefix (ofL t).data.toList (ofL [c]).data.toList = false
    | some (k, r) => (n, ofL [c] ++ ofL [c], (⟨#[]⟩ : ByteArray)) = k ∧ Lib.hasPrefix (ofL t).data.toList (ofL [c]).data.toList = true ∧ (⟨(Lib.trimPrefix (ofL t).data.toList (ofL [c]).data.toList).toArray⟩ : ByteArray) = ofL r := by
  simp only [opP, h1, h2, Bool.false_eq_true, if_false, if_true]
  show match (match t with | [] => none | d :: r' => if d = c then some ((n, ofL [c, c], ofL []), r') else none) with
    | none => Lib.hasPrefix t [c] = false
    | some (k, r) => (n, ofL [c] ++ ofL [c], (⟨#[]⟩ : ByteArray)) = k ∧ Lib.hasPrefix t [c] = true ∧ ofL (Lib.trimPrefix t [c]) = ofL r
  cases t with
  | nil => rfl
  | cons d t =>
    by_cases h : d = c
    · subst h
      have hp : Lib.hasPrefix (d :: t) [d] = true := by show ([d].isPrefixOf (d :: t)) = true; simp [List.isPrefixOf]
      simp only [if_true]
      refine ⟨rfl, hp, ?_⟩
      unfold Lib.trimPrefix
      rw [if_pos hp]
      rfl
    · simp only [if_neg h]
      show ([c].isPrefixOf (d :: t)) = false
      simp [List.isPrefixOf]
      exact fun e => h e.symm

theorem last_one {q : ByteArray} {c : UInt8} (h : q.toList = [c]) (k106 : ¬ c = 106) (k107 : ¬ c = 107) (k71 : ¬ c = 71) (k112 : ¬ c = 112) (k80 : ¬ c = 80) (k74 : ¬ c = 74) (k120 : ¬ c = 120) (k126 : ¬ c = 126) : (q.toList == [68]) = oneB.contains c := by
  rw [h]
  by_cases e : c = 68
  · subst e; rfl
  · rw [show (([c] : List UInt8) == [68]) = false by simpa using e]
    symm
    simp [oneB, e, k106, k107, k71, k112, k80, k74, k120, k126]
theorem last_two {q : ByteArray} {c : UInt8} (h : q.toList = [c]) (k103 : ¬ c = 103) (k100 : ¬ c = 100) (k121 : ¬ c = 121) (k62 : ¬ c = 62) : (q.toList == [60]) = twoB.contains c := by
  rw [h]
  by_cases e : c = 60
  · subst e; rfl
  · rw [show (([c] : List UInt8) == [60]) = false by simpa using e]
    symm
    simp [twoB, e, k103, k100, k121, k62]
theorem last_reg {q : ByteArray} {c : UInt8} (h : q.toList = [c]) (k34 : ¬ c = 34) : (q.toList == [64]) = regB.contains c := by
  rw [h]
  by_cases e : c = 64
  · subst e; rfl
  · rw [show (([c] : List UInt8) == [64]) = false by simpa using e]
    symm
    simp [regB, e, k34]
theorem last_wr {q : ByteArray} {c : UInt8} (h : q.toList = [c]) (k65 : ¬ c = 65) (k73 : ¬ c = 73) (k111 : ¬ c = 111) : (q.toList == [79]) = wrB.contains c := by
  rw [h]
  by_cases e : c = 79
  · subst e; rfl
  · rw [show (([c] : List UInt8) == [79]) = false by simpa using e]
    symm
    simp [wrB, e, k65, k73, k111]

/-- two boxes of the call's own, and the reader -/
structure Boxes (w0 w wA : World) (G B0 B1 : Nat) (n : Int) (a b : ByteArray) (u : ByteArray) : Prop where
  g : IsS41 w0 wA G u
  bel : Below w0.heap.size w0 wA
  keep : KeepBut w wA G none
  k0 : wA.heap[B0]? = some (.cells #[.int .i64 0, .string ⟨#[]⟩, .string ⟨#[]⟩] 38 (0, 0))
  k1 : wA.heap[B1]? = some (.cells #[.int .i64 n, .string a, .string b] 38 (0, 0))
  h0 : w.heap.size ≤ B0
  h1 : B0 < B1
  hs : w0.heap.size ≤ w.heap.size
  hG : G < w.heap.size

set_option maxRecDepth 100000 in
set_option maxHeartbeats 4000000 in
theorem key_calls (s : ByteArray) (hs : s.size ≤ 1000000) (G : Nat) (w0 w : World) (hI : IsS41 w0 w G s) (hB : Below w0.heap.size w0 w) :
    Calls Tryd.prog 16 #[.pointer (some ⟨G, 0, none⟩)] w fun e w' => ∃ r1 r2 r3 r4 r5, e = .returned (.tuple #[.agg #[.int .i64 r1, .string r2, .string r3], .bool r4]) ∧ KeyIs s.data.toList r1 r2 r3 r4 r5 ∧ IsS41 w0 w' G r5 ∧ Below w0.heap.size w0 w' ∧ KeepBut w w' G none := by
  have hl := size_len s
  have hd := digs_le s.data.toList
  obtain ⟨m, hm⟩ : ∃ m, (digs s.data.toList).length = m := ⟨_, rfl⟩
  have hco : norm_reader_count.f s = some (countR s) := by unfold norm_reader_count.f; rw [if_pos hs]
  have hke : keyP s.data.toList = if 4 < m then none else opP (numD 0 (digs s.data.toList)) (s.data.toList.drop m) := by unfold keyP; rw [hm]
  unfold countR at hco
  rw [hm] at hd hco
  have HI := Lib.hid hI
  have HB := Lib.hid hB
  have HG := blk_lt hI.1
  have HS := hB.size
  have hz0 := heap_alloc_new w (.cells #[.int .i64 0, .string ⟨#[]⟩, .string ⟨#[]⟩] 38)
  by_cases h4 : 4 < m
  · rw [if_pos h4] at hke
    rw [if_pos h4, show decide (m ≤ 4) = false by simp; omega] at hco
    have HC := Lib.hid (norm_reader_count.calls G s _ _ _ w0 (w.alloc (.cells #[.int .i64 0, .string ⟨#[]⟩, .string ⟨#[]⟩] 38)) (HI.out.alloc _) (below_alloc HB.out _) hco)
    clear hco hI hB
    go_enter Tryd.func16, Tryd.ntmps16
    go_wp2_with (first
      | (go_at_call 24; (with_reducible refine HC.out.mono ?_); rintro e w5 ⟨rfl, hi5, hb5, hk5⟩; have HI5 := Lib.hid hi5; have HB5 := Lib.hid hb5; have HK5 := Lib.hid hk5; have hc5 := KeepBut.blk hk5 hz0 (by omega) (by simp); have e0 := blk_cell hc5 0; have e1 := blk_cell hc5 1; have e2 := blk_cell hc5 2; have f0 := blk_frozen hc5 0; have f1 := blk_frozen hc5 1; have f2 := blk_frozen hc5 2; clear hi5 hb5 hk5)
      | go_in)
    refine bodyPost_ret (results_ct rfl _ _ w.heap.size 38 #[.int .i64 0, .string ⟨#[]⟩, .string ⟨#[]⟩] (0, 0) _ rfl (by
      refine blk_put (cs := #[.int .i64 0, .string ⟨#[]⟩, .string ⟨#[]⟩]) ?_ 2 _ rfl
      refine blk_put (cs := #[.int .i64 0, .string ⟨#[]⟩, .string ⟨#[]⟩]) ?_ 1 _ rfl
      refine blk_put (cs := #[.int .i64 0, .string ⟨#[]⟩, .string ⟨#[]⟩]) ?_ 0 _ rfl
      exact hc5) Tryd.underlying38 rfl (by kernel_rfl)) rfl ?_
    have hGn : G ≠ w.heap.size := by omega
    exact ⟨_, _, _, _, _, rfl, by unfold KeyIs; rw [hke], ((HI5.out.far hGn _).far hGn _).far hGn _, below_set (below_set (below_set HB5.out HS) HS) HS,
      keep_far (keep_far (keep_far (KeepBut.trans (keep_alloc (KeepBut.refl w G none) _) HK5.out (.inl rfl)) (Nat.le_refl _) _) (Nat.le_refl _) _) (Nat.le_refl _) _⟩
  · rw [if_neg h4] at hke
    rw [if_neg h4, show decide (m ≤ 4) = true by simp; omega] at hco
    have hx : s.extract m s.size = ofL (s.data.toList.drop m) := ext_list (by rw [extract_list]; rfl)
    rw [hx] at hco
    obtain ⟨n, hn⟩ : ∃ n, numD 0 (digs s.data.toList) = n := ⟨_, rfl⟩
    rw [hn] at hke hco
    obtain ⟨l, hll⟩ : ∃ l, s.data.toList.drop m = l := ⟨_, rfl⟩
    have hlz : l.length ≤ 1000000 := by rw [← hll, List.length_drop]; omega
    rw [hll] at hke hco
    have HC := Lib.hid (norm_reader_count.calls G s _ _ _ w0 (w.alloc (.cells #[.int .i64 0, .string ⟨#[]⟩, .string ⟨#[]⟩] 38)) (HI.out.alloc _) (below_alloc HB.out _) hco)
    clear hco hI hB hx hn hll hm hd hl hs h4
    cases l with
    | nil =>
      have h1 : (ofL []).toList = [] := ofL_toList []
      have h2 : (ofL []).toList.isEmpty = true := by rw [h1]; rfl
      obtain ⟨q, hq⟩ : ∃ q, ofL [] = q := ⟨_, rfl⟩
      rw [hq] at h1 h2 HC
      go_enter Tryd.func16, Tryd.ntmps16
      go_wp2_with (first
        | (go_at_call 24; (with_reducible refine HC.out.mono ?_); rintro e w5 ⟨rfl, hi5, hb5, hk5⟩; have HI5 := Lib.hid hi5; have HB5 := Lib.hid hb5; have HK5 := Lib.hid hk5; have hc5 := KeepBut.blk hk5 hz0 (by omega) (by simp); have e0 := blk_cell hc5 0; have e1 := blk_cell hc5 1; have e2 := blk_cell hc5 2; have f0 := blk_frozen hc5 0; have f1 := blk_frozen hc5 1; have f2 := blk_frozen hc5 2; have g0 := cellS41_0 hi5.1; clear hi5 hb5 hk5)
        | go_in)
      refine bodyPost_ret (results_ct rfl _ _ w.heap.size 38 #[.int .i64 0, .string ⟨#[]⟩, .string ⟨#[]⟩] (0, 0) _ rfl (by
        refine blk_put (cs := #[.int .i64 0, .string ⟨#[]⟩, .string ⟨#[]⟩]) ?_ 2 _ rfl
        refine blk_put (cs := #[.int .i64 0, .string ⟨#[]⟩, .string ⟨#[]⟩]) ?_ 1 _ rfl
        refine blk_put (cs := #[.int .i64 0, .string ⟨#[]⟩, .string ⟨#[]⟩]) ?_ 0 _ rfl
        exact hc5) Tryd.underlying38 rfl (by kernel_rfl)) rfl ?_
      have hGn : G ≠ w.heap.size := by omega
      exact ⟨_, _, _, _, _, rfl, by unfold KeyIs; rw [hke]; rfl, ((HI5.out.far hGn _).far hGn _).far hGn _, below_set (below_set (below_set HB5.out HS) HS) HS,
        keep_far (keep_far (keep_far (KeepBut.trans (keep_alloc (KeepBut.refl w G none) _) HK5.out (.inl rfl)) (Nat.le_refl _) _) (Nat.le_refl _) _) (Nat.le_refl _) _⟩
    | cons c t =>
      have HCut : Hid (∀ w1, IsS41 w0 w1 G (ofL (c :: t)) → Below w0.heap.size w0 w1 → Calls Tryd.prog 25 #[.pointer (some ⟨G, 0, none⟩), .int .i64 1] w1 fun e w' => e = .returned (.string (ofL [c])) ∧ IsS41 w0 w' G (ofL t) ∧ Below w0.heap.size w0 w' ∧ KeepBut w1 w' G none) := fun w1 hi hb => norm_reader_cut.calls G _ 1 _ _ w0 w1 hi hb (cut_one c t)
      have h1 : (ofL (c :: t)).toList.isEmpty = false := by rw [ofL_toList]; rfl
      have h2 : ¬ (ofL (c :: t)).toList = [] := by rw [ofL_toList]; simp
      obtain ⟨s5, hs5⟩ : ∃ q, ofL (c :: t) = q := ⟨_, rfl⟩
      obtain ⟨q, hq⟩ : ∃ q, ofL [c] = q := ⟨_, rfl⟩
      obtain ⟨u, hu⟩ : ∃ u, ofL t = u := ⟨_, rfl⟩
      rw [hs5] at h1 h2 HC HCut
      rw [hq, hu] at HCut
      clear hs5
      go_enter Tryd.func16, Tryd.ntmps16
      go_upto_if 30 with (first
        | (go_at_call 24; (with_reducible refine HC.out.mono ?_); rintro e w5 ⟨rfl, hi5, hb5, hk5⟩; have HI5 := Lib.hid hi5; have HB5 := Lib.hid hb5; have HK5 := Lib.hid hk5; have hc5 := KeepBut.blk hk5 hz0 (by omega) (by simp); have g0 := cellS41_0 hi5.1; clear hi5 hb5 hk5)
        | (go_at_call 25; (with_reducible refine (HCut.out _ HI5.out HB5.out).mono ?_); rintro e w6 ⟨rfl, hi6, hb6, hk6⟩; have HI6 := Lib.hid hi6; have HB6 := Lib.hid hb6; have HK6 := Lib.hid hk6; have hc6 := KeepBut.blk hk6 hc5 (by omega) (by simp); clear hi6 hb6 hk6)
        | go_in)
      have hb1 := heap_alloc_new w6 (.cells #[.int .i64 n, .string q, .string ⟨#[]⟩] 38)
      have hb0 := blk_alloc hc6 (.cells #[.int .i64 n, .string q, .string ⟨#[]⟩] 38)
      have HIA := Lib.hid (HI6.out.alloc (.cells #[.int .i64 n, .string q, .string ⟨#[]⟩] 38))
      have HBA := Lib.hid (below_alloc HB6.out (.cells #[.int .i64 n, .string q, .string ⟨#[]⟩] 38))
      have HKA := Lib.hid (keep_alloc (KeepBut.trans (KeepBut.trans (keep_alloc (KeepBut.refl w G none) (.cells #[.int .i64 0, .string ⟨#[]⟩, .string ⟨#[]⟩] 38)) HK5.out (.inl rfl)) HK6.out (.inl rfl)) (.cells #[.int .i64 n, .string q, .string ⟨#[]⟩] 38))
      have hlt6 : w.heap.size < w6.heap.size := blk_lt hc6
      obtain ⟨B1, hB1⟩ : ∃ B1, w6.heap.size = B1 := ⟨_, rfl⟩
      rw [hB1] at hb1 hlt6 ⊢
      generalize w6.alloc (.cells #[.int .i64 n, .string q, .string ⟨#[]⟩] 38) = wA at hb1 hb0 HIA HBA HKA ⊢
      obtain ⟨B0, hB0⟩ : ∃ B0, w.heap.size = B0 := ⟨_, rfl⟩
      have HS0 : w.heap.size ≤ B0 := by omega
      have HSB : w0.heap.size ≤ B0 := by omega
      have HS1 : w.heap.size ≤ B1 := by omega
      have HSB1 : w0.heap.size ≤ B1 := by omega
      have n0G : B0 ≠ G := by omega
      have nG0 : G ≠ B0 := by omega
      have n1G : B1 ≠ G := by omega
      have nG1 : G ≠ B1 := by omega
      have n01 : B0 ≠ B1 := by omega
      have n10 : B1 ≠ B0 := by omega
      rw [hB0] at hb0 ⊢
      have a00 := blk_cell hb0 0
      have a01 := blk_cell hb0 1
      have a02 := blk_cell hb0 2
      have a10 := blk_cell hb1 0
      have a11 := blk_cell hb1 1
      have a12 := blk_cell hb1 2
      have y00 := blk_frozen hb0 0
      have y01 := blk_frozen hb0 1
      have y02 := blk_frozen hb0 2
      have y10 := blk_frozen hb1 0
      have y11 := blk_frozen hb1 1
      have y12 := blk_frozen hb1 2
      have aG := cellS41_0 HIA.out.1
      have yG := blk_frozen HIA.out.1 0
      have HQ : Hid (q.toList = [c]) := Lib.hid (by rw [← hq, ofL_toList])
      clear hc6 hc5 HK6 HB6 HI6 HK5 HB5 HI5 g0 hz0 h1 h2 hB1 HC HCut HI HB HG HS hB0 hlt6
      go_cut [30] (fun vt wc => vt = .bool (oneB.contains c) ∧ wA = wc)
      case first =>
        by_cases k106 : c = 106
        · subst k106
          rw [show (q.toList == [106]) = true by rw [HQ.out]; rfl]
          clear HQ
          go_wp2
          go_meet
          case rel => exact ⟨rfl, rfl⟩
        rw [show (q.toList == [106]) = false by rw [HQ.out]; simpa using k106]
        go_upto_region 7 with (go_in)
        go_upto_if 30 with (go_in)
        by_cases k107 : c = 107
        · subst k107
          rw [show (q.toList == [107]) = true by rw [HQ.out]; rfl]
          clear HQ
          go_wp2
          go_meet
          case rel => exact ⟨rfl, rfl⟩
        rw [show (q.toList == [107]) = false by rw [HQ.out]; simpa using k107]
        go_upto_region 8 with (go_in)
        go_upto_if 30 with (go_in)
        by_cases k71 : c = 71
        · subst k71
          rw [show (q.toList == [71]) = true by rw [HQ.out]; rfl]
          clear HQ
          go_wp2
          go_meet
          case rel => exact ⟨rfl, rfl⟩
        rw [show (q.toList == [71]) = false by rw [HQ.out]; simpa using k71]
        go_upto_region 9 with (go_in)
        go_upto_if 30 with (go_in)
        by_cases k112 : c = 112
        · subst k112
          rw [show (q.toList == [112]) = true by rw [HQ.out]; rfl]
          clear HQ
          go_wp2
          go_meet
          case rel => exact ⟨rfl, rfl⟩
        rw [show (q.toList == [112]) = false by rw [HQ.out]; simpa using k112]
        go_upto_region 10 with (go_in)
        go_upto_if 30 with (go_in)
        by_cases k80 : c = 80
        · subst k80
          rw [show (q.toList == [80]) = true by rw [HQ.out]; rfl]
          clear HQ
          go_wp2
          go_meet
          case rel => exact ⟨rfl, rfl⟩
        rw [show (q.toList == [80]) = false by rw [HQ.out]; simpa using k80]
        go_upto_region 11 with (go_in)
        go_upto_if 30 with (go_in)
        by_cases k74 : c = 74
        · subst k74
          rw [show (q.toList == [74]) = true by rw [HQ.out]; rfl]
          clear HQ
          go_wp2
          go_meet
          case rel => exact ⟨rfl, rfl⟩
        rw [show (q.toList == [74]) = false by rw [HQ.out]; simpa using k74]
        go_upto_region 12 with (go_in)
        go_upto_if 30 with (go_in)
        by_cases k120 : c = 120
        · subst k120
          rw [show (q.toList == [120]) = true by rw [HQ.out]; rfl]
          clear HQ
          go_wp2
          go_meet
          case rel => exact ⟨rfl, rfl⟩
        rw [show (q.toList == [120]) = false by rw [HQ.out]; simpa using k120]
        go_upto_region 13 with (go_in)
        go_upto_if 30 with (go_in)
        by_cases k126 : c = 126
        · subst k126
          rw [show (q.toList == [126]) = true by rw [HQ.out]; rfl]
          clear HQ
          go_wp2
          go_meet
          case rel => exact ⟨rfl, rfl⟩
        rw [show (q.toList == [126]) = false by rw [HQ.out]; simpa using k126]
        go_upto_region 14 with (go_in)
        go_wp2
        go_meet
        case rel => exact ⟨congrArg Value.bool (last_one HQ.out k106 k107 k71 k112 k80 k74 k120 k126), rfl⟩
      case rest =>
        obtain ⟨rfl, rfl⟩ := hcut
        by_cases gone : oneB.contains c = true
        · rw [gone]
          clear HQ
          have HKI : Hid (KeyIs s.data.toList n q ⟨#[]⟩ true u) := Lib.hid (by
            unfold KeyIs
            rw [hke, ← hq, ← hu]
            simp only [opP, gone, if_true]
            first | exact ⟨rfl, trivial, trivial⟩ | exact ⟨trivial, trivial, trivial⟩)
          as_aux_lemma =>
            go_wp2
            refine bodyPost_ret (results_ct rfl _ _ B0 38 #[.int .i64 n, .string q, .string ⟨#[]⟩] (0, 0) _ rfl (by
              refine blk_put (cs := #[.int .i64 n, .string q, .string ⟨#[]⟩]) ?_ 2 _ rfl
              refine blk_put (cs := #[.int .i64 n, .string ⟨#[]⟩, .string ⟨#[]⟩]) ?_ 1 _ rfl
              refine blk_put (cs := #[.int .i64 0, .string ⟨#[]⟩, .string ⟨#[]⟩]) ?_ 0 _ rfl
              repeat (with_reducible first | exact hb0 | refine blk_far ?_ n01 _ | refine blk_far ?_ n0G _ | refine blk_drewN ?_ _ | refine blk_drew ?_)) Tryd.underlying38 rfl (by kernel_rfl)) rfl ?_
            refine ⟨_, _, _, _, u, rfl, HKI.out, ?_, ?_, ?_⟩
            · repeat (with_reducible first | exact HIA.out | apply IsS41.drewN | apply IsS41.drew | apply IsS41.set_0 | refine IsS41.far ?_ nG0 _ | refine IsS41.far ?_ nG1 _)
            · repeat (with_reducible first | exact HBA.out | apply pw_below_drewN | apply below_drew1 | refine below_set ?_ HSB | refine below_set ?_ HSB1 | refine below_set ?_ HIA.out.ge)
            · repeat (with_reducible first | exact HKA.out | apply KeepBut.set_ | apply keep_drewN | apply keep_drew | refine keep_far ?_ HS0 _ | refine keep_far ?_ HS1 _)
        have gone : oneB.contains c = false := by simpa using gone
        rw [gone]
        go_upto_region 16 with (go_in)
        go_upto_if 41 with (go_in)
        go_cut [41] (fun vt wc => vt = .bool (twoB.contains c) ∧ wA = wc)
        case first =>
          by_cases k103 : c = 103
          · subst k103
            rw [show (q.toList == [103]) = true by rw [HQ.out]; rfl]
            clear HQ
            go_wp2
            go_meet
            case rel => exact ⟨rfl, rfl⟩
          rw [show (q.toList == [103]) = false by rw [HQ.out]; simpa using k103]
          go_upto_region 17 with (go_in)
          go_upto_if 41 with (go_in)
          by_cases k100 : c = 100
          · subst k100
            rw [show (q.toList == [100]) = true by rw [HQ.out]; rfl]
            clear HQ
            go_wp2
            go_meet
            case rel => exact ⟨rfl, rfl⟩
          rw [show (q.toList == [100]) = false by rw [HQ.out]; simpa using k100]
          go_upto_region 18 with (go_in)
          go_upto_if 41 with (go_in)
          by_cases k121 : c = 121
          · subst k121
            rw [show (q.toList == [121]) = true by rw [HQ.out]; rfl]
            clear HQ
            go_wp2
            go_meet
            case rel => exact ⟨rfl, rfl⟩
          rw [show (q.toList == [121]) = false by rw [HQ.out]; simpa using k121]
          go_upto_region 19 with (go_in)
          go_upto_if 41 with (go_in)
          by_cases k62 : c = 62
          · subst k62
            rw [show (q.toList == [62]) = true by rw [HQ.out]; rfl]
            clear HQ
            go_wp2
            go_meet
            case rel => exact ⟨rfl, rfl⟩
          rw [show (q.toList == [62]) = false by rw [HQ.out]; simpa using k62]
          go_upto_region 20 with (go_in)
          go_wp2
          go_meet
          case rel => exact ⟨congrArg Value.bool (last_two HQ.out k103 k100 k121 k62), rfl⟩
        case rest =>
          obtain ⟨rfl, rfl⟩ := hcut
          by_cases gtwo : twoB.contains c = true
          · rw [gtwo]
            clear HQ
            obtain ⟨p, is, HP, HKI⟩ : ∃ p is, Hid (∀ w, Calls Tryd.prog 26 #[.string u, .string q] w fun e w' => e = .returned (.tuple #[.string p, .bool is]) ∧ w = w') ∧ Hid (KeyIs s.data.toList n (q ++ q) ⟨#[]⟩ is p) := by
              refine ⟨_, _, Lib.hid (fun w => (Tryd.strings_CutPrefix u q w).mono (fun _ _ h => ⟨h.1, h.2.symm⟩)), Lib.hid ?_⟩
              unfold KeyIs
              rw [hke, ← hq, ← hu]
              exact two_is n c t gone gtwo
            have hqz : q.size + q.size ≤ 9223372036854775807 := by rw [← hq, ofL_size]; simp
            as_aux_lemma =>
              go_wp2
              go_region_law (first | (go_simp; go_at_call 26; (with_reducible refine (HP.out _).mono ?_); rintro e w7 ⟨rfl, rfl⟩))
              all_goals
                go_wp2
                refine bodyPost_ret (results_ct rfl _ _ B0 38 #[.int .i64 n, .string (q ++ q), .string ⟨#[]⟩] (0, 0) _ rfl (by
                  refine blk_put (cs := #[.int .i64 n, .string (q ++ q), .string ⟨#[]⟩]) ?_ 2 _ rfl
                  refine blk_put (cs := #[.int .i64 n, .string ⟨#[]⟩, .string ⟨#[]⟩]) ?_ 1 _ rfl
                  refine blk_put (cs := #[.int .i64 0, .string ⟨#[]⟩, .string ⟨#[]⟩]) ?_ 0 _ rfl
                  repeat (with_reducible first | exact hb0 | refine blk_far ?_ n01 _ | refine blk_far ?_ n0G _ | refine blk_drewN ?_ _ | refine blk_drew ?_)) Tryd.underlying38 rfl (by kernel_rfl)) rfl ?_
                refine ⟨_, _, _, _, p, rfl, HKI.out, ?_, ?_, ?_⟩
                · repeat (with_reducible first | exact HIA.out | apply IsS41.drewN | apply IsS41.drew | apply IsS41.set_0 | refine IsS41.far ?_ nG0 _ | refine IsS41.far ?_ nG1 _)
                · repeat (with_reducible first | exact HBA.out | apply pw_below_drewN | apply below_drew1 | refine below_set ?_ HSB | refine below_set ?_ HSB1 | refine below_set ?_ HIA.out.ge)
                · repeat (with_reducible first | exact HKA.out | apply KeepBut.set_ | apply keep_drewN | apply keep_drew | refine keep_far ?_ HS0 _ | refine keep_far ?_ HS1 _)
          have gtwo : twoB.contains c = false := by simpa using gtwo
          rw [gtwo]
          go_upto_region 25 with (go_in)
          go_upto_if 69 with (go_in)
          go_cut [69] (fun vt wc => vt = .bool (regB.contains c) ∧ wA = wc)
          case first =>
            by_cases k34 : c = 34
            · subst k34
              rw [show (q.toList == [34]) = true by rw [HQ.out]; rfl]
              clear HQ
              go_wp2
              go_meet
              case rel => exact ⟨rfl, rfl⟩
            rw [show (q.toList == [34]) = false by rw [HQ.out]; simpa using k34]
            go_upto_region 26 with (go_in)
            go_wp2
            go_meet
            case rel => exact ⟨congrArg Value.bool (last_reg HQ.out k34), rfl⟩
          case rest =>
            obtain ⟨rfl, rfl⟩ := hcut
            by_cases greg : regB.contains c = true
            · rw [greg]
              clear HQ
              cases t with
              | nil =>
                have h1 : u.toList = [] := by rw [← hu, ofL_toList]
                have h2 : u.toList.isEmpty = true := by rw [h1]; rfl
                have HKI : Hid (KeyIs s.data.toList n q ⟨#[]⟩ false u) := Lib.hid (by
                  unfold KeyIs
                  rw [hke]
                  simp only [opP, gone, gtwo, greg, Bool.false_eq_true, if_false, if_true])
                clear hu
                as_aux_lemma =>
                  go_wp2
                  refine bodyPost_ret (results_ct rfl _ _ B0 38 #[.int .i64 n, .string q, .string ⟨#[]⟩] (0, 0) _ rfl (by
                    refine blk_put (cs := #[.int .i64 n, .string q, .string ⟨#[]⟩]) ?_ 2 _ rfl
                    refine blk_put (cs := #[.int .i64 n, .string ⟨#[]⟩, .string ⟨#[]⟩]) ?_ 1 _ rfl
                    refine blk_put (cs := #[.int .i64 0, .string ⟨#[]⟩, .string ⟨#[]⟩]) ?_ 0 _ rfl
                    repeat (with_reducible first | exact hb0 | refine blk_far ?_ n01 _ | refine blk_far ?_ n0G _ | refine blk_drewN ?_ _ | refine blk_drew ?_)) Tryd.underlying38 rfl (by kernel_rfl)) rfl ?_
                  refine ⟨_, _, _, _, u, rfl, HKI.out, ?_, ?_, ?_⟩
                  · repeat (with_reducible first | exact HIA.out | apply IsS41.drewN | apply IsS41.drew | apply IsS41.set_0 | refine IsS41.far ?_ nG0 _ | refine IsS41.far ?_ nG1 _)
                  · repeat (with_reducible first | exact HBA.out | apply pw_below_drewN | apply below_drew1 | refine below_set ?_ HSB | refine below_set ?_ HSB1 | refine below_set ?_ HIA.out.ge)
                  · repeat (with_reducible first | exact HKA.out | apply KeepBut.set_ | apply keep_drewN | apply keep_drew | refine keep_far ?_ HS0 _ | refine keep_far ?_ HS1 _)
              | cons d t =>
                have h1 : ¬ u.toList = [] := by rw [← hu, ofL_toList]; simp
                have h2 : u.toList.isEmpty = false := by rw [← hu, ofL_toList]; rfl
                obtain ⟨d1, hd1⟩ : ∃ q, ofL [d] = q := ⟨_, rfl⟩
                obtain ⟨u1, hu1⟩ : ∃ q, ofL t = q := ⟨_, rfl⟩
                have HC7 : Hid (∀ w1, IsS41 w0 w1 G u → Below w0.heap.size w0 w1 → Calls Tryd.prog 25 #[.pointer (some ⟨G, 0, none⟩), .int .i64 1] w1 fun e w' => e = .returned (.string d1) ∧ IsS41 w0 w' G u1 ∧ Below w0.heap.size w0 w' ∧ KeepBut w1 w' G none) := Lib.hid (by rw [← hd1, ← hu1, ← hu]; exact fun w1 hi hb => norm_reader_cut.calls G _ 1 _ _ w0 w1 hi hb (cut_one d t))
                have HKI : Hid (KeyIs s.data.toList n q d1 true u1) := Lib.hid (by
                  unfold KeyIs
                  rw [hke, ← hq, ← hd1, ← hu1]
                  simp only [opP, gone, gtwo, greg, Bool.false_eq_true, if_false, if_true]
                  first | exact ⟨rfl, trivial, trivial⟩ | exact ⟨trivial, trivial, trivial⟩)
                clear hu
                as_aux_lemma =>
                  go_wp2_with (first
                    | (go_at_call 25; (with_reducible refine (HC7.out _ HIA.out HBA.out).mono ?_); rintro e w7 ⟨rfl, hi7, hb7, hk7⟩; have HI7 := Lib.hid hi7; have HB7 := Lib.hid hb7; have HK7 := Lib.hid (KeepBut.trans HKA.out hk7 (.inl rfl)); have c0 := KeepBut.blk hk7 hb0 n0G (by simp); have c1 := KeepBut.blk hk7 hb1 n1G (by simp); have z00 := blk_cell c0 0; have z01 := blk_cell c0 1; have z02 := blk_cell c0 2; have z10 := blk_cell c1 0; have z11 := blk_cell c1 1; have z12 := blk_cell c1 2; have v00 := blk_frozen c0 0; have v01 := blk_frozen c0 1; have v02 := blk_frozen c0 2; have v10 := blk_frozen c1 0; have v11 := blk_frozen c1 1; have v12 := blk_frozen c1 2; have zG := cellS41_0 hi7.1; have vG := blk_frozen hi7.1 0; clear hi7 hb7 hk7)
                    | go_in)
                  refine bodyPost_ret (results_ct rfl _ _ B0 38 #[.int .i64 n, .string q, .string d1] (0, 0) _ rfl (by
                    refine blk_put (cs := #[.int .i64 n, .string q, .string ⟨#[]⟩]) ?_ 2 _ rfl
                    refine blk_put (cs := #[.int .i64 n, .string ⟨#[]⟩, .string ⟨#[]⟩]) ?_ 1 _ rfl
                    refine blk_put (cs := #[.int .i64 0, .string ⟨#[]⟩, .string ⟨#[]⟩]) ?_ 0 _ rfl
                    repeat (with_reducible first | exact c0 | refine blk_far ?_ n01 _ | refine blk_far ?_ n0G _ | refine blk_drewN ?_ _ | refine blk_drew ?_)) Tryd.underlying38 rfl (by kernel_rfl)) rfl ?_
                  refine ⟨_, _, _, _, u1, rfl, HKI.out, ?_, ?_, ?_⟩
                  · repeat (with_reducible first | exact HI7.out | apply IsS41.drewN | apply IsS41.drew | apply IsS41.set_0 | refine IsS41.far ?_ nG0 _ | refine IsS41.far ?_ nG1 _)
                  · repeat (with_reducible first | exact HB7.out | apply pw_below_drewN | apply below_drew1 | refine below_set ?_ HSB | refine below_set ?_ HSB1 | refine below_set ?_ HI7.out.ge)
                  · repeat (with_reducible first | exact HK7.out | apply KeepBut.set_ | apply keep_drewN | apply keep_drew | refine keep_far ?_ HS0 _ | refine keep_far ?_ HS1 _)
            have greg : regB.contains c = false := by simpa using greg
            rw [greg]
            go_upto_region 31 with (go_in)
            go_upto_if 82 with (go_in)
            go_cut [82] (fun vt wc => vt = .bool (wrB.contains c) ∧ wA = wc)
            case first =>
              by_cases k65 : c = 65
              · subst k65
                rw [show (q.toList == [65]) = true by rw [HQ.out]; rfl]
                clear HQ
                go_wp2
                go_meet
                case rel => exact ⟨rfl, rfl⟩
              rw [show (q.toList == [65]) = false by rw [HQ.out]; simpa using k65]
              go_upto_region 32 with (go_in)
              go_upto_if 82 with (go_in)
              by_cases k73 : c = 73
              · subst k73
                rw [show (q.toList == [73]) = true by rw [HQ.out]; rfl]
                clear HQ
                go_wp2
                go_meet
                case rel => exact ⟨rfl, rfl⟩
              rw [show (q.toList == [73]) = false by rw [HQ.out]; simpa using k73]
              go_upto_region 33 with (go_in)
              go_upto_if 82 with (go_in)
              by_cases k111 : c = 111
              · subst k111
                rw [show (q.toList == [111]) = true by rw [HQ.out]; rfl]
                clear HQ
                go_wp2
                go_meet
                case rel => exact ⟨rfl, rfl⟩
              rw [show (q.toList == [111]) = false by rw [HQ.out]; simpa using k111]
              go_upto_region 34 with (go_in)
              go_wp2
              go_meet
              case rel => exact ⟨congrArg Value.bool (last_wr HQ.out k65 k73 k111), rfl⟩
            case rest =>
              obtain ⟨rfl, rfl⟩ := hcut
              by_cases gwr : wrB.contains c = true
              · rw [gwr]
                clear HQ
                obtain ⟨x1, x2, x3, hx⟩ : ∃ x1 x2 x3, cut27 t = (x1, x2, x3) := ⟨_, _, _, rfl⟩
                have HC7 : Hid (∀ w1, Calls Tryd.prog 27 #[.string u, .string ⟨#[27]⟩] w1 fun e w' => e = .returned (.tuple #[.string x1, .string x2, .bool x3]) ∧ Drawn0 w1 w') := Lib.hid (fun w1 => strings_Cut.calls u ⟨#[27]⟩ x1 x2 x3 w1 (by
                  unfold strings_Cut.f
                  rw [← hu, if_pos ⟨rfl, by rw [ofL_size]; simp at hlz; omega⟩]
                  exact congrArg some hx))
                have HKI : Hid (KeyIs s.data.toList n q x1 true x2) := Lib.hid (by
                  unfold KeyIs
                  rw [hke, ← hq]
                  unfold cut27 at hx
                  injection hx with e1 e2
                  injection e2 with e2 e3
                  simp only [opP, gone, gtwo, greg, gwr, Bool.false_eq_true, if_false, if_true]
                  exact ⟨by rw [← e1], trivial, e2.symm⟩)
                as_aux_lemma =>
                  go_wp2_with (first
                    | (go_at_call 27; (with_reducible refine (HC7.out _).mono ?_); rintro e w7 ⟨rfl, hd7⟩; have hi7 := HIA.out.below hd7.below; have hb7 := below_then HBA.out HBA.out.size hd7.below; have hk7 := KeepBut.of_below hd7.below G none; have HI7 := Lib.hid hi7; have HB7 := Lib.hid hb7; have HK7 := Lib.hid (KeepBut.trans HKA.out hk7 (.inl rfl)); have c0 := KeepBut.blk hk7 hb0 n0G (by simp); have c1 := KeepBut.blk hk7 hb1 n1G (by simp); have z00 := blk_cell c0 0; have z01 := blk_cell c0 1; have z02 := blk_cell c0 2; have z10 := blk_cell c1 0; have z11 := blk_cell c1 1; have z12 := blk_cell c1 2; have v00 := blk_frozen c0 0; have v01 := blk_frozen c0 1; have v02 := blk_frozen c0 2; have v10 := blk_frozen c1 0; have v11 := blk_frozen c1 1; have v12 := blk_frozen c1 2; have zG := cellS41_0 hi7.1; have vG := blk_frozen hi7.1 0; clear hi7 hb7 hk7; clear hd7)
                    | go_in)
                  refine bodyPost_ret (results_ct rfl _ _ B0 38 #[.int .i64 n, .string q, .string x1] (0, 0) _ rfl (by
                    refine blk_put (cs := #[.int .i64 n, .string q, .string ⟨#[]⟩]) ?_ 2 _ rfl
                    refine blk_put (cs := #[.int .i64 n, .string ⟨#[]⟩, .string ⟨#[]⟩]) ?_ 1 _ rfl
                    refine blk_put (cs := #[.int .i64 0, .string ⟨#[]⟩, .string ⟨#[]⟩]) ?_ 0 _ rfl
                    repeat (with_reducible first | exact c0 | refine blk_far ?_ n01 _ | refine blk_far ?_ n0G _ | refine blk_drewN ?_ _ | refine blk_drew ?_)) Tryd.underlying38 rfl (by kernel_rfl)) rfl ?_
                  refine ⟨_, _, _, _, x2, rfl, HKI.out, ?_, ?_, ?_⟩
                  · exact ((((HI7.out.far nG1 _).set_0 _).far nG0 _).far nG0 _).far nG0 _
                  · repeat (with_reducible first | exact HB7.out | apply pw_below_drewN | apply below_drew1 | refine below_set ?_ HSB | refine below_set ?_ HSB1 | refine below_set ?_ HI7.out.ge)
                  · repeat (with_reducible first | exact HK7.out | apply KeepBut.set_ | apply keep_drewN | apply keep_drew | refine keep_far ?_ HS0 _ | refine keep_far ?_ HS1 _)
              have gwr : wrB.contains c = false := by simpa using gwr
              rw [gwr]
              have HKI : Hid (KeyIs s.data.toList n q ⟨#[]⟩ false u) := Lib.hid (by
                unfold KeyIs
                rw [hke]
                simp only [opP, gone, gtwo, greg, gwr, Bool.false_eq_true, if_false])
              clear HQ
              as_aux_lemma =>
                go_wp2
                refine bodyPost_ret (results_ct rfl _ _ B0 38 #[.int .i64 n, .string q, .string ⟨#[]⟩] (0, 0) _ rfl (by
                  refine blk_put (cs := #[.int .i64 n, .string q, .string ⟨#[]⟩]) ?_ 2 _ rfl
                  refine blk_put (cs := #[.int .i64 n, .string ⟨#[]⟩, .string ⟨#[]⟩]) ?_ 1 _ rfl
                  refine blk_put (cs := #[.int .i64 0, .string ⟨#[]⟩, .string ⟨#[]⟩]) ?_ 0 _ rfl
                  repeat (with_reducible first | exact hb0 | refine blk_far ?_ n01 _ | refine blk_far ?_ n0G _ | refine blk_drewN ?_ _ | refine blk_drew ?_)) Tryd.underlying38 rfl (by kernel_rfl)) rfl ?_
                refine ⟨_, _, _, _, u, rfl, HKI.out, ?_, ?_, ?_⟩
                · repeat (with_reducible first | exact HIA.out | apply IsS41.drewN | apply IsS41.drew | apply IsS41.set_0 | refine IsS41.far ?_ nG0 _ | refine IsS41.far ?_ nG1 _)
                · repeat (with_reducible first | exact HBA.out | apply pw_below_drewN | apply below_drew1 | refine below_set ?_ HSB | refine below_set ?_ HSB1 | refine below_set ?_ HIA.out.ge)
                · repeat (with_reducible first | exact HKA.out | apply KeepBut.set_ | apply keep_drewN | apply keep_drew | refine keep_far ?_ HS0 _ | refine keep_far ?_ HS1 _)

end Go.Proofs.YtdkdoomjihflbaaDoor.NT
