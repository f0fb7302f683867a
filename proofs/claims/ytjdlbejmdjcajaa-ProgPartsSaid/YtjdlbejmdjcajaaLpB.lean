/- the law ProgParts: walked. -/
import Derived.Test.YtjdlbejmdjcajaaLpA
import Derived.Test.YtjdlbejmdjcajaaSaA
set_option linter.unusedVariables false
set_option linter.unusedSimpArgs false
namespace Go.Proofs.Ytjdlbejmdjcajaa
open Go.RowKit Go.Shelf Go.Maps Go.Proofs.YtjdlbejmdjcajaaW.PrintWords Go.Proofs.YtjdlbejmdjcajaaW.PrintLast

def letB (c : UInt8) : Bool := decide ((97 : Int) ≤ (c.toNat : Int)) && decide ((c.toNat : Int) ≤ 122)
theorem letB_iff (c : UInt8) : letB c = true ↔ letter c := by
  unfold letB letter
  simp only [Bool.and_eq_true, decide_eq_true_eq]
  omega
set_option maxRecDepth 100000 in
set_option maxHeartbeats 2000000 in
theorem plain04_any (s : ByteArray) (hsz : s.size ≤ 140737488351232) (w : World) : Calls Try.prog 11 #[.string s] w fun e w' => e = .returned (.bool (s.data.toList.all letB)) ∧ w' = w := by
  obtain ⟨P, hP⟩ : ∃ P, s.data.toList.all letB = P := ⟨_, rfl⟩
  rw [hP]
  have HPP := Lib.hid hP
  clear hP
  go_enter Try.func11, Try.ntmps11
  go_wp2
  go_loopw [3] (fun v3 wr => ∃ (j : Nat), v3 = .int .i64 j ∧ j ≤ s.size ∧ wr = w ∧ (s.data.toList.drop j).all letB = P) (fun v3 _ => s.size - (intOf v3).toNat)
  case atStart => exact ⟨0, rfl, Nat.zero_le _, rfl, HPP.out⟩
  case round =>
    rename World => wr
    obtain ⟨j, rfl, hj, hw, hall⟩ := hrel
    subst hw
    have hlen : s.data.toList.length = s.size := by simp
    by_cases hjn : j < s.size
    · have hd : s.data.toList.drop j = s[j] :: s.data.toList.drop (j + 1) := by
        rw [List.drop_eq_getElem_cons (by omega)]
        congr 1
      rw [hd, List.all_cons] at hall
      have i2 : (j : Int) < (s.size : Int) := by omega
      have HA := Lib.hid hall
      clear hd hall
      by_cases h1 : (97 : Int) ≤ (s[j].toNat : Int)
      · by_cases h2 : (s[j].toNat : Int) ≤ 122
        · go_wp2
          have ha := HA.out
          rw [show letB s[j] = true by unfold letB; simp [h1, h2], Bool.true_and] at ha
          refine ⟨⟨j + 1, by go_num, by omega, by trivial, ha⟩, ?_⟩
          simp [intOf]
          omega
        · go_wp2
          go_ret
          have ha := HA.out
          rw [show letB s[j] = false by unfold letB; simp [h1, h2], Bool.false_and] at ha
          subst ha
          exact ⟨rfl, rfl⟩
      · have q1 : decide ((97 : Int) ≤ (s[j].toNat : Int)) = false := decide_eq_false h1
        have q2 : (s[j].toNat : Int) < 97 := by omega
        go_wp2
        go_ret
        have ha := HA.out
        rw [show letB s[j] = false by unfold letB; simp [q1], Bool.false_and] at ha
        subst ha
        exact ⟨rfl, rfl⟩
    · obtain rfl : j = s.size := by omega
      rw [List.drop_of_length_le (by omega), List.all_nil] at hall
      have HA := Lib.hid hall
      clear hall
      go_wp2
      go_ret
      have ha := HA.out
      subst ha
      exact ⟨rfl, rfl⟩
/-- letters: parsed -/
theorem lparse (s : ByteArray) (hs : s.data.toList.all letB = true) (hl : s.size ≤ 300) (w : World) : Calls Try.prog 8 #[.string s, .string ⟨#[]⟩] w (ParsePost w (ptL s.data.toList)) :=
  parse_any (fun G => signok_none _ _ G) (parseG_of (letters_eval (fun c hc => (letB_iff c).1 (List.all_eq_true.1 hs c hc)) (by simpa using hl))) hl (by decide) w
theorem lcomp (s : ByteArray) (hl : s.size ≤ 300) {v : Value} {w : World} (hN : NsI w (fun _ => True) v (ptL s.data.toList).nk) : Calls Try.prog 9 #[.agg #[v, .int .i64 ((ptL s.data.toList).root : Int), .int .i64 0, .int .u8 0], .bool false] w (CompPost w 0 false (.ok (cdL s.data.toList, 0))) := by
  obtain ⟨h1, h2, h3, h4⟩ := letters_all s.data.toList (by have : s.data.toList.length = s.size := by simp
                                                           omega)
  exact comp_any hN (by omega) h3 h1 false h2 (fun h => by cases h)
theorem CodeM.of_row {w : World} {v : Value} {l : List Pp.In} (h : w.ownsRow 0 39 8 v l.length (l.flatMap inC)) : CodeM w (fun _ => True) v l := by
  rcases h.2 with ⟨e, h0⟩ | ⟨g, cap, cur, e, _, hg, hcap, hmx, hsz, htk⟩
  · exact ⟨none, 0, by rw [e, h0], by omega, by decide, fun h1 => by omega⟩
  · refine ⟨_, cap, e, hcap, hmx, fun h1 => ⟨g, 0, rfl, trivial, blk_lt hg, fun j x hj i u hu => ?_⟩⟩
    rw [blk_cell hg]
    have h9 := flat_inC l j x hj i u hu
    have hjl : j < l.length := (List.getElem?_eq_some_iff.1 hj).1
    have hil : i < 8 := (List.getElem?_eq_some_iff.1 hu).1
    rw [← htk, List.getElem?_take_of_lt (by omega)] at h9
    simpa using h9
theorem flat_cell {w : World} {b o : Nat} {l : List Pp.In} (h : ∀ (j : Nat) (x : Pp.In), l[j]? = some x → ∀ (i : Nat) (u : Value), (inC x)[i]? = some u → w.cell? ⟨b, o + j * 8 + i, none⟩ = some u) : ∀ (j : Nat) (u : Value), (l.flatMap inC)[j]? = some u → w.cell? ⟨b, o + j, none⟩ = some u := by
  intro j u hu
  have hlen : (l.flatMap inC).length = l.length * 8 := by
    clear hu h
    induction l with
    | nil => rfl
    | cons x l ih =>
      rw [List.flatMap_cons, List.length_append, ih]
      show 8 + _ = _
      rw [List.length_cons]
      omega
  have hjl : j < l.length * 8 := by rw [← hlen]; exact (List.getElem?_eq_some_iff.1 hu).1
  obtain ⟨x, hx⟩ : ∃ x, l[j / 8]? = some x := ⟨_, List.getElem?_eq_getElem (by omega)⟩
  obtain ⟨v, hv⟩ : ∃ v, (inC x)[j % 8]? = some v := ⟨_, List.getElem?_eq_getElem (show j % 8 < 8 by omega)⟩
  have h9 := flat_inC l (j / 8) x hx (j % 8) v hv
  rw [show j / 8 * 8 + j % 8 = j by omega] at h9
  obtain rfl := Option.some.inj (h9.symm.trans hu)
  have h8 := h _ x hx _ v hv
  rw [show o + j / 8 * 8 + j % 8 = o + j by omega] at h8
  exact h8
theorem flat_one (l : List Pp.In) : ∀ u ∈ l.flatMap inC, u.oneCell' = true := by
  intro u hu
  obtain ⟨x, _, hx⟩ := List.mem_flatMap.1 hu
  exact inC_one x u hx
theorem flat_len (l : List Pp.In) : (l.flatMap inC).length = l.length * 8 := by
  induction l with
  | nil => rfl
  | cons x l ih =>
    rw [List.flatMap_cons, List.length_append, ih]
    show 8 + _ = _
    rw [List.length_cons]
    omega
theorem own_ge {v : Value} {N : Nat} (h : v.ownBlock = (Value.slice none 0 0).ownBlock ∨ v.ownBlock = some N) : ∀ b, v.ownBlock = some b → N ≤ b := by
  intro b e
  rcases h with h9 | h9
  · rw [h9] at e
    simp [Value.ownBlock] at e
  · rw [h9] at e
    have := Option.some.inj e
    omega
/-- a pattern in a variable -/
def BoxP (w : World) (B : Nat) (A : Option Addr) (n c : Nat) (root : Int) (L : List Pp.Nk) : Prop :=
  w.heap[B]? = some (.cells #[.slice A n c, .int .i64 root, .int .i64 0, .int .u8 0] 25 (0, 0)) ∧ NsI w (fun _ => True) (.slice A n c) L
theorem BoxP.far {w w' : World} {B n c : Nat} {A : Option Addr} {root : Int} {L : List Pp.Nk} (h : BoxP w B A n c root L) (hb : Below w.heap.size w w') : BoxP w' B A n c root L :=
  ⟨(hb.block B (blk_lt h.1)).trans h.1, h.2.step hb.size fun b _ hl => ⟨hb.block b hl, trivial⟩⟩
theorem BoxP.cells {w : World} {B n c : Nat} {A : Option Addr} {root : Int} {L : List Pp.Nk} (h : BoxP w B A n c root L) : w.cell? ⟨B, 0, none⟩ = some (.slice A n c) ∧ w.cell? ⟨B, 1, none⟩ = some (.int .i64 root) ∧ w.cell? ⟨B, 2, none⟩ = some (.int .i64 0) ∧ w.cell? ⟨B, 3, none⟩ = some (.int .u8 0) := by
  refine ⟨?_, ?_, ?_, ?_⟩ <;> (rw [blk_cell h.1]; rfl)
/-- a program in a variable -/
def BoxC (w : World) (B : Nat) (A : Option Addr) (n c : Nat) (l : List Pp.In) : Prop :=
  w.heap[B]? = some (.cells #[.slice A n c, .int .i64 0, .bool false] 32 (0, 0)) ∧ CodeM w (fun _ => True) (.slice A n c) l ∧ n = l.length ∧ n ≤ c
theorem BoxC.far {w w' : World} {B n c : Nat} {A : Option Addr} {l : List Pp.In} (h : BoxC w B A n c l) (hb : Below w.heap.size w w') : BoxC w' B A n c l :=
  ⟨(hb.block B (blk_lt h.1)).trans h.1, h.2.1.step hb.size fun b _ hl => ⟨hb.block b hl, trivial⟩, h.2.2⟩
theorem BoxC.cells {w : World} {B n c : Nat} {A : Option Addr} {l : List Pp.In} (h : BoxC w B A n c l) : w.cell? ⟨B, 0, none⟩ = some (.slice A n c) ∧ w.cell? ⟨B, 1, none⟩ = some (.int .i64 0) ∧ w.cell? ⟨B, 2, none⟩ = some (.bool false) := by
  refine ⟨?_, ?_, ?_⟩ <;> (rw [blk_cell h.1]; rfl)
theorem boxp_new {w1 : World} {F : Nat → Prop} {A : Option Addr} {n c : Nat} {root : Int} {L : List Pp.Nk} (h : NsI w1 F (.slice A n c) L) : BoxP (w1.alloc (.cells #[.slice A n c, .int .i64 root, .int .i64 0, .int .u8 0] 25)) w1.heap.size A n c root L ∧ Below w1.heap.size w1 (w1.alloc (.cells #[.slice A n c, .int .i64 root, .int .i64 0, .int .u8 0] 25)) :=
  ⟨⟨alloc_at w1 _, h.step (below_alloc (Below.refl _ _) _).size fun b _ hl => ⟨(below_alloc (Below.refl w1.heap.size w1) _).block b hl, trivial⟩⟩, below_alloc (Below.refl _ _) _⟩
theorem boxc_new {w1 : World} {F : Nat → Prop} {A : Option Addr} {n c : Nat} {l : List Pp.In} (h : CodeM w1 F (.slice A n c) l) (hn : n = l.length) (hc : n ≤ c) : BoxC (w1.alloc (.cells #[.slice A n c, .int .i64 0, .bool false] 32)) w1.heap.size A n c l ∧ Below w1.heap.size w1 (w1.alloc (.cells #[.slice A n c, .int .i64 0, .bool false] 32)) :=
  ⟨⟨alloc_at w1 _, h.step (below_alloc (Below.refl _ _) _).size fun b _ hl => ⟨(below_alloc (Below.refl w1.heap.size w1) _).block b hl, trivial⟩, hn, hc⟩, below_alloc (Below.refl _ _) _⟩
set_option maxRecDepth 100000 in
set_option maxHeartbeats 8000000 in
theorem parts_walk (s : ByteArray) (hsz : s.size ≤ 140737488351232) (t : ByteArray) (htz : t.size ≤ 140737488351232) (w : World) :
    Calls Try.prog 4 #[.string s, .string t] w fun e w' => e = .returned (.bool true) ∧ Below w.heap.size w w' := by
  have HK := Lib.hid (known04_any)
  have HPS := Lib.hid (plain04_any s hsz)
  have HPT := Lib.hid (plain04_any t htz)
  by_cases h1 : 60 < s.size
  · have i1 : (60 : Int) < (s.size : Int) := by omega
    go_enter Try.func4, Try.ntmps4
    go_wp2_with fail
    refine (HK.out _).mono ?_
    rintro e w1 ⟨rfl, hb⟩
    have HB := Lib.hid hb
    clear hb
    go_wp2
    go_ret
    exact ⟨rfl, HB.out⟩
  have i1 : ¬ ((60 : Int) < (s.size : Int)) := by omega
  by_cases h2 : 60 < t.size
  · have i2 : (60 : Int) < (t.size : Int) := by omega
    go_enter Try.func4, Try.ntmps4
    go_wp2_with fail
    refine (HK.out _).mono ?_
    rintro e w1 ⟨rfl, hb⟩
    have HB := Lib.hid hb
    clear hb
    go_wp2
    go_ret
    exact ⟨rfl, HB.out⟩
  have i2 : ¬ ((60 : Int) < (t.size : Int)) := by omega
  cases hps : s.data.toList.all letB with
  | false =>
    rw [hps] at HPS
    clear hps
    go_enter Try.func4, Try.ntmps4
    go_wp2_with fail
    refine (HPS.out _).mono ?_
    rintro e w1 ⟨rfl, rfl⟩
    go_wp2_with fail
    refine (HK.out _).mono ?_
    rintro e w2 ⟨rfl, hb⟩
    have HB := Lib.hid hb
    clear hb
    go_wp2
    go_ret
    exact ⟨rfl, HB.out⟩
  | true =>
  cases hpt : t.data.toList.all letB with
  | false =>
    rw [hps] at HPS
    rw [hpt] at HPT
    clear hps hpt
    go_enter Try.func4, Try.ntmps4
    go_wp2_with fail
    refine (HPS.out _).mono ?_
    rintro e w1 ⟨rfl, rfl⟩
    go_wp2_with fail
    refine (HPT.out _).mono ?_
    rintro e w1 ⟨rfl, rfl⟩
    go_wp2_with fail
    refine (HK.out _).mono ?_
    rintro e w2 ⟨rfl, hb⟩
    have HB := Lib.hid hb
    clear hb
    go_wp2
    go_ret
    exact ⟨rfl, HB.out⟩
  | true =>
  rw [hps] at HPS
  rw [hpt] at HPT
  have hst : (s ++ t).data.toList = s.data.toList ++ t.data.toList := by simp
  have hpst : (s ++ t).data.toList.all letB = true := by rw [hst, List.all_append, hps, hpt]; rfl
  have hsst : (s ++ t).size ≤ 300 := by rw [ByteArray.size_append]; omega
  have HP1 := Lib.hid (lparse s hps (by omega))
  have HP2 := Lib.hid (lparse t hpt (by omega))
  have HP3 := Lib.hid (lparse (s ++ t) hpst hsst)
  have HS := Lib.hid (And.intro hst hsst)
  clear hps hpt hst hpst hsst
  go_enter Try.func4, Try.ntmps4
  go_wp2_with fail
  refine (HPS.out _).mono ?_
  rintro e w1 ⟨rfl, rfl⟩
  go_wp2_with fail
  refine (HPT.out _).mono ?_
  rintro e w1 ⟨rfl, rfl⟩
  go_wp2_with fail
  refine (HK.out _).mono ?_
  rintro e w0 ⟨rfl, hb0⟩
  have HB0 := Lib.hid hb0
  clear hb0
  go_wp2_with fail
  refine (HP1.out _).mono ?_
  rintro e w1 ⟨nv1, rfl, hb1, hn1⟩
  rw [show (((ptL s.data.toList).groups : Nat) : Int) = 0 from rfl, show (ptL s.data.toList).case = 0 from rfl]
  obtain ⟨A1, c1, rfl, _⟩ := hn1.slice
  obtain ⟨n1, hnk1⟩ : ∃ n, (ptL s.data.toList).nk.length = n := ⟨_, rfl⟩
  obtain ⟨r1, hrk1⟩ : ∃ r : Int, ((ptL s.data.toList).root : Int) = r := ⟨_, rfl⟩
  rw [hnk1] at hn1 ⊢
  rw [hrk1]
  obtain ⟨hx1, hy1⟩ := boxp_new (root := r1) hn1
  have HQ1 := Lib.hid (And.intro (HB0.out.trans ((hb1.trans (hy1.mono hb1.size)).mono HB0.out.size)) hx1)
  have HR1 := Lib.hid hrk1
  clear hb1 hn1 hx1 hy1 hnk1 hrk1 HP1
  go_wp2_with fail
  refine (HP2.out _).mono ?_
  rintro e w2 ⟨nv2, rfl, hb2, hn2⟩
  rw [show (((ptL t.data.toList).groups : Nat) : Int) = 0 from rfl, show (ptL t.data.toList).case = 0 from rfl]
  obtain ⟨A2, c2, rfl, _⟩ := hn2.slice
  obtain ⟨n2, hnk2⟩ : ∃ n, (ptL t.data.toList).nk.length = n := ⟨_, rfl⟩
  obtain ⟨r2, hrk2⟩ : ∃ r : Int, ((ptL t.data.toList).root : Int) = r := ⟨_, rfl⟩
  rw [hnk2] at hn2 ⊢
  rw [hrk2]
  obtain ⟨hx2, hy2⟩ := boxp_new (root := r2) hn2
  have hbb2 := hb2.trans (hy2.mono hb2.size)
  obtain ⟨q0, q1⟩ := HQ1.out
  have HQ2 := Lib.hid (And.intro (q0.trans (hbb2.mono q0.size)) (And.intro (q1.far hbb2) hx2))
  clear q0 q1 hbb2 HQ1
  have HR2 := Lib.hid hrk2
  clear hb2 hn2 hx2 hy2 hnk2 hrk2 HP2
  go_wp2_with fail
  refine (HP3.out _).mono ?_
  rintro e w3 ⟨nv3, rfl, hb3, hn3⟩
  rw [show (((ptL (s ++ t).data.toList).groups : Nat) : Int) = 0 from rfl, show (ptL (s ++ t).data.toList).case = 0 from rfl]
  obtain ⟨A3, c3, rfl, _⟩ := hn3.slice
  obtain ⟨n3, hnk3⟩ : ∃ n, (ptL (s ++ t).data.toList).nk.length = n := ⟨_, rfl⟩
  obtain ⟨r3, hrk3⟩ : ∃ r : Int, ((ptL (s ++ t).data.toList).root : Int) = r := ⟨_, rfl⟩
  rw [hnk3] at hn3 ⊢
  rw [hrk3]
  obtain ⟨hx3, hy3⟩ := boxp_new (root := r3) hn3
  have hbb3 := hb3.trans (hy3.mono hb3.size)
  obtain ⟨q0, q1, q2⟩ := HQ2.out
  have HQ3 := Lib.hid (And.intro (q0.trans (hbb3.mono q0.size)) (And.intro (q1.far hbb3) (And.intro (q2.far hbb3) hx3)))
  clear q0 q1 q2 hbb3 HQ2
  have HR3 := Lib.hid hrk3
  clear hb3 hn3 hx3 hy3 hnk3 hrk3 HP3
  obtain ⟨q0, q1, q2, q3⟩ := HQ3.out
  obtain ⟨a0, a1, a2, a3⟩ := q1.cells
  have hc1 := lcomp s (by omega) q1.2
  rw [HR1.out] at hc1
  have HC1 := Lib.hid hc1
  clear q0 q1 q2 q3 hc1
  go_wp2_with fail
  refine HC1.out.mono ?_
  rintro e x1 ⟨cv1, rfl, hb1, hm1⟩
  rw [show foldP 0 false = false from rfl, show ((0 : Nat) : Int) = 0 from rfl]
  obtain ⟨D1, d1, rfl, hd1, _, _⟩ := id hm1
  obtain ⟨m1, hmk1⟩ : ∃ m, (cdL s.data.toList).length = m := ⟨_, rfl⟩
  simp only [hmk1] at hm1 hd1 ⊢
  obtain ⟨hx1, hy1⟩ := boxc_new hm1 hmk1.symm hd1
  have hbb1 := hb1.trans (hy1.mono hb1.size)
  obtain ⟨q0, q1, q2, q3⟩ := HQ3.out
  have HZ1 := Lib.hid (And.intro (q0.trans (hbb1.mono q0.size)) (And.intro (q1.far hbb1) (And.intro (q2.far hbb1) (And.intro (q3.far hbb1) hx1))))
  have HM1 := Lib.hid hmk1
  clear q0 q1 q2 q3 hb1 hm1 hx1 hy1 hbb1 hmk1 HQ3 HC1 a0 a1 a2 a3
  obtain ⟨q0, q1, q2, q3, q4⟩ := HZ1.out
  obtain ⟨a0, a1, a2, a3⟩ := q2.cells
  have hc2 := lcomp t (by omega) q2.2
  rw [HR2.out] at hc2
  have HC2 := Lib.hid hc2
  clear q0 q1 q2 q3 q4 hc2
  go_wp2_with fail
  refine HC2.out.mono ?_
  rintro e x2 ⟨cv2, rfl, hb2, hm2⟩
  rw [show foldP 0 false = false from rfl, show ((0 : Nat) : Int) = 0 from rfl]
  obtain ⟨D2, d2, rfl, hd2, _, _⟩ := id hm2
  obtain ⟨m2, hmk2⟩ : ∃ m, (cdL t.data.toList).length = m := ⟨_, rfl⟩
  simp only [hmk2] at hm2 hd2 ⊢
  obtain ⟨hx2, hy2⟩ := boxc_new hm2 hmk2.symm hd2
  have hbb2 := hb2.trans (hy2.mono hb2.size)
  obtain ⟨q0, q1, q2, q3, q4⟩ := HZ1.out
  have HZ2 := Lib.hid (And.intro (q0.trans (hbb2.mono q0.size)) (And.intro (q1.far hbb2) (And.intro (q2.far hbb2) (And.intro (q3.far hbb2) (And.intro (q4.far hbb2) hx2)))))
  have HM2 := Lib.hid hmk2
  clear q0 q1 q2 q3 q4 hb2 hm2 hx2 hy2 hbb2 hmk2 HZ1 HC2 a0 a1 a2 a3
  obtain ⟨q0, q1, q2, q3, q4, q5⟩ := HZ2.out
  obtain ⟨a0, a1, a2, a3⟩ := q3.cells
  have hc3 := lcomp (s ++ t) HS.out.2 q3.2
  rw [HR3.out] at hc3
  have HC3 := Lib.hid hc3
  clear q0 q1 q2 q3 q4 q5 hc3
  go_wp2_with fail
  refine HC3.out.mono ?_
  rintro e x3 ⟨cv3, rfl, hb3, hm3⟩
  rw [show foldP 0 false = false from rfl, show ((0 : Nat) : Int) = 0 from rfl]
  obtain ⟨D3, d3, rfl, hd3, _, _⟩ := id hm3
  obtain ⟨m3, hmk3⟩ : ∃ m, (cdL (s ++ t).data.toList).length = m := ⟨_, rfl⟩
  simp only [hmk3] at hm3 hd3 ⊢
  obtain ⟨hx3, hy3⟩ := boxc_new hm3 hmk3.symm hd3
  have hbb3 := hb3.trans (hy3.mono hb3.size)
  obtain ⟨q0, q1, q2, q3, q4, q5⟩ := HZ2.out
  have HZ3 := Lib.hid (And.intro (q0.trans (hbb3.mono q0.size)) (And.intro (q1.far hbb3) (And.intro (q2.far hbb3) (And.intro (q3.far hbb3) (And.intro (q4.far hbb3) (And.intro (q5.far hbb3) hx3))))))
  have HM3 := Lib.hid hmk3
  clear q0 q1 q2 q3 q4 q5 hb3 hm3 hx3 hy3 hbb3 hmk3 HZ2 HC3 a0 a1 a2 a3
  obtain ⟨q0, q1, q2, q3, q4, q5, q6⟩ := HZ3.out
  have hm1 : m1 = s.size + 1 := by rw [← HM1.out]; simp [cdL]
  have hm2 : m2 = t.size + 1 := by rw [← HM2.out]; simp [cdL]
  have hm3 : m3 = s.size + t.size + 1 := by rw [← HM3.out, HS.out.1]; simp [cdL]; omega
  obtain ⟨k1, hk1⟩ : ∃ k1, s.size = k1 := ⟨_, rfl⟩
  rw [hk1] at hm1 hm3
  subst hm1
  obtain ⟨b1, o1, e1, hc1⟩ : ∃ b1 o1, D1 = some ⟨b1, o1, none⟩ ∧ ∀ (j : Nat) (x : Pp.In), (cdL s.data.toList)[j]? = some x → ∀ (i : Nat) (u : Value), (inC x)[i]? = some u → (x3.alloc (.cells #[.slice D3 m3 d3, .int .i64 0, .bool false] 32)).cell? ⟨b1, o1 + j * 8 + i, none⟩ = some u := by
    obtain ⟨_, _, e, _, _, h4⟩ := q4.2.1
    obtain ⟨b, o, e5, _, _, h6⟩ := h4 (by rw [HM1.out]; omega)
    injection e with e6
    subst e6
    exact ⟨b, o, e5, h6⟩
  obtain ⟨b2, o2, e2, hc2⟩ : ∃ b2 o2, D2 = some ⟨b2, o2, none⟩ ∧ ∀ (j : Nat) (x : Pp.In), (cdL t.data.toList)[j]? = some x → ∀ (i : Nat) (u : Value), (inC x)[i]? = some u → (x3.alloc (.cells #[.slice D3 m3 d3, .int .i64 0, .bool false] 32)).cell? ⟨b2, o2 + j * 8 + i, none⟩ = some u := by
    obtain ⟨_, _, e, _, _, h4⟩ := q5.2.1
    obtain ⟨b, o, e5, _, _, h6⟩ := h4 (by rw [HM2.out]; omega)
    injection e with e6
    subst e6
    exact ⟨b, o, e5, h6⟩
  subst e1 e2
  have hb2l : b2 < (x3.alloc (.cells #[.slice D3 m3 d3, .int .i64 0, .bool false] 32)).heap.size := by
    obtain ⟨_, _, e, _, _, h4⟩ := q5.2.1
    obtain ⟨b, o, e5, _, h6, _⟩ := h4 (by rw [HM2.out]; omega)
    injection e with e6
    rw [e5] at e6
    injection e6 with e6
    injection e6 with e7
    omega
  obtain ⟨a0, a1, a2⟩ := q4.cells
  obtain ⟨b0, b3, b4⟩ := q5.cells
  obtain ⟨e0, e3, e4⟩ := q6.cells
  have hd1 := q4.2.2.2
  have hd2 := q5.2.2.2
  have HMS := Lib.hid (And.intro hm2 hm3)
  have HK1 := Lib.hid hk1
  have hne : ((k1 : Int) + 1 + (m2 : Int) != (m3 : Int) + 1) = false := by
    have : (k1 : Int) + 1 + (m2 : Int) = (m3 : Int) + 1 := by omega
    rw [this]
    simp
  have l1 : k1 ≤ 60 := by omega
  have l2 : m2 ≤ 61 := by omega
  have l3 : m3 ≤ 121 := by omega
  have HC1 := Lib.hid (fun (j : Nat) (x : Pp.In) (hj : (s.data.toList.map byI)[j]? = some x) => hc1 j x (by
    unfold cdL
    rw [List.getElem?_append_left (List.getElem?_eq_some_iff.1 hj).1]
    exact hj))
  have HC2 := Lib.hid hc2
  have HNIL := Lib.hid (show (x3.alloc (.cells #[.slice D3 m3 d3, .int .i64 0, .bool false] 32)).ownsRow 0 39 8 (.slice none 0 0) 0 [] from ⟨rfl, .inl ⟨rfl, rfl⟩⟩)
  obtain ⟨i0, hi0, hz0, hz1, hz2⟩ := info_parts infoI
  have HINF := Lib.hid (And.intro hi0 (And.intro hz0 (And.intro hz1 hz2)))
  have HBL := Lib.hid hb2l
  clear q0 q1 q2 q3 q4 q5 q6 hm2 hm3 hk1 hc1 hc2 hi0 hz0 hz1 hz2 hb2l
  go_wp2_with (first
    | (at_builtin; refine wpList_append_own_at _ rfl _ _ 30 rfl 0 39 i0 zI 8 56 Try.underlying30 HINF.out.1 HINF.out.2.1 HINF.out.2.2.1 HINF.out.2.2.2 rfl (by decide) (.slice none 0 0) 0 [] rfl HNIL.out ⟨b1, o1, none⟩ k1 d1 ((s.data.toList.map byI).flatMap inC) rfl (by rw [flat_len]; have := HK1.out; simp; omega) ?hnp (flat_one _) (by unfold maxLen; omega) (by omega) (Nat.zero_le _) ?_; rotate_left; intro vp yp hrp hgp _ hap; obtain ⟨Ap, cp, hvp⟩ := irow_slice hrp; subst hvp; have hr1 : yp.ownsRow 0 39 8 (.slice Ap k1 cp) k1 ((s.data.toList.map byI).flatMap inC) := (by have h := hrp; rw [Nat.zero_add, List.nil_append] at h; exact h); have HN1 := Lib.hid hr1; have hown : ∀ b, (Value.slice Ap k1 cp).ownBlock = some b → (x3.alloc (.cells #[.slice D3 m3 d3, .int .i64 0, .bool false] 32)).heap.size ≤ b := (by rw [Nat.zero_add] at hap; exact own_ge hap); have HOW := Lib.hid hown; clear hr1 hown; have hbp : Below (x3.alloc (.cells #[.slice D3 m3 d3, .int .i64 0, .bool false] 32)).heap.size (x3.alloc (.cells #[.slice D3 m3 d3, .int .i64 0, .bool false] 32)) yp := ⟨hgp.os, hgp.tape, hgp.output, hgp.size, fun b hb => hgp.block b hb (by simp [Value.ownBlock])⟩; obtain ⟨q0, q1, q2, q3, q4, q5, q6⟩ := HZ3.out; have q5b := q5.far hbp; have q6b := q6.far hbp; have g5 := q5b.cells.1; have HP1 := Lib.hid (And.intro (q0.trans (hbp.mono q0.size)) (And.intro q5b (And.intro q6b hbp))); clear q0 q1 q2 q3 q4 q5 q6 q5b q6b hbp hrp hgp hap)
    | (at_builtin; refine wpList_append_own_at _ rfl _ _ 30 rfl 0 39 i0 zI 8 56 Try.underlying30 HINF.out.1 HINF.out.2.1 HINF.out.2.2.1 HINF.out.2.2.2 rfl (by decide) (.slice Ap k1 cp) k1 ((s.data.toList.map byI).flatMap inC) rfl HN1.out ⟨b2, o2, none⟩ m2 d2 ((cdL t.data.toList).flatMap inC) rfl (by rw [flat_len, HM2.out]) ?hnq (flat_one _) (by unfold maxLen; omega) (by omega) (Nat.zero_le _) ?_; rotate_left; intro vq yq hrq hgq _ haq; obtain ⟨Aq, cq, hvq⟩ := irow_slice hrq; subst hvq; have hbq : Below (x3.alloc (.cells #[.slice D3 m3 d3, .int .i64 0, .bool false] 32)).heap.size (x3.alloc (.cells #[.slice D3 m3 d3, .int .i64 0, .bool false] 32)) yq := HP1.out.2.2.2.grown hgq HP1.out.2.2.2.size HOW.out; obtain ⟨q0, q1, q2, q3, q4, q5, q6⟩ := HZ3.out; have q6b := q6.far hbq; obtain ⟨u0, u1, u2⟩ := q6b.cells; have HQF := Lib.hid (And.intro (q0.trans (hbq.mono q0.size)) (And.intro q6b hrq)); clear q0 q1 q2 q3 q4 q5 q6 q6b hbq hrq hgq haq))
  case hnp =>
    intro j u hu
    exact flat_cell HC1.out j u hu
  case hnq =>
    intro j u hu
    exact (World.cell?_of_block (a := ⟨b2, o2 + j, none⟩) (HP1.out.2.2.2.block b2 HBL.out)).trans (flat_cell HC2.out j u hu)
  have hcl : cdL (s ++ t).data.toList = s.data.toList.map byI ++ cdL t.data.toList := by
    rw [HS.out.1]
    simp [cdL]
  have hrow : yq.ownsRow 0 39 8 (.slice Aq (k1 + m2) cq) (cdL (s ++ t).data.toList).length ((cdL (s ++ t).data.toList).flatMap inC) := by
    have h9 := HQF.out.2.2
    rw [hcl, List.flatMap_append]
    have h8 : (s.data.toList.map byI ++ cdL t.data.toList).length = k1 + m2 := by
      rw [List.length_append, HM2.out, ← HK1.out]
      simp
    rw [h8]
    exact h9
  have hml : (cdL (s ++ t).data.toList).length ≤ 100000 := by rw [HM3.out]; omega
  have HSM := Lib.hid (same_any (r := 0) (f := false) (CodeM.of_row hrow) HQF.out.2.1.2.1 hml)
  clear hrow hcl hml
  refine HSM.out.mono ?_
  rintro e yz ⟨rfl, hbz⟩
  have HBZ := Lib.hid (HQF.out.1.trans (hbz.mono HQF.out.1.size))
  clear hbz
  go_wp2
  go_ret
  exact ⟨rfl, HBZ.out⟩
end Go.Proofs.Ytjdlbejmdjcajaa
