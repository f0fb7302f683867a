/- The tree's insert, walked. -/
import Derived.Test.YtdhemdeapphfoaaGreatDoorBtF
set_option linter.unusedVariables false
set_option linter.unusedSimpArgs false
namespace Go.Proofs.YtdhemdeapphfoaaGreatDoor
open Go.RowKit Go.Shelf Go.Proofs.YtdhemdeapphfoaaGreatDoorW.PrintWords Go.Proofs.YtdhemdeapphfoaaGreatDoorW.PrintLast

theorem find_ta {w : World} {F : Nat → Prop} {B : Nat} {A : List Bt.Nd} {fr : List Nat} {root : Nat} (h : Ta w F B A fr root) {k i : Nat} {n : Bt.Nd} (hn : A[k]? = some n) (hne : n.ks ≠ [])
    (hk : ∀ j ∈ n.ks, ∃ y, A[j]? = some y ∧ 0 ≤ y.ct) (hi : i ≤ 4611686018427387904) :
    Calls Tryz.prog 68 #[.pointer (some ⟨B, 0, none⟩), .int .i64 k, .int .i64 i] w fun e w' => e = .returned (.tuple #[.int .i64 (Bt.find A n.ks 0 i).1, .int .i64 (Bt.find A n.ks 0 i).2]) ∧ w = w' := by
  obtain ⟨N, cap, fv, bytes, L, hT, rfl⟩ := h
  obtain ⟨x, hx, rfl⟩ := pus_some hn
  exact find_any hT hx hne (fun j hj => by
    obtain ⟨y, hy, hy0⟩ := hk j hj
    obtain ⟨z, hz, rfl⟩ := pus_some hy
    exact ⟨z, hz, hy0⟩) hi

theorem insI_rw2 (w : World) (v : Value) (cs : List Value) (x : Value) (vb i : Nat) (a : Int) (ha : a = i) (h : Rw w 3 v cs) (hi : i ≤ cs.length) (hx : x.oneCell' = true) (hvb : w.heap[vb]? = some (.cells #[x] 3 (0, 0))) (hne : v.ownBlock ≠ some vb) (hbig : (cs.length + 1) * 8 ≤ 140737488355328) :
    Calls Tryz.prog 69 #[v, .int .i64 a, .slice (some ⟨vb, 0, none⟩) 1 1] w fun e w' => ∃ v', e = .returned v' ∧ Rw w' 3 v' (cs.take i ++ x :: cs.drop i) ∧ w.grownBy w' v.ownBlock ∧ At w v v' := by
  subst ha
  exact insI_rw w v cs x vb i h hi hx hvb hne hbig
theorem cK_ins (ks : List Nat) (i o : Nat) : (cK ks).take i ++ Value.int .i64 o :: (cK ks).drop i = cK (ks.take i ++ o :: ks.drop i) := by simp [cK, kI, cI, List.map_take, List.map_drop]

set_option maxRecDepth 100000 in
set_option maxHeartbeats 4000000 in
theorem insert_node {d : Nat} (ih : ∀ {w : World} {F : Nat → Prop} {B : Nat} {A : List Bt.Nd} {fr : List Nat} {root : Nat} (_ : Ta w F B A fr root) {p : Bt.Part} (_ : Bt.Rep A d p) {i : Nat} {line : ByteArray} (_ : i ≤ p.ls.length) (_ : (p.ids ++ fr).Nodup) (_ : ∀ j ∈ fr, j < A.length)
      (_ : ∀ b, w.heap.size ≤ b → F b) (_ : p.ls.length ≤ 100000000000) (_ : A.length + d ≤ 100000000000),
      Calls Tryz.prog 48 #[.pointer (some ⟨B, 0, none⟩), .int .i64 p.id, .int .i64 i, .string line] w (InsPost F B root A fr d p (Bt.insAt p.ls i line) w))
    {w : World} {F : Nat → Prop} {B : Nat} {A : List Bt.Nd} {fr : List Nat} {root : Nat} (h : Ta w F B A fr root) {p : Bt.Part} (hp : Bt.Rep A (d + 1) p) {i : Nat} {line : ByteArray} (hi : i ≤ p.ls.length) (hn : (p.ids ++ fr).Nodup) (hfr : ∀ j ∈ fr, j < A.length)
    (hF : ∀ b, w.heap.size ≤ b → F b) (hl : p.ls.length ≤ 100000000000) (hA : A.length + (d + 1) ≤ 100000000000) :
    Calls Tryz.prog 48 #[.pointer (some ⟨B, 0, none⟩), .int .i64 p.id, .int .i64 i, .string line] w (InsPost F B root A fr (d + 1) p (Bt.insAt p.ls i line) w) := by
  have HTA := Lib.hid h
  obtain ⟨N, cap, fv, bytes, L, hT, hpus⟩ := h
  obtain ⟨ps, hps0, hpk, hpls, hpids, hps⟩ := hp
  rw [← hpus] at hpk
  obtain ⟨x, hx, hpu⟩ := pus_some hpk
  rw [hpus] at hpk
  have hxl : x.ls = [] := congrArg Bt.Nd.ls hpu
  have hxk : x.ks = ps.map Bt.Part.id := congrArg Bt.Nd.ks hpu
  have b0 := hT.c0
  have n0 := hT.n0 hx
  have n1 := hT.n1 hx
  have hkl := (List.getElem?_eq_some_iff.1 hx).1
  have hf := hT.fit
  have hle := hT.le
  unfold maxLen at hf
  have hkl' : (p.id : Int) < L.length := by omega
  have hplen := Bt.parts_len hps
  rw [← hpls] at hplen
  have hpos : 0 < ps.length := List.length_pos_iff.2 hps0
  obtain ⟨A2, c2, hv2, hl2, hm2, hA2⟩ := (hT.kids _ x hx).slice
  rw [hxk, cK_len, List.length_map] at hv2 hl2 hA2
  obtain ⟨g, rfl⟩ := hA2 hpos
  rw [hv2] at n1
  have hrow := hT.kids _ x hx
  rw [hxk, hv2] at hrow
  obtain ⟨p1, q0, p2, r, hsplit, hfind, hir, hrq, _⟩ := Bt.find_law ps 0 i hps0 (fun q hq => (hps q hq).1) (by rw [← hpls]; exact hi)
  have hk1 : ∀ j ∈ ps.map Bt.Part.id, ∃ y, A[j]? = some y ∧ 0 ≤ y.ct := fun j hj => by
    obtain ⟨q, hq, rfl⟩ := List.mem_map.1 hj
    obtain ⟨y, hy, hc⟩ := (hps q hq).1.get
    exact ⟨y, hy, by rw [hc]; omega⟩
  rw [Nat.zero_add] at hfind
  have hcell := hrow.cell (j := p1.length) (cK_at (k := q0.id) (by rw [hsplit]; simp))
  have hp1 : p1.length < ps.length := by rw [hsplit]; simp
  have hp1' : (p1.length : Int) < ps.length := by omega
  have hq0 := hps q0 (by rw [hsplit]; simp)
  have hids : (p.id :: (ps.flatMap Bt.Part.ids ++ fr)).Nodup := by rw [hpids] at hn; exact hn
  have hqn : (q0.ids ++ fr).Nodup := by
    have := hids
    rw [hsplit] at this
    exact (Bt.nodup_part (A := [p.id]) this).2.2
  have hqlen : q0.ls.length ≤ p.ls.length := by
    rw [hpls, hsplit, List.flatMap_append, List.flatMap_cons, List.length_append, List.length_append]
    omega
  have hfc := find_ta HTA.out hpk (by simpa using hps0) hk1 (i := i) (by omega)
  simp only at hfc
  rw [hfind] at hfc
  have HFC := Lib.hid hfc
  have hic := ih HTA.out hq0.1 (i := r) (line := line) hrq hqn hfr hF (by omega) (by omega)
  have HIC := Lib.hid hic
  unfold maxLen at hm2
  have hpc : p1.length ≤ 100000000000 := by omega
  have HE := Lib.hid (And.intro hpk (And.intro hpls (And.intro hpids (And.intro hps (And.intro hsplit (And.intro hir (And.intro hn (And.intro hfr hF))))))))
  have hr9 : r ≤ 100000000000 := by omega
  have hpsl : ps.length ≤ 100000000000 := by omega
  clear hfc hic hk1 hids hqn hq0 hrow hT hx hpk hpls hpids hps hsplit hir hn hfr hF hfind hv2 hA2 hxl hxk hpu hps0 ih hp1 hqlen hpus
  go_enter Tryz.func48, Tryz.ntmps48
  go_wp2_with (first
    | (go_at_call 66; refine (leaf_no (n := ps.length) (c := c2) (A := some ⟨g, 0, none⟩) (by go_simp) (by omega) (by omega)).mono ?_; rintro e w1 ⟨rfl, rfl⟩)
    | (go_at_call 68; refine HFC.out.mono ?_; rintro e w1 ⟨rfl, rfl⟩)
    | (go_at_call 48; fail))
  go_at_call 48
  refine HIC.out.mono ?_
  rintro e w2 ⟨A1, fr1, oth, q1, r1, t1, rfl, ta2, ch2, hins⟩
  obtain ⟨hpk, hpls, hpids, hps, hsplit, hir, hn, hfr, hF⟩ := HE.out
  have hq0m : q0 ∈ ps := by rw [hsplit]; simp
  have hkid : p.id ∉ q0.ids := fun e => by
    rw [hpids] at hn
    exact (List.nodup_cons.1 hn).1 (List.mem_append_left _ (List.mem_flatMap.2 ⟨q0, hq0m, e⟩))
  have hkf : p.id ∉ fr := fun e => by
    rw [hpids] at hn
    exact (List.nodup_cons.1 hn).1 (List.mem_append_right _ e)
  have hAk : A1[p.id]? = some ⟨[], ps.map Bt.Part.id, p.ls.length⟩ := by
    rw [hins.frame p.id (List.getElem?_eq_some_iff.1 hpk).1 hkid hkf]
    exact hpk
  have hout : Bt.insAt p.ls i line = p1.flatMap Bt.Part.ls ++ (Bt.insAt q0.ls r line ++ p2.flatMap Bt.Part.ls) := by
    rw [hpls, hsplit, hir, List.flatMap_append, List.flatMap_cons]
    exact Bt.insAt_mid _ _ _ _ _ (by assumption)
  have HOUT := Lib.hid hout
  have hoth := hins.other
  have HA1l := Lib.hid hins.length
  have HT1 := Lib.hid hins.few
  have hil : (Bt.insAt p.ls i line).length = p.ls.length + 1 := by unfold Bt.insAt; rw [List.length_append, List.length_cons, List.length_take, List.length_drop]; omega
  have HIL := Lib.hid hil
  have HC2 := Lib.hid ch2
  have HTA2 := Lib.hid ta2
  have HF := Lib.hid hF
  rcases oth with _ | o
  · have hr1 : r1 = [] := by simpa using hoth
    have h2k : A1[p.id]? = some ⟨[], (p1 ++ q1 :: (r1 ++ p2)).map Bt.Part.id, p.ls.length⟩ := by rw [hAk, hsplit, hr1]; simp [hins.id]
    have h2l : A1.length ≤ A.length + t1 := by rw [hins.length]; exact Nat.le_refl _
    have h2t := ta2
    have h2c := ch2
    obtain ⟨⟨A', fr', oth', q, r', t, es, hfin⟩, m1, m2, m3, m4⟩ := Bt.ins_node (A2 := A1) hsplit hpk hpids hps hfr hn hins (fun _ _ => rfl) rfl h2k
    have hmid := Bt.mid_law m1 m2 (by rw [m4, ← HOUT.out, HIL.out]; omega)
    have HMID := Lib.hid hmid
    have HES := Lib.hid es
    have HFIN := Lib.hid hfin
    have HM3 := Lib.hid m3
    have HM2 := Lib.hid (List.nodup_append.1 (List.nodup_cons.1 m2).2).2.1
    have HKF1 := Lib.hid (show p.id ∉ fr1 from fun e => (List.nodup_cons.1 m2).1 (List.mem_append_right _ e))
    have HL2 := Lib.hid h2l
    have H2K := Lib.hid h2k
    have H2T := Lib.hid h2t
    have HC2' := Lib.hid h2c
    clear hmid es hfin m1 m2 m3 m4 h2l h2k h2t h2c hpk hpls hpids hps hsplit hir hn hfr hF hq0m hkid hkf hAk hout hoth hil hins ta2 ch2 b0 n0 n1 hcell
    go_wp2_with fail
    go_at_call 50
    refine (sum_ta H2T.out H2K.out HMID.out.sum (by have := HMID.out.total; simp only [List.length_nil]; omega)).mono ?_
    rintro e w4 ⟨rfl, ta4, ch4⟩
    have HTA4 := Lib.hid ta4
    have HC4 := Lib.hid ch4
    clear ta4 ch4
    go_wp2_with fail
    go_at_call 70
    have hF4 : ∀ b, w4.heap.size ≤ b → F b := fun b hb => HF.out b (Nat.le_trans (Nat.le_trans HC2'.out.size HC4.out.size) hb)
    have hS4 := Bt.setSum_self H2K.out
    have hsp := (split_ta HTA4.out hS4 (.inr rfl) (by simp) HMID.out.many HMID.out.split (by have := HMID.out.total2; simp only; omega) hF4 (by rw [Bt.setSum_length]; have := HL2.out; have := HT1.out; omega) (by rw [Bt.setSum_length]; exact HM3.out) HM2.out HKF1.out)
    rw [HES.out] at hsp
    simp only at hsp
    refine hsp.mono ?_
    rintro e w5 ⟨rfl, ta5, ch5⟩
    have HTA5 := Lib.hid ta5
    have HC5 := Lib.hid ch5
    clear ta5 ch5 hF4 hS4 hsp
    go_wp2
    go_ret
    rw [HOUT.out]
    exact ⟨A', fr', oth', q, r', t, rfl, HTA5.out, (HC2'.out.trans HC4.out).trans HC5.out, HFIN.out⟩
  · obtain ⟨y, rfl, hyo⟩ : ∃ y, r1 = [y] ∧ y.id = o := by
      match r1, hoth with
      | [y], h => exact ⟨y, rfl, by simpa using h⟩
    have hol : o < A1.length := by
      rw [← hyo]
      exact (hins.rep y (by simp)).lt _ (hins.rep y (by simp)).id_mem
    obtain ⟨N2, cap2, fv2, bytes2, L2, hT2, hp2⟩ := ta2
    have hAk' := hAk
    rw [← hp2] at hAk'
    obtain ⟨x2, hx2, hpu2⟩ := pus_some hAk'
    have hxl2 : x2.ls = [] := congrArg Bt.Nd.ls hpu2
    have hxk2 : x2.ks = ps.map Bt.Part.id := congrArg Bt.Nd.ks hpu2
    have hxc2 : x2.ct = p.ls.length := congrArg Bt.Nd.ct hpu2
    have hkl2 := (List.getElem?_eq_some_iff.1 hx2).1
    have b0' := hT2.c0
    have n1' := hT2.n1 hx2
    have hf2 := hT2.fit
    have hle2 := hT2.le
    unfold maxLen at hf2
    have hkl2' : (p.id : Int) < L2.length := by omega
    obtain ⟨A3, c3, hv3, hl3, hm3, hA3⟩ := (hT2.kids _ x2 hx2).slice
    rw [hxk2, cK_len, List.length_map] at hv3 hl3 hA3
    rw [hv3] at n1'
    have hrow2 := hT2.kids _ x2 hx2
    rw [hxk2, hv3] at hrow2
    unfold maxLen at hm3
    have HNl := hT2.ltN
    have HBl := hT2.ltB
    have hBN := hT2.BN
    have hNB : ¬ N2 = B := fun e => hBN e.symm
    have HRa := Lib.hid ((hrow2.alloc (.cells #[.int .i64 o] 3)).drewN 1)
    have HTa := Lib.hid ((hT2.alloc (.cells #[.int .i64 o] 3)).drew)
    have HI := Lib.hid (show p1.length + 1 ≤ (cK (ps.map Bt.Part.id)).length by rw [cK_len, List.length_map]; omega)
    have HVB : Hid (((w2.alloc (.cells #[.int .i64 o] 3)).drew).heap[w2.heap.size]? = some (.cells #[.int .i64 o] 3 (0, 0))) := heap_alloc_new w2 _
    have HNE : Hid ((Value.slice A3 ps.length c3).ownBlock ≠ some w2.heap.size) := fun e => by
      have := hrow2.lt w2.heap.size e
      omega
    have HBG := Lib.hid (show ((cK (ps.map Bt.Part.id)).length + 1) * 8 ≤ 140737488355328 by rw [cK_len, List.length_map]; omega)
    have HX2 := Lib.hid hx2
    have HV3 := Lib.hid hv3
    have HT2' := Lib.hid hT2
    have HP2 := Lib.hid hp2
    have HXL2 := Lib.hid hxl2
    have HXC2 := Lib.hid hxc2
    have h2k : (A1.set p.id ⟨[], (p1 ++ q1 :: ([y] ++ p2)).map Bt.Part.id, p.ls.length⟩)[p.id]? = some ⟨[], (p1 ++ q1 :: ([y] ++ p2)).map Bt.Part.id, p.ls.length⟩ := Bt.set_self (List.getElem?_eq_some_iff.1 hAk).1
    have hks9 : (ps.map Bt.Part.id).take (p1.length + 1) ++ o :: (ps.map Bt.Part.id).drop (p1.length + 1) = (p1 ++ q1 :: ([y] ++ p2)).map Bt.Part.id := by
      rw [hsplit, ← hyo]
      have e1 : (p1 ++ q0 :: p2).map Bt.Part.id = (p1 ++ [q0]).map Bt.Part.id ++ p2.map Bt.Part.id := by simp
      have e2 : p1.length + 1 = ((p1 ++ [q0]).map Bt.Part.id).length := by simp
      rw [e1, e2, List.take_left, List.drop_left]
      simp [hins.id]
    have HKS9 := Lib.hid hks9
    obtain ⟨m9, hm9⟩ : ∃ m9, (p1 ++ q1 :: ([y] ++ p2)).length = m9 := ⟨_, rfl⟩
    have HM9 := Lib.hid hm9
    have h2l : (A1.set p.id ⟨[], (p1 ++ q1 :: ([y] ++ p2)).map Bt.Part.id, p.ls.length⟩).length ≤ A.length + t1 := by rw [List.length_set, hins.length]; exact Nat.le_refl _
    obtain ⟨⟨A', fr', oth', q, r', t, es, hfin⟩, m1, m2, m3, m4⟩ := Bt.ins_node (A2 := A1.set p.id ⟨[], (p1 ++ q1 :: ([y] ++ p2)).map Bt.Part.id, p.ls.length⟩) hsplit hpk hpids hps hfr hn hins (fun j hj => Bt.set_other hj) List.length_set h2k
    have hmid := Bt.mid_law m1 m2 (by rw [m4, ← HOUT.out, HIL.out]; omega)
    have HMID := Lib.hid hmid
    have HES := Lib.hid es
    have HFIN := Lib.hid hfin
    have HM3 := Lib.hid m3
    have HM2 := Lib.hid (List.nodup_append.1 (List.nodup_cons.1 m2).2).2.1
    have HKF1 := Lib.hid (show p.id ∉ fr1 from fun e => (List.nodup_cons.1 m2).1 (List.mem_append_right _ e))
    have HL2 := Lib.hid h2l
    have H2K := Lib.hid h2k
    have hone : ¬ ((o : Int) = -1) := by omega
    have HWR := Lib.hid (show IntKind.i64.wrap ((p1.length : Int) + 1) = ((p1.length + 1 : Nat) : Int) by rw [IntKind.wrap_i64]; omega)
    clear hmid es hfin m1 m2 m3 m4 h2l h2k hpk hpls hpids hps hsplit hir hn hfr hF hq0m hkid hkf hAk hAk' hout hoth hil hins ch2 b0 n0 n1 hcell hT2 hx2 hv3 hp2 hxl2 hxk2 hxc2 hpu2 hrow2 hA3 hyo hks9 hm9 hf hle hkl' hkl
    unfold othV
    go_wp2_with fail
    refine start_ (n := 21) (S := fun w' => w'.cell? ⟨B, 0, none⟩ = some (.slice (some ⟨N2, 0, none⟩) L2.length cap2) ∧ w'.cell? ⟨N2, p.id * 3 + 1, none⟩ = some (.slice A3 ps.length c3)) (ds := [20]) #[false, false, false, false, false, false, false, false, false, false, false, false, false, false, false, false, false, false, false, false, false] (by kernel_rfl) rfl rfl ⟨(by first | exact b0' | exact gb0 | go_keep), (by first | exact n1' | exact g0 | (rw [← HV3.out]; exact g0) | go_keep)⟩ (fun hHeld => ?_)
    refine pure_ (i := 0) (N := some 62) (v := ?_) (a' := ?_) #[true, false, false, false, false, false, false, false, false, false, false, false, false, false, false, false, false, false, false, false, false] rfl rfl (by kernel_rfl) (fun _ _ _ h => h) (Or.inl ⟨by rfl, ?_⟩) ?_ ?_
    rotate_left
    · intro w'
      go_simp
      with_reducible rfl
    rotate_left
    · simp only [Act.put, List.setIfInBounds_toArray, List.set_cons_zero, List.set_cons_succ]
      rfl
    refine pure_ (i := 1) (N := some 63) (v := ?_) (a' := ?_) #[true, true, false, false, false, false, false, false, false, false, false, false, false, false, false, false, false, false, false, false, false] rfl rfl (by kernel_rfl) (fun _ _ _ h => h) (Or.inl ⟨by rfl, ?_⟩) ?_ ?_
    rotate_left
    · intro w'
      go_simp
      with_reducible rfl
    rotate_left
    · simp only [Act.put, List.setIfInBounds_toArray, List.set_cons_zero, List.set_cons_succ]
      rfl
    refine pure_ (i := 2) (N := some 64) (v := ?_) (a' := ?_) #[true, true, true, false, false, false, false, false, false, false, false, false, false, false, false, false, false, false, false, false, false] rfl rfl (by kernel_rfl) (fun _ _ _ h => h) (Or.inl ⟨by rfl, ?_⟩) ?_ ?_
    rotate_left
    · intro w'
      go_simp
      with_reducible rfl
    rotate_left
    · simp only [Act.put, List.setIfInBounds_toArray, List.set_cons_zero, List.set_cons_succ]
      rfl
    refine pure_ (i := 4) (N := some 66) (v := ?_) (a' := ?_) #[true, true, true, false, true, false, false, false, false, false, false, false, false, false, false, false, false, false, false, false, false] rfl rfl (by kernel_rfl) (fun _ _ _ h => h) (Or.inl ⟨by rfl, ?_⟩) ?_ ?_
    rotate_left
    · intro w'
      go_simp
      with_reducible rfl
    rotate_left
    · simp only [Act.put, List.setIfInBounds_toArray, List.set_cons_zero, List.set_cons_succ]
      rfl
    refine pure_ (i := 5) (N := some 67) (v := ?_) (a' := ?_) #[true, true, true, false, true, true, false, false, false, false, false, false, false, false, false, false, false, false, false, false, false] rfl rfl (by kernel_rfl) (fun _ _ _ h => h) (Or.inl ⟨by rfl, ?_⟩) ?_ ?_
    rotate_left
    · intro w'
      go_simp
      with_reducible rfl
    rotate_left
    · simp only [Act.put, List.setIfInBounds_toArray, List.set_cons_zero, List.set_cons_succ]
      rfl
    refine pure_ (i := 6) (N := some 68) (v := ?_) (a' := ?_) #[true, true, true, false, true, true, true, false, false, false, false, false, false, false, false, false, false, false, false, false, false] rfl rfl (by kernel_rfl) (fun _ _ _ h => h) (Or.inl ⟨by rfl, ?_⟩) ?_ ?_
    rotate_left
    · intro w'
      go_simp
      with_reducible rfl
    rotate_left
    · simp only [Act.put, List.setIfInBounds_toArray, List.set_cons_zero, List.set_cons_succ]
      rfl
    refine pure_ (i := 7) (N := some 69) (v := ?_) (a' := ?_) #[true, true, true, false, true, true, true, true, false, false, false, false, false, false, false, false, false, false, false, false, false] rfl rfl (by kernel_rfl) (fun _ _ _ h => h) (Or.inl ⟨by rfl, ?_⟩) ?_ ?_
    rotate_left
    · intro w'
      go_simp
      with_reducible rfl
    rotate_left
    · simp only [Act.put, List.setIfInBounds_toArray, List.set_cons_zero, List.set_cons_succ]
      rfl
    refine pure_ (i := 9) (N := some 71) (v := ?_) (a' := ?_) #[true, true, true, false, true, true, true, true, false, true, false, false, false, false, false, false, false, false, false, false, false] rfl rfl (by kernel_rfl) (fun _ _ _ h => h) (Or.inl ⟨by rfl, ?_⟩) ?_ ?_
    rotate_left
    · intro w'
      go_simp
      with_reducible rfl
    rotate_left
    · simp only [Act.put, List.setIfInBounds_toArray, List.set_cons_zero, List.set_cons_succ]
      rfl
    refine pure_ (i := 13) (N := some 75) (v := ?_) (a' := ?_) #[true, true, true, false, true, true, true, true, false, true, false, false, false, true, false, false, false, false, false, false, false] rfl rfl (by kernel_rfl) (fun _ _ _ h => h) (Or.inl ⟨by rfl, ?_⟩) ?_ ?_
    rotate_left
    · intro w'
      go_simp
      with_reducible rfl
    rotate_left
    · simp only [Act.put, List.setIfInBounds_toArray, List.set_cons_zero, List.set_cons_succ]
      rfl
    refine pure_ (i := 14) (N := some 76) (v := ?_) (a' := ?_) #[true, true, true, false, true, true, true, true, false, true, false, false, false, true, true, false, false, false, false, false, false] rfl rfl (by kernel_rfl) (fun _ _ _ h => h) (Or.inl ⟨by rfl, ?_⟩) ?_ ?_
    rotate_left
    · intro w'
      go_simp
      with_reducible rfl
    rotate_left
    · simp only [Act.put, List.setIfInBounds_toArray, List.set_cons_zero, List.set_cons_succ]
      rfl
    refine pure_ (i := 15) (N := some 77) (v := ?_) (a' := ?_) #[true, true, true, false, true, true, true, true, false, true, false, false, false, true, true, true, false, false, false, false, false] rfl rfl (by kernel_rfl) (fun _ _ _ h => h) (Or.inl ⟨by rfl, ?_⟩) ?_ ?_
    rotate_left
    · intro w'
      go_simp
      with_reducible rfl
    rotate_left
    · simp only [Act.put, List.setIfInBounds_toArray, List.set_cons_zero, List.set_cons_succ]
      rfl
    refine take_ (i := 3) (N := some 65) (v := ?_) (a' := ?_) #[true, true, true, true, true, true, true, true, false, true, false, false, false, true, true, true, false, false, false, false, false] rfl rfl (by kernel_rfl) (fun _ _ _ h => h) (Or.inl ⟨by rfl, ?_⟩) hHeld ?_ ?_
    rotate_left
    · rintro w' ⟨s0, s1⟩
      go_simp
      with_reducible rfl
    rotate_left
    · simp only [Act.put, List.setIfInBounds_toArray, List.set_cons_zero, List.set_cons_succ]
      rfl
    refine take_ (i := 8) (N := some 70) (v := ?_) (a' := ?_) #[true, true, true, true, true, true, true, true, true, true, false, false, false, true, true, true, false, false, false, false, false] rfl rfl (by kernel_rfl) (fun _ _ _ h => h) (Or.inl ⟨by rfl, ?_⟩) hHeld ?_ ?_
    rotate_left
    · rintro w' ⟨s0, s1⟩
      go_simp
      with_reducible rfl
    rotate_left
    · simp only [Act.put, List.setIfInBounds_toArray, List.set_cons_zero, List.set_cons_succ]
      rfl
    refine pure_ (i := 10) (N := some 72) (v := ?_) (a' := ?_) #[true, true, true, true, true, true, true, true, true, true, true, false, false, true, true, true, false, false, false, false, false] rfl rfl (by kernel_rfl) (fun _ _ _ h => h) (Or.inl ⟨by rfl, ?_⟩) ?_ ?_
    rotate_left
    · intro w'
      go_simp
      with_reducible rfl
    rotate_left
    · simp only [Act.put, List.setIfInBounds_toArray, List.set_cons_zero, List.set_cons_succ]
      rfl
    refine pure_ (i := 11) (N := some 73) (v := ?_) (a' := ?_) #[true, true, true, true, true, true, true, true, true, true, true, true, false, true, true, true, false, false, false, false, false] rfl rfl (by kernel_rfl) (fun _ _ _ h => h) (Or.inl ⟨by rfl, ?_⟩) ?_ ?_
    rotate_left
    · intro w'
      go_simp
      with_reducible rfl
    rotate_left
    · simp only [Act.put, List.setIfInBounds_toArray, List.set_cons_zero, List.set_cons_succ]
      rfl
    refine take_ (i := 12) (N := some 74) (v := ?_) (a' := ?_) #[true, true, true, true, true, true, true, true, true, true, true, true, true, true, true, true, false, false, false, false, false] rfl rfl (by kernel_rfl) (fun _ _ _ h => h) (Or.inl ⟨by rfl, ?_⟩) hHeld ?_ ?_
    rotate_left
    · rintro w' ⟨s0, s1⟩
      go_simp
      with_reducible rfl
    rotate_left
    · simp only [Act.put, List.setIfInBounds_toArray, List.set_cons_zero, List.set_cons_succ]
      rfl
    refine one_ (i := 16) (N := some 78) #[true, true, true, true, true, true, true, true, true, true, true, true, true, true, true, true, true, false, false, false, false] rfl rfl (by kernel_rfl) (by decide) (fun K hK => ?_)
    refine value_ (w1 := ?_) (v := ?_) (by rfl) rfl ?_ ?_
    rotate_left 2
    · go_simp
      constructor
      · rfl
      · rfl
    refine hK.out _ _ ⟨(by first | exact b0' | exact gb0 | go_keep), (by first | exact n1' | exact g0 | (rw [← HV3.out]; exact g0) | go_keep)⟩ (fun hHeld => ?_)
    clear hK K
    refine norm_ (a' := ?_) ?_ ?_
    rotate_left
    · show Act.put _ (some 78) _ = _
      simp only [Act.put, List.setIfInBounds_toArray, List.set_cons_zero, List.set_cons_succ]
      rfl
    refine one_ (i := 17) (N := some 79) #[true, true, true, true, true, true, true, true, true, true, true, true, true, true, true, true, true, true, false, false, false] rfl rfl (by kernel_rfl) (by decide) (fun K hK => ?_)
    go_simp
    go_at_call 69; refine (insI_rw2 _ (.slice A3 ps.length c3) (cK (ps.map Bt.Part.id)) (.int .i64 o) w2.heap.size (p1.length + 1) (IntKind.i64.wrap ((p1.length : Int) + 1)) HWR.out HRa.out HI.out rfl HVB.out HNE.out HBG.out).mono ?_; rintro e w3 ⟨v1, rfl, hr1, hg1, ha1⟩; have hrg := HTa.out.row_grown HRa.out (by decide) hg1 (p.id * 3 + 1); have g0 := hrg.1.trans (HTa.out.n1 HX2.out); have gz := hrg.2; clear hrg; have gb0 := (HTa.out.box_grown HRa.out (by decide) hg1 0).1.trans HTa.out.c0; rw [cK_ins, HKS9.out] at hr1; obtain ⟨A4, c4, hv4, _⟩ := hr1.slice; rw [cK_len, List.length_map, HM9.out] at hv4; have HR1 := Lib.hid hr1; have HG1 := Lib.hid hg1; have HA1 := Lib.hid ha1; clear hr1 hg1 ha1; subst hv4
    try go_wp2_with fail
    refine hK.out _ _ ⟨(by first | exact b0' | exact gb0 | go_keep), (by first | exact n1' | exact g0 | (rw [← HV3.out]; exact g0) | go_keep)⟩ (fun hHeld => ?_)
    clear hK K
    refine pure_ (i := 18) (N := some 80) (v := ?_) (a' := ?_) #[true, true, true, true, true, true, true, true, true, true, true, true, true, true, true, true, true, true, true, false, false] rfl rfl (by kernel_rfl) (fun _ _ _ h => h) (Or.inl ⟨by rfl, ?_⟩) ?_ ?_
    rotate_left
    · intro w'
      go_simp
      with_reducible rfl
    rotate_left
    · simp only [Act.put, List.setIfInBounds_toArray, List.set_cons_zero, List.set_cons_succ]
      rfl
    refine pure_ (i := 19) (N := some 81) (v := ?_) (a' := ?_) #[true, true, true, true, true, true, true, true, true, true, true, true, true, true, true, true, true, true, true, true, false] rfl rfl (by kernel_rfl) (fun _ _ _ h => h) (Or.inl ⟨by rfl, ?_⟩) ?_ ?_
    rotate_left
    · intro w'
      go_simp
      with_reducible rfl
    rotate_left
    · simp only [Act.put, List.setIfInBounds_toArray, List.set_cons_zero, List.set_cons_succ]
      rfl
    refine last_ (i := 20) (N := none) #[true, true, true, true, true, true, true, true, true, true, true, true, true, true, true, true, true, true, true, true, true] rfl rfl (by kernel_rfl) (by decide) (fun K hK => ?_)
    refine skip_ (w1 := ?_) (by rfl) rfl ?_ ?_
    rotate_left
    · go_simp
      rfl
    refine hK.out _ _ ?_
    clear hK K
    refine done_ (by kernel_rfl) ?_
    clear hHeld
    all_goals
      have hF2 : ∀ b, ((w2.alloc (.cells #[.int .i64 o] 3)).drew).heap.size ≤ b → F b := fun b hb => HF.out b (Nat.le_trans HC2.out.size (by simp at hb; omega))
      have hT3 := HTa.out.setKs HX2.out (w2 := w3) (v := .slice A4 m9 c4) (ks := (p1 ++ q1 :: ([y] ++ p2)).map Bt.Part.id) (by rw [HV3.out]; exact HG1.out) HR1.out (HTa.out.at_k hF2 HX2.out (by rw [HV3.out]; exact HA1.out))
      have h2c : Chg F w (w3.setCell ⟨N2, p.id * 3 + 1, none⟩ (.slice A4 m9 c4)) := ((HC2.out.alloc (.cells #[.int .i64 o] 3)).drew.grown HG1.out (fun b hb => HT2'.out.footK _ x2 b HX2.out (by rw [HV3.out]; exact hb))).setCell (p := ⟨N2, p.id * 3 + 1, none⟩) HT2'.out.footN _
      have h2t : Ta (w3.setCell ⟨N2, p.id * 3 + 1, none⟩ (.slice A4 m9 c4)) F B (A1.set p.id ⟨[], (p1 ++ q1 :: ([y] ++ p2)).map Bt.Part.id, p.ls.length⟩) fr1 root := hT3.ta (by rw [pus_set, HP2.out]; simp only [NV.pu, HXL2.out, HXC2.out])
      have H2T := Lib.hid h2t
      have HC2' := Lib.hid h2c
      clear hT3 h2c h2t hF2 b0' n1' g0 gz gb0
      go_wp2_with fail
      go_at_call 50
      refine (sum_ta H2T.out H2K.out HMID.out.sum (by have := HMID.out.total; simp only [List.length_nil]; omega)).mono ?_
      rintro e w4 ⟨rfl, ta4, ch4⟩
      have HTA4 := Lib.hid ta4
      have HC4 := Lib.hid ch4
      clear ta4 ch4
      go_wp2_with fail
      go_at_call 70
      have hF4 : ∀ b, w4.heap.size ≤ b → F b := fun b hb => HF.out b (Nat.le_trans (Nat.le_trans HC2'.out.size HC4.out.size) hb)
      have hS4 := Bt.setSum_self H2K.out
      have hsp := (split_ta HTA4.out hS4 (.inr rfl) (by simp) HMID.out.many HMID.out.split (by have := HMID.out.total2; simp only; omega) hF4 (by rw [Bt.setSum_length]; have := HL2.out; have := HT1.out; omega) (by rw [Bt.setSum_length]; exact HM3.out) HM2.out HKF1.out)
      rw [HES.out] at hsp
      simp only at hsp
      refine hsp.mono ?_
      rintro e w5 ⟨rfl, ta5, ch5⟩
      have HTA5 := Lib.hid ta5
      have HC5 := Lib.hid ch5
      clear ta5 ch5 hF4 hS4 hsp
      go_wp2
      go_ret
      rw [HOUT.out]
      exact ⟨A', fr', oth', q, r', t, rfl, HTA5.out, (HC2'.out.trans HC4.out).trans HC5.out, HFIN.out⟩

theorem insert_any : ∀ (d : Nat) {w : World} {F : Nat → Prop} {B : Nat} {A : List Bt.Nd} {fr : List Nat} {root : Nat} (_ : Ta w F B A fr root) {p : Bt.Part} (_ : Bt.Rep A d p) {i : Nat} {line : ByteArray} (_ : i ≤ p.ls.length) (_ : (p.ids ++ fr).Nodup) (_ : ∀ j ∈ fr, j < A.length)
      (_ : ∀ b, w.heap.size ≤ b → F b) (_ : p.ls.length ≤ 100000000000) (_ : A.length + d ≤ 100000000000),
      Calls Tryz.prog 48 #[.pointer (some ⟨B, 0, none⟩), .int .i64 p.id, .int .i64 i, .string line] w (InsPost F B root A fr d p (Bt.insAt p.ls i line) w)
  | 0 => fun h p hp i line => insert_leaf h hp
  | d + 1 => fun h p hp i line => insert_node (insert_any d) h hp
end Go.Proofs.YtdhemdeapphfoaaGreatDoor
