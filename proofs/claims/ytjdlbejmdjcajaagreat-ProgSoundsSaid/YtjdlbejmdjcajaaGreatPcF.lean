/- prog: alt: walked, over any node. -/
import Derived.Test.YtjdlbejmdjcajaaGreatPcE
set_option linter.unusedVariables false
set_option linter.unusedSimpArgs false
namespace Go.Proofs.YtjdlbejmdjcajaaGreat
open Go.RowKit Go.Shelf Go.Maps Go.Proofs.YtjdlbejmdjcajaaGreatW.PrintWords Go.Proofs.YtjdlbejmdjcajaaGreatW.PrintLast

section
variable {w w' : World} {Wb g n cp : Nat} {nv cv : Value} {L : List Pp.Nk} {c : Pp.Cd}
/-- jumps that are kept -/
structure JsM (N : Nat) (w : World) (Wb : Nat) (cv : Value) (jv : Value) (js : List Nat) (len : Nat) : Prop where
  row : w.ownsRow 0 3 1 jv js.length (cN js)
  own : ∀ b, jv.ownBlock = some b → N ≤ b ∧ b ≠ Wb ∧ cv.ownBlock ≠ some b
  each : ∀ y ∈ js, y < len
theorem JsM.step {N : Nat} {jv cv' : Value} {js : List Nat} {len len' : Nat} (h : JsM N w Wb cv jv js len) (hp : Pf w w' Wb cv cv') (hl : len ≤ len') : JsM N w' Wb cv' jv js len' :=
  ⟨own_move h.row fun b e => hp.block b (int_lt h.row b e) (h.own b e).2.1 (h.own b e).2.2, fun b e => ⟨(h.own b e).1, (h.own b e).2.1, hp.new (int_lt h.row b e) (h.own b e).2.2⟩, fun y hy => by have := h.each y hy; omega⟩
theorem JsM.app {N : Nat} {jv jv' : Value} {js : List Nat} {len k : Nat} (h : JsM N w Wb cv jv js len) (hW : Wb < w.heap.size) (hc : ∀ b, cv.ownBlock = some b → b < w.heap.size) (hN : N ≤ w.heap.size) (hk : k < len)
    (hr : w'.ownsRow 0 3 1 jv' (js.length + 1) (cN js ++ [.int .i64 (k : Int)])) (hg : w.grownBy w' jv.ownBlock) (ho : jv'.ownBlock = jv.ownBlock ∨ jv'.ownBlock = some w.heap.size) : JsM N w' Wb cv jv' (js ++ [k]) len := by
  refine ⟨by rw [List.length_append, show cN (js ++ [k]) = cN js ++ [.int .i64 (k : Int)] by simp [cN]]; exact hr, fun b e => ?_, fun y hy2 => ?_⟩
  · rcases ho with h9 | h9
    · exact h.own b (h9 ▸ e)
    · obtain rfl := Option.some.inj (e.symm.trans h9)
      exact ⟨hN, by omega, fun e2 => by have := hc _ e2; omega⟩
  · rcases List.mem_append.1 hy2 with hy2 | hy2
    · exact h.each y hy2
    · obtain rfl : y = k := by simpa using hy2
      exact hk
theorem WayM.other {lz : Bool} {k p q r : Nat} {jv : Value} (g : WayM w Wb cv lz k p q r) (hg : w.grownBy w' jv.ownBlock) (hn : jv.ownBlock ≠ some p ∧ jv.ownBlock ≠ some q ∧ jv.ownBlock ≠ some r) : WayM w' Wb cv lz k p q r := by
  have hsame : ∀ b, b < w.heap.size → jv.ownBlock ≠ some b → w'.heap[b]? = w.heap[b]? := fun b hb hne => hg.block b hb (fun e => hne e.symm)
  exact ⟨(World.cell?_of_block (a := ⟨p, 0, none⟩) (hsame p g.lt.1 hn.1)).trans g.fp, (World.cell?_of_block (a := ⟨q, 0, none⟩) (hsame q g.lt.2.1 hn.2.1)).trans g.fq, (World.cell?_of_block (a := ⟨r, 0, none⟩) (hsame r g.lt.2.2 hn.2.2)).trans g.fr, ⟨Nat.lt_of_lt_of_le g.lt.1 hg.size, Nat.lt_of_lt_of_le g.lt.2.1 hg.size, Nat.lt_of_lt_of_le g.lt.2.2 hg.size⟩, g.nW, g.nc⟩
/-- a kid, read in a later world -/
theorem kid_at {ks : List Int} {F : Nat → Prop} {v : Value} (h : IsI w F v ks) (hF : ∀ b, F b → b < w.heap.size → w'.heap[b]? = w.heap[b]?) {bk ok m : Nat} (hv : v = .slice (some ⟨bk, ok, none⟩) m cp) {j : Nat} {q : Int} (hq : ks[j]? = some q) : w'.cell? ⟨bk, ok + j, none⟩ = some (.int .i64 q) := by
  obtain ⟨A, c, e, _, _, h4⟩ := h
  subst hv
  injection e with e1 e2 e3
  subst e1
  obtain ⟨b, o, e6, hFb, hl, hc⟩ := h4 (by have := (List.getElem?_eq_some_iff.1 hq).1; omega)
  injection e6 with e6
  injection e6 with e7 e8 _
  subst e7 e8
  exact (World.cell?_of_block (a := ⟨bk, ok + j, none⟩) (hF bk hFb hl)).trans (hc j q hq)
set_option maxRecDepth 100000 in
set_option maxHeartbeats 8000000 in
theorem alt_any {rec : Int → Pp.Cd → Pp.Er Pp.Cd} (hrec : NodeOk rec L Wb nv) (hle : RecLe rec) (h : WrM w Wb nv cv L c) {ks : List Int} {bk ok cp0 : Nat} (hks : IsI w (fun b => b ≠ Wb ∧ cv.ownBlock ≠ some b) (.slice (some ⟨bk, ok, none⟩) ks.length cp0) ks) (hl0 : 0 < ks.length) (hl1 : ks.length ≤ 1000) {R : Pp.Er Pp.Cd} (hR : Pp.altC rec ks c = R) (hne : R ≠ .error false) :
    Calls Tryz.prog 31 #[.pointer (some ⟨Wb, 0, none⟩), .slice (some ⟨bk, ok, none⟩) ks.length cp0] w (WPost (.tuple #[]) w Wb nv cv L R) := by
  obtain ⟨z, hz⟩ : ∃ z, ks.getLast? = some z := by
    cases hq : ks.getLast? with
    | none => rw [List.getLast?_eq_none_iff] at hq; subst hq; simp at hl0
    | some z => exact ⟨z, rfl⟩
  unfold Pp.altC at hR
  rw [hz] at hR
  simp only at hR
  obtain ⟨n, hn⟩ : ∃ n, ks.length = n + 1 := ⟨ks.length - 1, by omega⟩
  have hcp : n + 1 ≤ cp0 := by
    obtain ⟨_, _, e, g2, _⟩ := hks
    injection e with e1 e2 e3
    omega
  have hKF : ∀ (W : World) (cvW : Value), Pf w W Wb cv cvW → ∀ (j : Nat) (q : Int), ks[j]? = some q → W.cell? ⟨bk, ok + j, none⟩ = some (.int .i64 q) := fun W cvW hp j q hq => kid_at hks (fun b hF hb => hp.block b hb hF.1 hF.2) rfl hq
  have HKF := Lib.hid hKF
  have HREC := Lib.hid hrec
  have HB0 := Lib.hid h.ns
  have HX := Lib.hid (And.intro h (And.intro hz hn))
  have HR := Lib.hid hR
  have hl2 : n ≤ 1000 := by omega
  have iwn : IntKind.i64.wrap (((n + 1 : Nat) : Int) - 1) = (n : Int) := by rw [IntKind.wrap_i64]; omega
  have ien : ((n + 1 : Nat) : Int) - 1 = (n : Int) := by omega
  rw [hn]
  obtain ⟨i0, hi0, hz0, hz1, hz2⟩ := info_parts infoI64
  have HINF := Lib.hid (And.intro hi0 (And.intro hz0 (And.intro hz1 hz2)))
  clear h hrec hks hR hz hKF hn hl0 hl1 hi0 hz0 hz1 hz2
  go_enter Tryz.func31, Tryz.ntmps31
  go_wp2
  go_loopw [5, 18] (fun v5 v18 wr => ∃ (j : Nat) (cj : Pp.Cd) (cvj : Value) (js : List Nat), v18 = .int .i64 j ∧ j ≤ n ∧ WrM wr Wb nv cvj L cj ∧ Pf w wr Wb cv cvj ∧ JsM w.heap.size wr Wb cvj v5 js cj.1.length ∧ js.length = j ∧ Pp.altsC rec (ks.dropLast.drop j) js cj = Pp.altsC rec ks.dropLast [] c) (fun _ v18 _ => n - (intOf v18).toNat)
  case atStart => exact ⟨0, c, cv, [], rfl, Nat.zero_le _, HX.out.1, Pf.refl _ _ _, ⟨⟨rfl, .inl ⟨rfl, rfl⟩⟩, fun b e => by simp [Value.ownBlock] at e, fun y hy => by cases hy⟩, rfl, rfl⟩
  case round =>
    obtain ⟨j, cj, cvj, js, rfl, hj, hwr, hpf, hjs, hjl, hT⟩ := hrel
    by_cases hjn : j < n
    · obtain ⟨q0, hq0⟩ : ∃ q0, ks[j]? = some q0 := ⟨_, List.getElem?_eq_getElem (by rw [HX.out.2.2]; omega)⟩
      have hdrop : ks.dropLast.drop j = q0 :: ks.dropLast.drop (j + 1) := by
        obtain ⟨h1, h2⟩ := List.getElem?_eq_some_iff.1 hq0
        have h3 : j < ks.dropLast.length := by rw [List.length_dropLast, HX.out.2.2]; omega
        rw [List.drop_eq_getElem_cons h3, List.getElem_dropLast, h2]
      have kc := HKF.out wr cvj hpf j q0 hq0
      rw [hdrop] at hT
      replace hT : (match Pp.layP { Pp.in0 with op := 4 } cj with | .error e => .error e | .ok c1 => match rec q0 c1 with | .error e => .error e | .ok c2 => match Pp.layP { Pp.in0 with op := 5 } c2 with | .error e => .error e | .ok c3 => Pp.altsC rec (ks.dropLast.drop (j + 1)) (js ++ [c2.1.length]) (Pp.wayP false cj.1.length c3.1.length c3)) = Pp.altsC rec ks.dropLast [] c := hT
      have herr : ∀ b, Pp.altsC rec ks.dropLast [] c = .error b → R = .error b := fun b e => by
        have h9 := HR.out
        rw [e] at h9
        exact h9.symm
      obtain ⟨Aw, cw, rfl⟩ := int_slice hjs.row
      have HS := Lib.hid (split_any hwr false)
      have HP := Lib.hid (And.intro hpf (And.intro hjs (And.intro hjl herr)))
      have HT := Lib.hid hT
      have i1 : (0 : Int) ≤ (j : Int) := by omega
      have i2 : (j : Int) < (n : Int) := by omega
      rw [hjl]
      clear hwr hpf hjs hjl hT hdrop hq0 herr
      go_wp2_with fail
      refine HS.out.mono ?_
      intro e w1 hpo
      have hT := HT.out
      cases h1 : Pp.layP { Pp.in0 with op := 4 } cj with
      | error b =>
        rw [h1] at hT hpo
        cases b with
        | false => exact absurd h1 Pp.layP_ne
        | true =>
          obtain rfl := HP.out.2.2.2 _ hT.symm
          obtain ⟨rfl, cv3, hp3⟩ := hpo
          exact ⟨rfl, rfl, cv3, HP.out.1.trans hp3⟩
      | ok c1 =>
      rw [h1] at hT hpo
      simp only at hT
      have hl1 := (Pp.layP_ok h1).1
      obtain ⟨cv1, p, q, r, rfl, hw1, hp1, hy1, hpqr⟩ := hpo
      have hnr : rec q0 c1 ≠ .error false := fun e => by
        rw [e] at hT
        exact hne (HP.out.2.2.2 _ hT.symm)
      have hc1 : cj.1.length < c1.1.length := by rw [hl1]; simp
      have HN := Lib.hid (HREC.out q0 c1 w1 cv1 hw1 hnr)
      have hjw : (Value.slice Aw js.length cw).ownBlock ≠ some p ∧ (Value.slice Aw js.length cw).ownBlock ≠ some q ∧ (Value.slice Aw js.length cw).ownBlock ≠ some r := by
        have hlt := int_lt HP.out.2.1.row
        refine ⟨fun e => ?_, fun e => ?_, fun e => ?_⟩ <;> (have := hlt _ e; omega)
      have H1 := Lib.hid (And.intro (HP.out.1.trans hp1) (And.intro (HP.out.2.1.step hp1 (Nat.le_of_lt hc1)) (And.intro hy1 (And.intro hjw hc1))))
      have HT1 := Lib.hid hT
      clear hw1 hp1 hy1 hpqr hjw hc1 hl1 hT h1
      unfold wayV
      go_wp2_with fail
      refine HN.out.mono ?_
      intro e w2 hpo
      have hT := HT1.out
      cases h2 : rec q0 c1 with
      | error b =>
        rw [h2] at hT hpo
        cases b with
        | false => exact absurd h2 hnr
        | true =>
          obtain rfl := HP.out.2.2.2 _ hT.symm
          obtain ⟨rfl, cv3, hp3⟩ := hpo
          exact ⟨rfl, rfl, cv3, H1.out.1.trans hp3⟩
      | ok c2 =>
      rw [h2] at hT hpo
      simp only at hT
      have hc2 := hle _ _ _ h2
      obtain ⟨cv2, rfl, hw2, hp2⟩ := hpo
      have HL := Lib.hid (lay_any hw2 { Pp.in0 with op := 5 })
      unfold inV inC at HL
      simp only [Pp.in0] at HL
      have H2 := Lib.hid (And.intro (H1.out.1.trans hp2) (And.intro (H1.out.2.1.step hp2 hc2) (And.intro (H1.out.2.2.1.step hp2) (And.intro H1.out.2.2.2.1 (Nat.lt_of_lt_of_le H1.out.2.2.2.2 hc2)))))
      have HT2 := Lib.hid hT
      clear hw2 hp2 hc2 hT h2 hnr
      go_wp2_with fail
      refine HL.out.mono ?_
      intro e w3 hpo
      have hT := HT2.out
      simp only [Pp.in0] at hT
      cases h3 : Pp.layP { op := 5, c := 0, s0 := 0, s1 := 0, s2 := 0, s3 := 0, x := 0, y := 0 } c2 with
      | error b =>
        rw [h3] at hT hpo
        cases b with
        | false => exact absurd h3 Pp.layP_ne
        | true =>
          obtain rfl := HP.out.2.2.2 _ hT.symm
          obtain ⟨rfl, cv3, hp3⟩ := hpo
          exact ⟨rfl, rfl, cv3, H2.out.1.trans hp3⟩
      | ok c3 =>
      rw [h3] at hT hpo
      simp only at hT
      have hc3 : c2.1.length < c3.1.length := by rw [(Pp.layP_ok h3).1]; simp
      obtain ⟨cv3, rfl, hw3, hp3⟩ := hpo
      obtain ⟨Ac3, cc3, rfl⟩ := irow_slice hw3.row
      have hal := below_alloc (Below.refl w3.heap.size w3) (.cells #[.int .i64 (c2.1.length : Int)] 3)
      have hacell := alloc_at w3 (.cells #[.int .i64 (c2.1.length : Int)] 3)
      have hpa := Pf.below (G := Wb) (v := .slice Ac3 c3.1.length cc3) hal
      have hpf3 := H2.out.1.trans hp3
      have hjs3 := H2.out.2.1.step hp3 (Nat.le_of_lt hc3)
      have hy3 := H2.out.2.2.1.step hp3
      have HA := Lib.hid (And.intro (hw3.far hal) (And.intro (hpf3.trans hpa) (And.intro (hjs3.step hpa (Nat.le_refl _)) (And.intro (hy3.step hpa) (And.intro H2.out.2.2.2.1 hacell)))))
      have hro := (hjs3.step hpa (Nat.le_refl _)).row
      rw [HP.out.2.2.1] at hro
      have HROW := Lib.hid hro
      have HT3 := Lib.hid (And.intro hT (And.intro hc3 (Nat.lt_trans H2.out.2.2.2.2 hc3)))
      clear hw3 hp3 hal hacell hpa hpf3 hjs3 hy3 hro hT hc3 h3
      go_wp2_with (at_builtin; refine wpList_append_own_at _ rfl _ _ 33 rfl 0 3 i0 (.int .i64 0) 1 8 Tryz.underlying33 HINF.out.1 HINF.out.2.1 HINF.out.2.2.1 HINF.out.2.2.2 rfl (by decide) (.slice Aw j cw) j (cN js) rfl HROW.out ⟨w3.heap.size, 0, none⟩ 1 1 [.int .i64 (c2.1.length : Int)] rfl rfl ?hcell ?hone (by unfold maxLen; omega) (by omega) (by omega) ?_; rotate_left 2; intro v9 w9 hr9 hg9 _ ha9; obtain ⟨A9, q9, hv9⟩ := int_slice hr9; subst hv9; have HNN := Lib.hid (And.intro hr9 (And.intro hg9 ha9)); have hgp : (w3.alloc (.cells #[.int .i64 (c2.1.length : Int)] 3)).grownBy w9 (Value.slice Aw js.length cw).ownBlock := (by rw [HP.out.2.2.1]; exact hg9); have hot := HA.out.1.other HB0.out HA.out.2.1 hgp (fun b e => HA.out.2.2.1.own b e); have w1 := hot.1.cells.2.1; have HOT := Lib.hid (And.intro hot hgp); clear hot hgp hr9 hg9 ha9)
      case hcell =>
        intro t u hu
        match t, hu with
        | 0, hu =>
          rw [← hu, Addr.add_lit]
          exact blk_cell HA.out.2.2.2.2.2 0
      case hone =>
        intro u hu
        obtain rfl : u = .int .i64 (c2.1.length : Int) := by simpa using hu
        rfl
      obtain ⟨a1, a2, a3, a4, a5, a6⟩ := HA.out
      obtain ⟨⟨o1, o2⟩, o3⟩ := HOT.out
      have hr9 := HNN.out.1
      rw [← HP.out.2.2.1] at hr9
      have hap := a3.app (blk_lt a1.box) (iown_lt a1.row) a2.size HT3.out.2.1 hr9 o3 (by rw [HP.out.2.2.1]; exact HNN.out.2.2)
      have hw := way_any (out := c3.1.length) o1 (a4.other o3 a5) HT3.out.2.2
      have HW := Lib.hid hw
      have HZ := Lib.hid (And.intro o2 hap)
      clear a1 a2 a3 a4 a5 a6 o1 o2 o3 hr9 hap hw
      refine HW.out.mono ?_
      intro e w4 hpo
      obtain ⟨cv4, rfl, hw4, hp4⟩ := hpo
      have hl4 : (Pp.wayP false cj.1.length c3.1.length c3).1.length = c3.1.length := by simp [Pp.wayP]
      have hj4 := HZ.out.2.step hp4 (Nat.le_of_eq hl4.symm)
      rw [HP.out.2.2.1] at hj4
      have H4 := Lib.hid (And.intro hw4 (And.intro (HZ.out.1.trans hp4) hj4))
      clear hw4 hp4 hl4 hj4
      go_wp2
      go_roundw
      case rel => exact ⟨j + 1, _, cv4, js ++ [c2.1.length], by go_num, by omega, H4.out.1, H4.out.2.1, H4.out.2.2, by simp [HP.out.2.2.1], HT3.out.1⟩
      case measure => simp [intOf]; omega
    · obtain rfl : j = n := by omega
      have hdl : ks.dropLast.drop j = [] := List.drop_of_length_le (by rw [List.length_dropLast, HX.out.2.2]; omega)
      rw [hdl] at hT
      have hR := HR.out
      rw [← hT] at hR
      replace hR : (match rec z cj with | .error e => .error e | .ok c2 => .ok (Pp.tosP js c2)) = R := hR
      have hzl : ks[j]? = some z := by
        have := HX.out.2.1
        rw [List.getLast?_eq_getElem?, HX.out.2.2] at this
        simpa using this
      have kc := HKF.out wr cvj hpf j z hzl
      have hnr : rec z cj ≠ .error false := fun e => by rw [e] at hR; exact hne hR.symm
      obtain ⟨Aw, cw, rfl⟩ := int_slice hjs.row
      have HN := Lib.hid (HREC.out z cj wr cvj hwr hnr)
      have HP := Lib.hid (And.intro hpf (And.intro hjs hjl))
      have HT := Lib.hid hR
      have i1 : (0 : Int) ≤ (j : Int) := by omega
      have i2 : (j : Int) < (j : Int) + 1 := by omega
      have i3 : (j : Int) < ((j + 1 : Nat) : Int) := by omega
      rw [hjl]
      clear hwr hpf hjs hjl hT hdl hzl hR
      go_wp2_with fail
      refine HN.out.mono ?_
      intro e w2 hpo
      have hR := HT.out
      cases h2 : rec z cj with
      | error b =>
        rw [h2] at hR hpo
        cases b with
        | false => exact absurd h2 hnr
        | true =>
          subst hR
          obtain ⟨rfl, cv3, hp3⟩ := hpo
          exact ⟨rfl, rfl, cv3, HP.out.1.trans hp3⟩
      | ok c2 =>
      rw [h2] at hR hpo
      simp only at hR
      have hc2 := hle _ _ _ h2
      obtain ⟨cv2, rfl, hw2, hp2⟩ := hpo
      subst hR
      have HQ := Lib.hid (And.intro hw2 (And.intro (HP.out.1.trans hp2) (HP.out.2.1.step hp2 hc2)))
      have HJL := Lib.hid HP.out.2.2
      clear hw2 hp2 hc2 hnr h2 kc HN HT
      go_wp2
      rename World => wo
      go_loopw [49] (fun v49 wz => ∃ (t : Nat) (ct : Pp.Cd) (cvt : Value), v49 = .int .i64 t ∧ t ≤ j ∧ WrM wz Wb nv cvt L ct ∧ Pf w wz Wb cv cvt ∧ JsM w.heap.size wz Wb cvt (.slice Aw js.length cw) js ct.1.length ∧ Pp.tosP (js.drop t) ct = Pp.tosP js c2) (fun v49 _ => j - (intOf v49).toNat)
      case atStart => exact ⟨0, c2, cv2, rfl, Nat.zero_le _, HQ.out.1, HQ.out.2.1, HQ.out.2.2, rfl⟩
      case round =>
        clear HQ
        rename World => wz
        obtain ⟨t, ct, cvt, rfl, ht, hwr, hpf, hws, hT⟩ := hrel
        by_cases hti : t < j
        · obtain ⟨y, hy⟩ : ∃ y, js[t]? = some y := ⟨_, List.getElem?_eq_getElem (by rw [HJL.out]; exact hti)⟩
          have hdrop : js.drop t = y :: js.drop (t + 1) := by
            obtain ⟨h1, h2⟩ := List.getElem?_eq_some_iff.1 hy
            rw [List.drop_eq_getElem_cons h1, h2]
          rw [hdrop] at hT
          replace hT : Pp.tosP (js.drop (t + 1)) (Pp.toP y ct.1.length ct) = Pp.tosP js c2 := hT
          have hgy := hws.each y (List.mem_of_getElem? hy)
          obtain ⟨_, w1, _⟩ := hwr.cells
          obtain ⟨g, cp, x, rfl, hcp2, hg, hgW, hx, hfz, hcell⟩ := hwr.at hgy
          have x6 := hcell 6 _ rfl
          have hcy : ∃ gw, Aw = some ⟨gw, 0, none⟩ ∧ j ≤ cw ∧ wz.cell? ⟨gw, t, none⟩ = some (.int .i64 (y : Int)) := by
            rcases hws.row.2 with ⟨e, h0⟩ | ⟨gw, cap, cur, e, _, hg, hcap, _, _, htk⟩
            · have := HJL.out; omega
            · injection e with e1 e2 e3
              subst e1 e3
              refine ⟨gw, rfl, by have := HJL.out; omega, ?_⟩
              rw [blk_cell hg]
              have h9 : (cN js)[t]? = some (.int .i64 (y : Int)) := by simp [cN, hy]
              rw [← htk, List.getElem?_take_of_lt (by have := HJL.out; omega)] at h9
              simpa using h9
          obtain ⟨gw, rfl, hcw, cy⟩ := hcy
          have hput := hwr.put y 6 (.int .i64 (ct.1.length : Int)) (fun d => { d with x := (ct.1.length : Int) }) (by decide) (fun d => rfl)
          have hpp := (Pf.refl wz Wb (.slice (some ⟨g, 0, none⟩) ct.1.length cp)).put (y * 8 + 6) (.int .i64 (ct.1.length : Int))
          have hl4 : (Pp.toP y ct.1.length ct).1.length = ct.1.length := by simp [Pp.toP]
          have H4 := Lib.hid (And.intro hput (And.intro (hpf.trans hpp) (And.intro (hws.step hpp (Nat.le_of_eq hl4.symm)) hT)))
          have j1 : (0 : Int) ≤ (t : Int) := by omega
          have j2 : (t : Int) < (j : Int) := by omega
          have j3 : (0 : Int) ≤ (y : Int) := by omega
          have j4 : (y : Int) < (ct.1.length : Int) := by omega
          obtain ⟨cl, hcl⟩ : ∃ cl, ct.1.length = cl := ⟨_, rfl⟩
          rw [hcl] at w1 j4 hcp2
          have HCL := Lib.hid hcl
          clear hwr hpf hws hT hy hdrop hput hpp hl4 hcell hx hcl hgy
          go_wp2
          go_region
          go_wp2
          rw [← HCL.out]
          have hd := (Below.refl (wz.setCell ⟨g, y * 8 + 6, none⟩ (.int .i64 (ct.1.length : Int))).heap.size (wz.setCell ⟨g, y * 8 + 6, none⟩ (.int .i64 (ct.1.length : Int)))).drew
          refine ⟨⟨t + 1, Pp.toP y ct.1.length ct, _, by go_num, by omega, H4.out.1.far hd, H4.out.2.1.trans (Pf.below hd), H4.out.2.2.1.step (Pf.below hd) (Nat.le_refl _), H4.out.2.2.2⟩, ?_⟩
          simp [intOf]
          omega
        · obtain rfl : t = j := by omega
          rw [List.drop_of_length_le (by rw [HJL.out]; exact Nat.le_refl _)] at hT
          replace hT : ct = Pp.tosP js c2 := hT
          rw [← hT]
          have HZ := Lib.hid (And.intro hwr hpf)
          clear hwr hpf hws hT
          go_wp2
          first | go_end0 | refine bodyPost_ret (results_none rfl _ _ _) rfl ?_
          exact ⟨cvt, rfl, HZ.out.1, HZ.out.2⟩
end
end Go.Proofs.YtjdlbejmdjcajaaGreat
