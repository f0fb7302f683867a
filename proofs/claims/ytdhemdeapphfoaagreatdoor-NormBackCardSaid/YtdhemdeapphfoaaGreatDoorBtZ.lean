/- The tree's walk, Lines and Part, walked. -/
import Derived.Test.YtdhemdeapphfoaaGreatDoorBtY
set_option linter.unusedVariables false
set_option linter.unusedSimpArgs false
namespace Go.Proofs.YtdhemdeapphfoaaGreatDoor
open Go.RowKit Go.Shelf Go.Proofs.YtdhemdeapphfoaaGreatDoorW.PrintWords Go.Proofs.YtdhemdeapphfoaaGreatDoorW.PrintLast

/-- a row of one's own, in a block from N0 on -/
def Own (N0 : Nat) (w0 w : World) (v : Value) (xs : List ByteArray) : Prop := Rw w 9 v (cS xs) ∧ (∀ b, v.ownBlock = some b → N0 ≤ b) ∧ Below N0 w0 w
def OwnPost (N0 : Nat) (w : World) (xs : List ByteArray) (e : Ending) (w' : World) : Prop := ∃ v, e = .returned v ∧ Own N0 w w' v xs

theorem At.from {N0 : Nat} {w : World} {v v' : Value} (h : At w v v') (hv : ∀ b, v.ownBlock = some b → N0 ≤ b) (hN : N0 ≤ w.heap.size) : ∀ b, v'.ownBlock = some b → N0 ≤ b := by
  intro b hb
  rcases h with h | ⟨k, h1, h2⟩
  · exact hv b (h ▸ hb)
  · rw [h1] at hb
    injection hb with hb
    omega

set_option maxRecDepth 100000 in
set_option maxHeartbeats 1000000 in
theorem walk_any : ∀ (d : Nat) {w : World} {F : Nat → Prop} {B : Nat} {A : List Bt.Nd} {fr : List Nat} {root : Nat} (_ : Ta w F B A fr root) {N0 : Nat} (_ : ∀ b, F b → b < N0) (_ : N0 ≤ w.heap.size) {p : Bt.Part} (_ : Bt.Rep A d p) {v : Value} {acc : List ByteArray} (_ : Rw w 9 v (cS acc)) (_ : ∀ b, v.ownBlock = some b → N0 ≤ b) (_ : acc.length + p.ls.length ≤ 10000000000),
    Calls Tryz.prog 25 #[.pointer (some ⟨B, 0, none⟩), .int .i64 p.id, v] w (OwnPost N0 w (acc ++ p.ls)) := by
  intro d
  induction d with
  | zero =>
    intro w F B A fr root h N0 hFN hN p hp v acc hv hvN hb
    obtain ⟨N, cap, fv, bytes, L, hT, rfl⟩ := h
    obtain ⟨x, hx, hpu⟩ := pus_some hp.1
    have hxl : x.ls = p.ls := congrArg Bt.Nd.ls hpu
    have hxk : x.ks = [] := congrArg Bt.Nd.ks hpu
    have b0 := hT.c0
    have n0 := hT.n0 hx
    have n1 := hT.n1 hx
    have hkl := (List.getElem?_eq_some_iff.1 hx).1
    have hf := hT.fit
    have hle := hT.le
    unfold maxLen at hf
    have hkl' : (p.id : Int) < L.length := by omega
    obtain ⟨A1, c1, hv1, hl1, hm1, _⟩ := (hT.lines _ x hx).slice
    obtain ⟨A2, c2, hv2, hl2, hm2, _⟩ := (hT.kids _ x hx).slice
    rw [hxl, cS_len] at hv1 hl1
    rw [hxk, cK_len, List.length_nil] at hv2 hl2
    rw [hv1] at n0
    rw [hv2] at n1
    have hrow := hT.lines _ x hx
    rw [hxl, hv1] at hrow
    obtain ⟨A0, c0, hv0, hl0, hm0, _⟩ := hv.slice
    rw [cS_len] at hv0 hl0
    subst hv0
    unfold maxLen at hm0 hm1 hm2
    have HV := Lib.hid hv
    have HR := Lib.hid hrow
    have HN := Lib.hid (And.intro hvN hN)
    obtain ⟨i0, hi0, hz0, hz1, hz2⟩ := info_parts infoS
    have HINF := Lib.hid (And.intro hi0 (And.intro hz0 (And.intro hz1 hz2)))
    have hkB := hT.footB
    have hkN := hT.footN
    have h3 := hFN _ hkB
    have h4 := hFN _ hkN
    have HBL := Lib.hid (And.intro h3 h4)
    have HK := Lib.hid (fun b (hb : x.vk.ownBlock = some b) => hFN b (hT.footK _ x b hx hb))
    have HT := Lib.hid hT
    have HX := Lib.hid hx
    have HV2 := Lib.hid hv2
    clear hi0 hz0 hz1 hz2 hrow hv hT hx hv1 hv2 hxl hxk hpu hvN hN hFN hp hkB hkN h3 h4
    go_enter Tryz.func25, Tryz.ntmps25
    go_wp2_with (at_builtin; refine wpList_append_rw (v := .slice A0 acc.length c0) (cs := cS acc) _ rfl _ _ 23 23 rfl 9 i0 (.string ⟨#[]⟩) 16 Tryz.underlying23 HINF.out.1 HINF.out.2.1 HINF.out.2.2.1 HINF.out.2.2.2 rfl rfl HV.out (.slice A1 p.ls.length c1) (cS p.ls).length (cS p.ls) rfl (HR.out.src Tryz.underlying23) ?c1 ?c2 ?_; rotate_left 2; intro v1 w1 hr1 hg1 ha1; have hrB := HT.out.box_grown HV.out (by decide) hg1 0; have hrN := HT.out.row_grown HV.out (by decide) hg1 (p.id * 3 + 1); have gb0 := hrB.1.trans HT.out.c0; have gn1 := hrN.1.trans (HT.out.n1 HX.out); rw [HV2.out] at gn1; have HR1 := Lib.hid hr1; have HG1 := Lib.hid hg1; have HA1 := Lib.hid ha1; clear hr1 hg1 ha1 hrB hrN)
    case c1 => rw [cS_len, cS_len]; omega
    case c2 => rw [cS_len, cS_len]; omega
    go_loop [2, 28] (fun v2 v28 => v2 = v1 ∧ v28 = .int .i64 0) (fun _ _ => 0)
    case atStart => exact ⟨rfl, rfl⟩
    case round =>
      obtain ⟨rfl, rfl⟩ := hrel
      go_wp2
      go_ret
      refine ⟨_, rfl, ?_, HA1.out.from HN.out.1 HN.out.2, ⟨HG1.out.os, HG1.out.tape, HG1.out.output, HG1.out.size, fun b hb => HG1.out.block b (Nat.lt_of_lt_of_le hb HN.out.2) (fun e => Nat.lt_irrefl _ (Nat.lt_of_lt_of_le hb (HN.out.1 b e.symm)))⟩⟩
      have h9 := HR1.out
      rw [show cS acc ++ cS p.ls = cS (acc ++ p.ls) by simp [cS]] at h9
      exact h9
  | succ d ih =>
    intro w F B A fr root h N0 hFN hN p hp v acc hv hvN hb
    have HTA := Lib.hid h
    obtain ⟨N, cap, fv, bytes, L, hT, hpus⟩ := h
    obtain ⟨ps, hps0, hpk, hpls, hpids, hps⟩ := hp
    rw [← hpus] at hpk
    obtain ⟨x, hx, hpu⟩ := pus_some hpk
    have hxl : x.ls = [] := congrArg Bt.Nd.ls hpu
    have hxk : x.ks = ps.map Bt.Part.id := congrArg Bt.Nd.ks hpu
    have b0 := hT.c0
    have n0 := hT.n0 hx
    have n1 := hT.n1 hx
    have hkl := (List.getElem?_eq_some_iff.1 hx).1
    have hf := hT.fit
    have hle := hT.le
    unfold maxLen at hf
    have hkl' : (p.id : Int) < L.length := by omega
    have hplen := Bt.parts_len hps
    rw [← hpls] at hplen
    have hpos : 0 < ps.length := List.length_pos_iff.2 hps0
    obtain ⟨A1, c1, hv1, hl1, hm1, _⟩ := (hT.lines _ x hx).slice
    obtain ⟨A2, c2, hv2, hl2, hm2, hA2⟩ := (hT.kids _ x hx).slice
    rw [hxl, cS_len, List.length_nil] at hv1 hl1
    rw [hxk, cK_len, List.length_map] at hv2 hl2 hA2
    obtain ⟨g, rfl⟩ := hA2 hpos
    rw [hv1] at n0
    rw [hv2] at n1
    have hrow := hT.lines _ x hx
    rw [hxl, hv1] at hrow
    have hrowk := hT.kids _ x hx
    rw [hxk, hv2] at hrowk
    have hgF : g < N0 := hFN g (hT.footK _ x g hx (by rw [hv2]; rfl))
    obtain ⟨A0, c0, hv0, hl0, hm0, _⟩ := hv.slice
    rw [cS_len] at hv0 hl0
    subst hv0
    unfold maxLen at hm0 hm1 hm2
    have HV := Lib.hid hv
    have HR := Lib.hid hrow
    have HRK := Lib.hid hrowk
    have HN := Lib.hid (And.intro hvN hN)
    obtain ⟨i0, hi0, hz0, hz1, hz2⟩ := info_parts infoS
    have HINF := Lib.hid (And.intro hi0 (And.intro hz0 (And.intro hz1 hz2)))
    have HFN := Lib.hid hFN
    have HT := Lib.hid hT
    have HX := Lib.hid hx
    have HV2 := Lib.hid hv2
    have HPS := Lib.hid hps
    have HPLS := Lib.hid hpls
    clear hi0 hz0 hz1 hz2 hrow hrowk hv hT hx hv1 hv2 hxl hxk hpu hvN hFN hpk hpls hpids hps hA2 hpus
    go_enter Tryz.func25, Tryz.ntmps25
    go_wp2_with (at_builtin; refine wpList_append_rw (v := .slice A0 acc.length c0) (cs := cS acc) _ rfl _ _ 23 23 rfl 9 i0 (.string ⟨#[]⟩) 16 Tryz.underlying23 HINF.out.1 HINF.out.2.1 HINF.out.2.2.1 HINF.out.2.2.2 rfl rfl HV.out (.slice A1 0 c1) 0 [] rfl (HR.out.src Tryz.underlying23) ?c1 ?c2 ?_; rotate_left 2; intro v1 w1 hr1 hg1 ha1; have hrB := HT.out.box_grown HV.out (by decide) hg1 0; have hrN := HT.out.row_grown HV.out (by decide) hg1 (p.id * 3 + 1); have gb0 := hrB.1.trans HT.out.c0; have gn1 := hrN.1.trans (HT.out.n1 HX.out); rw [HV2.out] at gn1; rw [List.append_nil] at hr1; have HR1 := Lib.hid hr1; have HG1 := Lib.hid hg1; have HA1 := Lib.hid ha1; clear hr1 hg1 ha1 hrB hrN)
    case c1 => rw [cS_len]; omega
    case c2 => rw [cS_len]; omega
    have hB1 : Below N0 w w1 := ⟨HG1.out.os, HG1.out.tape, HG1.out.output, HG1.out.size, fun b hb => HG1.out.block b (Nat.lt_of_lt_of_le hb HN.out.2) (fun e => Nat.lt_irrefl _ (Nat.lt_of_lt_of_le hb (HN.out.1 b e.symm)))⟩
    have HB1 := Lib.hid hB1
    clear hB1
    go_loopw [2, 28] (fun v2 v28 wr => ∃ n : Nat, v28 = .int .i64 n ∧ n ≤ ps.length ∧ Own N0 w wr v2 (acc ++ (ps.take n).flatMap Bt.Part.ls)) (fun _ v28 _ => ps.length - (intOf v28).toNat)
    case atStart => exact ⟨0, rfl, Nat.zero_le _, by simpa using HR1.out, HA1.out.from HN.out.1 HN.out.2, HB1.out⟩
    case round =>
      clear gb0 gn1 b0 n0 n1
      obtain ⟨n, rfl, hn, hrw, hrN, hbl⟩ := hrel
      have HRW := Lib.hid hrw
      have HRN := Lib.hid hrN
      have HBl := Lib.hid hbl
      clear hrw hrN hbl
      by_cases hlt : n < ps.length
      · have hlt' : (n : Int) < ps.length := by omega
        have hpn := List.getElem?_eq_getElem hlt
        obtain ⟨q, hqe⟩ : ∃ q, q = ps[n] := ⟨_, rfl⟩
        rw [← hqe] at hpn
        have hq := HPS.out q (List.mem_of_getElem? hpn)
        have hkc := (World.cell?_of_block (w := w) (a := ⟨g, n, none⟩) (HBl.out.block g hgF)).trans (HRK.out.cell (j := n) (cK_at (show (ps.map Bt.Part.id)[n]? = some q.id by rw [List.getElem?_map, hpn]; rfl)))
        have htk : (ps.take (n + 1)).flatMap Bt.Part.ls = (ps.take n).flatMap Bt.Part.ls ++ q.ls := by
          rw [List.take_succ_eq_append_getElem hlt, ← hqe, List.flatMap_append]
          simp
        have hql : ((ps.take n).flatMap Bt.Part.ls).length + q.ls.length ≤ p.ls.length := by
          rw [← List.length_append, ← htk, HPLS.out, ← List.take_append_drop (n + 1) ps, List.flatMap_append, List.length_append, List.take_append_drop]
          omega
        have hta : Ta wr F B A fr root := HTA.out.step (fun b hl hf => HBl.out.block b (HFN.out b hf))
        have hcall := ih hta HFN.out (Nat.le_trans hN HBl.out.size) hq.1 (acc := acc ++ (ps.take n).flatMap Bt.Part.ls) HRW.out HRN.out (by rw [List.length_append]; omega)
        rw [List.append_assoc, ← htk] at hcall
        have HCALL := Lib.hid hcall
        clear hcall hta hql htk hq hqe hpn
        go_wp2_with fail
        go_at_call 25
        refine HCALL.out.mono ?_
        rintro e w3 ⟨v3, rfl, h31, h32, h33⟩
        have H3 := Lib.hid (And.intro h31 (And.intro h32 (HBl.out.trans h33)))
        clear h31 h32 h33 hkc
        go_wp2
        go_roundw
        case rel => first | exact ⟨n + 1, by go_num, by omega, H3.out.1, H3.out.2.1, H3.out.2.2⟩ | ((repeat apply Exists.intro); exact ⟨⟨n + 1, by go_num, by omega, H3.out.1, H3.out.2.1, H3.out.2.2⟩, rfl⟩)
        case measure => simp [intOf]; omega
      · obtain rfl : n = ps.length := by omega
        have h4 := HRW.out
        rw [List.take_length, ← HPLS.out] at h4
        have H4 := Lib.hid h4
        clear h4 HRW hlt
        go_wp2
        go_ret
        exact ⟨_, rfl, H4.out, HRN.out, HBl.out⟩

theorem TreeIs.tight {w : World} {F : Nat → Prop} {B : Nat} {ls : List ByteArray} (h : TreeIs w F B ls) : TreeIs w (fun b => F b ∧ b < w.heap.size) B ls := by
  obtain ⟨A, fr, root, d, p, ⟨N, cap, fv, bytes, L, hT, hA⟩, ho⟩ := h
  exact ⟨A, fr, root, d, p, ⟨N, cap, fv, bytes, L, { hT with
    footB := ⟨hT.footB, hT.ltB⟩
    footN := ⟨hT.footN, hT.ltN⟩
    footF := fun b hb => ⟨hT.footF b hb, hT.free.lt b hb⟩
    footL := fun k x b hx hb => ⟨hT.footL k x b hx hb, hT.own_lt_l hx b hb⟩
    footK := fun k x b hx hb => ⟨hT.footK k x b hx hb, hT.own_lt_k hx b hb⟩ }, hA⟩, ho⟩
theorem TreeIs.wide {w : World} {F F' : Nat → Prop} {B : Nat} {ls : List ByteArray} (h : TreeIs w F B ls) (hf : ∀ b, F b → F' b) : TreeIs w F' B ls := by
  obtain ⟨A, fr, root, d, p, ⟨N, cap, fv, bytes, L, hT, hA⟩, ho⟩ := h
  exact ⟨A, fr, root, d, p, ⟨N, cap, fv, bytes, L, { hT with
    footB := hf _ hT.footB
    footN := hf _ hT.footN
    footF := fun b hb => hf _ (hT.footF b hb)
    footL := fun k x b hx hb => hf _ (hT.footL k x b hx hb)
    footK := fun k x b hx hb => hf _ (hT.footK k x b hx hb) }, hA⟩, ho⟩

set_option maxRecDepth 100000 in
theorem Lines_any {w : World} {F : Nat → Prop} {B : Nat} {ls : List ByteArray} (h : TreeIs w F B ls) (hl : ls.length ≤ 1000000000) :
    Calls Tryz.prog 12 #[.pointer (some ⟨B, 0, none⟩)] w (OwnPost w.heap.size w ls) := by
  obtain ⟨A, fr, root, d, p, hT, ho⟩ := h.tight
  have hc := walk_any d hT (N0 := w.heap.size) (fun b hb => hb.2) (Nat.le_refl _) ho.rep (v := .slice none 0 0) (acc := []) (Rw.nil _ _) (fun b hb => by cases hb) (by rw [ho.lines, List.length_nil]; omega)
  rw [ho.id, ho.lines, List.nil_append] at hc
  obtain ⟨k2, _, _, _⟩ := hT.box
  have HC := Lib.hid hc
  clear hc hT ho h
  go_enter Tryz.func12, Tryz.ntmps12
  go_wp2_with fail
  go_at_call 25
  refine HC.out.mono ?_
  rintro e w3 ⟨v3, rfl, h3⟩
  have H3 := Lib.hid h3
  clear h3
  go_wp2
  go_ret
  exact ⟨_, rfl, H3.out⟩
end Go.Proofs.YtdhemdeapphfoaaGreatDoor
