/- The tree's at, Get and Set, walked. -/
import Derived.Test.YtdhemdeapphfoaaGreatDoorBtT
import Derived.Test.YtdhemdeapphfoaaGreatDoorBtPx
import Derived.Deep.LoopGhost
set_option linter.unusedVariables false
set_option linter.unusedSimpArgs false
namespace Go.Proofs.YtdhemdeapphfoaaGreatDoor
open Go.RowKit Go.Shelf Go.Proofs.YtdhemdeapphfoaaGreatDoorW.PrintWords Go.Proofs.YtdhemdeapphfoaaGreatDoorW.PrintLast

def AtPost (A : List Bt.Nd) (d : Nat) (p : Bt.Part) (i : Nat) (w : World) (e : Ending) (w' : World) : Prop := ∃ k j : Nat, e = .returned (.tuple #[.int .i64 k, .int .i64 j]) ∧ w = w' ∧ Bt.AtOk A d p i k j

set_option maxRecDepth 100000 in
set_option maxHeartbeats 1000000 in
theorem at_any {w : World} {F : Nat → Prop} {B : Nat} {A : List Bt.Nd} {fr : List Nat} {root d : Nat} {p : Bt.Part} {i : Nat} (h : Ta w F B A fr root) (hr : Bt.Rep A d p) (hid : p.id = root) (hn : p.ids.Nodup) (hi : i < p.ls.length) (hl : p.ls.length ≤ 10000000000) :
    Calls Tryz.prog 56 #[.pointer (some ⟨B, 0, none⟩), .int .i64 i] w (AtPost A d p i w) := by
  have HTA := Lib.hid h
  obtain ⟨N, cap, fv, bytes, L, hT, hp⟩ := h
  have b0 := hT.c0
  have b2 := hT.c2
  have hf := hT.fit
  have hle := hT.le
  unfold maxLen at hf
  have HT := Lib.hid hT
  have HP := Lib.hid hp
  have HR := Lib.hid hr
  have HN := Lib.hid hn
  have hl' := hl
  clear hT hp hr hn
  subst hid
  go_enter Tryz.func56, Tryz.ntmps56
  go_wp2
  go_loopg [6, 1] d (fun m v6 v1 wr => ∃ (q : Bt.Part) (r : Nat), wr = w ∧ v6 = .int .i64 q.id ∧ v1 = .int .i64 r ∧ Bt.Rep A m q ∧ r < q.ls.length ∧ q.ls.length ≤ 10000000000 ∧ q.ids.Nodup ∧ ∀ k j, Bt.AtOk A m q r k j → Bt.AtOk A d p i k j)
  case atStart => exact ⟨p, i, rfl, rfl, rfl, HR.out, hi, hl, HN.out, fun _ _ h => h⟩
  case round =>
    obtain ⟨q, r, rfl, rfl, rfl, hq, hrl, hql, hqn, himp⟩ := hrel
    have HIMP := Lib.hid himp
    clear himp
    cases gk with
    | zero =>
      have hqa := hq.1
      rw [← HP.out] at hqa
      obtain ⟨x, hx, hpu⟩ := pus_some hqa
      have hxk : x.ks = [] := congrArg Bt.Nd.ks hpu
      have hkl := (List.getElem?_eq_some_iff.1 hx).1
      have hkl' : (q.id : Int) < L.length := by omega
      have n1 := HT.out.n1 hx
      obtain ⟨A2, c2, hv2, hl2, hm2, _⟩ := (HT.out.kids _ x hx).slice
      rw [hxk, cK_len, List.length_nil] at hv2 hl2
      rw [hv2] at n1
      have HQ := Lib.hid (HIMP.out _ _ (Bt.at_leaf hq hrl))
      clear hqa hx hpu hxk hv2 hq hqn
      go_wp2_with (go_at_call 66; refine (leaf_at (n := 0) (c := c2) (A := A2) (by go_simp) (by omega)).mono ?_; rintro e w1 ⟨rfl, rfl⟩)
      go_ret2
      exact ⟨_, _, rfl, rfl, HQ.out⟩
    | succ m =>
      obtain ⟨ps, hps0, hpk, hpls, hpids, hps⟩ := id hq
      have hpk0 := hpk
      rw [← HP.out] at hpk
      obtain ⟨x, hx, hpu⟩ := pus_some hpk
      have hxk : x.ks = ps.map Bt.Part.id := congrArg Bt.Nd.ks hpu
      have n1 := HT.out.n1 hx
      have hkl := (List.getElem?_eq_some_iff.1 hx).1
      have hkl' : (q.id : Int) < L.length := by omega
      have hplen := Bt.parts_len hps
      rw [← hpls] at hplen
      have hpos : 0 < ps.length := List.length_pos_iff.2 hps0
      obtain ⟨A2, c2, hv2, hl2, hm2, hA2⟩ := (HT.out.kids _ x hx).slice
      rw [hxk, cK_len, List.length_map] at hv2 hl2 hA2
      obtain ⟨g, rfl⟩ := hA2 hpos
      rw [hv2] at n1
      unfold maxLen at hm2
      have hrow := HT.out.kids _ x hx
      rw [hxk, hv2] at hrow
      obtain ⟨p1, q0, p2, r2, hsplit, hfind, hir, hrq, hrq2⟩ := Bt.find_law ps 0 r hps0 (fun q hq => (hps q hq).1) (by rw [← hpls]; omega)
      have hrq3 := hrq2 (by rw [← hpls]; exact hrl)
      have hk1 : ∀ j ∈ ps.map Bt.Part.id, ∃ y, A[j]? = some y ∧ 0 ≤ y.ct := fun j hj => by
        obtain ⟨q, hq, rfl⟩ := List.mem_map.1 hj
        obtain ⟨y, hy, hc⟩ := (hps q hq).1.get
        exact ⟨y, hy, by rw [hc]; omega⟩
      rw [Nat.zero_add] at hfind
      have hcell := hrow.cell (j := p1.length) (cK_at (k := q0.id) (by rw [hsplit]; simp))
      have hp1 : p1.length < ps.length := by rw [hsplit]; simp
      have hp1' : (p1.length : Int) < ps.length := by omega
      have hfc := find_ta HTA.out hpk0 (by simpa using hps0) hk1 (i := r) (by omega)
      simp only at hfc
      rw [hfind] at hfc
      have HFC := Lib.hid hfc
      have hq0 := (hps q0 (by rw [hsplit]; simp)).1
      have hq0l : q0.ls.length ≤ 10000000000 := by
        rw [hpls, hsplit, List.flatMap_append, List.flatMap_cons, List.length_append, List.length_append] at hql
        omega
      have hq0n : q0.ids.Nodup := by
        have h9 := hqn
        rw [hpids, hsplit, List.flatMap_append, List.flatMap_cons] at h9
        exact (List.nodup_append.1 (List.nodup_append.1 (List.nodup_cons.1 h9).2).2.1).1
      have HNEW := Lib.hid (And.intro hq0 (And.intro hrq3 (And.intro hq0l (And.intro hq0n (fun k j hkj => HIMP.out k j (Bt.at_node hpk0 hps0 hpids hpls hps hqn hsplit hir hrq3 hkj))))))
      have hpsl : ps.length ≤ 10000000000 := by omega
      clear hfc hk1 hrow hx hpk hpls hpids hps hsplit hir hfind hv2 hA2 hxk hpu hps0 hp1 hpk0 hrq hrq2 hrq3 hq hqn hq0 hq0l hq0n
      go_wp2_with (first
        | (go_at_call 66; refine (leaf_no (n := ps.length) (c := c2) (A := some ⟨g, 0, none⟩) (by go_simp) (by omega) (by omega)).mono ?_; rintro e w1 ⟨rfl, rfl⟩)
        | (go_at_call 68; refine HFC.out.mono ?_; rintro e w1 ⟨rfl, rfl⟩))
      go_roundg m
      case measure => omega
      case rel => exact ⟨q0, r2, rfl, rfl, rfl, HNEW.out.1, HNEW.out.2.1, HNEW.out.2.2.1, HNEW.out.2.2.2.1, HNEW.out.2.2.2.2⟩
end Go.Proofs.YtdhemdeapphfoaaGreatDoor
