/- The tree's mend: what it leaves. -/
import Derived.Test.YtdhemdeapphfoaaGreatDoorBtQ
import Derived.Test.YtdhemdeapphfoaaGreatDoorBtPx
set_option linter.unusedVariables false
set_option linter.unusedSimpArgs false
namespace Go.Proofs.YtdhemdeapphfoaaGreatDoor
open Go.RowKit Go.Shelf Go.Proofs.YtdhemdeapphfoaaGreatDoorW.PrintWords Go.Proofs.YtdhemdeapphfoaaGreatDoorW.PrintLast

/-- what a move leaves; b: from the end to the front -/
def MovePost (b : Bool) (F : Nat → Prop) (B : Nat) (A : List Bt.Nd) (fr : List Nat) (root d : Nat) (x y : Bt.Part) (w' : World) : Prop :=
  ∃ (A' : List Bt.Nd) (x' y' : Bt.Part), Ta w' F B A' fr root ∧ Bt.Moved A A' d x y x' y' ∧ (if b then x'.ls ++ y'.ls = x.ls ++ y.ls else y'.ls ++ x'.ls = y.ls ++ x.ls)

theorem move_back {w : World} {F : Nat → Prop} {B : Nat} {A : List Bt.Nd} {fr : List Nat} {root d : Nat} (h : Ta w F B A fr root) {x y : Bt.Part} (hx : Bt.Rep A d x) (hy : Bt.Rep A d y) (hn : (x.ids ++ y.ids).Nodup) (hs : 4 < (Bt.nd A x.id).size) (hb : x.ls.length + y.ls.length ≤ 10000000000) (hF : ∀ b, w.heap.size ≤ b → F b) :
    Calls Tryz.prog 189 #[.pointer (some ⟨B, 0, none⟩), .int .i64 x.id, .int .i64 y.id, .bool true] w fun e w' => e = .returned (.tuple #[]) ∧ MovePost true F B A fr root d x y w' ∧ Chg F w w' := by
  have hne : x.id ≠ y.id := fun e => (List.nodup_append.1 hn).2.2 x.id hx.id_mem y.id hy.id_mem e
  cases d with
  | zero =>
    have hsx := hs
    rw [Bt.nd_some hx.1] at hsx
    simp only [Bt.Nd.size, List.length_nil, Nat.add_zero] at hsx
    rcases List.eq_nil_or_concat x.ls with h0 | ⟨l, v, hl⟩
    · rw [h0] at hsx; simp at hsx
    rw [List.concat_eq_append] at hl
    obtain ⟨m1, m2⟩ := Bt.moved_leaf hx hy hne (lx := l) (ly := v :: y.ls) (by rw [hl]; simp) (by simp) (by omega) _ rfl
    refine (move_lb h hne hx.1 hy.1 (l := l) (v := v) hl rfl (fun A' hA' => by subst hA'; exact m2) hF (by simp only; omega) (by simp only; omega)).mono ?_
    rintro e w' ⟨he, ht, hc⟩
    exact ⟨he, ⟨_, _, _, ht, m1, by simp [hl]⟩, hc⟩
  | succ d =>
    obtain ⟨ps, a0, a1, a2, a3, a4⟩ := id hx
    obtain ⟨qs, b0, b1, b2, b3, b4⟩ := id hy
    have hsx := hs
    rw [Bt.nd_some a1] at hsx
    simp only [Bt.Nd.size, List.length_nil, List.length_map, Nat.zero_add] at hsx
    have hpl := Bt.parts_len a4
    have hql := Bt.parts_len b4
    rw [← a2] at hpl
    rw [← b2] at hql
    rcases List.eq_nil_or_concat ps with h0 | ⟨l, z, rfl⟩
    · exact absurd h0 a0
    rw [List.concat_eq_append] at *
    simp only [List.length_append, List.length_singleton] at hsx hpl
    obtain ⟨m1, m2⟩ := Bt.moved_node a1 b1 hne a3 b3 (fun q hq => (List.mem_append.1 hq).elim (a4 q) (b4 q)) hn (ps' := l) (qs' := z :: qs) (by simp) (by simp) (fun e => by rw [e] at hsx; simp at hsx) (by simp) (by rw [List.flatMap_append, ← a2, ← b2, List.length_append]; omega) _ rfl
    refine (move_nb h hne a1 b1 (l := l.map Bt.Part.id) (v := z.id) (by simp) rfl (fun A' hA' => by subst hA'; exact m2) hF (by simp; omega) (by simp; omega)).mono ?_
    rintro e w' ⟨he, ht, hc⟩
    refine ⟨he, ⟨_, _, _, ht, m1, ?_⟩, hc⟩
    simp [a2, b2, List.flatMap_append, List.flatMap_cons]

theorem move_fore {w : World} {F : Nat → Prop} {B : Nat} {A : List Bt.Nd} {fr : List Nat} {root d : Nat} (h : Ta w F B A fr root) {x y : Bt.Part} (hx : Bt.Rep A d x) (hy : Bt.Rep A d y) (hn : (x.ids ++ y.ids).Nodup) (hs : 4 < (Bt.nd A x.id).size) (hb : x.ls.length + y.ls.length ≤ 10000000000) (hF : ∀ b, w.heap.size ≤ b → F b) :
    Calls Tryz.prog 189 #[.pointer (some ⟨B, 0, none⟩), .int .i64 x.id, .int .i64 y.id, .bool false] w fun e w' => e = .returned (.tuple #[]) ∧ MovePost false F B A fr root d x y w' ∧ Chg F w w' := by
  have hne : x.id ≠ y.id := fun e => (List.nodup_append.1 hn).2.2 x.id hx.id_mem y.id hy.id_mem e
  cases d with
  | zero =>
    have hsx := hs
    rw [Bt.nd_some hx.1] at hsx
    simp only [Bt.Nd.size, List.length_nil, Nat.add_zero] at hsx
    obtain ⟨v, l, hl⟩ : ∃ v l, x.ls = v :: l := by
      cases hxl : x.ls with
      | nil => rw [hxl] at hsx; simp at hsx
      | cons v l => exact ⟨v, l, rfl⟩
    obtain ⟨m1, m2⟩ := Bt.moved_leaf hx hy hne (lx := l) (ly := y.ls ++ [v]) (by rw [hl]; simp) (by simp) (by omega) _ rfl
    refine (move_lf h hne hx.1 hy.1 (l := l) (v := v) hl rfl (fun A' hA' => by subst hA'; exact m2) hF (by simp only; omega) (by simp only; omega)).mono ?_
    rintro e w' ⟨he, ht, hc⟩
    exact ⟨he, ⟨_, _, _, ht, m1, by simp [hl]⟩, hc⟩
  | succ d =>
    obtain ⟨ps, a0, a1, a2, a3, a4⟩ := id hx
    obtain ⟨qs, b0, b1, b2, b3, b4⟩ := id hy
    have hsx := hs
    rw [Bt.nd_some a1] at hsx
    simp only [Bt.Nd.size, List.length_nil, List.length_map, Nat.zero_add] at hsx
    have hpl := Bt.parts_len a4
    have hql := Bt.parts_len b4
    rw [← a2] at hpl
    rw [← b2] at hql
    obtain ⟨z, l, rfl⟩ := List.exists_cons_of_ne_nil a0
    simp only [List.length_cons] at hsx hpl
    obtain ⟨m1, m2⟩ := Bt.moved_node a1 b1 hne a3 b3 (fun q hq => (List.mem_append.1 hq).elim (a4 q) (b4 q)) hn (ps' := l) (qs' := qs ++ [z]) (by simp) (by simp) (fun e => by rw [e] at hsx; simp at hsx) (by
      rw [← List.append_assoc]
      exact (List.perm_append_singleton z (l ++ qs))) (by rw [List.flatMap_append, ← a2, ← b2, List.length_append]; omega) _ rfl
    refine (move_nf h hne a1 b1 (l := l.map Bt.Part.id) (v := z.id) (by simp) rfl (fun A' hA' => by subst hA'; simpa using m2) hF (by simp; omega) (by simp; omega)).mono ?_
    rintro e w' ⟨he, ht, hc⟩
    refine ⟨he, ⟨_, _, _, ht, by simpa using m1, ?_⟩, hc⟩
    simp [a2, b2, List.flatMap_append, List.flatMap_cons]

/-- what mend leaves -/
def MendPost (F : Nat → Prop) (B : Nat) (A : List Bt.Nd) (fr : List Nat) (root d k : Nat) (c : Int) (ps : List Bt.Part) (w' : World) : Prop :=
  ∃ (A' : List Bt.Nd) (fr' : List Nat) (ps' : List Bt.Part), Ta w' F B A' fr' root ∧ Bt.Mended A fr d k c ps A' fr' ps'

theorem szk_in {A : List Bt.Nd} {ks : List Nat} {i : Nat} {j : Nat} (h : ks[i]? = some j) : szk A ks (i : Int) = (Bt.nd A j).size := by
  obtain ⟨hi, rfl⟩ := List.getElem?_eq_some_iff.1 h
  unfold szk
  rw [if_pos (by omega)]
  simp [hi]

theorem mend_any {w : World} {F : Nat → Prop} {B : Nat} {A : List Bt.Nd} {fr : List Nat} {root d k n : Nat} {c : Int} {p1 p2 : List Bt.Part} {q : Bt.Part} (h : Ta w F B A fr root) (H : Bt.Mendable A fr d k c p1 q p2) (hpn : p1.length = n) (hF : ∀ b, w.heap.size ≤ b → F b) (hfr : fr.length ≤ 1000000000000) :
    Calls Tryz.prog 184 #[.pointer (some ⟨B, 0, none⟩), .int .i64 k, .int .i64 n] w fun e w' => e = .returned (.tuple #[]) ∧ MendPost F B A fr root d k c (p1 ++ q :: p2) w' ∧ Chg F w w' := by
  have hids : ∀ y ∈ p1 ++ q :: p2, 3 ≤ (Bt.nd A y.id).size := fun y hy => by
    simp only [List.mem_append, List.mem_cons] at hy
    rcases hy with hy | rfl | hy
    · exact Nat.le_trans (by omega) (H.enough y (List.mem_append_left _ hy))
    · exact H.near
    · exact Nat.le_trans (by omega) (H.enough y (List.mem_append_right _ hy))
  have hlen : (p1 ++ q :: p2).length ≤ 10000000000 + 1 := by
    have h4 : ∀ l : List Bt.Part, (∀ y ∈ l, Bt.Rep A d y ∧ 4 ≤ (Bt.nd A y.id).size) → l.length ≤ (l.flatMap Bt.Part.ls).length := fun l hl => by
      have := Bt.parts_len hl
      omega
    have e1 := h4 p1 (fun y hy => ⟨H.rep y (by simp [hy]), H.enough y (by simp [hy])⟩)
    have e2 := h4 p2 (fun y hy => ⟨H.rep y (by simp [hy]), H.enough y (by simp [hy])⟩)
    have e3 := H.few
    rw [List.flatMap_append, List.flatMap_cons, List.length_append, List.length_append] at e3
    simp only [List.length_append, List.length_cons]
    omega
  have hkk : ∀ j ∈ (p1 ++ q :: p2).map Bt.Part.id, ∃ x, A[j]? = some x ∧ x.ls.length ≤ 1000000000000 ∧ x.ks.length ≤ 1000000000000 := fun j hj => by
    obtain ⟨y, hy, rfl⟩ := List.mem_map.1 hj
    have hly : y.ls.length ≤ 10000000000 := by
      obtain ⟨l1, l2, e⟩ := List.append_of_mem hy
      have := H.few
      rw [e, List.flatMap_append, List.flatMap_cons, List.length_append, List.length_append] at this
      omega
    have hr := H.rep y hy
    cases d with
    | zero => exact ⟨_, hr.1, by simp only; omega, by simp⟩
    | succ d =>
      obtain ⟨ps, a0, a1, a2, a3, a4⟩ := hr
      have := Bt.parts_len a4
      rw [← a2] at this
      exact ⟨_, a1, by simp, by simp only [List.length_map]; omega⟩
  have hq : ((p1 ++ q :: p2).map Bt.Part.id)[n]? = some q.id := by rw [← hpn]; simp
  have hz0 := szk_in (A := A) hq
  have hnl : n < ((p1 ++ q :: p2).map Bt.Part.id).length := (List.getElem?_eq_some_iff.1 hq).1
  have hbk : ((p1 ++ q :: p2).map Bt.Part.id).length ≤ 100000000000 := by rw [List.length_map]; omega
  by_cases c1 : 4 ≤ (Bt.nd A q.id).size
  · refine (mend_none h H.node hnl hbk hkk hF (by simp only; rw [hz0]; exact c1)).mono ?_
    rintro e w' ⟨he, ht, hc⟩
    exact ⟨he, ⟨_, _, _, ht, Bt.mended_none H c1⟩, hc⟩
  have hfewT : ∀ {a b : List Bt.Part} {u v : Bt.Part}, p1 ++ q :: p2 = a ++ u :: v :: b → u.ls.length + v.ls.length ≤ 10000000000 := fun {a b u v} e => by
    have := H.few
    rw [e, List.flatMap_append, List.flatMap_cons, List.flatMap_cons, List.length_append, List.length_append, List.length_append] at this
    omega
  -- one is merged with the next
  have hmerge : ∀ {a b : List Bt.Part} {u v : Bt.Part}, p1 ++ q :: p2 = a ++ u :: v :: b → (∀ y ∈ a ++ b, 4 ≤ (Bt.nd A y.id).size) → 4 ≤ (Bt.nd A u.id).size + (Bt.nd A v.id).size → ∀ W, Ta W F B A fr root → (∀ b, W.heap.size ≤ b → F b) →
      Calls Tryz.prog 190 #[.pointer (some ⟨B, 0, none⟩), .int .i64 k, .int .i64 (a.length : Nat)] W fun e w' => e = .returned (.tuple #[]) ∧ MendPost F B A fr root d k c (p1 ++ q :: p2) w' ∧ Chg F W w' := by
    intro a b u v e hen hs W hW hFW
    have hrep := H.rep
    have hnd := H.nodup
    have hnode := H.node
    rw [e] at hrep hnd hnode
    obtain ⟨h1, _⟩ := Bt.nodup_two hnd
    have hu := hrep u (by simp)
    have hv := hrep v (by simp)
    obtain ⟨xu, hxu, _⟩ := hu.get
    obtain ⟨xv, hxv, _⟩ := hv.get
    obtain ⟨u', hm, hk2, huv, hku, hkv, hsum, hb1, hb2⟩ := Bt.merged (kn := ⟨[], a.map Bt.Part.id ++ u.id :: b.map Bt.Part.id, c⟩) hu hv h1 hxu hxv (List.getElem?_eq_some_iff.1 hnode).1 (Nat.le_trans (hfewT e) (by omega)) _ rfl
    have h7 := hkk u.id (by rw [e]; simp)
    have h8 := hkk v.id (by rw [e]; simp)
    refine (merge_any hW hku hkv huv hnode hxu hxv (p1 := a.map Bt.Part.id) (p2 := b.map Bt.Part.id) (by simp) (by simp) rfl hsum hFW hfr (by rw [← e]; exact hbk) ?_ ?_).mono ?_
    · have : xu.ls.length + xv.ls.length ≤ u.ls.length + v.ls.length := by
        cases d with
        | zero =>
          have g1 := hu.1
          have g2 := hv.1
          rw [hxu] at g1
          rw [hxv] at g2
          injection g1 with g1
          injection g2 with g2
          subst g1 g2
          exact Nat.le_refl _
        | succ d =>
          obtain ⟨_, _, g1, _⟩ := hu
          obtain ⟨_, _, g2, _⟩ := hv
          rw [hxu] at g1
          rw [hxv] at g2
          injection g1 with g1
          injection g2 with g2
          subst g1 g2
          simp
      have := hfewT e
      omega
    · have : xu.ks.length + xv.ks.length ≤ u.ls.length + v.ls.length := by
        cases d with
        | zero =>
          have g1 := hu.1
          have g2 := hv.1
          rw [hxu] at g1
          rw [hxv] at g2
          injection g1 with g1
          injection g2 with g2
          subst g1 g2
          simp
        | succ d =>
          obtain ⟨pu, _, g1, l1, _, r1⟩ := hu
          obtain ⟨pv, _, g2, l2, _, r2⟩ := hv
          have m1 := Bt.parts_len r1
          have m2 := Bt.parts_len r2
          rw [← l1] at m1
          rw [← l2] at m2
          rw [hxu] at g1
          rw [hxv] at g2
          injection g1 with g1
          injection g2 with g2
          subst g1 g2
          simp only [List.length_map]
          omega
      have := hfewT e
      omega
    · rintro e1 w' ⟨he, ht, hc⟩
      refine ⟨he, ⟨_, _, a ++ u' :: b, ht, ?_⟩, hc⟩
      rw [e]
      exact Bt.mended_merge hrep hen hnd hm hs (by rw [hk2, List.map_append, List.map_cons, hm.ix])
  by_cases c2 : 4 < szk A ((p1 ++ q :: p2).map Bt.Part.id) ((n : Int) - 1)
  · have hn1 : 1 ≤ n := by
      rcases Nat.lt_or_ge 0 n with h9 | h9
      · exact h9
      · obtain rfl : n = 0 := by omega
        unfold szk at c2
        rw [if_neg (by omega)] at c2
        omega
    rcases List.eq_nil_or_concat p1 with h0 | ⟨a, x, rfl⟩
    · rw [h0] at hpn
      simp at hpn
      omega
    rw [List.concat_eq_append] at *
    have han : a.length + 1 = n := by rw [← hpn]; simp
    have e9 : (a ++ [x]) ++ q :: p2 = a ++ x :: q :: p2 := by simp
    have hx1 : (((a ++ [x]) ++ q :: p2).map Bt.Part.id)[n - 1]? = some x.id := by rw [e9, show n - 1 = a.length by omega]; simp
    have hz1 := szk_in (A := A) hx1
    have hi1 : ((n - 1 : Nat) : Int) = (n : Int) - 1 := by omega
    rw [hi1] at hz1
    have hrep := H.rep
    have hnd := H.nodup
    have hnode := H.node
    rw [e9] at hrep hnd hnode
    obtain ⟨g1, g2, g3, g4⟩ := Bt.nodup_two hnd
    have hxr := hrep x (by simp)
    have hqr := hrep q (by simp)
    refine (mend_back h H.node hnl hbk hkk hF (by simp only; rw [hz0]; omega) c2 (Q := MendPost F B A fr root d k c ((a ++ [x]) ++ q :: p2)) (fun W hW hFW => ?_)).mono (fun _ _ h => h)
    have hg1 : (((a ++ [x]) ++ q :: p2).map Bt.Part.id).getD (n - 1) 0 = x.id := by rw [List.getD_eq_getElem?_getD, hx1]; rfl
    have hg2 : (((a ++ [x]) ++ q :: p2).map Bt.Part.id).getD n 0 = q.id := by rw [List.getD_eq_getElem?_getD, hq]; rfl
    simp only at hg1 hg2 ⊢
    rw [hg1, hg2]
    refine (move_back hW hxr hqr (List.nodup_cons.1 g1).2 (by rw [← hz1]; exact c2) (hfewT e9) hFW).mono ?_
    rintro e w' ⟨he, ⟨A', x', q', ht, hm, hl⟩, hc⟩
    refine ⟨he, ⟨A', fr, a ++ x' :: q' :: p2, ht, ?_⟩, hc⟩
    rw [e9]
    have hsx := hm.sx
    have hsy := hm.sy
    have hnear := H.near
    exact Bt.mended_pair hnode hrep (fun y hy => H.enough y (by simp only [List.mem_append, List.mem_singleton] at hy ⊢; exact hy.elim (fun h => .inl (.inl h)) (fun h => .inr h))) hnd hm.rx hm.ry hm.ix hm.iy (by rw [← hz1] at hsx; omega) (by omega) (by simpa using hl) hm.perm hm.frame hm.len
  by_cases c3 : 4 < szk A ((p1 ++ q :: p2).map Bt.Part.id) ((n : Int) + 1)
  · obtain ⟨x, b, rfl⟩ : ∃ x b, p2 = x :: b := by
      cases p2 with
      | nil =>
        unfold szk at c3
        rw [if_neg (by simp; omega)] at c3
        omega
      | cons x b => exact ⟨x, b, rfl⟩
    have hx1 : ((p1 ++ q :: x :: b).map Bt.Part.id)[n + 1]? = some x.id := by
      rw [← hpn, List.map_append, List.getElem?_append_right (by simp)]
      simp
    have hz1 := szk_in (A := A) hx1
    have hi1 : ((n + 1 : Nat) : Int) = (n : Int) + 1 := by omega
    rw [hi1] at hz1
    have hrep := H.rep
    have hnd := H.nodup
    have hnode := H.node
    obtain ⟨g1, g2, g3, g4⟩ := Bt.nodup_two hnd
    have hxr := hrep x (by simp)
    have hqr := hrep q (by simp)
    refine (mend_fore h H.node hnl hbk hkk hF (by simp only; rw [hz0]; omega) (by simp only; omega) c3 (Q := MendPost F B A fr root d k c (p1 ++ q :: x :: b)) (fun W hW hFW => ?_)).mono (fun _ _ h => h)
    have hg1 : ((p1 ++ q :: x :: b).map Bt.Part.id).getD (n + 1) 0 = x.id := by rw [List.getD_eq_getElem?_getD, hx1]; rfl
    have hg2 : ((p1 ++ q :: x :: b).map Bt.Part.id).getD n 0 = q.id := by rw [List.getD_eq_getElem?_getD, hq]; rfl
    simp only at hg1 hg2 ⊢
    rw [hg1, hg2]
    have hxq : (x.ids ++ q.ids).Nodup := (List.Perm.nodup_iff List.perm_append_comm).2 (List.nodup_cons.1 g1).2
    have hsum := hfewT rfl
    refine (move_fore hW hxr hqr hxq (by rw [← hz1]; exact c3) (by omega) hFW).mono ?_
    rintro e w' ⟨he, ⟨A', x', q', ht, hm, hl⟩, hc⟩
    refine ⟨he, ⟨A', fr, p1 ++ q' :: x' :: b, ht, ?_⟩, hc⟩
    have hsx := hm.sx
    have hsy := hm.sy
    have hnear := H.near
    exact Bt.mended_pair hnode hrep (fun y hy => H.enough y (by simp only [List.mem_append, List.mem_cons] at hy ⊢; exact hy.elim (fun h => .inl h) (fun h => .inr (.inr h)))) hnd hm.ry hm.rx hm.iy hm.ix (by omega) (by rw [← hz1] at hsx; omega) (by simpa using hl) (List.perm_append_comm.trans (hm.perm.trans List.perm_append_comm)) (fun j h1 h2 => hm.frame j h2 h1) hm.len
  by_cases c4 : 0 < n
  · rcases List.eq_nil_or_concat p1 with h0 | ⟨a, x, rfl⟩
    · rw [h0] at hpn
      simp at hpn
      omega
    rw [List.concat_eq_append] at *
    have han : a.length + 1 = n := by rw [← hpn]; simp
    have e9 : (a ++ [x]) ++ q :: p2 = a ++ x :: q :: p2 := by simp
    refine (mend_mb h H.node hnl hbk hkk hF (by simp only; rw [hz0]; omega) (by simp only; omega) (by simp only; omega) c4 (Q := MendPost F B A fr root d k c ((a ++ [x]) ++ q :: p2)) (fun W hW hFW => ?_)).mono (fun _ _ h => h)
    rw [show (n : Int) - 1 = (a.length : Nat) by omega]
    have hx4 := H.enough x (by simp)
    exact hmerge e9 (fun y hy => H.enough y (by simp only [List.mem_append, List.mem_singleton] at hy ⊢; exact hy.elim (fun h => .inl (.inl h)) (fun h => .inr h))) (by omega) W hW hFW
  · obtain rfl : n = 0 := by omega
    obtain rfl : p1 = [] := List.eq_nil_of_length_eq_zero hpn
    obtain ⟨x, b, rfl⟩ : ∃ x b, p2 = x :: b := by
      have := H.two
      cases p2 with
      | nil => simp at this
      | cons x b => exact ⟨x, b, rfl⟩
    refine (mend_m0 h H.node hnl hbk hkk hF (by simp only; rw [hz0]; omega) (by simp only; omega) (by simp only; omega) (by omega) (Q := MendPost F B A fr root d k c ([] ++ q :: x :: b)) (fun W hW hFW => ?_)).mono (fun _ _ h => h)
    have hx4 := H.enough x (by simp)
    exact hmerge (a := []) (u := q) (v := x) (b := b) rfl (fun y hy => H.enough y (by simp only [List.nil_append] at hy ⊢; exact List.mem_cons_of_mem _ hy)) (by omega) W hW hFW
end Go.Proofs.YtdhemdeapphfoaaGreatDoor
