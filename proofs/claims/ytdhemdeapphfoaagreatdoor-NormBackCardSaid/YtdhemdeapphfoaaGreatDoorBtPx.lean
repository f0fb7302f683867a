
set_option linter.unusedVariables false
set_option linter.unusedSimpArgs false

/- The tree's plain part, first half: an arena of nodes stands for a list of lines; its words, and putting a line in. -/
namespace Go.Proofs.YtdhemdeapphfoaaGreatDoor.Bt

structure Nd where
  ls : List ByteArray
  ks : List Nat
  ct : Int

def Nd.z : Nd := ⟨[], [], 0⟩
def Nd.size (x : Nd) : Nat := x.ls.length + x.ks.length
def nd (A : List Nd) (k : Nat) : Nd := (A[k]?).getD Nd.z
def cts (A : List Nd) (ks : List Nat) : Int := (ks.map fun k => (nd A k).ct).sum
def setSum (A : List Nd) (k : Nat) : List Nd := A.set k ⟨(nd A k).ls, (nd A k).ks, (nd A k).ls.length + cts A (nd A k).ks⟩
def mk (A : List Nd) (fr : List Nat) (x : Nd) : List Nd × List Nat × Nat := match fr.getLast? with
  | none => (A ++ [x], [], A.length)
  | some m => (A.set m x, fr.dropLast, m)
def half1 (x : Nd) : Nd := if x.ks = [] then ⟨x.ls.take (x.size / 2), x.ks, x.ct⟩ else ⟨x.ls, x.ks.take (x.size / 2), x.ct⟩
def half2 (x : Nd) : Nd := if x.ks = [] then ⟨x.ls.drop (x.size / 2), [], 0⟩ else ⟨[], x.ks.drop (x.size / 2), 0⟩
def split (A : List Nd) (fr : List Nat) (k : Nat) : List Nd × List Nat × Option Nat :=
  if (nd A k).size ≤ 8 then (A, fr, none)
  else (setSum (setSum (mk (A.set k (half1 (nd A k))) fr (half2 (nd A k))).1 k) (mk (A.set k (half1 (nd A k))) fr (half2 (nd A k))).2.2,
    (mk (A.set k (half1 (nd A k))) fr (half2 (nd A k))).2.1, some (mk (A.set k (half1 (nd A k))) fr (half2 (nd A k))).2.2)

structure Part where
  id : Nat
  ls : List ByteArray
  ids : List Nat

def Rep (A : List Nd) : Nat → Part → Prop
  | 0, p => A[p.id]? = some ⟨p.ls, [], p.ls.length⟩ ∧ p.ids = [p.id]
  | d + 1, p => ∃ ps : List Part, ps ≠ [] ∧ A[p.id]? = some ⟨[], ps.map Part.id, p.ls.length⟩ ∧ p.ls = ps.flatMap Part.ls ∧ p.ids = p.id :: ps.flatMap Part.ids ∧ ∀ q ∈ ps, Rep A d q ∧ 4 ≤ (nd A q.id).size

theorem nd_some {A : List Nd} {k : Nat} {x : Nd} (h : A[k]? = some x) : nd A k = x := by rw [nd, h]; rfl
theorem nd_congr {A B : List Nd} {k : Nat} (h : B[k]? = A[k]?) : nd B k = nd A k := by rw [nd, nd, h]

theorem split_small {A : List Nd} {fr : List Nat} {k : Nat} (h : (nd A k).size ≤ 8) : split A fr k = (A, fr, none) := if_pos h
theorem split_big {A : List Nd} {fr : List Nat} {k : Nat} {x : Nd} {B : List Nd} {fr2 : List Nat} {o : Nat} (hx : nd A k = x) (h : ¬ x.size ≤ 8) (em : mk (A.set k (half1 x)) fr (half2 x) = (B, fr2, o)) : split A fr k = (setSum (setSum B k) o, fr2, some o) := by
  subst hx
  rw [split, if_neg h, em]

theorem Rep.id_mem {A : List Nd} : ∀ {d : Nat} {p : Part}, Rep A d p → p.id ∈ p.ids
  | 0, _, h => by rw [h.2]; simp
  | _ + 1, _, ⟨_, _, _, _, h, _⟩ => by rw [h]; simp
theorem Rep.get {A : List Nd} : ∀ {d : Nat} {p : Part}, Rep A d p → ∃ x, A[p.id]? = some x ∧ x.ct = p.ls.length
  | 0, _, h => ⟨_, h.1, rfl⟩
  | _ + 1, _, ⟨_, _, h, _⟩ => ⟨_, h, rfl⟩
theorem Rep.ct {A : List Nd} {d : Nat} {p : Part} (h : Rep A d p) : (nd A p.id).ct = p.ls.length := by
  obtain ⟨x, h1, h2⟩ := h.get
  rw [nd_some h1, h2]
theorem Rep.congr {A B : List Nd} : ∀ {d : Nat} {p : Part}, Rep A d p → (∀ j ∈ p.ids, B[j]? = A[j]?) → Rep B d p
  | 0, p, h, hf => ⟨by rw [hf _ (by rw [h.2]; simp)]; exact h.1, h.2⟩
  | d + 1, p, ⟨ps, h0, h1, h2, h3, h4⟩, hf => by
    refine ⟨ps, h0, by rw [hf _ (by rw [h3]; simp)]; exact h1, h2, h3, fun q hq => ?_⟩
    obtain ⟨h5, h6⟩ := h4 q hq
    have hs : ∀ j ∈ q.ids, B[j]? = A[j]? := fun j hj => hf j (by rw [h3]; exact List.mem_cons_of_mem _ (List.mem_flatMap.2 ⟨q, hq, hj⟩))
    exact ⟨h5.congr hs, by rw [nd_congr (hs _ h5.id_mem)]; exact h6⟩
theorem Rep.lt {A : List Nd} : ∀ {d : Nat} {p : Part}, Rep A d p → ∀ j ∈ p.ids, j < A.length
  | 0, p, h, j, hj => by
    rw [h.2] at hj
    obtain rfl : j = p.id := by simpa using hj
    exact (List.getElem?_eq_some_iff.1 h.1).1
  | d + 1, p, ⟨ps, h0, h1, h2, h3, h4⟩, j, hj => by
    rw [h3] at hj
    rcases List.mem_cons.1 hj with rfl | hj
    · exact (List.getElem?_eq_some_iff.1 h1).1
    · obtain ⟨q, hq, hj⟩ := List.mem_flatMap.1 hj
      exact (h4 q hq).1.lt j hj

theorem cts_parts {A : List Nd} {d : Nat} : ∀ {ps : List Part}, (∀ q ∈ ps, Rep A d q) → cts A (ps.map Part.id) = (ps.flatMap Part.ls).length
  | [], _ => rfl
  | q :: ps, h => by
    have ih := cts_parts (ps := ps) (fun x hx => h x (by simp [hx]))
    unfold cts at ih ⊢
    simp only [List.map_cons, List.sum_cons, List.flatMap_cons, List.length_append]
    rw [ih, (h q (by simp)).ct]
    simp

theorem set_self {A : List Nd} {k : Nat} {x : Nd} (h : k < A.length) : (A.set k x)[k]? = some x := by simp [h]
theorem set_other {A : List Nd} {k j : Nat} {x : Nd} (h : j ≠ k) : (A.set k x)[j]? = A[j]? := by rw [List.getElem?_set, if_neg (fun e => h e.symm)]

/-- a new node -/
theorem mk_law {A : List Nd} {fr : List Nat} {x : Nd} (hl : ∀ j ∈ fr, j < A.length) (hn : fr.Nodup) :
    ∃ (B : List Nd) (fr2 : List Nat) (o t : Nat), mk A fr x = (B, fr2, o) ∧ B[o]? = some x ∧ (∀ j, j < A.length → j ∉ fr → B[j]? = A[j]?) ∧ (∀ j, j < A.length → j ≠ o → B[j]? = A[j]?) ∧ B.length = A.length + t ∧ (o :: fr2).Perm (fr ++ List.range' A.length t) ∧ (t = 0 ∨ fr2 = []) ∧ (o ∈ fr ∨ o = A.length) ∧ t ≤ 1 ∧ (fr = [] → fr2 = []) := by
  rcases List.eq_nil_or_concat fr with rfl | ⟨fr', m, rfl⟩
  · refine ⟨A ++ [x], [], A.length, 1, rfl, by simp, fun j hj _ => List.getElem?_append_left hj, fun j hj _ => List.getElem?_append_left hj, by simp, by simp, .inr rfl, .inr rfl, Nat.le_refl _, fun _ => rfl⟩
  · have hm : m < A.length := hl m (by simp)
    refine ⟨A.set m x, fr', m, 0, by simp [mk], set_self hm, fun j hj hf => set_other (fun e => hf (by simp [e])), fun j hj hf => set_other hf, by simp, ?_, .inl rfl, .inl (by simp), Nat.zero_le _, fun h => by simp at h⟩
    simp only [List.range'_zero, List.append_nil, List.concat_eq_append]
    exact (List.perm_append_singleton m fr').symm

/-- what putting a line into a node leaves -/
structure Ins (A : List Nd) (fr : List Nat) (d : Nat) (p : Part) (out : List ByteArray) (A' : List Nd) (fr' : List Nat) (oth : Option Nat) (q : Part) (r : List Part) (t : Nat) : Prop where
  id : q.id = p.id
  other : r.map Part.id = oth.toList
  rep : ∀ y ∈ q :: r, Rep A' d y
  small : ∀ y ∈ r, 4 ≤ (nd A' y.id).size ∧ 4 ≤ (nd A' q.id).size
  size : r = [] → (nd A p.id).size ≤ (nd A' q.id).size
  lines : (q :: r).flatMap Part.ls = out
  length : A'.length = A.length + t
  perm : ((q :: r).flatMap Part.ids ++ fr').Perm (p.ids ++ (fr ++ List.range' A.length t))
  full : t = 0 ∨ fr' = []
  frame : ∀ j, j < A.length → j ∉ p.ids → j ∉ fr → A'[j]? = A[j]?
  few : t ≤ d + 1

theorem setSum_self {A : List Nd} {k : Nat} {x : Nd} (h : A[k]? = some x) : (setSum A k)[k]? = some ⟨x.ls, x.ks, x.ls.length + cts A x.ks⟩ := by
  rw [setSum, nd_some h, set_self (List.getElem?_eq_some_iff.1 h).1]
theorem setSum_other {A : List Nd} {k j : Nat} (h : j ≠ k) : (setSum A k)[j]? = A[j]? := set_other h
theorem setSum_length (A : List Nd) (k : Nat) : (setSum A k).length = A.length := by simp [setSum]
theorem cts_congr {A B : List Nd} {ks : List Nat} (h : ∀ j ∈ ks, B[j]? = A[j]?) : cts B ks = cts A ks := by
  unfold cts
  congr 1
  exact List.map_congr_left fun k hk => by rw [nd_congr (h k hk)]

/-- a leaf's lines are too many, or not -/
theorem split_leaf {A : List Nd} {fr : List Nat} {k : Nat} {ls : List ByteArray} {c : Int} (hk : A[k]? = some ⟨ls, [], c⟩) (hl : ∀ j ∈ fr, j < A.length) (hn : fr.Nodup) (hkf : k ∉ fr) :
    ∃ (A' : List Nd) (fr' : List Nat) (oth : Option Nat) (q : Part) (r : List Part) (t : Nat), split (setSum A k) fr k = (A', fr', oth) ∧ q.id = k ∧ r.map Part.id = oth.toList ∧ (∀ y ∈ q :: r, Rep A' 0 y) ∧ (∀ y ∈ r, 4 ≤ (nd A' y.id).size ∧ 4 ≤ (nd A' q.id).size) ∧
      (r = [] → (nd A' q.id).size = ls.length) ∧ (q :: r).flatMap Part.ls = ls ∧ A'.length = A.length + t ∧ ((q :: r).flatMap Part.ids ++ fr').Perm (k :: (fr ++ List.range' A.length t)) ∧ (t = 0 ∨ fr' = []) ∧ (∀ j, j < A.length → j ≠ k → j ∉ fr → A'[j]? = A[j]?) ∧ t ≤ 1 ∧ (fr = [] → fr' = []) := by
  have hkl : k < A.length := (List.getElem?_eq_some_iff.1 hk).1
  have e1 := setSum_self hk
  simp only [cts, List.map_nil, List.sum_nil, Int.add_zero] at e1
  have e2 := nd_some e1
  by_cases h8 : ls.length ≤ 8
  · refine ⟨_, _, _, ⟨k, ls, [k]⟩, [], 0, split_small (by rw [e2]; simpa [Nd.size] using h8), rfl, rfl, ?_, by simp, fun _ => ?_, by simp, by simp [setSum_length], by simp, .inl rfl, fun j _ hj _ => setSum_other hj, by omega, fun h => h⟩
    · intro y hy
      obtain rfl : y = _ := by simpa using hy
      exact ⟨e1, rfl⟩
    · show (nd (setSum A k) k).size = _
      rw [e2, Nd.size]; rfl
  · have eh1 : half1 ⟨ls, [], ls.length⟩ = ⟨ls.take (ls.length / 2), [], ls.length⟩ := by simp [half1, Nd.size]
    have eh2 : half2 ⟨ls, [], ls.length⟩ = ⟨ls.drop (ls.length / 2), [], 0⟩ := by simp [half2, Nd.size]
    obtain ⟨B, fr2, o, t, em, b1, b2, b3, b4, b5, b6, b7, b8, b9⟩ := mk_law (A := (setSum A k).set k ⟨ls.take (ls.length / 2), [], ls.length⟩) (fr := fr) (x := ⟨ls.drop (ls.length / 2), [], 0⟩) (by simpa [setSum_length] using hl) hn
    have es := split_big (fr := fr) (B := B) (fr2 := fr2) (o := o) e2 (by simpa [Nd.size] using h8) (by rw [eh1, eh2]; exact em)
    have hA1 : ((setSum A k).set k ⟨ls.take (ls.length / 2), [], ls.length⟩).length = A.length := by simp [setSum_length]
    rw [hA1] at b2 b3 b4 b5 b7
    have hok : o ≠ k := by
      rcases b7 with h | h
      · exact fun e => hkf (e ▸ h)
      · omega
    have bk : B[k]? = some ⟨ls.take (ls.length / 2), [], ls.length⟩ := by
      rw [b3 k hkl (fun e => hok e.symm), set_self (by rw [setSum_length]; exact hkl)]
    have c1 := setSum_self bk
    have c2 : (setSum B k)[o]? = some ⟨ls.drop (ls.length / 2), [], 0⟩ := by rw [setSum_other hok]; exact b1
    have c3 := setSum_self c2
    simp only [cts, List.map_nil, List.sum_nil, Int.add_zero] at c1 c3
    have c4 : (setSum (setSum B k) o)[k]? = some ⟨ls.take (ls.length / 2), [], ((ls.take (ls.length / 2)).length : Nat)⟩ := by rw [setSum_other (fun e => hok e.symm)]; exact c1
    refine ⟨_, _, _, ⟨k, ls.take (ls.length / 2), [k]⟩, [⟨o, ls.drop (ls.length / 2), [o]⟩], t, es, rfl, rfl, ?_, ?_, by simp, by simp [List.take_append_drop], by simp [setSum_length, b4], ?_, b6, ?_, b8, b9⟩
    · intro y hy
      rcases List.mem_cons.1 hy with rfl | hy
      · exact ⟨c4, rfl⟩
      · obtain rfl : y = _ := by simpa using hy
        exact ⟨c3, rfl⟩
    · intro y hy
      obtain rfl : y = _ := by simpa using hy
      rw [nd_some c3, nd_some c4]
      simp only [Nd.size, List.length_drop, List.length_take, List.length_nil]
      omega
    · simpa using b5
    · intro j hj h1 h2
      have h3 : j ≠ o := by
        rcases b7 with h | h
        · exact fun e => h2 (e ▸ h)
        · omega
      rw [setSum_other h3, setSum_other h1, b2 j hj h2, set_other h1, setSum_other h1]

/-- a node's kids are too many, or not -/
theorem split_node {A : List Nd} {fr : List Nat} {k d : Nat} {ps : List Part} {c : Int} (hk : A[k]? = some ⟨[], ps.map Part.id, c⟩) (hps : ps ≠ []) (hr : ∀ q ∈ ps, Rep A d q ∧ 4 ≤ (nd A q.id).size) (hl : ∀ j ∈ fr, j < A.length) (hn : (k :: (ps.flatMap Part.ids ++ fr)).Nodup) :
    ∃ (A' : List Nd) (fr' : List Nat) (oth : Option Nat) (q : Part) (r : List Part) (t : Nat), split (setSum A k) fr k = (A', fr', oth) ∧ q.id = k ∧ r.map Part.id = oth.toList ∧ (∀ y ∈ q :: r, Rep A' (d + 1) y) ∧ (∀ y ∈ r, 4 ≤ (nd A' y.id).size ∧ 4 ≤ (nd A' q.id).size) ∧
      (r = [] → (nd A' q.id).size = ps.length) ∧ (q :: r).flatMap Part.ls = ps.flatMap Part.ls ∧ A'.length = A.length + t ∧ ((q :: r).flatMap Part.ids ++ fr').Perm (k :: (ps.flatMap Part.ids ++ (fr ++ List.range' A.length t))) ∧ (t = 0 ∨ fr' = []) ∧ (∀ j, j < A.length → j ≠ k → j ∉ fr → A'[j]? = A[j]?) ∧ t ≤ 1 ∧ (fr = [] → fr' = []) := by
  have hkl : k < A.length := (List.getElem?_eq_some_iff.1 hk).1
  have hct := cts_parts (A := A) (d := d) (ps := ps) (fun q hq => (hr q hq).1)
  have e1 := setSum_self hk
  simp only [List.length_nil, Int.natCast_zero, Int.zero_add] at e1
  rw [hct] at e1
  have e2 := nd_some e1
  obtain ⟨hk1, hn1⟩ := List.nodup_cons.1 hn
  have hkp : ∀ q ∈ ps, ∀ j ∈ q.ids, j ≠ k := fun q hq j hj e => hk1 (List.mem_append_left _ (List.mem_flatMap.2 ⟨q, hq, e ▸ hj⟩))
  have hfp : ∀ q ∈ ps, ∀ j ∈ q.ids, j ∉ fr := fun q hq j hj e => (List.nodup_append.1 hn1).2.2 j (List.mem_flatMap.2 ⟨q, hq, hj⟩) j e rfl
  have hkf : k ∉ fr := fun e => hk1 (List.mem_append_right _ e)
  by_cases h8 : ps.length ≤ 8
  · refine ⟨_, _, _, ⟨k, ps.flatMap Part.ls, k :: ps.flatMap Part.ids⟩, [], 0, split_small (by rw [e2]; simpa [Nd.size] using h8), rfl, rfl, ?_, by simp, fun _ => ?_, by simp, by simp [setSum_length], by simp, .inl rfl, fun j _ hj _ => setSum_other hj, by omega, fun h => h⟩
    · intro y hy
      obtain rfl : y = _ := by simpa using hy
      refine ⟨ps, hps, e1, rfl, rfl, fun q hq => ?_⟩
      have hs : ∀ j ∈ q.ids, (setSum A k)[j]? = A[j]? := fun j hj => setSum_other (hkp q hq j hj)
      exact ⟨(hr q hq).1.congr hs, by rw [nd_congr (hs _ (hr q hq).1.id_mem)]; exact (hr q hq).2⟩
    · show (nd (setSum A k) k).size = _
      rw [e2, Nd.size]; simp
  · skip
    have hne : ps.map Part.id ≠ [] := by simpa using hps
    have eh1 : half1 ⟨[], ps.map Part.id, ((ps.flatMap Part.ls).length : Nat)⟩ = ⟨[], (ps.take (ps.length / 2)).map Part.id, ((ps.flatMap Part.ls).length : Nat)⟩ := by simp [half1, Nd.size, hps, List.map_take]
    have eh2 : half2 ⟨[], ps.map Part.id, ((ps.flatMap Part.ls).length : Nat)⟩ = ⟨[], (ps.drop (ps.length / 2)).map Part.id, 0⟩ := by simp [half2, Nd.size, hps, List.map_drop]
    generalize hp1 : ps.take (ps.length / 2) = p1 at eh1
    generalize hp2 : ps.drop (ps.length / 2) = p2 at eh2
    have h12 : p1 ++ p2 = ps := by rw [← hp1, ← hp2, List.take_append_drop]
    have hl1 : p1.length = ps.length / 2 := by rw [← hp1, List.length_take]; omega
    have hl2 : p2.length = ps.length - ps.length / 2 := by rw [← hp2, List.length_drop]
    have hm1 : ∀ q ∈ p1, q ∈ ps := fun q hq => by rw [← h12]; exact List.mem_append_left _ hq
    have hm2 : ∀ q ∈ p2, q ∈ ps := fun q hq => by rw [← h12]; exact List.mem_append_right _ hq
    obtain ⟨B, fr2, o, t, em, b1, b2, b3, b4, b5, b6, b7, b8, b9⟩ := mk_law (A := (setSum A k).set k ⟨[], p1.map Part.id, ((ps.flatMap Part.ls).length : Nat)⟩) (fr := fr) (x := ⟨[], p2.map Part.id, 0⟩) (by simpa [setSum_length] using hl) (List.nodup_append.1 hn1).2.1
    have es := split_big (fr := fr) (B := B) (fr2 := fr2) (o := o) e2 (by simpa [Nd.size] using h8) (by rw [eh1, eh2]; exact em)
    have hA1 : ((setSum A k).set k ⟨[], p1.map Part.id, ((ps.flatMap Part.ls).length : Nat)⟩).length = A.length := by simp [setSum_length]
    rw [hA1] at b2 b3 b4 b5 b7
    have hok : o ≠ k := by
      rcases b7 with h | h
      · exact fun e => hkf (e ▸ h)
      · omega
    have hop : ∀ q ∈ ps, ∀ j ∈ q.ids, j ≠ o := fun q hq j hj e => by
      rcases b7 with h | h
      · exact hfp q hq j hj (e ▸ h)
      · have := (hr q hq).1.lt j hj
        omega
    have bk : B[k]? = some ⟨[], p1.map Part.id, ((ps.flatMap Part.ls).length : Nat)⟩ := by
      rw [b3 k hkl (fun e => hok e.symm), set_self (by rw [setSum_length]; exact hkl)]
    have bq : ∀ q ∈ ps, ∀ j ∈ q.ids, B[j]? = A[j]? := fun q hq j hj => by
      rw [b2 j ((hr q hq).1.lt j hj) (hfp q hq j hj), set_other (hkp q hq j hj), setSum_other (hkp q hq j hj)]
    have fin : ∀ q ∈ ps, ∀ j ∈ q.ids, (setSum (setSum B k) o)[j]? = A[j]? := fun q hq j hj => by
      rw [setSum_other (hop q hq j hj), setSum_other (hkp q hq j hj), bq q hq j hj]
    have c1 := setSum_self bk
    have c2 : (setSum B k)[o]? = some ⟨[], p2.map Part.id, 0⟩ := by rw [setSum_other hok]; exact b1
    have c3 := setSum_self c2
    have hid : ∀ q ∈ ps, q.id ∈ q.ids := fun q hq => (hr q hq).1.id_mem
    have cc1 : cts B (p1.map Part.id) = (p1.flatMap Part.ls).length := by
      rw [cts_congr (A := A) (B := B) (fun j hj => by obtain ⟨q, hq, rfl⟩ := List.mem_map.1 hj; exact bq q (hm1 q hq) _ (hid q (hm1 q hq))), cts_parts (d := d) (fun q hq => (hr q (hm1 q hq)).1)]
    have cc2 : cts (setSum B k) (p2.map Part.id) = (p2.flatMap Part.ls).length := by
      rw [cts_congr (A := A) (B := setSum B k) (fun j hj => by obtain ⟨q, hq, rfl⟩ := List.mem_map.1 hj; rw [setSum_other (hkp q (hm2 q hq) _ (hid q (hm2 q hq)))]; exact bq q (hm2 q hq) _ (hid q (hm2 q hq))), cts_parts (d := d) (fun q hq => (hr q (hm2 q hq)).1)]
    simp only [List.length_nil, Int.natCast_zero, Int.zero_add] at c1 c3
    rw [cc1] at c1
    rw [cc2] at c3
    have c4 : (setSum (setSum B k) o)[k]? = some ⟨[], p1.map Part.id, ((p1.flatMap Part.ls).length : Nat)⟩ := by rw [setSum_other (fun e => hok e.symm)]; exact c1
    have hq' : ∀ q ∈ ps, Rep (setSum (setSum B k) o) d q ∧ 4 ≤ (nd (setSum (setSum B k) o) q.id).size := fun q hq => ⟨(hr q hq).1.congr (fin q hq), by rw [nd_congr (fin q hq _ (hid q hq))]; exact (hr q hq).2⟩
    refine ⟨_, _, _, ⟨k, p1.flatMap Part.ls, k :: p1.flatMap Part.ids⟩, [⟨o, p2.flatMap Part.ls, o :: p2.flatMap Part.ids⟩], t, es, rfl, rfl, ?_, ?_, by simp, ?_, by simp [setSum_length, b4], ?_, b6, ?_, b8, b9⟩
    · intro y hy
      rcases List.mem_cons.1 hy with rfl | hy
      · exact ⟨p1, fun e => by rw [e] at hl1; simp at hl1; omega, c4, rfl, rfl, fun q hq => hq' q (hm1 q hq)⟩
      · obtain rfl : y = _ := by simpa using hy
        exact ⟨p2, fun e => by rw [e] at hl2; simp at hl2; omega, c3, rfl, rfl, fun q hq => hq' q (hm2 q hq)⟩
    · intro y hy
      obtain rfl : y = _ := by simpa using hy
      rw [nd_some c3, nd_some c4]
      simp only [Nd.size, List.length_map, List.length_nil]
      omega
    · rw [← h12]; simp
    · rw [← h12]
      simp only [List.flatMap_cons, List.flatMap_nil, List.append_nil, List.flatMap_append, List.cons_append, List.append_assoc]
      refine List.Perm.cons _ (List.Perm.append_left _ ?_)
      exact (List.perm_middle (a := o) (l₁ := p2.flatMap Part.ids) (l₂ := fr2)).symm.trans (List.Perm.append_left _ b5)
    · intro j hj h1 h2
      have h3 : j ≠ o := by
        rcases b7 with h | h
        · exact fun e => h2 (e ▸ h)
        · omega
      rw [setSum_other h3, setSum_other h1, b2 j hj h2, set_other h1, setSum_other h1]
end Go.Proofs.YtdhemdeapphfoaaGreatDoor.Bt

/- The tree's plain part: finding a line's kid; putting a line in, from the leaf up. -/
namespace Go.Proofs.YtdhemdeapphfoaaGreatDoor.Bt

/-- which kid has the i-th line, and which of its lines that is (n: kids passed over) -/
def find (A : List Nd) : List Nat → Nat → Nat → Nat × Nat
  | [], _, i => (0, i)
  | [_], n, i => (n, i)
  | k :: k2 :: ks, n, i => if (i : Int) < (nd A k).ct then (n, i) else find A (k2 :: ks) (n + 1) (i - (nd A k).ct.toNat)

theorem find_law {A : List Nd} {d : Nat} : ∀ (ps : List Part) (n i : Nat), ps ≠ [] → (∀ q ∈ ps, Rep A d q) → i ≤ (ps.flatMap Part.ls).length →
    ∃ (p1 : List Part) (q : Part) (p2 : List Part) (r : Nat), ps = p1 ++ q :: p2 ∧ find A (ps.map Part.id) n i = (n + p1.length, r) ∧ i = (p1.flatMap Part.ls).length + r ∧ r ≤ q.ls.length ∧ (i < (ps.flatMap Part.ls).length → r < q.ls.length)
  | [], _, _, h, _, _ => absurd rfl h
  | [q], n, i, _, _, hi => ⟨[], q, [], i, rfl, rfl, by simp, by simpa using hi, fun h => by simpa using h⟩
  | q :: q2 :: ps, n, i, _, hr, hi => by
    have hq := (hr q (by simp)).ct
    simp only [List.map_cons, find]
    by_cases h : (i : Int) < (nd A q.id).ct
    · rw [if_pos h]
      rw [hq] at h
      exact ⟨[], q, q2 :: ps, i, rfl, rfl, by simp, by omega, fun _ => by omega⟩
    · rw [if_neg h]
      rw [hq] at h
      have e : (nd A q.id).ct.toNat = q.ls.length := by rw [hq]; simp
      rw [e]
      have hlen : ((q :: q2 :: ps).flatMap Part.ls).length = q.ls.length + ((q2 :: ps).flatMap Part.ls).length := by simp [List.flatMap_cons]
      obtain ⟨p1, x, p2, r, h1, h2, h3, h4, h5⟩ := find_law (q2 :: ps) (n + 1) (i - q.ls.length) (by simp) (fun y hy => hr y (List.mem_cons_of_mem _ hy)) (by omega)
      refine ⟨q :: p1, x, p2, r, by rw [h1]; rfl, ?_, by rw [List.flatMap_cons, List.length_append]; omega, h4, fun hlt => h5 (by omega)⟩
      rw [← List.map_cons, h2]
      simp only [List.length_cons, Prod.mk.injEq, and_true]
      omega

theorem Rep.four {A : List Nd} : ∀ {d : Nat} {p : Part}, Rep A d p → 4 ≤ (nd A p.id).size → 4 ≤ p.ls.length
  | 0, p, h, h4 => by
    rw [nd_some h.1] at h4
    simpa [Nd.size] using h4
  | d + 1, p, ⟨ps, h0, h1, h2, h3, h4⟩, h5 => by
    obtain ⟨q, ps', rfl⟩ := List.exists_cons_of_ne_nil h0
    have := Rep.four (h4 q (by simp)).1 (h4 q (by simp)).2
    rw [h2, List.flatMap_cons, List.length_append]
    omega
theorem parts_len {A : List Nd} {d : Nat} : ∀ {ps : List Part}, (∀ q ∈ ps, Rep A d q ∧ 4 ≤ (nd A q.id).size) → ps.length * 4 ≤ (ps.flatMap Part.ls).length
  | [], _ => Nat.le_refl _
  | q :: ps, h => by
    have h1 := (h q (by simp)).1.four (h q (by simp)).2
    have h2 := parts_len (ps := ps) (fun y hy => h y (by simp [hy]))
    rw [List.flatMap_cons, List.length_append, List.length_cons]
    omega
theorem kids_ok {A : List Nd} {d k : Nat} {ps : List Part} {fr : List Nat} (h : ∀ q ∈ ps, Rep A d q) (hn : (k :: (ps.flatMap Part.ids ++ fr)).Nodup) : ∀ j ∈ ps.map Part.id, j ≠ k ∧ j ∉ fr ∧ ∃ y, A[j]? = some y ∧ 0 ≤ y.ct := by
  intro j hj
  obtain ⟨q, hq, rfl⟩ := List.mem_map.1 hj
  have hm : q.id ∈ ps.flatMap Part.ids := List.mem_flatMap.2 ⟨q, hq, (h q hq).id_mem⟩
  obtain ⟨h1, h2⟩ := List.nodup_cons.1 hn
  obtain ⟨y, hy, hc⟩ := (h q hq).get
  exact ⟨fun e => h1 (e ▸ List.mem_append_left _ hm), fun e => (List.nodup_append.1 h2).2.2 _ hm _ e rfl, y, hy, by rw [hc]; omega⟩

theorem nodup_part {A B : List Nat} {p1 : List Part} {q : Part} {p2 : List Part} (h : (A ++ ((p1 ++ q :: p2).flatMap Part.ids ++ B)).Nodup) :
    (∀ y ∈ p1 ++ p2, ∀ j ∈ y.ids, j ∉ q.ids) ∧ (∀ y ∈ p1 ++ q :: p2, ∀ j ∈ y.ids, j ∉ B ∧ j ∉ A) ∧ (q.ids ++ B).Nodup := by
  have h0 := List.nodup_append.1 h
  have h1 := List.nodup_append.1 h0.2.1
  have hq : ((p1.flatMap Part.ids) ++ (q.ids ++ p2.flatMap Part.ids)).Nodup := by
    have := h1.1
    rwa [List.flatMap_append, List.flatMap_cons] at this
  have h2 := List.nodup_append.1 hq
  have h3 := List.nodup_append.1 h2.2.1
  refine ⟨fun y hy j hj hjq => ?_, fun y hy j hj => ⟨fun hb => ?_, fun ha => ?_⟩, ?_⟩
  · rcases List.mem_append.1 hy with hy | hy
    · exact h2.2.2 j (List.mem_flatMap.2 ⟨y, hy, hj⟩) j (List.mem_append_left _ hjq) rfl
    · exact h3.2.2 j hjq j (List.mem_flatMap.2 ⟨y, hy, hj⟩) rfl
  · exact h1.2.2 j (List.mem_flatMap.2 ⟨y, hy, hj⟩) j hb rfl
  · exact h0.2.2 j ha j (List.mem_append_left _ (List.mem_flatMap.2 ⟨y, hy, hj⟩)) rfl
  · refine List.nodup_append.2 ⟨h3.1, h1.2.1, fun a ha b hb e => ?_⟩
    subst e
    exact h1.2.2 a (List.mem_flatMap.2 ⟨q, by simp, ha⟩) a hb rfl

def insAt (ls : List ByteArray) (i : Nat) (x : ByteArray) : List ByteArray := ls.take i ++ x :: ls.drop i
theorem insAt_mid (a b c : List ByteArray) (i : Nat) (x : ByteArray) (h : i ≤ b.length) : insAt (a ++ (b ++ c)) (a.length + i) x = a ++ (insAt b i x ++ c) := by
  unfold insAt
  rw [List.take_length_add_append, List.drop_length_add_append, List.take_append_of_le_length h, List.drop_append_of_le_length h]
  simp

/-- putting a line into a leaf -/
theorem ins_leaf {A : List Nd} {fr : List Nat} {p : Part} {i : Nat} {x : ByteArray} (h : Rep A 0 p) (hl : ∀ j ∈ fr, j < A.length) (hn : (p.ids ++ fr).Nodup) (hi : i ≤ p.ls.length) {c : Int} {A1 : List Nd} (h1 : A1 = A.set p.id ⟨insAt p.ls i x, [], c⟩) :
    ∃ A' fr' oth q r t, split (setSum A1 p.id) fr p.id = (A', fr', oth) ∧ Ins A fr 0 p (insAt p.ls i x) A' fr' oth q r t := by
  have hp := h.1
  have hk : p.id < A.length := (List.getElem?_eq_some_iff.1 hp).1
  have hids : p.ids = [p.id] := h.2
  have hn' := List.nodup_append.1 hn
  have hkf : p.id ∉ fr := fun e => hn'.2.2 p.id (by rw [hids]; simp) p.id e rfl
  have hs : A1[p.id]? = some ⟨insAt p.ls i x, [], c⟩ := by rw [h1]; exact set_self hk
  have hlen : A1.length = A.length := by rw [h1]; simp
  obtain ⟨A', fr', oth, q, r, t, e, b1, b2, b3, b4, b5, b6, b7, b8, b9, b10, b11, b12⟩ := split_leaf hs (fun j hj => by rw [hlen]; exact hl j hj) hn'.2.1 hkf
  rw [hlen] at b7 b8 b10
  refine ⟨A', fr', oth, q, r, t, e, ⟨b1, b2, b3, b4, fun hr => ?_, b6, b7, by rw [hids]; exact b8, b9, fun j hj hjp hjf => ?_, by omega⟩⟩
  · rw [b5 hr, nd_some hp]
    simp [Nd.size, insAt]
    omega
  · rw [hids] at hjp
    have : j ≠ p.id := fun e => hjp (by simp [e])
    rw [b10 j hj this hjf, h1, set_other this]

/-- putting a line into a node: its kid has done it -/
theorem ins_node {A : List Nd} {fr : List Nat} {d : Nat} {p : Part} {ps p1 p2 : List Part} {q0 : Part} {c : Int} {out : List ByteArray} (hps : ps = p1 ++ q0 :: p2) (hk : A[p.id]? = some ⟨[], ps.map Part.id, c⟩) (hids : p.ids = p.id :: ps.flatMap Part.ids)
    (hr : ∀ q ∈ ps, Rep A d q ∧ 4 ≤ (nd A q.id).size) (hl : ∀ j ∈ fr, j < A.length) (hn : (p.ids ++ fr).Nodup)
    {A1 : List Nd} {fr1 : List Nat} {oth1 : Option Nat} {q1 : Part} {r1 : List Part} {t1 : Nat} (H : Ins A fr d q0 out A1 fr1 oth1 q1 r1 t1)
    {A2 : List Nd} {c2 : Int} (h2 : ∀ j, j ≠ p.id → A2[j]? = A1[j]?) (h2l : A2.length = A1.length) (h2k : A2[p.id]? = some ⟨[], (p1 ++ q1 :: (r1 ++ p2)).map Part.id, c2⟩) :
    (∃ A' fr' oth q r t, split (setSum A2 p.id) fr1 p.id = (A', fr', oth) ∧ Ins A fr (d + 1) p (p1.flatMap Part.ls ++ (out ++ p2.flatMap Part.ls)) A' fr' oth q r t) ∧
      (∀ y ∈ p1 ++ q1 :: (r1 ++ p2), Rep A2 d y ∧ 4 ≤ (nd A2 y.id).size) ∧ (p.id :: ((p1 ++ q1 :: (r1 ++ p2)).flatMap Part.ids ++ fr1)).Nodup ∧ (∀ j ∈ fr1, j < A2.length) ∧ (p1 ++ q1 :: (r1 ++ p2)).flatMap Part.ls = p1.flatMap Part.ls ++ (out ++ p2.flatMap Part.ls) := by
  subst hps
  have hN := nodup_part (A := [p.id]) (p1 := p1) (q := q0) (p2 := p2) (B := fr) (by rw [hids] at hn; exact hn)
  obtain ⟨n1, n2, n3⟩ := hN
  have hkl : p.id < A.length := (List.getElem?_eq_some_iff.1 hk).1
  have hside : ∀ y ∈ p1 ++ p2, y ∈ p1 ++ q0 :: p2 := fun y hy => by
    rcases List.mem_append.1 hy with h | h
    · exact List.mem_append_left _ h
    · exact List.mem_append_right _ (List.mem_cons_of_mem _ h)
  have hpk : ∀ y ∈ p1 ++ q0 :: p2, ∀ j ∈ y.ids, j ≠ p.id := fun y hy j hj e => (n2 y hy j hj).2 (by simp [e])
  have hold : ∀ y ∈ p1 ++ p2, ∀ j ∈ y.ids, A2[j]? = A[j]? := fun y hy j hj => by
    rw [h2 j (hpk y (hside y hy) j hj)]
    exact H.frame j ((hr y (hside y hy)).1.lt j hj) (n1 y hy j hj) (n2 y (hside y hy) j hj).1
  have hperm : ((p1 ++ q1 :: (r1 ++ p2)).flatMap Part.ids ++ fr1).Perm ((p1 ++ q0 :: p2).flatMap Part.ids ++ (fr ++ List.range' A.length t1)) := by
    have h := H.perm
    simp only [List.flatMap_append, List.flatMap_cons, List.append_assoc] at h ⊢
    refine List.Perm.append_left _ ?_
    calc (q1.ids ++ (r1.flatMap Part.ids ++ (p2.flatMap Part.ids ++ fr1))).Perm (q1.ids ++ (r1.flatMap Part.ids ++ (fr1 ++ p2.flatMap Part.ids))) := List.Perm.append_left _ (List.Perm.append_left _ List.perm_append_comm)
      _ = (q1.ids ++ (r1.flatMap Part.ids ++ fr1)) ++ p2.flatMap Part.ids := by simp
      List.Perm _ ((q0.ids ++ (fr ++ List.range' A.length t1)) ++ p2.flatMap Part.ids) := List.Perm.append_right _ h
      List.Perm _ _ := by
        simp only [List.append_assoc]
        refine List.Perm.append_left _ ?_
        rw [← List.append_assoc fr]
        exact List.perm_append_comm.trans (by simp)
  have hnew : ∀ j ∈ List.range' A.length t1, A.length ≤ j ∧ j < A1.length := fun j hj => by
    rw [List.mem_range'_1] at hj
    rw [H.length]
    exact hj
  have hnod : (p.id :: ((p1 ++ q1 :: (r1 ++ p2)).flatMap Part.ids ++ fr1)).Nodup := by
    refine (List.Perm.nodup_iff (List.Perm.cons p.id hperm)).2 ?_
    rw [hids] at hn
    have h9 : (p.id :: ((p1 ++ q0 :: p2).flatMap Part.ids ++ fr) ++ List.range' A.length t1).Nodup := by
      refine List.nodup_append.2 ⟨hn, List.nodup_range', fun a ha b hb e => ?_⟩
      subst e
      have h8 := (hnew a hb).1
      rcases List.mem_cons.1 ha with h | h
      · omega
      · rcases List.mem_append.1 h with h | h
        · obtain ⟨y, hy, hj⟩ := List.mem_flatMap.1 h
          have := (hr y hy).1.lt a hj
          omega
        · have := hl a h
          omega
    simpa using h9
  have hlt1 : ∀ j ∈ fr1, j < A2.length := fun j hj => by
    rw [h2l]
    have hm : j ∈ q0.ids ++ (fr ++ List.range' A.length t1) := H.perm.subset (List.mem_append_right _ hj)
    rcases List.mem_append.1 hm with h | h
    · have := (hr q0 (by simp)).1.lt j h
      have := H.length
      omega
    · rcases List.mem_append.1 h with h | h
      · have := hl j h
        have := H.length
        omega
      · exact (hnew j h).2
  have hsz : 4 ≤ (nd A1 q1.id).size := by
    by_cases he : r1 = []
    · exact Nat.le_trans (hr q0 (by simp)).2 (H.size he)
    · obtain ⟨y, r', rfl⟩ := List.exists_cons_of_ne_nil he
      exact (H.small y (by simp)).2
  have hne1 : ∀ y ∈ q1 :: r1, ∀ j ∈ y.ids, j ≠ p.id := fun y hy j hj e => by
    refine (List.nodup_cons.1 hnod).1 ?_
    refine List.mem_append_left _ (List.mem_flatMap.2 ⟨y, ?_, e ▸ hj⟩)
    rcases List.mem_cons.1 hy with h | h
    · simp [h]
    · simp [h]
  have hr2 : ∀ y ∈ p1 ++ q1 :: (r1 ++ p2), Rep A2 d y ∧ 4 ≤ (nd A2 y.id).size := by
    intro y hy
    have hcase : y ∈ p1 ++ p2 ∨ y ∈ q1 :: r1 := by
      simp only [List.mem_append, List.mem_cons] at hy ⊢
      rcases hy with h | h | h | h
      · exact .inl (.inl h)
      · exact .inr (.inl h)
      · exact .inr (.inr h)
      · exact .inl (.inr h)
    rcases hcase with h | h
    · have hh := hr y (hside y h)
      exact ⟨hh.1.congr (hold y h), by rw [nd_congr (hold y h _ hh.1.id_mem)]; exact hh.2⟩
    · have hh := H.rep y h
      have hf : ∀ j ∈ y.ids, A2[j]? = A1[j]? := fun j hj => h2 j (hne1 y h j hj)
      refine ⟨hh.congr hf, ?_⟩
      rw [nd_congr (hf _ hh.id_mem)]
      rcases List.mem_cons.1 h with rfl | h
      · exact hsz
      · exact (H.small y h).1
  obtain ⟨A', fr', oth, q, r, t, e, b1, b2, b3, b4, b5, b6, b7, b8, b9, b10, b11, b12⟩ := split_node (d := d) h2k (by simp) hr2 hlt1 hnod
  have hls : (p1 ++ q1 :: (r1 ++ p2)).flatMap Part.ls = p1.flatMap Part.ls ++ (out ++ p2.flatMap Part.ls) := by
    have := H.lines
    rw [List.flatMap_cons] at this
    simp only [List.flatMap_append, List.flatMap_cons, ← List.append_assoc]
    rw [← this]
    simp
  refine ⟨⟨A', fr', oth, q, r, t1 + t, e, ⟨b1, b2, b3, b4, fun hr' => ?_, ?_, ?_, ?_, ?_, ?_, ?_⟩⟩, hr2, hnod, hlt1, hls⟩
  · rw [b5 hr', nd_some hk]
    simp [Nd.size]
  · rw [b6, hls]
  · rw [b7, h2l, H.length]; omega
  · rw [h2l, H.length] at b8
    refine b8.trans ?_
    rw [hids, List.cons_append]
    refine List.Perm.cons _ ?_
    have e1 : List.range' A.length (t1 + t) = List.range' A.length t1 ++ List.range' (A.length + t1) t := by
      rw [← List.range'_append_1]
    rw [e1, ← List.append_assoc, ← List.append_assoc fr, ← List.append_assoc ((p1 ++ q0 :: p2).flatMap Part.ids)]
    exact List.Perm.append_right _ hperm
  · rcases b9 with h | h
    · rcases H.full with h' | h'
      · exact .inl (by omega)
      · exact .inr (b12 h')
    · exact .inr h
  · intro j hj hjp hjf
    rw [hids] at hjp
    have hjk : j ≠ p.id := fun e => hjp (by simp [e])
    have hj0 : j ∉ q0.ids := fun e => hjp (List.mem_cons_of_mem _ (List.mem_flatMap.2 ⟨q0, by simp, e⟩))
    have hj1 : j ∉ fr1 := fun e => by
      have hm : j ∈ q0.ids ++ (fr ++ List.range' A.length t1) := H.perm.subset (List.mem_append_right _ e)
      rcases List.mem_append.1 hm with h | h
      · exact hj0 h
      · rcases List.mem_append.1 h with h | h
        · exact hjf h
        · have := (hnew j h).1
          omega
    have hA2 : j < A2.length := by rw [h2l, H.length]; omega
    rw [b10 j hA2 hjk hj1, h2 j hjk]
    exact H.frame j hj hj0 hjf
  · have := H.few
    omega

/-- what a node of nodes wants that its count and its size are looked after -/
structure Mid (A : List Nd) (fr : List Nat) (k : Nat) (ks : List Nat) : Prop where
  sum : ∀ j ∈ ks, j ≠ k ∧ ∃ y, A[j]? = some y ∧ 0 ≤ y.ct
  total : cts A ks ≤ 1000000000000
  split : ∀ j ∈ ks, j ≠ k ∧ j ∉ fr ∧ ∃ y, (setSum A k)[j]? = some y ∧ 0 ≤ y.ct
  total2 : cts (setSum A k) ks ≤ 1000000000000
  many : ks.length ≤ 1000000000000
theorem mid_law {A : List Nd} {fr : List Nat} {k d : Nat} {ps : List Part} (hr : ∀ y ∈ ps, Rep A d y ∧ 4 ≤ (nd A y.id).size) (hn : (k :: (ps.flatMap Part.ids ++ fr)).Nodup) (ht : (ps.flatMap Part.ls).length ≤ 1000000000000) : Mid A fr k (ps.map Part.id) := by
  have h1 := kids_ok (fun q hq => (hr q hq).1) hn
  have h2 := cts_parts (fun q hq => (hr q hq).1)
  refine ⟨fun j hj => ⟨(h1 j hj).1, (h1 j hj).2.2⟩, by rw [h2]; omega, fun j hj => ⟨(h1 j hj).1, (h1 j hj).2.1, ?_⟩, ?_, ?_⟩
  · rw [setSum_other (h1 j hj).1]
    exact (h1 j hj).2.2
  · rw [cts_congr (A := A) (fun j hj => setSum_other (h1 j hj).1), h2]
    omega
  · have := parts_len hr
    rw [List.length_map]
    omega
end Go.Proofs.YtdhemdeapphfoaaGreatDoor.Bt

/- The tree's plain part: a whole tree; what putting a line in leaves of it. -/
namespace Go.Proofs.YtdhemdeapphfoaaGreatDoor.Bt

/-- a whole tree of these lines -/
structure Ok (A : List Nd) (fr : List Nat) (root : Nat) (ls : List ByteArray) (d : Nat) (p : Part) : Prop where
  rep : Rep A d p
  id : p.id = root
  lines : p.ls = ls
  perm : (p.ids ++ fr).Perm (List.range A.length)
  root2 : d ≠ 0 → 2 ≤ (nd A p.id).size
  few : A.length ≤ 1000000000

theorem Rep.deep {A : List Nd} : ∀ {d : Nat} {p : Part}, Rep A d p → d + 1 ≤ p.ids.length
  | 0, p, h => by rw [h.2]; simp
  | d + 1, p, ⟨ps, h0, h1, h2, h3, h4⟩ => by
    obtain ⟨q, ps', rfl⟩ := List.exists_cons_of_ne_nil h0
    have := Rep.deep (h4 q (by simp)).1
    rw [h3, List.length_cons, List.flatMap_cons, List.length_append]
    omega
/-- there are fewer nodes than lines -/
theorem Rep.small {A : List Nd} : ∀ {d : Nat} {p : Part}, Rep A d p → 4 ≤ (nd A p.id).size → p.ids.length + 1 ≤ p.ls.length
  | 0, p, h, h4 => by
    rw [nd_some h.1] at h4
    simp only [Nd.size, List.length_nil, Nat.add_zero] at h4
    rw [h.2]
    simp only [List.length_singleton]
    omega
  | d + 1, p, ⟨ps, h0, h1, h2, h3, h4⟩, h5 => by
    rw [nd_some h1] at h5
    simp only [Nd.size, List.length_nil, List.length_map, Nat.zero_add] at h5
    have key : ∀ l : List Part, (∀ q ∈ l, Rep A d q ∧ 4 ≤ (nd A q.id).size) → (l.flatMap Part.ids).length + l.length ≤ (l.flatMap Part.ls).length := by
      intro l
      induction l with
      | nil => intro _; exact Nat.le_refl _
      | cons q l ih =>
        intro hl
        have h6 := Rep.small (hl q (by simp)).1 (hl q (by simp)).2
        have h7 := ih (fun y hy => hl y (by simp [hy]))
        rw [List.flatMap_cons, List.flatMap_cons, List.length_append, List.length_append, List.length_cons]
        omega
    have h8 := key ps h4
    rw [h3, h2, List.length_cons]
    omega
theorem Rep.small_root {A : List Nd} {d : Nat} {p : Part} (h : Rep A d p) : p.ids.length ≤ p.ls.length + 1 := by
  cases d with
  | zero =>
    rw [h.2]
    simp
  | succ d =>
    obtain ⟨ps, h0, h1, h2, h3, h4⟩ := h
    have key : ∀ l : List Part, (∀ q ∈ l, Rep A d q ∧ 4 ≤ (nd A q.id).size) → (l.flatMap Part.ids).length ≤ (l.flatMap Part.ls).length := by
      intro l
      induction l with
      | nil => intro _; exact Nat.le_refl _
      | cons q l ih =>
        intro hl
        have h6 := Rep.small (hl q (by simp)).1 (hl q (by simp)).2
        have h7 := ih (fun y hy => hl y (by simp [hy]))
        rw [List.flatMap_cons, List.flatMap_cons, List.length_append, List.length_append]
        omega
    have h8 := key ps h4
    rw [h3, h2, List.length_cons]
    omega
theorem Ok.nodup {A : List Nd} {fr : List Nat} {root : Nat} {ls : List ByteArray} {d : Nat} {p : Part} (h : Ok A fr root ls d p) : (p.ids ++ fr).Nodup := (List.Perm.nodup_iff h.perm).2 List.nodup_range
theorem Ok.free {A : List Nd} {fr : List Nat} {root : Nat} {ls : List ByteArray} {d : Nat} {p : Part} (h : Ok A fr root ls d p) : ∀ j ∈ fr, j < A.length := fun j hj => List.mem_range.1 (h.perm.subset (List.mem_append_right _ hj))
theorem Ok.deep {A : List Nd} {fr : List Nat} {root : Nat} {ls : List ByteArray} {d : Nat} {p : Part} (h : Ok A fr root ls d p) : d ≤ ls.length := by
  have h1 := h.rep.deep
  have h2 := h.rep.small_root
  rw [h.lines] at h2
  omega
theorem range_more (n t : Nat) : List.range n ++ List.range' n t = List.range (n + t) := by
  rw [List.range_eq_range', List.range_eq_range', ← List.range'_append_1, Nat.zero_add]
theorem ins_perm {A A' : List Nd} {X Y : List Nat} {ids fr : List Nat} {t : Nat} (h : (ids ++ fr).Perm (List.range A.length)) (hl : A'.length = A.length + t) (hp : (X ++ Y).Perm (ids ++ (fr ++ List.range' A.length t))) : (X ++ Y).Perm (List.range A'.length) := by
  refine hp.trans ?_
  rw [hl, ← range_more, ← List.append_assoc]
  exact List.Perm.append_right _ h

/-- no cut -/
theorem ok_ins_none {A A' : List Nd} {fr fr' : List Nat} {root d t : Nat} {ls out : List ByteArray} {p q : Part} {r : List Part} (h : Ok A fr root ls d p) (H : Ins A fr d p out A' fr' none q r t) (hb : out.length + 1 ≤ 1000000000) : Ok A' fr' root out d q := by
  have hr : r = [] := by simpa using H.other
  subst hr
  have hl := H.lines
  have hp := H.perm
  rw [List.flatMap_cons, List.flatMap_nil, List.append_nil] at hl hp
  have hq := H.rep q (by simp)
  have hperm := ins_perm h.perm H.length hp
  refine ⟨hq, H.id.trans h.id, hl, hperm, fun hd => Nat.le_trans (h.root2 hd) (H.size rfl), ?_⟩
  rcases H.full with h0 | h0
  · rw [H.length, h0]; exact h.few
  · rw [h0, List.append_nil] at hperm
    have h1 := hperm.length_eq
    rw [List.length_range] at h1
    have h2 := hq.small_root
    rw [hl] at h2
    omega
/-- a cut: a new root -/
theorem ok_ins_some {A A' : List Nd} {fr fr' : List Nat} {root d t o : Nat} {ls out : List ByteArray} {p q : Part} {r : List Part} (h : Ok A fr root ls d p) (H : Ins A fr d p out A' fr' (some o) q r t) (hb : out.length + 1 ≤ 1000000000) :
    (∀ j ∈ fr', j < A'.length) ∧ A'.length ≤ 1000000000 ∧ root < A'.length ∧ o < A'.length ∧ ∃ A2 fr2 m t2 y, mk A' fr' ⟨[], [root, o], 0⟩ = (A2, fr2, m) ∧ A2[m]? = some ⟨[], [root, o], 0⟩ ∧ (∀ j ∈ [root, o], j ≠ m ∧ ∃ z, A2[j]? = some z ∧ 0 ≤ z.ct) ∧ cts A2 [root, o] = out.length ∧ A2.length = A'.length + t2 ∧ Ok (setSum A2 m) fr2 m out (d + 1) y := by
  obtain ⟨y, rfl, hyo⟩ : ∃ y, r = [y] ∧ y.id = o := by
    match r, H.other with
    | [y], h => exact ⟨y, rfl, by simpa using h⟩
  have hl := H.lines
  have hp := H.perm
  have hperm := ins_perm h.perm H.length hp
  have hf : ∀ j ∈ fr', j < A'.length := fun j hj => List.mem_range.1 (hperm.subset (List.mem_append_right _ hj))
  have hnod : ([q, y].flatMap Part.ids ++ fr').Nodup := (List.Perm.nodup_iff hperm).2 List.nodup_range
  have hq := H.rep q (by simp)
  have hy := H.rep y (by simp)
  have hqr : q.id = root := H.id.trans h.id
  have hsz := H.small y (by simp)
  have hidl : ([q, y].flatMap Part.ids).length + 2 ≤ out.length := by
    have h1 := hq.small hsz.2
    have h2 := hy.small hsz.1
    rw [← hl]
    simp only [List.flatMap_cons, List.flatMap_nil, List.append_nil, List.length_append]
    omega
  have hlen : A'.length ≤ 1000000000 := by
    rcases H.full with h0 | h0
    · rw [H.length, h0]; exact h.few
    · rw [h0, List.append_nil] at hperm
      have h1 := hperm.length_eq
      rw [List.length_range] at h1
      omega
  obtain ⟨A2, fr2, m, t2, em, m1, m2, m3, m4, m5, m6, m7, m8, m9⟩ := mk_law (A := A') (fr := fr') (x := ⟨[], [root, o], 0⟩) hf (List.nodup_append.1 hnod).2.1
  have hne : ∀ j ∈ [q, y].flatMap Part.ids, j ≠ m ∧ j < A'.length := fun j hj => by
    have hjl := List.mem_range.1 (hperm.subset (List.mem_append_left _ hj))
    refine ⟨fun e => ?_, hjl⟩
    rcases m7 with h | h
    · exact (List.nodup_append.1 hnod).2.2 j hj m h e
    · omega
  have hold : ∀ j ∈ [q, y].flatMap Part.ids, A2[j]? = A'[j]? := fun j hj => m3 j (hne j hj).2 (hne j hj).1
  have hqm : ∀ j ∈ q.ids, j ∈ [q, y].flatMap Part.ids := fun j hj => List.mem_flatMap.2 ⟨q, by simp, hj⟩
  have hym : ∀ j ∈ y.ids, j ∈ [q, y].flatMap Part.ids := fun j hj => List.mem_flatMap.2 ⟨y, by simp, hj⟩
  have hq2 := hq.congr (fun j hj => hold j (hqm j hj))
  have hy2 := hy.congr (fun j hj => hold j (hym j hj))
  have hps : ∀ z ∈ [q, y], Rep A2 d z := fun z hz => by
    simp only [List.mem_cons, List.not_mem_nil, or_false] at hz
    rcases hz with rfl | rfl
    · exact hq2
    · exact hy2
  have hcts := cts_parts hps
  have hids : [q, y].map Part.id = [root, o] := by simp [hqr, hyo]
  rw [hids, hl] at hcts
  have e1 := setSum_self m1
  simp only [List.length_nil, Int.natCast_zero, Int.zero_add] at e1
  rw [hcts] at e1
  have hse : ∀ j ∈ [q, y].flatMap Part.ids, (setSum A2 m)[j]? = A'[j]? := fun j hj => by rw [setSum_other (hne j hj).1]; exact hold j hj
  refine ⟨hf, hlen, by rw [← hqr]; exact hq.lt _ hq.id_mem, by rw [← hyo]; exact hy.lt _ hy.id_mem, A2, fr2, m, t2, ⟨m, out, m :: [q, y].flatMap Part.ids⟩, em, m1, fun j hj => ?_, hcts, m4, ?_⟩
  · simp only [List.mem_cons, List.not_mem_nil, or_false] at hj
    rcases hj with rfl | rfl
    · obtain ⟨z, hz, hc⟩ := hq2.get
      refine ⟨?_, z, by rw [← hqr]; exact hz, by rw [hc]; omega⟩
      rw [← hqr]
      exact (hne _ (hqm _ hq.id_mem)).1
    · obtain ⟨z, hz, hc⟩ := hy2.get
      refine ⟨?_, z, by rw [← hyo]; exact hz, by rw [hc]; omega⟩
      rw [← hyo]
      exact (hne _ (hym _ hy.id_mem)).1
  · refine ⟨⟨[q, y], by simp, by rw [hids]; exact e1, hl.symm, rfl, fun z hz => ?_⟩, rfl, rfl, ?_, fun _ => ?_, ?_⟩
    · simp only [List.mem_cons, List.not_mem_nil, or_false] at hz
      rcases hz with rfl | rfl
      · exact ⟨hq.congr (fun j hj => hse j (hqm j hj)), by rw [nd_congr (hse _ (hqm _ hq.id_mem))]; exact hsz.2⟩
      · exact ⟨hy.congr (fun j hj => hse j (hym j hj)), by rw [nd_congr (hse _ (hym _ hy.id_mem))]; exact hsz.1⟩
    · rw [setSum_length, m4, ← range_more]
      refine List.Perm.trans ?_ (List.Perm.append_right _ hperm)
      rw [List.append_assoc]
      have e2 : ((m :: [q, y].flatMap Part.ids) ++ fr2).Perm ([q, y].flatMap Part.ids ++ (m :: fr2)) := by
        rw [List.cons_append]
        exact (List.perm_middle).symm
      exact e2.trans (List.Perm.append_left _ m5)
    · show 2 ≤ (nd (setSum A2 m) m).size
      rw [nd_some e1]
      simp [Nd.size]
    · rw [setSum_length, m4]
      rcases m6 with h0 | h0
      · omega
      · have h1 := hperm.length_eq
        rw [List.length_range, List.length_append] at h1
        have h2 := m5.length_eq
        rw [h0, List.length_append, List.length_range'] at h2
        simp only [List.length_cons, List.length_nil] at h2
        omega
end Go.Proofs.YtdhemdeapphfoaaGreatDoor.Bt

/- The tree's plain part: what moving and merging leave. -/
namespace Go.Proofs.YtdhemdeapphfoaaGreatDoor.Bt

theorem two_sum {A : List Nd} {f t : Nat} (hft : f ≠ t) (hf : f < A.length) (ht : t < A.length) (xn yn : Nd) (hk : ∀ j ∈ xn.ks ++ yn.ks, j ≠ f ∧ j ≠ t ∧ ∃ y, A[j]? = some y ∧ 0 ≤ y.ct) :
    ∀ A', A' = (A.set t yn).set f xn → (setSum (setSum A' f) t)[f]? = some ⟨xn.ls, xn.ks, xn.ls.length + cts A xn.ks⟩ ∧ (setSum (setSum A' f) t)[t]? = some ⟨yn.ls, yn.ks, yn.ls.length + cts A yn.ks⟩ ∧
      (∀ j, j ≠ f → j ≠ t → (setSum (setSum A' f) t)[j]? = A[j]?) ∧ (setSum (setSum A' f) t).length = A.length ∧
      (((xn.ls.length : Nat) : Int) + cts A xn.ks ≤ 4611686018427387904 → ((yn.ls.length : Nat) : Int) + cts A yn.ks ≤ 4611686018427387904 →
        (∀ n, A'[f]? = some n → (∀ j ∈ n.ks, j ≠ f ∧ ∃ y, A'[j]? = some y ∧ 0 ≤ y.ct) ∧ (n.ls.length : Int) + cts A' n.ks ≤ 4611686018427387904) ∧ (∀ n, (setSum A' f)[t]? = some n → (∀ j ∈ n.ks, j ≠ t ∧ ∃ y, (setSum A' f)[j]? = some y ∧ 0 ≤ y.ct) ∧ (n.ls.length : Int) + cts (setSum A' f) n.ks ≤ 4611686018427387904)) := by
  intro A' hA'
  have hl : A'.length = A.length := by rw [hA']; simp
  have e1 : A'[f]? = some xn := by rw [hA']; exact set_self (by simpa using hf)
  have e2 : A'[t]? = some yn := by rw [hA', set_other (fun e => hft e.symm)]; exact set_self ht
  have eo : ∀ j, j ≠ f → j ≠ t → A'[j]? = A[j]? := fun j h1 h2 => by rw [hA', set_other h1, set_other h2]
  have eo2 : ∀ j, j ≠ f → j ≠ t → (setSum A' f)[j]? = A[j]? := fun j h1 h2 => by rw [setSum_other h1]; exact eo j h1 h2
  have c1 : cts A' xn.ks = cts A xn.ks := cts_congr fun j hj => eo j (hk j (List.mem_append_left _ hj)).1 (hk j (List.mem_append_left _ hj)).2.1
  have c2 : cts (setSum A' f) yn.ks = cts A yn.ks := cts_congr fun j hj => eo2 j (hk j (List.mem_append_right _ hj)).1 (hk j (List.mem_append_right _ hj)).2.1
  have e3 : (setSum A' f)[t]? = some yn := by rw [setSum_other (fun e => hft e.symm)]; exact e2
  refine ⟨?_, ?_, fun j h1 h2 => by rw [setSum_other h2]; exact eo2 j h1 h2, by rw [setSum_length, setSum_length, hl], fun b1 b2 => ⟨fun n hn => ?_, fun n hn => ?_⟩⟩
  · rw [setSum_other hft, setSum_self e1, c1]
  · rw [setSum_self e3, c2]
  · rw [e1] at hn
    injection hn with hn
    subst hn
    refine ⟨fun j hj => ?_, by rw [c1]; exact b1⟩
    obtain ⟨h1, h2, h3⟩ := hk j (List.mem_append_left _ hj)
    rw [eo j h1 h2]
    exact ⟨h1, h3⟩
  · rw [e3] at hn
    injection hn with hn
    subst hn
    refine ⟨fun j hj => ?_, by rw [c2]; exact b2⟩
    obtain ⟨h1, h2, h3⟩ := hk j (List.mem_append_right _ hj)
    rw [eo2 j h1 h2]
    exact ⟨h2, h3⟩

structure Moved (A A' : List Nd) (d : Nat) (x y x' y' : Part) : Prop where
  rx : Rep A' d x'
  ry : Rep A' d y'
  ix : x'.id = x.id
  iy : y'.id = y.id
  sx : (nd A' x.id).size + 1 = (nd A x.id).size
  sy : (nd A' y.id).size = (nd A y.id).size + 1
  perm : (x'.ids ++ y'.ids).Perm (x.ids ++ y.ids)
  frame : ∀ j, j ≠ x.id → j ≠ y.id → A'[j]? = A[j]?
  len : A'.length = A.length

/-- the two nodes of a leaf's move -/
theorem moved_leaf {A : List Nd} {x y : Part} (hx : Rep A 0 x) (hy : Rep A 0 y) (hne : x.id ≠ y.id) {lx ly : List ByteArray} (hsx : lx.length + 1 = x.ls.length) (hsy : ly.length = y.ls.length + 1) (hb : x.ls.length + y.ls.length ≤ 1000000000000) :
    ∀ A', A' = (A.set y.id ⟨ly, [], y.ls.length⟩).set x.id ⟨lx, [], x.ls.length⟩ → Moved A (setSum (setSum A' x.id) y.id) 0 x y ⟨x.id, lx, [x.id]⟩ ⟨y.id, ly, [y.id]⟩ ∧
      (∀ n, A'[x.id]? = some n → (∀ j ∈ n.ks, j ≠ x.id ∧ ∃ y, A'[j]? = some y ∧ 0 ≤ y.ct) ∧ (n.ls.length : Int) + cts A' n.ks ≤ 4611686018427387904) ∧ (∀ n, (setSum A' x.id)[y.id]? = some n → (∀ j ∈ n.ks, j ≠ y.id ∧ ∃ y, (setSum A' x.id)[j]? = some y ∧ 0 ≤ y.ct) ∧ (n.ls.length : Int) + cts (setSum A' x.id) n.ks ≤ 4611686018427387904) := by
  intro A' hA'
  obtain ⟨e1, e2, e3, e4, e5⟩ := two_sum (A := A) hne (hx.lt _ hx.id_mem) (hy.lt _ hy.id_mem) ⟨lx, [], x.ls.length⟩ ⟨ly, [], y.ls.length⟩ (fun j hj => by simp at hj) A' hA'
  simp only [cts, List.map_nil, List.sum_nil, Int.add_zero] at e1 e2
  refine ⟨⟨⟨e1, rfl⟩, ⟨e2, rfl⟩, rfl, rfl, ?_, ?_, ?_, e3, e4⟩, e5 (by simp [cts]; omega) (by simp [cts]; omega)⟩
  · rw [nd_some e1, nd_some hx.1]
    simp only [Nd.size, List.length_nil]
    omega
  · rw [nd_some e2, nd_some hy.1]
    simp only [Nd.size, List.length_nil]
    omega
  · rw [hx.2, hy.2]

/-- the two nodes of a node's move: the parts that each has then -/
theorem moved_node {A : List Nd} {d : Nat} {x y : Part} {ps qs ps' qs' : List Part} {cx cy : Int} (hx : A[x.id]? = some ⟨[], ps.map Part.id, cx⟩) (hy : A[y.id]? = some ⟨[], qs.map Part.id, cy⟩) (hne : x.id ≠ y.id)
    (hxi : x.ids = x.id :: ps.flatMap Part.ids) (hyi : y.ids = y.id :: qs.flatMap Part.ids) (hr : ∀ q ∈ ps ++ qs, Rep A d q ∧ 4 ≤ (nd A q.id).size) (hn : (x.ids ++ y.ids).Nodup)
    (hsx : ps'.length + 1 = ps.length) (hsy : qs'.length = qs.length + 1) (h0 : ps' ≠ []) (hp : (ps' ++ qs').Perm (ps ++ qs)) (hb : ((ps ++ qs).flatMap Part.ls).length ≤ 1000000000000) :
    ∀ A', A' = (A.set y.id ⟨[], qs'.map Part.id, cy⟩).set x.id ⟨[], ps'.map Part.id, cx⟩ → Moved A (setSum (setSum A' x.id) y.id) (d + 1) x y ⟨x.id, ps'.flatMap Part.ls, x.id :: ps'.flatMap Part.ids⟩ ⟨y.id, qs'.flatMap Part.ls, y.id :: qs'.flatMap Part.ids⟩ ∧
      (∀ n, A'[x.id]? = some n → (∀ j ∈ n.ks, j ≠ x.id ∧ ∃ y, A'[j]? = some y ∧ 0 ≤ y.ct) ∧ (n.ls.length : Int) + cts A' n.ks ≤ 4611686018427387904) ∧ (∀ n, (setSum A' x.id)[y.id]? = some n → (∀ j ∈ n.ks, j ≠ y.id ∧ ∃ y, (setSum A' x.id)[j]? = some y ∧ 0 ≤ y.ct) ∧ (n.ls.length : Int) + cts (setSum A' x.id) n.ks ≤ 4611686018427387904) := by
  intro A' hA'
  have hr' : ∀ q ∈ ps' ++ qs', Rep A d q ∧ 4 ≤ (nd A q.id).size := fun q hq => hr q (hp.subset hq)
  have hout : ∀ q ∈ ps' ++ qs', ∀ j ∈ q.ids, j ≠ x.id ∧ j ≠ y.id := fun q hq j hj => by
    have hq2 := hp.subset hq
    rw [hxi, hyi] at hn
    have hn1 := List.nodup_append.1 hn
    have hn2 := List.nodup_cons.1 hn1.1
    have hn3 := List.nodup_cons.1 hn1.2.1
    rcases List.mem_append.1 hq2 with h | h
    · have hm : j ∈ ps.flatMap Part.ids := List.mem_flatMap.2 ⟨q, h, hj⟩
      exact ⟨fun e => hn2.1 (e ▸ hm), fun e => hn1.2.2 j (List.mem_cons_of_mem _ hm) y.id (by simp) e⟩
    · have hm : j ∈ qs.flatMap Part.ids := List.mem_flatMap.2 ⟨q, h, hj⟩
      exact ⟨fun e => hn1.2.2 x.id (by simp) j (List.mem_cons_of_mem _ hm) e.symm, fun e => hn3.1 (e ▸ hm)⟩
  have hkid : ∀ j ∈ ps'.map Part.id ++ qs'.map Part.id, j ≠ x.id ∧ j ≠ y.id ∧ ∃ y, A[j]? = some y ∧ 0 ≤ y.ct := fun j hj => by
    rw [← List.map_append] at hj
    obtain ⟨q, hq, rfl⟩ := List.mem_map.1 hj
    obtain ⟨z, hz, hc⟩ := (hr' q hq).1.get
    have := hout q hq _ (hr' q hq).1.id_mem
    exact ⟨this.1, this.2, z, hz, by rw [hc]; omega⟩
  obtain ⟨e1, e2, e3, e4, e5⟩ := two_sum (A := A) hne (List.getElem?_eq_some_iff.1 hx).1 (List.getElem?_eq_some_iff.1 hy).1 ⟨[], ps'.map Part.id, cx⟩ ⟨[], qs'.map Part.id, cy⟩ hkid A' hA'
  have c1 := cts_parts (A := A) (d := d) (ps := ps') (fun q hq => (hr' q (List.mem_append_left _ hq)).1)
  have c2 := cts_parts (A := A) (d := d) (ps := qs') (fun q hq => (hr' q (List.mem_append_right _ hq)).1)
  have hsum : (ps'.flatMap Part.ls).length + (qs'.flatMap Part.ls).length = ((ps ++ qs).flatMap Part.ls).length := by
    rw [← List.length_append, ← List.flatMap_append]
    exact (List.Perm.flatMap_right _ hp).length_eq
  simp only [List.length_nil, Int.natCast_zero, Int.zero_add] at e1 e2
  rw [c1] at e1
  rw [c2] at e2
  have hfr : ∀ q ∈ ps' ++ qs', Rep (setSum (setSum A' x.id) y.id) d q ∧ 4 ≤ (nd (setSum (setSum A' x.id) y.id) q.id).size := fun q hq => by
    have hf : ∀ j ∈ q.ids, (setSum (setSum A' x.id) y.id)[j]? = A[j]? := fun j hj => e3 j (hout q hq j hj).1 (hout q hq j hj).2
    exact ⟨(hr' q hq).1.congr hf, by rw [nd_congr (hf _ (hr' q hq).1.id_mem)]; exact (hr' q hq).2⟩
  refine ⟨⟨⟨ps', h0, e1, rfl, rfl, fun q hq => hfr q (List.mem_append_left _ hq)⟩, ⟨qs', fun e => by rw [e] at hsy; simp at hsy, e2, rfl, rfl, fun q hq => hfr q (List.mem_append_right _ hq)⟩, rfl, rfl, ?_, ?_, ?_, e3, e4⟩, e5 (by rw [c1]; simp only [List.length_nil]; omega) (by rw [c2]; simp only [List.length_nil]; omega)⟩
  · rw [nd_some e1, nd_some hx]
    simp only [Nd.size, List.length_nil, List.length_map]
    omega
  · rw [nd_some e2, nd_some hy]
    simp only [Nd.size, List.length_nil, List.length_map]
    omega
  · rw [hxi, hyi]
    refine List.Perm.cons _ ?_
    have e9 : ∀ a b : List Nat, (a ++ y.id :: b).Perm (y.id :: (a ++ b)) := fun a b => List.perm_middle
    refine (e9 _ _).trans ((List.Perm.cons _ ?_).trans (e9 _ _).symm)
    rw [← List.flatMap_append, ← List.flatMap_append]
    exact List.Perm.flatMap_right _ hp

/-- two neighbours in one -/
structure Merged (A A' : List Nd) (d k : Nat) (x y x' : Part) : Prop where
  rx : Rep A' d x'
  ix : x'.id = x.id
  sx : (nd A' x.id).size = (nd A x.id).size + (nd A y.id).size
  lines : x'.ls = x.ls ++ y.ls
  perm : (x'.ids ++ [y.id]).Perm (x.ids ++ y.ids)
  frame : ∀ j, j ≠ x.id → j ≠ y.id → j ≠ k → A'[j]? = A[j]?
  len : A'.length = A.length

theorem merged {A : List Nd} {d k : Nat} {x y : Part} (hx : Rep A d x) (hy : Rep A d y) (hn : (k :: (x.ids ++ y.ids)).Nodup) {xn yn kn : Nd} (hxn : A[x.id]? = some xn) (hyn : A[y.id]? = some yn) (hk : k < A.length) (hb : x.ls.length + y.ls.length ≤ 1000000000000) :
    ∀ A', A' = ((A.set x.id ⟨xn.ls ++ yn.ls, xn.ks ++ yn.ks, xn.ct⟩).set y.id Nd.z).set k kn → ∃ x', Merged A (setSum A' x.id) d k x y x' ∧ (setSum A' x.id)[k]? = some kn ∧ x.id ≠ y.id ∧ k ≠ x.id ∧ k ≠ y.id ∧
      ((∀ j ∈ xn.ks ++ yn.ks, j ≠ x.id ∧ ∃ y, A'[j]? = some y ∧ 0 ≤ y.ct) ∧ (((xn.ls ++ yn.ls).length : Nat) : Int) + cts A' (xn.ks ++ yn.ks) ≤ 4611686018427387904) ∧ xn.ls.length + yn.ls.length ≤ 1000000000000 ∧ xn.ks.length + yn.ks.length ≤ 1000000000000 := by
  intro A' hA'
  obtain ⟨hn0, hn1⟩ := List.nodup_cons.1 hn
  have hn2 := List.nodup_append.1 hn1
  have hxy : x.id ≠ y.id := fun e => hn2.2.2 x.id hx.id_mem y.id hy.id_mem e
  have hkx : k ≠ x.id := fun e => hn0 (e ▸ List.mem_append_left _ hx.id_mem)
  have hky : k ≠ y.id := fun e => hn0 (e ▸ List.mem_append_right _ hy.id_mem)
  have hl : A'.length = A.length := by rw [hA']; simp
  have hxl := hx.lt _ hx.id_mem
  have hyl := hy.lt _ hy.id_mem
  have ek : A'[k]? = some kn := by rw [hA']; exact set_self (by simpa using hk)
  have ex : A'[x.id]? = some ⟨xn.ls ++ yn.ls, xn.ks ++ yn.ks, xn.ct⟩ := by rw [hA', set_other (fun e => hkx e.symm), set_other hxy]; exact set_self hxl
  have eo : ∀ j, j ≠ x.id → j ≠ y.id → j ≠ k → A'[j]? = A[j]? := fun j h1 h2 h3 => by rw [hA', set_other h3, set_other h2, set_other h1]
  have eo2 : ∀ j, j ≠ x.id → j ≠ y.id → j ≠ k → (setSum A' x.id)[j]? = A[j]? := fun j h1 h2 h3 => by rw [setSum_other h1]; exact eo j h1 h2 h3
  have es := setSum_self ex
  have ek2 : (setSum A' x.id)[k]? = some kn := by rw [setSum_other hkx]; exact ek
  cases d with
  | zero =>
    have h1 := hx.1
    have h2 := hy.1
    rw [hxn] at h1
    rw [hyn] at h2
    injection h1 with h1
    injection h2 with h2
    subst h1 h2
    simp only [cts, List.append_nil, List.map_nil, List.sum_nil, Int.add_zero] at es ⊢
    refine ⟨⟨x.id, x.ls ++ y.ls, [x.id]⟩, ⟨⟨es, rfl⟩, rfl, ?_, rfl, by rw [hx.2, hy.2], eo2, by rw [setSum_length, hl]⟩, ek2, hxy, hkx, hky, ⟨fun j hj => by simp at hj, by rw [List.length_append]; omega⟩, by omega, by simp⟩
    rw [nd_some es, nd_some hxn, nd_some hyn]
    simp [Nd.size]
  | succ d =>
    obtain ⟨ps, a0, a1, a2, a3, a4⟩ := hx
    obtain ⟨qs, b0, b1, b2, b3, b4⟩ := hy
    rw [hxn] at a1
    rw [hyn] at b1
    injection a1 with a1
    injection b1 with b1
    subst a1 b1
    have hr : ∀ q ∈ ps ++ qs, Rep A d q ∧ 4 ≤ (nd A q.id).size := fun q hq => (List.mem_append.1 hq).elim (a4 q) (b4 q)
    have hout : ∀ q ∈ ps ++ qs, ∀ j ∈ q.ids, j ≠ x.id ∧ j ≠ y.id ∧ j ≠ k := fun q hq j hj => by
      have hm : j ∈ x.ids ++ y.ids := by
        rw [a3, b3]
        rcases List.mem_append.1 hq with h | h
        · exact List.mem_append_left _ (List.mem_cons_of_mem _ (List.mem_flatMap.2 ⟨q, h, hj⟩))
        · exact List.mem_append_right _ (List.mem_cons_of_mem _ (List.mem_flatMap.2 ⟨q, h, hj⟩))
      refine ⟨fun e => ?_, fun e => ?_, fun e => hn0 (e ▸ hm)⟩
      · rw [a3, b3] at hn2
        rcases List.mem_append.1 hq with h | h
        · exact (List.nodup_cons.1 hn2.1).1 (e ▸ List.mem_flatMap.2 ⟨q, h, hj⟩)
        · exact hn2.2.2 x.id (by simp) j (List.mem_cons_of_mem _ (List.mem_flatMap.2 ⟨q, h, hj⟩)) e.symm
      · rw [a3, b3] at hn2
        rcases List.mem_append.1 hq with h | h
        · exact hn2.2.2 j (List.mem_cons_of_mem _ (List.mem_flatMap.2 ⟨q, h, hj⟩)) y.id (by simp) e
        · exact (List.nodup_cons.1 hn2.2.1).1 (e ▸ List.mem_flatMap.2 ⟨q, h, hj⟩)
    have hc : cts A' ((ps ++ qs).map Part.id) = ((ps ++ qs).flatMap Part.ls).length := by
      rw [cts_congr (A := A) (fun j hj => by
        obtain ⟨q, hq, rfl⟩ := List.mem_map.1 hj
        have := hout q hq _ (hr q hq).1.id_mem
        exact eo _ this.1 this.2.1 this.2.2)]
      exact cts_parts (fun q hq => (hr q hq).1)
    simp only [List.nil_append, List.length_nil, Int.natCast_zero, Int.zero_add] at es ⊢
    rw [← List.map_append] at es ⊢
    rw [hc] at es
    have hls : (ps ++ qs).flatMap Part.ls = x.ls ++ y.ls := by rw [a2, b2, List.flatMap_append]
    have hlen := parts_len hr
    rw [hls] at hc hlen
    simp only [List.length_append] at hc hlen
    have hfr : ∀ q ∈ ps ++ qs, Rep (setSum A' x.id) d q ∧ 4 ≤ (nd (setSum A' x.id) q.id).size := fun q hq => by
      have hf : ∀ j ∈ q.ids, (setSum A' x.id)[j]? = A[j]? := fun j hj => eo2 j (hout q hq j hj).1 (hout q hq j hj).2.1 (hout q hq j hj).2.2
      exact ⟨(hr q hq).1.congr hf, by rw [nd_congr (hf _ (hr q hq).1.id_mem)]; exact (hr q hq).2⟩
    refine ⟨⟨x.id, (ps ++ qs).flatMap Part.ls, x.id :: (ps ++ qs).flatMap Part.ids⟩, ⟨⟨ps ++ qs, by simp [a0], es, rfl, rfl, hfr⟩, rfl, ?_, hls, ?_, eo2, by rw [setSum_length, hl]⟩, ek2, hxy, hkx, hky, ⟨fun j hj => ?_, by rw [hc]; omega⟩, by simp, ?_⟩
    · rw [nd_some es, nd_some hxn, nd_some hyn]
      simp [Nd.size]
    · rw [a3, b3]
      simp only [List.flatMap_append, List.cons_append, List.append_assoc]
      refine List.Perm.cons _ (List.Perm.append_left _ ?_)
      exact (List.perm_append_singleton _ _)
    · obtain ⟨q, hq, rfl⟩ := List.mem_map.1 hj
      have h9 := hout q hq _ (hr q hq).1.id_mem
      obtain ⟨z, hz, hc9⟩ := (hr q hq).1.get
      exact ⟨h9.1, z, by rw [eo _ h9.1 h9.2.1 h9.2.2]; exact hz, by rw [hc9]; omega⟩
    · simp only [List.length_map]
      omega
end Go.Proofs.YtdhemdeapphfoaaGreatDoor.Bt

/- The tree's plain part: what mending leaves. -/
namespace Go.Proofs.YtdhemdeapphfoaaGreatDoor.Bt

structure Mended (A : List Nd) (fr : List Nat) (d k : Nat) (c : Int) (ps : List Part) (A' : List Nd) (fr' : List Nat) (ps' : List Part) : Prop where
  rep : ∀ q ∈ ps', Rep A' d q ∧ 4 ≤ (nd A' q.id).size
  node : A'[k]? = some ⟨[], ps'.map Part.id, c⟩
  lines : ps'.flatMap Part.ls = ps.flatMap Part.ls
  perm : (ps'.flatMap Part.ids ++ fr').Perm (ps.flatMap Part.ids ++ fr)
  count : ps.length ≤ ps'.length + 1
  sub : ∀ j ∈ ps'.flatMap Part.ids, j ∈ ps.flatMap Part.ids
  some_ : ps' ≠ []
  frame : ∀ j, j ∉ ps.flatMap Part.ids → j ≠ k → A'[j]? = A[j]?
  len : A'.length = A.length

/-- what mending is given: all but one have enough -/
structure Mendable (A : List Nd) (fr : List Nat) (d k : Nat) (c : Int) (p1 : List Part) (q : Part) (p2 : List Part) : Prop where
  node : A[k]? = some ⟨[], (p1 ++ q :: p2).map Part.id, c⟩
  rep : ∀ y ∈ p1 ++ q :: p2, Rep A d y
  enough : ∀ y ∈ p1 ++ p2, 4 ≤ (nd A y.id).size
  near : 3 ≤ (nd A q.id).size
  nodup : (k :: ((p1 ++ q :: p2).flatMap Part.ids ++ fr)).Nodup
  two : 2 ≤ (p1 ++ q :: p2).length
  few : ((p1 ++ q :: p2).flatMap Part.ls).length ≤ 10000000000

theorem nodup_two {k : Nat} {fr : List Nat} {a b : List Part} {x y : Part} (h : (k :: ((a ++ x :: y :: b).flatMap Part.ids ++ fr)).Nodup) :
    (k :: (x.ids ++ y.ids)).Nodup ∧ (∀ z ∈ a ++ b, ∀ j ∈ z.ids, j ∉ x.ids ∧ j ∉ y.ids ∧ j ≠ k) ∧ (∀ j ∈ x.ids ++ y.ids, j ∉ fr) ∧ k ∉ fr := by
  obtain ⟨h0, h1⟩ := List.nodup_cons.1 h
  have h2 := List.nodup_append.1 h1
  have e : (a ++ x :: y :: b).flatMap Part.ids = a.flatMap Part.ids ++ ((x.ids ++ y.ids) ++ b.flatMap Part.ids) := by simp [List.flatMap_append, List.flatMap_cons]
  rw [e] at h0 h2
  have h3 := List.nodup_append.1 h2.1
  have h4 := List.nodup_append.1 h3.2.1
  have hk : k ∉ x.ids ++ y.ids := fun hm => h0 (List.mem_append_left _ (List.mem_append_right _ (List.mem_append_left _ hm)))
  refine ⟨List.nodup_cons.2 ⟨hk, h4.1⟩, fun z hz j hj => ?_, fun j hj hf => h2.2.2 j (List.mem_append_right _ (List.mem_append_left _ hj)) j hf rfl, fun hf => h0 (List.mem_append_right _ hf)⟩
  have key : j ∉ x.ids ++ y.ids ∧ j ≠ k := by
    rcases List.mem_append.1 hz with h | h
    · have hm : j ∈ a.flatMap Part.ids := List.mem_flatMap.2 ⟨z, h, hj⟩
      exact ⟨fun e => h3.2.2 j hm j (List.mem_append_left _ e) rfl, fun e => h0 (List.mem_append_left _ (List.mem_append_left _ (e ▸ hm)))⟩
    · have hm : j ∈ b.flatMap Part.ids := List.mem_flatMap.2 ⟨z, h, hj⟩
      exact ⟨fun e => h4.2.2 j e j hm rfl, fun e => h0 (List.mem_append_left _ (List.mem_append_right _ (List.mem_append_right _ (e ▸ hm))))⟩
  exact ⟨fun e => key.1 (List.mem_append_left _ e), fun e => key.1 (List.mem_append_right _ e), key.2⟩

/-- two neighbours have turned, x gave, y took (in either order) -/
theorem mended_pair {A A' : List Nd} {fr : List Nat} {d k : Nat} {c : Int} {a b : List Part} {u v u' v' : Part} (hnode : A[k]? = some ⟨[], (a ++ u :: v :: b).map Part.id, c⟩) (hrep : ∀ y ∈ a ++ u :: v :: b, Rep A d y) (henough : ∀ y ∈ a ++ b, 4 ≤ (nd A y.id).size)
    (hn : (k :: ((a ++ u :: v :: b).flatMap Part.ids ++ fr)).Nodup) (ru : Rep A' d u') (rv : Rep A' d v') (iu : u'.id = u.id) (iv : v'.id = v.id) (su : 4 ≤ (nd A' u.id).size) (sv : 4 ≤ (nd A' v.id).size)
    (hl : u'.ls ++ v'.ls = u.ls ++ v.ls) (hp : (u'.ids ++ v'.ids).Perm (u.ids ++ v.ids)) (hf : ∀ j, j ≠ u.id → j ≠ v.id → A'[j]? = A[j]?) (hlen : A'.length = A.length) :
    Mended A fr d k c (a ++ u :: v :: b) A' fr (a ++ u' :: v' :: b) := by
  obtain ⟨h1, h2, h3, h4⟩ := nodup_two hn
  have hu := hrep u (by simp)
  have hv := hrep v (by simp)
  have hk : k ∉ u.ids ++ v.ids := (List.nodup_cons.1 h1).1
  have hku : k ≠ u.id := fun e => hk (e ▸ List.mem_append_left _ hu.id_mem)
  have hkv : k ≠ v.id := fun e => hk (e ▸ List.mem_append_right _ hv.id_mem)
  refine ⟨fun q hq => ?_, ?_, ?_, ?_, by simp, fun j hj => ?_, by simp, fun j hj _ => ?_, hlen⟩
  · have hc : q ∈ a ++ b ∨ q = u' ∨ q = v' := by
      simp only [List.mem_append, List.mem_cons] at hq ⊢
      rcases hq with h | h | h | h
      · exact .inl (.inl h)
      · exact .inr (.inl h)
      · exact .inr (.inr h)
      · exact .inl (.inr h)
    rcases hc with h | rfl | rfl
    · have hq' : q ∈ a ++ u :: v :: b := by
        simp only [List.mem_append, List.mem_cons] at h ⊢
        rcases h with h | h
        · exact .inl h
        · exact .inr (.inr (.inr h))
      have hs : ∀ j ∈ q.ids, A'[j]? = A[j]? := fun j hj => by
        obtain ⟨g1, g2, _⟩ := h2 q h j hj
        exact hf j (fun e => g1 (e ▸ hu.id_mem)) (fun e => g2 (e ▸ hv.id_mem))
      exact ⟨(hrep q hq').congr hs, by rw [nd_congr (hs _ (hrep q hq').id_mem)]; exact henough q h⟩
    · exact ⟨ru, by rw [iu]; exact su⟩
    · exact ⟨rv, by rw [iv]; exact sv⟩
  · rw [hf k hku hkv, hnode]
    simp [iu, iv]
  · simp only [List.flatMap_append, List.flatMap_cons]
    rw [← List.append_assoc u'.ls, hl, List.append_assoc]
  · simp only [List.flatMap_append, List.flatMap_cons, List.append_assoc]
    refine List.Perm.append_left _ ?_
    rw [← List.append_assoc, ← List.append_assoc u.ids]
    exact List.Perm.append_right _ hp
  · simp only [List.flatMap_append, List.flatMap_cons, List.mem_append] at hj ⊢
    have hm : ∀ j, j ∈ u'.ids ∨ j ∈ v'.ids → j ∈ u.ids ∨ j ∈ v.ids := fun j hj => List.mem_append.1 (hp.subset (List.mem_append.2 hj))
    rcases hj with h | h | h | h
    · exact .inl h
    · exact .inr ((hm j (.inl h)).elim .inl (fun h => .inr (.inl h)))
    · exact .inr ((hm j (.inr h)).elim .inl (fun h => .inr (.inl h)))
    · exact .inr (.inr (.inr h))
  · refine hf j (fun e => hj ?_) (fun e => hj ?_)
    · exact List.mem_flatMap.2 ⟨u, by simp, e ▸ hu.id_mem⟩
    · exact List.mem_flatMap.2 ⟨v, by simp, e ▸ hv.id_mem⟩

/-- two neighbours have become one -/
theorem mended_merge {A A' : List Nd} {fr : List Nat} {d k : Nat} {c : Int} {a b : List Part} {u v u' : Part} (hrep : ∀ y ∈ a ++ u :: v :: b, Rep A d y) (henough : ∀ y ∈ a ++ b, 4 ≤ (nd A y.id).size)
    (hn : (k :: ((a ++ u :: v :: b).flatMap Part.ids ++ fr)).Nodup) (H : Merged A A' d k u v u') (hs : 4 ≤ (nd A u.id).size + (nd A v.id).size) (hnode : A'[k]? = some ⟨[], (a ++ u' :: b).map Part.id, c⟩) :
    Mended A fr d k c (a ++ u :: v :: b) A' (fr ++ [v.id]) (a ++ u' :: b) := by
  obtain ⟨h1, h2, h3, h4⟩ := nodup_two hn
  have hu := hrep u (by simp)
  have hv := hrep v (by simp)
  refine ⟨fun q hq => ?_, hnode, ?_, ?_, by simp; omega, fun j hj => ?_, by simp, fun j hj hjk => ?_, H.len⟩
  · have hc : q ∈ a ++ b ∨ q = u' := by
      simp only [List.mem_append, List.mem_cons] at hq ⊢
      rcases hq with h | h | h
      · exact .inl (.inl h)
      · exact .inr h
      · exact .inl (.inr h)
    rcases hc with h | rfl
    · have hq' : q ∈ a ++ u :: v :: b := by
        simp only [List.mem_append, List.mem_cons] at h ⊢
        rcases h with h | h
        · exact .inl h
        · exact .inr (.inr (.inr h))
      have hs : ∀ j ∈ q.ids, A'[j]? = A[j]? := fun j hj => by
        obtain ⟨g1, g2, g3⟩ := h2 q h j hj
        exact H.frame j (fun e => g1 (e ▸ hu.id_mem)) (fun e => g2 (e ▸ hv.id_mem)) g3
      exact ⟨(hrep q hq').congr hs, by rw [nd_congr (hs _ (hrep q hq').id_mem)]; exact henough q h⟩
    · exact ⟨H.rx, by rw [H.ix, H.sx]; exact hs⟩
  · simp only [List.flatMap_append, List.flatMap_cons]
    rw [H.lines, List.append_assoc]
  · simp only [List.flatMap_append, List.flatMap_cons, List.append_assoc]
    refine List.Perm.append_left _ ?_
    have e1 : (u'.ids ++ (b.flatMap Part.ids ++ (fr ++ [v.id]))).Perm ((u'.ids ++ [v.id]) ++ (b.flatMap Part.ids ++ fr)) := by
      rw [List.append_assoc]
      refine List.Perm.append_left _ ?_
      rw [← List.append_assoc]
      exact List.perm_append_comm
    refine e1.trans ?_
    rw [← List.append_assoc u.ids]
    exact List.Perm.append_right _ H.perm
  · simp only [List.flatMap_append, List.flatMap_cons, List.mem_append] at hj ⊢
    have hm : j ∈ u'.ids → j ∈ u.ids ∨ j ∈ v.ids := fun h => List.mem_append.1 (H.perm.subset (List.mem_append_left _ h))
    rcases hj with h | h | h
    · exact .inl h
    · exact .inr ((hm h).elim .inl (fun h => .inr (.inl h)))
    · exact .inr (.inr (.inr h))
  · refine H.frame j (fun e => hj ?_) (fun e => hj ?_) hjk
    · exact List.mem_flatMap.2 ⟨u, by simp, e ▸ hu.id_mem⟩
    · exact List.mem_flatMap.2 ⟨v, by simp, e ▸ hv.id_mem⟩
theorem mended_none {A : List Nd} {fr : List Nat} {d k : Nat} {c : Int} {p1 : List Part} {q : Part} {p2 : List Part} (h : Mendable A fr d k c p1 q p2) (h4 : 4 ≤ (nd A q.id).size) : Mended A fr d k c (p1 ++ q :: p2) A fr (p1 ++ q :: p2) := by
  refine ⟨fun y hy => ⟨h.rep y hy, ?_⟩, h.node, rfl, List.Perm.refl _, Nat.le_succ _, fun _ h => h, by simp, fun _ _ _ => rfl, rfl⟩
  simp only [List.mem_append, List.mem_cons] at hy
  rcases hy with hy | rfl | hy
  · exact h.enough y (List.mem_append_left _ hy)
  · exact h4
  · exact h.enough y (List.mem_append_right _ hy)
end Go.Proofs.YtdhemdeapphfoaaGreatDoor.Bt

/- The tree's plain part: what taking a line out leaves. -/
namespace Go.Proofs.YtdhemdeapphfoaaGreatDoor.Bt

structure Rem (A : List Nd) (fr : List Nat) (d : Nat) (p : Part) (out : List ByteArray) (A' : List Nd) (fr' : List Nat) (q : Part) : Prop where
  id : q.id = p.id
  rep : Rep A' d q
  size : (nd A p.id).size ≤ (nd A' q.id).size + 1
  lines : q.ls = out
  length : A'.length = A.length
  perm : (q.ids ++ fr').Perm (p.ids ++ fr)
  frame : ∀ j, j ∉ p.ids → A'[j]? = A[j]?
  sub : ∀ j ∈ q.ids, j ∈ p.ids

theorem rem_leaf {A : List Nd} {fr : List Nat} {p : Part} {i : Nat} (h : Rep A 0 p) (hi : i < p.ls.length) {c : Int} {A1 : List Nd} (h1 : A1 = A.set p.id ⟨p.ls.eraseIdx i, [], c⟩) : Rem A fr 0 p (p.ls.eraseIdx i) (setSum A1 p.id) fr ⟨p.id, p.ls.eraseIdx i, [p.id]⟩ := by
  have hk : p.id < A.length := (List.getElem?_eq_some_iff.1 h.1).1
  have hs : A1[p.id]? = some ⟨p.ls.eraseIdx i, [], c⟩ := by rw [h1]; exact set_self hk
  have e1 := setSum_self hs
  simp only [cts, List.map_nil, List.sum_nil, Int.add_zero] at e1
  have hl : (p.ls.eraseIdx i).length = p.ls.length - 1 := by rw [List.length_eraseIdx, if_pos hi]
  refine ⟨rfl, ⟨e1, rfl⟩, ?_, rfl, by rw [setSum_length, h1]; simp, by rw [h.2], fun j hj => ?_, by rw [h.2]; exact fun j hj => hj⟩
  · rw [nd_some e1, nd_some h.1]
    simp only [Nd.size, List.length_nil]
    omega
  · rw [h.2] at hj
    have : j ≠ p.id := fun e => hj (by simp [e])
    rw [setSum_other this, h1, set_other this]

theorem erase_mid (a b c : List ByteArray) (i : Nat) (h : i < b.length) : (a ++ (b ++ c)).eraseIdx (a.length + i) = a ++ (b.eraseIdx i ++ c) := by
  rw [List.eraseIdx_append_of_length_le (by omega), Nat.add_sub_cancel_left, List.eraseIdx_append_of_lt_length h]

/-- the kid has done it: what mend is given -/
theorem rem_mendable {A A1 : List Nd} {fr fr1 : List Nat} {d : Nat} {p : Part} {ps p1 p2 : List Part} {q0 q1 : Part} {out : List ByteArray} (hps : ps = p1 ++ q0 :: p2) (hk : A[p.id]? = some ⟨[], ps.map Part.id, p.ls.length⟩) (hids : p.ids = p.id :: ps.flatMap Part.ids) (hls : p.ls = ps.flatMap Part.ls)
    (hr : ∀ q ∈ ps, Rep A d q ∧ 4 ≤ (nd A q.id).size) (hn : (p.ids ++ fr).Nodup) (h2 : 2 ≤ ps.length) (H : Rem A fr d q0 out A1 fr1 q1) (hout : out.length ≤ q0.ls.length) (hf : p.ls.length ≤ 10000000000) :
    Mendable A1 fr1 d p.id p.ls.length p1 q1 p2 ∧ ((p1 ++ q1 :: p2).flatMap Part.ids ++ fr1).Perm (ps.flatMap Part.ids ++ fr) ∧ (∀ j ∈ (p1 ++ q1 :: p2).flatMap Part.ids, j ∈ ps.flatMap Part.ids) := by
  subst hps
  have hN := nodup_part (A := [p.id]) (p1 := p1) (q := q0) (p2 := p2) (B := fr) (by rw [hids] at hn; exact hn)
  obtain ⟨n1, n2, n3⟩ := hN
  have hq0 := hr q0 (by simp)
  have hpq : p.id ∉ q0.ids := fun e => (n2 q0 (by simp) _ e).2 (by simp)
  have hside : ∀ y ∈ p1 ++ p2, y ∈ p1 ++ q0 :: p2 := fun y hy => by
    simp only [List.mem_append, List.mem_cons] at hy ⊢
    exact hy.elim .inl (fun h => .inr (.inr h))
  have hold : ∀ y ∈ p1 ++ p2, ∀ j ∈ y.ids, A1[j]? = A[j]? := fun y hy j hj => H.frame j (n1 y hy j hj)
  have hperm : ((p1 ++ q1 :: p2).flatMap Part.ids ++ fr1).Perm ((p1 ++ q0 :: p2).flatMap Part.ids ++ fr) := by
    have h := H.perm
    simp only [List.flatMap_append, List.flatMap_cons, List.append_assoc] at h ⊢
    refine List.Perm.append_left _ ?_
    calc (q1.ids ++ (p2.flatMap Part.ids ++ fr1)).Perm (q1.ids ++ (fr1 ++ p2.flatMap Part.ids)) := List.Perm.append_left _ List.perm_append_comm
      _ = (q1.ids ++ fr1) ++ p2.flatMap Part.ids := by simp
      List.Perm _ ((q0.ids ++ fr) ++ p2.flatMap Part.ids) := List.Perm.append_right _ h
      List.Perm _ _ := by
        simp only [List.append_assoc]
        exact List.Perm.append_left _ List.perm_append_comm
  refine ⟨⟨?_, fun y hy => ?_, fun y hy => ?_, ?_, ?_, by simpa using h2, ?_⟩, hperm, fun j hj => ?_⟩
  · rw [H.frame _ hpq, hk]
    simp [H.id]
  · have hc : y ∈ p1 ++ p2 ∨ y = q1 := by
      simp only [List.mem_append, List.mem_cons] at hy ⊢
      rcases hy with h | h | h
      · exact .inl (.inl h)
      · exact .inr h
      · exact .inl (.inr h)
    rcases hc with h | rfl
    · exact (hr y (hside y h)).1.congr (hold y h)
    · exact H.rep
  · rw [nd_congr (hold y hy _ (hr y (hside y hy)).1.id_mem)]
    exact (hr y (hside y hy)).2
  · have h5 := H.size
    have h6 := hq0.2
    rw [← H.id] at h6 h5
    have h7 : (nd A1 q1.id).size + 1 ≥ (nd A q0.id).size := H.size
    have h8 := hq0.2
    omega
  · refine (List.Perm.nodup_iff (List.Perm.cons p.id hperm)).2 ?_
    rw [hids] at hn
    exact hn
  · rw [hls] at hf
    rw [List.flatMap_append, List.flatMap_cons, List.length_append, List.length_append] at hf ⊢
    rw [H.lines]
    omega
  · simp only [List.flatMap_append, List.flatMap_cons, List.mem_append] at hj ⊢
    exact hj.elim .inl (fun h => .inr (h.elim (fun h => .inl (H.sub j h)) .inr))

/-- mend has done it: what the count is given, and what is left -/
theorem rem_node {A A1 A2 : List Nd} {fr fr1 fr2 : List Nat} {d : Nat} {p : Part} {ps ps1 ps2 : List Part} {out : List ByteArray} (hk : A[p.id]? = some ⟨[], ps.map Part.id, p.ls.length⟩) (hids : p.ids = p.id :: ps.flatMap Part.ids)
    (hn : (p.ids ++ fr).Nodup) (hperm : (ps1.flatMap Part.ids ++ fr1).Perm (ps.flatMap Part.ids ++ fr)) (hlen : A1.length = A.length) (hcount : ps1.length = ps.length) (hsub : ∀ j ∈ ps1.flatMap Part.ids, j ∈ ps.flatMap Part.ids)
    (hf1 : ∀ j, j ∉ p.ids → A1[j]? = A[j]?) (hlines : ps1.flatMap Part.ls = out) (hout : out.length ≤ 10000000000) (H : Mended A1 fr1 d p.id p.ls.length ps1 A2 fr2 ps2) :
    (∃ q, Rem A fr (d + 1) p out (setSum A2 p.id) fr2 q) ∧ A2[p.id]? = some ⟨[], ps2.map Part.id, p.ls.length⟩ ∧ (∀ j ∈ ps2.map Part.id, j ≠ p.id ∧ ∃ y, A2[j]? = some y ∧ 0 ≤ y.ct) ∧ cts A2 (ps2.map Part.id) ≤ 1000000000000 := by
  have hp2 := H.perm.trans hperm
  have hnod : (p.id :: (ps2.flatMap Part.ids ++ fr2)).Nodup := by
    refine (List.Perm.nodup_iff (List.Perm.cons p.id hp2)).2 ?_
    rw [hids] at hn
    exact hn
  have hmid := mid_law (k := p.id) H.rep hnod (by rw [H.lines, hlines]; omega)
  have hc := cts_parts (fun q hq => (H.rep q hq).1)
  have e1 := setSum_self H.node
  simp only [List.length_nil, Int.natCast_zero, Int.zero_add] at e1
  rw [hc] at e1
  have hkid := kids_ok (fun q hq => (H.rep q hq).1) hnod
  refine ⟨⟨⟨p.id, ps2.flatMap Part.ls, p.id :: ps2.flatMap Part.ids⟩, rfl, ⟨ps2, H.some_, e1, rfl, rfl, fun q hq => ?_⟩, ?_, by rw [H.lines, hlines], by rw [setSum_length, H.len, hlen], ?_, fun j hj => ?_, fun j hj => ?_⟩, H.node, hmid.sum, hmid.total⟩
  · have hs : ∀ j ∈ q.ids, (setSum A2 p.id)[j]? = A2[j]? := fun j hj => setSum_other (fun e => (List.nodup_cons.1 hnod).1 (List.mem_append_left _ (List.mem_flatMap.2 ⟨q, hq, e ▸ hj⟩)))
    exact ⟨(H.rep q hq).1.congr hs, by rw [nd_congr (hs _ (H.rep q hq).1.id_mem)]; exact (H.rep q hq).2⟩
  · rw [nd_some hk]
    show _ ≤ (nd (setSum A2 p.id) p.id).size + 1
    rw [nd_some e1]
    have := H.count
    simp only [Nd.size, List.length_nil, List.length_map]
    omega
  · rw [hids, List.cons_append, List.cons_append]
    exact List.Perm.cons _ hp2
  · have hjp : j ≠ p.id := fun e => hj (by rw [hids]; simp [e])
    rw [setSum_other hjp]
    have hm : j ∉ ps1.flatMap Part.ids := fun hm => hj (by rw [hids]; exact List.mem_cons_of_mem _ (hsub j hm))
    rw [H.frame j hm hjp]
    exact hf1 j hj
  · rw [hids]
    rcases List.mem_cons.1 hj with h | h
    · rw [h]; exact List.mem_cons_self ..
    · exact List.mem_cons_of_mem _ (hsub j (H.sub j h))
end Go.Proofs.YtdhemdeapphfoaaGreatDoor.Bt

/- The tree's plain part: a whole tree, a line taken out. -/
namespace Go.Proofs.YtdhemdeapphfoaaGreatDoor.Bt

theorem ok_rem {A A' : List Nd} {fr fr' : List Nat} {root d : Nat} {ls out : List ByteArray} {p q : Part} (h : Ok A fr root ls d p) (H : Rem A fr d p out A' fr' q) :
    ∃ n, A'[root]? = some n ∧ (n.ks.length ≠ 1 → Ok A' fr' root out d q) ∧ (n.ks.length = 1 → ∃ y d2, n.ks = [y.id] ∧ Ok (A'.set root Nd.z) (fr' ++ [root]) y.id out d2 y) := by
  have hperm : (q.ids ++ fr').Perm (List.range A'.length) := by rw [H.length]; exact H.perm.trans h.perm
  have hid : q.id = root := H.id.trans h.id
  have hfew : A'.length ≤ 1000000000 := by rw [H.length]; exact h.few
  have hrep := H.rep
  cases d with
  | zero =>
    refine ⟨_, by rw [← hid]; exact hrep.1, fun _ => ⟨hrep, hid, H.lines, hperm, fun e => absurd rfl e, hfew⟩, fun e => by simp at e⟩
  | succ d =>
    obtain ⟨ps, a0, a1, a2, a3, a4⟩ := hrep
    refine ⟨_, by rw [← hid]; exact a1, fun e => ⟨H.rep, hid, H.lines, hperm, fun _ => ?_, hfew⟩, fun e => ?_⟩
    · rw [nd_some a1]
      simp only [List.length_map] at e
      have : 0 < ps.length := List.length_pos_iff.2 a0
      simp only [Nd.size, List.length_nil, List.length_map]
      omega
    · obtain ⟨y, rfl⟩ : ∃ y, ps = [y] := by
        match ps, e with
        | [y], _ => exact ⟨y, rfl⟩
      have hnod : (q.ids ++ fr').Nodup := (List.Perm.nodup_iff hperm).2 List.nodup_range
      rw [a3] at hnod hperm
      simp only [List.flatMap_cons, List.flatMap_nil, List.append_nil] at hnod hperm a2
      have hry : q.id ∉ y.ids := fun e => (List.nodup_cons.1 hnod).1 (List.mem_append_left _ e)
      have hy := a4 y (by simp)
      have hs : ∀ j ∈ y.ids, (A'.set root Nd.z)[j]? = A'[j]? := fun j hj => set_other (fun e => hry (by rw [hid, ← e]; exact hj))
      refine ⟨y, d, rfl, hy.1.congr hs, rfl, by rw [← a2]; exact H.lines, ?_, fun _ => ?_, by simpa using hfew⟩
      · rw [List.length_set, ← hid]
        refine List.Perm.trans ?_ hperm
        rw [← List.append_assoc]
        exact List.perm_append_singleton _ _
      · rw [nd_congr (hs _ hy.1.id_mem)]
        exact Nat.le_trans (by omega) hy.2
end Go.Proofs.YtdhemdeapphfoaaGreatDoor.Bt

/- The tree's plain part: the leaf that has a line, and another line in its place. -/
namespace Go.Proofs.YtdhemdeapphfoaaGreatDoor.Bt

/-- leaf k has, as its j-th, the i-th line below p; another one in its place turns nothing else -/
def AtOk (A : List Nd) (d : Nat) (p : Part) (i k j : Nat) : Prop :=
  ∃ l c, A[k]? = some ⟨l, [], c⟩ ∧ k ∈ p.ids ∧ j < l.length ∧ l.getD j ByteArray.empty = p.ls.getD i ByteArray.empty ∧
    ∀ x A', A' = A.set k ⟨l.set j x, [], c⟩ → Rep A' d ⟨p.id, p.ls.set i x, p.ids⟩ ∧ (nd A' p.id).size = (nd A p.id).size

theorem at_leaf {A : List Nd} {p : Part} {i : Nat} (h : Rep A 0 p) (hi : i < p.ls.length) : AtOk A 0 p i p.id i := by
  refine ⟨p.ls, p.ls.length, h.1, h.id_mem, hi, rfl, fun x A' hA' => ?_⟩
  have e1 : A'[p.id]? = some ⟨p.ls.set i x, [], p.ls.length⟩ := by rw [hA']; exact set_self (List.getElem?_eq_some_iff.1 h.1).1
  refine ⟨⟨by simpa using e1, h.2⟩, ?_⟩
  rw [nd_some e1, nd_some h.1]
  simp [Nd.size]

theorem set_mid (a b c : List ByteArray) (i : Nat) (x : ByteArray) (h : i < b.length) : (a ++ (b ++ c)).set (a.length + i) x = a ++ (b.set i x ++ c) := by
  rw [List.set_append_right _ _ (by omega), Nat.add_sub_cancel_left, List.set_append_left _ _ h]

theorem at_node {A : List Nd} {d : Nat} {p : Part} {ps p1 p2 : List Part} {q : Part} {i r k j : Nat} (hk : A[p.id]? = some ⟨[], ps.map Part.id, p.ls.length⟩) (h0 : ps ≠ []) (hids : p.ids = p.id :: ps.flatMap Part.ids) (hls : p.ls = ps.flatMap Part.ls) (hr : ∀ q ∈ ps, Rep A d q ∧ 4 ≤ (nd A q.id).size)
    (hn : p.ids.Nodup) (hps : ps = p1 ++ q :: p2) (hi : i = (p1.flatMap Part.ls).length + r) (hrq : r < q.ls.length) (H : AtOk A d q r k j) : AtOk A (d + 1) p i k j := by
  obtain ⟨l, c, e1, hkm, hj, hl, hset⟩ := H
  have hqm : q ∈ ps := by rw [hps]; simp
  have hkp : k ≠ p.id := fun e => by
    rw [hids] at hn
    exact (List.nodup_cons.1 hn).1 (e ▸ List.mem_flatMap.2 ⟨q, hqm, hkm⟩)
  have hoth : ∀ y ∈ p1 ++ p2, ∀ j ∈ y.ids, j ≠ k := fun y hy j hj e => by
    have hn' : ([p.id] ++ ((p1 ++ q :: p2).flatMap Part.ids ++ [])).Nodup := by
      rw [hids, hps] at hn
      simpa using hn
    exact (nodup_part hn').1 y hy j hj (e ▸ hkm)
  refine ⟨l, c, e1, by rw [hids]; exact List.mem_cons_of_mem _ (List.mem_flatMap.2 ⟨q, hqm, hkm⟩), hj, ?_, fun x A' hA' => ?_⟩
  · rw [hl, hls, hps, hi, List.flatMap_append, List.flatMap_cons, List.getD_eq_getElem?_getD, List.getD_eq_getElem?_getD, List.getElem?_append_right (by omega), Nat.add_sub_cancel_left, List.getElem?_append_left hrq]
  · obtain ⟨g1, g2⟩ := hset x A' hA'
    have hp : A'[p.id]? = A[p.id]? := by rw [hA', set_other (fun e => hkp e.symm)]
    have hlen : (p.ls.set i x).length = p.ls.length := List.length_set
    have hls2 : p.ls.set i x = p1.flatMap Part.ls ++ (q.ls.set r x ++ p2.flatMap Part.ls) := by
      rw [hls, hps, hi, List.flatMap_append, List.flatMap_cons, set_mid _ _ _ _ _ hrq]
    refine ⟨⟨p1 ++ ⟨q.id, q.ls.set r x, q.ids⟩ :: p2, by simp, ?_, ?_, ?_, fun y hy => ?_⟩, by rw [nd_congr hp]⟩
    · show A'[p.id]? = _
      rw [hp, hk, hps]
      simp
    · show p.ls.set i x = _
      rw [hls2]
      simp [List.flatMap_append, List.flatMap_cons]
    · show p.ids = _
      rw [hids, hps]
      simp [List.flatMap_append, List.flatMap_cons]
    · simp only [List.mem_append, List.mem_cons] at hy
      have hcase : y ∈ p1 ++ p2 ∨ y = ⟨q.id, q.ls.set r x, q.ids⟩ := by
        rcases hy with h | h | h
        · exact .inl (List.mem_append_left _ h)
        · exact .inr h
        · exact .inl (List.mem_append_right _ h)
      rcases hcase with h | rfl
      · have hym : y ∈ ps := by
          rw [hps]
          simp only [List.mem_append, List.mem_cons] at h ⊢
          exact h.elim .inl (fun h => .inr (.inr h))
        have hs : ∀ j ∈ y.ids, A'[j]? = A[j]? := fun j hj => by rw [hA', set_other (hoth y h j hj)]
        exact ⟨(hr y hym).1.congr hs, by rw [nd_congr (hs _ (hr y hym).1.id_mem)]; exact (hr y hym).2⟩
      · exact ⟨g1, by show 4 ≤ (nd A' q.id).size; rw [g2]; exact (hr q hqm).2⟩

theorem ok_set {A : List Nd} {fr : List Nat} {root d : Nat} {ls : List ByteArray} {p : Part} {i k j : Nat} (h : Ok A fr root ls d p) (H : AtOk A d p i k j) : ∃ l c, A[k]? = some ⟨l, [], c⟩ ∧ j < l.length ∧ l.getD j ByteArray.empty = ls.getD i ByteArray.empty ∧
    ∀ x, Ok (A.set k ⟨l.set j x, [], c⟩) fr root (ls.set i x) d ⟨p.id, p.ls.set i x, p.ids⟩ := by
  obtain ⟨l, c, e1, hkm, hj, hl, hset⟩ := H
  refine ⟨l, c, e1, hj, by rw [hl, h.lines], fun x => ?_⟩
  obtain ⟨g1, g2⟩ := hset x _ rfl
  exact ⟨g1, h.id, by show p.ls.set i x = _; rw [h.lines], by rw [List.length_set]; exact h.perm, fun hd => by show 2 ≤ (nd _ p.id).size; rw [g2]; exact h.root2 hd, by rw [List.length_set]; exact h.few⟩
end Go.Proofs.YtdhemdeapphfoaaGreatDoor.Bt

/- Lists: lines put in the place of others, step by step. -/
namespace Go.Proofs.YtdhemdeapphfoaaGreatDoor.Bt

def L1 (ls xs : List ByteArray) (i k : Nat) : List ByteArray := ls.take i ++ (xs.take k ++ ls.drop (i + k))
def L2 (ls xs : List ByteArray) (i s m : Nat) : List ByteArray := ls.take i ++ (xs.take s ++ ls.drop (i + s + m))
def L3 (ls xs : List ByteArray) (i n s k : Nat) : List ByteArray := ls.take i ++ (xs.take (s + k) ++ ls.drop (i + n))
def splice (ls : List ByteArray) (i n : Nat) (xs : List ByteArray) : List ByteArray := ls.take i ++ (xs ++ ls.drop (i + n))

theorem L1_step {ls xs : List ByteArray} {i k : Nat} {x : ByteArray} (hx : xs[k]? = some x) (hi : i + k < ls.length) : (L1 ls xs i k).set (i + k) x = L1 ls xs i (k + 1) := by
  obtain ⟨hk, rfl⟩ := List.getElem?_eq_some_iff.1 hx
  have h1 : (ls.take i).length = i := by rw [List.length_take]; omega
  have h2 : (xs.take k).length = k := by rw [List.length_take]; omega
  unfold L1
  rw [List.set_append_right _ _ (by omega), h1, Nat.add_sub_cancel_left, List.set_append_right _ _ (by omega), h2, Nat.sub_self, List.drop_eq_getElem_cons hi, List.set_cons_zero, List.take_succ_eq_append_getElem hk, show i + (k + 1) = i + k + 1 by omega, List.append_assoc]
  rfl
theorem L1_length {ls xs : List ByteArray} {i k : Nat} (hk : k ≤ xs.length) (hi : i + k ≤ ls.length) : (L1 ls xs i k).length = ls.length := by
  unfold L1
  simp only [List.length_append, List.length_take, List.length_drop]
  omega
theorem L2_step {ls xs : List ByteArray} {i s m : Nat} (hs : s ≤ xs.length) (hi : i + s + m < ls.length) : (L2 ls xs i s m).eraseIdx (i + s) = L2 ls xs i s (m + 1) := by
  have h1 : (ls.take i).length = i := by rw [List.length_take]; omega
  have h2 : (xs.take s).length = s := by rw [List.length_take]; omega
  unfold L2
  rw [List.eraseIdx_append_of_length_le (by omega), h1, Nat.add_sub_cancel_left, List.eraseIdx_append_of_length_le (by omega), h2, Nat.sub_self, List.drop_eq_getElem_cons hi, List.eraseIdx_cons_zero]
  rfl
theorem L2_length {ls xs : List ByteArray} {i s m : Nat} (hs : s ≤ xs.length) (hi : i + s + m ≤ ls.length) : (L2 ls xs i s m).length = ls.length - m := by
  unfold L2
  simp only [List.length_append, List.length_take, List.length_drop]
  omega
theorem L3_step {ls xs : List ByteArray} {i n s k : Nat} {x : ByteArray} (hx : xs[s + k]? = some x) (hi : i + n ≤ ls.length) : insAt (L3 ls xs i n s k) (i + s + k) x = L3 ls xs i n s (k + 1) := by
  obtain ⟨hk, rfl⟩ := List.getElem?_eq_some_iff.1 hx
  have h1 : (ls.take i).length = i := by rw [List.length_take]; omega
  have h2 : (xs.take (s + k)).length = s + k := by rw [List.length_take]; omega
  unfold L3 insAt
  rw [show i + s + k = (ls.take i).length + (s + k) by omega, List.take_length_add_append, List.drop_length_add_append, List.take_append_of_le_length (by omega), List.drop_append_of_le_length (by omega)]
  rw [List.take_of_length_le (l := xs.take (s + k)) (by omega), List.drop_of_length_le (l := xs.take (s + k)) (by omega), show s + (k + 1) = s + k + 1 by omega, List.take_succ_eq_append_getElem hk, List.append_assoc, List.append_assoc]
  rfl
theorem L3_length {ls xs : List ByteArray} {i n s k : Nat} (hk : s + k ≤ xs.length) (hi : i + n ≤ ls.length) : (L3 ls xs i n s k).length = ls.length - n + s + k := by
  unfold L3
  simp only [List.length_append, List.length_take, List.length_drop]
  omega
theorem L1_zero (ls xs : List ByteArray) (i : Nat) : L1 ls xs i 0 = ls := by unfold L1; simp
theorem L12 (ls xs : List ByteArray) (i s : Nat) : L1 ls xs i s = L2 ls xs i s 0 := rfl
theorem L23 {ls xs : List ByteArray} {i n s : Nat} (h : s ≤ n) : L2 ls xs i s (n - s) = L3 ls xs i n s 0 := by
  unfold L2 L3
  rw [show i + s + (n - s) = i + n by omega]
  rfl
theorem L3_end {ls xs : List ByteArray} {i n s k : Nat} (h : s + k = xs.length) : L3 ls xs i n s k = splice ls i n xs := by
  unfold L3 splice
  rw [h, List.take_length]
theorem splice_length {ls xs : List ByteArray} {i n : Nat} (h : i + n ≤ ls.length) : (splice ls i n xs).length = ls.length - n + xs.length := by
  unfold splice
  simp only [List.length_append, List.length_take, List.length_drop]
  omega
end Go.Proofs.YtdhemdeapphfoaaGreatDoor.Bt
