/- nodes as they lie in memory, to be read. -/
import Derived.Test.YtjdlbejmdjcajaaGreatPaH
import Derived.Test.YtjdlbejmdjcajaaGreatPpB
set_option linter.unusedVariables false
set_option linter.unusedSimpArgs false
namespace Go.Proofs.YtjdlbejmdjcajaaGreat
open Go.RowKit Go.Shelf Go.Maps Go.Proofs.YtjdlbejmdjcajaaGreatW.PrintWords Go.Proofs.YtjdlbejmdjcajaaGreatW.PrintLast

/-- a row of whole numbers, to be read -/
def IsI (w : World) (F : Nat → Prop) (v : Value) (ks : List Int) : Prop :=
  ∃ A c, v = .slice A ks.length c ∧ ks.length ≤ c ∧ c ≤ maxLen ∧ (0 < ks.length → ∃ b o, A = some ⟨b, o, none⟩ ∧ F b ∧ b < w.heap.size ∧ ∀ (j : Nat) (k : Int), ks[j]? = some k → w.cell? ⟨b, o + j, none⟩ = some (.int .i64 k))
/-- nodes, to be read -/
def NsI (w : World) (F : Nat → Prop) (v : Value) (L : List Pp.Nk) : Prop :=
  ∃ A c, v = .slice A L.length c ∧ L.length ≤ c ∧ c ≤ maxLen ∧ (0 < L.length → ∃ b o, A = some ⟨b, o, none⟩ ∧ F b ∧ b < w.heap.size ∧ ∀ (j : Nat) (x : Pp.Nk), L[j]? = some x → ∃ kv, IsI w F kv x.2 ∧ ∀ (i : Nat) (u : Value), (ndC (x.1, kv))[i]? = some u → w.cell? ⟨b, o + j * 11 + i, none⟩ = some u)
theorem IsI.step {w w' : World} {F F' : Nat → Prop} {v : Value} {ks : List Int} (h : IsI w F v ks) (hs : w.heap.size ≤ w'.heap.size) (hb : ∀ b, F b → b < w.heap.size → w'.heap[b]? = w.heap[b]? ∧ F' b) : IsI w' F' v ks := by
  obtain ⟨A, c, h1, h2, h3, h4⟩ := h
  refine ⟨A, c, h1, h2, h3, fun h0 => ?_⟩
  obtain ⟨b, o, e, hF, hl, hc⟩ := h4 h0
  exact ⟨b, o, e, (hb b hF hl).2, Nat.lt_of_lt_of_le hl hs, fun j k hj => (World.cell?_of_block (a := ⟨b, o + j, none⟩) (hb b hF hl).1).trans (hc j k hj)⟩
theorem NsI.step {w w' : World} {F F' : Nat → Prop} {v : Value} {L : List Pp.Nk} (h : NsI w F v L) (hs : w.heap.size ≤ w'.heap.size) (hb : ∀ b, F b → b < w.heap.size → w'.heap[b]? = w.heap[b]? ∧ F' b) : NsI w' F' v L := by
  obtain ⟨A, c, h1, h2, h3, h4⟩ := h
  refine ⟨A, c, h1, h2, h3, fun h0 => ?_⟩
  obtain ⟨b, o, e, hF, hl, hc⟩ := h4 h0
  refine ⟨b, o, e, (hb b hF hl).2, Nat.lt_of_lt_of_le hl hs, fun j x hj => ?_⟩
  obtain ⟨kv, hk, hi⟩ := hc j x hj
  exact ⟨kv, hk.step hs hb, fun i u hu => (World.cell?_of_block (a := ⟨b, o + j * 11 + i, none⟩) (hb b hF hl).1).trans (hi i u hu)⟩
theorem Is.toI {w : World} {F : Nat → Prop} {v : Value} {ks : List Nat} (h : Is w F v ks) : IsI w F v (ks.map Int.ofNat) := by
  obtain ⟨A, c, h1, h2, h3, h4⟩ := h
  refine ⟨A, c, by simpa using h1, by simpa using h2, h3, fun h0 => ?_⟩
  obtain ⟨b, o, e, hF, hl, hc⟩ := h4 (by simpa using h0)
  refine ⟨b, o, e, hF, hl, fun j k hj => ?_⟩
  rw [List.getElem?_map] at hj
  cases hk : ks[j]? with
  | none => rw [hk] at hj; cases hj
  | some k' =>
    rw [hk] at hj
    obtain rfl := Option.some.inj hj
    exact hc j k' hk
theorem flat_at : ∀ (L : List (Pp.Nd × Value)) (j : Nat) (x : Pp.Nd × Value), L[j]? = some x → ∀ (i : Nat) (u : Value), (ndC x)[i]? = some u → (L.flatMap ndC)[j * 11 + i]? = some u
  | [], j, x, h, _, _, _ => by simp at h
  | y :: L, 0, x, h, i, u, hu => by
    obtain rfl : y = x := by simpa using h
    have hi : i < (ndC y).length := (List.getElem?_eq_some_iff.1 hu).1
    rw [List.flatMap_cons, Nat.zero_mul, Nat.zero_add, List.getElem?_append_left hi]
    exact hu
  | y :: L, j + 1, x, h, i, u, hu => by
    have h1 : L[j]? = some x := by simpa using h
    have h2 := flat_at L j x h1 i u hu
    have hl : (ndC y).length = 11 := rfl
    rw [List.flatMap_cons, List.getElem?_append_right (by rw [hl]; omega), hl]
    rw [show (j + 1) * 11 + i - 11 = j * 11 + i by omega]
    exact h2
theorem Rdr.toI {w : World} {G : Nat} {s last : ByteArray} {r : Pp.Rs} {v : Value} {L : List (Pp.Nd × Value)} (h : Rdr w G s last r v L) {F : Nat → Prop} (hv : ∀ b, v.ownBlock = some b → F b) (hk : ∀ x ∈ L, Is w F x.2 x.1.kids) {A : Option Addr} {c : Nat} (hvs : v = .slice A L.length c) :
    NsI w F (.slice A L.length L.length) (L.map fun x => (x.1, x.1.kids.map Int.ofNat)) := by
  subst hvs
  have hrow := h.row
  rcases hrow.2 with ⟨e, h0⟩ | ⟨g, cap, cur, e, _, hg, hcap, hmx, hsz, htk⟩
  · refine ⟨A, L.length, by simp, by simp, by omega, fun h1 => ?_⟩
    simp at h1
    omega
  · injection e with e1 e2 e3
    subst e1 e3
    refine ⟨_, L.length, by simp, by simp, by omega, fun h1 => ⟨g, 0, rfl, hv g rfl, blk_lt hg, fun j x hj => ?_⟩⟩
    rw [List.getElem?_map] at hj
    cases hx : L[j]? with
    | none => rw [hx] at hj; cases hj
    | some y =>
      rw [hx] at hj
      obtain rfl := Option.some.inj hj
      refine ⟨y.2, (hk y (List.mem_of_getElem? hx)).toI, fun i u hu => ?_⟩
      rw [blk_cell hg]
      have h9 := flat_at L j y hx i u hu
      have hjl : j < L.length := (List.getElem?_eq_some_iff.1 hx).1
      have hil : i < 11 := (List.getElem?_eq_some_iff.1 hu).1
      rw [← htk, List.getElem?_take_of_lt (by omega)] at h9
      simpa using h9
theorem rdr_slice {w : World} {G : Nat} {s last : ByteArray} {r : Pp.Rs} {v : Value} {L : List (Pp.Nd × Value)} (h : Rdr w G s last r v L) : ∃ A c, v = .slice A L.length c ∧ L.length ≤ c := by
  rcases h.row.2 with ⟨e, h0⟩ | ⟨g, cap, cur, e, _, hg, hcap, hmx, hsz, htk⟩
  · exact ⟨none, 0, by rw [e, h0], by omega⟩
  · exact ⟨_, _, e, hcap⟩
end Go.Proofs.YtjdlbejmdjcajaaGreat
