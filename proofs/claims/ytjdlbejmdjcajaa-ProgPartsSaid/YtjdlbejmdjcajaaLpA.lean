/- letters one behind the other: what Parse and Compile make of them: plainly. -/
import Derived.Test.YtjdlbejmdjcajaaLaA
set_option linter.unusedVariables false
set_option linter.unusedSimpArgs false
namespace Go.Proofs.Ytjdlbejmdjcajaa

def letter (c : UInt8) : Prop := 97 ≤ c.toNat ∧ c.toNat ≤ 122
theorem next_letter {s : List UInt8} {r : Pp.Rs} {c : UInt8} (hm : r.mode = 109) (h : s[r.pos]? = some c) (hc : letter c) : Pp.nextP s r = some (.lit c, { r with pos := r.pos + 1 }) := by
  unfold Pp.nextP
  rw [h]
  have h92 : c ≠ 92 := by
    rintro rfl
    exact absurd hc.1 (by decide)
  have hp : (Pp.plainL r.mode).contains c = false := by
    rw [hm]
    have h9 : Pp.plainL 109 = [94, 36, 46, 42, 91, 126] := rfl
    rw [h9]
    cases h8 : ([94, 36, 46, 42, 91, 126] : List UInt8).contains c with
    | false => rfl
    | true =>
      rw [List.contains_iff_mem] at h8
      simp only [List.mem_cons, List.not_mem_nil, or_false] at h8
      rcases h8 with rfl | rfl | rfl | rfl | rfl | rfl
      · exact absurd hc.1 (by decide)
      · exact absurd hc.1 (by decide)
      · exact absurd hc.1 (by decide)
      · exact absurd hc.1 (by decide)
      · exact absurd hc.1 (by decide)
      · exact absurd hc.2 (by decide)
  simp only [if_neg h92, hp, Bool.false_eq_true, if_false]
def rL (p : Nat) : Pp.Rs := ⟨109, 0, p, 0, fun _ => false⟩
theorem branchL_stop {sgn : UInt8 → Nat → Pp.Br → Pp.Res Pp.Br} {s : List UInt8} {within : Bool} {n : Nat} {b : Pp.Br} (h1 : ¬ (50000 < b.r.2.length + b.kids.length + b.r.1.pos)) (h2 : s.length ≤ b.r.1.pos) : Pp.branchL sgn s within (n + 1) b = some (.ok (Pp.rowP 5 b.kids b.r)) := by
  unfold Pp.branchL
  rw [if_neg h1, if_pos h2]
theorem branchL_lit {sgn : UInt8 → Nat → Pp.Br → Pp.Res Pp.Br} {s : List UInt8} {within : Bool} {n : Nat} {b : Pp.Br} {c : UInt8} {r1 : Pp.Rs} (h1 : ¬ (50000 < b.r.2.length + b.kids.length + b.r.1.pos)) (h2 : ¬ (s.length ≤ b.r.1.pos)) (hn : Pp.nextP s b.r.1 = some (.lit c, r1)) : Pp.branchL sgn s within (n + 1) b = Pp.branchL sgn s within n (Pp.addN { b with r := (r1, b.r.2) } (Pp.lit c) true) := by
  rw [Pp.branchL]
  rw [if_neg h1, if_neg h2]
  simp only [hn]
theorem branchesL_stop {sgn : UInt8 → Nat → Pp.Br → Pp.Res Pp.Br} {s : List UInt8} {within : Bool} {n : Nat} {kids : List Nat} {r : Pp.R} (h : s.length ≤ r.1.pos) : Pp.branchesL sgn s within (n + 1) kids r = some (.ok (Pp.rowP 6 kids r)) := by
  unfold Pp.branchesL
  rw [if_pos h]
theorem letters_branch {s : List UInt8} (hs : ∀ c ∈ s, letter c) (hl : s.length ≤ 2000) : ∀ (l pre : List UInt8) (extra : Nat) (may : Bool), s = pre ++ l →
    Pp.branchL noS s false (l.length + 1 + extra) ⟨(rL pre.length, pre.map Pp.lit), List.range pre.length, may⟩ = some (.ok (Pp.rowP 5 (List.range s.length) (rL s.length, s.map Pp.lit)))
  | [], pre, extra, may, he => by
    rw [List.append_nil] at he
    subst he
    rw [show ([] : List UInt8).length + 1 + extra = extra + 1 by simp; omega]
    have hg : ¬ (50000 < (s.map Pp.lit).length + (List.range s.length).length + s.length) := by simp; omega
    exact branchL_stop hg (Nat.le_refl _)
  | c :: l, pre, extra, may, he => by
    have hlen : s.length = pre.length + (l.length + 1) := by rw [he]; simp
    rw [show (c :: l).length + 1 + extra = (l.length + 1 + extra) + 1 by simp; omega]
    have hg : ¬ (50000 < (pre.map Pp.lit).length + (List.range pre.length).length + pre.length) := by simp; omega
    have hp : ¬ (s.length ≤ pre.length) := by omega
    have hc : s[pre.length]? = some c := by rw [he]; simp
    have hn := next_letter (s := s) (r := rL pre.length) rfl hc (hs c (by rw [he]; simp))
    rw [branchL_lit hg hp hn]
    have ih := letters_branch hs hl l (pre ++ [c]) extra true (by rw [he]; simp)
    refine Eq.trans ?_ ih
    simp only [Pp.addN, Pp.nodeP, rL, List.length_map, List.length_append, List.length_singleton, List.map_append, List.map_cons, List.map_nil, List.range_succ]
def ptL (s : List UInt8) : Pp.Pt := ⟨(Pp.rowP 5 (List.range s.length) (rL s.length, s.map Pp.lit)).2.2, (Pp.rowP 5 (List.range s.length) (rL s.length, s.map Pp.lit)).1, 0, 0⟩
theorem rowP_pos (op : Int) (ks : List Nat) (r : Pp.R) : (Pp.rowP op ks r).2.1 = r.1 := by
  unfold Pp.rowP
  split <;> rfl
theorem rowP_len (op : Int) (ks : List Nat) (r : Pp.R) : (Pp.rowP op ks r).2.2.length ≤ r.2.length + 1 := by
  unfold Pp.rowP Pp.nodeP
  split <;> simp
theorem letters_eval {s : List UInt8} (hs : ∀ c ∈ s, letter c) (hl : s.length ≤ 300) : evalP noS s = some (ptL s) := by
  unfold evalP
  have h1 := letters_branch hs (by omega) s [] 0 false rfl
  rw [show r0P = rL 0 from rfl]
  rw [show s.length + 1 + 0 = s.length + 1 from rfl] at h1
  rw [show (⟨(rL 0, []), [], false⟩ : Pp.Br) = ⟨(rL ([] : List UInt8).length, ([] : List UInt8).map Pp.lit), List.range ([] : List UInt8).length, false⟩ from rfl, h1]
  obtain ⟨q, hq⟩ : ∃ q, Pp.rowP 5 (List.range s.length) (rL s.length, s.map Pp.lit) = q := ⟨_, rfl⟩
  have hpos : q.2.1 = rL s.length := by rw [← hq]; exact rowP_pos _ _ _
  have hlen : q.2.2.length ≤ s.length + 1 := by
    rw [← hq]
    have := rowP_len 5 (List.range s.length) (rL s.length, s.map Pp.lit)
    simpa using this
  unfold ptL
  rw [hq]
  obtain ⟨k1, r1, n1⟩ := q
  simp only at hpos hlen
  subst hpos
  simp only
  rw [branchesL_stop (r := (rL s.length, n1)) (Nat.le_refl s.length)]
  simp only [Pp.rowP]
  exact (if_pos (show n1.length ≤ 400 by omega)).trans rfl
/-- a letter's instruction -/
def byI (c : UInt8) : Pp.In := { Pp.in0 with op := 1, c := c.toNat }
def catN (n : Nat) : Pp.Nd := { Pp.nd0 with op := 5, kids := List.range n }
/-- many letters: their nodes, a row behind them -/
def nkL (s : List UInt8) : List Pp.Nk := s.map (fun c => (Pp.lit c, [])) ++ [(catN s.length, (List.range s.length).map Int.ofNat)]
theorem nkL_len (s : List UInt8) : (nkL s).length = s.length + 1 := by simp [nkL]
theorem nkL_at {s : List UInt8} {i : Nat} {c : UInt8} (h : s[i]? = some c) : Pp.nodeAt (nkL s) (Int.ofNat i) = some (Pp.lit c, []) := by
  have hi := (List.getElem?_eq_some_iff.1 h).1
  unfold Pp.nodeAt nkL
  rw [if_neg (by simp), show (Int.ofNat i).toNat = i from rfl, List.getElem?_append_left (by simpa using hi), List.getElem?_map, h]
  rfl
theorem nkL_root (s : List UInt8) : Pp.nodeAt (nkL s) (s.length : Int) = some (catN s.length, (List.range s.length).map Int.ofNat) := by
  unfold Pp.nodeAt nkL
  rw [if_neg (by omega), Int.toNat_natCast, List.getElem?_append_right (by simp)]
  simp
theorem letters_cat {s : List UInt8} (hl : s.length ≤ 1000) (f : Nat) : ∀ (l pre : List UInt8), s = pre ++ l → Pp.catC (Pp.nodeC (nkL s) (f + 1)) ((List.range' pre.length l.length).map Int.ofNat) (pre.map byI, 0) = .ok (s.map byI, 0)
  | [], pre, he => by
    rw [List.append_nil] at he
    subst he
    rfl
  | c :: l, pre, he => by
    have hc : s[pre.length]? = some c := by rw [he]; simp
    have hlen : s.length = pre.length + (l.length + 1) := by rw [he]; simp
    have hn : Pp.nodeC (nkL s) (f + 1) (Int.ofNat pre.length) (pre.map byI, 0) = .ok ((pre ++ [c]).map byI, 0) := by
      unfold Pp.nodeC
      rw [nkL_at hc]
      have hop : (Pp.lit c).op = 2 := rfl
      simp only [hop, show ¬ ((2 : Int) = 1) by decide, show ¬ ((2 : Int) = 5) by decide, show ¬ ((2 : Int) = 6) by decide, show ¬ ((2 : Int) = 7) by decide, show ¬ ((2 : Int) = 8) by decide, if_false]
      unfold Pp.layP
      rw [if_neg (by simp; omega)]
      simp only [List.map_append]
      rfl
    have ih := letters_cat hl f l (pre ++ [c]) (by rw [he]; simp)
    rw [List.length_cons, List.range'_succ, List.map_cons]
    unfold Pp.catC
    rw [hn]
    simp only
    rw [List.length_append, List.length_singleton] at ih
    exact ih
theorem letters_sound {s : List UInt8} (f : Nat) : ∀ (l pre : List UInt8) (sn : List Bool), s = pre ++ l → (∀ j, pre.length ≤ j → j < s.length → sn.getD j true = false) → ∃ sn', Pp.soundAll (Pp.soundP (nkL s) 0 (f + 1)) ((List.range' pre.length l.length).map Int.ofNat) sn = some (true, sn')
  | [], pre, sn, he, hj => ⟨sn, rfl⟩
  | c :: l, pre, sn, he, hj => by
    have hc : s[pre.length]? = some c := by rw [he]; simp
    have hlen : s.length = pre.length + (l.length + 1) := by rw [he]; simp
    have hn : Pp.soundP (nkL s) 0 (f + 1) (Int.ofNat pre.length) sn = some (true, sn.set pre.length true) := by
      unfold Pp.soundP
      rw [nkL_at hc]
      simp only [show (Int.ofNat pre.length).toNat = pre.length from rfl, hj pre.length (Nat.le_refl _) (by omega), Bool.false_eq_true, if_false]
      rfl
    obtain ⟨sn', ih⟩ := letters_sound (s := s) f l (pre ++ [c]) (sn.set pre.length true) (by rw [he]; simp) (fun j h1 h2 => by
      rw [List.length_append, List.length_singleton] at h1
      have h3 := hj j (by omega) h2
      rw [List.getD_eq_getElem?_getD] at h3 ⊢
      rw [List.getElem?_set_ne (by omega)]
      exact h3)
    rw [List.length_cons, List.range'_succ, List.map_cons]
    unfold Pp.soundAll
    rw [hn]
    simp only
    rw [List.length_append, List.length_singleton] at ih
    exact ⟨sn', ih⟩
theorem ptL_many {c d : UInt8} {t : List UInt8} : ptL (c :: d :: t) = ⟨(c :: d :: t).map Pp.lit ++ [catN (c :: d :: t).length], (c :: d :: t).length, 0, 0⟩ := by
  have h1 : List.range (c :: d :: t).length = 0 :: 1 :: List.range' 2 t.length := by
    rw [List.range_eq_range', List.length_cons, List.length_cons, List.range'_succ, List.range'_succ]
  unfold ptL
  rw [h1]
  simp only [Pp.rowP, Pp.nodeP]
  rw [← h1]
  simp [catN]
theorem nk_many {c d : UInt8} {t : List UInt8} : (ptL (c :: d :: t)).nk = nkL (c :: d :: t) := by
  rw [ptL_many]
  unfold Pp.Pt.nk nkL
  simp only [List.map_append, List.map_map, List.map_cons, List.map_nil]
  rfl
/-- the program of letters -/
def cdL (s : List UInt8) : List Pp.In := s.map byI ++ [{ Pp.in0 with op := 14 }]
theorem letters_all (s : List UInt8) (hl : s.length ≤ 1000) : Pp.soundR (ptL s).nk (ptL s).root 0 = some true ∧ Pp.compP (ptL s).nk (ptL s).root = .ok (cdL s, 0) ∧ NoCat (ptL s).nk ∧ (ptL s).nk.length ≤ 1001 := by
  match s with
  | [] => exact ⟨by kernel_rfl, by kernel_rfl, noCat_of (by kernel_rfl), by decide⟩
  | [c] =>
    refine ⟨?_, ?_, ?_, ?_⟩
    · rfl
    · rfl
    · intro x hx h7
      obtain rfl : x = (Pp.lit c, []) := by simpa [ptL, Pp.rowP, Pp.Pt.nk, Pp.lit, Pp.nd0] using hx
      exact absurd (show (2 : Int) = 7 from h7) (by decide)
    · exact Nat.le_trans (show 1 ≤ 1001 by omega) (Nat.le_refl _)
  | c :: d :: t =>
    rw [nk_many]
    have hroot : (ptL (c :: d :: t)).root = (c :: d :: t).length := by rw [ptL_many]
    rw [hroot]
    obtain ⟨s, hs⟩ : ∃ s, c :: d :: t = s := ⟨_, rfl⟩
    have h2 : 1 < s.length := by rw [← hs]; simp
    rw [hs] at hl ⊢
    refine ⟨?_, ?_, ?_, by rw [nkL_len]; omega⟩
    · unfold Pp.soundR
      rw [if_neg (by decide)]
      rw [show (nkL s).length + 1 = s.length + 1 + 1 by rw [nkL_len]]
      unfold Pp.soundP
      rw [nkL_root]
      have hg : (List.replicate (nkL s).length false).getD s.length true = false := by
        rw [nkL_len]
        simp
      have hk : Pp.kidsP (catN s.length) ((List.range s.length).map Int.ofNat) = true := by
        unfold Pp.kidsP catN
        simp [h2]
      have hf : Pp.fineP 0 (catN s.length) = true := rfl
      simp only [Int.toNat_natCast, hg, Bool.false_eq_true, if_false, hk, hf, Bool.and_self, Bool.true_eq_false]
      obtain ⟨sn', h9⟩ := letters_sound (s := s) s.length s [] ((List.replicate (nkL s).length false).set s.length true) rfl (fun j h3 h4 => by
        rw [nkL_len, List.getD_eq_getElem?_getD, List.getElem?_set_ne (by omega)]
        have : (List.replicate (s.length + 1) false)[j]? = some false := by
          rw [List.getElem?_replicate, if_pos (by omega)]
        rw [this]
        rfl)
      rw [List.length_nil, ← List.range_eq_range'] at h9
      rw [h9]
      rfl
    · unfold Pp.compP
      rw [show (nkL s).length + 1 = s.length + 1 + 1 by rw [nkL_len]]
      have hc : Pp.nodeC (nkL s) (s.length + 1 + 1) (s.length : Int) ([], 0) = .ok (s.map byI, 0) := by
        unfold Pp.nodeC
        rw [nkL_root]
        have h9 := letters_cat hl s.length s [] rfl
        rw [List.length_nil, ← List.range_eq_range'] at h9
        have hop : (catN s.length).op = 5 := rfl
        simp only [hop, show ¬ ((5 : Int) = 1) by decide, if_false, if_true]
        exact h9
      rw [hc]
      simp only
      unfold Pp.layP
      rw [if_neg (by simp; omega)]
      rfl
    · intro x hx h7
      unfold nkL at hx
      rcases List.mem_append.1 hx with hx | hx
      · obtain ⟨c, _, rfl⟩ := List.mem_map.1 hx
        exact absurd (show (2 : Int) = 7 from h7) (by decide)
      · obtain rfl : x = _ := List.mem_singleton.1 hx
        exact absurd h7 (by simp [catN])
end Go.Proofs.Ytjdlbejmdjcajaa
