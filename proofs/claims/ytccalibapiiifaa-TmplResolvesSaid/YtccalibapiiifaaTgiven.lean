/- tmpl.Parse and tmpl.Resolve: what they answer, in the printer's form. -/
import Derived.Test.YtccalibapiiifaaTesc
import Derived.Test.YtccalibapiiifaaTres
import Derived.StillTailTactics
import Derived.Deep.RegionLaw
namespace Go.Proofs.Ytccalibapiiifaa.T
open Go.RowKit Go.Proofs.YtccalibapiiifaaW.PrintWords Go.Proofs.YtccalibapiiifaaW.PrintLast Go.Proofs.YtccalibapiiifaaW.PrintMore

/-- a replacement's pieces: what is left, and a text that is not done -/
def prs : List UInt8 → List Int → List S42
  | [], tx => flush tx
  | c :: r, tx =>
    if c = 38 then flush tx ++ ⟨2, emp, 0, 0⟩ :: prs r []
    else if c = 92 then (match r with
      | [] => flush (tx ++ [92])
      | d :: r' => match escP d.toNat with
        | some p => flush tx ++ p :: prs r' []
        | none => prs r' (tx ++ [meantP d.toNat]))
    else prs r (tx ++ [(c.toNat : Int)])

theorem LayS.later {B To Tt : Nat} {w0 w w1 : World} {vo vt : Value} {xs : List S42} {tx : List Int} (h : LayS B To Tt w0 w vo vt xs tx) (hb : Below w.heap.size w w1) : LayS B To Tt w0 w1 vo vt xs tx :=
  ⟨below_then h.below h.hB hb, h.bo, h.bt, (hb.block _ (blk_lt h.co)).trans h.co, (hb.block _ (blk_lt h.ct)).trans h.ct, Kd.R_below h.ro hb, Kd.R_below h.rt hb⟩

theorem lay_all {B To Tt : Nat} {w0 w : World} {vo vt : Value} {xs : List S42} {tx : List Int} (h : LayS B To Tt w0 w vo vt xs tx) (A : Option Addr) (c n : Nat) (ys : List S42)
    (hm : More w vo A ys) (hn : n = ys.length) (hlen : xs.length + 2 ≤ 1000000000) :
    Calls Try.prog 38 #[.slice A n c, .pointer (some ⟨Tt, 0, none⟩), .pointer (some ⟨To, 0, none⟩)] w fun e w' => e = .returned (.tuple #[]) ∧ ∃ vo' vt', LayS B To Tt w0 w' vo' vt' (xs ++ flush tx ++ ys) [] := by
  subst hn
  by_cases h0 : tx.length = 0
  · obtain rfl := List.eq_nil_of_length_eq_zero h0
    refine (lay_none h A c ys hm hlen).mono ?_
    rintro e w' ⟨rfl, vo', h'⟩
    exact ⟨rfl, vo', vt, by simpa [flush] using h'⟩
  · refine (lay_some h (by omega) (st := strOfNums tx) (show Hid (strOfNums tx = strOfNums tx) from rfl) A c ys hm hlen).mono ?_
    rintro e w' ⟨rfl, vo', vt', h'⟩
    exact ⟨rfl, vo', vt', by simpa [flush, h0] using h'⟩

theorem More.one {B To Tt : Nat} {w0 w : World} {vo vt : Value} {xs : List S42} {tx : List Int} (h : LayS B To Tt w0 w vo vt xs tx) (p : S42) : More (w.alloc (.cells (tm p).toArray 42)) vo (some ⟨w.heap.size, 0, none⟩) [p] :=
  .inr ⟨w.heap.size, p, rfl, rfl, heap_alloc_new w _, fun e => by have := Kd.R_lt h.ro _ e.symm; omega⟩

theorem info5u : (Try.prog.info? 5).map (fun i => (i.zero, i.size, i.bytes)) = some (some (.int .u8 0), 1, 1) := by kernel_rfl

/-- append(text, c), as a step of a region that draws -/
theorem step_text {ops : Array Oper} {o : Oper} {a : Act} {K : Act → World → Prop} {Q : Exit → Act → World → Prop} {B To Tt : Nat} {w0 w : World} {vo vt : Value} {xs : List S42} {tx : List Int} (h : LayS B To Tt w0 w vo vt xs tx) (c : Int)
    (hw : Region.wanted o (yielded ops a.tmps) = true) (s x : Operand) (ho : o.op = .call { callee := .builtin .append, args := #[s, x], argTypes := #[40, 40] }) (hs : a.eval s = vt) (m : Nat) (hx : a.eval x = .slice (some ⟨m, 0, none⟩) 1 1) (hm : m = w.heap.size)
    (hl : tx.length ≤ 1000000000)
    (hK : ∀ A n k w1, Hid (LayS B To Tt w0 (w1.setCell ⟨Tt, 0, none⟩ (.slice A n k)) vo (.slice A n k) xs (tx ++ [c])) → w1.cell? ⟨Tt, 0, none⟩ = some vt → w1.frozen? ⟨Tt, 0, none⟩ = false → K (a.put o.dst (.slice A n k)) w1) :
    if Region.wanted o (yielded ops a.tmps) = true then Oper.wp Try.prog o a (w.alloc (.cells #[.int .u8 c] 5)).drew K Q else K (a.put o.dst undef) (w.alloc (.cells #[.int .u8 c] 5)).drew := by
  subst hm
  have hd : Below w.heap.size w w.drew := below_drew (Below.refl _ _)
  have h' := h.later hd
  refine Kd.R_append_step (Kd.int .u8) (w0 := w0) (W := w.drew) B hw s x 40 5 (.int .u8 0) 1 ho Try.underlying40 info5u rfl (by decide) (by decide) vt tx c [.int .u8 c] (fun _ => True) (fun _ => False) hs hx rfl (fun _ hk => hk.elim) (fun _ _ => trivial) h'.rt h'.below h'.hB (by omega) ?_
  intro v1 w1 hr hb hg _
  obtain ⟨A, k, rfl, _, _⟩ := Kd.R_reads hr
  have h2 := blk_grown h'.ct hg (Kd.R_ne h'.rt h'.ct (by decide))
  exact hK _ _ _ _ (h'.text hr hb hg) (by rw [blk_cell h2]; rfl) (blk_frozen h2 0)

theorem flush_le (tx : List Int) : (flush tx).length ≤ 1 := by unfold flush; split <;> simp

theorem start_lay (w : World) : LayS w.heap.size w.heap.size (w.heap.size + 1) w ((w.alloc (.cells #[.slice none 0 0] 38)).alloc (.cells #[.slice none 0 0] 40)) (.slice none 0 0) (.slice none 0 0) [] [] :=
  ⟨((Below.refl _ _).alloc (Nat.le_refl _) _).alloc (by simp) _, Nat.le_refl _, Nat.le_succ _, (Below.heap_alloc _ _ _ (by simp)).trans (heap_alloc_new w _), by
    have := heap_alloc_new (w.alloc (.cells #[.slice none 0 0] 38)) (.cells #[.slice none 0 0] 40)
    simpa using this, Kd.R_nil _ _ _ _ _, Kd.R_nil _ _ _ _ _⟩

theorem prs_amp {c : UInt8} {r : List UInt8} {tx : List Int} (h : c.toNat = 38) : prs (c :: r) tx = flush tx ++ [⟨2, emp, 0, 0⟩] ++ prs r [] := by
  have : c = 38 := UInt8.toNat_inj.1 h
  subst this
  rw [prs.eq_def]
  simp

theorem prs_plain {c : UInt8} {r : List UInt8} {tx : List Int} (h : c.toNat ≠ 38) (h' : c.toNat ≠ 92 ∨ r = []) : prs (c :: r) tx = prs r (tx ++ [(c.toNat : Int)]) := by
  have h1 : c ≠ 38 := fun e => h (by rw [e]; rfl)
  rw [prs.eq_def]
  by_cases h2 : c = 92
  · subst h2
    rcases h' with h' | rfl
    · exact absurd rfl h'
    · simp [prs]
  · simp [h1, h2]

theorem prs_some {c d : UInt8} {r : List UInt8} {tx : List Int} {p : S42} (h : c.toNat = 92) (hp : escP d.toNat = some p) : prs (c :: d :: r) tx = flush tx ++ [p] ++ prs r [] := by
  have : c = 92 := UInt8.toNat_inj.1 h
  subst this
  rw [prs.eq_def]
  simp [hp]

theorem prs_none {c d : UInt8} {r : List UInt8} {tx : List Int} (h : c.toNat = 92) (hp : escP d.toNat = none) : prs (c :: d :: r) tx = prs r (tx ++ [meantP d.toNat]) := by
  have : c = 92 := UInt8.toNat_inj.1 h
  subst this
  rw [prs.eq_def]
  simp [hp]

theorem escaped_some (c : Int) (p : S42) (h0 : 0 ≤ c) (h1 : c ≤ 255) (hp : escP c = some p) (w : World) :
    Calls Try.prog 39 #[.int .u8 c] w fun e w' => e = .returned (.tuple #[.agg #[.int .u8 p.f0, .string p.f1, .int .i64 p.f2, .int .u8 p.f3], .bool true]) ∧ Below w.heap.size w w' := by
  refine (escaped_any c h0 h1 w).mono ?_
  rintro e w' ⟨hb, h⟩
  rw [hp] at h
  exact ⟨h, hb⟩

theorem escaped_none (c : Int) (h0 : 0 ≤ c) (h1 : c ≤ 255) (hp : escP c = none) (w : World) :
    Calls Try.prog 39 #[.int .u8 c] w fun e w' => e = .returned (.tuple #[.agg #[.int .u8 0, .string ⟨#[]⟩, .int .i64 0, .int .u8 0], .bool false]) ∧ Below w.heap.size w w' := by
  refine (escaped_any c h0 h1 w).mono ?_
  rintro e w' ⟨hb, h⟩
  rw [hp] at h
  exact ⟨h, hb⟩

theorem two_lay {B To Tt : Nat} {w0 w w1 : World} {vo vt : Value} {xs : List S42} {tx : List Int} (h : LayS B To Tt w0 w vo vt xs tx) (hb : Below w.heap.size w w1) (p : S42) :
    LayS B To Tt w0 ((w1.alloc (.cells #[.int .u8 p.f0, .string p.f1, .int .i64 p.f2, .int .u8 p.f3] 42)).alloc (.cells #[.int .u8 p.f0, .string p.f1, .int .i64 p.f2, .int .u8 p.f3] 42)) vo vt xs tx ∧
      More ((w1.alloc (.cells #[.int .u8 p.f0, .string p.f1, .int .i64 p.f2, .int .u8 p.f3] 42)).alloc (.cells #[.int .u8 p.f0, .string p.f1, .int .i64 p.f2, .int .u8 p.f3] 42)) vo (some ⟨w1.heap.size + 1, 0, none⟩) [p] := by
  refine ⟨h.later (below_alloc (below_alloc hb _) _), ?_⟩
  have := More.one (h.later (below_alloc hb (.cells #[.int .u8 p.f0, .string p.f1, .int .i64 p.f2, .int .u8 p.f3] 42))) p
  simpa [tm] using this

def ParRel (B : Nat) (s : ByteArray) (w : World) (i : Value) (wr : World) : Prop :=
  ∃ (k : Nat) (acc : List S42) (tx : List Int) (vo vt : Value), k ≤ s.size ∧ i = .int .i64 k ∧ LayS B B (B + 1) w wr vo vt acc tx ∧ prs s.data.toList [] = acc ++ prs (s.data.toList.drop k) tx ∧ acc.length ≤ 2 * k ∧ tx.length ≤ k

set_option maxRecDepth 100000 in
set_option maxHeartbeats 1000000 in
theorem parse_any (s : ByteArray) (w : World) (hs : s.size ≤ 1000000) :
    Calls Try.prog 21 #[.string s] w fun e w' => ∃ v : Value, e = .returned v ∧ Kd.R k42 42 w' w.heap.size (fun _ => True) v (prs s.data.toList []) ∧ Below w.heap.size w w' := by
  go_enter Try.func21, Try.ntmps21
  go_wp2
  go_loopw [6] (fun i wr => ParRel w.heap.size s w i wr) (fun i _ => s.size - (intOf i).toNat)
  case atStart => exact ⟨0, [], [], _, _, Nat.zero_le _, rfl, start_lay w, by simp, by simp, by simp⟩
  case round =>
    obtain ⟨k, acc, tx, vo, vt, hk, rfl, hI, heq, hl1, hl2⟩ := hrel
    have HI := Lib.hid hI
    have HE := Lib.hid heq
    have HL1 := Lib.hid hl1
    have HL2 := Lib.hid hl2
    clear hI heq hl1 hl2
    obtain ⟨c1, c2, f1, f2⟩ := HI.out.cells
    have hz : w.heap.size + 1 < wr.heap.size := blk_lt HI.out.ct
    have hL2 : Hid (tx.length ≤ 1000000000) := Nat.le_trans HL2.out (by omega)
    have hL1 : Hid (acc.length + 2 ≤ 1000000000) := Nat.le_trans (Nat.add_le_add_right HL1.out 2) (by omega)
    by_cases hlt : k < s.size
    · have hx : s.data.toList.drop k = s[k] :: s.data.toList.drop (k + 1) := drop_at s k hlt
      have HX := Lib.hid hx
      clear hx
      by_cases h38 : s[k].toNat = 38
      · have d1 : ((s[k].toNat : Int) == 38) = true := by simp [h38]
        have H38 := Lib.hid h38
        have L1 : Hid (LayS w.heap.size w.heap.size (w.heap.size + 1) w (wr.alloc (.cells #[.int .u8 2, .string ⟨#[]⟩, .int .i64 0, .int .u8 0] 42)) vo vt acc tx) := HI.out.later (below_alloc (Below.refl _ _) _)
        have M1 : Hid (More (wr.alloc (.cells #[.int .u8 2, .string ⟨#[]⟩, .int .i64 0, .int .u8 0] 42)) vo (some ⟨wr.heap.size, 0, none⟩) [⟨2, emp, 0, 0⟩]) := More.one HI.out ⟨2, emp, 0, 0⟩
        clear h38
        go_wp2_with (first
          | (go_at_call 38; (with_reducible refine (lay_all L1.out (some ⟨wr.heap.size, 0, none⟩) 1 1 [⟨2, emp, 0, 0⟩] M1.out rfl hL1.out).mono ?_); rintro e w1 ⟨rfl, vo1, vt1, h1⟩; have H1 := Lib.hid h1; clear h1)
          | go_in)
        go_roundw
        case rel => exact ⟨k + 1, _, _, _, _, by omega, by go_num, H1.out, by rw [HE.out, HX.out, prs_amp H38.out]; simp, by have := HL1.out; have := flush_le tx; simp; omega, by simp⟩
        case measure => simp [intOf]; omega
      · have d1 : ((s[k].toNat : Int) == 38) = false := by simp; omega
        have H38 := Lib.hid h38
        clear h38
        by_cases h92 : s[k].toNat = 92 ∧ k + 1 < s.size
        · obtain ⟨h1, h2⟩ := h92
          have d2 : ((s[k].toNat : Int) == 92) = true := by simp [h1]
          have hx1 : s.data.toList.drop (k + 1) = s[k + 1] :: s.data.toList.drop (k + 2) := drop_at s (k + 1) h2
          have HX1 := Lib.hid hx1
          have H92 := Lib.hid h1
          clear hx1 h1
          have hb8 : (s[k + 1].toNat : Int) ≤ 255 := by have := s[k + 1].toNat_lt; omega
          rcases hes : escP s[k + 1].toNat with _ | p
          · have HES := Lib.hid hes
            clear hes
            go_wp2_with (first
              | (go_at_call 39; (with_reducible refine (escaped_none _ (by omega) hb8 HES.out _).mono ?_); rintro e w1 ⟨rfl, hb⟩; have hz1 : w.heap.size + 1 < w1.heap.size := Nat.lt_of_lt_of_le hz hb.size; have L1 : Hid (LayS w.heap.size w.heap.size (w.heap.size + 1) w (w1.alloc (.cells #[.int .u8 0, .string ⟨#[]⟩, .int .i64 0, .int .u8 0] 42)) vo vt acc tx) := HI.out.later (below_alloc hb _); obtain ⟨g1, g2, g3, g4⟩ := (HI.out.later hb).cells; clear hb)
              | go_in)
            generalize w1.alloc (.cells #[.int .u8 0, .string ⟨#[]⟩, .int .i64 0, .int .u8 0] 42) = wA at L1 ⊢
            obtain ⟨q1, q2, q3, q4⟩ := L1.out.cells
            have hzA : w.heap.size + 1 < wA.heap.size := blk_lt L1.out.ct
            clear g1 g2 g3 g4
            go_region_law (first | (refine step_text L1.out _ rfl (.tmp 57) (.tmp 62) rfl rfl _ rfl rfl hL2.out ?_; intro A2 n2 k2 w2 hq e1 e2) | (go_simp; go_at_call 40; refine (meant_any _ _).mono ?_; rintro e w3 ⟨rfl, rfl⟩))
            all_goals
              go_wp2
              go_roundw
              case rel => exact ⟨k + 2, _, _, _, _, by omega, by go_num, hq.out, by rw [HE.out, HX.out, HX1.out, prs_none H92.out HES.out], by have := HL1.out; omega, by have := HL2.out; simp; omega⟩
              case measure => simp [intOf]; omega
          · have HES := Lib.hid hes
            clear hes
            go_wp2_with (first
              | (go_at_call 39; (with_reducible refine (escaped_some _ p (by omega) hb8 HES.out _).mono ?_); rintro e w1 ⟨rfl, hb⟩; have hz1 : w.heap.size + 1 < w1.heap.size := Nat.lt_of_lt_of_le hz hb.size; have L1 := Lib.hid (two_lay HI.out hb p); clear hb)
              | (go_at_call 38; (with_reducible refine (lay_all L1.out.1 (some ⟨w1.heap.size + 1, 0, none⟩) 1 1 [p] L1.out.2 rfl hL1.out).mono ?_); rintro e w2 ⟨rfl, vo1, vt1, h1⟩; have H1 := Lib.hid h1; clear h1)
              | go_in)
            go_roundw
            case rel => exact ⟨k + 2, _, _, _, _, by omega, by go_num, H1.out, by rw [HE.out, HX.out, HX1.out, prs_some H92.out HES.out]; simp, by have := HL1.out; have := flush_le tx; simp; omega, by simp⟩
            case measure => simp [intOf]; omega
        · have hdec : ((s[k].toNat : Int) == 92) = false ∨ (((s[k].toNat : Int) == 92) = true ∧ ¬ k + 1 < s.size) := by
            by_cases h : s[k].toNat = 92
            · exact .inr ⟨by simp [h], by omega⟩
            · exact .inl (by simp; omega)
          have H92 : Hid (s[k].toNat ≠ 92 ∨ s.data.toList.drop (k + 1) = []) := by
            by_cases h : s[k].toNat = 92
            · exact .inr (List.drop_eq_nil_of_le (by simp; omega))
            · exact .inl h
          clear h92
          rcases hdec with d2 | ⟨d2, d3⟩
          all_goals
            go_wp2
            go_region_law (first | (refine step_text HI.out _ rfl (.tmp 16) (.tmp 20) rfl rfl _ rfl rfl hL2.out ?_; intro A2 n2 k2 w1 hq e1 e2))
            all_goals
              go_wp2
              go_roundw
              case rel => exact ⟨k + 1, _, _, _, _, by omega, by go_num, hq.out, by rw [HE.out, HX.out, prs_plain H38.out H92.out], by have := HL1.out; omega, by have := HL2.out; simp; omega⟩
              case measure => simp [intOf]; omega
    · have M0 : Hid (More wr vo none []) := .inl ⟨rfl, rfl⟩
      have hks : Hid (k = s.size) := by show k = s.size; omega
      go_wp2_with (first
        | (go_at_call 38; (with_reducible refine (lay_all HI.out none 0 0 [] M0.out rfl hL1.out).mono ?_); rintro e w1 ⟨rfl, vo1, vt1, h1⟩; have H1 := Lib.hid h1; obtain ⟨g1, g2, g3, g4⟩ := h1.cells; obtain ⟨A2, k2, rfl, _, _⟩ := Kd.R_reads h1.ro; clear h1)
        | go_in)
      go_ret
      have he := HE.out
      have hd : s.data.toList.drop s.size = [] := List.drop_eq_nil_of_le (by simp)
      rw [hks.out, hd] at he
      refine ⟨_, rfl, ?_, H1.out.below⟩
      rw [he]
      simpa [prs] using H1.out.ro

/-! the printer's form -/
def tmpl_Parse.f (a0 : ByteArray) : Option (List S42) := if a0.size ≤ 1000000 then some (prs a0.data.toList []) else none
def tmpl_Resolve.f (a0 a1 : ByteArray) : Option ByteArray := if a0.size ≤ 1000000 ∧ a1.size ≤ 1000000 then some ⟨(rsv a1.data.toList a0.data.toList).toArray⟩ else none

theorem tmpl_Parse.calls (a0 : ByteArray) (r : List S42) (w : World) (h : tmpl_Parse.f a0 = some r) :
    Calls Try.prog 21 #[.string a0] w fun e w' => ∃ v0_ : Value, e = .returned (v0_) ∧ Kd.R k42 42 w' w.heap.size (fun _ => True) v0_ r ∧ Below w.heap.size w w' := by
  unfold tmpl_Parse.f at h
  split at h
  · rename_i hs
    injection h with h
    subst h
    exact parse_any a0 w hs
  · cases h

theorem tmpl_Resolve.calls (a0 a1 : ByteArray) (r : ByteArray) (w : World) (h : tmpl_Resolve.f a0 a1 = some r) :
    Calls Try.prog 24 #[.string a0, .string a1] w fun e w' => e = .returned (.string r) ∧ Below w.heap.size w w' := by
  unfold tmpl_Resolve.f at h
  split at h
  · rename_i hs
    injection h with h
    subst h
    exact resolve_any a0 a1 w hs.1 hs.2
  · cases h

end Go.Proofs.Ytccalibapiiifaa.T
