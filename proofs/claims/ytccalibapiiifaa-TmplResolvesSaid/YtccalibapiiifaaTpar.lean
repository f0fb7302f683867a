/- tmpl.Parse: the closure that lays a piece. -/
import Derived.Test.YtccalibapiiifaaT0
import Derived.Test.YtccalibapiiifaaBld
import Derived.Lib.Hide
namespace Go.Proofs.Ytccalibapiiifaa.T
open Go.RowKit Go.Proofs.YtccalibapiiifaaW.PrintWords Go.Proofs.YtccalibapiiifaaW.PrintLast Go.Proofs.YtccalibapiiifaaW.PrintMore

/-- the two variables that the closure holds: pieces that are done, in block To; text that is not, in block Tt -/
structure LayS (B To Tt : Nat) (w0 w : World) (vo vt : Value) (xs : List S42) (tx : List Int) : Prop where
  below : Below B w0 w
  bo : B ≤ To
  bt : B ≤ Tt
  co : w.heap[To]? = some (.cells #[vo] 38 (0, 0))
  ct : w.heap[Tt]? = some (.cells #[vt] 40 (0, 0))
  ro : Kd.R k42 42 w B (fun _ => True) vo xs
  rt : Kd.R (Kd.int .u8) 5 w B (fun _ => True) vt tx

/-- a text that is not done, as pieces -/
def flush (tx : List Int) : List S42 := if tx.length = 0 then [] else [⟨1, strOfNums tx, 0, 0⟩]

theorem LayS.hB {B To Tt : Nat} {w0 w : World} {vo vt : Value} {xs : List S42} {tx : List Int} (h : LayS B To Tt w0 w vo vt xs tx) : B ≤ w.heap.size := by
  have := blk_lt h.co
  have := h.bo
  omega

/-- behind an append to out -/
theorem LayS.out {B To Tt : Nat} {w0 w w1 : World} {vo v1 vt : Value} {xs ys : List S42} {tx : List Int} (h : LayS B To Tt w0 w vo vt xs tx) (hr : Kd.R k42 42 w1 B (fun _ => True) v1 ys) (hb : Below B w0 w1)
    (hg : w.grownBy w1 vo.ownBlock) : LayS B To Tt w0 (w1.setCell ⟨To, 0, none⟩ v1) v1 vt ys tx := by
  have h1 : w1.heap[To]? = some (.cells #[vo] 38 (0, 0)) := blk_grown h.co hg (Kd.R_ne h.ro h.co (by decide))
  have h2 : w1.heap[Tt]? = some (.cells #[vt] 40 (0, 0)) := blk_grown h.ct hg (Kd.R_ne h.ro h.ct (by decide))
  have hne : To ≠ Tt := blk_ne h.co h.ct (by decide)
  have hrt : Kd.R (Kd.int .u8) 5 w1 B (fun _ => True) vt tx := Kd.R_over h.rt h.ro (by intro q hq; simp [Kd.int, Kd.scalar] at hq; subst hq; decide) hg
  refine ⟨hb.setCell (p := ⟨To, 0, none⟩) h.bo _, h.bo, h.bt, by rw [blk_set h1 0 v1]; rfl, blk_far h2 (Ne.symm hne) _, Kd.R_set hr h1 (by intro q hq; simp [k42, Kd.iso, Kd.pair, Kd.int, Kd.scalar, Kd.string] at hq; subst hq; decide) 0 v1, Kd.R_set hrt h1 (by intro q hq; simp [Kd.int, Kd.scalar] at hq; subst hq; decide) 0 v1⟩

/-- behind an append to text -/
theorem LayS.text {B To Tt : Nat} {w0 w w1 : World} {vo v1 vt : Value} {xs : List S42} {tx ty : List Int} (h : LayS B To Tt w0 w vo vt xs tx) (hr : Kd.R (Kd.int .u8) 5 w1 B (fun _ => True) v1 ty) (hb : Below B w0 w1)
    (hg : w.grownBy w1 vt.ownBlock) : LayS B To Tt w0 (w1.setCell ⟨Tt, 0, none⟩ v1) vo v1 xs ty := by
  have h1 : w1.heap[To]? = some (.cells #[vo] 38 (0, 0)) := blk_grown h.co hg (Kd.R_ne h.rt h.co (by decide))
  have h2 : w1.heap[Tt]? = some (.cells #[vt] 40 (0, 0)) := blk_grown h.ct hg (Kd.R_ne h.rt h.ct (by decide))
  have hne : To ≠ Tt := blk_ne h.co h.ct (by decide)
  have hro : Kd.R k42 42 w1 B (fun _ => True) vo xs := Kd.R_over h.ro h.rt (by intro q hq; simp [k42, Kd.iso, Kd.pair, Kd.int, Kd.scalar, Kd.string] at hq; subst hq; decide) hg
  refine ⟨hb.setCell (p := ⟨Tt, 0, none⟩) h.bt _, h.bo, h.bt, blk_far h1 hne _, by rw [blk_set h2 0 v1]; rfl, Kd.R_set hro h2 (by intro q hq; simp [k42, Kd.iso, Kd.pair, Kd.int, Kd.scalar, Kd.string] at hq; subst hq; decide) 0 v1, Kd.R_set hr h2 (by intro q hq; simp [Kd.int, Kd.scalar] at hq; subst hq; decide) 0 v1⟩

/-- text = nil -/
theorem LayS.nil {B To Tt : Nat} {w0 w : World} {vo vt : Value} {xs : List S42} {tx : List Int} (h : LayS B To Tt w0 w vo vt xs tx) :
    LayS B To Tt w0 (w.setCell ⟨Tt, 0, none⟩ (.slice none 0 0)) vo (.slice none 0 0) xs [] :=
  h.text (Kd.R_nil _ _ _ _ _) h.below ⟨rfl, rfl, rfl, Nat.le_refl _, fun _ _ _ => rfl⟩

theorem k42_M {w W : World} {B : Nat} {ok : Nat → Prop} (x : S42) (cs : List Value) (h : k42.K w x cs) : k42.M W B ok x cs := by
  obtain rfl := k42_open h
  exact k42_mkM W B ok x

theorem LayS.cells {B To Tt : Nat} {w0 w : World} {vo vt : Value} {xs : List S42} {tx : List Int} (h : LayS B To Tt w0 w vo vt xs tx) :
    w.cell? ⟨Tt, 0, none⟩ = some vt ∧ w.cell? ⟨To, 0, none⟩ = some vo ∧ w.frozen? ⟨Tt, 0, none⟩ = false ∧ w.frozen? ⟨To, 0, none⟩ = false :=
  ⟨by rw [blk_cell h.ct]; rfl, by rw [blk_cell h.co]; rfl, blk_frozen h.ct 0, blk_frozen h.co 0⟩

theorem LayS.old {B To Tt : Nat} {w0 w w1 : World} {vo vt : Value} {xs : List S42} {tx : List Int} (h : LayS B To Tt w0 w vo vt xs tx) (hg : w.grownBy w1 vo.ownBlock) :
    w1.cell? ⟨To, 0, none⟩ = some vo ∧ w1.frozen? ⟨To, 0, none⟩ = false ∧ w1.cell? ⟨Tt, 0, none⟩ = some vt ∧ w1.frozen? ⟨Tt, 0, none⟩ = false := by
  have h1 := blk_grown h.co hg (Kd.R_ne h.ro h.co (by decide))
  have h2 := blk_grown h.ct hg (Kd.R_ne h.ro h.ct (by decide))
  exact ⟨by rw [blk_cell h1]; rfl, blk_frozen h1 0, by rw [blk_cell h2]; rfl, blk_frozen h2 0⟩

/-- a piece as it lies in memory -/
def tm (y : S42) : List Value := [.int .u8 y.f0, .string y.f1, .int .i64 y.f2, .int .u8 y.f3]

/-- what is laid besides: nothing, or one piece in a block of its own -/
def More (w : World) (vo : Value) (A : Option Addr) (ys : List S42) : Prop :=
  (ys = [] ∧ A = none) ∨ ∃ b y, ys = [y] ∧ A = some ⟨b, 0, none⟩ ∧ w.heap[b]? = some (.cells (tm y).toArray 42 (0, 0)) ∧ some b ≠ vo.ownBlock

theorem More.reads {w : World} {vo : Value} {A : Option Addr} {ys : List S42} (h : More w vo A ys) : Kd.C k42 w A ys.length ys := by
  rcases h with ⟨rfl, rfl⟩ | ⟨b, y, rfl, rfl, hb, _⟩
  · exact Kd.C_nil _ _
  · refine ⟨rfl, by simp, fun _ => ⟨_, rfl, ?_⟩⟩
    intro j p hj
    match j, hj with
    | 0, hj =>
      simp at hj
      subst hj
      refine ⟨tm y, rfl, k42_mk w _, ?_⟩
      intro i u hu
      rw [add_plain, blk_cell hb]
      simpa using hu

theorem More.le {w : World} {vo : Value} {A : Option Addr} {ys : List S42} (h : More w vo A ys) : ys.length ≤ 1 := by
  rcases h with ⟨rfl, rfl⟩ | ⟨b, y, rfl, _⟩ <;> simp

theorem More.later {B To Tt : Nat} {w0 w w1 : World} {vo vt v1 u1 u2 : Value} {xs : List S42} {tx : List Int} {A : Option Addr} {ys : List S42} (h : LayS B To Tt w0 w vo vt xs tx) (hm : More w vo A ys)
    (hg : w.grownBy w1 vo.ownBlock) (hat : v1.ownBlock = vo.ownBlock ∨ ∃ b, v1.ownBlock = some b ∧ w.heap.size ≤ b) : More ((w1.setCell ⟨To, 0, none⟩ u1).setCell ⟨Tt, 0, none⟩ u2) v1 A ys := by
  rcases hm with ⟨rfl, rfl⟩ | ⟨b, y, rfl, rfl, hb, hn⟩
  · exact .inl ⟨rfl, rfl⟩
  · have h1 : b ≠ To := blk_ne hb h.co (by decide)
    have h2 : b ≠ Tt := blk_ne hb h.ct (by decide)
    refine .inr ⟨b, y, rfl, rfl, blk_far (blk_far (blk_grown hb hg hn) h1 _) h2 _, ?_⟩
    rcases hat with hat | ⟨c, hc, hle⟩
    · rw [hat]; exact hn
    · rw [hc]
      intro e
      have := blk_lt hb
      injection e with e
      omega

set_option maxRecDepth 100000 in
theorem lay_none {B To Tt : Nat} {w0 w : World} {vo vt : Value} {xs : List S42} (h : LayS B To Tt w0 w vo vt xs []) (A : Option Addr) (c : Nat) (ys : List S42)
    (hm : More w vo A ys) (hlen : xs.length + 2 ≤ 1000000000) :
    Calls Try.prog 38 #[.slice A ys.length c, .pointer (some ⟨Tt, 0, none⟩), .pointer (some ⟨To, 0, none⟩)] w fun e w' => e = .returned (.tuple #[]) ∧ ∃ vo', LayS B To Tt w0 w' vo' vt (xs ++ ys) [] := by
  obtain ⟨At, ctt, hv, hct, hrt⟩ := Kd.R_reads h.rt
  subst hv
  obtain ⟨c1, c2, f1, f2⟩ := h.cells
  have hy := Lib.hid hm.reads
  have hl := hm.le
  have H := Lib.hid h
  clear h hm
  have hL : Hid ((xs.length + ys.length) * 40 ≤ 140737488355328) := Nat.le_trans (Nat.mul_le_mul_right 40 (show xs.length + ys.length ≤ 1000000000 by omega)) (by decide)
  have hd : decide (0 < ([] : List Int).length) = false := rfl
  go_enter Try.func38, Try.ntmps38
  go_wp2_with (first
    | ((with_reducible refine gate_builtin (b := .append) (xs := #[.tmp 13, .tmp 14]) rfl ?_); at_builtin; refine Kd.R_append_rows k42 (Rr := k42.K w) (w0 := w0) B rfl (.tmp 13) (.tmp 14) 38 42 (.agg #[(.int .u8 0), (.string ⟨#[]⟩), (.int .i64 0), (.int .u8 0)]) 40 rfl Try.underlying38 info42 rfl (by decide) (by decide) vo xs ys A ys.length c (fun _ => True) (fun _ => False) rfl rfl H.out.ro hy.out (fun x cs hx => k42_M x cs hx) (fun _ hk => hk.elim) (fun _ _ => trivial) H.out.below H.out.hB hL.out ?_; intro v1 w1 hr hb hg _; obtain ⟨A1, k1, rfl, _, _⟩ := Kd.R_reads hr; obtain ⟨e1, e2, e3, e4⟩ := H.out.old hg; have HR := Lib.hid hr; have HB := Lib.hid hb; have HG := Lib.hid hg; clear hr hb hg)
    | go_in)
  go_end0
  have HR' := HR.out
  rw [List.length_append] at HR'
  exact ⟨rfl, _, H.out.out HR' HB.out HG.out⟩

set_option maxRecDepth 100000 in
theorem lay_some {st : ByteArray} {B To Tt : Nat} {w0 w : World} {vo vt : Value} {xs : List S42} {tx : List Int} (h : LayS B To Tt w0 w vo vt xs tx) (h0 : 0 < tx.length) (hst : Hid (strOfNums tx = st)) (A : Option Addr) (c : Nat) (ys : List S42)
    (hm : More w vo A ys) (hlen : xs.length + 2 ≤ 1000000000) :
    Calls Try.prog 38 #[.slice A ys.length c, .pointer (some ⟨Tt, 0, none⟩), .pointer (some ⟨To, 0, none⟩)] w fun e w' => e = .returned (.tuple #[]) ∧ ∃ vo' vt', LayS B To Tt w0 w' vo' vt' (xs ++ [⟨1, st, 0, 0⟩] ++ ys) [] := by
  obtain ⟨At, ctt, hv, hct, hrt⟩ := Kd.R_reads h.rt
  subst hv
  obtain ⟨c1, c2, f1, f2⟩ := h.cells
  have hconv : (convert 40 9 (.slice At tx.length ctt)).run Try.prog w = .ok (.string st) w := by
    rw [← hst.out]
    exact Kd.C_string Try.underlying40 Try.underlying5 Try.underlying9 hrt
  have hl := hm.le
  have hne : To ≠ Tt := blk_ne h.co h.ct (by decide)
  have H := Lib.hid h
  have HM := Lib.hid hm
  clear h hm
  have hd : decide (0 < tx.length) = true := by simpa using h0
  have hL1 : Hid ((xs.length + 1) * 40 ≤ 140737488355328) := Nat.le_trans (Nat.mul_le_mul_right 40 (show xs.length + 1 ≤ 1000000000 by omega)) (by decide)
  have hL2 : Hid (((xs ++ [(⟨1, st, 0, 0⟩ : S42)]).length + ys.length) * 40 ≤ 140737488355328) := Nat.le_trans (Nat.mul_le_mul_right 40 (show (xs ++ [(⟨1, st, 0, 0⟩ : S42)]).length + ys.length ≤ 1000000000 by simp; omega)) (by decide)
  go_enter Try.func38, Try.ntmps38
  go_wp2_with (first
    | ((with_reducible refine gate_builtin (b := .append) (xs := #[.tmp 7, .tmp 11]) rfl ?_); at_builtin; refine Kd.R_append k42 (w0 := w0) B rfl (.tmp 7) (.tmp 11) 38 42 (.agg #[(.int .u8 0), (.string ⟨#[]⟩), (.int .i64 0), (.int .u8 0)]) 40 rfl Try.underlying38 info42 rfl (by decide) (by decide) vo xs (⟨1, st, 0, 0⟩ : S42) [.int .u8 1, .string st, .int .i64 0, .int .u8 0] (fun _ => True) (fun _ => False) rfl rfl ?aP (fun _ hk => hk.elim) ?aF ?aO ?aB ?aS ?aL ?_; (case aP => exact k42_mkM _ _ _ (⟨1, st, 0, 0⟩ : S42)); (case aF => exact (fun _ _ => trivial)); (case aO => exact H.out.ro); (case aB => exact H.out.below); (case aS => exact H.out.hB); (case aL => exact hL1.out); intro v1 w1 hr hb hg hat; obtain ⟨A1, k1, rfl, _, _⟩ := Kd.R_reads hr; obtain ⟨e1, e2, e3, e4⟩ := H.out.old hg; have HR := Lib.hid hr; have HB := Lib.hid hb; have HG := Lib.hid hg; have HAT := Lib.hid hat; clear hr hb hg hat; have hr' : Kd.R k42 42 w1 B (fun _ => True) (.slice A1 (xs.length + 1) k1) (xs ++ [⟨1, st, 0, 0⟩]) := (by have := HR.out; rw [List.length_append] at this; exact this); have H2 := Lib.hid (H.out.out hr' HB.out HG.out).nil; obtain ⟨g1, g2, g3, g4⟩ := H2.out.cells; have hm2 : More ((w1.setCell ⟨To, 0, none⟩ (.slice A1 (xs.length + 1) k1)).setCell ⟨Tt, 0, none⟩ (.slice none 0 0)) _ A ys := More.later H.out HM.out HG.out HAT.out; have HY := Lib.hid hm2.reads; clear hr' hm2)
    | ((with_reducible refine gate_builtin (b := .append) (xs := #[.tmp 13, .tmp 14]) rfl ?_); at_builtin; refine Kd.R_append_rows k42 (Rr := k42.K ((w1.setCell ⟨To, 0, none⟩ (.slice A1 (xs.length + 1) k1)).setCell ⟨Tt, 0, none⟩ (.slice none 0 0))) (w0 := w0) B rfl (.tmp 13) (.tmp 14) 38 42 (.agg #[(.int .u8 0), (.string ⟨#[]⟩), (.int .i64 0), (.int .u8 0)]) 40 rfl Try.underlying38 info42 rfl (by decide) (by decide) (.slice A1 (xs.length + 1) k1) (xs ++ [(⟨1, st, 0, 0⟩ : S42)]) ys A ys.length c (fun _ => True) (fun _ => False) rfl rfl ?bO ?bR (fun x cs hx => k42_M x cs hx) (fun _ hk => hk.elim) (fun _ _ => trivial) ?bB ?bS ?bL ?_; (case bO => exact H2.out.ro); (case bR => exact HY.out); (case bB => exact H2.out.below); (case bS => exact H2.out.hB); (case bL => exact hL2.out); intro v2 w2 hr hb hg _; obtain ⟨A2, k2, rfl, _, _⟩ := Kd.R_reads hr; obtain ⟨e5, e6, e7, e8⟩ := H2.out.old hg; have HR2 := Lib.hid hr; have HB2 := Lib.hid hb; have HG2 := Lib.hid hg; clear hr hb hg)
    | go_in)
  go_end0
  have HR' := HR2.out
  rw [List.length_append, List.length_append, show xs.length + [(⟨1, st, 0, 0⟩ : S42)].length + ys.length = xs.length + (ys.length + 1) by simp; omega] at HR'
  exact ⟨rfl, _, _, H2.out.out HR' HB2.out HG2.out⟩

end Go.Proofs.Ytccalibapiiifaa.T
