/- pat.Sound: walked. -/
import Derived.Test.YtjdlbejmdjcajaaGreatPsD
set_option linter.unusedVariables false
set_option linter.unusedSimpArgs false
namespace Go.Proofs.YtjdlbejmdjcajaaGreat
open Go.RowKit Go.Shelf Go.Maps Go.Proofs.YtjdlbejmdjcajaaGreatW.PrintWords Go.Proofs.YtjdlbejmdjcajaaGreatW.PrintLast

theorem infoBool : (Tryz.prog.info? 4).map (fun i => (i.zero, i.size, i.bytes)) = some (some (.bool false), 1, 1) := by kernel_rfl
theorem made_bool (n : Nat) : madeCells (Value.bool false).cells n = (List.replicate n (Value.bool false)).toArray := by
  unfold madeCells
  apply Array.ext
  · simp
  · intro i h1 h2
    have e0 : i % 1 = 0 := Nat.mod_one i
    simp [Value.cells, e0]
theorem mk_bools (n : Nat) (hn : n ≤ 100000) (W : World) : (Instr.makeSlice 76 (.int .i64 (n : Int)) (.int .i64 (n : Int))).run Tryz.prog W = .ok (.slice (some ⟨W.heap.size, 0, none⟩) n n) (W.alloc (.cells (List.replicate n (Value.bool false)).toArray 4)) := by
  obtain ⟨i, hi, hz0, hz1, hz2⟩ := info_parts infoBool
  have h := run_makeSlice (P := Tryz.prog) (w := W) 76 4 i (.bool false) Tryz.underlying76 hi hz0 .i64 .i64 (n : Int) (n : Int) (by omega) (Int.le_refl _) (by rw [hz1]; omega) (by rw [hz2]; omega) (by omega)
  rw [h, hz1]
  simp only [Int.toNat_natCast, Nat.mul_one, made_bool]
theorem three_allocs (w : World) (o1 o2 o3 : Obj) : ∃ X, (((w.alloc o1).alloc o2).alloc o3).drew = X ∧ X.heap[w.heap.size]? = some o1 ∧ X.heap[w.heap.size + 1]? = some o2 ∧ X.heap[w.heap.size + 1 + 1]? = some o3 ∧ Below w.heap.size w X := by
  have sz : ∀ (W : World) o, (W.alloc o).heap.size = W.heap.size + 1 := fun W o => by simp
  have kp : ∀ (W : World) o b, b < W.heap.size → (W.alloc o).heap[b]? = W.heap[b]? := fun W o b hb => (below_alloc (Below.refl W.heap.size W) o).block b hb
  have a1 := alloc_at w o1
  have a2 := alloc_at (w.alloc o1) o2
  have a3 := alloc_at ((w.alloc o1).alloc o2) o3
  simp only [sz] at a2 a3
  refine ⟨_, rfl, ?_, ?_, a3, (below_alloc (below_alloc (below_alloc (Below.refl _ _) _) _) _).drew⟩
  · show (((w.alloc o1).alloc o2).alloc o3).heap[w.heap.size]? = _
    rw [kp _ _ _ (by simp only [sz]; omega), kp _ _ _ (by simp only [sz]; omega)]
    exact a1
  · show (((w.alloc o1).alloc o2).alloc o3).heap[w.heap.size + 1]? = _
    rw [kp _ _ _ (by simp only [sz]; omega)]
    exact a2
set_option maxRecDepth 100000 in
set_option maxHeartbeats 2000000 in
theorem Sound_any {v : Value} {root g cs : Int} {L : List Pp.Nk} {w : World} (hN : NsI w (fun _ => True) v L) (hL : L.length ≤ 100000) (hnc : NoCat L) {b : Bool} (hs : Pp.soundR L root g = some b) :
    Calls Tryz.prog 16 #[.agg #[v, .int .i64 root, .int .i64 g, .int .u8 cs]] w fun e w' => e = .returned (.bool b) ∧ Below w.heap.size w w' := by
  have hmk := mk_bools L.length hL
  obtain ⟨A, c, rfl, hc⟩ := hN.slice
  have hal := below_alloc (Below.refl w.heap.size w) (.cells #[.slice A L.length c, .int .i64 root, .int .i64 g, .int .u8 cs] 29)
  have hA := alloc_at w (.cells #[.slice A L.length c, .int .i64 root, .int .i64 g, .int .u8 cs] 29)
  have p0 : (w.alloc (.cells #[.slice A L.length c, .int .i64 root, .int .i64 g, .int .u8 cs] 29)).cell? ⟨w.heap.size, 0, none⟩ = some (.slice A L.length c) := by rw [blk_cell hA]; rfl
  have p1 : (w.alloc (.cells #[.slice A L.length c, .int .i64 root, .int .i64 g, .int .u8 cs] 29)).cell? ⟨w.heap.size, 1, none⟩ = some (.int .i64 root) := by rw [blk_cell hA]; rfl
  have p2 : (w.alloc (.cells #[.slice A L.length c, .int .i64 root, .int .i64 g, .int .u8 cs] 29)).cell? ⟨w.heap.size, 2, none⟩ = some (.int .i64 g) := by rw [blk_cell hA]; rfl
  have p3 : (w.alloc (.cells #[.slice A L.length c, .int .i64 root, .int .i64 g, .int .u8 cs] 29)).cell? ⟨w.heap.size, 3, none⟩ = some (.int .u8 cs) := by rw [blk_cell hA]; rfl
  obtain ⟨n, hn⟩ : ∃ n, L.length = n := ⟨_, rfl⟩
  rw [hn] at hmk p0 hal hA p1 p2 p3 ⊢
  go_enter Tryz.func16, Tryz.ntmps16
  go_wp2
  go_region_held3 (fun V => V.cell? ⟨w.heap.size, 0, none⟩ = some (.slice A n c) ∧ V.cell? ⟨w.heap.size, 1, none⟩ = some (.int .i64 root) ∧ V.cell? ⟨w.heap.size, 2, none⟩ = some (.int .i64 g) ∧ V.cell? ⟨w.heap.size, 3, none⟩ = some (.int .u8 cs)) (first | exact ⟨p0, p1, p2, p3⟩ | go_keep) (fail)
  obtain ⟨X, hX, x1, x2, x3, xb⟩ := three_allocs w (.cells #[.slice A n c, .int .i64 root, .int .i64 g, .int .u8 cs] 29) (.cells (Array.replicate n (Value.bool false)) 4) (.cells #[.slice A n c, .int .i64 root, .int .i64 g, .int .u8 cs, .slice (some ⟨w.heap.size + 1, 0, none⟩) n n, .pointer none, .slice none 0 0] 82)
  rw [hX]
  clear hX p0 p1 p2 p3 hal hA hmk
  have q1 : X.cell? ⟨w.heap.size, 1, none⟩ = some (.int .i64 root) := by rw [blk_cell x1]; rfl
  have q2 : X.cell? ⟨w.heap.size, 2, none⟩ = some (.int .i64 g) := by rw [blk_cell x1]; rfl
  unfold Pp.soundR at hs
  by_cases g0 : g < 0
  · rw [if_pos (.inl g0)] at hs
    obtain rfl := Option.some.inj hs
    have HB := Lib.hid xb
    have g1 : ¬ (0 ≤ g) := by omega
    clear hs xb x1 x2 x3
    go_wp2
    go_ret
    exact ⟨rfl, HB.out⟩
  have g1 : 0 ≤ g := by omega
  by_cases g9 : 9 < g
  · rw [if_pos (.inr g9)] at hs
    obtain rfl := Option.some.inj hs
    have HB := Lib.hid xb
    have g2 : ¬ (g ≤ 9) := by omega
    clear hs xb x1 x2 x3
    go_wp2
    go_ret
    exact ⟨rfl, HB.out⟩
  have g2 : g ≤ 9 := by omega
  rw [if_neg (by omega)] at hs
  cases hr : Pp.soundP L g (L.length + 1) root (List.replicate L.length false) with
  | none => rw [hr] at hs; cases hs
  | some r =>
  rw [hr] at hs
  obtain rfl := Option.some.inj hs
  have hw : WkM X (w.heap.size + 1 + 1) (w.heap.size + 1) (.slice A n c) root g cs L (List.replicate L.length false) :=
    ⟨by rw [hn]; exact x3, by rw [x2, hn]; simp, by simp, by omega, by
      rw [← hn]
      exact hN.step xb.size fun b _ hl => ⟨xb.block b hl, by omega⟩⟩
  have HC := Lib.hid (sound_any hL hnc _ _ _ _ _ hw hr)
  have HB := Lib.hid xb
  clear hs hr hw xb x1 x2 x3 hN
  go_wp2_with fail
  refine HC.out.mono ?_
  rintro e w5 ⟨rfl, hg5, _⟩
  have H5 := Lib.hid (HB.out.grown hg5 HB.out.size fun k e => by have := Option.some.inj e; omega)
  clear hg5
  go_wp2
  go_ret
  exact ⟨rfl, H5.out⟩
end Go.Proofs.YtjdlbejmdjcajaaGreat
