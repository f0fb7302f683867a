/- the argument api.Prog, opened. -/
import Derived.Test.YtjdlbejmdjcajaaGreatSaA
import Derived.Deep.Slices
import Derived.WideShapes
import Derived.Laws.IdiomArrays
set_option linter.unusedVariables false
set_option linter.unusedSimpArgs false
namespace Go.Proofs.YtjdlbejmdjcajaaGreat
open Go.RowKit Go.ChangeShapes Go.WideShapes Go.Maps

set_option maxRecDepth 100000 in
theorem inst_trod {H : Type} {enc : TypeId × Value → H} {W : World} {a : Addr} {fuel : Nat} {cs : List Value} {x : DataW H × List MemPlace} (h1 : W.cells? 0 a 8 = some cs) (h2 : DataW.trod enc Tryz.prog W 0 (fun _ => true) true fuel 47 cs = some x) : ∃ z : Pp.In, ∀ (i : Nat) (u : Value), (inC z)[i]? = some u → W.cell? (a.add i) = some u := by
  obtain ⟨ys, _, _, _, hlen, _, hf⟩ := Go.DataW.trod_struct Tryz.underlying47 h2
  obtain ⟨_, hcl, hcell⟩ := World.cells?_some h1
  have es1 : Tryz.prog.cellsOf 5 = 1 := by kernel_rfl
  have es2 : Tryz.prog.cellsOf 3 = 1 := by kernel_rfl
  have es3 : Tryz.prog.cellsOf 32 = 4 := by kernel_rfl
  have es4 : Tryz.prog.cellsOf 30 = 1 := by kernel_rfl
  obtain ⟨u0, u1, u2, u3, u4, u5, u6, u7, rfl⟩ : ∃ u0 u1 u2 u3 u4 u5 u6 u7, cs = [u0, u1, u2, u3, u4, u5, u6, u7] := by
    match cs, hcl with
    | [u0, u1, u2, u3, u4, u5, u6, u7], _ => exact ⟨u0, u1, u2, u3, u4, u5, u6, u7, rfl⟩
  have hz : ys.length = 5 := by assumption
  have gy : ∀ i, i < 5 → ∃ y, ys[i]? = some y := fun i hi => ⟨_, List.getElem?_eq_getElem (by omega)⟩
  have g0 := hf 0 _ rfl
  have g1 := hf 1 _ rfl
  have g2 := hf 2 _ rfl
  have g3 := hf 3 _ rfl
  have g4 := hf 4 _ rfl
  obtain ⟨y0, k0⟩ := gy 0 (by omega)
  obtain ⟨y1, k1⟩ := gy 1 (by omega)
  obtain ⟨y2, k2⟩ := gy 2 (by omega)
  obtain ⟨y3, k3⟩ := gy 3 (by omega)
  obtain ⟨y4, k4⟩ := gy 4 (by omega)
  simp [es1, k0] at g0
  simp [es1, k1] at g1
  simp [es3, k2] at g2
  simp [es2, k3] at g3
  simp [es2, k4] at g4
  obtain ⟨x0, e0, _, _⟩ := Go.DataW.trod_int Tryz.underlying5 g0
  obtain ⟨x1, e1, _, _⟩ := Go.DataW.trod_int Tryz.underlying5 g1
  obtain ⟨x3, e3, _, _⟩ := Go.DataW.trod_int Tryz.underlying3 g3
  obtain ⟨x4, e4, _, _⟩ := Go.DataW.trod_int Tryz.underlying3 g4
  obtain ⟨z0, z1, z2, z3, m, _, t0, t1, t2, t3⟩ := trod_array4 Tryz.underlying32 es4 g2
  obtain ⟨s0, q0, _, _⟩ := Go.DataW.trod_int Tryz.underlying30 t0
  obtain ⟨s1, q1, _, _⟩ := Go.DataW.trod_int Tryz.underlying30 t1
  obtain ⟨s2, q2, _, _⟩ := Go.DataW.trod_int Tryz.underlying30 t2
  obtain ⟨s3, q3, _, _⟩ := Go.DataW.trod_int Tryz.underlying30 t3
  simp at e0 e1 e3 e4 q0 q1 q2 q3
  refine ⟨⟨x0, x1, s0, s1, s2, s3, x3, x4⟩, fun i u hu => ?_⟩
  have hil : i < 8 := (List.getElem?_eq_some_iff.1 hu).1
  rw [hcell i hil, ← hu]
  subst e0 e1 e3 e4 q0 q1 q2 q3
  rfl
theorem spot_none {W : World} {a : Addr} {u : Value} (h : W.cell? a = some u) : a.spot = none := by
  cases hs : a.spot with
  | none => rfl
  | some x =>
    unfold World.cell? at h
    split at h
    · simp [hs] at h
    · cases h
set_option maxRecDepth 100000 in
theorem prog_open {H : Type} {enc : TypeId × Value → H} {W : World} {b : Nat} {v : Value} {d : DataW H} {p : List MemPlace} (_hv : Value.okWide Tryz.prog W .any b 24 v)
    (h : DataW.Trod enc Tryz.prog W 0 (fun _ => true) true 24 v d p) : ∃ (l : List Pp.In) (A : Option Addr) (cap : Nat) (r : Int) (f : Bool), v = .agg #[.slice A l.length cap, .int .i64 r, .bool f] ∧ CodeM W (fun _ => True) (.slice A l.length cap) l := by
  obtain ⟨cs, rfl, hcs⟩ := Go.WideShapes.okWide_struct Tryz.underlying24 _hv
  obtain ⟨fuel, h⟩ := h
  obtain ⟨ys, _, _, _, hlen, _, hf⟩ := Go.DataW.trod_struct Tryz.underlying24 h
  have esz : Tryz.prog.cellsOf 24 = 3 := by kernel_rfl
  have es1 : Tryz.prog.cellsOf 22 = 1 := by kernel_rfl
  have es2 : Tryz.prog.cellsOf 3 = 1 := by kernel_rfl
  have es3 : Tryz.prog.cellsOf 4 = 1 := by kernel_rfl
  have es8 : Tryz.prog.cellsOf 47 = 8 := by kernel_rfl
  rw [esz] at hcs
  obtain ⟨u0, u1, u2, rfl⟩ : ∃ u0 u1 u2, cs = #[u0, u1, u2] := by
    obtain ⟨l⟩ := cs
    match l, hcs with
    | [u0, u1, u2], _ => exact ⟨u0, u1, u2, rfl⟩
  simp [Value.cells] at hf
  have hz : ys.length = 3 := by assumption
  have gy : ∀ i, i < 3 → ∃ y, ys[i]? = some y := fun i hi => ⟨_, List.getElem?_eq_getElem (by omega)⟩
  have g0 := hf 0 _ rfl
  have g1 := hf 1 _ rfl
  have g2 := hf 2 _ rfl
  obtain ⟨y0, k0⟩ := gy 0 (by omega)
  obtain ⟨y1, k1⟩ := gy 1 (by omega)
  obtain ⟨y2, k2⟩ := gy 2 (by omega)
  simp [es1, k0] at g0
  simp [es2, k1] at g1
  simp [es3, k2] at g2
  obtain ⟨r, e1, _, _⟩ := Go.DataW.trod_int Tryz.underlying3 g1
  obtain ⟨f, e2, _⟩ := Go.DataW.trod_bool Tryz.underlying4 g2
  simp at e1 e2
  subst e1 e2
  rcases Go.Deep.open_slice Tryz.underlying22 g0 with ⟨hc, _⟩ | ⟨a, len, cap, m, q, D, Pl, hc, _, hl, hmx, hmm, _, hx⟩
  · simp at hc
    subst hc
    exact ⟨[], none, 0, r, f, rfl, none, 0, rfl, Nat.le_refl _, by decide, fun h1 => absurd h1 (by decide)⟩
  · simp at hc
    subst hc
    have hmm' : m = cap := by simpa using hmm
    rw [es8] at hx
    have hz2 : ∀ j, ∃ z : Pp.In, j < len → ∀ (i : Nat) (u : Value), (inC z)[i]? = some u → W.cell? ((a.add (j * 8)).add i) = some u := fun j => by
      by_cases hj : j < len
      · obtain ⟨cs', h1, h2⟩ := hx j (by omega)
        obtain ⟨z, hz⟩ := inst_trod h1 h2
        exact ⟨z, fun _ => hz⟩
      · exact ⟨Pp.in0, fun h => absurd h hj⟩
    obtain ⟨Z, hZ⟩ := Classical.axiomOfChoice hz2
    have hll : ((List.range len).map Z).length = len := by simp
    refine ⟨(List.range len).map Z, some a, cap, r, f, by rw [hll], ?_⟩
    rw [hll]
    refine ⟨some a, cap, by rw [hll], by rw [hll]; exact hl, hmx, fun h0 => ?_⟩
    rw [hll] at h0
    have hsp : a.spot = none := by
      have h9 := hZ 0 h0 0 _ rfl
      rw [Nat.zero_mul] at h9
      exact spot_none (a := a) (by simpa [Addr.add] using h9)
    obtain ⟨ab, ao, asp⟩ := a
    simp only at hsp
    subst hsp
    have hlt : ab < W.heap.size := by
      have h9 := hZ 0 h0 0 _ rfl
      rw [Nat.zero_mul, Addr.add_lit, Addr.add_lit] at h9
      unfold World.cell? at h9
      split at h9
      · rename_i c e f hb
        exact (Array.getElem?_eq_some_iff.1 hb).1
      · cases h9
    refine ⟨ab, ao, rfl, trivial, hlt, fun j x hj i u hu => ?_⟩
    have hjl : j < len := by
      have := (List.getElem?_eq_some_iff.1 hj).1
      simpa using this
    have hx2 : x = Z j := by
      rw [List.getElem?_map, List.getElem?_range hjl] at hj
      exact (Option.some.inj hj).symm
    subst hx2
    have h9 := hZ j hjl i u hu
    rw [Addr.add_lit, Addr.add_lit] at h9
    exact h9
end Go.Proofs.YtjdlbejmdjcajaaGreat
