import Derived.Test.YtoejfgmfdjoonaaGreatDoorEyAx
import Derived.WideKeyEntry
import Derived.Test.YtoejfgmfdjoonaaGreatDoorWLast
set_option linter.unusedVariables false
set_option linter.unusedSimpArgs false

/- A map of registers. -/
set_option linter.unusedVariables false
set_option linter.unusedSimpArgs false
namespace Go.Proofs.YtoejfgmfdjoonaaGreatDoor
open Go.RowKit Go.Maps Go.WideElems Go.Proofs.YtoejfgmfdjoonaaGreatDoorW.PrintWords

theorem setBlock_twice (w : World) (b : Nat) (o o' : Obj) : Go.ChangeMaps.setBlock (Go.ChangeMaps.setBlock w b o) b o' = Go.ChangeMaps.setBlock w b o' := by
  simp [Go.ChangeMaps.setBlock]
section
open Go.ChangeMaps (setBlock heap_setBlock_same modify_eq_set)
variable {H : Type} {P : Program} {w : World} {t k e : TypeId} {R : Value → Option (DataW H × List MemPlace)} {b : Nat} {es : Array MapEntry} {clock : Nat}
/-- at an entry's mark: its place -/
theorem born_at {xs : Array MapEntry} {j : Nat} {x : MapEntry} (hn : (xs.toList.map MapEntry.born).Nodup) (hj : xs[j]? = some x) : xs.findIdx? (fun y => ((y.born : Nat) : Int) == ((x.born : Nat) : Int)) = some j := by
  rw [findIdx_arr]
  exact findIdx_born hn (by simpa using hj)
/-- an entry is made, or found; its store does what a store at the key does -/
theorem entry_store (K : Keyed P k) (ht : P.underlying t = some (.map k e)) {z : Value} (hz : ∀ u : World, (zeroValue e).run P u = .ok z u) (hb : w.heap[b]? = some (.map es clock)) (F : Fit P k R es clock) {key : Value} {kl : Lit} (hkey : keyOf P k key = some kl) :
    ∃ (v0 : Value) (st : Nat) (o1 : Obj), (Instr.mapEntry t (.map (some b)) key).run P w = .ok (.tuple #[v0, goInt st]) (setBlock w b o1) ∧ (∃ es1 c1, o1 = .map es1 c1) ∧
      ∀ val : Value, ∃ o2 : Obj, (∃ es2 c2, o2 = .map es2 c2) ∧ (Instr.entryStore t (.map (some b)) (goInt st) val).run P (setBlock w b o1) = .ok () (setBlock w b o2) ∧ (Instr.mapUpdate t (.map (some b)) key val).run P w = .ok () (setBlock w b o2) := by
  obtain ⟨s1, s2, _⟩ := F.stamped
  rcases K.find w hkey es.toList F.keys with ⟨h1, _⟩ | ⟨j, e0, h1, h2, h3⟩
  · refine ⟨z, clock, .map (es.push ⟨key, z, clock⟩) (clock + 1), ?_, ⟨_, _, rfl⟩, fun val => ⟨.map (es.push ⟨key, val, clock⟩) (clock + 1), ⟨_, _, rfl⟩, ?_, ?_⟩⟩
    · simp [Instr.mapEntry, run_underlying ht, MapKept.run_getObj_map hb, K.check w false hkey, h1, hz, MapKept.run_setObj_map _ hb, Result.andThen, setBlock]
    · have hw := heap_setBlock_same hb (.map (es.push ⟨key, z, clock⟩) (clock + 1))
      have hnd : ((es.push ⟨key, z, clock⟩).toList.map MapEntry.born).Nodup := by
        rw [Array.toList_push, List.map_append]
        refine List.nodup_append.2 ⟨s2, by simp, fun a ha c hc e1 => ?_⟩
        obtain ⟨x, hx, rfl⟩ := List.mem_map.1 ha
        have h9 := s1 x hx
        simp at hc
        omega
      have hi := born_at (j := es.size) (x := ⟨key, z, clock⟩) hnd (by simp)
      dsimp only at hi
      have hm : (es.push ⟨key, z, clock⟩).modify es.size (fun y => { y with val := val }) = es.push ⟨key, val, clock⟩ := by
        apply Array.ext'
        rw [Array.toList_modify, Array.toList_push, Array.toList_push, ← Array.length_toList, modify_last]
      rw [← setBlock_twice w b (.map (es.push ⟨key, z, clock⟩) (clock + 1)) (.map (es.push ⟨key, val, clock⟩) (clock + 1))]
      generalize setBlock w b (.map (es.push ⟨key, z, clock⟩) (clock + 1)) = w2 at hw ⊢
      simp [Instr.entryStore, MapKept.run_getObj_map hw, asInt, asIntOf, goInt, hi, hm, MapKept.run_setObj_map _ hw, Result.andThen, setBlock]
    · simp [Instr.mapUpdate, run_underlying ht, MapKept.run_getObj_map hb, K.check w false hkey, h1, MapKept.run_setObj_map _ hb, Result.andThen, setBlock]
  · have hj : es[j]? = some e0 := by simpa using h2
    have hsame : es.modify j (fun y => { y with key := key }) = es := by
      apply Array.ext'
      rw [Array.toList_modify, modify_eq_set _ _ _ _ h2, show ({ e0 with key := key } : MapEntry) = e0 by rw [← h3]]
      exact set_self _ _ _ h2
    refine ⟨e0.val, e0.born, .map es clock, ?_, ⟨_, _, rfl⟩, fun val => ⟨.map (es.modify j fun y => { y with key := key, val := val }) clock, ⟨_, _, rfl⟩, ?_, ?_⟩⟩
    · simp [Instr.mapEntry, run_underlying ht, MapKept.run_getObj_map hb, K.check w false hkey, h1, hj, h3, K.stays w hkey, hsame, MapKept.run_setObj_map _ hb, Result.andThen, setBlock]
    · have hw := heap_setBlock_same hb (.map es clock)
      have hi := born_at s2 hj
      have hm : es.modify j (fun y => { y with val := val }) = es.modify j (fun y => { y with key := key, val := val }) := by
        apply Array.ext'
        rw [Array.toList_modify, Array.toList_modify, modify_eq_set _ _ _ _ h2, modify_eq_set _ _ _ _ h2, ← h3]
      rw [← setBlock_twice w b (.map es clock) (.map (es.modify j fun y => { y with key := key, val := val }) clock)]
      generalize setBlock w b (.map es clock) = w2 at hw ⊢
      simp [Instr.entryStore, MapKept.run_getObj_map hw, asInt, asIntOf, goInt, hi, hm, MapKept.run_setObj_map _ hw, Result.andThen, setBlock]
    · simp [Instr.mapUpdate, run_underlying ht, MapKept.run_getObj_map hb, K.check w false hkey, h1, hj, h3, K.stays w hkey, MapKept.run_setObj_map _ hb, Result.andThen, setBlock]
end

def idE : Value → Option (DataW Value × List MemPlace) := fun v => some (.held v, [])
def zeroReg : Value := .agg #[.slice none 0 0, .bool false]
theorem zeroR (w : World) : (zeroValue 56).run Tryz.prog w = .ok zeroReg w := by kernel_rfl

/-- a map in block b reads as the registers ρ -/
def RgMap (w : World) (b n : Nat) (ρ : Int → Option Value) : Prop :=
  ∃ D : DataW Value, w.ownsMap Tryz.prog 5 idE b n D ∧ ∀ x, 0 ≤ x → x ≤ 255 → D.atKey (.int .u8 x) (.held zeroReg) = .held ((ρ x).getD zeroReg) ∧ Maps.has D (.int .u8 x) = (ρ x).isSome
section
variable {w w' : World} {b n : Nat} {ρ : Int → Option Value}
theorem RgMap.step (h : RgMap w b n ρ) (hs : w'.heap[b]? = w.heap[b]?) : RgMap w' b n ρ := by
  obtain ⟨D, ⟨es, clock, hb, r⟩, hD⟩ := h
  exact ⟨D, ⟨es, clock, hs.trans hb, r⟩, hD⟩
set_option maxRecDepth 100000 in
theorem RgMap.look (h : RgMap w b n ρ) {x : Int} (h0 : 0 ≤ x) (h1 : x ≤ 255) : (Instr.lookup 65 (.map (some b)) (.int .u8 x) true).run Tryz.prog w = .ok (.tuple #[(ρ x).getD zeroReg, .bool (ρ x).isSome]) w := by
  obtain ⟨D, hown, hD⟩ := h
  obtain ⟨v, ps, hrun, hv⟩ := hown.look_ok law5 Tryz.underlying65 (zeroR w) (zd := .held zeroReg) (zp := []) rfl (keyOf_int_mk Tryz.underlying5 (u8wf h0 h1))
  obtain ⟨e1, e2⟩ := hD x h0 h1
  rw [e1] at hv
  have hv2 : v = (ρ x).getD zeroReg := by
    unfold idE at hv
    injection hv with hv
    injection hv with hv _
    injection hv
  rw [← hv2, ← e2]
  exact hrun
theorem RgMap.put (h : RgMap w b n ρ) (hn : n < maxLen) {x : Int} (h0 : 0 ≤ x) (h1 : x ≤ 255) (v : Value) :
    ∃ w', (Instr.mapUpdate 65 (.map (some b)) (.int .u8 x) v).run Tryz.prog w = .ok () w' ∧ RgMap w' b (n + 1) (fun y => if y = x then some v else ρ y) ∧ w.mapTurned w' b := by
  obtain ⟨D, hown, hD⟩ := h
  have hkey := keyOf_int_mk Tryz.underlying5 (u8wf h0 h1)
  obtain ⟨w', hrun, hown', ht⟩ := hown.store law5 Tryz.underlying65 hn hkey (show idE v = some (.held v, []) from rfl)
  refine ⟨w', hrun, ⟨_, hown', fun y y0 y1 => ?_⟩, ht⟩
  by_cases hy : y = x
  · subst hy
    rw [atKey_put_same hown.isMap (law5.key hkey), has_put_same hown.isMap (law5.key hkey)]
    simp
  · rw [atKey_put_other (by simpa using hy), has_put_other (by simpa using hy)]
    simp only [hy, if_false]
    exact hD y y0 y1
/-- an entry, and its store -/
theorem RgMap.entry (h : RgMap w b n ρ) (hn : n < maxLen) {x : Int} (h0 : 0 ≤ x) (h1 : x ≤ 255) :
    ∃ (v0 : Value) (st : Nat) (w1 : World), (Instr.mapEntry 65 (.map (some b)) (.int .u8 x)).run Tryz.prog w = .ok (.tuple #[v0, goInt st]) w1 ∧ w.mapTurned w1 b ∧
      ∀ v, ∃ w2, (Instr.entryStore 65 (.map (some b)) (goInt st) v).run Tryz.prog w1 = .ok () w2 ∧ RgMap w2 b (n + 1) (fun y => if y = x then some v else ρ y) ∧ w.mapTurned w2 b := by
  have hkey := keyOf_int_mk Tryz.underlying5 (u8wf h0 h1)
  obtain ⟨D, ⟨es, clock, hb, F, _⟩, _⟩ := id h
  obtain ⟨v0, st, o1, hrun, ⟨es1, c1, ho1⟩, hst⟩ := entry_store (w := w) law5 Tryz.underlying65 zeroR hb F hkey
  refine ⟨v0, st, _, hrun, ⟨es, clock, es1, c1, hb, by rw [ho1]⟩, fun v => ?_⟩
  obtain ⟨o2, _, hr2, hu2⟩ := hst v
  obtain ⟨w', hu, hm, ht⟩ := h.put hn h0 h1 v
  have e : w' = Go.ChangeMaps.setBlock w b o2 := (Result.ok.inj (hu.symm.trans hu2)).2
  exact ⟨_, hr2, e ▸ hm, e ▸ ht⟩
end
end Go.Proofs.YtoejfgmfdjoonaaGreatDoor

/- regs' lay, walked (a small letter, nothing in it yet). -/
set_option linter.unusedVariables false
set_option linter.unusedSimpArgs false
namespace Go.Proofs.YtoejfgmfdjoonaaGreatDoor
open Go.RowKit Go.Shelf Go.Maps Go.Proofs.YtoejfgmfdjoonaaGreatDoorW.PrintWords Go.Proofs.YtoejfgmfdjoonaaGreatDoorW.PrintLast

/-- registers in memory -/
def Rg (w : World) (R mb n : Nat) (ρ : Int → Option Value) : Prop := w.heap[R]? = some (.cells #[.map (some mb)] 67 (0, 0)) ∧ RgMap w mb n ρ ∧ R ≠ mb
theorem Rg.ltR {w : World} {R mb n : Nat} {ρ : Int → Option Value} (h : Rg w R mb n ρ) : R < w.heap.size := blk_lt h.1
theorem Rg.ltM {w : World} {R mb n : Nat} {ρ : Int → Option Value} (h : Rg w R mb n ρ) : mb < w.heap.size := by
  obtain ⟨D, h, _⟩ := h.2.1
  exact h.lt
theorem Rg.step {w w' : World} {R mb n : Nat} {ρ : Int → Option Value} (h : Rg w R mb n ρ) (hb : Below w.heap.size w w') : Rg w' R mb n ρ :=
  ⟨(hb.block R h.ltR).trans h.1, h.2.1.step (hb.block mb h.ltM), h.2.2⟩
def setR (ρ : Int → Option Value) (x : Int) (v : Value) : Int → Option Value := fun y => if y = x then some v else ρ y
def LayPost (w : World) (R mb n : Nat) (ρ : Int → Option Value) (e : Ending) (w' : World) : Prop := e = .returned (.int .u16 0) ∧ Rg w' R mb n ρ ∧ w.grownBy w' (some mb)

set_option maxRecDepth 100000 in
set_option maxHeartbeats 1000000 in
theorem lay_any {w : World} {R mb n : Nat} {ρ : Int → Option Value} (h : Rg w R mb n ρ) (hn : n + 1 < maxLen) {c : Int} (c0 : 97 ≤ c) (c1 : c ≤ 122) (hρ : ρ c = none) {G : Nat → Prop} {v : Value} {xs : List ByteArray} (hv : Ls w G v xs) (hl : xs.length ≤ 300) (hs : ∀ x ∈ xs, x.size ≤ 1000) (hsum : sumS xs ≤ 20000) (b : Bool) :
    Calls Tryz.prog 110 #[.pointer (some ⟨R, 0, none⟩), .int .u8 c, .agg #[v, .bool b]] w (LayPost w R mb (n + 2) (setR (setR ρ c (.agg #[v, .bool b])) 34 (.agg #[v, .bool b]))) := by
  have k0 : w.cell? ⟨R, 0, none⟩ = some (.map (some mb)) := by rw [blk_cell h.1]; rfl
  have hRl := h.ltR
  have hMl := h.ltM
  have HH := Lib.hid h
  have HSM := Lib.hid (fun W (hb : Below w.heap.size w W) => rsize_any (hv.step hb.size fun b hlt _ => hb.block b hlt) hl hs b)
  have HSL := Lib.hid (Small_small c c0 c1)
  have HKN := Lib.hid (Known_small c c0 c1)
  have hlk : ∀ o, (Instr.lookup 65 (.map (some mb)) (.int .u8 c) true).run Tryz.prog (w.alloc o) = .ok (.tuple #[.agg #[.slice none 0 0, .bool false], .bool false]) (w.alloc o) := fun o => by
    have h9 := (h.2.1.step (w' := w.alloc o) (Below.heap_alloc w o mb hMl)).look (x := c) (by omega) (by omega)
    rw [hρ] at h9
    exact h9
  have b1 : (c == 95) = false := by rw [beq_eq_false_iff_ne]; omega
  have b2 : decide (20000 < ((sumS xs : Nat) : Int)) = false := by simp; omega
  obtain ⟨Av, cv, hvs, _⟩ := id hv
  subst hvs
  clear h hv hs
  go_enter Tryz.func110, Tryz.ntmps110
  go_wp2_with (first
    | (go_at_call 34; refine (HSL.out _).mono ?_; rintro e w1 ⟨rfl, rfl⟩)
    | (go_at_call 35; refine (HKN.out _).mono ?_; rintro e w1 ⟨rfl, rfl⟩))
  have hal : Below w.heap.size w ((w.alloc (.cells #[.slice Av xs.length cv, .bool b] 56)).alloc (.cells #[.slice none 0 0, .bool false] 56)) := below_alloc (below_alloc (Below.refl _ w) _) _
  have hCb : ((w.alloc (.cells #[.slice Av xs.length cv, .bool b] 56)).alloc (.cells #[.slice none 0 0, .bool false] 56)).heap[w.heap.size]? = some (.cells #[.slice Av xs.length cv, .bool b] 56 (0, 0)) :=
    (Below.heap_alloc _ _ _ (by simp only [World.size_alloc]; omega)).trans (World.alloc_heap_new w _)
  have hsz : w.heap.size < ((w.alloc (.cells #[.slice Av xs.length cv, .bool b] 56)).alloc (.cells #[.slice none 0 0, .bool false] 56)).heap.size := by simp only [World.size_alloc]; omega
  have hS := HSM.out _ hal
  refine hS.mono ?_
  rintro e w3 ⟨rfl, hb3⟩
  have hB3 := below_then hal hal.size hb3
  have hC3 := (hb3.block _ hsz).trans hCb
  have h3 := HH.out.step hB3
  obtain ⟨C, hC⟩ : ∃ C, w.heap.size = C := ⟨_, rfl⟩
  have HC0 := Lib.hid hC
  have hCm : C ≠ mb := by omega
  rw [hC] at hC3 ⊢
  have r3 : w3.cell? ⟨R, 0, none⟩ = some (.map (some mb)) := by rw [blk_cell h3.1]; rfl
  have x30 : w3.cell? ⟨C, 0, none⟩ = some (.slice Av xs.length cv) := by rw [blk_cell hC3]; rfl
  have x31 : w3.cell? ⟨C, 1, none⟩ = some (.bool b) := by rw [blk_cell hC3]; rfl
  have hm3 : RgMap w3.drew mb n ρ := h3.2.1.step rfl
  obtain ⟨v1, s1, wa, he1, ht1, hs1⟩ := hm3.entry (by omega) (x := c) (by omega) (by omega)
  obtain ⟨wb, he2, hm4, ht2⟩ := hs1 (.agg #[.slice Av xs.length cv, .bool b])
  obtain ⟨v2, s2, wc, he3, ht3, hs3⟩ := hm4.entry hn (x := 34) (by omega) (by omega)
  obtain ⟨wd, he4, hm5, ht4⟩ := hs3 (.agg #[.slice Av xs.length cv, .bool b])
  have he1 : (Instr.mapEntry 65 (.map (some mb)) (.int .u8 c)).run Tryz.prog w3.drew = .ok (.tuple #[v1, .int .i64 s1]) wa := he1
  have he2 : (Instr.entryStore 65 (.map (some mb)) (.int .i64 s1) (.agg #[.slice Av xs.length cv, .bool b])).run Tryz.prog wa = .ok () wb := he2
  have he3 : (Instr.mapEntry 65 (.map (some mb)) (.int .u8 34)).run Tryz.prog wb = .ok (.tuple #[v2, .int .i64 s2]) wc := he3
  have he4 : (Instr.entryStore 65 (.map (some mb)) (.int .i64 s2) (.agg #[.slice Av xs.length cv, .bool b])).run Tryz.prog wc = .ok () wd := he4
  have hcell : ∀ {u u' : World} {k j : Nat} {z : Value}, u.mapTurned u' mb → k ≠ mb → k < u.heap.size → u.cell? ⟨k, j, none⟩ = some z → u'.cell? ⟨k, j, none⟩ = some z := fun ht hk hlt hz => (World.cell?_of_block (a := ⟨_, _, none⟩) (ht.grown.block _ hlt (fun e => hk (Option.some.inj e)))).trans hz
  have hR3 : R < w3.heap.size := blk_lt h3.1
  have hC3l : C < w3.heap.size := blk_lt hC3
  have hRm : R ≠ mb := h3.2.2
  have fa : wa.cell? ⟨R, 0, none⟩ = some (.map (some mb)) ∧ wa.cell? ⟨C, 0, none⟩ = some (.slice Av xs.length cv) ∧ wa.cell? ⟨C, 1, none⟩ = some (.bool b) := ⟨hcell ht1 hRm hR3 r3, hcell ht1 hCm hC3l x30, hcell ht1 hCm hC3l x31⟩
  have fb : wb.cell? ⟨R, 0, none⟩ = some (.map (some mb)) ∧ wb.cell? ⟨C, 0, none⟩ = some (.slice Av xs.length cv) ∧ wb.cell? ⟨C, 1, none⟩ = some (.bool b) := ⟨hcell ht2 hRm hR3 r3, hcell ht2 hCm hC3l x30, hcell ht2 hCm hC3l x31⟩
  have zb : w3.heap.size ≤ wb.heap.size := ht2.grown.size
  have fc : wc.cell? ⟨R, 0, none⟩ = some (.map (some mb)) ∧ wc.cell? ⟨C, 0, none⟩ = some (.slice Av xs.length cv) ∧ wc.cell? ⟨C, 1, none⟩ = some (.bool b) := ⟨hcell ht3 hRm (by omega) fb.1, hcell ht3 hCm (by omega) fb.2.1, hcell ht3 hCm (by omega) fb.2.2⟩
  have fd : wd.cell? ⟨R, 0, none⟩ = some (.map (some mb)) ∧ wd.cell? ⟨C, 0, none⟩ = some (.slice Av xs.length cv) ∧ wd.cell? ⟨C, 1, none⟩ = some (.bool b) := ⟨hcell ht4 hRm (by omega) fb.1, hcell ht4 hCm (by omega) fb.2.1, hcell ht4 hCm (by omega) fb.2.2⟩
  have hgr : w.grownBy wd (some mb) := by
    have g2 := ht2.grown
    have g4 := ht4.grown
    exact ⟨(g4.os.trans g2.os).trans hB3.os, (g4.tape.trans g2.tape).trans hB3.tape, (g4.output.trans g2.output).trans hB3.output, Nat.le_trans hB3.size (Nat.le_trans g2.size g4.size), fun k hk hne => ((g4.block k (Nat.lt_of_lt_of_le hk (Nat.le_trans hB3.size g2.size)) hne).trans (g2.block k (Nat.lt_of_lt_of_le hk hB3.size) hne)).trans (hB3.block k hk)⟩
  have hRd : wd.heap[R]? = some (.cells #[.map (some mb)] 67 (0, 0)) := (hgr.block R hRl (fun e => hRm (Option.some.inj e))).trans HH.out.1
  have HFIN := Lib.hid (And.intro (show Rg wd R mb (n + 2) (setR (setR ρ c (.agg #[.slice Av xs.length cv, .bool b])) 34 (.agg #[.slice Av xs.length cv, .bool b])) from ⟨hRd, hm5, hRm⟩) hgr)
  clear hs1 hs3 ht1 ht2 ht3 ht4 hm3 hm4 hm5 hcell hgr hRd hB3 hb3 h3 hC3 hS hal hCb hsz zb hlk
  go_wp2_with fail
  refine start_ (n := 17) (S := fun w' => w'.cell? ⟨R, 0, none⟩ = some (.map (some mb)) ∧ w'.cell? ⟨C, 0, none⟩ = some (.slice Av xs.length cv) ∧ w'.cell? ⟨C, 1, none⟩ = some (.bool b)) (ds := []) #[false, false, false, false, false, false, false, false, false, false, false, false, false, false, false, false, false] (by kernel_rfl) rfl rfl ⟨(by first | exact r3 | go_keep), (by first | exact x30 | go_keep), (by first | exact x31 | go_keep)⟩ (fun hHeld => ?_)
  refine pure_ (i := 0) (N := some 41) (v := ?_) (a' := ?_) #[true, false, false, false, false, false, false, false, false, false, false, false, false, false, false, false, false] rfl rfl (by kernel_rfl) (fun _ _ _ h => h) (Or.inl ⟨by rfl, ?_⟩) ?_ ?_
  rotate_left
  · intro w'
    go_simp
    with_reducible rfl
  rotate_left
  · simp only [Act.put, List.setIfInBounds_toArray, List.set_cons_zero, List.set_cons_succ]
    rfl
  refine pure_ (i := 1) (N := some 42) (v := ?_) (a' := ?_) #[true, true, false, false, false, false, false, false, false, false, false, false, false, false, false, false, false] rfl rfl (by kernel_rfl) (fun _ _ _ h => h) (Or.inl ⟨by rfl, ?_⟩) ?_ ?_
  rotate_left
  · intro w'
    go_simp
    with_reducible rfl
  rotate_left
  · simp only [Act.put, List.setIfInBounds_toArray, List.set_cons_zero, List.set_cons_succ]
    rfl
  refine pure_ (i := 2) (N := some 43) (v := ?_) (a' := ?_) #[true, true, true, false, false, false, false, false, false, false, false, false, false, false, false, false, false] rfl rfl (by kernel_rfl) (fun _ _ _ h => h) (Or.inl ⟨by rfl, ?_⟩) ?_ ?_
  rotate_left
  · intro w'
    go_simp
    with_reducible rfl
  rotate_left
  · simp only [Act.put, List.setIfInBounds_toArray, List.set_cons_zero, List.set_cons_succ]
    rfl
  refine pure_ (i := 4) (N := some 45) (v := ?_) (a' := ?_) #[true, true, true, false, true, false, false, false, false, false, false, false, false, false, false, false, false] rfl rfl (by kernel_rfl) (fun _ _ _ h => h) (Or.inl ⟨by rfl, ?_⟩) ?_ ?_
  rotate_left
  · intro w'
    go_simp
    with_reducible rfl
  rotate_left
  · simp only [Act.put, List.setIfInBounds_toArray, List.set_cons_zero, List.set_cons_succ]
    rfl
  refine pure_ (i := 5) (N := some 46) (v := ?_) (a' := ?_) #[true, true, true, false, true, true, false, false, false, false, false, false, false, false, false, false, false] rfl rfl (by kernel_rfl) (fun _ _ _ h => h) (Or.inl ⟨by rfl, ?_⟩) ?_ ?_
  rotate_left
  · intro w'
    go_simp
    with_reducible rfl
  rotate_left
  · simp only [Act.put, List.setIfInBounds_toArray, List.set_cons_zero, List.set_cons_succ]
    rfl
  refine pure_ (i := 6) (N := some 47) (v := ?_) (a' := ?_) #[true, true, true, false, true, true, true, false, false, false, false, false, false, false, false, false, false] rfl rfl (by kernel_rfl) (fun _ _ _ h => h) (Or.inl ⟨by rfl, ?_⟩) ?_ ?_
  rotate_left
  · intro w'
    go_simp
    with_reducible rfl
  rotate_left
  · simp only [Act.put, List.setIfInBounds_toArray, List.set_cons_zero, List.set_cons_succ]
    rfl
  refine pure_ (i := 7) (N := some 48) (v := ?_) (a' := ?_) #[true, true, true, false, true, true, true, true, false, false, false, false, false, false, false, false, false] rfl rfl (by kernel_rfl) (fun _ _ _ h => h) (Or.inl ⟨by rfl, ?_⟩) ?_ ?_
  rotate_left
  · intro w'
    go_simp
    with_reducible rfl
  rotate_left
  · simp only [Act.put, List.setIfInBounds_toArray, List.set_cons_zero, List.set_cons_succ]
    rfl
  refine take_ (i := 3) (N := some 44) (v := ?_) (a' := ?_) #[true, true, true, true, true, true, true, true, false, false, false, false, false, false, false, false, false] rfl rfl (by kernel_rfl) (fun _ _ _ h => h) (Or.inl ⟨by rfl, ?_⟩) hHeld ?_ ?_
  rotate_left
  · rintro w' ⟨s0, s1, s2⟩
    go_simp
    with_reducible rfl
  rotate_left
  · simp only [Act.put, List.setIfInBounds_toArray, List.set_cons_zero, List.set_cons_succ]
    rfl
  refine take_ (i := 8) (N := some 49) (v := ?_) (a' := ?_) #[true, true, true, true, true, true, true, true, true, false, false, false, false, false, false, false, false] rfl rfl (by kernel_rfl) (fun _ _ _ h => h) (Or.inl ⟨by rfl, ?_⟩) hHeld ?_ ?_
  rotate_left
  · rintro w' ⟨s0, s1, s2⟩
    go_simp
    with_reducible rfl
  rotate_left
  · simp only [Act.put, List.setIfInBounds_toArray, List.set_cons_zero, List.set_cons_succ]
    rfl
  refine take_ (i := 9) (N := some 50) (v := ?_) (a' := ?_) #[true, true, true, true, true, true, true, true, true, true, false, false, false, false, false, false, false] rfl rfl (by kernel_rfl) (fun _ _ _ h => h) (Or.inl ⟨by rfl, ?_⟩) hHeld ?_ ?_
  rotate_left
  · rintro w' ⟨s0, s1, s2⟩
    go_simp
    with_reducible rfl
  rotate_left
  · simp only [Act.put, List.setIfInBounds_toArray, List.set_cons_zero, List.set_cons_succ]
    rfl
  refine take_ (i := 10) (N := some 51) (v := ?_) (a' := ?_) #[true, true, true, true, true, true, true, true, true, true, true, false, false, false, false, false, false] rfl rfl (by kernel_rfl) (fun _ _ _ h => h) (Or.inl ⟨by rfl, ?_⟩) hHeld ?_ ?_
  rotate_left
  · rintro w' ⟨s0, s1, s2⟩
    go_simp
    with_reducible rfl
  rotate_left
  · simp only [Act.put, List.setIfInBounds_toArray, List.set_cons_zero, List.set_cons_succ]
    rfl
  refine one_ (i := 11) (N := some 52) #[true, true, true, true, true, true, true, true, true, true, true, true, false, false, false, false, false] rfl rfl (by kernel_rfl) (by decide) (fun K hK => ?_)
  refine value_ (w1 := ?_) (v := ?_) (by rfl) rfl ?_ ?_
  rotate_left 2
  · go_simp
    constructor
    · rfl
    · rfl
  refine hK.out _ _ ⟨fa.1, fa.2.1, fa.2.2⟩ (fun hHeld => ?_)
  clear hK K
  refine norm_ (a' := ?_) ?_ ?_
  rotate_left
  · show Act.put _ (some 52) _ = _
    simp only [Act.put, List.setIfInBounds_toArray, List.set_cons_zero, List.set_cons_succ]
    rfl
  refine pure_ (i := 12) (N := some 53) (v := ?_) (a' := ?_) #[true, true, true, true, true, true, true, true, true, true, true, true, true, false, false, false, false] rfl rfl (by kernel_rfl) (fun _ _ _ h => h) (Or.inl ⟨by rfl, ?_⟩) ?_ ?_
  rotate_left
  · intro w'
    go_simp
    with_reducible rfl
  rotate_left
  · simp only [Act.put, List.setIfInBounds_toArray, List.set_cons_zero, List.set_cons_succ]
    rfl
  refine one_ (i := 13) (N := none) #[true, true, true, true, true, true, true, true, true, true, true, true, true, true, false, false, false] rfl rfl (by kernel_rfl) (by decide) (fun K hK => ?_)
  refine skip_ (w1 := ?_) (by rfl) rfl ?_ ?_
  rotate_left
  · go_simp
    rfl
  refine hK.out _ _ ⟨fb.1, fb.2.1, fb.2.2⟩ (fun hHeld => ?_)
  clear hK K
  refine one_ (i := 14) (N := some 54) #[true, true, true, true, true, true, true, true, true, true, true, true, true, true, true, false, false] rfl rfl (by kernel_rfl) (by decide) (fun K hK => ?_)
  refine value_ (w1 := ?_) (v := ?_) (by rfl) rfl ?_ ?_
  rotate_left 2
  · go_simp
    constructor
    · rfl
    · rfl
  refine hK.out _ _ ⟨fc.1, fc.2.1, fc.2.2⟩ (fun hHeld => ?_)
  clear hK K
  refine norm_ (a' := ?_) ?_ ?_
  rotate_left
  · show Act.put _ (some 54) _ = _
    simp only [Act.put, List.setIfInBounds_toArray, List.set_cons_zero, List.set_cons_succ]
    rfl
  refine pure_ (i := 15) (N := some 55) (v := ?_) (a' := ?_) #[true, true, true, true, true, true, true, true, true, true, true, true, true, true, true, true, false] rfl rfl (by kernel_rfl) (fun _ _ _ h => h) (Or.inl ⟨by rfl, ?_⟩) ?_ ?_
  rotate_left
  · intro w'
    go_simp
    with_reducible rfl
  rotate_left
  · simp only [Act.put, List.setIfInBounds_toArray, List.set_cons_zero, List.set_cons_succ]
    rfl
  refine one_ (i := 16) (N := none) #[true, true, true, true, true, true, true, true, true, true, true, true, true, true, true, true, true] rfl rfl (by kernel_rfl) (by decide) (fun K hK => ?_)
  refine skip_ (w1 := ?_) (by rfl) rfl ?_ ?_
  rotate_left
  · go_simp
    rfl
  refine hK.out _ _ ⟨fd.1, fd.2.1, fd.2.2⟩ (fun hHeld => ?_)
  clear hK K
  refine done_ (by kernel_rfl) ?_
  go_wp2
  go_ret
  exact ⟨rfl, HFIN.out.1, HFIN.out.2⟩
end Go.Proofs.YtoejfgmfdjoonaaGreatDoor
