import Derived.Test.YtdhemdeapphfoaaGreatDoorProg
import Derived.Maps.OwnSet
import Derived.Maps.RangeWalk
import Derived.WalkKit
import Derived.WalkSpells
import Derived.WalkLawsBesides
import Derived.Lib.Hide
import Derived.Deep.QuietTactic
import Derived.BigQuiet
import Derived.Shelf.SlMaps.Clone
set_option linter.unusedVariables false
set_option linter.unusedSimpArgs false

/- The walks of marks.New, Get and Set. -/
namespace Go.Proofs.YtdhemdeapphfoaaGreatDoor
open Go.RowKit Go.Maps

theorem law5 : Keyed Tryz.prog 5 := int_keyed Tryz.underlying5
theorem zero3 (w : World) : (zeroValue 3).run Tryz.prog w = .ok (.int .i64 0) w := by kernel_rfl

/-- the map's reading, with its keys -/
def Reads (D : DataW Unit) (f : Int → Int) : Prop :=
  ∀ x, 0 ≤ x → x ≤ 255 → D.atKey (.int .u8 x) (.lit (.int .i64 0)) = .lit (.int .i64 (f x)) ∧ Maps.has D (.int .u8 x) = decide (f x ≠ 0)

/-- a map in block b reads as the lines f, one for each byte (0: none) -/
def MapOf (w : World) (b n : Nat) (f : Int → Int) : Prop :=
  ∃ D : DataW Unit, w.ownsMap Tryz.prog 5 (plainElem Tryz.prog 3) b n D ∧ Reads D f

theorem bounds_u8 {x : Int} (h : (Lit.int .u8 x).wf = true) : 0 ≤ x ∧ x ≤ 255 := by
  simpa [Lit.wf, IntKind.min, IntKind.max, IntKind.signed, IntKind.bits] using h

theorem u8wf {x : Int} (h0 : 0 ≤ x) (h1 : x ≤ 255) : (Lit.int .u8 x).wf = true := by
  exact WalkArith.wf_u8 ⟨h0, h1⟩

theorem new_any (w : World) :
    Calls Tryz.prog 19 #[] w fun e w' => e = .returned (.pointer (some ⟨w.heap.size + 1, 0, none⟩)) ∧
      w' = (w.alloc (.map #[] 0)).alloc (.cells #[.map (some w.heap.size)] 93) := by
  have hmm := @run_makeMap Tryz.prog
  go_enter Tryz.func19, Tryz.ntmps19
  go_wp2
  go_ret
  exact ⟨rfl, rfl⟩

theorem hid_at {D : DataW Unit} {k : Lit} {z : DataW Unit} {a c : Int} (hf : Hid (D.atKey k z = .lit (.int .i64 a))) (hat : D.atKey k z = .lit (.int .i64 c)) : Hid (c = a) := by
  have := hf.out
  rw [hat] at this
  show c = a
  simpa using this

/-- what Get answers -/
def GetPost (f : Int → Int) (x : Int) (w : World) (e : Ending) (w' : World) : Prop :=
  e = .returned (.tuple #[.int .i64 (f x), .int .u16 (if f x = 0 then 100 else 0)]) ∧ w = w'

/-- what Set answers -/
def SetPost (mb n : Nat) (f : Int → Int) (x v : Int) (w : World) (e : Ending) (w' : World) : Prop :=
  if x < 97 ∨ 122 < x then e = .returned (.int .u16 100) ∧ w = w' else if v < 1 ∨ 2147483647 < v then e = .returned (.int .u16 1) ∧ w = w'
  else e = .returned (.int .u16 0) ∧ MapOf w' mb (n + 1) (fun y => if y = x then v else f y) ∧ w.mapTurned w' mb

set_option maxRecDepth 100000 in
theorem set_any (b mb n : Nat) (f : Int → Int) (x v : Int) (w : World) (c0 : w.cell? ⟨b, 0, none⟩ = some (.map (some mb)))
    (hm : MapOf w mb n f) (h0 : 0 ≤ x) (h1 : x ≤ 255) (hn : n < maxLen) :
    Calls Tryz.prog 148 #[.pointer (some ⟨b, 0, none⟩), .int .u8 x, .int .i64 v] w (SetPost mb n f x v w) := by
  obtain ⟨D, hown, hD⟩ := hm
  have hkey := keyOf_int_mk Tryz.underlying5 (u8wf h0 h1)
  have hf : Hid (Reads D f) := hD
  clear hD
  by_cases hx : x < 97 ∨ 122 < x
  · rcases hx with hx | hx
    all_goals
      go_enter Tryz.func148, Tryz.ntmps148
      go_wp2
      go_ret
      unfold SetPost
      rw [if_pos (by omega)]
      exact ⟨rfl, rfl⟩
  · by_cases hv : v < 1 ∨ 2147483647 < v
    · rcases hv with hv | hv
      all_goals
        go_enter Tryz.func148, Tryz.ntmps148
        go_wp2
        go_ret
        unfold SetPost
        rw [if_neg (by omega), if_pos (by omega)]
        exact ⟨rfl, rfl⟩
    · have hwv : (Lit.int .i64 v).wf = true := WalkArith.wf_i64 (by omega)
      go_enter Tryz.func148, Tryz.ntmps148
      go_wp2_with (first
        | (at_mapUpdate; refine wpList_mapUpdate_in _ rfl _ _ _ 91 rfl 5 3 law5 Tryz.underlying91 _ mb n D rfl hown hn _ _ _ rfl rfl hkey _ [] (plainElem_int Tryz.underlying3 hwv) ?_; intro w1 hown1 hturn1)
        | go_in)
      go_ret
      unfold SetPost
      rw [if_neg (by omega), if_neg (by omega)]
      refine ⟨rfl, ⟨_, hown1, ?_⟩, hturn1⟩
      intro y y0 y1
      by_cases hy : y = x
      · subst hy
        rw [atKey_put_same hown.isMap (law5.key hkey), has_put_same hown.isMap (law5.key hkey)]
        have : v ≠ 0 := by omega
        simp [this]
      · rw [atKey_put_other (by simpa using hy), has_put_other (by simpa using hy)]
        simp only [hy, if_false]
        exact hf.out y y0 y1

end Go.Proofs.YtdhemdeapphfoaaGreatDoor

/- A store at a key that is there, into the map that is ranged over: the loop's word stays. -/
namespace Go
open Go.ChangeMaps Go.MapKept Go.WideShapes
open Go.WideElems (Fit rd rg pl rd_key rd_val rg_of other_key)
open Go.Maps (Keyed)

section
variable {H : Type} {P : Program} {k : TypeId} {R : Value → Option (DataW H × List MemPlace)} {w : World} {b r n : Nat} {D : DataW H} {left : Lit → Bool} {cnt : Nat}

theorem setBlock_inj {w : World} {b : Nat} {o0 o o' : Obj} (hb : w.heap[b]? = some o0) (h : setBlock w b o = setBlock w b o') : o = o' := by
  have hlt : b < w.heap.size := (Array.getElem?_eq_some_iff.1 hb).1
  have h1 : (setBlock w b o).heap[b]? = (setBlock w b o').heap[b]? := by rw [h]
  simp [setBlock, Array.getElem?_setIfInBounds, hlt] at h1
  exact h1

theorem World.ranges.store {t e : TypeId} (h : w.ranges P k R b r n D left cnt) (K : Keyed P k) (ht : P.underlying t = some (.map k e)) (hn : n < maxLen) {key val : Value} {kl : Lit} {d : DataW H} {ps : List MemPlace}
    (hkey : keyOf P k key = some kl) (hv : R val = some (d, ps)) (hhas : Maps.has D kl = true) :
    ∃ w', (Instr.mapUpdate t (.map (some b)) key val).run P w = .ok () w' ∧ w'.ranges P k R b r n (D.put kl d) left cnt ∧ w.mapTurned w' b := by
  have hne := h.ne
  obtain ⟨es, clock, since, seen, c0, hb, F, hs, rfl, hr, hold, hcnt, hl1, hl2, hsc, hsk⟩ := h
  obtain ⟨es', clock', hrun, F', hput, _⟩ := Maps.fit_store (R' := R) K ht hb F (Nat.lt_of_le_of_lt hs hn) (fun _ _ _ _ hz => hz) hkey hv
  have hnone : ¬ ∀ x ∈ es.toList, x.key ≠ key := by
    intro hall
    obtain ⟨p, hp, hpk⟩ := List.any_eq_true.1 hhas
    obtain ⟨x, hx, rfl⟩ := List.mem_map.1 (mem_sorted.1 hp)
    obtain ⟨y, hy⟩ := F.reads x hx
    have m1 := rd_key hy
    have e1 := WideAt.sameKey_eq hpk
    rw [rg_of hy] at e1
    rw [e1] at m1
    exact hall x hx (K.inj m1 hkey)
  rcases K.find w hkey es.toList F.keys with ⟨h1, h2⟩ | ⟨j, e0, h1, h2, h3⟩
  · exact absurd h2 hnone
  · have hj : es[j]? = some e0 := by simpa using h2
    have hrun2 : (Instr.mapUpdate t (.map (some b)) key val).run P w = .ok () (setBlock w b (.map (es.modify j (fun e' => { e' with key := key, val := val })) clock)) := by
      simp [Instr.mapUpdate, run_underlying ht, MapKept.run_getObj_map hb, K.check w false hkey, h1, hj, h3, K.stays w hkey, MapKept.run_setObj_map _ hb, Result.andThen, setBlock]
    have hsame : setBlock w b (.map es' clock') = setBlock w b (.map (es.modify j (fun e' => { e' with key := key, val := val })) clock) := by
      rw [hrun] at hrun2
      exact (Result.ok.inj hrun2).2
    have hobj := setBlock_inj hb hsame
    have hes : es' = es.modify j (fun e' => { e' with key := key, val := val }) := (Obj.map.inj hobj).1
    have hcl : clock' = clock := (Obj.map.inj hobj).2
    have hjl : j < es.toList.length := (List.getElem?_eq_some_iff.1 h2).1
    have hlist : es'.toList = es.toList.set j { e0 with key := key, val := val } := by rw [hes, Array.toList_modify, modify_eq_set _ _ _ _ h2]
    have hm0 : e0 ∈ es.toList := List.mem_of_getElem? h2
    have hborn : ∀ i : Nat, (es'.toList[i]?).map MapEntry.born = (es.toList[i]?).map MapEntry.born := by
      intro i
      by_cases hji : j = i
      · subst hji
        rw [hlist, List.getElem?_set_self hjl, h2]
        rfl
      · rw [hlist, List.getElem?_set_ne hji]
    have hborns : es'.toList.map MapEntry.born = es.toList.map MapEntry.born := by
      apply List.ext_getElem?
      intro i
      simpa using hborn i
    have hkeys : ∀ i : Nat, (es'.toList[i]?).map MapEntry.key = (es.toList[i]?).map MapEntry.key := by
      intro i
      by_cases hji : j = i
      · subst hji
        rw [hlist, List.getElem?_set_self hjl, h2]
        exact congrArg some h3.symm
      · rw [hlist, List.getElem?_set_ne hji]
    have pair : ∀ x' ∈ es'.toList, ∃ x ∈ es.toList, x.born = x'.born ∧ x.key = x'.key := by
      intro x' hx'
      obtain ⟨i, hi⟩ := List.getElem?_of_mem hx'
      have b1 := hborn i
      have k1 := hkeys i
      rw [hi] at b1 k1
      cases hx : es.toList[i]? with
      | none => rw [hx] at b1; cases b1
      | some x =>
        rw [hx] at b1 k1
        exact ⟨x, List.mem_of_getElem? hx, (Option.some.inj b1).symm, (Option.some.inj k1).symm⟩
    have pair2 : ∀ x ∈ es.toList, ∃ x' ∈ es'.toList, x.born = x'.born ∧ x.key = x'.key := by
      intro x hx
      obtain ⟨i, hi⟩ := List.getElem?_of_mem hx
      have b1 := hborn i
      have k1 := hkeys i
      rw [hi] at b1 k1
      cases hx' : es'.toList[i]? with
      | none => rw [hx'] at b1; cases b1
      | some x' =>
        rw [hx'] at b1 k1
        exact ⟨x', List.mem_of_getElem? hx', (Option.some.inj b1).symm, (Option.some.inj k1).symm⟩
    have keyeq : ∀ x ∈ es.toList, ∀ x' ∈ es'.toList, x.key = x'.key → (rg P k R x).1 = (rg P k R x').1 := by
      intro x hx x' hx' hk
      obtain ⟨y, hy⟩ := F.reads x hx
      obtain ⟨y', hy'⟩ := F'.reads x' hx'
      rw [rg_of hy, rg_of hy']
      have m1 := rd_key hy
      have m2 := rd_key hy'
      rw [hk, m2] at m1
      exact (Option.some.inj m1).symm
    have hlt : b < w.heap.size := (Array.getElem?_eq_some_iff.1 hb).1
    refine ⟨_, hrun, ⟨es', clock', since, seen, c0, heap_setBlock_same hb _, F', ?_, by rw [DataW.put_eq, hput], (heap_setBlock_other hb _ hne).trans hr, ?_, ?_, ?_, ?_, hsc, by rw [hcl]; exact hsk⟩, ⟨es, clock, es', clock', hb, rfl⟩⟩
    · have : es'.size = es.size := by
        have := congrArg List.length hborns
        simpa using this
      omega
    · intro x' hx'
      obtain ⟨x, hx, hbx, _⟩ := pair x' hx'
      rw [← hbx]
      exact hold x hx
    · rw [← hcnt]
      have e1 : ∀ a : Array MapEntry, (leftOf a seen).size = ((a.toList.map MapEntry.born).filter fun e => !seen.contains e).length := fun a => by
        unfold leftOf
        rw [← Array.length_toList, Array.toList_filter, List.filter_map, List.length_map]
        rfl
      rw [e1, e1, hborns]
    · intro x' hx'
      obtain ⟨x, hx, hbx, hkx⟩ := pair x' hx'
      rw [← keyeq x hx x' hx' hkx, hl1 x hx, hbx]
    · intro kl' hkl'
      obtain ⟨x, hx, hxk⟩ := hl2 kl' hkl'
      obtain ⟨x', hx', _, hkx⟩ := pair2 x hx
      exact ⟨x', hx', by rw [← keyeq x hx x' hx' hkx, hxk]⟩

/-- 'm[k] = v' AT A KEY THAT IS THERE, IN THE ROUND. -/
theorem wpList_mapUpdate_ranges {ops : Array Oper} {rest : List Oper} {o : Oper} {a : Act} {Q : Exit → Act → World → Prop} (hg : o.guard = none) (m x v : Operand) (t k : TypeId) (hop : o.op = Op.mapUpdate t m x v)
    (e : TypeId) (K : Keyed P k) (ht : P.underlying t = some (.map k e)) (R : Value → Option (DataW H × List MemPlace)) (b r n : Nat) (D : DataW H) (left : Lit → Bool) (cnt : Nat) (hn : n < maxLen)
    (hm : a.eval m = .map (some b)) (h : w.ranges P k R b r n D left cnt) (key val : Value) (kl : Lit) (hx : a.eval x = key) (hvv : a.eval v = val) (hkey : keyOf P k key = some kl)
    (d : DataW H) (ps : List MemPlace) (hv : R val = some (d, ps)) (hhas : Maps.has D kl = true)
    (hK : ∀ w', w'.ranges P k R b r n (D.put kl d) left cnt → w.mapTurned w' b → wpList P ops Q rest (a.put o.dst undef) w') :
    wpList P ops Q (o :: rest) a w := by
  refine wpList_plain hg fun K' hK' => ?_
  obtain ⟨w', hrun, r1, r2⟩ := h.store K ht hn hkey hv hhas
  unfold Oper.wp
  simp [execOp, hop, hm, hx, hvv, hrun, Result.andThen]
  exact hK' _ _ (hK w' r1 r2)

end
end Go

/- marks: each. -/
namespace Go.Proofs.YtdhemdeapphfoaaGreatDoor
open Go.RowKit Go.Maps

theorem enter_run {P : Program} {f : FuncId} {fn : Func} (hf : P.funcs[f]? = some fn) (hn : (fn.name == "runtime.NumGoroutine") = false) (hb : fn.body.isSome = true) (args : Array Value) (w : World) :
    (callFunc f args).run P w = .ok (.enter f args) w := by
  have h1 : fn.name ≠ "runtime.NumGoroutine" := by simpa using hn
  obtain ⟨c, hc⟩ := Option.isSome_iff_exists.1 hb
  simp [callFunc, hf, h1, hc]

theorem has_of {D : DataW Unit} {left : Lit → Bool} {f h : Int → Int} {x c : Int} (HX : Hid (left (.int .u8 x) = true)) (HA : Hid (∀ zd, D.atKey (.int .u8 x) zd = .lit (.int .i64 c)))
    (hR : Hid (Reads D (fun x => if left (.int .u8 x) = true then f x else h x))) (hL : Hid (∀ x, 0 ≤ x → x ≤ 255 → left (.int .u8 x) = true → f x ≠ 0)) (h0 : 0 ≤ x) (h1 : x ≤ 255) :
    Hid (Maps.has D (.int .u8 x) = true ∧ f x = c) := by
  obtain ⟨a1, a2⟩ := hR.out x h0 h1
  have hx := HX.out
  simp only [hx, if_true] at a1 a2
  rw [HA.out] at a1
  refine ⟨by rw [a2]; simpa using hL.out x h0 h1 hx, ?_⟩
  simpa using a1.symm

def EachRel (mb n r : Nat) (f g : Int → Int) (w wr : World) : Prop :=
  ∃ (D : DataW Unit) (left : Lit → Bool) (cnt : Nat), wr.ranges Tryz.prog 5 (plainElem Tryz.prog 3) mb r n D left cnt ∧ w.grownBy wr (some mb) ∧
    Reads D (fun x => if left (.int .u8 x) = true then f x else if f x = 0 then 0 else g (f x)) ∧ ∀ x, 0 ≤ x → x ≤ 255 → left (.int .u8 x) = true → f x ≠ 0

theorem EachRel.start {mb n r cnt : Nat} {f g : Int → Int} {w wr : World} {D : DataW Unit} (hD : Reads D f) (hrg : wr.ranges Tryz.prog 5 (plainElem Tryz.prog 3) mb r n D (Maps.has D) cnt) (hg : w.grownBy wr (some mb)) :
    EachRel mb n r f g w wr := by
  refine ⟨D, _, _, hrg, hg, ?_, ?_⟩
  · intro x h0 h1
    obtain ⟨a1, a2⟩ := hD x h0 h1
    have : (if Maps.has D (.int .u8 x) = true then f x else if f x = 0 then 0 else g (f x)) = f x := by
      rw [a2]
      by_cases hf : f x = 0 <;> simp [hf]
    have key : ∀ v, v = f x → (D.atKey (.int .u8 x) (.lit (.int .i64 0)) = .lit (.int .i64 v) ∧ Maps.has D (.int .u8 x) = decide (v ≠ 0)) := by
      intro v hv
      rw [hv]
      exact ⟨a1, a2⟩
    exact key _ this
  · intro x h0 h1 h
    rw [(hD x h0 h1).2] at h
    simpa using h

theorem EachRel.done {f g : Int → Int} {D : DataW Unit} {left : Lit → Bool} (hl : ∀ kl, left kl = false) (hR : Reads D (fun x => if left (.int .u8 x) = true then f x else if f x = 0 then 0 else g (f x))) :
    Reads D (fun x => if f x = 0 then 0 else g (f x)) := by
  intro x h0 h1
  have := hR x h0 h1
  simpa [hl] using this

theorem EachRel.del {mb n r cnt : Nat} {f g : Int → Int} {w wr : World} {D : DataW Unit} {left : Lit → Bool} {x : Int}
    (hrg : wr.ranges Tryz.prog 5 (plainElem Tryz.prog 3) mb r n (D.del (.int .u8 x)) (fun z => left z && !z.sameKey (.int .u8 x)) cnt) (hg : w.grownBy wr (some mb))
    (hR : Reads D (fun x => if left (.int .u8 x) = true then f x else if f x = 0 then 0 else g (f x))) (hL : ∀ x, 0 ≤ x → x ≤ 255 → left (.int .u8 x) = true → f x ≠ 0)
    (hx : left (.int .u8 x) = true) (h0 : 0 ≤ x) (h1 : x ≤ 255) (hgx : g (f x) = 0) : EachRel mb n r f g w wr := by
  refine ⟨_, _, _, hrg, hg, ?_, ?_⟩
  · intro y y0 y1
    by_cases hy : y = x
    · subst hy
      have hs : (Lit.int IntKind.u8 y).sameKey (.int .u8 y) = true := WideAt.sameKey_self trivial
      simp only [hs, Bool.not_true, Bool.and_false, Bool.false_eq_true, if_false]
      rw [atKey_del_same, has_del_same, hgx]
      simp
    · have hs : (Lit.int IntKind.u8 y).sameKey (.int .u8 x) = false := Maps.sameKey_ne (by simpa using hy)
      simp only [hs, Bool.not_false, Bool.and_true]
      rw [atKey_del_other (by simpa using hy), has_del_other (by simpa using hy)]
      exact hR y y0 y1
  · intro y y0 y1 h
    simp only [Bool.and_eq_true] at h
    exact hL y y0 y1 h.1

theorem EachRel.put {mb n r cnt : Nat} {f g : Int → Int} {w wr : World} {D : DataW Unit} {left : Lit → Bool} {x : Int} (hm : IsMap D)
    (hrg : wr.ranges Tryz.prog 5 (plainElem Tryz.prog 3) mb r n (D.put (.int .u8 x) (.lit (.int .i64 (g (f x))))) (fun z => left z && !z.sameKey (.int .u8 x)) cnt) (hg : w.grownBy wr (some mb))
    (hR : Reads D (fun x => if left (.int .u8 x) = true then f x else if f x = 0 then 0 else g (f x))) (hL : ∀ x, 0 ≤ x → x ≤ 255 → left (.int .u8 x) = true → f x ≠ 0)
    (hx : left (.int .u8 x) = true) (h0 : 0 ≤ x) (h1 : x ≤ 255) (hgx : g (f x) ≠ 0) : EachRel mb n r f g w wr := by
  refine ⟨_, _, _, hrg, hg, ?_, ?_⟩
  · intro y y0 y1
    by_cases hy : y = x
    · subst hy
      have hs : (Lit.int IntKind.u8 y).sameKey (.int .u8 y) = true := WideAt.sameKey_self trivial
      simp only [hs, Bool.not_true, Bool.and_false, Bool.false_eq_true, if_false]
      rw [atKey_put_same hm (k := .int .u8 y) trivial, has_put_same hm (k := .int .u8 y) trivial]
      have := hL y y0 y1 hx
      simp [this, hgx]
    · have hs : (Lit.int IntKind.u8 y).sameKey (.int .u8 x) = false := Maps.sameKey_ne (by simpa using hy)
      simp only [hs, Bool.not_false, Bool.and_true]
      rw [atKey_put_other (by simpa using hy), has_put_other (by simpa using hy)]
      exact hR y y0 y1
  · intro y y0 y1 h
    simp only [Bool.and_eq_true] at h
    exact hL y y0 y1 h.1

set_option maxRecDepth 100000 in
theorem each_any (b mb n : Nat) (f g : Int → Int) (K : Nat) (caps : Array Value) (w : World) (c0 : w.cell? ⟨b, 0, none⟩ = some (.map (some mb))) (hbm : b ≠ mb)
    (D : DataW Unit) (hown : w.ownsMap Tryz.prog 5 (plainElem Tryz.prog 3) mb n D) (hD : Reads D f)
    (hn : n < maxLen) (hgwf : ∀ i, (Lit.int .i64 i).wf = true → (Lit.int .i64 (g i)).wf = true) (hE : ∀ (args : Array Value) (w : World), (callFunc K args).run Tryz.prog w = .ok (.enter K args) w)
    (hcall : ∀ i w', w.grownBy w' (some mb) → Calls Tryz.prog K (#[.int .i64 i] ++ caps) w' fun e w'' => e = .returned (.int .i64 (g i)) ∧ w' = w'') :
    Calls Tryz.prog 125 #[.pointer (some ⟨b, 0, none⟩), .func (.func K) #[] caps] w fun e w' => e = .returned (.tuple #[]) ∧ 
      ∃ D', w'.ownsMap Tryz.prog 5 (plainElem Tryz.prog 3) mb n D' ∧ Reads D' (fun x => if f x = 0 then 0 else g (f x)) ∧ w.grownBy w' (some mb) := by
  have HD : Hid (Reads D f) := hD
  clear hD
  have HC : Hid (∀ i w', w.grownBy w' (some mb) → Calls Tryz.prog K (#[.int .i64 i] ++ caps) w' fun e w'' => e = .returned (.int .i64 (g i)) ∧ w' = w'') := hcall
  clear hcall
  go_enter Tryz.func125, Tryz.ntmps125
  go_wp2_with (first
    | (at_range; refine wpList_range_own _ rfl _ 91 rfl 5 3 law5 Tryz.underlying91 _ mb n _ rfl hown ?_; intro w0 hrg0 hg0 hs0)
    | go_in)
  go_frame
  go_loopw [4] (fun _ wr => EachRel mb n w.heap.size f g w wr)
    (fun _ wr => wr.rangeLeft mb w.heap.size)
  case atStart => exact EachRel.start HD.out hrg0 (hg0.but _)
  case round =>
    obtain ⟨D1, left, cnt, hrg, hgw, hR0, hL0⟩ := hrel
    have hR : Hid (Reads D1 (fun x => if left (.int .u8 x) = true then f x else if f x = 0 then 0 else g (f x))) := hR0
    have hL : Hid (∀ x, 0 ≤ x → x ≤ 255 → left (.int .u8 x) = true → f x ≠ 0) := hL0
    clear hR0 hL0
    go_wp2_with (first
      | (at_next; refine wpList_next_ranges_ii _ rfl _ rfl 5 3 .u8 .i64 law5 Tryz.underlying5 Tryz.underlying3 mb w.heap.size n _ _ _ rfl hrg ?_ ?_)
      | go_in)
    · intro _ hl0
      have HL : Hid (∀ kl, left kl = false) := hl0
      clear hl0
      go_wp2
      go_end0
      exact ⟨rfl, D1, hrg.owns, EachRel.done HL.out hR.out, hgw⟩
    · intro x c w1 cnt1 hwx hwc hlx hat hrg1 hlt hg1 hs1 hen
      have hgw1 := hgw.andThen hg1 (fun j hj => by cases hj; exact Or.inl (Nat.le_refl _))
      have HA : Hid (∀ zd, D1.atKey (.int .u8 x) zd = .lit (.int .i64 c)) := hat
      have HX : Hid (left (.int .u8 x) = true) := hlx
      clear hat hlx
      have hb1 : Hid (b < w.heap.size) := by
        cases Nat.lt_or_ge b w.heap.size with
        | inl h => exact h
        | inr h => simp [World.cell?, Array.getElem?_eq_none h] at c0
      have c1 : w1.cell? ⟨b, 0, none⟩ = some (.map (some mb)) := by
        rw [World.cell?_of_block (w := w) (hgw1.block b hb1.out (by simpa using hbm))]
        exact c0
      have HK := keyOf_int_mk Tryz.underlying5 hwx
      have hu8 : Hid (0 ≤ x ∧ x ≤ 255) := bounds_u8 hwx
      have HH : Hid (Maps.has D1 (.int .u8 x) = true ∧ f x = c) := has_of HX HA hR hL hu8.out.1 hu8.out.2
      go_wp2_with (first
        | ((with_reducible refine (HC.out c w1 hgw1).mono ?_); rintro e w' ⟨rfl, rfl⟩)
        | (at_delete; refine wpList_delete_ranges _ rfl _ _ 91 5 rfl 3 law5 Tryz.underlying91 _ mb w.heap.size n _ _ _ rfl hrg1 _ _ rfl HK ?_; intro w2 cnt2 hrg2 hle hturn; go_frame)
        | (at_mapUpdate; refine wpList_mapUpdate_ranges rfl _ _ _ 91 5 rfl 3 law5 Tryz.underlying91 _ mb w.heap.size n _ _ _ hn rfl hrg1 _ _ _ rfl rfl HK _ [] (plainElem_int Tryz.underlying3 (hgwf c hwc)) HH.out.1 ?_; intro w2 hrg2 hturn; go_frame)
        | go_in)
      · have hc0 : g c = 0 := by simpa using (by assumption : (g c == 0) = true)
        rw [strike_twice] at hrg2
        have hfx := HH.out.2
        go_roundw
        case rel => exact EachRel.del hrg2 (hgw1.andThen hturn.grown (fun j hj => by cases hj; exact Or.inr rfl)) hR.out hL.out HX.out hu8.out.1 hu8.out.2 (by rw [hfx]; exact hc0)
        case measure => rw [hrg2.left_eq, hrg.left_eq]; omega
      · have hc0 : g c ≠ 0 := by simpa using (by assumption : (g c == 0) = false)
        have hfx := HH.out.2
        go_roundw
        case rel => exact EachRel.put hrg1.owns.isMap (by rw [hfx]; exact hrg2) (hgw1.andThen hturn.grown (fun j hj => by cases hj; exact Or.inr rfl)) hR.out hL.out HX.out hu8.out.1 hu8.out.2 (by rw [hfx]; exact hc0)
        case measure => rw [hrg2.left_eq, hrg.left_eq]; omega

end Go.Proofs.YtdhemdeapphfoaaGreatDoor

/- marks: Splice. -/
namespace Go.Proofs.YtdhemdeapphfoaaGreatDoor
open Go.RowKit Go.Maps

theorem ret_int {k : IntKind} {a b : Int} (h : a = b) : Ending.returned (.int k a) = .returned (.int k b) := by rw [h]

/-- where a line goes when lines are put in the place of n from one on -/
def splG (line n lines i : Int) : Int :=
  if wrap64 (i - line) < 0 ∨ wrap64 (i - line) < min n lines then i else if wrap64 (i - line) < n then 0 else wrap64 (wrap64 (i - n) + lines)

theorem spliceFn_any (i line n lines : Int) (b1 b2 b3 : Nat) (w : World) (c1 : w.cell? ⟨b1, 0, none⟩ = some (.int .i64 line)) (c2 : w.cell? ⟨b2, 0, none⟩ = some (.int .i64 n)) (c3 : w.cell? ⟨b3, 0, none⟩ = some (.int .i64 lines)) :
    Calls Tryz.prog 126 #[.int .i64 i, .pointer (some ⟨b1, 0, none⟩), .pointer (some ⟨b2, 0, none⟩), .pointer (some ⟨b3, 0, none⟩)] w fun e w' => e = .returned (.int .i64 (splG line n lines i)) ∧ w = w' := by
  go_enter Tryz.func126, Tryz.ntmps126
  go_wp2
  all_goals
    go_ret
    refine ⟨ret_int ?_, rfl⟩
    unfold splG
    first
      | rw [if_pos (by omega)]
      | rw [if_neg (by omega), if_pos (by omega)]
      | rw [if_neg (by omega), if_neg (by omega)]

def SplicePost (mb n : Nat) (f : Int → Int) (line m lines : Int) (w : World) (e : Ending) (w' : World) : Prop :=
  e = .returned (.tuple #[]) ∧ w.grownBy w' (some mb) ∧
    MapOf w' mb n (if line < 1 ∨ m < 0 ∨ lines < 0 ∨ 2147483647 < line ∨ 2147483647 < m ∨ 2147483647 < lines then f else fun x => if f x = 0 then 0 else splG line m lines (f x))

theorem MapOf.lt {w : World} {b n : Nat} {f : Int → Int} (h : MapOf w b n f) : b < w.heap.size := by
  obtain ⟨D, hown, _⟩ := h
  exact hown.lt

theorem MapOf.grown {w w' : World} {b n : Nat} {f : Int → Int} {row : Option Nat} (h : MapOf w b n f) (hg : w.grownBy w' row) (hr : row ≠ some b) : MapOf w' b n f := by
  obtain ⟨D, hown, hD⟩ := h
  exact ⟨D, hown.kept hg (by simpa using fun e => hr e.symm), hD⟩

/-- the three boxed numbers -/
abbrev box3 (w : World) (x y z : Int) : World := ((w.alloc (.cells #[.int .i64 x] 3)).alloc (.cells #[.int .i64 y] 3)).alloc (.cells #[.int .i64 z] 3)

def EachPost (mb n : Nat) (f : Int → Int) (g : Int → Int) (w : World) (w' : World) : Prop :=
  w.grownBy w' (some mb) ∧ MapOf w' mb n (fun x => if f x = 0 then 0 else g (f x))

theorem grown_alloc (w : World) (o : Obj) (row : Option Nat) : w.grownBy (w.alloc o) row := World.grownBy_alloc w o row

theorem splG_wf (line n lines i : Int) (hi : (Lit.int .i64 i).wf = true) : (Lit.int .i64 (splG line n lines i)).wf = true := by
  unfold splG
  split
  · exact hi
  · split
    · decide
    · exact wrap64_wf _

theorem each_splice (b mb n : Nat) (f : Int → Int) (line m lines : Int) (w : World) (c0 : w.cell? ⟨b, 0, none⟩ = some (.map (some mb))) (hbm : b ≠ mb) (hm : MapOf w mb n f) (hn : n < maxLen) :
    Calls Tryz.prog 125 #[.pointer (some ⟨b, 0, none⟩), .func (.func 126) #[] #[.pointer (some ⟨w.heap.size, 0, none⟩), .pointer (some ⟨w.heap.size + 1, 0, none⟩), .pointer (some ⟨w.heap.size + 2, 0, none⟩)]]
      (box3 w line m lines) fun e w' => e = .returned (.tuple #[]) ∧ EachPost mb n f (splG line m lines) w w' := by
  obtain ⟨D, hown, hD⟩ := hm
  have hb : b < w.heap.size := by
    cases Nat.lt_or_ge b w.heap.size with
    | inl h => exact h
    | inr h => simp [World.cell?, Array.getElem?_eq_none h] at c0
  have hmb := hown.lt
  have hcells : ∀ w', (box3 w line m lines).grownBy w' (some mb) → w'.cell? ⟨w.heap.size, 0, none⟩ = some (.int .i64 line) ∧ w'.cell? ⟨w.heap.size + 1, 0, none⟩ = some (.int .i64 m) ∧ w'.cell? ⟨w.heap.size + 2, 0, none⟩ = some (.int .i64 lines) := by
    intro w' hg
    refine ⟨?_, ?_, ?_⟩
    · rw [World.cell?_of_block (w := box3 w line m lines) (hg.block _ (by simp [box3]; omega) (by simp; omega))]
      go_simp
    · rw [World.cell?_of_block (w := box3 w line m lines) (hg.block _ (by simp [box3]) (by simp; omega))]
      go_simp
    · rw [World.cell?_of_block (w := box3 w line m lines) (hg.block _ (by simp [box3]) (by simp; omega))]
      go_simp
  have hgw : w.grownBy (box3 w line m lines) none := ((grown_alloc w _ none).trans (grown_alloc _ _ none)).trans (grown_alloc _ _ none)
  have c1 : (box3 w line m lines).cell? ⟨b, 0, none⟩ = some (.map (some mb)) := by
    rw [World.cell?_of_block (w := w) (hgw.block b hb (by simp))]
    exact c0
  refine (each_any b mb n f (splG line m lines) _ _ _ c1 hbm D (hown.kept hgw (by simp)) hD hn (fun i hi => splG_wf line m lines i hi)
    (enter_run Tryz.func126 (by kernel_rfl) rfl) (fun i w' hg => ?_)).mono ?_
  · obtain ⟨k1, k2, k3⟩ := hcells w' hg
    exact spliceFn_any i line m lines _ _ _ w' k1 k2 k3
  · rintro e w' ⟨he, D', hown', hD', hg'⟩
    exact ⟨he, (hgw.but (some mb)).trans hg', D', hown', hD'⟩

theorem splice_any (b mb n : Nat) (f : Int → Int) (line m lines : Int) (w : World) (c0 : w.cell? ⟨b, 0, none⟩ = some (.map (some mb))) (hbm : b ≠ mb)
    (hm : MapOf w mb n f) (hn : n < maxLen) :
    Calls Tryz.prog 83 #[.pointer (some ⟨b, 0, none⟩), .int .i64 line, .int .i64 m, .int .i64 lines] w (SplicePost mb n f line m lines w) := by
  have HM : Hid (MapOf w mb n f) := hm
  clear hm
  go_enter Tryz.func83, Tryz.ntmps83
  go_wp2_with (first
    | (go_at_call 125; (refine (each_splice b mb n f line m lines w c0 hbm HM.out hn).mono ?_); rintro e w' ⟨rfl, hpost⟩; have HP := Lib.hid hpost; clear hpost)
    | go_in)
  all_goals go_end0
  all_goals first
    | exact ⟨rfl, HP.out.1, by rw [if_neg (by omega)]; exact HP.out.2⟩
    | exact ⟨rfl, ((grown_alloc w _ _).trans (grown_alloc _ _ _)).trans (grown_alloc _ _ _), by
        rw [if_pos (by omega)]
        exact ((HM.out.grown (grown_alloc w _ none) (by simp)).grown (grown_alloc _ _ none) (by simp)).grown (grown_alloc _ _ none) (by simp)⟩

end Go.Proofs.YtdhemdeapphfoaaGreatDoor

/- The library's maps.Clone, laid at this program (printed by the shelf's own tool, its numbers by name). -/
namespace Go.Proofs
open Go.Shelf
def Tryz.cloneMk_ren : Go.Shelf.Ren := ⟨fun | 5 => 51 | 7 => 71 | n => n, fun | 23 => 91 | 25 => 5 | 3 => 3 | 4 => 4 | 20 => 20 | n => n, fun | n => n⟩
theorem Tryz.cloneMk : Go.Proofs.SlLaysW.n5 Tryz.prog Tryz.cloneMk_ren := {
  mixed := by kernel_rfl
  f5 := ⟨Tryz.f51.name, by decide, Tryz.func51.trans (congrArg some (by kernel_rfl))⟩
  f7 := Tryz.func71.trans (congrArg some (by kernel_rfl))
  t4 := Tryz.underlying4
  a4 := Tryz.isAgg4
  z4 := Tryz.sizeOf4
  v4 := Tryz.zeroValue4
  t20 := Tryz.underlying20
  a20 := Tryz.isAgg20
  z20 := Tryz.sizeOf20
  v20 := Tryz.zeroValue20
  t23 := Tryz.underlying91
  a23 := Tryz.isAgg91
  z23 := Tryz.sizeOf91
  v23 := Tryz.zeroValue91 }
end Go.Proofs
