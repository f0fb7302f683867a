/- A store at a key that is there, into the map that is ranged over: the loop's word stays. -/
import Derived.Maps.RangeWalk
namespace Go
open Go.ChangeMaps Go.MapKept Go.WideShapes
open Go.WideElems (Fit rd rg pl rd_key rd_val rg_of other_key)
open Go.Maps (Keyed)

section
variable {H : Type} {P : Program} {k : TypeId} {R : Value → Option (DataW H × List MemPlace)} {w : World} {b r n : Nat} {D : DataW H} {left : Lit → Bool} {cnt : Nat}

theorem setBlock_inj {w : World} {b : Nat} {o0 o o' : Obj} (hb : w.heap[b]? = some o0) (h : setBlock w b o = setBlock w b o') : o = o' := by
  have hlt : b < w.heap.size := (Array.getElem?_eq_some_iff.1 hb).1
  have h1 : (setBlock w b o).heap[b]? = (setBlock w b o').heap[b]? := by rw [h]
  simp [setBlock, Array.getElem?_setIfInBounds, hlt] at h1
  exact h1

theorem World.ranges.store {t e : TypeId} (h : w.ranges P k R b r n D left cnt) (K : Keyed P k) (ht : P.underlying t = some (.map k e)) (hn : n < maxLen) {key val : Value} {kl : Lit} {d : DataW H} {ps : List MemPlace}
    (hkey : keyOf P k key = some kl) (hv : R val = some (d, ps)) (hhas : Maps.has D kl = true) :
    ∃ w', (Instr.mapUpdate t (.map (some b)) key val).run P w = .ok () w' ∧ w'.ranges P k R b r n (D.put kl d) left cnt ∧ w.mapTurned w' b := by
  have hne := h.ne
  obtain ⟨es, clock, since, seen, c0, hb, F, hs, rfl, hr, hold, hcnt, hl1, hl2, hsc, hsk⟩ := h
  obtain ⟨es', clock', hrun, F', hput, _⟩ := Maps.fit_store (R' := R) K ht hb F (Nat.lt_of_le_of_lt hs hn) (fun _ _ _ _ hz => hz) hkey hv
  have hnone : ¬ ∀ x ∈ es.toList, x.key ≠ key := by
    intro hall
    obtain ⟨p, hp, hpk⟩ := List.any_eq_true.1 hhas
    obtain ⟨x, hx, rfl⟩ := List.mem_map.1 (mem_sorted.1 hp)
    obtain ⟨y, hy⟩ := F.reads x hx
    have m1 := rd_key hy
    have e1 := WideAt.sameKey_eq hpk
    rw [rg_of hy] at e1
    rw [e1] at m1
    exact hall x hx (K.inj m1 hkey)
  rcases K.find w hkey es.toList F.keys with ⟨h1, h2⟩ | ⟨j, e0, h1, h2, h3⟩
  · exact absurd h2 hnone
  · have hj : es[j]? = some e0 := by simpa using h2
    have hrun2 : (Instr.mapUpdate t (.map (some b)) key val).run P w = .ok () (setBlock w b (.map (es.modify j (fun e' => { e' with key := key, val := val })) clock)) := by
      simp [Instr.mapUpdate, run_underlying ht, MapKept.run_getObj_map hb, K.check w false hkey, h1, hj, h3, K.stays w hkey, MapKept.run_setObj_map _ hb, Result.andThen, setBlock]
    have hsame : setBlock w b (.map es' clock') = setBlock w b (.map (es.modify j (fun e' => { e' with key := key, val := val })) clock) := by
      rw [hrun] at hrun2
      exact (Result.ok.inj hrun2).2
    have hobj := setBlock_inj hb hsame
    have hes : es' = es.modify j (fun e' => { e' with key := key, val := val }) := (Obj.map.inj hobj).1
    have hcl : clock' = clock := (Obj.map.inj hobj).2
    have hjl : j < es.toList.length := (List.getElem?_eq_some_iff.1 h2).1
    have hlist : es'.toList = es.toList.set j { e0 with key := key, val := val } := by rw [hes, Array.toList_modify, modify_eq_set _ _ _ _ h2]
    have hm0 : e0 ∈ es.toList := List.mem_of_getElem? h2
    have hborn : ∀ i : Nat, (es'.toList[i]?).map MapEntry.born = (es.toList[i]?).map MapEntry.born := by
      intro i
      by_cases hji : j = i
      · subst hji
        rw [hlist, List.getElem?_set_self hjl, h2]
        rfl
      · rw [hlist, List.getElem?_set_ne hji]
    have hborns : es'.toList.map MapEntry.born = es.toList.map MapEntry.born := by
      apply List.ext_getElem?
      intro i
      simpa using hborn i
    have hkeys : ∀ i : Nat, (es'.toList[i]?).map MapEntry.key = (es.toList[i]?).map MapEntry.key := by
      intro i
      by_cases hji : j = i
      · subst hji
        rw [hlist, List.getElem?_set_self hjl, h2]
        exact congrArg some h3.symm
      · rw [hlist, List.getElem?_set_ne hji]
    have pair : ∀ x' ∈ es'.toList, ∃ x ∈ es.toList, x.born = x'.born ∧ x.key = x'.key := by
      intro x' hx'
      obtain ⟨i, hi⟩ := List.getElem?_of_mem hx'
      have b1 := hborn i
      have k1 := hkeys i
      rw [hi] at b1 k1
      cases hx : es.toList[i]? with
      | none => rw [hx] at b1; cases b1
      | some x =>
        rw [hx] at b1 k1
        exact ⟨x, List.mem_of_getElem? hx, (Option.some.inj b1).symm, (Option.some.inj k1).symm⟩
    have pair2 : ∀ x ∈ es.toList, ∃ x' ∈ es'.toList, x.born = x'.born ∧ x.key = x'.key := by
      intro x hx
      obtain ⟨i, hi⟩ := List.getElem?_of_mem hx
      have b1 := hborn i
      have k1 := hkeys i
      rw [hi] at b1 k1
      cases hx' : es'.toList[i]? with
      | none => rw [hx'] at b1; cases b1
      | some x' =>
        rw [hx'] at b1 k1
        exact ⟨x', List.mem_of_getElem? hx', (Option.some.inj b1).symm, (Option.some.inj k1).symm⟩
    have keyeq : ∀ x ∈ es.toList, ∀ x' ∈ es'.toList, x.key = x'.key → (rg P k R x).1 = (rg P k R x').1 := by
      intro x hx x' hx' hk
      obtain ⟨y, hy⟩ := F.reads x hx
      obtain ⟨y', hy'⟩ := F'.reads x' hx'
      rw [rg_of hy, rg_of hy']
      have m1 := rd_key hy
      have m2 := rd_key hy'
      rw [hk, m2] at m1
      exact (Option.some.inj m1).symm
    have hlt : b < w.heap.size := (Array.getElem?_eq_some_iff.1 hb).1
    refine ⟨_, hrun, ⟨es', clock', since, seen, c0, heap_setBlock_same hb _, F', ?_, by rw [DataW.put_eq, hput], (heap_setBlock_other hb _ hne).trans hr, ?_, ?_, ?_, ?_, hsc, by rw [hcl]; exact hsk⟩, ⟨es, clock, es', clock', hb, rfl⟩⟩
    · have : es'.size = es.size := by
        have := congrArg List.length hborns
        simpa using this
      omega
    · intro x' hx'
      obtain ⟨x, hx, hbx, _⟩ := pair x' hx'
      rw [← hbx]
      exact hold x hx
    · rw [← hcnt]
      have e1 : ∀ a : Array MapEntry, (leftOf a seen).size = ((a.toList.map MapEntry.born).filter fun e => !seen.contains e).length := fun a => by
        unfold leftOf
        rw [← Array.length_toList, Array.toList_filter, List.filter_map, List.length_map]
        rfl
      rw [e1, e1, hborns]
    · intro x' hx'
      obtain ⟨x, hx, hbx, hkx⟩ := pair x' hx'
      rw [← keyeq x hx x' hx' hkx, hl1 x hx, hbx]
    · intro kl' hkl'
      obtain ⟨x, hx, hxk⟩ := hl2 kl' hkl'
      obtain ⟨x', hx', _, hkx⟩ := pair2 x hx
      exact ⟨x', hx', by rw [← keyeq x hx x' hx' hkx, hxk]⟩

/-- 'm[k] = v' AT A KEY THAT IS THERE, IN THE ROUND. -/
theorem wpList_mapUpdate_ranges {ops : Array Oper} {rest : List Oper} {o : Oper} {a : Act} {Q : Exit → Act → World → Prop} (hg : o.guard = none) (m x v : Operand) (t k : TypeId) (hop : o.op = Op.mapUpdate t m x v)
    (e : TypeId) (K : Keyed P k) (ht : P.underlying t = some (.map k e)) (R : Value → Option (DataW H × List MemPlace)) (b r n : Nat) (D : DataW H) (left : Lit → Bool) (cnt : Nat) (hn : n < maxLen)
    (hm : a.eval m = .map (some b)) (h : w.ranges P k R b r n D left cnt) (key val : Value) (kl : Lit) (hx : a.eval x = key) (hvv : a.eval v = val) (hkey : keyOf P k key = some kl)
    (d : DataW H) (ps : List MemPlace) (hv : R val = some (d, ps)) (hhas : Maps.has D kl = true)
    (hK : ∀ w', w'.ranges P k R b r n (D.put kl d) left cnt → w.mapTurned w' b → wpList P ops Q rest (a.put o.dst undef) w') :
    wpList P ops Q (o :: rest) a w := by
  refine wpList_plain hg fun K' hK' => ?_
  obtain ⟨w', hrun, r1, r2⟩ := h.store K ht hn hkey hv hhas
  unfold Oper.wp
  simp [execOp, hop, hm, hx, hvv, hrun, Result.andThen]
  exact hK' _ _ (hK w' r1 r2)

end
end Go
