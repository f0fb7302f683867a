/- The library's Delete of one element and Clone, and append, on rows that may be clipped. -/
import Derived.Test.YtdhemdeapphfoaaGreatDoorBtIns
import Derived.Deep.Upon
import Derived.Deep.AppendLies
set_option linter.unusedVariables false
set_option linter.unusedSimpArgs false
namespace Go.Proofs.YtdhemdeapphfoaaGreatDoor
open Go.RowKit Go.Shelf Go.Proofs.YtdhemdeapphfoaaGreatDoorW.PrintWords Go.Proofs.YtdhemdeapphfoaaGreatDoorW.PrintLast

def cS (xs : List ByteArray) : List Value := xs.map Value.string
def cI (ks : List Int) : List Value := ks.map (Value.int .i64)
theorem cS_one {xs : List ByteArray} : ∀ c ∈ cS xs, c.oneCell' = true := by
  intro c hc
  obtain ⟨x, _, rfl⟩ := List.mem_map.1 hc
  rfl
theorem cI_one {xs : List Int} : ∀ c ∈ cI xs, c.oneCell' = true := by
  intro c hc
  obtain ⟨x, _, rfl⟩ := List.mem_map.1 hc
  rfl
theorem cS_len (xs : List ByteArray) : (cS xs).length = xs.length := List.length_map _
theorem cI_len (xs : List Int) : (cI xs).length = xs.length := List.length_map _
theorem cS_at {xs : List ByteArray} {j : Nat} {x : ByteArray} (h : xs[j]? = some x) : (cS xs)[j]? = some (.string x) := by rw [cS, List.getElem?_map, h]; rfl
theorem cI_at {xs : List Int} {j : Nat} {x : Int} (h : xs[j]? = some x) : (cI xs)[j]? = some (.int .i64 x) := by rw [cI, List.getElem?_map, h]; rfl

/-- the new row of a delete in place -/
theorem rw_erase {w w' : World} {e : TypeId} {g cap i q : Nat} {z : Value} {cs : List Value} (h : Rw w e (.slice (some ⟨g, 0, none⟩) cs.length cap) cs) (hi : i < cs.length)
    (hw' : w' = (w.drewN q).setCells g 0 (cs.take i ++ cs.drop (i + 1) ++ [z])) : Rw w' e (.slice (some ⟨g, 0, none⟩) (cs.length - 1) cap) (cs.eraseIdx i) ∧ w.grownBy w' (some g) := by
  have hl : (cs.eraseIdx i).length = cs.length - 1 := by rw [List.length_eraseIdx, if_pos hi]
  refine ⟨⟨fun c hc => h.1 c (List.mem_of_mem_eraseIdx hc), ?_⟩, ?_⟩
  · rcases h.2 with ⟨hv, _⟩ | ⟨g', cap', rest, hv, hg, h1, h2, h3⟩
    · cases hv
    · injection hv with ha hn' hc2
      injection ha with ha
      injection ha with ha _ _
      subst ha; subst hc2
      have h5 := blk_setCells (w := w.drewN q) (cs.take i ++ cs.drop (i + 1) ++ [z]) [] cs rest hg (by simp; omega)
      rw [List.length_nil] at h5
      refine .inr ⟨g, cap, z :: rest, by rw [hl], ?_, by omega, by rw [hl, List.length_cons]; omega, h3⟩
      rw [hw', h5, List.eraseIdx_eq_take_drop_succ]
      simp
  · rw [hw']
    exact grown_drewN (grown_setCells g _ _ _)

/-- slices.Delete of one element, at strings -/
theorem delS_rw (w : World) (v : Value) (xs : List ByteArray) (i : Nat) (a b : Int) (ha : a = i) (hb : b = i + 1) (h : Rw w 9 v (cS xs)) (hi : i < xs.length) :
    Calls Tryz.prog 183 #[v, .int .i64 a, .int .i64 b] w fun e w' => ∃ v', e = .returned v' ∧ Rw w' 9 v' (cS (xs.eraseIdx i)) ∧ w.grownBy w' v.ownBlock ∧ v'.ownBlock = v.ownBlock := by
  subst ha
  obtain rfl : b = ((i + 1 : Nat) : Int) := by omega
  rcases h.2 with ⟨_, h0⟩ | ⟨g, cap, rest, rfl, hg, hn, hc, hm⟩
  · rw [cS, List.map_eq_nil_iff] at h0
    subst h0
    simp at hi
  · have hgd : ∀ j, j < (cS xs).length → (cS xs)[j]? = some (.string (xs.getD j ByteArray.empty)) := fun j hj => by
      rw [cS_len] at hj
      apply cS_at
      rw [List.getD_eq_getElem?_getD, List.getElem?_eq_getElem hj]
      rfl
    refine (Any.slices_Delete_string_cells Tryz.delS g 0 (cS xs).length cap i (i + 1) (fun j => xs.getD j ByteArray.empty) w hn (by unfold maxLen at hm; omega) (by omega) (by rw [cS_len]; omega) (fun j hj => by rw [Nat.zero_add]; exact h.cell (hgd j hj)) (fun j _ => h.frozen _)).mono ?_
    rintro _ w' ⟨rfl, q, hw'⟩
    have e1 : (Lib.strsOf (fun j => xs.getD j ByteArray.empty) (cS xs).length).map encStr = cS xs := by
      apply List.ext_getElem?
      intro j
      by_cases hj : j < (cS xs).length
      · rw [hgd j hj]
        simp [Lib.strsOf, hj, encStr]
      · rw [List.getElem?_eq_none (show (List.map encStr (Lib.strsOf (fun j => xs.getD j ByteArray.empty) (cS xs).length)).length ≤ j by rw [List.length_map, Lib.strsOf_length]; omega), List.getElem?_eq_none (by omega)]
    rw [List.map_append, List.map_append, List.map_take, List.map_drop, e1, show List.replicate (i + 1 - i) ([] : List UInt8) = [[]] by rw [show i + 1 - i = 1 by omega]; rfl] at hw'
    obtain ⟨r1, r2⟩ := rw_erase h (by rw [cS_len]; exact hi) hw'
    refine ⟨_, rfl, ?_, r2, rfl⟩
    rw [show (cS xs).length - (i + 1 - i) = (cS xs).length - 1 by omega, show cS (xs.eraseIdx i) = (cS xs).eraseIdx i by rw [List.eraseIdx_eq_take_drop_succ, List.eraseIdx_eq_take_drop_succ]; simp [cS]]
    exact r1

/-- slices.Delete of one element, at whole numbers -/
theorem delI_rw (w : World) (v : Value) (xs : List Int) (i : Nat) (a b : Int) (ha : a = i) (hb : b = i + 1) (h : Rw w 3 v (cI xs)) (hi : i < xs.length) :
    Calls Tryz.prog 192 #[v, .int .i64 a, .int .i64 b] w fun e w' => ∃ v', e = .returned v' ∧ Rw w' 3 v' (cI (xs.eraseIdx i)) ∧ w.grownBy w' v.ownBlock ∧ v'.ownBlock = v.ownBlock := by
  subst ha
  obtain rfl : b = ((i + 1 : Nat) : Int) := by omega
  rcases h.2 with ⟨_, h0⟩ | ⟨g, cap, rest, rfl, hg, hn, hc, hm⟩
  · rw [cI, List.map_eq_nil_iff] at h0
    subst h0
    simp at hi
  · have hgd : ∀ j, j < xs.length → (cI xs)[j]? = some (.int .i64 (xs.getD j 0)) := fun j hj => by
      apply cI_at
      rw [List.getD_eq_getElem?_getD, List.getElem?_eq_getElem hj]
      rfl
    refine (Any.slices_Delete_int_cells Tryz.delI g 0 (cI xs).length cap i (i + 1) xs w (by rw [cI_len]; omega) hn (by unfold maxLen at hm; omega) (by omega) (by rw [cI_len]; omega) (fun j hj => by rw [Nat.zero_add]; exact h.cell (hgd j hj)) (fun j _ => h.frozen _)).mono ?_
    rintro _ w' ⟨rfl, q, hw'⟩
    rw [show xs.take (cI xs).length = xs by rw [cI_len, List.take_length], List.map_append, List.map_append, List.map_take, List.map_drop, show xs.map (Value.int .i64) = cI xs from rfl, show i + 1 - i = 1 by omega] at hw'
    obtain ⟨r1, r2⟩ := rw_erase h (by rw [cI_len]; exact hi) hw'
    refine ⟨_, rfl, ?_, r2, rfl⟩
    rw [show (cI xs).length - (i + 1 - i) = (cI xs).length - 1 by omega, show cI (xs.eraseIdx i) = (cI xs).eraseIdx i by rw [List.eraseIdx_eq_take_drop_succ, List.eraseIdx_eq_take_drop_succ]; simp [cI]]
    exact r1

/-- slices.Clone of what lies in a row from some place on (something is there) -/
theorem cloS_rw (w : World) (xs : List ByteArray) {g n c o c' : Nat} (h : Rw w 9 (.slice (some ⟨g, 0, none⟩) n c) (cS xs)) (ho : o < xs.length) (hbig : xs.length * 16 ≤ 140737488355328) :
    Calls Tryz.prog 46 #[.slice (some ⟨g, o, none⟩) (n - o) c'] w fun e w' => ∃ v', e = .returned v' ∧ Rw w' 9 v' (cS (xs.drop o)) ∧ Below w.heap.size w w' ∧ ∃ k, v'.ownBlock = some k ∧ w.heap.size ≤ k := by
  have hn := h.len.1
  rw [cS_len] at hn
  subst hn
  refine (Any.slices_Clone_string Tryz.cloS g o (xs.length - o) c' (xs.drop o) w (by simp) (by omega) (fun j hj => ?_)).mono ?_
  · refine h.cell (cS_at ?_)
    rw [List.getD_eq_getElem?_getD, ← List.getElem?_drop, List.getElem?_eq_getElem hj]
    rfl
  · rintro _ w' ⟨v', rfl, hown, hne, hb⟩
    rw [show (xs.drop o).take (xs.length - o) = xs.drop o by rw [← List.length_drop, List.take_length]] at hown
    refine ⟨v', rfl, Rw.of_owns hown cS_one, hb, ?_⟩
    rcases hown.2 with ⟨hv, _⟩ | ⟨k, cap, cur, hv, hk, _⟩
    · exact absurd hv hne
    · exact ⟨k, by rw [hv]; rfl, hk⟩
theorem cloI_rw (w : World) (xs : List Int) {g n c o c' : Nat} (h : Rw w 3 (.slice (some ⟨g, 0, none⟩) n c) (cI xs)) (ho : o < xs.length) (hbig : xs.length * 8 ≤ 140737488355328) :
    Calls Tryz.prog 102 #[.slice (some ⟨g, o, none⟩) (n - o) c'] w fun e w' => ∃ v', e = .returned v' ∧ Rw w' 3 v' (cI (xs.drop o)) ∧ Below w.heap.size w w' ∧ ∃ k, v'.ownBlock = some k ∧ w.heap.size ≤ k := by
  have hn := h.len.1
  rw [cI_len] at hn
  subst hn
  refine (Any.slices_Clone_int Tryz.cloI g o (xs.length - o) c' (xs.drop o) w (by simp) (by omega) (fun j hj => ?_)).mono ?_
  · refine h.cell (cI_at ?_)
    rw [List.getD_eq_getElem?_getD, ← List.getElem?_drop, List.getElem?_eq_getElem hj]
    rfl
  · rintro _ w' ⟨v', rfl, hown, hne, hb⟩
    rw [show (xs.drop o).take (xs.length - o) = xs.drop o by rw [← List.length_drop, List.take_length]] at hown
    refine ⟨v', rfl, Rw.of_owns hown cI_one, hb, ?_⟩
    rcases hown.2 with ⟨hv, _⟩ | ⟨k, cap, cur, hv, hk, _⟩
    · exact absurd hv hne
    · exact ⟨k, by rw [hv]; rfl, hk⟩

section
variable {P : Program}
/-- append onto such a row -/
theorem run_append_rw (w : World) (t tx ty e : TypeId) (i : TypeInfo) (z : Value) (bytes : Nat) (ht : P.underlying t = some (.slice e)) (hi : P.info? e = some i) (hz : i.zero = some z) (hsize : i.size = 1) (hby : i.bytes = bytes) (hzs : z.cells.size = 1)
    {v : Value} {cs : List Value} (h : Rw w e v cs) (x : Value) (n : Nat) (news : List Value) (hs : Src P 1 tx x n news w) (hbytes : (cs.length + n) * bytes ≤ 140737488355328) (hlen : cs.length + n ≤ 140737488355328) :
    ∃ v' w', (Builtin.append_ #[t, tx] ty #[v, x]).run P w = .ok v' w' ∧ Rw w' e v' (cs ++ news) ∧ w.grownBy w' v.ownBlock ∧ At w v v' := by
  have hnl := hs.newsLen
  rw [Nat.mul_one] at hnl
  have hone : ∀ c ∈ cs ++ news, c.oneCell' = true := fun c hc => (List.mem_append.1 hc).elim (h.1 c) (hs.one c)
  have hs' : Src P i.size tx x n news w := by rw [hsize]; exact hs
  subst hby
  have grow : ∀ (bs : Option Addr) (sc : Nat), v = .slice bs cs.length sc → sc < cs.length + n → (Builtin.firstCells i.size cs.length (.slice bs cs.length sc)).run P w.drew = .ok cs.toArray w.drew →
      ∃ v' w', (Builtin.append_ #[t, tx] ty #[v, x]).run P w = .ok v' w' ∧ Rw w' e v' (cs ++ news) ∧ w.grownBy w' v.ownBlock ∧ At w v v' := by
    rintro bs sc rfl hg hold
    have hrun := run_append_grow_src (P := P) w t tx ty e i z ht hi hz bs cs.length sc cs hold x n news hs' hg (by omega) (growslice_fits hg hbytes)
    have hge := grownCap_ge w (cs.length + n) sc e
    have hcm := grownCap_le_maxLen w (cs.length + n) sc e (by unfold maxLen; omega)
    refine ⟨_, _, hrun, ⟨hone, .inr ⟨w.heap.size, _, (Builtin.zeroCells z.cells (grownCap w (cs.length + n) sc e - (cs.length + n))).toList, by rw [List.length_append, hnl], ?_, by rw [List.length_append, hnl]; exact hge, ?_, hcm⟩⟩, ⟨rfl, rfl, rfl, by simp, fun k hk _ => Below.heap_alloc w.drew _ k hk⟩, .inr ⟨_, rfl, Nat.le_refl _⟩⟩
    · refine (heap_alloc_new w.drew _).trans ?_
      refine congrArg (fun z : Array Value => some (Obj.cells z e (0, 0))) ?_
      apply Array.ext'
      simp
    · rw [List.length_append, hnl, zlen, hzs]
      omega
  rcases h.2 with ⟨rfl, rfl⟩ | ⟨g, cap, rest, rfl, hg, hn, hc, hm⟩
  · by_cases h0 : n = 0
    · subst h0
      obtain rfl := List.eq_nil_of_length_eq_zero hnl
      refine ⟨_, _, run_append_nothing (P := P) w t tx ty e i ht hi none 0 0 (Nat.le_refl _) x hs', ?_, ⟨rfl, rfl, rfl, Nat.le_refl _, fun _ _ _ => rfl⟩, .inl rfl⟩
      exact h
    · exact grow none 0 rfl (by simp; omega) (run_firstCells_none w.drew i.size 0 0 0)
  · by_cases hroom : cs.length + n ≤ cap
    · have hsome : ∀ j, j < news.length → (w.cell? ⟨g, 0 + cs.length * i.size + j, none⟩).isSome = true := fun j hj => by
        rw [hsize, blk_cell hg, List.getElem?_toArray, List.getElem?_eq_getElem (by simp; omega)]
        rfl
      have hrun := run_append_room_src (P := P) w t tx ty e i ht hi g 0 cs.length cap x n news hs' hroom hsome (fun j _ => blk_frozen hg _)
      obtain ⟨old, post, rfl, hol⟩ : ∃ old post, rest = old ++ post ∧ old.length = news.length := ⟨rest.take news.length, rest.drop news.length, (List.take_append_drop _ _).symm, by rw [List.length_take]; omega⟩
      have h5 := blk_setCells news w cs old post hg hol
      rw [hsize, Nat.mul_one, Nat.zero_add] at hrun
      refine ⟨_, _, hrun, ⟨hone, .inr ⟨g, cap, post, by rw [List.length_append, hnl], ?_, by rw [List.length_append, hnl]; exact hroom, ?_, hm⟩⟩, grown_setCells g _ _ _, .inl rfl⟩
      · rw [h5, List.append_assoc]
      · rw [List.length_append] at hc ⊢
        omega
    · refine grow (some ⟨g, 0, none⟩) cap rfl (by omega) ?_
      refine run_firstCells_some w.drew i.size cs.length ⟨g, 0, none⟩ cs.length cap cs (by rw [hsize, Nat.mul_one]) (fun j u hu => ?_)
      rw [Addr.add_lit, Nat.zero_add]
      exact h.cell hu

theorem wp_append_rw (w : World) {o : Oper} {a : Act} {K : Act → World → Prop} {Q : Exit → Act → World → Prop} (s x : Operand) (t tx : TypeId)
    (ho : o.op = .call { callee := .builtin .append, args := #[s, x], argTypes := #[t, tx] })
    (e : TypeId) (i : TypeInfo) (z : Value) (bytes : Nat) (ht : P.underlying t = some (.slice e)) (hi : P.info? e = some i) (hz : i.zero = some z) (hsize : i.size = 1) (hby : i.bytes = bytes) (hzs : z.cells.size = 1)
    {v : Value} {cs : List Value} (hv : a.eval s = v) (h : Rw w e v cs) (xv : Value) (n : Nat) (news : List Value) (hx : a.eval x = xv) (hs : Src P 1 tx xv n news w) (hbytes : (cs.length + n) * bytes ≤ 140737488355328) (hlen : cs.length + n ≤ 140737488355328)
    (hK : ∀ v' w', Rw w' e v' (cs ++ news) → w.grownBy w' v.ownBlock → At w v v' → K (a.put o.dst v') w') : o.wp P a w K Q := by
  obtain ⟨v', w', hrun, h1, h2, h3⟩ := run_append_rw (P := P) w t tx o.type e i z bytes ht hi hz hsize hby hzs h xv n news hs hbytes hlen
  unfold Oper.wp execOp
  simp only [ho, resolve, invoke, builtin, Sem.run_bind, Sem.run_pure, Result.andThen_ok, List.map_toArray, List.map_cons, List.map_nil, hv, hx, hrun]
  exact hK v' w' h1 h2 h3
theorem wpList_append_rw (w : World) {ops : Array Oper} {rest : List Oper} {o : Oper} {a : Act} {Q : Exit → Act → World → Prop} (hgd : o.guard = none) (s x : Operand) (t tx : TypeId)
    (ho : o.op = .call { callee := .builtin .append, args := #[s, x], argTypes := #[t, tx] })
    (e : TypeId) (i : TypeInfo) (z : Value) (bytes : Nat) (ht : P.underlying t = some (.slice e)) (hi : P.info? e = some i) (hz : i.zero = some z) (hsize : i.size = 1) (hby : i.bytes = bytes) (hzs : z.cells.size = 1)
    {v : Value} {cs : List Value} (hv : a.eval s = v) (h : Rw w e v cs) (xv : Value) (n : Nat) (news : List Value) (hx : a.eval x = xv) (hs : Src P 1 tx xv n news w) (hbytes : (cs.length + n) * bytes ≤ 140737488355328) (hlen : cs.length + n ≤ 140737488355328)
    (hK : ∀ v' w', Rw w' e v' (cs ++ news) → w.grownBy w' v.ownBlock → At w v v' → wpList P ops Q rest (a.put o.dst v') w') : wpList P ops Q (o :: rest) a w :=
  wpList_plain hgd fun _ hK' => wp_append_rw w s x t tx ho e i z bytes ht hi hz hsize hby hzs hv h xv n news hx hs hbytes hlen fun v' w' h1 h2 h3 => hK' _ _ (hK v' w' h1 h2 h3)
theorem step_append_rw (w : World) {ops : Array Oper} {o : Oper} {a : Act} {K : Act → World → Prop} {Q : Exit → Act → World → Prop} {E : Prop} (hgd : o.guard = none) (s x : Operand) (t tx : TypeId)
    (ho : o.op = .call { callee := .builtin .append, args := #[s, x], argTypes := #[t, tx] })
    (e : TypeId) (i : TypeInfo) (z : Value) (bytes : Nat) (ht : P.underlying t = some (.slice e)) (hi : P.info? e = some i) (hz : i.zero = some z) (hsize : i.size = 1) (hby : i.bytes = bytes) (hzs : z.cells.size = 1)
    {v : Value} {cs : List Value} (hv : a.eval s = v) (h : Rw w e v cs) (xv : Value) (n : Nat) (news : List Value) (hx : a.eval x = xv) (hs : Src P 1 tx xv n news w) (hbytes : (cs.length + n) * bytes ≤ 140737488355328) (hlen : cs.length + n ≤ 140737488355328)
    (hK : ∀ v' w', Rw w' e v' (cs ++ news) → w.grownBy w' v.ownBlock → At w v v' → K (a.put o.dst v') w') :
    if Region.wanted o (yielded ops a.tmps) = true then Oper.wp P o a w K Q else E := by
  have hw : Region.wanted o (yielded ops a.tmps) = true := by simp [Region.wanted, hgd]
  rw [if_pos hw]
  exact wp_append_rw w s x t tx ho e i z bytes ht hi hz hsize hby hzs hv h xv n news hx hs hbytes hlen hK
end
end Go.Proofs.YtdhemdeapphfoaaGreatDoor
