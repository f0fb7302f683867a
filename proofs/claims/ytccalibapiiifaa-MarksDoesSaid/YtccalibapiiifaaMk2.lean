/- marks: each. -/
import Derived.Test.YtccalibapiiifaaMk1
import Derived.Test.YtccalibapiiifaaRng
namespace Go.Proofs.Ytccalibapiiifaa
open Go.RowKit Go.Maps

theorem enter_run {P : Program} {f : FuncId} {fn : Func} (hf : P.funcs[f]? = some fn) (hn : (fn.name == "runtime.NumGoroutine") = false) (hb : fn.body.isSome = true) (args : Array Value) (w : World) :
    (callFunc f args).run P w = .ok (.enter f args) w := by
  have h1 : fn.name ≠ "runtime.NumGoroutine" := by simpa using hn
  obtain ⟨c, hc⟩ := Option.isSome_iff_exists.1 hb
  simp [callFunc, hf, h1, hc]

theorem has_of {D : DataW Unit} {left : Lit → Bool} {f h : Int → Int} {x c : Int} (HX : Hid (left (.int .u8 x) = true)) (HA : Hid (∀ zd, D.atKey (.int .u8 x) zd = .lit (.int .i64 c)))
    (hR : Hid (Reads D (fun x => if left (.int .u8 x) = true then f x else h x))) (hL : Hid (∀ x, 0 ≤ x → x ≤ 255 → left (.int .u8 x) = true → f x ≠ 0)) (h0 : 0 ≤ x) (h1 : x ≤ 255) :
    Hid (Maps.has D (.int .u8 x) = true ∧ f x = c) := by
  obtain ⟨a1, a2⟩ := hR.out x h0 h1
  have hx := HX.out
  simp only [hx, if_true] at a1 a2
  rw [HA.out] at a1
  refine ⟨by rw [a2]; simpa using hL.out x h0 h1 hx, ?_⟩
  simpa using a1.symm

def EachRel (mb n r : Nat) (f g : Int → Int) (w wr : World) : Prop :=
  ∃ (D : DataW Unit) (left : Lit → Bool) (cnt : Nat), wr.ranges Try.prog 5 (plainElem Try.prog 3) mb r n D left cnt ∧ w.grownBy wr (some mb) ∧
    Reads D (fun x => if left (.int .u8 x) = true then f x else if f x = 0 then 0 else g (f x)) ∧ ∀ x, 0 ≤ x → x ≤ 255 → left (.int .u8 x) = true → f x ≠ 0

theorem EachRel.start {mb n r cnt : Nat} {f g : Int → Int} {w wr : World} {D : DataW Unit} (hD : Reads D f) (hrg : wr.ranges Try.prog 5 (plainElem Try.prog 3) mb r n D (Maps.has D) cnt) (hg : w.grownBy wr (some mb)) :
    EachRel mb n r f g w wr := by
  refine ⟨D, _, _, hrg, hg, ?_, ?_⟩
  · intro x h0 h1
    obtain ⟨a1, a2⟩ := hD x h0 h1
    have : (if Maps.has D (.int .u8 x) = true then f x else if f x = 0 then 0 else g (f x)) = f x := by
      rw [a2]
      by_cases hf : f x = 0 <;> simp [hf]
    have key : ∀ v, v = f x → (D.atKey (.int .u8 x) (.lit (.int .i64 0)) = .lit (.int .i64 v) ∧ Maps.has D (.int .u8 x) = decide (v ≠ 0)) := by
      intro v hv
      rw [hv]
      exact ⟨a1, a2⟩
    exact key _ this
  · intro x h0 h1 h
    rw [(hD x h0 h1).2] at h
    simpa using h

theorem EachRel.done {f g : Int → Int} {D : DataW Unit} {left : Lit → Bool} (hl : ∀ kl, left kl = false) (hR : Reads D (fun x => if left (.int .u8 x) = true then f x else if f x = 0 then 0 else g (f x))) :
    Reads D (fun x => if f x = 0 then 0 else g (f x)) := by
  intro x h0 h1
  have := hR x h0 h1
  simpa [hl] using this

theorem EachRel.del {mb n r cnt : Nat} {f g : Int → Int} {w wr : World} {D : DataW Unit} {left : Lit → Bool} {x : Int}
    (hrg : wr.ranges Try.prog 5 (plainElem Try.prog 3) mb r n (D.del (.int .u8 x)) (fun z => left z && !z.sameKey (.int .u8 x)) cnt) (hg : w.grownBy wr (some mb))
    (hR : Reads D (fun x => if left (.int .u8 x) = true then f x else if f x = 0 then 0 else g (f x))) (hL : ∀ x, 0 ≤ x → x ≤ 255 → left (.int .u8 x) = true → f x ≠ 0)
    (hx : left (.int .u8 x) = true) (h0 : 0 ≤ x) (h1 : x ≤ 255) (hgx : g (f x) = 0) : EachRel mb n r f g w wr := by
  refine ⟨_, _, _, hrg, hg, ?_, ?_⟩
  · intro y y0 y1
    by_cases hy : y = x
    · subst hy
      have hs : (Lit.int IntKind.u8 y).sameKey (.int .u8 y) = true := WideAt.sameKey_self trivial
      simp only [hs, Bool.not_true, Bool.and_false, Bool.false_eq_true, if_false]
      rw [atKey_del_same, has_del_same, hgx]
      simp
    · have hs : (Lit.int IntKind.u8 y).sameKey (.int .u8 x) = false := Maps.sameKey_ne (by simpa using hy)
      simp only [hs, Bool.not_false, Bool.and_true]
      rw [atKey_del_other (by simpa using hy), has_del_other (by simpa using hy)]
      exact hR y y0 y1
  · intro y y0 y1 h
    simp only [Bool.and_eq_true] at h
    exact hL y y0 y1 h.1

theorem EachRel.put {mb n r cnt : Nat} {f g : Int → Int} {w wr : World} {D : DataW Unit} {left : Lit → Bool} {x : Int} (hm : IsMap D)
    (hrg : wr.ranges Try.prog 5 (plainElem Try.prog 3) mb r n (D.put (.int .u8 x) (.lit (.int .i64 (g (f x))))) (fun z => left z && !z.sameKey (.int .u8 x)) cnt) (hg : w.grownBy wr (some mb))
    (hR : Reads D (fun x => if left (.int .u8 x) = true then f x else if f x = 0 then 0 else g (f x))) (hL : ∀ x, 0 ≤ x → x ≤ 255 → left (.int .u8 x) = true → f x ≠ 0)
    (hx : left (.int .u8 x) = true) (h0 : 0 ≤ x) (h1 : x ≤ 255) (hgx : g (f x) ≠ 0) : EachRel mb n r f g w wr := by
  refine ⟨_, _, _, hrg, hg, ?_, ?_⟩
  · intro y y0 y1
    by_cases hy : y = x
    · subst hy
      have hs : (Lit.int IntKind.u8 y).sameKey (.int .u8 y) = true := WideAt.sameKey_self trivial
      simp only [hs, Bool.not_true, Bool.and_false, Bool.false_eq_true, if_false]
      rw [atKey_put_same hm (k := .int .u8 y) trivial, has_put_same hm (k := .int .u8 y) trivial]
      have := hL y y0 y1 hx
      simp [this, hgx]
    · have hs : (Lit.int IntKind.u8 y).sameKey (.int .u8 x) = false := Maps.sameKey_ne (by simpa using hy)
      simp only [hs, Bool.not_false, Bool.and_true]
      rw [atKey_put_other (by simpa using hy), has_put_other (by simpa using hy)]
      exact hR y y0 y1
  · intro y y0 y1 h
    simp only [Bool.and_eq_true] at h
    exact hL y y0 y1 h.1

set_option maxRecDepth 100000 in
theorem each_any (b mb n : Nat) (f g : Int → Int) (K : Nat) (caps : Array Value) (w : World) (c0 : w.cell? ⟨b, 0, none⟩ = some (.map (some mb))) (hbm : b ≠ mb)
    (D : DataW Unit) (hown : w.ownsMap Try.prog 5 (plainElem Try.prog 3) mb n D) (hD : Reads D f)
    (hn : n < maxLen) (hgwf : ∀ i, (Lit.int .i64 i).wf = true → (Lit.int .i64 (g i)).wf = true) (hE : ∀ (args : Array Value) (w : World), (callFunc K args).run Try.prog w = .ok (.enter K args) w)
    (hcall : ∀ i w', w.grownBy w' (some mb) → Calls Try.prog K (#[.int .i64 i] ++ caps) w' fun e w'' => e = .returned (.int .i64 (g i)) ∧ w' = w'') :
    Calls Try.prog 35 #[.pointer (some ⟨b, 0, none⟩), .func (.func K) #[] caps] w fun e w' => e = .returned (.tuple #[]) ∧ 
      ∃ D', w'.ownsMap Try.prog 5 (plainElem Try.prog 3) mb n D' ∧ Reads D' (fun x => if f x = 0 then 0 else g (f x)) ∧ w.grownBy w' (some mb) := by
  have HD : Hid (Reads D f) := hD
  clear hD
  have HC : Hid (∀ i w', w.grownBy w' (some mb) → Calls Try.prog K (#[.int .i64 i] ++ caps) w' fun e w'' => e = .returned (.int .i64 (g i)) ∧ w' = w'') := hcall
  clear hcall
  go_enter Try.func35, Try.ntmps35
  go_wp2_with (first
    | (at_range; refine wpList_range_own _ rfl _ 61 rfl 5 3 law5 Try.underlying61 _ mb n _ rfl hown ?_; intro w0 hrg0 hg0 hs0)
    | go_in)
  go_frame
  go_loopw [4] (fun _ wr => EachRel mb n w.heap.size f g w wr)
    (fun _ wr => wr.rangeLeft mb w.heap.size)
  case atStart => exact EachRel.start HD.out hrg0 (hg0.but _)
  case round =>
    obtain ⟨D1, left, cnt, hrg, hgw, hR0, hL0⟩ := hrel
    have hR : Hid (Reads D1 (fun x => if left (.int .u8 x) = true then f x else if f x = 0 then 0 else g (f x))) := hR0
    have hL : Hid (∀ x, 0 ≤ x → x ≤ 255 → left (.int .u8 x) = true → f x ≠ 0) := hL0
    clear hR0 hL0
    go_wp2_with (first
      | (at_next; refine wpList_next_ranges_ii _ rfl _ rfl 5 3 .u8 .i64 law5 Try.underlying5 Try.underlying3 mb w.heap.size n _ _ _ rfl hrg ?_ ?_)
      | go_in)
    · intro _ hl0
      have HL : Hid (∀ kl, left kl = false) := hl0
      clear hl0
      go_wp2
      go_end0
      exact ⟨rfl, D1, hrg.owns, EachRel.done HL.out hR.out, hgw⟩
    · intro x c w1 cnt1 hwx hwc hlx hat hrg1 hlt hg1 hs1 hen
      have hgw1 := hgw.andThen hg1 (fun j hj => by cases hj; exact Or.inl (Nat.le_refl _))
      have HA : Hid (∀ zd, D1.atKey (.int .u8 x) zd = .lit (.int .i64 c)) := hat
      have HX : Hid (left (.int .u8 x) = true) := hlx
      clear hat hlx
      have hb1 : Hid (b < w.heap.size) := by
        cases Nat.lt_or_ge b w.heap.size with
        | inl h => exact h
        | inr h => simp [World.cell?, Array.getElem?_eq_none h] at c0
      have c1 : w1.cell? ⟨b, 0, none⟩ = some (.map (some mb)) := by
        rw [World.cell?_of_block (w := w) (hgw1.block b hb1.out (by simpa using hbm))]
        exact c0
      have HK := keyOf_int_mk Try.underlying5 hwx
      have hu8 : Hid (0 ≤ x ∧ x ≤ 255) := bounds_u8 hwx
      have HH : Hid (Maps.has D1 (.int .u8 x) = true ∧ f x = c) := has_of HX HA hR hL hu8.out.1 hu8.out.2
      go_wp2_with (first
        | ((with_reducible refine (HC.out c w1 hgw1).mono ?_); rintro e w' ⟨rfl, rfl⟩)
        | (at_delete; refine wpList_delete_ranges _ rfl _ _ 61 5 rfl 3 law5 Try.underlying61 _ mb w.heap.size n _ _ _ rfl hrg1 _ _ rfl HK ?_; intro w2 cnt2 hrg2 hle hturn; go_frame)
        | (at_mapUpdate; refine wpList_mapUpdate_ranges rfl _ _ _ 61 5 rfl 3 law5 Try.underlying61 _ mb w.heap.size n _ _ _ hn rfl hrg1 _ _ _ rfl rfl HK _ [] (plainElem_int Try.underlying3 (hgwf c hwc)) HH.out.1 ?_; intro w2 hrg2 hturn; go_frame)
        | go_in)
      · have hc0 : g c = 0 := by simpa using (by assumption : (g c == 0) = true)
        rw [strike_twice] at hrg2
        have hfx := HH.out.2
        go_roundw
        case rel => exact EachRel.del hrg2 (hgw1.andThen hturn.grown (fun j hj => by cases hj; exact Or.inr rfl)) hR.out hL.out HX.out hu8.out.1 hu8.out.2 (by rw [hfx]; exact hc0)
        case measure => rw [hrg2.left_eq, hrg.left_eq]; omega
      · have hc0 : g c ≠ 0 := by simpa using (by assumption : (g c == 0) = false)
        have hfx := HH.out.2
        go_roundw
        case rel => exact EachRel.put hrg1.owns.isMap (by rw [hfx]; exact hrg2) (hgw1.andThen hturn.grown (fun j hj => by cases hj; exact Or.inr rfl)) hR.out hL.out HX.out hu8.out.1 hu8.out.2 (by rw [hfx]; exact hc0)
        case measure => rw [hrg2.left_eq, hrg.left_eq]; omega

end Go.Proofs.Ytccalibapiiifaa
