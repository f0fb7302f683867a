/- norm.Parse, walked, in the printer's form. -/
import Derived.Test.YtdkdoomjihflbaaDoorNL1
import Derived.Test.YtdkdoomjihflbaaDoorNkey
namespace Go.Proofs.YtdkdoomjihflbaaDoor.NL
open Go.RowKit Go.Proofs.YtdkdoomjihflbaaDoorW.PrintWords Go.Proofs.YtdkdoomjihflbaaDoorW.PrintLast Go.Proofs.YtdkdoomjihflbaaDoorW.PrintMore

def toS (k : NK) : S38 := ⟨k.1, k.2.1, k.2.2⟩
/-- what Parse answers behind the keys that it has -/
def parsA (acc : List S38) (l : List UInt8) : List S38 × Int := match keysP l with | none => ([], 190) | some ks => (acc ++ ks.map toS, 0)
def norm_Parse.f (a0 : ByteArray) : Option (List S38 × Int) := if a0.size ≤ 1000000 then some (parsA [] a0.data.toList) else none

theorem parsA_nil (acc : List S38) : parsA acc [] = (acc, 0) := by unfold parsA; rw [keysP_nil]; simp
theorem parsA_none (acc : List S38) {l : List UInt8} (h0 : l ≠ []) (h : keyP l = none) : parsA acc l = ([], 190) := by unfold parsA; rw [keysP_none h0 h]
theorem parsA_cons (acc : List S38) {l r : List UInt8} {k : NK} (h : keyP l = some (k, r)) : parsA acc l = parsA (acc ++ [toS k]) r := by
  unfold parsA
  rw [keysP_cons h]
  cases keysP r <;> simp

theorem key_none (t : ByteArray) (ht : t.size ≤ 1000000) (G : Nat) (w0 w : World) (hI : NT.IsS41 w0 w G t) (hB : Below w0.heap.size w0 w) (e : keyP t.data.toList = none) :
    Calls Tryd.prog 16 #[.pointer (some ⟨G, 0, none⟩)] w fun e w' => ∃ q1 q2 q3 q5, e = .returned (.tuple #[.agg #[.int .i64 q1, .string q2, .string q3], .bool false]) ∧ NT.IsS41 w0 w' G q5 ∧ Below w0.heap.size w0 w' ∧ KeepBut w w' G none := by
  refine (NT.key_calls t ht G w0 w hI hB).mono ?_
  rintro _ w' ⟨r1, r2, r3, r4, r5, rfl, hk, h1, h2, h3⟩
  unfold NT.KeyIs at hk
  rw [e] at hk
  simp only at hk
  subst hk
  exact ⟨_, _, _, _, rfl, h1, h2, h3⟩

theorem key_some (t : ByteArray) (ht : t.size ≤ 1000000) (G : Nat) (w0 w : World) (hI : NT.IsS41 w0 w G t) (hB : Below w0.heap.size w0 w) {k : NK} {r : List UInt8} (e : keyP t.data.toList = some (k, r)) :
    Calls Tryd.prog 16 #[.pointer (some ⟨G, 0, none⟩)] w fun e w' => e = .returned (.tuple #[.agg #[.int .i64 (toS k).f0, .string (toS k).f1, .string (toS k).f2], .bool true]) ∧ NT.IsS41 w0 w' G (ofL r) ∧ Below w0.heap.size w0 w' ∧ KeepBut w w' G none := by
  refine (NT.key_calls t ht G w0 w hI hB).mono ?_
  rintro _ w' ⟨r1, r2, r3, r4, r5, rfl, hk, h1, h2, h3⟩
  unfold NT.KeyIs at hk
  rw [e] at hk
  obtain ⟨hk, rfl, rfl⟩ := hk
  subst hk
  exact ⟨rfl, h1, h2, h3⟩

def restLen (G : Nat) (w : World) : Nat := match w.cell? ⟨G, 0, none⟩ with | some (.string s) => s.size | _ => 0
theorem restLen_is {w0 w : World} {G : Nat} {s : ByteArray} (h : NT.IsS41 w0 w G s) : restLen G w = s.size := by unfold restLen; rw [NT.cellS41_0 h.1]

set_option maxRecDepth 100000 in
set_option maxHeartbeats 4000000 in
theorem norm_Parse.calls (s : ByteArray) (r1 : List S38) (r2 : Int) (w : World) (h : norm_Parse.f s = some (r1, r2)) :
    Calls Tryd.prog 8 #[.string s] w fun e w' => ∃ v0_ : Value, e = .returned (.tuple #[v0_, .int .u16 r2]) ∧ Kd.R k38 38 w' w.heap.size (fun _ => True) v0_ r1 ∧ Below w.heap.size w w' := by
  unfold norm_Parse.f at h
  split at h
  rotate_left
  · cases h
  rename_i hs
  injection h with h
  go_enter Tryd.func8, Tryd.ntmps8
  go_wp2
  go_step3
  go_wp2
  go_step3
  go_wp2
  go_loopw [5] (fun v5 wr => ∃ (t : ByteArray) (acc : List S38), NT.IsS41 w wr w.heap.size t ∧ Below w.heap.size w wr ∧ Kd.R k38 38 wr w.heap.size (fun k => k ≠ w.heap.size) v5 acc ∧ parsA acc t.data.toList = (r1, r2) ∧ acc.length + t.size ≤ 1000000) (fun _ wr => restLen w.heap.size wr)
  case atStart => exact ⟨s, [], NT.IsS41.new w w s (Below.refl _ _), below_alloc (Below.refl _ _) _, Kd.R_nil _ _ _ _ _, h, by simpa using hs⟩
  case round =>
    obtain ⟨t, acc, hi, hb, hr, hp, hl⟩ := hrel
    have hc0 := NT.cellS41_0 hi.1
    have hfz := blk_frozen hi.1 0
    have HI := Lib.hid hi
    have HB := Lib.hid hb
    have HR := Lib.hid hr
    have HM := Lib.hid (restLen_is hi)
    clear hi hb hr
    by_cases h0 : t.toList = []
    · have he : t.toList.isEmpty = true := by rw [h0]; rfl
      rw [ByteArray.toList_eq] at h0
      rw [h0, parsA_nil] at hp
      injection hp with h1 h2
      subst h1
      subst h2
      clear h h0
      go_wp2
      first | rw [Exit.noGoto_ret] | skip
      go_ret2
      exact ⟨_, rfl, Kd.R_mono HR.out (fun _ _ => trivial), HB.out⟩
    · have he : t.toList.isEmpty = false := by
        cases e : t.toList.isEmpty with
        | false => rfl
        | true => exact absurd (by simpa using e) h0
      have hts : t.size ≤ 1000000 := by omega
      cases e : keyP t.data.toList with
      | none =>
        have HK := Lib.hid (fun w1 hi hb => key_none t hts w.heap.size w w1 hi hb e)
        have hne : t.data.toList ≠ [] := by rw [ByteArray.toList_eq] at h0; exact h0
        rw [parsA_none acc hne e] at hp
        injection hp with h1 h2
        subst h1
        subst h2
        clear h h0 e hne
        go_wp2_with (first
          | (go_at_call 16; (with_reducible refine (HK.out _ HI.out HB.out).mono ?_); rintro e w5 ⟨q1, q2, q3, q5, rfl, hi5, hb5, hk5⟩; have HB5 := Lib.hid hb5; clear hi5 hb5 hk5)
          | go_in)
        first | rw [Exit.noGoto_ret] | skip
        go_ret2
        exact ⟨_, rfl, Kd.R_nil _ _ _ _ _, below_alloc HB5.out _⟩
      | some kr =>
        obtain ⟨kk, rr⟩ := kr
        have HK := Lib.hid (fun w1 hi hb => key_some t hts w.heap.size w w1 hi hb e)
        rw [parsA_cons acc e] at hp
        have hlt := keyP_lt e
        obtain ⟨x, hx⟩ : ∃ x : S38, toS kk = x := ⟨_, rfl⟩
        rw [hx] at hp HK
        have HP := Lib.hid hp
        have hsz : (ofL rr).size < t.size := by rw [NT.ofL_size, ← NT.size_len t]; exact hlt
        obtain ⟨u, hu⟩ : ∃ u, ofL rr = u := ⟨_, rfl⟩
        rw [show rr = (ofL rr).data.toList from rfl] at HP
        rw [hu] at HP hsz HK
        clear h hp h0 e hx hlt hu
        go_wp2_with (first
          | (go_at_call 16; (with_reducible refine (HK.out _ HI.out HB.out).mono ?_); rintro e w5 ⟨rfl, hi5, hb5, hk5⟩; have HI5 := Lib.hid hi5; have HB5 := Lib.hid hb5; have HR5 := Lib.hid (Kd.R_keep HR.out hk5 (fun _ h => h)); clear hi5 hb5 hk5)
          | ((with_reducible refine gate_builtin (b := .append) (xs := #[.tmp 22, .tmp 24]) rfl ?_); at_builtin; refine Kd.R_append k38 (w0 := w) w.heap.size rfl (.tmp 22) (.tmp 24) 23 38 (.agg #[(.int .i64 0), (.string ⟨#[]⟩), (.string ⟨#[]⟩)]) 40 rfl Tryd.underlying23 info38 rfl (by decide) (by omega) u5 acc x [.int .i64 x.f0, .string x.f1, .string x.f2] (fun k => k ≠ w.heap.size) (fun _ => False) rfl (by first | (go_simp; done) | (go_simp; rfl)) ?aP (fun _ hk => hk.elim) ?aF ?aO ?aB ?aS ?aL ?_; (case aP => exact k38_mkM _ _ _ x); (case aF => exact (HI5.out.alloc _).fresh); (case aO => exact Kd.R_alloc HR5.out _); (case aB => exact below_alloc HB5.out _); (case aS => exact (below_alloc HB5.out _).size); (case aL => omega); intro v1 w6 hr6 hb6 hg6 _; have HR6 := Lib.hid hr6; have HB6 := Lib.hid hb6; have HI6 := Lib.hid ((HI5.out.alloc _).grown hg6 (Kd.R_away HR5.out (fun _ h => h))); clear hr6 hb6 hg6)
          | go_in)
        go_roundw
        case rel => exact ⟨u, acc ++ [x], HI6.out, HB6.out, HR6.out, HP.out, by simp; omega⟩
        case measure =>
          rw [HM.out, restLen_is HI6.out]
          omega

end Go.Proofs.YtdkdoomjihflbaaDoor.NL
