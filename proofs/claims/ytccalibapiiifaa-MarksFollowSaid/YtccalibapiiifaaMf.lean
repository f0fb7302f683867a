/- The law MarksFollow, walked: of lines that are told apart a mark stays at its line. -/
import Derived.Test.YtccalibapiiifaaMk5
import Derived.Test.YtccalibapiiifaaOps
import Derived.Test.YtccalibapiiifaaMfTag
namespace Go.Proofs.Ytccalibapiiifaa
open Go.RowKit Go.Maps Go.Proofs.YtccalibapiiifaaW.PrintWords Go.Proofs.YtccalibapiiifaaW.PrintLast Go.Proofs.YtccalibapiiifaaW.PrintMore

def pos0 (x : Int) : Int := if x < 0 then 0 else x
theorem pos0_nonneg (x : Int) : 0 ≤ pos0 x := by unfold pos0; split <;> omega
theorem max_pos0 (k k' : IntKind) (x : Int) : Builtin.max2 (.int k x) (.int k' 0) = pure (.int k (pos0 x)) := max2_int k k' x 0
theorem pos0_mod (x n : Int) (hn : 0 < n) : 0 ≤ (pos0 x).tmod n ∧ (pos0 x).tmod n < n := ⟨Int.tmod_nonneg _ (pos0_nonneg x), Int.tmod_lt_of_pos _ hn⟩

theorem splF_at {f : Int → Int} {a b c p : Int} (hf : f 120 = p) (h0 : 0 ≤ p) (ha : 1 ≤ a) (hb : 0 ≤ b) (hc : 0 ≤ c) (hp : p ≤ 1000) (ha2 : a ≤ 1000) (hb2 : b ≤ 1000) (hc2 : c ≤ 1000) : splF f a b c 120 = splAt a b c p := by
  unfold splF splG splAt
  rw [hf, if_neg (by omega)]
  unfold wrap64
  repeat' split
  all_goals omega

theorem movF_at {f : Int → Int} {a q b p : Int} (hf : f 120 = p) (h0 : 0 ≤ p) (ha : 1 ≤ a) (haq : a ≤ q) (hb : 0 ≤ b) (hp : p ≤ 1000) (hq2 : q ≤ 1000) (hb2 : b ≤ 1000) : movF f a q b 120 = mvAt a q b p := by
  unfold movF movOff movG mvAt
  rw [hf]
  unfold wrap64
  repeat' split
  all_goals omega

theorem Held.after {B p mb n : Nat} {w' w0 w : World} {f : Int → Int} (h : Held w0.heap.size w0 w p mb n f) (k : Below B w' w0) (hB : B ≤ w0.heap.size) : Held B w' w p mb n f :=
  ⟨below_then k hB h.below, Nat.le_trans hB h.hp, Nat.le_trans hB h.hm, h.ne, h.cell, h.map⟩

/-- what stands at the head of a round -/
def FollowRel (B : Nat) (w0 : World) (p mb : Nat) (A : Option Addr) (len : Nat) (mine : Int) (v7 v10 : Value) (wr : World) : Prop :=
  ∃ (t : List Int) (i pos : Int) (f : Int → Int) (A1 : Option Addr) (c1 : Nat), v10 = .int .i64 i ∧ 0 ≤ i ∧ i ≤ len ∧ v7 = .slice A1 t.length c1 ∧ t.length ≤ c1 ∧ (Kd.int .i64).C wr A1 t.length t ∧
    Held B w0 wr p mb 1 f ∧ f 120 = pos ∧ At t mine pos ∧ t.length ≤ 50 + 5 * i

def OutAt (w0 wr : World) (mine q L : Int) (v : Value) : Prop :=
  ∃ u : List Int, (Kd.int .i64).R 3 wr w0.heap.size (fun k => w0.heap.size ≤ k) v u ∧ Below w0.heap.size w0 wr ∧ (u.length : Int) = L ∧ At u mine q

theorem rd_get (t : List Int) (i : Int) (h : i.toNat < t.length) : t[i.toNat]? = some (rd t i) := by simp [rd, List.getD, h]
theorem rd_getElem (t : List Int) (i : Int) (h : i.toNat < t.length) : t[i.toNat] = rd t i := by simp [rd, List.getD, h]

theorem Held.hm2 {B : Nat} {w0 w : World} {p mb n : Nat} {f : Int → Int} (h : Held B w0 w p mb n f) : mb < w.heap.size := h.map.lt

/-- the row that is laid stays while the marks change -/
theorem out_grown {w0 w w1 : World} {mb : Nat} {v : Value} {u : List Int} (h : (Kd.int .i64).R 3 w w0.heap.size (fun k => w0.heap.size ≤ k) v u) (hg : w.grownBy w1 (some mb)) (hm : mb < w0.heap.size) :
    (Kd.int .i64).R 3 w1 w0.heap.size (fun k => w0.heap.size ≤ k) v u :=
  Kd.R_step h (fun k hk hlt => hg.block k hlt (by simp; omega))

/-- of what was there before the call nothing has turned -/
theorem below_old {B p mb n : Nat} {w0 wr w w1 : World} {f : Int → Int} (hb : Below wr.heap.size wr w) (hg : w.grownBy w1 (some mb)) (h : Held B w0 wr p mb n f) : Below B wr w1 :=
  Below.grown (hb.mono (Nat.le_trans h.hm (Nat.le_of_lt h.hm2))) hg (Nat.le_trans (Nat.le_trans h.hm (Nat.le_of_lt h.hm2)) hb.size) (fun k hk => by cases hk; exact h.hm)

theorem OpsAt.old {B : Nat} {w0 wr w1 : World} {A : Option Addr} {n : Nat} (h : OpsAt w0 A n) (hB : B = w0.heap.size) (hb : Below B w0 w1) : OpsAt w1 A n := by
  subst hB
  exact h.below hb

theorem eqq_l {a q d x y : Int} {l : Int} (e : d = q) (h : l = mvL a q d x y) : l = mvL a q q x y := by rw [e] at h; exact h
theorem eqq_q {u : List Int} {m a q d pos x y : Int} (e : d = q) (h : At u m (mvQ a q d pos x y)) : At u m (mvQ a q q pos x y) := by rw [e] at h; exact h

theorem tmod_u8 {x : Int} {m : Int} (h : (Lit.int .u8 x).wf = true) (hm : 0 < m) : 0 ≤ x.tmod m ∧ x.tmod m < m :=
  ⟨Int.tmod_nonneg _ (bounds_u8 h).1, Int.tmod_lt_of_pos _ hm⟩

attribute [local go_sem] max_pos0 max_two
set_option maxRecDepth 100000 in
set_option maxHeartbeats 40000000 in
theorem follow_walk (w : World) (x0 : Int) (hx0 : (Lit.int .u8 x0).wf = true) (x1 : Int) (hx1 : (Lit.int .u8 x1).wf = true) (A : Option Addr) (len cap : Nat) (_hl : len ≤ cap) (hops : OpsAt w A len) :
    Calls Try.prog 4 #[.int .u8 x0, .int .u8 x1, .slice A len cap] w fun e w' => e = .returned (.bool true) ∧ Below w.heap.size w w' := by
  have HOps : Hid (OpsAt w A len) := hops
  clear hops
  by_cases h1 : 30 < len
  · have h1' : (30 : Int) < (len : Int) := by omega
    go_enter Try.func4, Try.ntmps4
    go_wp2_with (first
      | (go_at_call 14; (with_reducible refine (known_any _).mono ?_); rintro e w1 ⟨rfl, hb⟩)
      | go_in)
    go_ret
    exact ⟨rfl, hb⟩
  have h1' : ¬ (30 : Int) < (len : Int) := by omega
  obtain ⟨r0, hr0⟩ : ∃ r, x0.tmod 50 = r := ⟨_, rfl⟩
  have hb0 := tmod_u8 hx0 (m := 50) (by omega)
  rw [hr0] at hb0
  obtain ⟨N, hN⟩ : ∃ N : Nat, 1 + r0 = (N : Int) := ⟨(1 + r0).toNat, by omega⟩
  have hNb : 1 ≤ N ∧ N ≤ 50 := by omega
  obtain ⟨mine, hmine⟩ : ∃ r, x1.tmod (N : Int) = r := ⟨_, rfl⟩
  have hbm := tmod_u8 hx1 (m := (N : Int)) (by omega)
  have hx1b := bounds_u8 hx1
  rw [hmine] at hbm
  have hNz : ¬ ((N : Int) = 0) := by omega
  have hmw : wrap64 (mine + 1) = mine + 1 := by unfold wrap64; omega
  have HM : Hid (setC 120 (mine + 1) = 0) := by
    show setC 120 (mine + 1) = 0
    unfold setC
    rw [if_neg (by omega), if_neg (by omega)]
  go_enter Try.func4, Try.ntmps4
  go_wp2_with (first
    | (go_at_call 14; (with_reducible refine (known_any _).mono ?_); rintro e w1 ⟨rfl, hb1⟩; have HB1 := Lib.hid hb1; clear hb1)
    | (go_at_call 17; (with_reducible refine (tagged_calls N (by omega) _).mono ?_); rintro e w2 ⟨A1, c1, rfl, hc1, hC, hb2⟩; have HC2 := Lib.hid hC; have HB2 := Lib.hid (below_then HB1.out HB1.out.size hb2); clear hb2 hC HB1)
    | (go_at_call 13; (with_reducible refine (new_held w2.heap.size w2 w2 (Below.refl _ _) (Nat.le_refl _)).mono ?_); rintro e w3 ⟨rfl, H3⟩)
    | (go_at_call 16; (with_reducible refine (set_held H3 120 (mine + 1) 0 (by omega) (by omega) (by decide) HM.out).mono ?_); rintro e w4 ⟨rfl, H4⟩)
    | go_in)
  go_loopw [7, 10] (fun v7 v10 wr => FollowRel w.heap.size w (w2.heap.size + 1) w2.heap.size A len mine v7 v10 wr) (fun _ v10 _ => len - (intOf v10).toNat)
  case atStart =>
    refine ⟨tags N, 0, mine + 1, _, A1, c1, rfl, by omega, by omega, by rw [tags_length], by rw [tags_length]; exact hc1, ?_, H4.after HB2.out HB2.out.size, ?_, tags_at hbm.1 hbm.2, by rw [tags_length]; omega⟩
    · rw [tags_length]; exact Kd.C_below HC2.out H4.below
    · show setF _ 120 (mine + 1) 120 = mine + 1
      have := HM.out
      simp [setF, this]
  case round =>
    clear HC2 HB2 H3 H4
    rename World => wo
    obtain ⟨t, i, pos, f, A1, c1, rfl, hi0, hi1, rfl, hc1, hC, H, hf, hat, hlen⟩ := hrel
    have HC := Lib.hid hC
    have HF := Lib.hid hf
    have HAt := Lib.hid hat
    have HOp := Lib.hid (HOps.out.below H.below)
    clear hC hf hat
    by_cases hi : i < len
    · obtain ⟨ad, k, nm, a2, a3, a4, rfl, _, hk0, _, _, _, _, hcells⟩ := HOp.out i.toNat (by omega)
      obtain ⟨e0, e1, e2, e3, e4⟩ := hcells
      clear e1
      have hnz : ¬ ((t.length : Int) + 1 = 0) := by omega
      obtain ⟨a, ha⟩ : ∃ a, 1 + (pos0 a2).tmod ((t.length : Int) + 1) = a := ⟨_, rfl⟩
      have hab : 1 ≤ a ∧ a ≤ t.length + 1 := by have := pos0_mod a2 ((t.length : Int) + 1) (by omega); omega
      have hnz2 : ¬ ((t.length : Int) - a + 2 = 0) := by omega
      obtain ⟨b, hb⟩ : ∃ b, (pos0 a3).tmod ((t.length : Int) - a + 2) = b := ⟨_, rfl⟩
      have hbb : 0 ≤ b ∧ b ≤ t.length - a + 1 := by have := pos0_mod a3 ((t.length : Int) - a + 2) (by omega); omega
      obtain ⟨k2, hk2⟩ : ∃ k2, k.tmod 2 = k2 := ⟨_, rfl⟩
      have hpa := pos0_mod a2 ((t.length : Int) + 1) (by omega)
      by_cases hk : k2 = 0
      · as_aux_lemma =>
        subst hk
        obtain ⟨c, hc⟩ : ∃ c, (pos0 a4).tmod 5 = c := ⟨_, rfl⟩
        have hcb := pos0_mod a4 5 (by omega)
        rw [hc] at hcb
        obtain ⟨i0, hi0, _, hsz0, _⟩ := info_parts PMarksFollow.info3
        obtain ⟨hcut1, hA1, hcc1⟩ := print_take_of (P := Try.prog) (Value.int .i64) (0 : Int) 32 3 .i64 Try.underlying32 hi0 hsz0 A1 c1 t (a - 1) (by omega) (by omega) hc1
        obtain ⟨A2, hcut2, hA2, hcc2⟩ := print_drop_of (P := Try.prog) (Value.int .i64) (0 : Int) 32 3 .i64 Try.underlying32 hi0 hsz0 A1 c1 t (a - 1 + b) (by omega) (by omega) hc1
        have hs := spl_start (b := b) HAt.out hab.1 (by omega)
        have hd0 : (t.drop (a - 1 + b).toNat).length ≤ t.length := by rw [List.length_drop]; omega
        have he0 : ∀ u : List Int, At u mine (splQ a b pos c) → (u.length : Int) = a - 1 + c → ((u ++ t.drop (a - 1 + b).toNat).length : Int) = t.length - b + c ∧ At (u ++ t.drop (a - 1 + b).toNat) mine (splAt a b c pos) := fun u h1 h2 => spl_end HAt.out hab.1 hbb.1 hcb.1 (by omega) h1 h2
        obtain ⟨tk, htk⟩ : ∃ tk, t.take (a - 1).toNat = tk := ⟨_, rfl⟩
        obtain ⟨td, htd⟩ : ∃ td, t.drop (a - 1 + b).toNat = td := ⟨_, rfl⟩
        rw [htk] at hcut1 hA1 hs
        rw [htd] at hcut2 hA2 hd0 he0
        have htl := hs.1
        have HEnd := Lib.hid he0
        clear he0 htk htd hcc1 hcc2
        have HA1 := Lib.hid hA1
        have HA2 := Lib.hid hA2
        clear hA1 hA2 hi0 hsz0
        have HS := Lib.hid hs
        clear hs
        go_wp2_with (first
          | ((with_reducible refine gate_builtin (b := .append) (xs := #[.tmp 92, .tmp 96]) rfl ?_); at_builtin; refine Kd.R_append_row (Value.int .i64) (0 : Int) (h1 := fun _ => rfl) (w0 := wo) (W := wo) wo.heap.size rfl (.tmp 92) (.tmp 96) 32 3 (.int .i64 0) 8 rfl Try.underlying32 PMarksFollow.info3 rfl (by decide) (.slice none 0 0) [] tk A1 _ c1 (fun k => wo.heap.size ≤ k) rfl rfl ?aF ?aO ?aR ?aB ?aS ?aL ?_; (case aF => exact (fun k hk => Nat.le_trans (Below.refl wo.heap.size wo).size hk)); (case aO => exact (Kd.R_nil _ _ _ _ _)); (case aR => exact (Kd.C_of_reads (h1 := fun _ => rfl) (HA1.out _ (Kd.reads_of_C HC.out)))); (case aB => exact (Below.refl wo.heap.size wo)); (case aS => exact (Below.refl wo.heap.size wo).size); (case aL => (try simp only [List.length_nil]); omega); intro v1 w1 hr1 hb1 _ _; rw [List.nil_append] at hr1; have HR1 := Lib.hid hr1; have HB1 := Lib.hid hb1; clear hr1 hb1)
          | go_in)
        clear hcut1
        go_loopw [14, 16] (fun v14 v16 wr' => ∃ k : Int, v16 = .int .i64 k ∧ 0 ≤ k ∧ k ≤ c ∧ OutAt wo wr' mine (splQ a b pos k) (a - 1 + k) v14) (fun _ v16 _ => c.toNat - (intOf v16).toNat)
        case atStart => exact ⟨0, rfl, by omega, by omega, _, HR1.out, HB1.out, HS.out.1, HS.out.2⟩
        case round =>
          obtain ⟨k, rfl, hk0, hk1, u, hr, hbl, hul, hua⟩ := hrel
          have HR := Lib.hid hr
          have HB := Lib.hid hbl
          have HU := Lib.hid hua
          clear hr hbl hua
          have HCr := Lib.hid (Kd.C_below HC.out HB.out)
          by_cases hkc : k < c
          · by_cases hkb : k < b
            · obtain ⟨ad1, rfl, hcell⟩ := Kd.at_int HCr.out (a - 1 + k) (by omega) (by omega)
              obtain ⟨x, hx⟩ : ∃ x, rd t (a - 1 + k) = x := ⟨_, rfl⟩
              have hxe : t[(a - 1 + k).toNat]? = some x := by
                rw [← hx]
                exact rd_get t _ (by omega)
              have HX := Lib.hid (spl_kept HAt.out hab.1 hk0 hkb (by omega) HU.out hul hxe)
              rw [hx] at hcell
              clear hx hxe
              as_aux_lemma =>
              go_wp2_with (first
                | ((with_reducible refine gate_builtin (b := .append) (xs := #[.tmp 106, .tmp 114]) rfl ?_); at_builtin; refine Kd.R_append (Kd.int .i64) (w0 := wo) wo.heap.size rfl (.tmp 106) (.tmp 114) 32 3 (.int .i64 0) 8 rfl Try.underlying32 PMarksFollow.info3 rfl (by decide) (by decide) u14 u x [.int .i64 x] (fun k => wo.heap.size ≤ k) (fun _ => False) rfl rfl ?aP (fun _ hk => hk.elim) ?aF ?aO ?aB ?aS ?aL ?_; (case aP => exact rfl); (case aF => exact (fun k hk => Nat.le_trans HB.out.size hk)); (case aO => exact HR.out); (case aB => exact HB.out); (case aS => exact HB.out.size); (case aL => omega); intro v1 w1 hr1 hb1 _ _; have HR2 := Lib.hid hr1; have HB2 := Lib.hid hb1; clear hr1 hb1)
                | go_in)
              go_roundw
              case rel => exact ⟨k + 1, rfl, by omega, by omega, _, HR2.out, HB2.out, HX.out.1, HX.out.2⟩
              case measure => simp [intOf]; omega
            · have HX := Lib.hid (spl_fresh hbm.1 hkb HU.out hul)
              as_aux_lemma =>
              go_wp2_with (first
                | ((with_reducible refine gate_builtin (b := .append) (xs := #[.tmp 116, .tmp 117]) rfl ?_); at_builtin; refine Kd.R_append (Kd.int .i64) (w0 := wo) wo.heap.size rfl (.tmp 116) (.tmp 117) 32 3 (.int .i64 0) 8 rfl Try.underlying32 PMarksFollow.info3 rfl (by decide) (by decide) u14 u (-1) [.int .i64 (-1)] (fun k => wo.heap.size ≤ k) (fun _ => False) rfl rfl ?aP (fun _ hk => hk.elim) ?aF ?aO ?aB ?aS ?aL ?_; (case aP => exact rfl); (case aF => exact (fun k hk => Nat.le_trans HB.out.size hk)); (case aO => exact HR.out); (case aB => exact HB.out); (case aS => exact HB.out.size); (case aL => omega); intro v1 w1 hr1 hb1 _ _; have HR2 := Lib.hid hr1; have HB2 := Lib.hid hb1; clear hr1 hb1)
                | go_in)
              go_roundw
              case rel => exact ⟨k + 1, rfl, by omega, by omega, _, HR2.out, HB2.out, HX.out.1, HX.out.2⟩
              case measure => simp [intOf]; omega
          · as_aux_lemma =>
            obtain rfl : k = c := by omega
            have HX := Lib.hid (HEnd.out u HU.out hul)
            have hpl := HAt.out.le
            have HFs := Lib.hid (splF_at HF.out HAt.out.1 hab.1 hbb.1 hcb.1 (by omega) (by omega) (by omega) (by omega))
            go_wp2_with (first
              | ((with_reducible refine gate_builtin (b := .append) (xs := #[.tmp 119, .tmp 125]) rfl ?_); at_builtin; refine Kd.R_append_row (Value.int .i64) (0 : Int) (h1 := fun _ => rfl) (w0 := wo) (W := _) wo.heap.size rfl (.tmp 119) (.tmp 125) 32 3 (.int .i64 0) 8 rfl Try.underlying32 PMarksFollow.info3 rfl (by decide) u14 u td A2 _ _ (fun k => wo.heap.size ≤ k) rfl rfl ?aF ?aO ?aR ?aB ?aS ?aL ?_; (case aF => exact (fun k hk => Nat.le_trans HB.out.size hk)); (case aO => exact HR.out); (case aR => exact (Kd.C_of_reads (h1 := fun _ => rfl) (HA2.out _ (Kd.reads_of_C HCr.out)))); (case aB => exact HB.out); (case aS => exact HB.out.size); (case aL => (try simp only [List.length_nil]); omega); intro v1 w1 hr1 hb1 _ _; have HR2 := Lib.hid hr1; have HB2 := Lib.hid hb1; clear hr1 hb1)
              | (go_at_call 18; (with_reducible refine (splice_held2 (H.later HB2.out) a b k (by decide)).mono ?_); rintro e w5 ⟨rfl, H5, hg5⟩; have HG5 := Lib.hid hg5; clear hg5)
              | go_in)
            obtain ⟨t5, ht5⟩ : ∃ t5, u ++ td = t5 := ⟨_, rfl⟩
            obtain ⟨q5, hq5⟩ : ∃ q5, splAt a b k pos = q5 := ⟨_, rfl⟩
            obtain ⟨f5, hf5⟩ : ∃ f5, splF f a b k = f5 := ⟨_, rfl⟩
            rw [ht5, hq5] at HX
            rw [hf5] at H5 HFs
            rw [ht5] at HR2
            rw [hq5] at HFs
            have HR5 := Lib.hid (out_grown HR2.out HG5.out (Nat.lt_of_lt_of_le H.hm2 (Nat.le_refl _)))
            have HAt5 := Lib.hid HX.out.2
            have HF5 := HFs
            have hl5 := HX.out.1
            have HBel5 := Lib.hid (below_old HB2.out HG5.out H)
            clear HX HFs HR2 HG5 hq5 ht5 hf5 HU HR HCr
            obtain ⟨A5, c5, rfl, hc5, hC5⟩ := Kd.R_reads HR5.out
            have HC5 := Lib.hid hC5
            clear hC5
            have hq5 : 0 ≤ q5 ∧ q5 ≤ t5.length := ⟨HAt5.out.1, HAt5.out.le⟩

            go_loopw [20, 21] (fun v20 v21 wr' => ∃ k : Int, v21 = .int .i64 k ∧ 0 ≤ k ∧ k ≤ t5.length ∧ v20 = .int .i64 (if 1 ≤ q5 ∧ q5 ≤ k then q5 else 0) ∧ w5 = wr') (fun _ v21 _ => t5.length - (intOf v21).toNat)
            case atStart => exact ⟨0, rfl, by omega, by omega, by rw [if_neg (by omega)], rfl⟩
            case round =>
              obtain ⟨k, rfl, hk0, hk1, rfl, rfl⟩ := hrel
              by_cases hkl : k < t5.length
              · obtain ⟨ad5, rfl, hcell⟩ := Kd.at_int HC5.out k hk0 hkl
                have hget := HAt5.out.get k.toNat (by omega)
                obtain ⟨x, hx⟩ : ∃ x, rd t5 k = x := ⟨_, rfl⟩
                have hxe : t5[k.toNat]'(by omega) = x := by
                  rw [← hx]
                  exact rd_getElem t5 _ (by omega)
                rw [hxe] at hget
                rw [hx] at hcell
                clear hx hxe
                by_cases hxm : x = mine
                · have hke := hget.1 hxm
                  clear hget
                  subst hxm
                  as_aux_lemma =>
                  go_wp2
                  go_roundw
                  case rel => exact ⟨k + 1, rfl, by omega, by omega, by rw [if_pos (by omega)]; exact congrArg (Value.int .i64) (by omega), by first | rfl | trivial⟩
                  case measure => simp [intOf]; omega
                · have hke : ¬ k + 1 = q5 := fun e => hxm (hget.2 (by omega))
                  clear hget
                  as_aux_lemma =>
                  go_wp2
                  go_roundw
                  case rel => exact ⟨k + 1, rfl, by omega, by omega, by congr 1; split <;> split <;> omega, by first | rfl | trivial⟩
                  case measure => simp [intOf]; omega
              · have hw : (if 1 ≤ q5 ∧ q5 ≤ k then q5 else 0) = q5 := by split <;> omega
                have HG : Hid (FollowRel w.heap.size w (w2.heap.size + 1) w2.heap.size (some ad) len mine (.slice A5 t5.length c5) (.int .i64 (i + 1)) w5) :=
                  ⟨t5, i + 1, q5, _, A5, c5, rfl, by omega, by omega, rfl, hc5, HC5.out, H5, HF5.out, HAt5.out, by omega⟩
                by_cases hq0 : q5 = 0
                · have HE : Hid ((if f5 120 = 0 then (100 : Int) else 0) = 100) := by rw [HF5.out, hq0]; exact rfl
                  subst hq0
                  as_aux_lemma =>
                  go_wp2_with (first
                    | (go_at_call 15; (with_reducible refine (get_held H5 120 0 100 (by omega) (by omega) HF5.out HE.out).mono ?_); rintro e w6 ⟨rfl, rfl⟩)
                    | go_in)
                  go_roundw
                  case rel => exact HG.out
                  case measure => simp [intOf]; omega
                · have HE : Hid ((if f5 120 = 0 then (100 : Int) else 0) = 0) := by rw [HF5.out, if_neg hq0]; exact rfl
                  have hqp : 0 < q5 := by omega
                  clear hq0
                  as_aux_lemma =>
                  go_wp2_with (first
                    | (go_at_call 15; (with_reducible refine (get_held H5 120 q5 0 (by omega) (by omega) HF5.out HE.out).mono ?_); rintro e w6 ⟨rfl, rfl⟩)
                    | go_in)
                  go_roundw
                  case rel => exact HG.out
                  case measure => simp [intOf]; omega
      · as_aux_lemma =>
        obtain rfl : k2 = 1 := by
          have h0 := tmod_u8 hk0 (m := 2) (by omega)
          rw [hk2] at h0
          omega
        clear hk
        have HG0 : Hid (FollowRel w.heap.size w (w2.heap.size + 1) w2.heap.size (some ad) len mine (.slice A1 t.length c1) (.int .i64 (i + 1)) wo) :=
          ⟨t, i + 1, pos, f, A1, c1, rfl, by omega, by omega, rfl, hc1, HC.out, H, HF.out, HAt.out, by omega⟩
        by_cases hbp : 0 < b
        rotate_left
        · obtain rfl : b = 0 := by omega
          go_wp2
          go_roundw
          case rel => exact HG0.out
          case measure => simp [intOf]; omega
        have hnp : (0 : Int) < t.length := by omega
        obtain ⟨q, hq⟩ : ∃ q, a + b - 1 = q := ⟨_, rfl⟩
        have hqb : a ≤ q ∧ q ≤ t.length := by omega
        obtain ⟨d, hd⟩ : ∃ d, (pos0 a4).tmod ((t.length : Int) + 1) = d := ⟨_, rfl⟩
        have hdb := pos0_mod a4 ((t.length : Int) + 1) (by omega)
        rw [hd] at hdb
        by_cases hsk : a ≤ d ∧ d < q
        · have hs1 := hsk.1
          have hs2 := hsk.2
          clear hsk
          go_wp2
          go_roundw
          case rel => exact HG0.out
          case measure => simp [intOf]; omega
        clear HG0
        obtain ⟨i0, hi0, _, hsz0, _⟩ := info_parts PMarksFollow.info3
        obtain ⟨A2, hcut3, hA2, hcc2⟩ := print_mid_of (P := Try.prog) (Value.int .i64) (0 : Int) 32 3 .i64 .i64 Try.underlying32 hi0 hsz0 A1 c1 t (a - 1) q (by omega) (by omega) (by omega) hc1
        have hm0 : ((t.take q.toNat).drop (a - 1).toNat).length ≤ t.length := by rw [List.length_drop, List.length_take]; omega
        have hm1 : ∀ (u : List Int) (k : Int), k = mvJ a q d → At u mine (mvQ a q d pos k (k + 1)) → (u.length : Int) = mvL a q d k (k + 1) →
            ((u ++ (t.take q.toNat).drop (a - 1).toNat).length : Int) = mvL a q d (k + 1) (k + 1) ∧ At (u ++ (t.take q.toNat).drop (a - 1).toNat) mine (mvQ a q d pos (k + 1) (k + 1)) :=
          fun u k hJ h1 h2 => mv_block HAt.out hab.1 hqb.1 hqb.2 hJ h1 h2
        obtain ⟨tm, htm⟩ : ∃ tm, (t.take q.toNat).drop (a - 1).toNat = tm := ⟨_, rfl⟩
        rw [htm] at hcut3 hA2 hm0 hm1
        have HMid := Lib.hid hm1
        have HA2 := Lib.hid hA2
        clear hm1 htm hcc2 hA2 hi0 hsz0
        have HSt := Lib.hid (mv_start (m := mine) (q := q) HAt.out.1 hab.1 hdb.1)
        have hpn := HAt.out.le
        have HFs := Lib.hid (movF_at (b := d) HF.out HAt.out.1 hab.1 hqb.1 hdb.1 (by omega) (by omega) (by omega))
        by_cases hdq : d = q
        · as_aux_lemma =>
          have hle1 : d ≤ q := by omega
          have hle2 : q ≤ d := by omega
          have hd3 : (d == q) = true := by simpa using hdq
          clear hdq hsk
          go_wp2
          go_loopw [14, 19] (fun v14 v19 wr' => ∃ k : Int, v19 = .int .i64 k ∧ 0 ≤ k ∧ k ≤ t.length + 1 ∧ OutAt wo wr' mine (mvQ a q d pos k k) (mvL a q d k k) v14) (fun _ v19 _ => t.length + 1 - (intOf v19).toNat)
          case atStart => exact ⟨0, rfl, by omega, by omega, [], Kd.R_nil _ _ _ _ _, Below.refl _ _, HSt.out.1, HSt.out.2⟩
          case round =>
            obtain ⟨k, rfl, hk0', hk1', u, hr, hbl, hul, hua⟩ := hrel
            have HR := Lib.hid hr
            have HB := Lib.hid hbl
            have HU := Lib.hid hua
            have HUl := Lib.hid hul
            have hlen : u.length ≤ 1000 := by
              have h0 := hul
              unfold mvL mvK at h0
              revert h0
              repeat' split
              all_goals omega
            clear hr hbl hua hul
            have HCr := Lib.hid (Kd.C_below HC.out HB.out)
            by_cases hkn : k ≤ t.length
            · by_cases hka : k < a
              · by_cases hkz : 0 < k
                · have hd1 : (k == d) = false := by simp; omega
                  by_cases hj : k = a - 1
                  · have hjb : (k == a - 1) = true := by simpa using hj
                    have HJ := Lib.hid hj
                    clear hj
                    obtain ⟨ad1, rfl, hcell⟩ := Kd.at_int HCr.out (k - 1) (by omega) (by omega)
                    obtain ⟨x, hx⟩ : ∃ x, rd t (k - 1) = x := ⟨_, rfl⟩
                    have hxe : t[(k - 1).toNat]? = some x := by rw [← hx]; exact rd_get t _ (by omega)
                    have HX1 := Lib.hid (mv_line HAt.out hab.1 (by omega) (by omega) (by omega) (by omega) (by omega) (by omega) HU.out HUl.out hxe)
                    rw [hx, show (k - 1).toNat = k.toNat - 1 by omega] at hcell
                    clear hx hxe
                    have hxl : (u ++ [x]).length = u.length + 1 := by simp
                    have HX2 := Lib.hid (HMid.out _ k (by have hj := HJ.out; unfold mvJ; split <;> omega) HX1.out.2 HX1.out.1)
                    as_aux_lemma =>
                      go_wp2_with (first
                        | ((with_reducible refine gate_builtin (b := .append) (xs := #[.tmp 176, .tmp 182]) rfl ?_); at_builtin; refine Kd.R_append (Kd.int .i64) (w0 := wo) wo.heap.size rfl (.tmp 176) (.tmp 182) 32 3 (.int .i64 0) 8 rfl Try.underlying32 PMarksFollow.info3 rfl (by decide) (by decide) u14 u x [.int .i64 x] (fun k => wo.heap.size ≤ k) (fun _ => False) rfl rfl ?aP (fun _ hk => hk.elim) ?aF ?aO ?aB ?aS ?aL ?_; (case aP => exact rfl); (case aF => exact (fun k hk => Nat.le_trans HB.out.size hk)); (case aO => exact HR.out); (case aB => exact HB.out); (case aS => exact HB.out.size); (case aL => omega); intro v1 w1 hr1 hb1 _ _; have HR2 := Lib.hid hr1; have HB2 := Lib.hid hb1; clear hr1 hb1)
                        | ((with_reducible refine gate_builtin (b := .append) (xs := #[.tmp 217, .tmp 222]) rfl ?_); at_builtin; refine Kd.R_append_row (Value.int .i64) (0 : Int) (h1 := fun _ => rfl) (w0 := wo) (W := _) wo.heap.size rfl (.tmp 217) (.tmp 222) 32 3 (.int .i64 0) 8 rfl Try.underlying32 PMarksFollow.info3 rfl (by decide) _ (u ++ [x]) tm A2 _ _ (fun k => wo.heap.size ≤ k) rfl rfl ?aF ?aO ?aR ?aB ?aS ?aL ?_; (case aF => exact (fun k hk => Nat.le_trans HB2.out.size hk)); (case aO => exact HR2.out); (case aR => exact (Kd.C_of_reads (h1 := fun _ => rfl) (HA2.out _ (Kd.reads_of_C (Kd.C_below HC.out HB2.out))))); (case aB => exact HB2.out); (case aS => exact HB2.out.size); (case aL => (try rw [hxl]); omega); intro v1 w1 hr1 hb1 _ _; have HR3 := Lib.hid hr1; have HB3 := Lib.hid hb1; clear hr1 hb1)
                        | go_in)
                      all_goals
                        go_roundw
                        case rel => first | exact ⟨k + 1, by first | rfl | (congr 1; omega), by omega, by omega, _, HR3.out, HB3.out, HX2.out.1, HX2.out.2⟩ | exact ⟨_, HR3.out, HB3.out, HX2.out.1, HX2.out.2⟩ | exact ⟨by omega, _, HR3.out, HB3.out, HX2.out.1, HX2.out.2⟩ | exact ⟨by omega, by omega, _, HR3.out, HB3.out, HX2.out.1, HX2.out.2⟩ | exact ⟨by omega, _, HR3.out, HB3.out, eqq_l (by simpa using hd3) HX2.out.1, eqq_q (by simpa using hd3) HX2.out.2⟩ | exact ⟨by omega, by omega, _, HR3.out, HB3.out, eqq_l (by simpa using hd3) HX2.out.1, eqq_q (by simpa using hd3) HX2.out.2⟩ | exact ⟨_, HR3.out, HB3.out, eqq_l (by simpa using hd3) HX2.out.1, eqq_q (by simpa using hd3) HX2.out.2⟩ | (trace_state; fail)
                        case measure => simp [intOf]; omega
                  · have hjb : (k == a - 1) = false := by simpa using hj
                    have HJ := Lib.hid hj
                    clear hj
                    obtain ⟨ad1, rfl, hcell⟩ := Kd.at_int HCr.out (k - 1) (by omega) (by omega)
                    obtain ⟨x, hx⟩ : ∃ x, rd t (k - 1) = x := ⟨_, rfl⟩
                    have hxe : t[(k - 1).toNat]? = some x := by rw [← hx]; exact rd_get t _ (by omega)
                    have HX1 := Lib.hid (mv_line HAt.out hab.1 (by omega) (by omega) (by omega) (by omega) (by omega) (by omega) HU.out HUl.out hxe)
                    rw [hx, show (k - 1).toNat = k.toNat - 1 by omega] at hcell
                    clear hx hxe
                    have hxl : (u ++ [x]).length = u.length + 1 := by simp
                    have HX2 := Lib.hid (mv_stay (by have hj := HJ.out; unfold mvJ; split <;> omega) HX1.out.2 HX1.out.1)
                    as_aux_lemma =>
                      go_wp2_with (first
                        | ((with_reducible refine gate_builtin (b := .append) (xs := #[.tmp 176, .tmp 182]) rfl ?_); at_builtin; refine Kd.R_append (Kd.int .i64) (w0 := wo) wo.heap.size rfl (.tmp 176) (.tmp 182) 32 3 (.int .i64 0) 8 rfl Try.underlying32 PMarksFollow.info3 rfl (by decide) (by decide) u14 u x [.int .i64 x] (fun k => wo.heap.size ≤ k) (fun _ => False) rfl rfl ?aP (fun _ hk => hk.elim) ?aF ?aO ?aB ?aS ?aL ?_; (case aP => exact rfl); (case aF => exact (fun k hk => Nat.le_trans HB.out.size hk)); (case aO => exact HR.out); (case aB => exact HB.out); (case aS => exact HB.out.size); (case aL => omega); intro v1 w1 hr1 hb1 _ _; have HR2 := Lib.hid hr1; have HB2 := Lib.hid hb1; clear hr1 hb1)
                        | go_in)
                      all_goals
                        go_roundw
                        case rel => first | exact ⟨k + 1, by first | rfl | (congr 1; omega), by omega, by omega, _, HR2.out, HB2.out, HX2.out.1, HX2.out.2⟩ | exact ⟨_, HR2.out, HB2.out, HX2.out.1, HX2.out.2⟩ | exact ⟨by omega, _, HR2.out, HB2.out, HX2.out.1, HX2.out.2⟩ | exact ⟨by omega, by omega, _, HR2.out, HB2.out, HX2.out.1, HX2.out.2⟩ | exact ⟨by omega, _, HR2.out, HB2.out, eqq_l (by simpa using hd3) HX2.out.1, eqq_q (by simpa using hd3) HX2.out.2⟩ | exact ⟨by omega, by omega, _, HR2.out, HB2.out, eqq_l (by simpa using hd3) HX2.out.1, eqq_q (by simpa using hd3) HX2.out.2⟩ | exact ⟨_, HR2.out, HB2.out, eqq_l (by simpa using hd3) HX2.out.1, eqq_q (by simpa using hd3) HX2.out.2⟩ | (trace_state; fail)
                        case measure => simp [intOf]; omega
                · have hd1 : (k == d) = false := by simp; omega
                  by_cases hj : k = a - 1
                  · have hjb : (k == a - 1) = true := by simpa using hj
                    have HJ := Lib.hid hj
                    clear hj
                    have HX1 := Lib.hid (mv_skip hab.1 (by omega) HAt.out.1 (by omega) (by omega) HU.out HUl.out)
                    have HX2 := Lib.hid (HMid.out _ k (by have hj := HJ.out; unfold mvJ; split <;> omega) HX1.out.2 HX1.out.1)
                    as_aux_lemma =>
                      go_wp2_with (first
                        | ((with_reducible refine gate_builtin (b := .append) (xs := #[.tmp 217, .tmp 222]) rfl ?_); at_builtin; refine Kd.R_append_row (Value.int .i64) (0 : Int) (h1 := fun _ => rfl) (w0 := wo) (W := _) wo.heap.size rfl (.tmp 217) (.tmp 222) 32 3 (.int .i64 0) 8 rfl Try.underlying32 PMarksFollow.info3 rfl (by decide) u14 u tm A2 _ _ (fun k => wo.heap.size ≤ k) rfl rfl ?aF ?aO ?aR ?aB ?aS ?aL ?_; (case aF => exact (fun k hk => Nat.le_trans HB.out.size hk)); (case aO => exact HR.out); (case aR => exact (Kd.C_of_reads (h1 := fun _ => rfl) (HA2.out _ (Kd.reads_of_C (Kd.C_below HC.out HB.out))))); (case aB => exact HB.out); (case aS => exact HB.out.size); (case aL => (try rw [hxl]); omega); intro v1 w1 hr1 hb1 _ _; have HR3 := Lib.hid hr1; have HB3 := Lib.hid hb1; clear hr1 hb1)
                        | go_in)
                      all_goals
                        go_roundw
                        case rel => first | exact ⟨k + 1, by first | rfl | (congr 1; omega), by omega, by omega, _, HR3.out, HB3.out, HX2.out.1, HX2.out.2⟩ | exact ⟨_, HR3.out, HB3.out, HX2.out.1, HX2.out.2⟩ | exact ⟨by omega, _, HR3.out, HB3.out, HX2.out.1, HX2.out.2⟩ | exact ⟨by omega, by omega, _, HR3.out, HB3.out, HX2.out.1, HX2.out.2⟩ | exact ⟨by omega, _, HR3.out, HB3.out, eqq_l (by simpa using hd3) HX2.out.1, eqq_q (by simpa using hd3) HX2.out.2⟩ | exact ⟨by omega, by omega, _, HR3.out, HB3.out, eqq_l (by simpa using hd3) HX2.out.1, eqq_q (by simpa using hd3) HX2.out.2⟩ | exact ⟨_, HR3.out, HB3.out, eqq_l (by simpa using hd3) HX2.out.1, eqq_q (by simpa using hd3) HX2.out.2⟩ | (trace_state; fail)
                        case measure => simp [intOf]; omega
                  · have hjb : (k == a - 1) = false := by simpa using hj
                    have HJ := Lib.hid hj
                    clear hj
                    have HX1 := Lib.hid (mv_skip hab.1 (by omega) HAt.out.1 (by omega) (by omega) HU.out HUl.out)
                    have HX2 := Lib.hid (mv_stay (by have hj := HJ.out; unfold mvJ; split <;> omega) HX1.out.2 HX1.out.1)
                    as_aux_lemma =>
                      go_wp2_with (first
                        | go_in)
                      all_goals
                        go_roundw
                        case rel => first | exact ⟨k + 1, by first | rfl | (congr 1; omega), by omega, by omega, _, HR.out, HB.out, HX2.out.1, HX2.out.2⟩ | exact ⟨_, HR.out, HB.out, HX2.out.1, HX2.out.2⟩ | exact ⟨by omega, _, HR.out, HB.out, HX2.out.1, HX2.out.2⟩ | exact ⟨by omega, by omega, _, HR.out, HB.out, HX2.out.1, HX2.out.2⟩ | exact ⟨by omega, _, HR.out, HB.out, eqq_l (by simpa using hd3) HX2.out.1, eqq_q (by simpa using hd3) HX2.out.2⟩ | exact ⟨by omega, by omega, _, HR.out, HB.out, eqq_l (by simpa using hd3) HX2.out.1, eqq_q (by simpa using hd3) HX2.out.2⟩ | exact ⟨_, HR.out, HB.out, eqq_l (by simpa using hd3) HX2.out.1, eqq_q (by simpa using hd3) HX2.out.2⟩ | (trace_state; fail)
                        case measure => simp [intOf]; omega
              · by_cases hkq : q < k
                · have hd1 : (k == d) = false := by simp; omega
                  have hd2 : (k == a - 1) = false := by simp; omega
                  have HJ : Hid True := trivial
                  obtain ⟨ad1, rfl, hcell⟩ := Kd.at_int HCr.out (k - 1) (by omega) (by omega)
                  obtain ⟨x, hx⟩ : ∃ x, rd t (k - 1) = x := ⟨_, rfl⟩
                  have hxe : t[(k - 1).toNat]? = some x := by rw [← hx]; exact rd_get t _ (by omega)
                  have HX1 := Lib.hid (mv_line HAt.out hab.1 (by omega) (by omega) (by omega) (by omega) (by omega) (by omega) HU.out HUl.out hxe)
                  rw [hx, show (k - 1).toNat = k.toNat - 1 by omega] at hcell
                  clear hx hxe
                  have hxl : (u ++ [x]).length = u.length + 1 := by simp
                  have HX2 := Lib.hid (mv_stay (by have hj := HJ.out; unfold mvJ; split <;> omega) HX1.out.2 HX1.out.1)
                  as_aux_lemma =>
                    go_wp2_with (first
                      | ((with_reducible refine gate_builtin (b := .append) (xs := #[.tmp 176, .tmp 182]) rfl ?_); at_builtin; refine Kd.R_append (Kd.int .i64) (w0 := wo) wo.heap.size rfl (.tmp 176) (.tmp 182) 32 3 (.int .i64 0) 8 rfl Try.underlying32 PMarksFollow.info3 rfl (by decide) (by decide) u14 u x [.int .i64 x] (fun k => wo.heap.size ≤ k) (fun _ => False) rfl rfl ?aP (fun _ hk => hk.elim) ?aF ?aO ?aB ?aS ?aL ?_; (case aP => exact rfl); (case aF => exact (fun k hk => Nat.le_trans HB.out.size hk)); (case aO => exact HR.out); (case aB => exact HB.out); (case aS => exact HB.out.size); (case aL => omega); intro v1 w1 hr1 hb1 _ _; have HR2 := Lib.hid hr1; have HB2 := Lib.hid hb1; clear hr1 hb1)
                      | go_in)
                    all_goals
                      go_roundw
                      case rel => first | exact ⟨k + 1, by first | rfl | (congr 1; omega), by omega, by omega, _, HR2.out, HB2.out, HX2.out.1, HX2.out.2⟩ | exact ⟨_, HR2.out, HB2.out, HX2.out.1, HX2.out.2⟩ | exact ⟨by omega, _, HR2.out, HB2.out, HX2.out.1, HX2.out.2⟩ | exact ⟨by omega, by omega, _, HR2.out, HB2.out, HX2.out.1, HX2.out.2⟩ | exact ⟨by omega, _, HR2.out, HB2.out, eqq_l (by simpa using hd3) HX2.out.1, eqq_q (by simpa using hd3) HX2.out.2⟩ | exact ⟨by omega, by omega, _, HR2.out, HB2.out, eqq_l (by simpa using hd3) HX2.out.1, eqq_q (by simpa using hd3) HX2.out.2⟩ | exact ⟨_, HR2.out, HB2.out, eqq_l (by simpa using hd3) HX2.out.1, eqq_q (by simpa using hd3) HX2.out.2⟩ | (trace_state; fail)
                      case measure => simp [intOf]; omega
                · have hd2 : (k == a - 1) = false := by simp; omega
                  by_cases hj : k = d
                  · have hjb : (k == d) = true := by simpa using hj
                    have HJ := Lib.hid hj
                    clear hj
                    have HX1 := Lib.hid (mv_skip hab.1 (by omega) HAt.out.1 (by omega) (by omega) HU.out HUl.out)
                    have HX2 := Lib.hid (mv_stay (by have hj := HJ.out; unfold mvJ; split <;> omega) HX1.out.2 HX1.out.1)
                    as_aux_lemma =>
                      go_wp2_with (first
                        | go_in)
                      all_goals
                        go_roundw
                        case rel => first | exact ⟨k + 1, by first | rfl | (congr 1; omega), by omega, by omega, _, HR.out, HB.out, HX2.out.1, HX2.out.2⟩ | exact ⟨_, HR.out, HB.out, HX2.out.1, HX2.out.2⟩ | exact ⟨by omega, _, HR.out, HB.out, HX2.out.1, HX2.out.2⟩ | exact ⟨by omega, by omega, _, HR.out, HB.out, HX2.out.1, HX2.out.2⟩ | exact ⟨by omega, _, HR.out, HB.out, eqq_l (by simpa using hd3) HX2.out.1, eqq_q (by simpa using hd3) HX2.out.2⟩ | exact ⟨by omega, by omega, _, HR.out, HB.out, eqq_l (by simpa using hd3) HX2.out.1, eqq_q (by simpa using hd3) HX2.out.2⟩ | exact ⟨_, HR.out, HB.out, eqq_l (by simpa using hd3) HX2.out.1, eqq_q (by simpa using hd3) HX2.out.2⟩ | (trace_state; fail)
                        case measure => simp [intOf]; omega
                  · have hjb : (k == d) = false := by simpa using hj
                    have HJ := Lib.hid hj
                    clear hj
                    have HX1 := Lib.hid (mv_skip hab.1 (by omega) HAt.out.1 (by omega) (by omega) HU.out HUl.out)
                    have HX2 := Lib.hid (mv_stay (by have hj := HJ.out; unfold mvJ; split <;> omega) HX1.out.2 HX1.out.1)
                    as_aux_lemma =>
                      go_wp2_with (first
                        | go_in)
                      all_goals
                        go_roundw
                        case rel => first | exact ⟨k + 1, by first | rfl | (congr 1; omega), by omega, by omega, _, HR.out, HB.out, HX2.out.1, HX2.out.2⟩ | exact ⟨_, HR.out, HB.out, HX2.out.1, HX2.out.2⟩ | exact ⟨by omega, _, HR.out, HB.out, HX2.out.1, HX2.out.2⟩ | exact ⟨by omega, by omega, _, HR.out, HB.out, HX2.out.1, HX2.out.2⟩ | exact ⟨by omega, _, HR.out, HB.out, eqq_l (by simpa using hd3) HX2.out.1, eqq_q (by simpa using hd3) HX2.out.2⟩ | exact ⟨by omega, by omega, _, HR.out, HB.out, eqq_l (by simpa using hd3) HX2.out.1, eqq_q (by simpa using hd3) HX2.out.2⟩ | exact ⟨_, HR.out, HB.out, eqq_l (by simpa using hd3) HX2.out.1, eqq_q (by simpa using hd3) HX2.out.2⟩ | (trace_state; fail)
                        case measure => simp [intOf]; omega
            · as_aux_lemma =>
              obtain rfl : k = t.length + 1 := by omega
              have HX := Lib.hid (mv_end hpn HAt.out.1 hab.1 hqb.1 hqb.2 hdb.1 (by omega) (by omega) HU.out HUl.out)
              go_wp2_with (first
                | (go_at_call 19; (with_reducible refine (move_held (H.later HB.out) a q d (by decide)).mono ?_); rintro e w5 ⟨rfl, H5, hg5⟩; have HG5 := Lib.hid hg5; clear hg5)
                | go_in)
              obtain ⟨t5, ht5⟩ : ∃ t5, u = t5 := ⟨_, rfl⟩
              obtain ⟨q5, hq5⟩ : ∃ q5, mvAt a q d pos = q5 := ⟨_, rfl⟩
              obtain ⟨f5, hf5⟩ : ∃ f5, movF f a q d = f5 := ⟨_, rfl⟩
              rw [ht5, hq5] at HX
              rw [hf5] at H5 HFs
              rw [ht5] at HR
              rw [hq5] at HFs
              have HR5 := Lib.hid (out_grown HR.out HG5.out (Nat.lt_of_lt_of_le H.hm2 (Nat.le_refl _)))
              have HAt5 := Lib.hid HX.out.2
              have HF5 := HFs
              have hl5 := HX.out.1
              have HBel5 := Lib.hid (below_old HB.out HG5.out H)
              clear HX HFs HR HG5 hq5 hf5 HU HUl HCr
              obtain ⟨A5, c5, rfl, hc5, hC5⟩ := Kd.R_reads HR5.out
              have HC5 := Lib.hid hC5
              clear hC5
              have hq5 : 0 ≤ q5 ∧ q5 ≤ t5.length := ⟨HAt5.out.1, HAt5.out.le⟩

              go_loopw [20, 21] (fun v20 v21 wr' => ∃ k : Int, v21 = .int .i64 k ∧ 0 ≤ k ∧ k ≤ t5.length ∧ v20 = .int .i64 (if 1 ≤ q5 ∧ q5 ≤ k then q5 else 0) ∧ w5 = wr') (fun _ v21 _ => t5.length - (intOf v21).toNat)
              case atStart => exact ⟨0, rfl, by omega, by omega, by rw [if_neg (by omega)], rfl⟩
              case round =>
                obtain ⟨k, rfl, hk0, hk1, rfl, rfl⟩ := hrel
                by_cases hkl : k < t5.length
                · obtain ⟨ad5, rfl, hcell⟩ := Kd.at_int HC5.out k hk0 hkl
                  have hget := HAt5.out.get k.toNat (by omega)
                  obtain ⟨x, hx⟩ : ∃ x, rd t5 k = x := ⟨_, rfl⟩
                  have hxe : t5[k.toNat]'(by omega) = x := by
                    rw [← hx]
                    exact rd_getElem t5 _ (by omega)
                  rw [hxe] at hget
                  rw [hx] at hcell
                  clear hx hxe
                  by_cases hxm : x = mine
                  · have hke := hget.1 hxm
                    clear hget
                    subst hxm
                    as_aux_lemma =>
                    go_wp2
                    go_roundw
                    case rel => exact ⟨k + 1, rfl, by omega, by omega, by rw [if_pos (by omega)]; exact congrArg (Value.int .i64) (by omega), by first | rfl | trivial⟩
                    case measure => simp [intOf]; omega
                  · have hke : ¬ k + 1 = q5 := fun e => hxm (hget.2 (by omega))
                    clear hget
                    as_aux_lemma =>
                    go_wp2
                    go_roundw
                    case rel => exact ⟨k + 1, rfl, by omega, by omega, by congr 1; split <;> split <;> omega, by first | rfl | trivial⟩
                    case measure => simp [intOf]; omega
                · have hw : (if 1 ≤ q5 ∧ q5 ≤ k then q5 else 0) = q5 := by split <;> omega
                  have HG : Hid (FollowRel w.heap.size w (w2.heap.size + 1) w2.heap.size (some ad) len mine (.slice A5 t5.length c5) (.int .i64 (i + 1)) w5) :=
                    ⟨t5, i + 1, q5, _, A5, c5, rfl, by omega, by omega, rfl, hc5, HC5.out, H5, HF5.out, HAt5.out, by omega⟩
                  by_cases hq0 : q5 = 0
                  · have HE : Hid ((if f5 120 = 0 then (100 : Int) else 0) = 100) := by rw [HF5.out, hq0]; exact rfl
                    subst hq0
                    as_aux_lemma =>
                    go_wp2_with (first
                      | (go_at_call 15; (with_reducible refine (get_held H5 120 0 100 (by omega) (by omega) HF5.out HE.out).mono ?_); rintro e w6 ⟨rfl, rfl⟩)
                      | go_in)
                    go_roundw
                    case rel => exact HG.out
                    case measure => simp [intOf]; omega
                  · have HE : Hid ((if f5 120 = 0 then (100 : Int) else 0) = 0) := by rw [HF5.out, if_neg hq0]; exact rfl
                    have hqp : 0 < q5 := by omega
                    clear hq0
                    as_aux_lemma =>
                    go_wp2_with (first
                      | (go_at_call 15; (with_reducible refine (get_held H5 120 q5 0 (by omega) (by omega) HF5.out HE.out).mono ?_); rintro e w6 ⟨rfl, rfl⟩)
                      | go_in)
                    go_roundw
                    case rel => exact HG.out
                    case measure => simp [intOf]; omega
        · have hout : d < a ∨ q < d := by omega
          clear hsk
          rcases hout with ho | ho
          · as_aux_lemma =>
            go_wp2
            go_loopw [14, 19] (fun v14 v19 wr' => ∃ k : Int, v19 = .int .i64 k ∧ 0 ≤ k ∧ k ≤ t.length + 1 ∧ OutAt wo wr' mine (mvQ a q d pos k k) (mvL a q d k k) v14) (fun _ v19 _ => t.length + 1 - (intOf v19).toNat)
            case atStart => exact ⟨0, rfl, by omega, by omega, [], Kd.R_nil _ _ _ _ _, Below.refl _ _, HSt.out.1, HSt.out.2⟩
            case round =>
              obtain ⟨k, rfl, hk0', hk1', u, hr, hbl, hul, hua⟩ := hrel
              have HR := Lib.hid hr
              have HB := Lib.hid hbl
              have HU := Lib.hid hua
              have HUl := Lib.hid hul
              have hlen : u.length ≤ 1000 := by
                have h0 := hul
                unfold mvL mvK at h0
                revert h0
                repeat' split
                all_goals omega
              clear hr hbl hua hul
              have HCr := Lib.hid (Kd.C_below HC.out HB.out)
              by_cases hkn : k ≤ t.length
              · by_cases hka : k < a
                · by_cases hkz : 0 < k
                  · have hd3 : (d == q) = false := by simpa using hdq
                    by_cases hj : k = d
                    · have hjb : (k == d) = true := by simpa using hj
                      have HJ := Lib.hid hj
                      clear hj
                      obtain ⟨ad1, rfl, hcell⟩ := Kd.at_int HCr.out (k - 1) (by omega) (by omega)
                      obtain ⟨x, hx⟩ : ∃ x, rd t (k - 1) = x := ⟨_, rfl⟩
                      have hxe : t[(k - 1).toNat]? = some x := by rw [← hx]; exact rd_get t _ (by omega)
                      have HX1 := Lib.hid (mv_line HAt.out hab.1 (by omega) (by omega) (by omega) (by omega) (by omega) (by omega) HU.out HUl.out hxe)
                      rw [hx, show (k - 1).toNat = k.toNat - 1 by omega] at hcell
                      clear hx hxe
                      have hxl : (u ++ [x]).length = u.length + 1 := by simp
                      have HX2 := Lib.hid (HMid.out _ k (by have hj := HJ.out; unfold mvJ; split <;> omega) HX1.out.2 HX1.out.1)
                      as_aux_lemma =>
                        go_wp2_with (first
                          | ((with_reducible refine gate_builtin (b := .append) (xs := #[.tmp 176, .tmp 182]) rfl ?_); at_builtin; refine Kd.R_append (Kd.int .i64) (w0 := wo) wo.heap.size rfl (.tmp 176) (.tmp 182) 32 3 (.int .i64 0) 8 rfl Try.underlying32 PMarksFollow.info3 rfl (by decide) (by decide) u14 u x [.int .i64 x] (fun k => wo.heap.size ≤ k) (fun _ => False) rfl rfl ?aP (fun _ hk => hk.elim) ?aF ?aO ?aB ?aS ?aL ?_; (case aP => exact rfl); (case aF => exact (fun k hk => Nat.le_trans HB.out.size hk)); (case aO => exact HR.out); (case aB => exact HB.out); (case aS => exact HB.out.size); (case aL => omega); intro v1 w1 hr1 hb1 _ _; have HR2 := Lib.hid hr1; have HB2 := Lib.hid hb1; clear hr1 hb1)
                          | ((with_reducible refine gate_builtin (b := .append) (xs := #[.tmp 217, .tmp 222]) rfl ?_); at_builtin; refine Kd.R_append_row (Value.int .i64) (0 : Int) (h1 := fun _ => rfl) (w0 := wo) (W := _) wo.heap.size rfl (.tmp 217) (.tmp 222) 32 3 (.int .i64 0) 8 rfl Try.underlying32 PMarksFollow.info3 rfl (by decide) _ (u ++ [x]) tm A2 _ _ (fun k => wo.heap.size ≤ k) rfl rfl ?aF ?aO ?aR ?aB ?aS ?aL ?_; (case aF => exact (fun k hk => Nat.le_trans HB2.out.size hk)); (case aO => exact HR2.out); (case aR => exact (Kd.C_of_reads (h1 := fun _ => rfl) (HA2.out _ (Kd.reads_of_C (Kd.C_below HC.out HB2.out))))); (case aB => exact HB2.out); (case aS => exact HB2.out.size); (case aL => (try rw [hxl]); omega); intro v1 w1 hr1 hb1 _ _; have HR3 := Lib.hid hr1; have HB3 := Lib.hid hb1; clear hr1 hb1)
                          | go_in)
                        all_goals
                          go_roundw
                          case rel => first | exact ⟨k + 1, by first | rfl | (congr 1; omega), by omega, by omega, _, HR3.out, HB3.out, HX2.out.1, HX2.out.2⟩ | exact ⟨_, HR3.out, HB3.out, HX2.out.1, HX2.out.2⟩ | exact ⟨by omega, _, HR3.out, HB3.out, HX2.out.1, HX2.out.2⟩ | exact ⟨by omega, by omega, _, HR3.out, HB3.out, HX2.out.1, HX2.out.2⟩ | exact ⟨by omega, _, HR3.out, HB3.out, eqq_l (by simpa using hd3) HX2.out.1, eqq_q (by simpa using hd3) HX2.out.2⟩ | exact ⟨by omega, by omega, _, HR3.out, HB3.out, eqq_l (by simpa using hd3) HX2.out.1, eqq_q (by simpa using hd3) HX2.out.2⟩ | exact ⟨_, HR3.out, HB3.out, eqq_l (by simpa using hd3) HX2.out.1, eqq_q (by simpa using hd3) HX2.out.2⟩ | (trace_state; fail)
                          case measure => simp [intOf]; omega
                    · have hjb : (k == d) = false := by simpa using hj
                      have HJ := Lib.hid hj
                      clear hj
                      obtain ⟨ad1, rfl, hcell⟩ := Kd.at_int HCr.out (k - 1) (by omega) (by omega)
                      obtain ⟨x, hx⟩ : ∃ x, rd t (k - 1) = x := ⟨_, rfl⟩
                      have hxe : t[(k - 1).toNat]? = some x := by rw [← hx]; exact rd_get t _ (by omega)
                      have HX1 := Lib.hid (mv_line HAt.out hab.1 (by omega) (by omega) (by omega) (by omega) (by omega) (by omega) HU.out HUl.out hxe)
                      rw [hx, show (k - 1).toNat = k.toNat - 1 by omega] at hcell
                      clear hx hxe
                      have hxl : (u ++ [x]).length = u.length + 1 := by simp
                      have HX2 := Lib.hid (mv_stay (by have hj := HJ.out; unfold mvJ; split <;> omega) HX1.out.2 HX1.out.1)
                      as_aux_lemma =>
                        go_wp2_with (first
                          | ((with_reducible refine gate_builtin (b := .append) (xs := #[.tmp 176, .tmp 182]) rfl ?_); at_builtin; refine Kd.R_append (Kd.int .i64) (w0 := wo) wo.heap.size rfl (.tmp 176) (.tmp 182) 32 3 (.int .i64 0) 8 rfl Try.underlying32 PMarksFollow.info3 rfl (by decide) (by decide) u14 u x [.int .i64 x] (fun k => wo.heap.size ≤ k) (fun _ => False) rfl rfl ?aP (fun _ hk => hk.elim) ?aF ?aO ?aB ?aS ?aL ?_; (case aP => exact rfl); (case aF => exact (fun k hk => Nat.le_trans HB.out.size hk)); (case aO => exact HR.out); (case aB => exact HB.out); (case aS => exact HB.out.size); (case aL => omega); intro v1 w1 hr1 hb1 _ _; have HR2 := Lib.hid hr1; have HB2 := Lib.hid hb1; clear hr1 hb1)
                          | go_in)
                        all_goals
                          go_roundw
                          case rel => first | exact ⟨k + 1, by first | rfl | (congr 1; omega), by omega, by omega, _, HR2.out, HB2.out, HX2.out.1, HX2.out.2⟩ | exact ⟨_, HR2.out, HB2.out, HX2.out.1, HX2.out.2⟩ | exact ⟨by omega, _, HR2.out, HB2.out, HX2.out.1, HX2.out.2⟩ | exact ⟨by omega, by omega, _, HR2.out, HB2.out, HX2.out.1, HX2.out.2⟩ | exact ⟨by omega, _, HR2.out, HB2.out, eqq_l (by simpa using hd3) HX2.out.1, eqq_q (by simpa using hd3) HX2.out.2⟩ | exact ⟨by omega, by omega, _, HR2.out, HB2.out, eqq_l (by simpa using hd3) HX2.out.1, eqq_q (by simpa using hd3) HX2.out.2⟩ | exact ⟨_, HR2.out, HB2.out, eqq_l (by simpa using hd3) HX2.out.1, eqq_q (by simpa using hd3) HX2.out.2⟩ | (trace_state; fail)
                          case measure => simp [intOf]; omega
                  · have hd3 : (d == q) = false := by simpa using hdq
                    by_cases hj : k = d
                    · have hjb : (k == d) = true := by simpa using hj
                      have HJ := Lib.hid hj
                      clear hj
                      have HX1 := Lib.hid (mv_skip hab.1 (by omega) HAt.out.1 (by omega) (by omega) HU.out HUl.out)
                      have HX2 := Lib.hid (HMid.out _ k (by have hj := HJ.out; unfold mvJ; split <;> omega) HX1.out.2 HX1.out.1)
                      as_aux_lemma =>
                        go_wp2_with (first
                          | ((with_reducible refine gate_builtin (b := .append) (xs := #[.tmp 217, .tmp 222]) rfl ?_); at_builtin; refine Kd.R_append_row (Value.int .i64) (0 : Int) (h1 := fun _ => rfl) (w0 := wo) (W := _) wo.heap.size rfl (.tmp 217) (.tmp 222) 32 3 (.int .i64 0) 8 rfl Try.underlying32 PMarksFollow.info3 rfl (by decide) u14 u tm A2 _ _ (fun k => wo.heap.size ≤ k) rfl rfl ?aF ?aO ?aR ?aB ?aS ?aL ?_; (case aF => exact (fun k hk => Nat.le_trans HB.out.size hk)); (case aO => exact HR.out); (case aR => exact (Kd.C_of_reads (h1 := fun _ => rfl) (HA2.out _ (Kd.reads_of_C (Kd.C_below HC.out HB.out))))); (case aB => exact HB.out); (case aS => exact HB.out.size); (case aL => (try rw [hxl]); omega); intro v1 w1 hr1 hb1 _ _; have HR3 := Lib.hid hr1; have HB3 := Lib.hid hb1; clear hr1 hb1)
                          | go_in)
                        all_goals
                          go_roundw
                          case rel => first | exact ⟨k + 1, by first | rfl | (congr 1; omega), by omega, by omega, _, HR3.out, HB3.out, HX2.out.1, HX2.out.2⟩ | exact ⟨_, HR3.out, HB3.out, HX2.out.1, HX2.out.2⟩ | exact ⟨by omega, _, HR3.out, HB3.out, HX2.out.1, HX2.out.2⟩ | exact ⟨by omega, by omega, _, HR3.out, HB3.out, HX2.out.1, HX2.out.2⟩ | exact ⟨by omega, _, HR3.out, HB3.out, eqq_l (by simpa using hd3) HX2.out.1, eqq_q (by simpa using hd3) HX2.out.2⟩ | exact ⟨by omega, by omega, _, HR3.out, HB3.out, eqq_l (by simpa using hd3) HX2.out.1, eqq_q (by simpa using hd3) HX2.out.2⟩ | exact ⟨_, HR3.out, HB3.out, eqq_l (by simpa using hd3) HX2.out.1, eqq_q (by simpa using hd3) HX2.out.2⟩ | (trace_state; fail)
                          case measure => simp [intOf]; omega
                    · have hjb : (k == d) = false := by simpa using hj
                      have HJ := Lib.hid hj
                      clear hj
                      have HX1 := Lib.hid (mv_skip hab.1 (by omega) HAt.out.1 (by omega) (by omega) HU.out HUl.out)
                      have HX2 := Lib.hid (mv_stay (by have hj := HJ.out; unfold mvJ; split <;> omega) HX1.out.2 HX1.out.1)
                      as_aux_lemma =>
                        go_wp2_with (first
                          | go_in)
                        all_goals
                          go_roundw
                          case rel => first | exact ⟨k + 1, by first | rfl | (congr 1; omega), by omega, by omega, _, HR.out, HB.out, HX2.out.1, HX2.out.2⟩ | exact ⟨_, HR.out, HB.out, HX2.out.1, HX2.out.2⟩ | exact ⟨by omega, _, HR.out, HB.out, HX2.out.1, HX2.out.2⟩ | exact ⟨by omega, by omega, _, HR.out, HB.out, HX2.out.1, HX2.out.2⟩ | exact ⟨by omega, _, HR.out, HB.out, eqq_l (by simpa using hd3) HX2.out.1, eqq_q (by simpa using hd3) HX2.out.2⟩ | exact ⟨by omega, by omega, _, HR.out, HB.out, eqq_l (by simpa using hd3) HX2.out.1, eqq_q (by simpa using hd3) HX2.out.2⟩ | exact ⟨_, HR.out, HB.out, eqq_l (by simpa using hd3) HX2.out.1, eqq_q (by simpa using hd3) HX2.out.2⟩ | (trace_state; fail)
                          case measure => simp [intOf]; omega
                · by_cases hkq : q < k
                  · have hd3 : (d == q) = false := by simpa using hdq
                    by_cases hj : k = d
                    · have hjb : (k == d) = true := by simpa using hj
                      have HJ := Lib.hid hj
                      clear hj
                      obtain ⟨ad1, rfl, hcell⟩ := Kd.at_int HCr.out (k - 1) (by omega) (by omega)
                      obtain ⟨x, hx⟩ : ∃ x, rd t (k - 1) = x := ⟨_, rfl⟩
                      have hxe : t[(k - 1).toNat]? = some x := by rw [← hx]; exact rd_get t _ (by omega)
                      have HX1 := Lib.hid (mv_line HAt.out hab.1 (by omega) (by omega) (by omega) (by omega) (by omega) (by omega) HU.out HUl.out hxe)
                      rw [hx, show (k - 1).toNat = k.toNat - 1 by omega] at hcell
                      clear hx hxe
                      have hxl : (u ++ [x]).length = u.length + 1 := by simp
                      have HX2 := Lib.hid (HMid.out _ k (by have hj := HJ.out; unfold mvJ; split <;> omega) HX1.out.2 HX1.out.1)
                      as_aux_lemma =>
                        go_wp2_with (first
                          | ((with_reducible refine gate_builtin (b := .append) (xs := #[.tmp 176, .tmp 182]) rfl ?_); at_builtin; refine Kd.R_append (Kd.int .i64) (w0 := wo) wo.heap.size rfl (.tmp 176) (.tmp 182) 32 3 (.int .i64 0) 8 rfl Try.underlying32 PMarksFollow.info3 rfl (by decide) (by decide) u14 u x [.int .i64 x] (fun k => wo.heap.size ≤ k) (fun _ => False) rfl rfl ?aP (fun _ hk => hk.elim) ?aF ?aO ?aB ?aS ?aL ?_; (case aP => exact rfl); (case aF => exact (fun k hk => Nat.le_trans HB.out.size hk)); (case aO => exact HR.out); (case aB => exact HB.out); (case aS => exact HB.out.size); (case aL => omega); intro v1 w1 hr1 hb1 _ _; have HR2 := Lib.hid hr1; have HB2 := Lib.hid hb1; clear hr1 hb1)
                          | ((with_reducible refine gate_builtin (b := .append) (xs := #[.tmp 217, .tmp 222]) rfl ?_); at_builtin; refine Kd.R_append_row (Value.int .i64) (0 : Int) (h1 := fun _ => rfl) (w0 := wo) (W := _) wo.heap.size rfl (.tmp 217) (.tmp 222) 32 3 (.int .i64 0) 8 rfl Try.underlying32 PMarksFollow.info3 rfl (by decide) _ (u ++ [x]) tm A2 _ _ (fun k => wo.heap.size ≤ k) rfl rfl ?aF ?aO ?aR ?aB ?aS ?aL ?_; (case aF => exact (fun k hk => Nat.le_trans HB2.out.size hk)); (case aO => exact HR2.out); (case aR => exact (Kd.C_of_reads (h1 := fun _ => rfl) (HA2.out _ (Kd.reads_of_C (Kd.C_below HC.out HB2.out))))); (case aB => exact HB2.out); (case aS => exact HB2.out.size); (case aL => (try rw [hxl]); omega); intro v1 w1 hr1 hb1 _ _; have HR3 := Lib.hid hr1; have HB3 := Lib.hid hb1; clear hr1 hb1)
                          | go_in)
                        all_goals
                          go_roundw
                          case rel => first | exact ⟨k + 1, by first | rfl | (congr 1; omega), by omega, by omega, _, HR3.out, HB3.out, HX2.out.1, HX2.out.2⟩ | exact ⟨_, HR3.out, HB3.out, HX2.out.1, HX2.out.2⟩ | exact ⟨by omega, _, HR3.out, HB3.out, HX2.out.1, HX2.out.2⟩ | exact ⟨by omega, by omega, _, HR3.out, HB3.out, HX2.out.1, HX2.out.2⟩ | exact ⟨by omega, _, HR3.out, HB3.out, eqq_l (by simpa using hd3) HX2.out.1, eqq_q (by simpa using hd3) HX2.out.2⟩ | exact ⟨by omega, by omega, _, HR3.out, HB3.out, eqq_l (by simpa using hd3) HX2.out.1, eqq_q (by simpa using hd3) HX2.out.2⟩ | exact ⟨_, HR3.out, HB3.out, eqq_l (by simpa using hd3) HX2.out.1, eqq_q (by simpa using hd3) HX2.out.2⟩ | (trace_state; fail)
                          case measure => simp [intOf]; omega
                    · have hjb : (k == d) = false := by simpa using hj
                      have HJ := Lib.hid hj
                      clear hj
                      obtain ⟨ad1, rfl, hcell⟩ := Kd.at_int HCr.out (k - 1) (by omega) (by omega)
                      obtain ⟨x, hx⟩ : ∃ x, rd t (k - 1) = x := ⟨_, rfl⟩
                      have hxe : t[(k - 1).toNat]? = some x := by rw [← hx]; exact rd_get t _ (by omega)
                      have HX1 := Lib.hid (mv_line HAt.out hab.1 (by omega) (by omega) (by omega) (by omega) (by omega) (by omega) HU.out HUl.out hxe)
                      rw [hx, show (k - 1).toNat = k.toNat - 1 by omega] at hcell
                      clear hx hxe
                      have hxl : (u ++ [x]).length = u.length + 1 := by simp
                      have HX2 := Lib.hid (mv_stay (by have hj := HJ.out; unfold mvJ; split <;> omega) HX1.out.2 HX1.out.1)
                      as_aux_lemma =>
                        go_wp2_with (first
                          | ((with_reducible refine gate_builtin (b := .append) (xs := #[.tmp 176, .tmp 182]) rfl ?_); at_builtin; refine Kd.R_append (Kd.int .i64) (w0 := wo) wo.heap.size rfl (.tmp 176) (.tmp 182) 32 3 (.int .i64 0) 8 rfl Try.underlying32 PMarksFollow.info3 rfl (by decide) (by decide) u14 u x [.int .i64 x] (fun k => wo.heap.size ≤ k) (fun _ => False) rfl rfl ?aP (fun _ hk => hk.elim) ?aF ?aO ?aB ?aS ?aL ?_; (case aP => exact rfl); (case aF => exact (fun k hk => Nat.le_trans HB.out.size hk)); (case aO => exact HR.out); (case aB => exact HB.out); (case aS => exact HB.out.size); (case aL => omega); intro v1 w1 hr1 hb1 _ _; have HR2 := Lib.hid hr1; have HB2 := Lib.hid hb1; clear hr1 hb1)
                          | go_in)
                        all_goals
                          go_roundw
                          case rel => first | exact ⟨k + 1, by first | rfl | (congr 1; omega), by omega, by omega, _, HR2.out, HB2.out, HX2.out.1, HX2.out.2⟩ | exact ⟨_, HR2.out, HB2.out, HX2.out.1, HX2.out.2⟩ | exact ⟨by omega, _, HR2.out, HB2.out, HX2.out.1, HX2.out.2⟩ | exact ⟨by omega, by omega, _, HR2.out, HB2.out, HX2.out.1, HX2.out.2⟩ | exact ⟨by omega, _, HR2.out, HB2.out, eqq_l (by simpa using hd3) HX2.out.1, eqq_q (by simpa using hd3) HX2.out.2⟩ | exact ⟨by omega, by omega, _, HR2.out, HB2.out, eqq_l (by simpa using hd3) HX2.out.1, eqq_q (by simpa using hd3) HX2.out.2⟩ | exact ⟨_, HR2.out, HB2.out, eqq_l (by simpa using hd3) HX2.out.1, eqq_q (by simpa using hd3) HX2.out.2⟩ | (trace_state; fail)
                          case measure => simp [intOf]; omega
                  · have hd1 : (k == d) = false := by simp; omega
                    have hd3 : (d == q) = false := by simpa using hdq
                    have HJ : Hid True := trivial
                    have HX1 := Lib.hid (mv_skip hab.1 (by omega) HAt.out.1 (by omega) (by omega) HU.out HUl.out)
                    have HX2 := Lib.hid (mv_stay (by have hj := HJ.out; unfold mvJ; split <;> omega) HX1.out.2 HX1.out.1)
                    as_aux_lemma =>
                      go_wp2_with (first
                        | go_in)
                      all_goals
                        go_roundw
                        case rel => first | exact ⟨k + 1, by first | rfl | (congr 1; omega), by omega, by omega, _, HR.out, HB.out, HX2.out.1, HX2.out.2⟩ | exact ⟨_, HR.out, HB.out, HX2.out.1, HX2.out.2⟩ | exact ⟨by omega, _, HR.out, HB.out, HX2.out.1, HX2.out.2⟩ | exact ⟨by omega, by omega, _, HR.out, HB.out, HX2.out.1, HX2.out.2⟩ | exact ⟨by omega, _, HR.out, HB.out, eqq_l (by simpa using hd3) HX2.out.1, eqq_q (by simpa using hd3) HX2.out.2⟩ | exact ⟨by omega, by omega, _, HR.out, HB.out, eqq_l (by simpa using hd3) HX2.out.1, eqq_q (by simpa using hd3) HX2.out.2⟩ | exact ⟨_, HR.out, HB.out, eqq_l (by simpa using hd3) HX2.out.1, eqq_q (by simpa using hd3) HX2.out.2⟩ | (trace_state; fail)
                        case measure => simp [intOf]; omega
              · as_aux_lemma =>
                obtain rfl : k = t.length + 1 := by omega
                have HX := Lib.hid (mv_end hpn HAt.out.1 hab.1 hqb.1 hqb.2 hdb.1 (by omega) (by omega) HU.out HUl.out)
                go_wp2_with (first
                  | (go_at_call 19; (with_reducible refine (move_held (H.later HB.out) a q d (by decide)).mono ?_); rintro e w5 ⟨rfl, H5, hg5⟩; have HG5 := Lib.hid hg5; clear hg5)
                  | go_in)
                obtain ⟨t5, ht5⟩ : ∃ t5, u = t5 := ⟨_, rfl⟩
                obtain ⟨q5, hq5⟩ : ∃ q5, mvAt a q d pos = q5 := ⟨_, rfl⟩
                obtain ⟨f5, hf5⟩ : ∃ f5, movF f a q d = f5 := ⟨_, rfl⟩
                rw [ht5, hq5] at HX
                rw [hf5] at H5 HFs
                rw [ht5] at HR
                rw [hq5] at HFs
                have HR5 := Lib.hid (out_grown HR.out HG5.out (Nat.lt_of_lt_of_le H.hm2 (Nat.le_refl _)))
                have HAt5 := Lib.hid HX.out.2
                have HF5 := HFs
                have hl5 := HX.out.1
                have HBel5 := Lib.hid (below_old HB.out HG5.out H)
                clear HX HFs HR HG5 hq5 hf5 HU HUl HCr
                obtain ⟨A5, c5, rfl, hc5, hC5⟩ := Kd.R_reads HR5.out
                have HC5 := Lib.hid hC5
                clear hC5
                have hq5 : 0 ≤ q5 ∧ q5 ≤ t5.length := ⟨HAt5.out.1, HAt5.out.le⟩

                go_loopw [20, 21] (fun v20 v21 wr' => ∃ k : Int, v21 = .int .i64 k ∧ 0 ≤ k ∧ k ≤ t5.length ∧ v20 = .int .i64 (if 1 ≤ q5 ∧ q5 ≤ k then q5 else 0) ∧ w5 = wr') (fun _ v21 _ => t5.length - (intOf v21).toNat)
                case atStart => exact ⟨0, rfl, by omega, by omega, by rw [if_neg (by omega)], rfl⟩
                case round =>
                  obtain ⟨k, rfl, hk0, hk1, rfl, rfl⟩ := hrel
                  by_cases hkl : k < t5.length
                  · obtain ⟨ad5, rfl, hcell⟩ := Kd.at_int HC5.out k hk0 hkl
                    have hget := HAt5.out.get k.toNat (by omega)
                    obtain ⟨x, hx⟩ : ∃ x, rd t5 k = x := ⟨_, rfl⟩
                    have hxe : t5[k.toNat]'(by omega) = x := by
                      rw [← hx]
                      exact rd_getElem t5 _ (by omega)
                    rw [hxe] at hget
                    rw [hx] at hcell
                    clear hx hxe
                    by_cases hxm : x = mine
                    · have hke := hget.1 hxm
                      clear hget
                      subst hxm
                      as_aux_lemma =>
                      go_wp2
                      go_roundw
                      case rel => exact ⟨k + 1, rfl, by omega, by omega, by rw [if_pos (by omega)]; exact congrArg (Value.int .i64) (by omega), by first | rfl | trivial⟩
                      case measure => simp [intOf]; omega
                    · have hke : ¬ k + 1 = q5 := fun e => hxm (hget.2 (by omega))
                      clear hget
                      as_aux_lemma =>
                      go_wp2
                      go_roundw
                      case rel => exact ⟨k + 1, rfl, by omega, by omega, by congr 1; split <;> split <;> omega, by first | rfl | trivial⟩
                      case measure => simp [intOf]; omega
                  · have hw : (if 1 ≤ q5 ∧ q5 ≤ k then q5 else 0) = q5 := by split <;> omega
                    have HG : Hid (FollowRel w.heap.size w (w2.heap.size + 1) w2.heap.size (some ad) len mine (.slice A5 t5.length c5) (.int .i64 (i + 1)) w5) :=
                      ⟨t5, i + 1, q5, _, A5, c5, rfl, by omega, by omega, rfl, hc5, HC5.out, H5, HF5.out, HAt5.out, by omega⟩
                    by_cases hq0 : q5 = 0
                    · have HE : Hid ((if f5 120 = 0 then (100 : Int) else 0) = 100) := by rw [HF5.out, hq0]; exact rfl
                      subst hq0
                      as_aux_lemma =>
                      go_wp2_with (first
                        | (go_at_call 15; (with_reducible refine (get_held H5 120 0 100 (by omega) (by omega) HF5.out HE.out).mono ?_); rintro e w6 ⟨rfl, rfl⟩)
                        | go_in)
                      go_roundw
                      case rel => exact HG.out
                      case measure => simp [intOf]; omega
                    · have HE : Hid ((if f5 120 = 0 then (100 : Int) else 0) = 0) := by rw [HF5.out, if_neg hq0]; exact rfl
                      have hqp : 0 < q5 := by omega
                      clear hq0
                      as_aux_lemma =>
                      go_wp2_with (first
                        | (go_at_call 15; (with_reducible refine (get_held H5 120 q5 0 (by omega) (by omega) HF5.out HE.out).mono ?_); rintro e w6 ⟨rfl, rfl⟩)
                        | go_in)
                      go_roundw
                      case rel => exact HG.out
                      case measure => simp [intOf]; omega
          · as_aux_lemma =>
            go_wp2
            go_loopw [14, 19] (fun v14 v19 wr' => ∃ k : Int, v19 = .int .i64 k ∧ 0 ≤ k ∧ k ≤ t.length + 1 ∧ OutAt wo wr' mine (mvQ a q d pos k k) (mvL a q d k k) v14) (fun _ v19 _ => t.length + 1 - (intOf v19).toNat)
            case atStart => exact ⟨0, rfl, by omega, by omega, [], Kd.R_nil _ _ _ _ _, Below.refl _ _, HSt.out.1, HSt.out.2⟩
            case round =>
              obtain ⟨k, rfl, hk0', hk1', u, hr, hbl, hul, hua⟩ := hrel
              have HR := Lib.hid hr
              have HB := Lib.hid hbl
              have HU := Lib.hid hua
              have HUl := Lib.hid hul
              have hlen : u.length ≤ 1000 := by
                have h0 := hul
                unfold mvL mvK at h0
                revert h0
                repeat' split
                all_goals omega
              clear hr hbl hua hul
              have HCr := Lib.hid (Kd.C_below HC.out HB.out)
              by_cases hkn : k ≤ t.length
              · by_cases hka : k < a
                · by_cases hkz : 0 < k
                  · have hd3 : (d == q) = false := by simpa using hdq
                    by_cases hj : k = d
                    · have hjb : (k == d) = true := by simpa using hj
                      have HJ := Lib.hid hj
                      clear hj
                      obtain ⟨ad1, rfl, hcell⟩ := Kd.at_int HCr.out (k - 1) (by omega) (by omega)
                      obtain ⟨x, hx⟩ : ∃ x, rd t (k - 1) = x := ⟨_, rfl⟩
                      have hxe : t[(k - 1).toNat]? = some x := by rw [← hx]; exact rd_get t _ (by omega)
                      have HX1 := Lib.hid (mv_line HAt.out hab.1 (by omega) (by omega) (by omega) (by omega) (by omega) (by omega) HU.out HUl.out hxe)
                      rw [hx, show (k - 1).toNat = k.toNat - 1 by omega] at hcell
                      clear hx hxe
                      have hxl : (u ++ [x]).length = u.length + 1 := by simp
                      have HX2 := Lib.hid (HMid.out _ k (by have hj := HJ.out; unfold mvJ; split <;> omega) HX1.out.2 HX1.out.1)
                      as_aux_lemma =>
                        go_wp2_with (first
                          | ((with_reducible refine gate_builtin (b := .append) (xs := #[.tmp 176, .tmp 182]) rfl ?_); at_builtin; refine Kd.R_append (Kd.int .i64) (w0 := wo) wo.heap.size rfl (.tmp 176) (.tmp 182) 32 3 (.int .i64 0) 8 rfl Try.underlying32 PMarksFollow.info3 rfl (by decide) (by decide) u14 u x [.int .i64 x] (fun k => wo.heap.size ≤ k) (fun _ => False) rfl rfl ?aP (fun _ hk => hk.elim) ?aF ?aO ?aB ?aS ?aL ?_; (case aP => exact rfl); (case aF => exact (fun k hk => Nat.le_trans HB.out.size hk)); (case aO => exact HR.out); (case aB => exact HB.out); (case aS => exact HB.out.size); (case aL => omega); intro v1 w1 hr1 hb1 _ _; have HR2 := Lib.hid hr1; have HB2 := Lib.hid hb1; clear hr1 hb1)
                          | ((with_reducible refine gate_builtin (b := .append) (xs := #[.tmp 217, .tmp 222]) rfl ?_); at_builtin; refine Kd.R_append_row (Value.int .i64) (0 : Int) (h1 := fun _ => rfl) (w0 := wo) (W := _) wo.heap.size rfl (.tmp 217) (.tmp 222) 32 3 (.int .i64 0) 8 rfl Try.underlying32 PMarksFollow.info3 rfl (by decide) _ (u ++ [x]) tm A2 _ _ (fun k => wo.heap.size ≤ k) rfl rfl ?aF ?aO ?aR ?aB ?aS ?aL ?_; (case aF => exact (fun k hk => Nat.le_trans HB2.out.size hk)); (case aO => exact HR2.out); (case aR => exact (Kd.C_of_reads (h1 := fun _ => rfl) (HA2.out _ (Kd.reads_of_C (Kd.C_below HC.out HB2.out))))); (case aB => exact HB2.out); (case aS => exact HB2.out.size); (case aL => (try rw [hxl]); omega); intro v1 w1 hr1 hb1 _ _; have HR3 := Lib.hid hr1; have HB3 := Lib.hid hb1; clear hr1 hb1)
                          | go_in)
                        all_goals
                          go_roundw
                          case rel => first | exact ⟨k + 1, by first | rfl | (congr 1; omega), by omega, by omega, _, HR3.out, HB3.out, HX2.out.1, HX2.out.2⟩ | exact ⟨_, HR3.out, HB3.out, HX2.out.1, HX2.out.2⟩ | exact ⟨by omega, _, HR3.out, HB3.out, HX2.out.1, HX2.out.2⟩ | exact ⟨by omega, by omega, _, HR3.out, HB3.out, HX2.out.1, HX2.out.2⟩ | exact ⟨by omega, _, HR3.out, HB3.out, eqq_l (by simpa using hd3) HX2.out.1, eqq_q (by simpa using hd3) HX2.out.2⟩ | exact ⟨by omega, by omega, _, HR3.out, HB3.out, eqq_l (by simpa using hd3) HX2.out.1, eqq_q (by simpa using hd3) HX2.out.2⟩ | exact ⟨_, HR3.out, HB3.out, eqq_l (by simpa using hd3) HX2.out.1, eqq_q (by simpa using hd3) HX2.out.2⟩ | (trace_state; fail)
                          case measure => simp [intOf]; omega
                    · have hjb : (k == d) = false := by simpa using hj
                      have HJ := Lib.hid hj
                      clear hj
                      obtain ⟨ad1, rfl, hcell⟩ := Kd.at_int HCr.out (k - 1) (by omega) (by omega)
                      obtain ⟨x, hx⟩ : ∃ x, rd t (k - 1) = x := ⟨_, rfl⟩
                      have hxe : t[(k - 1).toNat]? = some x := by rw [← hx]; exact rd_get t _ (by omega)
                      have HX1 := Lib.hid (mv_line HAt.out hab.1 (by omega) (by omega) (by omega) (by omega) (by omega) (by omega) HU.out HUl.out hxe)
                      rw [hx, show (k - 1).toNat = k.toNat - 1 by omega] at hcell
                      clear hx hxe
                      have hxl : (u ++ [x]).length = u.length + 1 := by simp
                      have HX2 := Lib.hid (mv_stay (by have hj := HJ.out; unfold mvJ; split <;> omega) HX1.out.2 HX1.out.1)
                      as_aux_lemma =>
                        go_wp2_with (first
                          | ((with_reducible refine gate_builtin (b := .append) (xs := #[.tmp 176, .tmp 182]) rfl ?_); at_builtin; refine Kd.R_append (Kd.int .i64) (w0 := wo) wo.heap.size rfl (.tmp 176) (.tmp 182) 32 3 (.int .i64 0) 8 rfl Try.underlying32 PMarksFollow.info3 rfl (by decide) (by decide) u14 u x [.int .i64 x] (fun k => wo.heap.size ≤ k) (fun _ => False) rfl rfl ?aP (fun _ hk => hk.elim) ?aF ?aO ?aB ?aS ?aL ?_; (case aP => exact rfl); (case aF => exact (fun k hk => Nat.le_trans HB.out.size hk)); (case aO => exact HR.out); (case aB => exact HB.out); (case aS => exact HB.out.size); (case aL => omega); intro v1 w1 hr1 hb1 _ _; have HR2 := Lib.hid hr1; have HB2 := Lib.hid hb1; clear hr1 hb1)
                          | go_in)
                        all_goals
                          go_roundw
                          case rel => first | exact ⟨k + 1, by first | rfl | (congr 1; omega), by omega, by omega, _, HR2.out, HB2.out, HX2.out.1, HX2.out.2⟩ | exact ⟨_, HR2.out, HB2.out, HX2.out.1, HX2.out.2⟩ | exact ⟨by omega, _, HR2.out, HB2.out, HX2.out.1, HX2.out.2⟩ | exact ⟨by omega, by omega, _, HR2.out, HB2.out, HX2.out.1, HX2.out.2⟩ | exact ⟨by omega, _, HR2.out, HB2.out, eqq_l (by simpa using hd3) HX2.out.1, eqq_q (by simpa using hd3) HX2.out.2⟩ | exact ⟨by omega, by omega, _, HR2.out, HB2.out, eqq_l (by simpa using hd3) HX2.out.1, eqq_q (by simpa using hd3) HX2.out.2⟩ | exact ⟨_, HR2.out, HB2.out, eqq_l (by simpa using hd3) HX2.out.1, eqq_q (by simpa using hd3) HX2.out.2⟩ | (trace_state; fail)
                          case measure => simp [intOf]; omega
                  · have hd3 : (d == q) = false := by simpa using hdq
                    by_cases hj : k = d
                    · have hjb : (k == d) = true := by simpa using hj
                      have HJ := Lib.hid hj
                      clear hj
                      have HX1 := Lib.hid (mv_skip hab.1 (by omega) HAt.out.1 (by omega) (by omega) HU.out HUl.out)
                      have HX2 := Lib.hid (HMid.out _ k (by have hj := HJ.out; unfold mvJ; split <;> omega) HX1.out.2 HX1.out.1)
                      as_aux_lemma =>
                        go_wp2_with (first
                          | ((with_reducible refine gate_builtin (b := .append) (xs := #[.tmp 217, .tmp 222]) rfl ?_); at_builtin; refine Kd.R_append_row (Value.int .i64) (0 : Int) (h1 := fun _ => rfl) (w0 := wo) (W := _) wo.heap.size rfl (.tmp 217) (.tmp 222) 32 3 (.int .i64 0) 8 rfl Try.underlying32 PMarksFollow.info3 rfl (by decide) u14 u tm A2 _ _ (fun k => wo.heap.size ≤ k) rfl rfl ?aF ?aO ?aR ?aB ?aS ?aL ?_; (case aF => exact (fun k hk => Nat.le_trans HB.out.size hk)); (case aO => exact HR.out); (case aR => exact (Kd.C_of_reads (h1 := fun _ => rfl) (HA2.out _ (Kd.reads_of_C (Kd.C_below HC.out HB.out))))); (case aB => exact HB.out); (case aS => exact HB.out.size); (case aL => (try rw [hxl]); omega); intro v1 w1 hr1 hb1 _ _; have HR3 := Lib.hid hr1; have HB3 := Lib.hid hb1; clear hr1 hb1)
                          | go_in)
                        all_goals
                          go_roundw
                          case rel => first | exact ⟨k + 1, by first | rfl | (congr 1; omega), by omega, by omega, _, HR3.out, HB3.out, HX2.out.1, HX2.out.2⟩ | exact ⟨_, HR3.out, HB3.out, HX2.out.1, HX2.out.2⟩ | exact ⟨by omega, _, HR3.out, HB3.out, HX2.out.1, HX2.out.2⟩ | exact ⟨by omega, by omega, _, HR3.out, HB3.out, HX2.out.1, HX2.out.2⟩ | exact ⟨by omega, _, HR3.out, HB3.out, eqq_l (by simpa using hd3) HX2.out.1, eqq_q (by simpa using hd3) HX2.out.2⟩ | exact ⟨by omega, by omega, _, HR3.out, HB3.out, eqq_l (by simpa using hd3) HX2.out.1, eqq_q (by simpa using hd3) HX2.out.2⟩ | exact ⟨_, HR3.out, HB3.out, eqq_l (by simpa using hd3) HX2.out.1, eqq_q (by simpa using hd3) HX2.out.2⟩ | (trace_state; fail)
                          case measure => simp [intOf]; omega
                    · have hjb : (k == d) = false := by simpa using hj
                      have HJ := Lib.hid hj
                      clear hj
                      have HX1 := Lib.hid (mv_skip hab.1 (by omega) HAt.out.1 (by omega) (by omega) HU.out HUl.out)
                      have HX2 := Lib.hid (mv_stay (by have hj := HJ.out; unfold mvJ; split <;> omega) HX1.out.2 HX1.out.1)
                      as_aux_lemma =>
                        go_wp2_with (first
                          | go_in)
                        all_goals
                          go_roundw
                          case rel => first | exact ⟨k + 1, by first | rfl | (congr 1; omega), by omega, by omega, _, HR.out, HB.out, HX2.out.1, HX2.out.2⟩ | exact ⟨_, HR.out, HB.out, HX2.out.1, HX2.out.2⟩ | exact ⟨by omega, _, HR.out, HB.out, HX2.out.1, HX2.out.2⟩ | exact ⟨by omega, by omega, _, HR.out, HB.out, HX2.out.1, HX2.out.2⟩ | exact ⟨by omega, _, HR.out, HB.out, eqq_l (by simpa using hd3) HX2.out.1, eqq_q (by simpa using hd3) HX2.out.2⟩ | exact ⟨by omega, by omega, _, HR.out, HB.out, eqq_l (by simpa using hd3) HX2.out.1, eqq_q (by simpa using hd3) HX2.out.2⟩ | exact ⟨_, HR.out, HB.out, eqq_l (by simpa using hd3) HX2.out.1, eqq_q (by simpa using hd3) HX2.out.2⟩ | (trace_state; fail)
                          case measure => simp [intOf]; omega
                · by_cases hkq : q < k
                  · have hd3 : (d == q) = false := by simpa using hdq
                    by_cases hj : k = d
                    · have hjb : (k == d) = true := by simpa using hj
                      have HJ := Lib.hid hj
                      clear hj
                      obtain ⟨ad1, rfl, hcell⟩ := Kd.at_int HCr.out (k - 1) (by omega) (by omega)
                      obtain ⟨x, hx⟩ : ∃ x, rd t (k - 1) = x := ⟨_, rfl⟩
                      have hxe : t[(k - 1).toNat]? = some x := by rw [← hx]; exact rd_get t _ (by omega)
                      have HX1 := Lib.hid (mv_line HAt.out hab.1 (by omega) (by omega) (by omega) (by omega) (by omega) (by omega) HU.out HUl.out hxe)
                      rw [hx, show (k - 1).toNat = k.toNat - 1 by omega] at hcell
                      clear hx hxe
                      have hxl : (u ++ [x]).length = u.length + 1 := by simp
                      have HX2 := Lib.hid (HMid.out _ k (by have hj := HJ.out; unfold mvJ; split <;> omega) HX1.out.2 HX1.out.1)
                      as_aux_lemma =>
                        go_wp2_with (first
                          | ((with_reducible refine gate_builtin (b := .append) (xs := #[.tmp 176, .tmp 182]) rfl ?_); at_builtin; refine Kd.R_append (Kd.int .i64) (w0 := wo) wo.heap.size rfl (.tmp 176) (.tmp 182) 32 3 (.int .i64 0) 8 rfl Try.underlying32 PMarksFollow.info3 rfl (by decide) (by decide) u14 u x [.int .i64 x] (fun k => wo.heap.size ≤ k) (fun _ => False) rfl rfl ?aP (fun _ hk => hk.elim) ?aF ?aO ?aB ?aS ?aL ?_; (case aP => exact rfl); (case aF => exact (fun k hk => Nat.le_trans HB.out.size hk)); (case aO => exact HR.out); (case aB => exact HB.out); (case aS => exact HB.out.size); (case aL => omega); intro v1 w1 hr1 hb1 _ _; have HR2 := Lib.hid hr1; have HB2 := Lib.hid hb1; clear hr1 hb1)
                          | ((with_reducible refine gate_builtin (b := .append) (xs := #[.tmp 217, .tmp 222]) rfl ?_); at_builtin; refine Kd.R_append_row (Value.int .i64) (0 : Int) (h1 := fun _ => rfl) (w0 := wo) (W := _) wo.heap.size rfl (.tmp 217) (.tmp 222) 32 3 (.int .i64 0) 8 rfl Try.underlying32 PMarksFollow.info3 rfl (by decide) _ (u ++ [x]) tm A2 _ _ (fun k => wo.heap.size ≤ k) rfl rfl ?aF ?aO ?aR ?aB ?aS ?aL ?_; (case aF => exact (fun k hk => Nat.le_trans HB2.out.size hk)); (case aO => exact HR2.out); (case aR => exact (Kd.C_of_reads (h1 := fun _ => rfl) (HA2.out _ (Kd.reads_of_C (Kd.C_below HC.out HB2.out))))); (case aB => exact HB2.out); (case aS => exact HB2.out.size); (case aL => (try rw [hxl]); omega); intro v1 w1 hr1 hb1 _ _; have HR3 := Lib.hid hr1; have HB3 := Lib.hid hb1; clear hr1 hb1)
                          | go_in)
                        all_goals
                          go_roundw
                          case rel => first | exact ⟨k + 1, by first | rfl | (congr 1; omega), by omega, by omega, _, HR3.out, HB3.out, HX2.out.1, HX2.out.2⟩ | exact ⟨_, HR3.out, HB3.out, HX2.out.1, HX2.out.2⟩ | exact ⟨by omega, _, HR3.out, HB3.out, HX2.out.1, HX2.out.2⟩ | exact ⟨by omega, by omega, _, HR3.out, HB3.out, HX2.out.1, HX2.out.2⟩ | exact ⟨by omega, _, HR3.out, HB3.out, eqq_l (by simpa using hd3) HX2.out.1, eqq_q (by simpa using hd3) HX2.out.2⟩ | exact ⟨by omega, by omega, _, HR3.out, HB3.out, eqq_l (by simpa using hd3) HX2.out.1, eqq_q (by simpa using hd3) HX2.out.2⟩ | exact ⟨_, HR3.out, HB3.out, eqq_l (by simpa using hd3) HX2.out.1, eqq_q (by simpa using hd3) HX2.out.2⟩ | (trace_state; fail)
                          case measure => simp [intOf]; omega
                    · have hjb : (k == d) = false := by simpa using hj
                      have HJ := Lib.hid hj
                      clear hj
                      obtain ⟨ad1, rfl, hcell⟩ := Kd.at_int HCr.out (k - 1) (by omega) (by omega)
                      obtain ⟨x, hx⟩ : ∃ x, rd t (k - 1) = x := ⟨_, rfl⟩
                      have hxe : t[(k - 1).toNat]? = some x := by rw [← hx]; exact rd_get t _ (by omega)
                      have HX1 := Lib.hid (mv_line HAt.out hab.1 (by omega) (by omega) (by omega) (by omega) (by omega) (by omega) HU.out HUl.out hxe)
                      rw [hx, show (k - 1).toNat = k.toNat - 1 by omega] at hcell
                      clear hx hxe
                      have hxl : (u ++ [x]).length = u.length + 1 := by simp
                      have HX2 := Lib.hid (mv_stay (by have hj := HJ.out; unfold mvJ; split <;> omega) HX1.out.2 HX1.out.1)
                      as_aux_lemma =>
                        go_wp2_with (first
                          | ((with_reducible refine gate_builtin (b := .append) (xs := #[.tmp 176, .tmp 182]) rfl ?_); at_builtin; refine Kd.R_append (Kd.int .i64) (w0 := wo) wo.heap.size rfl (.tmp 176) (.tmp 182) 32 3 (.int .i64 0) 8 rfl Try.underlying32 PMarksFollow.info3 rfl (by decide) (by decide) u14 u x [.int .i64 x] (fun k => wo.heap.size ≤ k) (fun _ => False) rfl rfl ?aP (fun _ hk => hk.elim) ?aF ?aO ?aB ?aS ?aL ?_; (case aP => exact rfl); (case aF => exact (fun k hk => Nat.le_trans HB.out.size hk)); (case aO => exact HR.out); (case aB => exact HB.out); (case aS => exact HB.out.size); (case aL => omega); intro v1 w1 hr1 hb1 _ _; have HR2 := Lib.hid hr1; have HB2 := Lib.hid hb1; clear hr1 hb1)
                          | go_in)
                        all_goals
                          go_roundw
                          case rel => first | exact ⟨k + 1, by first | rfl | (congr 1; omega), by omega, by omega, _, HR2.out, HB2.out, HX2.out.1, HX2.out.2⟩ | exact ⟨_, HR2.out, HB2.out, HX2.out.1, HX2.out.2⟩ | exact ⟨by omega, _, HR2.out, HB2.out, HX2.out.1, HX2.out.2⟩ | exact ⟨by omega, by omega, _, HR2.out, HB2.out, HX2.out.1, HX2.out.2⟩ | exact ⟨by omega, _, HR2.out, HB2.out, eqq_l (by simpa using hd3) HX2.out.1, eqq_q (by simpa using hd3) HX2.out.2⟩ | exact ⟨by omega, by omega, _, HR2.out, HB2.out, eqq_l (by simpa using hd3) HX2.out.1, eqq_q (by simpa using hd3) HX2.out.2⟩ | exact ⟨_, HR2.out, HB2.out, eqq_l (by simpa using hd3) HX2.out.1, eqq_q (by simpa using hd3) HX2.out.2⟩ | (trace_state; fail)
                          case measure => simp [intOf]; omega
                  · have hd1 : (k == d) = false := by simp; omega
                    have hd3 : (d == q) = false := by simpa using hdq
                    have HJ : Hid True := trivial
                    have HX1 := Lib.hid (mv_skip hab.1 (by omega) HAt.out.1 (by omega) (by omega) HU.out HUl.out)
                    have HX2 := Lib.hid (mv_stay (by have hj := HJ.out; unfold mvJ; split <;> omega) HX1.out.2 HX1.out.1)
                    as_aux_lemma =>
                      go_wp2_with (first
                        | go_in)
                      all_goals
                        go_roundw
                        case rel => first | exact ⟨k + 1, by first | rfl | (congr 1; omega), by omega, by omega, _, HR.out, HB.out, HX2.out.1, HX2.out.2⟩ | exact ⟨_, HR.out, HB.out, HX2.out.1, HX2.out.2⟩ | exact ⟨by omega, _, HR.out, HB.out, HX2.out.1, HX2.out.2⟩ | exact ⟨by omega, by omega, _, HR.out, HB.out, HX2.out.1, HX2.out.2⟩ | exact ⟨by omega, _, HR.out, HB.out, eqq_l (by simpa using hd3) HX2.out.1, eqq_q (by simpa using hd3) HX2.out.2⟩ | exact ⟨by omega, by omega, _, HR.out, HB.out, eqq_l (by simpa using hd3) HX2.out.1, eqq_q (by simpa using hd3) HX2.out.2⟩ | exact ⟨_, HR.out, HB.out, eqq_l (by simpa using hd3) HX2.out.1, eqq_q (by simpa using hd3) HX2.out.2⟩ | (trace_state; fail)
                        case measure => simp [intOf]; omega
              · as_aux_lemma =>
                obtain rfl : k = t.length + 1 := by omega
                have HX := Lib.hid (mv_end hpn HAt.out.1 hab.1 hqb.1 hqb.2 hdb.1 (by omega) (by omega) HU.out HUl.out)
                go_wp2_with (first
                  | (go_at_call 19; (with_reducible refine (move_held (H.later HB.out) a q d (by decide)).mono ?_); rintro e w5 ⟨rfl, H5, hg5⟩; have HG5 := Lib.hid hg5; clear hg5)
                  | go_in)
                obtain ⟨t5, ht5⟩ : ∃ t5, u = t5 := ⟨_, rfl⟩
                obtain ⟨q5, hq5⟩ : ∃ q5, mvAt a q d pos = q5 := ⟨_, rfl⟩
                obtain ⟨f5, hf5⟩ : ∃ f5, movF f a q d = f5 := ⟨_, rfl⟩
                rw [ht5, hq5] at HX
                rw [hf5] at H5 HFs
                rw [ht5] at HR
                rw [hq5] at HFs
                have HR5 := Lib.hid (out_grown HR.out HG5.out (Nat.lt_of_lt_of_le H.hm2 (Nat.le_refl _)))
                have HAt5 := Lib.hid HX.out.2
                have HF5 := HFs
                have hl5 := HX.out.1
                have HBel5 := Lib.hid (below_old HB.out HG5.out H)
                clear HX HFs HR HG5 hq5 hf5 HU HUl HCr
                obtain ⟨A5, c5, rfl, hc5, hC5⟩ := Kd.R_reads HR5.out
                have HC5 := Lib.hid hC5
                clear hC5
                have hq5 : 0 ≤ q5 ∧ q5 ≤ t5.length := ⟨HAt5.out.1, HAt5.out.le⟩

                go_loopw [20, 21] (fun v20 v21 wr' => ∃ k : Int, v21 = .int .i64 k ∧ 0 ≤ k ∧ k ≤ t5.length ∧ v20 = .int .i64 (if 1 ≤ q5 ∧ q5 ≤ k then q5 else 0) ∧ w5 = wr') (fun _ v21 _ => t5.length - (intOf v21).toNat)
                case atStart => exact ⟨0, rfl, by omega, by omega, by rw [if_neg (by omega)], rfl⟩
                case round =>
                  obtain ⟨k, rfl, hk0, hk1, rfl, rfl⟩ := hrel
                  by_cases hkl : k < t5.length
                  · obtain ⟨ad5, rfl, hcell⟩ := Kd.at_int HC5.out k hk0 hkl
                    have hget := HAt5.out.get k.toNat (by omega)
                    obtain ⟨x, hx⟩ : ∃ x, rd t5 k = x := ⟨_, rfl⟩
                    have hxe : t5[k.toNat]'(by omega) = x := by
                      rw [← hx]
                      exact rd_getElem t5 _ (by omega)
                    rw [hxe] at hget
                    rw [hx] at hcell
                    clear hx hxe
                    by_cases hxm : x = mine
                    · have hke := hget.1 hxm
                      clear hget
                      subst hxm
                      as_aux_lemma =>
                      go_wp2
                      go_roundw
                      case rel => exact ⟨k + 1, rfl, by omega, by omega, by rw [if_pos (by omega)]; exact congrArg (Value.int .i64) (by omega), by first | rfl | trivial⟩
                      case measure => simp [intOf]; omega
                    · have hke : ¬ k + 1 = q5 := fun e => hxm (hget.2 (by omega))
                      clear hget
                      as_aux_lemma =>
                      go_wp2
                      go_roundw
                      case rel => exact ⟨k + 1, rfl, by omega, by omega, by congr 1; split <;> split <;> omega, by first | rfl | trivial⟩
                      case measure => simp [intOf]; omega
                  · have hw : (if 1 ≤ q5 ∧ q5 ≤ k then q5 else 0) = q5 := by split <;> omega
                    have HG : Hid (FollowRel w.heap.size w (w2.heap.size + 1) w2.heap.size (some ad) len mine (.slice A5 t5.length c5) (.int .i64 (i + 1)) w5) :=
                      ⟨t5, i + 1, q5, _, A5, c5, rfl, by omega, by omega, rfl, hc5, HC5.out, H5, HF5.out, HAt5.out, by omega⟩
                    by_cases hq0 : q5 = 0
                    · have HE : Hid ((if f5 120 = 0 then (100 : Int) else 0) = 100) := by rw [HF5.out, hq0]; exact rfl
                      subst hq0
                      as_aux_lemma =>
                      go_wp2_with (first
                        | (go_at_call 15; (with_reducible refine (get_held H5 120 0 100 (by omega) (by omega) HF5.out HE.out).mono ?_); rintro e w6 ⟨rfl, rfl⟩)
                        | go_in)
                      go_roundw
                      case rel => exact HG.out
                      case measure => simp [intOf]; omega
                    · have HE : Hid ((if f5 120 = 0 then (100 : Int) else 0) = 0) := by rw [HF5.out, if_neg hq0]; exact rfl
                      have hqp : 0 < q5 := by omega
                      clear hq0
                      as_aux_lemma =>
                      go_wp2_with (first
                        | (go_at_call 15; (with_reducible refine (get_held H5 120 q5 0 (by omega) (by omega) HF5.out HE.out).mono ?_); rintro e w6 ⟨rfl, rfl⟩)
                        | go_in)
                      go_roundw
                      case rel => exact HG.out
                      case measure => simp [intOf]; omega
    · go_wp2
      go_ret
      exact ⟨rfl, H.below⟩

end Go.Proofs.Ytccalibapiiifaa
