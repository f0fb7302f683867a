/- buf's leap over Undo, walked. -/
import Derived.Test.YtdmldkpjdfmgeaaBvFx
set_option linter.unusedVariables false
set_option linter.unusedSimpArgs false
namespace Go.Proofs.Ytdmldkpjdfmgeaa
open Go.RowKit Go.Shelf Go.Maps Go.Proofs.YtdmldkpjdfmgeaaW.PrintWords Go.Proofs.YtdmldkpjdfmgeaaW.PrintLast

def stepS (s : Bs) (d : Dl) : Bs := putS (marS { s with ls := Bt.splice s.ls d.at_.toNat d.old.length d.new } (d.at_ + 1) d.old.length d.new.length) (d.at_ + 1)
def leapS : Bs → List Dl → Bs
  | s, [] => s
  | s, d :: ds => leapS (stepS s d) ds
theorem leapS_snoc (s : Bs) (ds : List Dl) (d : Dl) : leapS s (ds ++ [d]) = stepS (leapS s ds) d := by
  induction ds generalizing s with
  | nil => rfl
  | cons x ds ih => exact ih _
/-- the changes fit -/
def fits : List ByteArray → List Dl → Prop
  | _, [] => True
  | ls, d :: ds => 0 ≤ d.at_ ∧ d.at_ + d.old.length ≤ ls.length ∧ ls.length + d.new.length + 2 ≤ 1000000000 ∧ d.old.length ≤ 1000000000 ∧ (∀ x ∈ d.new, x.size ≤ 1000000000) ∧ fits (Bt.splice ls d.at_.toNat d.old.length d.new) ds
theorem fits_at {s : Bs} {ds : List Dl} (h : fits s.ls ds) {j : Nat} {d : Dl} (hd : ds[j]? = some d) : fits (leapS s (ds.take j)).ls (ds.drop j) ∧ (leapS s (ds.take j)).nm = s.nm := by
  induction ds generalizing s j with
  | nil => simp at hd
  | cons x ds ih =>
    cases j with
    | zero => exact ⟨h, rfl⟩
    | succ j => exact ih (s := stepS s x) h.2.2.2.2.2 hd

/-- a change in a box -/
def Dx (w : World) (F : Nat → Prop) (D : Nat) (a : Int) (vo vn : Value) : Prop := F D ∧ w.heap[D]? = some (.cells #[.int .i64 a, vo, vn] 93 (0, 0))
theorem loc_dx (D : Nat) (a : Int) (vo vn : Value) : Loc (fun w F => Dx w F D a vo vn) where
  step h _ hs := ⟨h.1, (hs D (blk_lt h.2) h.1).trans h.2⟩
  wide h hF := ⟨hF D (blk_lt h.2) h.1, h.2⟩
theorem loc_dw (v : Value) (L : List DV) (ds : List Dl) : Loc (fun w F => Dw w F v L ds) where
  step h hsz hs := h.step hsz hs
  wide h hF := h.wide hF

section
variable {N0 : Nat} {w0 : Base} {w w' : World} {col : Nat → Nat} {B T p1 U : Nat} {s : Bs} {vl vm vo : Value} {L : List DV}

theorem chg_mono {F F' : Nat → Prop} {w w' : World} (h : Chg F w w') (hF : ∀ b, F b → F' b) : Chg F' w w' := ⟨h.os, h.tape, h.output, h.size, fun b hb hn => h.block b hb fun h => hn (hF b h)⟩

/-- between two rounds -/
def Li (N0 : Nat) (w0 : Base) (w : World) (B : Nat) (s : Bs) (v : Value) (Lv : List DV) (ds : List Dl) (j : Nat) : Prop :=
  ∃ col T p1 U vl vm vo L, Bw N0 w0 w col B (leapS s (ds.take j)) T p1 U vl vm vo L ∧ Dw w (fun b => col b = 4) v Lv ds

set_option maxRecDepth 100000 in
set_option maxHeartbeats 2000000 in
theorem leap_undo (h : BfU N0 w0 w B s U) (hk : s.kept = true) (hl : s.sls.length + 2 ≤ 1000000000) (hx : ∀ x ∈ s.sls, x.size ≤ 1000000000) (hns : s.ns < maxLen)
    {st sp : St} (hs : s.us.all s.us.now = some st) (hf : st.frm ≠ -1) (hp : s.us.all st.frm = some sp) (hn : st.by_.length ≤ 1000000000) (hb : ∀ d ∈ st.by_, d.old.length ≤ 1000000000 ∧ d.new.length ≤ 1000000000)
    (hft : fits s.sls (turnDs st.by_)) (hend : (leapS (backS s) (turnDs st.by_)).ls.length ≤ 1000000000) :
    Calls Try.prog 35 #[.pointer (some ⟨B, 0, none⟩), .func (.func 36) #[.pointer (some ⟨U, 0, none⟩)] #[]] w
      (BfPost N0 w0 B (keepS (leapS { backS s with us := { s.us with now := st.frm, all := upd s.us.all st.frm { sp with on_ := s.us.now } } } (turnDs st.by_))) (.int .u16 0)) := by
  have HBK := Lib.hid (back_any h hk hl hx)
  clear h
  go_enter Try.func35, Try.ntmps35
  go_wp2_with fail
  go_at_call 51
  refine HBK.out.mono ?_
  rintro e w1 ⟨rfl, col, T, p1, vl, vm, vo, L, b1⟩
  have hu := undo_any (n := s.nu) b1.undo hs hf hp hn hb
  have HU := Lib.hid hu
  have H1 := Lib.hid b1
  clear hu b1
  go_wp2_with fail
  refine HU.out.mono ?_
  rintro e w2 ⟨v2, rfl, hd2, hu2, hc2⟩
  have b2 := H1.out.onUndo (chg_mono hc2 fun b hb => .inl hb) ((loc_ut _ _ _).open hu2 |> fun h => (loc_ut _ _ _).wide h fun b _ hb => by
    rcases hb with hb | hb
    · exact Or.inl hb
    · exact Or.inr (Nat.le_trans hc2.size hb))
  obtain ⟨Lv, d2⟩ := (loc_dr _ _).fresh (col := col) (i := 4) hd2
  obtain ⟨s2, hs2⟩ : ∃ s2, s2 = { backS s with us := { s.us with now := st.frm, all := upd s.us.all st.frm { sp with on_ := s.us.now } } } := ⟨_, rfl⟩
  rw [← hs2]
  have hb2 : Bw N0 w0 w2 (recol col w1.heap.size 4) B s2 T p1 U vl vm vo L := by rw [hs2]; exact b2
  have hft2 : fits s2.ls (turnDs st.by_) := by rw [hs2]; exact hft
  have hend2 : (leapS s2 (turnDs st.by_)).ls.length ≤ 1000000000 := by
    have e : ∀ (ds : List Dl) (a b : Bs), a.ls = b.ls → (leapS a ds).ls = (leapS b ds).ls := by
      intro ds
      induction ds with
      | nil => exact fun a b h => h
      | cons x ds ih => exact fun a b h => ih _ _ (by simp [stepS, putS, marS, h])
    rw [e _ s2 (backS s) (by rw [hs2])]
    exact hend
  have hnm2 : s2.nm < maxLen := by rw [hs2]; exact hns
  obtain ⟨ds, hds⟩ : ∃ ds, ds = turnDs st.by_ := ⟨_, rfl⟩
  rw [← hds] at d2 hft2 hend2 ⊢
  have HEQ := Lib.hid (And.intro hs2 hds)
  have hst : Li N0 w0 w2 B s2 v2 Lv ds 0 := ⟨_, _, _, _, _, _, _, _, hb2, d2⟩
  have hv2 : ∃ A c, v2 = .slice A ds.length c ∧ (0 < ds.length → ∃ g, A = some ⟨g, 0, none⟩) := by
    have hl := d2.len
    rcases d2.row.2 with ⟨rfl, h0⟩ | ⟨g, cap, cur, rfl, _⟩
    · exact ⟨none, 0, by rw [← hl, h0], fun h => absurd h (by omega)⟩
    · exact ⟨_, _, by rw [← hl], fun _ => ⟨g, rfl⟩⟩
  obtain ⟨A, c, rfl, hA⟩ := hv2
  have hdl : ds.length ≤ 1000000000 := by rw [hds, turnDs, List.length_map, List.length_reverse]; exact hn
  have HST := Lib.hid hst
  have HFT := Lib.hid (And.intro hft2 (And.intro hend2 hnm2))
  have HA := Lib.hid hA
  clear hst b2 hb2 d2 hft2 hend2 hnm2 hA hu2 hc2 hd2 hds hs2 hft hend hs hf hp hn hb hk hl hx hns
  clear H1 HU HBK
  go_wp2
  go_loopw [21] (fun v21 wr => ∃ j : Nat, v21 = .int .i64 j ∧ j ≤ ds.length ∧ Li N0 w0 wr B s2 (.slice A ds.length c) Lv ds j) (fun v21 _ => ds.length - (intOf v21).toNat)
  case atStart => exact ⟨0, rfl, by omega, HST.out⟩
  case round =>
    obtain ⟨j, rfl, hj, col, T, p1, U, vl, vm, vo, L, b, d⟩ := hrel
    by_cases hlt : j < ds.length
    · obtain ⟨g, rfl⟩ := HA.out (by omega)
      obtain ⟨dl, hdl2⟩ : ∃ dl, ds[j]? = some dl := ⟨_, List.getElem?_eq_getElem hlt⟩
      obtain ⟨x, hx⟩ : ∃ x, Lv[j]? = some x := ⟨_, List.getElem?_eq_getElem (by rw [d.len]; exact hlt)⟩
      obtain ⟨hat, hlo, hln⟩ := d.els j x dl hx hdl2
      obtain ⟨hfa, hfn⟩ := fits_at (s := s2) HFT.out.1 hdl2
      rw [List.drop_eq_getElem_cons hlt] at hfa
      have hde : ds[j] = dl := by
        rw [List.getElem?_eq_getElem hlt] at hdl2
        exact Option.some.inj hdl2
      rw [hde] at hfa
      obtain ⟨f1, f2, f3, f4, f5, _⟩ := hfa
      obtain ⟨at0, hat0⟩ : ∃ at0 : Nat, dl.at_ = at0 := ⟨dl.at_.toNat, by omega⟩
      have hstep : leapS s2 (ds.take (j + 1)) = stepS (leapS s2 (ds.take j)) dl := by rw [List.take_succ_eq_append_getElem hlt, hde, leapS_snoc]
      obtain ⟨Ao, co, hvo, _, _, _⟩ := id hlo
      obtain ⟨An, cn, hvn, _, _, _⟩ := id hln
      have cc : ∀ i u, (dflat Lv)[i]? = some u → wr.cell? ⟨g, i, none⟩ = some u := fun i u hu => by
        have hr := d.row
        rw [d.len] at hr
        have := hr.cells (g := g) rfl i u hu
        rw [Addr.add_lit, Nat.zero_add] at this
        exact this
      have c0 := cc (j * 3) (.int .i64 at0) (by have h9 := dflat_at (j := 0) hx (by omega); rw [Nat.add_zero] at h9; rw [h9, ← hat0, ← hat]; rfl)
      have c1 := cc (j * 3 + 1) (.slice Ao dl.old.length co) (by rw [dflat_at (j := 1) hx (by omega), ← hvo]; rfl)
      have c2 := cc (j * 3 + 2) (.slice An dl.new.length cn) (by rw [dflat_at (j := 2) hx (by omega), ← hvn]; rfl)
      have k0 : wr.cell? ⟨B, 0, none⟩ = some (.pointer (some ⟨T, 0, none⟩)) := by rw [blk_cell b.box]; rfl
      have hlt' : (j : Int) < ds.length := by omega
      rw [hvn] at hln
      have HB := Lib.hid (And.intro b (And.intro d hln))
      have HS := Lib.hid (And.intro hstep (And.intro hfn (And.intro f5 hat0)))
      clear b d cc hx hat hlo hln hvo hvn hfn hstep hdl2 f5
      go_wp2
      obtain ⟨W, hW⟩ : ∃ W, wr.alloc (.cells #[.int .i64 at0, .slice Ao dl.old.length co, .slice An dl.new.length cn] 93) = W := ⟨_, rfl⟩
      have bl := below_alloc (Below.refl wr.heap.size wr) (.cells #[.int .i64 at0, .slice Ao dl.old.length co, .slice An dl.new.length cn] 93)
      have hdx : Dx (wr.alloc (.cells #[.int .i64 at0, .slice Ao dl.old.length co, .slice An dl.new.length cn] 93)) (fun b => recol col wr.heap.size 9 b = 9) wr.heap.size at0 (.slice Ao dl.old.length co) (.slice An dl.new.length cn) := ⟨recol_new (Nat.le_refl _), World.alloc_heap_new wr _⟩
      have b3 := HB.out.1.onNew 9 (by decide) bl
      have d3 := (loc_dw _ _ _).keepNew (i := 9) HB.out.2.1 bl
      have l3 := (loc_ls _ _).keepNew (i := 9) HB.out.2.2 bl
      rw [hW] at hdx b3 d3 l3 ⊢
      clear hW bl c0 c1 c2 k0
      obtain ⟨D, hD⟩ : ∃ D, wr.heap.size = D := ⟨_, rfl⟩
      obtain ⟨col3, hcol3⟩ : ∃ col3, recol col wr.heap.size 9 = col3 := ⟨_, rfl⟩
      rw [hcol3] at hdx b3 d3 l3
      rw [hD] at hdx ⊢
      clear hcol3 hD
      have e0 : W.cell? ⟨D, 0, none⟩ = some (.int .i64 at0) := by rw [blk_cell hdx.2]; rfl
      have e1 : W.cell? ⟨D, 1, none⟩ = some (.slice Ao dl.old.length co) := by rw [blk_cell hdx.2]; rfl
      have e2 : W.cell? ⟨D, 2, none⟩ = some (.slice An dl.new.length cn) := by rw [blk_cell hdx.2]; rfl
      have k0 : W.cell? ⟨B, 0, none⟩ = some (.pointer (some ⟨T, 0, none⟩)) := by rw [blk_cell b3.box]; rfl
      have HD0 := Lib.hid (And.intro (b3.drewN 1) (And.intro ((loc_dw _ _ _).step (w' := W.drewN 1) d3 (Nat.le_refl _) fun _ _ _ => rfl) (And.intro ((loc_ls _ _).step (w' := W.drewN 1) l3 (Nat.le_refl _) fun _ _ _ => rfl) ((loc_dx _ _ _ _).step (w' := W.drewN 1) hdx (Nat.le_refl _) fun _ _ _ => rfl))))
      clear b3 d3 l3 hdx
      rw [hat0] at f1 f2
      have hsp := Splice_any (F := fun b => col3 b = 1 ∨ (W.drewN 1).heap.size ≤ b) ((loc_tree _ _).open HD0.out.1.tree) HD0.out.2.2.1 (fun b hb he => by omega) (i := at0) (n := dl.old.length) (by omega) f3 (fun b hb => .inr hb) HS.out.2.2.1
      have HSP := Lib.hid hsp
      clear hsp
      go_region_held3 (fun W => W.cell? ⟨B, 0, none⟩ = some (.pointer (some ⟨T, 0, none⟩)) ∧ W.cell? ⟨D, 0, none⟩ = some (.int .i64 at0) ∧ W.cell? ⟨D, 1, none⟩ = some (.slice Ao dl.old.length co) ∧ W.cell? ⟨D, 2, none⟩ = some (.slice An dl.new.length cn)) (first | exact ⟨k0, e0, e1, e2⟩ | exact gk | go_keep) (first
        | (go_at_call 46; refine HSP.out.mono ?_; rintro e w4 ⟨rfl, h41, h42⟩; have b4 := HD0.out.1.onTree h42 h41; have d4 := (loc_dw _ _ _).other HD0.out.2.1 (by decide) h42; have x4 := (loc_dx _ _ _ _).other HD0.out.2.2.2 (by decide) h42; have gk : w4.cell? ⟨B, 0, none⟩ = some (.pointer (some ⟨T, 0, none⟩)) ∧ w4.cell? ⟨D, 0, none⟩ = some (.int .i64 at0) ∧ w4.cell? ⟨D, 1, none⟩ = some (.slice Ao dl.old.length co) ∧ w4.cell? ⟨D, 2, none⟩ = some (.slice An dl.new.length cn) := ⟨by rw [blk_cell b4.box]; rfl, by rw [blk_cell x4.2]; rfl, by rw [blk_cell x4.2]; rfl, by rw [blk_cell x4.2]; rfl⟩; have H4 := Lib.hid (And.intro b4 (And.intro d4 x4)); clear b4 d4 x4 h41 h42))
      all_goals
        go_wp2
        obtain ⟨col4, hcol4⟩ : ∃ col4, recol col3 (W.drewN 1).heap.size 1 = col4 := ⟨_, rfl⟩
        rw [hcol4] at H4
        clear hcol4
        obtain ⟨gk0, e0, e1, e2⟩ := gk
        have k4 : w4.cell? ⟨B, 4, none⟩ = some (.pointer (some ⟨p1, 0, none⟩)) := by rw [blk_cell H4.out.1.box]; rfl
        have HD1 := Lib.hid (And.intro (H4.out.1.drewN 1) (And.intro ((loc_dw _ _ _).step (w' := w4.drewN 1) H4.out.2.1 (Nat.le_refl _) fun _ _ _ => rfl) ((loc_dx _ _ _ _).step (w' := w4.drewN 1) H4.out.2.2 (Nat.le_refl _) fun _ _ _ => rfl)))
        have HM := Lib.hid (splice_mk ((loc_mk _ _ _).open HD1.out.1.mar) (show (leapS s2 (ds.take j)).nm < maxLen by rw [HS.out.2.1]; exact HFT.out.2.2))
        have HWR := Lib.hid (show IntKind.i64.wrap ((at0 : Int) + 1) = (at0 : Int) + 1 by rw [IntKind.wrap_i64]; omega)
        clear gk0 HSP HD0
        go_region_held3 (fun W => W.cell? ⟨B, 4, none⟩ = some (.pointer (some ⟨p1, 0, none⟩)) ∧ W.cell? ⟨D, 0, none⟩ = some (.int .i64 at0) ∧ W.cell? ⟨D, 1, none⟩ = some (.slice Ao dl.old.length co) ∧ W.cell? ⟨D, 2, none⟩ = some (.slice An dl.new.length cn)) (first | exact ⟨k4, e0, e1, e2⟩ | exact gk | go_keep) (first
          | (go_at_call 31; refine (HM.out _ _ _).mono ?_; rintro e w6 ⟨rfl, h61, h62⟩; rw [HWR.out] at h61; have b6 := HD1.out.1.onMarks h62 h61; have d6 := (loc_dw _ _ _).other HD1.out.2.1 (by decide) h62; have x6 := (loc_dx _ _ _ _).other HD1.out.2.2 (by decide) h62; have gk : w6.cell? ⟨B, 4, none⟩ = some (.pointer (some ⟨p1, 0, none⟩)) ∧ w6.cell? ⟨D, 0, none⟩ = some (.int .i64 at0) ∧ w6.cell? ⟨D, 1, none⟩ = some (.slice Ao dl.old.length co) ∧ w6.cell? ⟨D, 2, none⟩ = some (.slice An dl.new.length cn) := ⟨by rw [blk_cell b6.box]; rfl, by rw [blk_cell x6.2]; rfl, by rw [blk_cell x6.2]; rfl, by rw [blk_cell x6.2]; rfl⟩; have H6 := Lib.hid (And.intro b6 (And.intro d6 x6)); clear b6 d6 x6 h61 h62))
      all_goals
        obtain ⟨col6, hcol6⟩ : ∃ col6, recol col4 (w4.drewN 1).heap.size 2 = col6 := ⟨_, rfl⟩
        rw [hcol6] at H6
        clear hcol6
        obtain ⟨gk0, e0, e1, e2⟩ := gk
        have HP := Lib.hid (put_bw H6.out.1)
        clear gk0 e0 e1 e2 k4 k0 HM HD1
        go_wp2_with fail
        refine (HP.out _).mono ?_
        rintro e w7 ⟨rfl, b7, hz7, hk7⟩
        have d7 := (loc_dw _ _ _).step H6.out.2.1 hz7 fun b _ he => hk7 b fun e => by
          have h9 := H6.out.1.cB
          rw [e, h9] at he
          exact absurd he (by decide)
        have hli : Li N0 w0 w7 B s2 (.slice (some ⟨g, 0, none⟩) ds.length c) Lv ds (j + 1) := by
          have h8 : Bw N0 w0 w7 col6 B (leapS s2 (ds.take (j + 1))) T p1 U vl vm vo L := by
            rw [HS.out.1]
            unfold stepS
            rw [HS.out.2.2.2]
            exact b7
          exact ⟨_, _, _, _, _, _, _, _, h8, d7⟩
        have HLI := Lib.hid hli
        clear hli b7 d7 hz7 hk7 HP
        go_wp2
        go_roundw
        case rel => exact ⟨j + 1, by go_num, by omega, HLI.out⟩
        case measure => simp [intOf]; omega
    · obtain rfl : j = ds.length := by omega
      have hle : (leapS s2 (ds.take ds.length)).ls.length ≤ 1000000000 := by rw [List.take_length]; exact HFT.out.2.1
      have HKP := Lib.hid (keep_any ⟨_, _, _, _, _, _, _, _, b⟩ hle)
      clear b d hle
      go_wp2_with (go_at_call 28; refine HKP.out.mono ?_; rintro e w5 ⟨rfl, hb5⟩; have H5 := Lib.hid hb5; clear hb5)
      go_ret
      refine ⟨rfl, ?_⟩
      have h9 := H5.out
      rw [List.take_length] at h9
      rw [← HEQ.out.1, ← HEQ.out.2]
      exact h9
end
end Go.Proofs.Ytdmldkpjdfmgeaa
