import Derived.Test.YtdhemdeapphfoaaGreatDoorBuVx
import Derived.Test.YtdhemdeapphfoaaGreatDoorMp5
set_option linter.unusedVariables false
set_option linter.unusedSimpArgs false

/- A Buf in memory: its parts lie apart, by a colouring of blocks. -/
namespace Go.Proofs.YtdhemdeapphfoaaGreatDoor
open Go.RowKit Go.Shelf Go.Maps Go.Proofs.YtdhemdeapphfoaaGreatDoorW.PrintWords Go.Proofs.YtdhemdeapphfoaaGreatDoorW.PrintLast

/-- what is said of a world and lies in the blocks F -/
structure Loc (X : World → (Nat → Prop) → Prop) : Prop where
  step : ∀ {w w' : World} {F : Nat → Prop}, X w F → w.heap.size ≤ w'.heap.size → (∀ b, b < w.heap.size → F b → w'.heap[b]? = w.heap[b]?) → X w' F
  wide : ∀ {w : World} {F F' : Nat → Prop}, X w F → (∀ b, b < w.heap.size → F b → F' b) → X w F'

theorem loc_tree (B : Nat) (ls : List ByteArray) : Loc (fun w F => TreeIs w F B ls) where
  step h _ hs := h.step hs
  wide h hF := h.tight.wide fun b hb => hF b hb.2 hb.1
theorem loc_ls (v : Value) (xs : List ByteArray) : Loc (fun w F => Ls w F v xs) where
  step h hsz hs := h.step hsz hs
  wide h hF := h.wide hF
theorem loc_dr (v : Value) (ds : List Dl) : Loc (fun w F => Dr w F v ds) where
  step h hsz hs := h.step hsz hs
  wide h hF := h.wide hF
theorem loc_ut (U n : Nat) (s : Us) : Loc (fun w F => Ut w F U s n) where
  step h hsz hs := h.step hsz hs
  wide {w F F'} h hF := by
    obtain ⟨G, mb, M, h⟩ := h
    exact ⟨G, mb, M, { h with
      footU := hF _ (blk_lt h.box) h.footU
      footM := hF _ h.map.lt h.footM
      footS := fun x a ha => by
        obtain ⟨st, _, h2, _⟩ := h.st x a ha
        exact hF _ (blk_lt h2) (h.footS x a ha)
      footK := fun x a k ha hk => by
        obtain ⟨st, _, _, _, h4⟩ := h.st x a ha
        exact hF _ (owns_lt h4 k hk) (h.footK x a k ha hk)
      footG := fun b hb => hF b (h.ltG b hb) (h.footG b hb) }⟩

/-- a row of changes; their lines -/
def Or (w : World) (F : Nat → Prop) (v : Value) (L : List DV) : Prop := w.ownsRow 0 178 3 v L.length (dflat L) ∧ ∀ b, v.ownBlock = some b → F b
def Oe (w : World) (F : Nat → Prop) (L : List DV) (ds : List Dl) : Prop := L.length = ds.length ∧ ∀ (k : Nat) (x : DV) (d : Dl), L[k]? = some x → ds[k]? = some d → x.at_ = d.at_ ∧ Ls w F x.vo d.old ∧ Ls w F x.vn d.new
theorem loc_or (v : Value) (L : List DV) : Loc (fun w F => Or w F v L) where
  step h _ hs := ⟨owns_step h.1 fun b hb => hs b (owns_lt h.1 b hb) (h.2 b hb), h.2⟩
  wide h hF := ⟨h.1, fun b hb => hF b (owns_lt h.1 b hb) (h.2 b hb)⟩
theorem loc_oe (L : List DV) (ds : List Dl) : Loc (fun w F => Oe w F L ds) where
  step h hsz hs := ⟨h.1, fun k x d hx hd => ⟨(h.2 k x d hx hd).1, (h.2 k x d hx hd).2.1.step hsz hs, (h.2 k x d hx hd).2.2.step hsz hs⟩⟩
  wide h hF := ⟨h.1, fun k x d hx hd => ⟨(h.2 k x d hx hd).1, (h.2 k x d hx hd).2.1.wide hF, (h.2 k x d hx hd).2.2.wide hF⟩⟩
theorem Or.dr {w : World} {F G H : Nat → Prop} {v : Value} {L : List DV} {ds : List Dl} (h : Or w F v L) (k : Oe w G L ds) (hF : ∀ b, F b → H b) (hG : ∀ b, G b → H b) : Dr w H v ds :=
  ⟨L, h.1, fun b hb => hF b (h.2 b hb), k.1, fun i x d hx hd => ⟨(k.2 i x d hx hd).1, (k.2 i x d hx hd).2.1.wide fun b _ hb => hG b hb, (k.2 i x d hx hd).2.2.wide fun b _ hb => hG b hb⟩⟩

/-- marks -/
def Mk (w : World) (F : Nat → Prop) (p n : Nat) (f : Int → Int) : Prop := ∃ mb, F p ∧ F mb ∧ p ≠ mb ∧ w.cell? ⟨p, 0, none⟩ = some (.map (some mb)) ∧ MapOf w mb n f
theorem MapOf.step {w w' : World} {b n : Nat} {f : Int → Int} (h : MapOf w b n f) (hs : w'.heap[b]? = w.heap[b]?) : MapOf w' b n f := by
  obtain ⟨D, ⟨es, clock, hb, r⟩, hD⟩ := h
  exact ⟨D, ⟨es, clock, hs.trans hb, r⟩, hD⟩
theorem cell_lt {w : World} {p : Addr} {v : Value} (h : w.cell? p = some v) : p.block < w.heap.size := by
  cases Nat.lt_or_ge p.block w.heap.size with
  | inl h => exact h
  | inr g => simp [World.cell?, Array.getElem?_eq_none g] at h
theorem loc_mk (p n : Nat) (f : Int → Int) : Loc (fun w F => Mk w F p n f) where
  step h hsz hs := by
    obtain ⟨mb, h1, h2, h3, h4, h5⟩ := h
    exact ⟨mb, h1, h2, h3, (World.cell?_of_block (a := ⟨p, 0, none⟩) (hs p (cell_lt h4) h1)).trans h4, h5.step (hs mb h5.lt h2)⟩
  wide h hF := by
    obtain ⟨mb, h1, h2, h3, h4, h5⟩ := h
    exact ⟨mb, hF _ (cell_lt h4) h1, hF _ h5.lt h2, h3, h4, h5⟩

/-- marks that are kept, if any are -/
def Sm (w : World) (F : Nat → Prop) (v : Value) (kept : Bool) (n : Nat) (f : Int → Int) : Prop := kept = true → ∃ p, v = .pointer (some ⟨p, 0, none⟩) ∧ Mk w F p n f
theorem loc_sm (v : Value) (kept : Bool) (n : Nat) (f : Int → Int) : Loc (fun w F => Sm w F v kept n f) where
  step h hsz hs hk := by
    obtain ⟨p, e, h⟩ := h hk
    exact ⟨p, e, (loc_mk p n f).step h hsz hs⟩
  wide h hF hk := by
    obtain ⟨p, e, h⟩ := h hk
    exact ⟨p, e, (loc_mk p n f).wide h hF⟩

/-- new blocks get colour i -/
def recol (col : Nat → Nat) (n i : Nat) : Nat → Nat := fun b => if n ≤ b then i else col b
theorem recol_old {col : Nat → Nat} {n i b : Nat} (h : b < n) : recol col n i b = col b := by simp [recol]; omega
theorem recol_new {col : Nat → Nat} {n i b : Nat} (h : n ≤ b) : recol col n i b = i := by simp [recol, h]
/-- part i turns: part j stays -/
theorem Loc.other {X : World → (Nat → Prop) → Prop} (hX : Loc X) {w w' : World} {col : Nat → Nat} {i j : Nat} (h : X w (fun b => col b = j)) (hij : j ≠ i) (hc : Chg (fun b => col b = i ∨ w.heap.size ≤ b) w w') : X w' (fun b => recol col w.heap.size i b = j) := by
  refine hX.step (hX.wide h fun b hb he => (recol_old hb).trans he) hc.size fun b hb he => hc.block b hb ?_
  rw [recol_old hb] at he
  omega
theorem Loc.own {X : World → (Nat → Prop) → Prop} (hX : Loc X) {w w' : World} {col : Nat → Nat} {i : Nat} (h : X w' (fun b => col b = i ∨ w.heap.size ≤ b)) : X w' (fun b => recol col w.heap.size i b = i) :=
  hX.wide h fun b _ he => by
    by_cases hb : w.heap.size ≤ b
    · exact recol_new hb
    · rw [recol_old (by omega)]
      omega
theorem Loc.open {X : World → (Nat → Prop) → Prop} (hX : Loc X) {w : World} {col : Nat → Nat} {i : Nat} (h : X w (fun b => col b = i)) : X w (fun b => col b = i ∨ w.heap.size ≤ b) := hX.wide h fun _ _ he => .inl he

/-- a Buf: what it holds -/
structure Bs where
  ls : List ByteArray
  cur : Int
  mar : Int → Int
  nm : Nat
  us : Us
  nu : Nat
  opn : List Dl
  sls : List ByteArray
  scur : Int
  smk : Int → Int
  ns : Nat
  kept : Bool

/-- what is round a Buf: the world as it was; blocks that are kept, as they were then -/
structure Base where
  w : World
  P : Nat → Prop
  z : World
instance : Coe World Base := ⟨fun w => ⟨w, fun _ => False, w⟩⟩

structure Bw (N0 : Nat) (w0 : Base) (w : World) (col : Nat → Nat) (B : Nat) (s : Bs) (T p1 U : Nat) (vl vm vo : Value) (L : List DV) : Prop where
  box : w.heap[B]? = some (.cells #[.pointer (some ⟨T, 0, none⟩), vl, vm, .int .i64 s.scur, .pointer (some ⟨p1, 0, none⟩), .pointer (some ⟨U, 0, none⟩), vo, .int .i64 s.cur] 45 (0, 0))
  cB : col B = 0
  tree : TreeIs w (fun b => col b = 1) T s.ls
  mar : Mk w (fun b => col b = 2) p1 s.nm s.mar
  smk : Sm w (fun b => col b = 3) vm s.kept s.ns s.smk
  undo : Ut w (fun b => col b = 4) U s.us s.nu
  opr : Or w (fun b => col b = 5) vo L
  ope : Oe w (fun b => col b = 8) L s.opn
  sls : Ls w (fun b => col b = 6) vl s.sls
  new : ∀ b, b < N0 → col b = 7
  below : Below N0 w0.w w
  prot : ∀ b, w0.P b → b < w.heap.size ∧ col b = 7 ∧ w.heap[b]? = w0.z.heap[b]?
  le : N0 ≤ w.heap.size
def Bf (N0 : Nat) (w0 : Base) (w : World) (B : Nat) (s : Bs) : Prop := ∃ col T p1 U vl vm vo L, Bw N0 w0 w col B s T p1 U vl vm vo L

section
variable {N0 : Nat} {w0 : Base} {w w' : World} {col : Nat → Nat} {B T p1 U : Nat} {s : Bs} {vl vm vo : Value} {L : List DV}
theorem Bw.below' (h : Bw N0 w0 w col B s T p1 U vl vm vo L) {i : Nat} (hi : i ≠ 7) (hc : Chg (fun b => col b = i ∨ w.heap.size ≤ b) w w') : Below N0 w0.w w' :=
  h.below.trans ⟨hc.os, hc.tape, hc.output, hc.size, fun b hb => hc.block b (Nat.lt_of_lt_of_le hb h.le) fun he => by
    rcases he with he | he
    · rw [h.new b hb] at he
      exact hi he.symm
    · have := h.le
      omega⟩
theorem Bw.prot' (h : Bw N0 w0 w col B s T p1 U vl vm vo L) {i : Nat} (hi : i ≠ 7) (hc : Chg (fun b => col b = i ∨ w.heap.size ≤ b) w w') : ∀ b, w0.P b → b < w'.heap.size ∧ recol col w.heap.size i b = 7 ∧ w'.heap[b]? = w0.z.heap[b]? := fun b hb => by
  obtain ⟨h1, h2, h3⟩ := h.prot b hb
  refine ⟨Nat.lt_of_lt_of_le h1 hc.size, (recol_old h1).trans h2, (hc.block b h1 fun he => ?_).trans h3⟩
  rcases he with he | he
  · exact hi (he.symm.trans h2)
  · omega
theorem Bw.new' (h : Bw N0 w0 w col B s T p1 U vl vm vo L) (i : Nat) : ∀ b, b < N0 → recol col w.heap.size i b = 7 := fun b hb => (recol_old (Nat.lt_of_lt_of_le hb h.le)).trans (h.new b hb)
theorem Bw.box' (h : Bw N0 w0 w col B s T p1 U vl vm vo L) {i : Nat} (hi : 0 ≠ i) (hc : Chg (fun b => col b = i ∨ w.heap.size ≤ b) w w') : w'.heap[B]? = w.heap[B]? :=
  hc.block B (blk_lt h.box) fun he => by
    have := h.cB
    have := blk_lt h.box
    omega
theorem Bw.cB' (h : Bw N0 w0 w col B s T p1 U vl vm vo L) (i : Nat) : recol col w.heap.size i B = 0 := (recol_old (blk_lt h.box)).trans h.cB

/-- the tree turns -/
theorem Bw.onTree (h : Bw N0 w0 w col B s T p1 U vl vm vo L) (hc : Chg (fun b => col b = 1 ∨ w.heap.size ≤ b) w w') {ls : List ByteArray} (ht : TreeIs w' (fun b => col b = 1 ∨ w.heap.size ≤ b) T ls) : Bw N0 w0 w' (recol col w.heap.size 1) B { s with ls := ls } T p1 U vl vm vo L where
  box := (h.box' (by decide) hc).trans h.box
  cB := h.cB' 1
  tree := (loc_tree T ls).own (w := w) ht
  mar := (loc_mk _ _ _).other h.mar (by decide) hc
  smk := (loc_sm _ _ _ _).other h.smk (by decide) hc
  undo := (loc_ut _ _ _).other h.undo (by decide) hc
  opr := (loc_or _ _).other h.opr (by decide) hc
  ope := (loc_oe _ _).other h.ope (by decide) hc
  sls := (loc_ls _ _).other h.sls (by decide) hc
  new := h.new' 1
  prot := h.prot' (by decide) hc
  below := h.below' (by decide) hc
  le := Nat.le_trans h.le hc.size
/-- the marks turn -/
theorem Bw.onMarks (h : Bw N0 w0 w col B s T p1 U vl vm vo L) (hc : Chg (fun b => col b = 2 ∨ w.heap.size ≤ b) w w') {f : Int → Int} {n : Nat} (ht : Mk w' (fun b => col b = 2 ∨ w.heap.size ≤ b) p1 n f) : Bw N0 w0 w' (recol col w.heap.size 2) B { s with mar := f, nm := n } T p1 U vl vm vo L where
  box := (h.box' (by decide) hc).trans h.box
  cB := h.cB' 2
  tree := (loc_tree _ _).other h.tree (by decide) hc
  mar := (loc_mk _ _ _).own (w := w) ht
  smk := (loc_sm _ _ _ _).other h.smk (by decide) hc
  undo := (loc_ut _ _ _).other h.undo (by decide) hc
  opr := (loc_or _ _).other h.opr (by decide) hc
  ope := (loc_oe _ _).other h.ope (by decide) hc
  sls := (loc_ls _ _).other h.sls (by decide) hc
  new := h.new' 2
  prot := h.prot' (by decide) hc
  below := h.below' (by decide) hc
  le := Nat.le_trans h.le hc.size
/-- the states turn -/
theorem Bw.onUndo (h : Bw N0 w0 w col B s T p1 U vl vm vo L) (hc : Chg (fun b => col b = 4 ∨ w.heap.size ≤ b) w w') {u : Us} {n : Nat} (ht : Ut w' (fun b => col b = 4 ∨ w.heap.size ≤ b) U u n) : Bw N0 w0 w' (recol col w.heap.size 4) B { s with us := u, nu := n } T p1 U vl vm vo L where
  box := (h.box' (by decide) hc).trans h.box
  cB := h.cB' 4
  tree := (loc_tree _ _).other h.tree (by decide) hc
  mar := (loc_mk _ _ _).other h.mar (by decide) hc
  smk := (loc_sm _ _ _ _).other h.smk (by decide) hc
  undo := (loc_ut _ _ _).own (w := w) ht
  opr := (loc_or _ _).other h.opr (by decide) hc
  ope := (loc_oe _ _).other h.ope (by decide) hc
  sls := (loc_ls _ _).other h.sls (by decide) hc
  new := h.new' 4
  prot := h.prot' (by decide) hc
  below := h.below' (by decide) hc
  le := Nat.le_trans h.le hc.size
/-- only new blocks: they get a colour -/
theorem Bw.onNew (h : Bw N0 w0 w col B s T p1 U vl vm vo L) (i : Nat) (hi : 0 ≠ i) (hb : Below w.heap.size w w') : Bw N0 w0 w' (recol col w.heap.size i) B s T p1 U vl vm vo L := by
  have keep : ∀ {X : World → (Nat → Prop) → Prop}, Loc X → ∀ {j : Nat}, X w (fun b => col b = j) → X w' (fun b => recol col w.heap.size i b = j) := fun hX _ hx =>
    hX.step (hX.wide hx fun b hb he => (recol_old hb).trans he) hb.size fun b hlt _ => hb.block b hlt
  exact {
    box := (hb.block B (blk_lt h.box)).trans h.box
    cB := h.cB' i
    tree := keep (loc_tree _ _) h.tree
    mar := keep (loc_mk _ _ _) h.mar
    smk := keep (loc_sm _ _ _ _) h.smk
    undo := keep (loc_ut _ _ _) h.undo
    opr := keep (loc_or _ _) h.opr
    ope := keep (loc_oe _ _) h.ope
    sls := keep (loc_ls _ _) h.sls
    new := h.new' i
    prot := fun b hp => by
      obtain ⟨h1, h2, h3⟩ := h.prot b hp
      exact ⟨Nat.lt_of_lt_of_le h1 hb.size, (recol_old h1).trans h2, (hb.block b h1).trans h3⟩
    below := h.below.trans ⟨hb.os, hb.tape, hb.output, hb.size, fun b hlt => hb.block b (Nat.lt_of_lt_of_le hlt h.le)⟩
    le := Nat.le_trans h.le hb.size }
/-- the box alone turns -/
theorem Bw.onBox (h : Bw N0 w0 w col B s T p1 U vl vm vo L) {s' : Bs} {T' p1' U' : Nat} {vl' vm' vo' : Value} {L' : List DV} (hsz : w'.heap.size = w.heap.size) (hos : Below N0 w w') (hk : ∀ b, b ≠ B → w'.heap[b]? = w.heap[b]?)
    (hbox : w'.heap[B]? = some (.cells #[.pointer (some ⟨T', 0, none⟩), vl', vm', .int .i64 s'.scur, .pointer (some ⟨p1', 0, none⟩), .pointer (some ⟨U', 0, none⟩), vo', .int .i64 s'.cur] 45 (0, 0)))
    (h1 : TreeIs w (fun b => col b = 1) T' s'.ls) (h2 : Mk w (fun b => col b = 2) p1' s'.nm s'.mar) (h3 : Sm w (fun b => col b = 3) vm' s'.kept s'.ns s'.smk) (h4 : Ut w (fun b => col b = 4) U' s'.us s'.nu) (h5 : Or w (fun b => col b = 5) vo' L') (h5e : Oe w (fun b => col b = 8) L' s'.opn) (h6 : Ls w (fun b => col b = 6) vl' s'.sls) :
    Bw N0 w0 w' col B s' T' p1' U' vl' vm' vo' L' := by
  have keep : ∀ {X : World → (Nat → Prop) → Prop}, Loc X → ∀ {j : Nat}, 0 ≠ j → X w (fun b => col b = j) → X w' (fun b => col b = j) := fun hX _ hj hx =>
    hX.step hx (Nat.le_of_eq hsz.symm) fun b _ he => hk b fun e => by
      rw [e, h.cB] at he
      exact hj he
  exact {
    box := hbox
    cB := h.cB
    tree := keep (loc_tree _ _) (by decide) h1
    mar := keep (loc_mk _ _ _) (by decide) h2
    smk := keep (loc_sm _ _ _ _) (by decide) h3
    undo := keep (loc_ut _ _ _) (by decide) h4
    opr := keep (loc_or _ _) (by decide) h5
    ope := keep (loc_oe _ _) (by decide) h5e
    sls := keep (loc_ls _ _) (by decide) h6
    new := h.new
    prot := fun b hp => by
      obtain ⟨h1, h2, h3⟩ := h.prot b hp
      refine ⟨hsz ▸ h1, h2, (hk b fun e => ?_).trans h3⟩
      rw [e, h.cB] at h2
      cases h2
    below := h.below.trans hos
    le := hsz ▸ h.le }
end
end Go.Proofs.YtdhemdeapphfoaaGreatDoor

/- buf's keep, walked; marks as a part. -/
namespace Go.Proofs.YtdhemdeapphfoaaGreatDoor
open Go.RowKit Go.Shelf Go.Maps Go.Proofs.YtdhemdeapphfoaaGreatDoorW.PrintWords Go.Proofs.YtdhemdeapphfoaaGreatDoorW.PrintLast

theorem Loc.keepNew {X : World → (Nat → Prop) → Prop} (hX : Loc X) {w w' : World} {col : Nat → Nat} {i j : Nat} (h : X w (fun b => col b = j)) (hb : Below w.heap.size w w') : X w' (fun b => recol col w.heap.size i b = j) :=
  hX.step (hX.wide h fun b hb he => (recol_old hb).trans he) hb.size fun b hlt _ => hb.block b hlt
theorem Loc.fresh {X : World → (Nat → Prop) → Prop} (hX : Loc X) {n : Nat} {w' : World} {col : Nat → Nat} {i : Nat} (h : X w' (fun b => n ≤ b)) : X w' (fun b => recol col n i b = i) :=
  hX.wide h fun _ _ he => recol_new he

def CopyPost (w : World) (n : Nat) (f : Int → Int) (e : Ending) (w' : World) : Prop := ∃ p2, e = .returned (.pointer (some ⟨p2, 0, none⟩)) ∧ Mk w' (fun b => w.heap.size ≤ b) p2 n f ∧ Below w.heap.size w w'
theorem copy_mk {w : World} {F : Nat → Prop} {p n : Nat} {f : Int → Int} (h : Mk w F p n f) : Calls Tryz.prog 32 #[.pointer (some ⟨p, 0, none⟩)] w (CopyPost w n f) := by
  obtain ⟨mb, _, _, h3, h4, h5⟩ := h
  refine (copy_held (B := 0) (w0 := w) ⟨Below.refl _ _, Nat.zero_le _, Nat.zero_le _, h3, h4, h5⟩).mono ?_
  rintro e w' ⟨p2, mb2, rfl, H, _, hb, h1, h2⟩
  exact ⟨p2, rfl, ⟨mb2, h2, h1, H.ne, H.cell, H.map⟩, hb⟩
theorem splice_mk {w : World} {F : Nat → Prop} {p n : Nat} {f : Int → Int} (h : Mk w F p n f) (hn : n < maxLen) (line m lines : Int) :
    Calls Tryz.prog 83 #[.pointer (some ⟨p, 0, none⟩), .int .i64 line, .int .i64 m, .int .i64 lines] w fun e w' => e = .returned (.tuple #[]) ∧ Mk w' F p n (splF f line m lines) ∧ Chg F w w' := by
  obtain ⟨mb, h1, h2, h3, h4, h5⟩ := h
  refine (splice_any p mb n f line m lines w h4 h3 h5 hn).mono ?_
  rintro e w' ⟨rfl, hg, hm⟩
  refine ⟨rfl, ⟨mb, h1, h2, h3, (World.cell?_of_block (a := ⟨p, 0, none⟩) (hg.block p (cell_lt h4) (fun e => h3 (Option.some.inj e)))).trans h4, hm.congr fun y _ _ => ?_⟩, (Chg.refl F w).grown hg fun i hi => Option.some.inj hi ▸ h2⟩
  unfold splF
  split <;> rfl

section
variable {N0 : Nat} {w0 : Base} {w w1 w2 : World} {col : Nat → Nat} {B T p1 U : Nat} {s : Bs} {vl vm vo : Value} {L : List DV}
theorem kept_a (h : Bw N0 w0 w col B s T p1 U vl vm vo L) {v : Value} (h1 : Own w.heap.size w w1 v s.ls) {q : Nat} (h2 : Mk w2 (fun b => w1.heap.size ≤ b) q s.nm s.mar) (hb2 : Below w1.heap.size w1 w2) :
    ∃ col', Bw N0 w0 w2 col' B s T p1 U vl vm vo L ∧ Ls w2 (fun b => col' b = 6) v s.ls ∧ Mk w2 (fun b => col' b = 3) q s.nm s.mar := by
  have a1 := h.onNew 6 (by decide) h1.2.2
  have l1 := (loc_ls v s.ls).fresh (col := col) (i := 6) (n := w.heap.size) ((Ls.of_rw h1.1).wide fun b _ hb => h1.2.1 b hb)
  exact ⟨_, a1.onNew 3 (by decide) hb2, (loc_ls _ _).keepNew l1 hb2, (loc_mk _ _ _).fresh h2⟩
theorem kept_b (h : Bw N0 w0 w col B s T p1 U vl vm vo L) {v : Value} {q : Nat} (h2 : Mk w1 (fun b => w.heap.size ≤ b) q s.nm s.mar) (hb2 : Below w.heap.size w w1) (h1 : Own w1.heap.size w1 w2 v s.ls) :
    ∃ col', Bw N0 w0 w2 col' B s T p1 U vl vm vo L ∧ Ls w2 (fun b => col' b = 6) v s.ls ∧ Mk w2 (fun b => col' b = 3) q s.nm s.mar := by
  have a1 := h.onNew 3 (by decide) hb2
  have l1 := (loc_mk q s.nm s.mar).fresh (col := col) (i := 3) h2
  exact ⟨_, a1.onNew 6 (by decide) h1.2.2, (loc_ls v s.ls).fresh (n := w1.heap.size) ((Ls.of_rw h1.1).wide fun b _ hb => h1.2.1 b hb), (loc_mk _ _ _).keepNew l1 h1.2.2⟩

theorem below_undrew {N : Nat} {w w' : World} (h : Below N w.drew w') : Below N w w' := ⟨h.os, h.tape, h.output, h.size, h.block⟩
theorem own_undrew {N : Nat} {w w' : World} {v : Value} {xs : List ByteArray} (h : Own N w.drew w' v xs) : Own N w w' v xs := ⟨h.1, h.2.1, below_undrew h.2.2⟩
def BfPost (N0 : Nat) (w0 : Base) (B : Nat) (s : Bs) (v : Value) (e : Ending) (w' : World) : Prop := e = .returned v ∧ Bf N0 w0 w' B s

set_option maxRecDepth 100000 in
set_option maxHeartbeats 1000000 in
theorem keep_any (h : Bf N0 w0 w B s) (hl : s.ls.length ≤ 1000000000) :
    Calls Tryz.prog 20 #[.pointer (some ⟨B, 0, none⟩)] w (BfPost N0 w0 B { s with sls := s.ls, scur := s.cur, smk := s.mar, ns := s.nm, opn := [], kept := true } (.tuple #[])) := by
  obtain ⟨col, T, p1, U, vl, vm, vo, L, h⟩ := h
  have k0 : w.cell? ⟨B, 0, none⟩ = some (.pointer (some ⟨T, 0, none⟩)) := by rw [blk_cell h.box]; rfl
  have k4 : w.cell? ⟨B, 4, none⟩ = some (.pointer (some ⟨p1, 0, none⟩)) := by rw [blk_cell h.box]; rfl
  have k7 : w.cell? ⟨B, 7, none⟩ = some (.int .i64 s.cur) := by rw [blk_cell h.box]; rfl
  have hlt := blk_lt h.box
  have hAll : ∀ W, Below w.heap.size w W → (W.cell? ⟨B, 0, none⟩ = some (.pointer (some ⟨T, 0, none⟩)) ∧ W.cell? ⟨B, 4, none⟩ = some (.pointer (some ⟨p1, 0, none⟩)) ∧ W.cell? ⟨B, 7, none⟩ = some (.int .i64 s.cur)) ∧
      W.cell? ⟨B, 1, none⟩ = some vl ∧ W.cell? ⟨B, 2, none⟩ = some vm ∧ W.cell? ⟨B, 3, none⟩ = some (.int .i64 s.scur) ∧ W.cell? ⟨B, 6, none⟩ = some vo ∧ ∀ i, W.frozen? ⟨B, i, none⟩ = false := fun W hb => by
    have hx := (hb.block B hlt).trans h.box
    refine ⟨⟨?_, ?_, ?_⟩, ?_, ?_, ?_, ?_, blk_frozen hx⟩ <;> (rw [blk_cell hx]; rfl)
  have hL : ∀ W, Below w.heap.size w W → Calls Tryz.prog 12 #[.pointer (some ⟨T, 0, none⟩)] W (OwnPost W.heap.size W s.ls) := fun W hb => Lines_any (h.tree.step fun b hlt _ => hb.block b hlt) hl
  have hC : ∀ W, Below w.heap.size w W → Calls Tryz.prog 32 #[.pointer (some ⟨p1, 0, none⟩)] W (CopyPost W s.nm s.mar) := fun W hb => copy_mk ((loc_mk _ _ _).step h.mar hb.size fun b hlt _ => hb.block b hlt)
  have HALL := Lib.hid hAll
  have HL := Lib.hid hL
  have HC := Lib.hid hC
  have HH := Lib.hid h
  have HBC := Lib.hid ((Below.refl w.heap.size w).drew)
  clear hAll hL hC h
  go_enter Tryz.func20, Tryz.ntmps20
  go_wp2
  go_region_held3 (fun W => W.cell? ⟨B, 0, none⟩ = some (.pointer (some ⟨T, 0, none⟩)) ∧ W.cell? ⟨B, 4, none⟩ = some (.pointer (some ⟨p1, 0, none⟩)) ∧ W.cell? ⟨B, 7, none⟩ = some (.int .i64 s.cur)) (first | exact ⟨k0, k4, k7⟩ | exact (HALL.out _ HBC.out).1 | (refine ⟨?_, ?_, ?_⟩ <;> (rw [World.cell?_setCell_other _ _ _ _ (by simp), World.cell?_setCell_other _ _ _ _ (by simp), World.cell?_setCell_other _ _ _ _ (by simp)]; assumption)) | go_keep) (first
    | (go_at_call 12; refine (HL.out _ HBC.out).mono ?_; rintro e w3 ⟨v3, rfl, h31, h32, h33⟩; obtain ⟨A3, c3, hv3, _⟩ := h31.slice; subst hv3; have HBC := Lib.hid (below_then HBC.out HBC.out.size h33); obtain ⟨⟨x0, x4, x7⟩, t1, t2, t3, t6, tf⟩ := HALL.out _ HBC.out; have tf1 := tf 1; have tf2 := tf 2; have tf3 := tf 3; have tf6 := tf 6; clear tf; have HO1 := Lib.hid (And.intro h31 (And.intro h32 h33)); clear h31 h32 h33)
    | (go_at_call 32; refine (HC.out _ HBC.out).mono ?_; rintro e w3 ⟨q, rfl, h31, h33⟩; have HBC := Lib.hid (below_then HBC.out HBC.out.size h33); obtain ⟨⟨x0, x4, x7⟩, t1, t2, t3, t6, tf⟩ := HALL.out _ HBC.out; have tf1 := tf 1; have tf2 := tf 2; have tf3 := tf 3; have tf6 := tf 6; clear tf; have HO2 := Lib.hid (And.intro h31 h33); clear h31 h33))
  all_goals
    have hk : ∃ col', Bw N0 w0 w3 col' B s T p1 U vl vm vo L ∧ Ls w3 (fun b => col' b = 6) (.slice A3 (cS s.ls).length c3) s.ls ∧ Mk w3 (fun b => col' b = 3) q s.nm s.mar := by
      first
      | exact kept_a HH.out (own_undrew HO1.out) HO2.out.1 HO2.out.2
      | exact kept_b HH.out HO2.out.1 (below_undrew HO2.out.2) HO1.out
    have HKP := Lib.hid hk
    clear hk x0 x4 x7 k0 k4 k7
    go_wp2
    go_end0
    obtain ⟨col', g1, g2, g3⟩ := HKP.out
    refine ⟨rfl, col', T, p1, U, .slice A3 (cS s.ls).length c3, .pointer (some ⟨q, 0, none⟩), .slice none 0 0, [], ?_⟩
    have hBN : N0 ≤ B := by
      rcases Nat.lt_or_ge B N0 with hlt | hge
      · have := g1.new B hlt
        rw [g1.cB] at this
        cases this
      · exact hge
    refine g1.onBox (by simp [World.setCell]) ((((((Below.refl N0 w3).setCell (p := ⟨B, 1, none⟩) hBN _).setCell (p := ⟨B, 2, none⟩) hBN _).setCell (p := ⟨B, 3, none⟩) hBN _).setCell (p := ⟨B, 6, none⟩) hBN _)) (fun b hb => ?_) ?_ g1.tree g1.mar (fun _ => ⟨q, rfl, g3⟩) g1.undo ⟨World.ownsRow_nil _ _ _ _, fun b hb => by (cases hb)⟩ ⟨rfl, fun k x d hx => by (simp at hx)⟩ g2
    · rw [Below.heap_setCell _ _ _ _ hb, Below.heap_setCell _ _ _ _ hb, Below.heap_setCell _ _ _ _ hb, Below.heap_setCell _ _ _ _ hb]
    · rw [blk_set (blk_set (blk_set (blk_set g1.box _ _) _ _) _ _) _ _]
      rfl
end
end Go.Proofs.YtdhemdeapphfoaaGreatDoor
