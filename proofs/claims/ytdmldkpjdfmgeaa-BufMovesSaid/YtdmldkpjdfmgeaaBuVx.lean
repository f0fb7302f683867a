import Derived.Test.YtdmldkpjdfmgeaaBuTx
import Derived.Test.YtdmldkpjdfmgeaaMp
set_option linter.unusedVariables false
set_option linter.unusedSimpArgs false

/- undo.Tree in memory. -/
namespace Go.Proofs.Ytdmldkpjdfmgeaa
open Go.RowKit Go.Shelf Go.Maps Go.Proofs.YtdmldkpjdfmgeaaW.PrintWords Go.Proofs.YtdmldkpjdfmgeaaW.PrintLast

/-- a state -/
structure St where
  frm : Int
  on_ : Int
  by_ : List Dl
  kids : List Int
structure Us where
  most : Int
  now : Int
  next : Int
  first : Int
  all : Int → Option St
def upd {α : Type} (f : Int → Option α) (x : Int) (a : α) : Int → Option α := fun y => if y = x then some a else f y
theorem upd_same {α : Type} (f : Int → Option α) (x : Int) (a : α) : upd f x a x = some a := by simp [upd]
theorem upd_other {α : Type} (f : Int → Option α) {x y : Int} (a : α) (h : y ≠ x) : upd f x a y = f y := by simp [upd, h]

structure SV where
  b : Nat
  vb : Value
  vk : Value

/-- how a pointer reads -/
def encP : Option Nat → DataW Unit
  | none => .lit (.int .i64 (-1))
  | some b => .lit (.int .i64 b)
def ptrE : Value → Option (DataW Unit × List MemPlace)
  | .pointer none => some (encP none, [])
  | .pointer (some ⟨b, 0, none⟩) => some (encP (some b), [])
  | _ => none
def ptrV : Option Nat → Value
  | none => .pointer none
  | some b => .pointer (some ⟨b, 0, none⟩)
theorem ptrE_mk (q : Option Nat) : ptrE (ptrV q) = some (encP q, []) := by cases q <;> rfl
theorem encP_inj {p q : Option Nat} (h : encP p = encP q) : p = q := by
  cases p <;> cases q <;> simp [encP] at h ⊢
  all_goals first | omega | exact h
theorem ptrE_inv {v : Value} {q : Option Nat} {ps : List MemPlace} (h : ptrE v = some (encP q, ps)) : v = ptrV q := by
  unfold ptrE at h
  split at h
  · injection h with h
    injection h with h _
    rw [← encP_inj h]; rfl
  · injection h with h
    injection h with h _
    rw [← encP_inj h]; rfl
  · cases h

theorem keyedI : Keyed Try.prog 3 := int_keyed Try.underlying3
theorem zeroP (w : World) : (zeroValue 82).run Try.prog w = .ok (.pointer none) w := by kernel_rfl

/-- the map of states -/
def StMap (w : World) (mb n : Nat) (M : Int → Option SV) : Prop :=
  ∃ D : DataW Unit, w.ownsMap Try.prog 3 ptrE mb n D ∧ ∀ x, (Lit.int .i64 x).wf = true → D.atKey (.int .i64 x) (encP none) = encP ((M x).map SV.b)
theorem StMap.step {w w' : World} {mb n : Nat} {M : Int → Option SV} (h : StMap w mb n M) (hs : w'.heap[mb]? = w.heap[mb]?) : StMap w' mb n M := by
  obtain ⟨D, ⟨es, clock, hb, r⟩, hD⟩ := h
  exact ⟨D, ⟨es, clock, hs.trans hb, r⟩, hD⟩
theorem StMap.lt {w : World} {mb n : Nat} {M : Int → Option SV} (h : StMap w mb n M) : mb < w.heap.size := by
  obtain ⟨D, h, _⟩ := h
  exact h.lt
theorem StMap.look {w : World} {mb n : Nat} {M : Int → Option SV} (h : StMap w mb n M) {x : Int} (hx : (Lit.int .i64 x).wf = true) : (Instr.lookup 85 (.map (some mb)) (.int .i64 x) false).run Try.prog w = .ok (ptrV ((M x).map SV.b)) w := by
  obtain ⟨D, hown, hD⟩ := h
  obtain ⟨v, ps, hrun, hv⟩ := hown.lookup keyedI Try.underlying85 (zeroP w) (ptrE_mk none) (keyOf_int_mk Try.underlying3 hx)
  rw [hD x hx] at hv
  rw [hrun, ptrE_inv hv]
theorem StMap.mapObj {w : World} {mb n : Nat} {M : Int → Option SV} (h : StMap w mb n M) : ∃ es clock, w.heap[mb]? = some (.map es clock) := by
  obtain ⟨D, ⟨es, clock, hb, _⟩, _⟩ := h
  exact ⟨es, clock, hb⟩

def stCells (x : Int) (st : St) (a : SV) : Array Value := #[.int .i64 x, .int .i64 st.frm, .int .i64 st.on_, a.vb, a.vk]
def usCells (s : Us) (mb : Nat) : Array Value := #[.int .i64 s.most, .int .i64 s.now, .int .i64 s.next, .int .i64 s.first, .map (some mb)]

/-- F: all its blocks; G: those of changes alone -/
structure Uw (w : World) (F G : Nat → Prop) (U : Nat) (s : Us) (mb n : Nat) (M : Int → Option SV) : Prop where
  box : w.heap[U]? = some (.cells (usCells s mb) 87 (0, 0))
  map : StMap w mb n M
  st : ∀ x a, M x = some a → ∃ st, s.all x = some st ∧ w.heap[a.b]? = some (.cells (stCells x st a) 84 (0, 0)) ∧ Dr w G a.vb st.by_ ∧ w.ownsRow 0 3 1 a.vk st.kids.length (cI st.kids)
  non : ∀ x, M x = none → s.all x = none
  wf : ∀ x a, M x = some a → (Lit.int .i64 x).wf = true
  inj : ∀ x y a c, M x = some a → M y = some c → a.b = c.b → x = y
  apart : ∀ x y a c k, M x = some a → M y = some c → a.vk.ownBlock = some k → c.vk.ownBlock = some k → x = y
  footU : F U
  footM : F mb
  footS : ∀ x a, M x = some a → F a.b
  footK : ∀ x a k, M x = some a → a.vk.ownBlock = some k → F k
  footG : ∀ b, G b → F b
  sepU : ¬ G U
  sepM : ¬ G mb
  sepS : ∀ x a, M x = some a → ¬ G a.b
  sepK : ∀ x a k, M x = some a → a.vk.ownBlock = some k → ¬ G k
  ltG : ∀ b, G b → b < w.heap.size

section
variable {w w' : World} {F G : Nat → Prop} {U mb n : Nat} {s : Us} {M : Int → Option SV}
theorem owns_typed {base size k : Nat} {e : TypeId} {v : Value} {xs : List Value} (h : w.ownsRow base e size v k xs) : ∀ b, v.ownBlock = some b → ∃ cells, w.heap[b]? = some (.cells cells e (0, 0)) := by
  intro b hb
  rcases h.2 with ⟨rfl, _⟩ | ⟨g, cap, cur, rfl, _, hg, _⟩
  · cases hb
  · injection hb with hb
    subst hb
    exact ⟨_, hg⟩
theorem cells_ne {b c : Nat} {x y : Array Value} {t u : TypeId} (h : w.heap[b]? = some (.cells x t (0, 0))) (k : w.heap[c]? = some (.cells y u (0, 0))) (ht : t ≠ u) : b ≠ c := by
  rintro rfl
  rw [h] at k
  injection k with k
  injection k with _ k _
  exact ht k
theorem map_ne {b c : Nat} {x : Array Value} {t : TypeId} {es : Array MapEntry} {clock : Nat} (h : w.heap[b]? = some (.cells x t (0, 0))) (k : w.heap[c]? = some (.map es clock)) : b ≠ c := by
  rintro rfl
  rw [h] at k
  cases k
/-- another's step -/
theorem Uw.step (h : Uw w F G U s mb n M) (hsz : w.heap.size ≤ w'.heap.size) (hs : ∀ b, b < w.heap.size → F b → w'.heap[b]? = w.heap[b]?) : Uw w' F G U s mb n M :=
  { h with
    box := (hs U (blk_lt h.box) h.footU).trans h.box
    map := h.map.step (hs mb h.map.lt h.footM)
    st := fun x a ha => by
      obtain ⟨st, h1, h2, h3, h4⟩ := h.st x a ha
      exact ⟨st, h1, (hs a.b (blk_lt h2) (h.footS x a ha)).trans h2, h3.step hsz fun b hb hg => hs b hb (h.footG b hg), owns_step h4 fun b hb => hs b (owns_lt h4 b hb) (h.footK x a b ha hb)⟩
    ltG := fun b hb => Nat.lt_of_lt_of_le (h.ltG b hb) hsz }
theorem Uw.now (h : Uw w F G U s mb n M) {x : Int} {st : St} (hx : s.all x = some st) : ∃ a, M x = some a ∧ w.heap[a.b]? = some (.cells (stCells x st a) 84 (0, 0)) ∧ Dr w G a.vb st.by_ ∧ w.ownsRow 0 3 1 a.vk st.kids.length (cI st.kids) := by
  cases e : M x with
  | none => rw [h.non x e] at hx; cases hx
  | some a =>
    obtain ⟨st', h1, h2⟩ := h.st x a e
    rw [hx] at h1
    injection h1 with h1
    subst h1
    exact ⟨a, rfl, h2⟩

/-- a number of the tree's own box -/
theorem Uw.setU (h : Uw w F G U s mb n M) {i : Nat} {v : Value} {s' : Us} (hv : (usCells s mb).setIfInBounds i v = usCells s' mb) (ha : s'.all = s.all) : Uw (w.setCell ⟨U, i, none⟩ v) F G U s' mb n M := by
  have hk : ∀ b, b ≠ U → (w.setCell ⟨U, i, none⟩ v).heap[b]? = w.heap[b]? := fun b hb => Below.heap_setCell _ _ _ _ hb
  obtain ⟨es, clock, hm⟩ := h.map.mapObj
  exact { h with
    box := by rw [blk_set h.box, hv]
    map := h.map.step (hk mb (map_ne h.box hm).symm)
    st := fun x a hx => by
      obtain ⟨st, h1, h2, h3, h4⟩ := h.st x a hx
      refine ⟨st, ha ▸ h1, (hk _ (cells_ne h2 h.box (by decide))).trans h2, h3.step (by simp [World.setCell]) fun b _ hg => hk b (fun e => h.sepU (e ▸ hg)), owns_step h4 fun b hb => hk b ?_⟩
      obtain ⟨cells, hc⟩ := owns_typed h4 b hb
      exact cells_ne hc h.box (by decide)
    non := fun x hx => by rw [ha]; exact h.non x hx
    ltG := fun b hb => by simpa [World.setCell] using h.ltG b hb }

/-- a state's number 'on' -/
theorem Uw.setOn (h : Uw w F G U s mb n M) {x : Int} {st : St} {a : SV} (hx : M x = some a) (hs : s.all x = some st) (v : Int) : Uw (w.setCell ⟨a.b, 2, none⟩ (.int .i64 v)) F G U { s with all := upd s.all x { st with on_ := v } } mb n M := by
  have hk : ∀ b, b ≠ a.b → (w.setCell ⟨a.b, 2, none⟩ (.int .i64 v)).heap[b]? = w.heap[b]? := fun b hb => Below.heap_setCell _ _ _ _ hb
  obtain ⟨es, clock, hm⟩ := h.map.mapObj
  obtain ⟨st1, g1, g2, g3, g4⟩ := h.st x a hx
  rw [hs] at g1
  injection g1 with g1
  subst g1
  exact { h with
    box := by rw [hk U (cells_ne h.box g2 (by decide))]; exact h.box
    map := h.map.step (hk mb (map_ne g2 hm).symm)
    st := fun y c hy => by
      obtain ⟨st2, h1, h2, h3, h4⟩ := h.st y c hy
      have d3 : Dr (w.setCell ⟨a.b, 2, none⟩ (.int .i64 v)) G c.vb st2.by_ := h3.step (by simp [World.setCell]) fun b _ hg => hk b (fun e => h.sepS x a hx (e ▸ hg))
      have d4 : (w.setCell ⟨a.b, 2, none⟩ (.int .i64 v)).ownsRow 0 3 1 c.vk st2.kids.length (cI st2.kids) := owns_step h4 fun b hb => by
        obtain ⟨cells, hc⟩ := owns_typed h4 b hb
        exact hk b (cells_ne hc g2 (by decide))
      by_cases e : y = x
      · subst e
        rw [hx] at hy
        injection hy with hy
        subst hy
        rw [hs] at h1
        injection h1 with h1
        subst h1
        refine ⟨_, upd_same _ _ _, ?_, d3, d4⟩
        rw [blk_set g2]
        rfl
      · refine ⟨st2, (upd_other _ _ e).trans h1, ?_, d3, d4⟩
        rw [hk _ (fun e2 => e (h.inj y x c a hy hx e2))]
        exact h2
    non := fun y hy => by
      have e : y ≠ x := by rintro rfl; rw [hx] at hy; cases hy
      exact (upd_other _ _ e).trans (h.non y hy)
    ltG := fun b hb => by simpa [World.setCell] using h.ltG b hb }
end

/-- F: the tree's blocks; at most n states -/
def Ut (w : World) (F : Nat → Prop) (U : Nat) (s : Us) (n : Nat) : Prop := ∃ G mb M, Uw w F G U s mb n M
theorem Ut.step {w w' : World} {F : Nat → Prop} {U n : Nat} {s : Us} (h : Ut w F U s n) (hsz : w.heap.size ≤ w'.heap.size) (hs : ∀ b, b < w.heap.size → F b → w'.heap[b]? = w.heap[b]?) : Ut w' F U s n := by
  obtain ⟨G, mb, M, h⟩ := h
  exact ⟨G, mb, M, h.step hsz hs⟩
end Go.Proofs.Ytdmldkpjdfmgeaa

/- undo.New, walked. -/
namespace Go.Proofs.Ytdmldkpjdfmgeaa
open Go.RowKit Go.Shelf Go.Maps Go.Proofs.YtdmldkpjdfmgeaaW.PrintWords Go.Proofs.YtdmldkpjdfmgeaaW.PrintLast

def us0 (most : Int) : Us := ⟨most, 0, 1, 0, upd (fun _ => none) 0 ⟨-1, -1, [], []⟩⟩
def UNewPost (most : Int) (w : World) (e : Ending) (w' : World) : Prop :=
  ∃ U, e = .returned (.pointer (some ⟨U, 0, none⟩)) ∧ w.heap.size ≤ U ∧ Ut w' (fun b => w.heap.size ≤ b) U (us0 most) 1 ∧ Below w.heap.size w w'

set_option maxRecDepth 100000 in
theorem undoNew_any (w : World) (most : Int) (h1 : 1 ≤ most) (h2 : most ≤ 200) : Calls Try.prog 24 #[.int .i64 most] w (UNewPost most w) := by
  have hmm := @run_makeMap Try.prog
  have hown := (World.ownsMap_made (H := Unit) w Try.prog 3 ptrE).alloc (.cells #[.int .i64 0, .int .i64 (-1), .int .i64 (-1), .slice none 0 0, .slice none 0 0] 84)
  obtain ⟨w2, hrun, hown2, ht2⟩ := hown.store (t := 85) (e := 82) keyedI Try.underlying85 (by decide) (keyOf_int_mk (a := 0) Try.underlying3 (by decide)) (ptrE_mk (some (w.heap.size + 1)))
  have HO := Lib.hid hown2
  have HT := Lib.hid ht2
  clear hown2 ht2
  unfold ptrV at hrun
  go_enter Try.func24, Try.ntmps24
  go_wp2
  go_ret
  have hg := HT.out.grown
  have hsz : w.heap.size + 2 ≤ w2.heap.size := by
    have := hg.size
    simp at this
    omega
  have hst : w2.heap[w.heap.size + 1]? = some (.cells #[.int .i64 0, .int .i64 (-1), .int .i64 (-1), .slice none 0 0, .slice none 0 0] 84 (0, 0)) := by
    have e := hg.block (w.heap.size + 1) (by simp) (by simp)
    rw [e]
    have e2 := World.alloc_heap_new (w.alloc (.map #[] 0)) (.cells #[.int .i64 0, .int .i64 (-1), .int .i64 (-1), .slice none 0 0, .slice none 0 0] 84)
    rw [World.size_alloc] at e2
    exact e2
  have hup : ∀ x a, upd (fun _ => (none : Option SV)) 0 ⟨w.heap.size + 1, .slice none 0 0, .slice none 0 0⟩ x = some a → x = 0 ∧ a = ⟨w.heap.size + 1, .slice none 0 0, .slice none 0 0⟩ := by
    intro x a h
    unfold upd at h
    split at h
    · injection h with h
      exact ⟨by assumption, h.symm⟩
    · cases h
  refine ⟨w2.heap.size, rfl, by omega, ⟨fun _ => False, w.heap.size, upd (fun _ => none) 0 ⟨w.heap.size + 1, .slice none 0 0, .slice none 0 0⟩, ?_⟩, ?_⟩
  · exact {
      box := World.alloc_heap_new w2 _
      map := by
        refine ⟨_, HO.out.alloc _, ?_⟩
        intro x hx
        by_cases e : x = 0
        · subst e
          rw [atKey_put_same isMap_empty (keyedI.key (keyOf_int_mk (a := 0) Try.underlying3 (by decide))), upd_same]
          rfl
        · rw [atKey_put_other (by simpa using e), upd_other _ _ e]
          rfl
      st := fun x a h => by
        obtain ⟨rfl, rfl⟩ := hup x a h
        exact ⟨⟨-1, -1, [], []⟩, upd_same (fun _ => none) 0 _, (Below.heap_alloc w2 _ (w.heap.size + 1) (by omega)).trans hst, Dr.nil _ _, World.ownsRow_nil _ _ _ _⟩
      non := fun x h => by
        unfold upd at h
        split at h
        · cases h
        · rename_i e
          exact upd_other (fun _ => none) _ e
      wf := fun x a h => by
        obtain ⟨rfl, rfl⟩ := hup x a h
        decide
      inj := fun x y a c h k _ => by rw [(hup x a h).1, (hup y c k).1]
      apart := fun x y a c k h h2 _ _ => by rw [(hup x a h).1, (hup y c h2).1]
      footU := by show w.heap.size ≤ w2.heap.size; omega
      footM := Nat.le_refl _
      footS := fun x a h => by
        obtain ⟨rfl, rfl⟩ := hup x a h
        exact Nat.le_succ _
      footK := fun x a k h hk => by
        obtain ⟨rfl, rfl⟩ := hup x a h
        cases hk
      footG := fun b h => h.elim
      sepU := id
      sepM := id
      sepS := fun _ _ _ h => h
      sepK := fun _ _ _ _ _ h => h
      ltG := fun b h => h.elim }
  · exact (((below_alloc (below_alloc (Below.refl _ w) _) _).grown hg (by simp; omega) (fun k hk => Nat.le_of_eq (Option.some.inj hk)))).alloc (by omega) _
end Go.Proofs.Ytdmldkpjdfmgeaa

/- undo's Undo, walked. -/
namespace Go.Proofs.Ytdmldkpjdfmgeaa
open Go.RowKit Go.Shelf Go.Maps Go.Proofs.YtdmldkpjdfmgeaaW.PrintWords Go.Proofs.YtdmldkpjdfmgeaaW.PrintLast

def EndPost (F : Nat → Prop) (w : World) (e : Ending) (w' : World) : Prop := e = .returned (.tuple #[.slice none 0 0, .int .u16 121]) ∧ Below w.heap.size w w'
def UndoPost (F : Nat → Prop) (U n : Nat) (s' : Us) (ds : List Dl) (w : World) (e : Ending) (w' : World) : Prop :=
  ∃ v, e = .returned (.tuple #[v, .int .u16 0]) ∧ Dr w' (fun b => w.heap.size ≤ b) v ds ∧ Ut w' F U s' n ∧ Chg F w w'

section
variable {w : World} {F : Nat → Prop} {U n : Nat} {s : Us}
set_option maxRecDepth 100000 in
theorem undo_end (h : Ut w F U s n) {st : St} (hs : s.all s.now = some st) (hf : st.frm = -1) :
    Calls Try.prog 36 #[.pointer (some ⟨U, 0, none⟩)] w (EndPost F w) := by
  obtain ⟨G, mb, M, h⟩ := h
  obtain ⟨a, ha, hb, _⟩ := h.now hs
  have u1 : w.cell? ⟨U, 1, none⟩ = some (.int .i64 s.now) := by rw [blk_cell h.box]; rfl
  have u4 : w.cell? ⟨U, 4, none⟩ = some (.map (some mb)) := by rw [blk_cell h.box]; rfl
  have s1 : w.cell? ⟨a.b, 1, none⟩ = some (.int .i64 (-1)) := by rw [blk_cell hb, ← hf]; rfl
  have hl := (h.map.step (w' := w.drew) rfl).look (h.wf _ _ ha)
  rw [ha] at hl
  unfold ptrV at hl
  dsimp only [Option.map] at hl
  clear h ha hb hs hf
  go_enter Try.func36, Try.ntmps36
  go_wp2
  go_region
  all_goals
    go_wp2
    go_ret2
    exact ⟨rfl, by first | exact Below.refl _ _ | exact (Below.refl _ _).drew | exact (Below.refl _ _).drewN _⟩

set_option maxRecDepth 100000 in
set_option maxHeartbeats 1000000 in
theorem undo_any (h : Ut w F U s n) {st sp : St} (hs : s.all s.now = some st) (hf : st.frm ≠ -1) (hp : s.all st.frm = some sp) (hn : st.by_.length ≤ 1000000000) (hb : ∀ d ∈ st.by_, d.old.length ≤ 1000000000 ∧ d.new.length ≤ 1000000000) :
    Calls Try.prog 36 #[.pointer (some ⟨U, 0, none⟩)] w (UndoPost F U n { s with now := st.frm, all := upd s.all st.frm { sp with on_ := s.now } } (turnDs st.by_) w) := by
  obtain ⟨G, mb, M, h⟩ := h
  obtain ⟨a, ha, hab, had, _⟩ := h.now hs
  obtain ⟨p, hpm, hpb, _⟩ := h.now hp
  have u1 : w.cell? ⟨U, 1, none⟩ = some (.int .i64 s.now) := by rw [blk_cell h.box]; rfl
  have u4 : w.cell? ⟨U, 4, none⟩ = some (.map (some mb)) := by rw [blk_cell h.box]; rfl
  have uf : w.frozen? ⟨U, 1, none⟩ = false := blk_frozen h.box 1
  have s1 : w.cell? ⟨a.b, 1, none⟩ = some (.int .i64 st.frm) := by rw [blk_cell hab]; rfl
  have s3 : w.cell? ⟨a.b, 3, none⟩ = some a.vb := by rw [blk_cell hab]; rfl
  have p2 : w.cell? ⟨p.b, 2, none⟩ = some (.int .i64 sp.on_) := by rw [blk_cell hpb]; rfl
  have pf : w.frozen? ⟨p.b, 2, none⟩ = false := blk_frozen hpb 2
  have hl := (h.map.step (w' := w.drew) rfl).look (h.wf _ _ ha)
  have hl2 := (h.map.step (w' := w.drew.drew) rfl).look (h.wf _ _ hpm)
  rw [ha] at hl
  rw [hpm] at hl2
  unfold ptrV at hl hl2
  dsimp only [Option.map] at hl hl2
  obtain ⟨frm, hfr⟩ : ∃ frm, st.frm = frm := ⟨_, rfl⟩
  obtain ⟨now, hnw⟩ : ∃ now, s.now = now := ⟨_, rfl⟩
  rw [hfr] at s1 hl2 hf
  rw [hnw] at u1 hl
  have HH := Lib.hid h
  have HD := Lib.hid had
  have HM := Lib.hid (And.intro ha (And.intro hpm hp))
  have HN := Lib.hid hn
  have HB := Lib.hid hb
  have HSU := Lib.hid (And.intro h.sepU (h.sepS _ _ hpm))
  clear h ha hpm hab had hpb hs hp hn hb
  have hne : ¬ frm = -1 := hf
  clear hf
  go_enter Try.func36, Try.ntmps36
  go_wp2
  go_region
  all_goals
    go_wp2
    go_region
  go_wp2_with fail
  subst hnw
  have hW : Uw (((w.setCell ⟨p.b, 2, none⟩ (.int .i64 s.now)).setCell ⟨U, 1, none⟩ (.int .i64 frm)).drew.drew) F G U { s with now := frm, all := upd s.all frm { sp with on_ := s.now } } mb n M := by
    have h1 := HH.out.setOn (x := frm) (hfr ▸ HM.out.2.1) (hfr ▸ HM.out.2.2) s.now
    have h2 := h1.setU (i := 1) (v := .int .i64 frm) (s' := { s with now := frm, all := upd s.all frm { sp with on_ := s.now } }) rfl rfl
    exact h2.step (Nat.le_refl _) fun _ _ _ => rfl
  have hDr : Dr (((w.setCell ⟨p.b, 2, none⟩ (.int .i64 s.now)).setCell ⟨U, 1, none⟩ (.int .i64 frm)).drew.drew) G a.vb st.by_ := HD.out.step (by simp [World.setCell, World.drew]) fun b _ hg => by
    show ((w.setCell ⟨p.b, 2, none⟩ (.int .i64 s.now)).setCell ⟨U, 1, none⟩ (.int .i64 frm)).heap[b]? = _
    have e1 : b ≠ U := fun e => HSU.out.1 (e ▸ hg)
    have e2 : b ≠ p.b := fun e => HSU.out.2 (e ▸ hg)
    rw [Below.heap_setCell _ _ _ _ e1, Below.heap_setCell _ _ _ _ e2]
  have hCh : Chg F w (((w.setCell ⟨p.b, 2, none⟩ (.int .i64 s.now)).setCell ⟨U, 1, none⟩ (.int .i64 frm)).drew.drew) :=
    ((((Chg.refl F w).setCell (p := ⟨p.b, 2, none⟩) (HH.out.footS _ _ HM.out.2.1) _).setCell (p := ⟨U, 1, none⟩) HH.out.footU _).drew).drew
  have hSz : w.heap.size ≤ (((w.setCell ⟨p.b, 2, none⟩ (.int .i64 s.now)).setCell ⟨U, 1, none⟩ (.int .i64 frm)).drew.drew).heap.size := hCh.size
  obtain ⟨W3, hW3⟩ : ∃ W3, (((w.setCell ⟨p.b, 2, none⟩ (.int .i64 s.now)).setCell ⟨U, 1, none⟩ (.int .i64 frm)).drew.drew) = W3 := ⟨_, rfl⟩
  rw [hW3] at hW hDr hCh hSz ⊢
  have HW := Lib.hid (And.intro hW hCh)
  have hcl := clone_any hDr HN.out HB.out
  clear hW hDr hCh hW3 u1 u4 uf s1 s3 p2 pf hl hl2
  refine hcl.mono ?_
  clear hcl
  rintro e w4 ⟨v4, rfl, h41, h42⟩
  have ht := turn_any h41 HN.out
  have HT := Lib.hid ht
  have H42 := Lib.hid h42
  clear ht h41 h42
  go_wp2_with fail
  go_at_call 52
  refine HT.out.mono ?_
  rintro e w5 ⟨v5, rfl, h51, h52⟩
  have H5 := Lib.hid (And.intro h51 h52)
  clear h51 h52
  go_wp2
  go_ret2
  refine ⟨v5, rfl, H5.out.1.wide fun b _ hb => ?_, ?_, ?_⟩
  · rcases hb with hb | hb
    · exact Nat.le_trans hSz hb
    · exact Nat.le_trans hSz (Nat.le_trans H42.out.size hb)
  · rw [hfr]
    exact ⟨G, mb, M, HW.out.1.step (Nat.le_trans H42.out.size H5.out.2.size) fun b hb _ => (H5.out.2.block b (Nat.lt_of_lt_of_le hb H42.out.size)).trans (H42.out.block b hb)⟩
  · exact (HW.out.2.below H42.out).below H5.out.2
end
end Go.Proofs.Ytdmldkpjdfmgeaa

/- undo.Tree in memory: a state more. -/
namespace Go.Proofs.Ytdmldkpjdfmgeaa
open Go.RowKit Go.Shelf Go.Maps Go.Proofs.YtdmldkpjdfmgeaaW.PrintWords Go.Proofs.YtdmldkpjdfmgeaaW.PrintLast

section
variable {w w2 : World} {F G : Nat → Prop} {U mb n : Nat} {s : Us} {M : Int → Option SV}

theorem upd_get {α : Type} {f : Int → Option α} {x y : Int} {a c : α} (h : upd f x a y = some c) : (y = x ∧ c = a) ∨ (y ≠ x ∧ f y = some c) := by
  unfold upd at h
  split at h
  · rename_i e
    injection h with h
    exact .inl ⟨e, h.symm⟩
  · rename_i e
    exact .inr ⟨e, h⟩
theorem upd_none {α : Type} {f : Int → Option α} {x y : Int} {a : α} (h : upd f x a y = none) : y ≠ x ∧ f y = none := by
  unfold upd at h
  split at h
  · cases h
  · rename_i e
    exact ⟨e, h⟩

/-- a state's row of kids -/
theorem Uw.setKids (h : Uw w F G U s mb n M) {x : Int} {st : St} {a : SV} (hx : M x = some a) (hs : s.all x = some st) (hsz : w.heap.size ≤ w2.heap.size) (hg : ∀ b, b < w.heap.size → some b ≠ a.vk.ownBlock → w2.heap[b]? = w.heap[b]?)
    {v : Value} {ks : List Int} (hv : w2.ownsRow 0 3 1 v ks.length (cI ks)) (hat : v.ownBlock = a.vk.ownBlock ∨ ∃ k, v.ownBlock = some k ∧ w.heap.size ≤ k) (hF : ∀ b, w.heap.size ≤ b → F b) :
    Uw (w2.setCell ⟨a.b, 4, none⟩ v) F G U { s with all := upd s.all x { st with kids := ks } } mb n (upd M x { a with vk := v }) := by
  obtain ⟨es, clock, hm⟩ := h.map.mapObj
  obtain ⟨st1, g1, g2, g3, g4⟩ := h.st x a hx
  rw [hs] at g1
  injection g1 with g1
  subst g1
  have kne : ∀ {b : Nat} {cells : Array Value} {t : TypeId}, w.heap[b]? = some (.cells cells t (0, 0)) → t ≠ 3 → some b ≠ a.vk.ownBlock := fun hb ht e => by
    obtain ⟨c2, hc⟩ := owns_typed g4 _ e.symm
    exact cells_ne hb hc ht rfl
  have hk : ∀ b, b < w.heap.size → some b ≠ a.vk.ownBlock → b ≠ a.b → (w2.setCell ⟨a.b, 4, none⟩ v).heap[b]? = w.heap[b]? := fun b h1 h2 h3 => by rw [Below.heap_setCell _ _ _ _ h3]; exact hg b h1 h2
  have hgs := (hg a.b (blk_lt g2) (kne g2 (by decide))).trans g2
  have hGk : ∀ b, b < w.heap.size → G b → (w2.setCell ⟨a.b, 4, none⟩ v).heap[b]? = w.heap[b]? := fun b h1 hgb => hk b h1 (fun e => h.sepK x a b hx e.symm hgb) (fun e => h.sepS x a hx (e ▸ hgb))
  have hz : w.heap.size ≤ (w2.setCell ⟨a.b, 4, none⟩ v).heap.size := by simpa [World.setCell] using hsz
  have hmk : mb < w.heap.size := h.map.lt
  have hv2 : (w2.setCell ⟨a.b, 4, none⟩ v).ownsRow 0 3 1 v ks.length (cI ks) := owns_step hv fun b hb => by
    obtain ⟨c2, hc⟩ := owns_typed hv b hb
    exact Below.heap_setCell _ _ _ _ (cells_ne hc hgs (by decide))
  have vown : ∀ k, v.ownBlock = some k → (a.vk.ownBlock = some k) ∨ w.heap.size ≤ k := fun k hk => by
    rcases hat with e | ⟨j, e, hj⟩
    · exact .inl (e ▸ hk)
    · rw [e] at hk
      injection hk with hk
      exact .inr (hk ▸ hj)
  exact {
    box := (hk U (blk_lt h.box) (kne h.box (by decide)) (cells_ne h.box g2 (by decide))).trans h.box
    map := by
      obtain ⟨D, hown, hD⟩ := h.map
      obtain ⟨D', hown', hD'⟩ := h.map.step (w' := w2.setCell ⟨a.b, 4, none⟩ v) (hk mb hmk (fun e => by
        obtain ⟨c2, hc⟩ := owns_typed g4 _ e.symm
        exact map_ne hc hm rfl) (map_ne g2 hm).symm)
      refine ⟨D', hown', fun y hy => ?_⟩
      rw [hD' y hy]
      by_cases e : y = x
      · subst e
        rw [hx, upd_same]
        rfl
      · rw [upd_other _ _ e]
    st := fun y c hy => by
      rcases upd_get hy with ⟨rfl, rfl⟩ | ⟨e, hy'⟩
      · refine ⟨_, upd_same _ _ _, ?_, g3.step hz hGk, hv2⟩
        show (w2.setCell ⟨a.b, 4, none⟩ v).heap[a.b]? = _
        rw [blk_set hgs]
        rfl
      · obtain ⟨st2, h1, h2, h3, h4⟩ := h.st y c hy'
        refine ⟨st2, (upd_other _ _ e).trans h1, (hk _ (blk_lt h2) (kne h2 (by decide)) (fun e2 => e (h.inj y x c a hy' hx e2))).trans h2, h3.step hz hGk, owns_step h4 fun b hb => hk b (owns_lt h4 b hb) (fun e2 => e (h.apart y x c a b hy' hx hb e2.symm)) ?_⟩
        obtain ⟨c2, hc⟩ := owns_typed h4 b hb
        exact cells_ne hc g2 (by decide)
    non := fun y hy => by
      obtain ⟨e, hy'⟩ := upd_none hy
      exact (upd_other _ _ e).trans (h.non y hy')
    wf := fun y c hy => by
      rcases upd_get hy with ⟨rfl, rfl⟩ | ⟨e, hy'⟩
      · exact h.wf _ _ hx
      · exact h.wf _ _ hy'
    inj := fun y z c d hy hz' hb => by
      rcases upd_get hy with ⟨rfl, rfl⟩ | ⟨e, hy'⟩ <;> rcases upd_get hz' with ⟨rfl, rfl⟩ | ⟨e2, hz''⟩
      · rfl
      · exact h.inj _ _ _ _ hx hz'' hb
      · exact h.inj _ _ _ _ hy' hx hb
      · exact h.inj _ _ _ _ hy' hz'' hb
    apart := fun y z c d k hy hz' h1 h2 => by
      rcases upd_get hy with ⟨rfl, rfl⟩ | ⟨e, hy'⟩ <;> rcases upd_get hz' with ⟨rfl, rfl⟩ | ⟨e2, hz''⟩
      · rfl
      · rcases vown k h1 with h3 | h3
        · exact h.apart _ _ _ _ k hx hz'' h3 h2
        · obtain ⟨st2, _, _, _, h4⟩ := h.st z d hz''
          exact absurd (owns_lt h4 k h2) (by omega)
      · rcases vown k h2 with h3 | h3
        · exact h.apart _ _ _ _ k hy' hx h1 h3
        · obtain ⟨st2, _, _, _, h4⟩ := h.st y c hy'
          exact absurd (owns_lt h4 k h1) (by omega)
      · exact h.apart _ _ _ _ k hy' hz'' h1 h2
    footU := h.footU
    footM := h.footM
    footS := fun y c hy => by
      rcases upd_get hy with ⟨rfl, rfl⟩ | ⟨e, hy'⟩
      · exact h.footS y a hx
      · exact h.footS _ _ hy'
    footK := fun y c k hy h1 => by
      rcases upd_get hy with ⟨rfl, rfl⟩ | ⟨e, hy'⟩
      · rcases vown k h1 with h3 | h3
        · exact h.footK _ _ k hx h3
        · exact hF k h3
      · exact h.footK _ _ k hy' h1
    footG := h.footG
    sepU := h.sepU
    sepM := h.sepM
    sepS := fun y c hy => by
      rcases upd_get hy with ⟨rfl, rfl⟩ | ⟨e, hy'⟩
      · exact h.sepS y a hx
      · exact h.sepS _ _ hy'
    sepK := fun y c k hy h1 => by
      rcases upd_get hy with ⟨rfl, rfl⟩ | ⟨e, hy'⟩
      · rcases vown k h1 with h3 | h3
        · exact h.sepK _ _ k hx h3
        · exact fun hG => absurd (h.ltG k hG) (by omega)
      · exact h.sepK _ _ k hy' h1
    ltG := fun b hb => Nat.lt_of_lt_of_le (h.ltG b hb) hz }

/-- a new state -/
theorem Uw.put (h : Uw w F G U s mb n M) {x frm : Int} (hwf : (Lit.int .i64 x).wf = true) (hx : M x = none) {w1 w3 : World} (hb1 : Below w.heap.size w w1) {v : Value} {ds : List Dl} (hd : Dr w1 (fun b => w.heap.size ≤ b) v ds)
    {D : DataW Unit} (hD : ∀ y, (Lit.int .i64 y).wf = true → D.atKey (.int .i64 y) (encP none) = encP ((M y).map SV.b)) (hDm : IsMap D)
    (hown : w3.ownsMap Try.prog 3 ptrE mb (n + 1) (D.put (.int .i64 x) (encP (some w1.heap.size))))
    (ht : (w1.alloc (.cells (stCells x ⟨frm, -1, ds, []⟩ ⟨w1.heap.size, v, .slice none 0 0⟩) 84)).mapTurned w3 mb) (hF : ∀ b, w.heap.size ≤ b → F b) :
    Uw w3 F (fun b => G b ∨ (w.heap.size ≤ b ∧ b < w1.heap.size)) U { s with all := upd s.all x ⟨frm, -1, ds, []⟩ } mb (n + 1) (upd M x ⟨w1.heap.size, v, .slice none 0 0⟩) := by
  obtain ⟨es, clock, hm⟩ := h.map.mapObj
  have hg := ht.grown
  have hz1 := hb1.size
  have hz3 : w1.heap.size + 1 ≤ w3.heap.size := by
    have := hg.size
    simpa using this
  have hk1 : ∀ b, b < w1.heap.size → b ≠ mb → w3.heap[b]? = w1.heap[b]? := fun b h1 h2 => (hg.block b (by simp; omega) (fun e => h2 (Option.some.inj e))).trans (Below.heap_alloc w1 _ b h1)
  have hk : ∀ b, b < w.heap.size → b ≠ mb → w3.heap[b]? = w.heap[b]? := fun b h1 h2 => (hk1 b (by omega) h2).trans (hb1.block b h1)
  have hmlt := h.map.lt
  have hnew : w3.heap[w1.heap.size]? = some (.cells (stCells x ⟨frm, -1, ds, []⟩ ⟨w1.heap.size, v, .slice none 0 0⟩) 84 (0, 0)) :=
    (hg.block w1.heap.size (by simp) (fun e => by have := Option.some.inj e; omega)).trans (World.alloc_heap_new w1 _)
  have hdr : Dr w3 (fun b => G b ∨ (w.heap.size ≤ b ∧ b < w1.heap.size)) v ds := by
    obtain ⟨L, hq⟩ := hd
    have h5 : Dw w1 (fun b => G b ∨ (w.heap.size ≤ b ∧ b < w1.heap.size)) v L ds := hq.wide fun b hb hb2 => Or.inr ⟨hb2, hb⟩
    exact ⟨L, h5.step (by omega) fun b h1 h2 => hk1 b h1 (by
      rcases h2 with h2 | h2
      · exact fun e => h.sepM (e ▸ h2)
      · omega)⟩
  exact {
    box := (hk U (blk_lt h.box) (map_ne h.box hm)).trans h.box
    map := by
      refine ⟨_, hown, fun y hy => ?_⟩
      by_cases e : y = x
      · subst e
        rw [atKey_put_same hDm (keyedI.key (keyOf_int_mk (a := y) Try.underlying3 hy)), upd_same]
        rfl
      · rw [atKey_put_other (by simpa using e), upd_other _ _ e]
        exact hD y hy
    st := fun y c hy => by
      rcases upd_get hy with ⟨rfl, rfl⟩ | ⟨e, hy'⟩
      · exact ⟨⟨frm, -1, ds, []⟩, upd_same _ _ _, hnew, hdr, World.ownsRow_nil _ _ _ _⟩
      · obtain ⟨st2, h1, h2, h3, h4⟩ := h.st y c hy'
        refine ⟨st2, (upd_other _ _ e).trans h1, (hk _ (blk_lt h2) (map_ne h2 hm)).trans h2, (h3.step (by omega) fun b hb hG => hk b hb fun e => h.sepM (e ▸ hG)).wide fun b _ hb => .inl hb, owns_step h4 fun b hb => hk b (owns_lt h4 b hb) ?_⟩
        obtain ⟨c2, hc⟩ := owns_typed h4 b hb
        exact map_ne hc hm
    non := fun y hy => by
      obtain ⟨e, hy'⟩ := upd_none hy
      exact (upd_other _ _ e).trans (h.non y hy')
    wf := fun y c hy => by
      rcases upd_get hy with ⟨rfl, rfl⟩ | ⟨e, hy'⟩
      · exact hwf
      · exact h.wf _ _ hy'
    inj := fun y z c d hy hz' hb => by
      rcases upd_get hy with ⟨rfl, rfl⟩ | ⟨e, hy'⟩ <;> rcases upd_get hz' with ⟨rfl, rfl⟩ | ⟨e2, hz''⟩
      · rfl
      · obtain ⟨st2, _, h2, _⟩ := h.st z d hz''
        have := blk_lt h2
        have hb' : w1.heap.size = d.b := hb
        omega
      · obtain ⟨st2, _, h2, _⟩ := h.st y c hy'
        have := blk_lt h2
        have hb' : c.b = w1.heap.size := hb
        omega
      · exact h.inj _ _ _ _ hy' hz'' hb
    apart := fun y z c d k hy hz' h1 h2 => by
      rcases upd_get hy with ⟨rfl, rfl⟩ | ⟨e, hy'⟩ <;> rcases upd_get hz' with ⟨rfl, rfl⟩ | ⟨e2, hz''⟩
      · rfl
      · cases h1
      · cases h2
      · exact h.apart _ _ _ _ k hy' hz'' h1 h2
    footU := h.footU
    footM := h.footM
    footS := fun y c hy => by
      rcases upd_get hy with ⟨rfl, rfl⟩ | ⟨e, hy'⟩
      · exact hF _ hz1
      · exact h.footS _ _ hy'
    footK := fun y c k hy h1 => by
      rcases upd_get hy with ⟨rfl, rfl⟩ | ⟨e, hy'⟩
      · cases h1
      · exact h.footK _ _ k hy' h1
    footG := fun b hb => hb.elim (h.footG b) fun h => hF b h.1
    sepU := fun hb => hb.elim h.sepU fun h2 => by have := blk_lt h.box; omega
    sepM := fun hb => hb.elim h.sepM fun h2 => by omega
    sepS := fun y c hy hb => by
      rcases upd_get hy with ⟨rfl, rfl⟩ | ⟨e, hy'⟩
      · rcases hb with hb | hb
        · have h9 : w1.heap.size < w.heap.size := h.ltG _ hb
          omega
        · exact absurd hb.2 (Nat.lt_irrefl _)
      · rcases hb with hb | hb
        · exact h.sepS _ _ hy' hb
        · obtain ⟨st2, _, h2, _⟩ := h.st y c hy'
          have := blk_lt h2
          omega
    sepK := fun y c k hy h1 hb => by
      rcases upd_get hy with ⟨rfl, rfl⟩ | ⟨e, hy'⟩
      · cases h1
      · rcases hb with hb | hb
        · exact h.sepK _ _ k hy' h1 hb
        · obtain ⟨st2, _, _, _, h4⟩ := h.st y c hy'
          have := owns_lt h4 k h1
          omega
    ltG := fun b hb => by
      rcases hb with hb | hb
      · have := h.ltG b hb
        omega
      · omega }
end
end Go.Proofs.Ytdmldkpjdfmgeaa
