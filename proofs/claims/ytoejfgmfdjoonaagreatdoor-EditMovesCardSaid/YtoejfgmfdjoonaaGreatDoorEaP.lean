/- Lines that are joined, plain: no byte but blanks is lost. -/
import Derived.Test.YtoejfgmfdjoonaaGreatDoorEdX
set_option linter.unusedVariables false
set_option linter.unusedSimpArgs false
namespace Go.Proofs.YtoejfgmfdjoonaaGreatDoor

def bareL (l : List UInt8) : List UInt8 := l.filter fun c => !blankB c
def bareB (s : ByteArray) : ByteArray := ⟨(bareL s.data.toList).toArray⟩
theorem ba_ext {a b : ByteArray} (h : a.data.toList = b.data.toList) : a = b := by
  obtain ⟨⟨x⟩⟩ := a
  obtain ⟨⟨y⟩⟩ := b
  simp at h
  rw [h]
theorem bare_append (a b : ByteArray) : bareB (a ++ b) = bareB a ++ bareB b := by
  apply ba_ext
  simp [bareB, bareL, List.filter_append]
theorem bare_drop : ∀ l : List UInt8, bareL (l.dropWhile blankB) = bareL l
  | [] => rfl
  | x :: l => by
    rw [List.dropWhile_cons]
    split
    · rename_i h
      rw [bare_drop l]
      unfold bareL
      rw [List.filter_cons_of_neg (by simp [h])]
    · rfl
theorem bare_cutL (s : ByteArray) : bareB (cutL s) = bareB s := by
  apply ba_ext
  simp only [bareB, cutL]
  rw [bare_drop]
theorem bare_sp : bareB ⟨#[32]⟩ = ⟨#[]⟩ := by decide +kernel
theorem ba_empty_append (a : ByteArray) : ⟨#[]⟩ ++ a = a := by apply ba_ext; simp
theorem ba_append_empty (a : ByteArray) : a ++ ⟨#[]⟩ = a := by apply ba_ext; simp
theorem bare_join (a b : ByteArray) (bold : Bool) : bareB (joinP a b bold) = bareB a ++ bareB b := by
  unfold joinP
  split
  · exact bare_append a b
  · split
    · rename_i h
      have h2 : bareB b = ⟨#[]⟩ := by
        rw [← bare_cutL]
        apply ba_ext
        simp [bareB, h, bareL]
      rw [h2, ba_append_empty]
    · split
      · rw [bare_append, bare_cutL]
      · rw [bare_append, bare_append, bare_cutL, bare_sp, ba_append_empty]

def joinAll (bold : Bool) (s : ByteArray) (l : List ByteArray) : ByteArray := l.foldl (fun a b => joinP a b bold) s
def catAll (s : ByteArray) (l : List ByteArray) : ByteArray := l.foldl (fun a b => a ++ b) s
theorem join_bold (s : ByteArray) (l : List ByteArray) : joinAll true s l = catAll s l := by
  unfold joinAll catAll
  congr 1
theorem bare_all (bold : Bool) : ∀ (l : List ByteArray) (s t : ByteArray), bareB s = bareB t → bareB (joinAll bold s l) = bareB (catAll t l)
  | [], _, _, h => h
  | x :: l, s, t, h => bare_all bold l _ _ (by rw [bare_join, bare_append, h])
theorem join_size (a b : ByteArray) (bold : Bool) : (joinP a b bold).size ≤ a.size + b.size + 1 := by
  have h := cutL_size b
  have hs : ∀ x y : ByteArray, (x ++ y).size = x.size + y.size := fun x y => by simp
  unfold joinP
  split
  · rw [hs]; omega
  · split
    · omega
    · split
      · rw [hs]; omega
      · rw [hs, hs]
        show a.size + 1 + _ ≤ _
        omega
theorem joinAll_size (bold : Bool) (m : Nat) : ∀ (l : List ByteArray) (s : ByteArray), (∀ x ∈ l, x.size ≤ m) → (joinAll bold s l).size ≤ s.size + l.length * (m + 1)
  | [], s, _ => by simp [joinAll]
  | x :: l, s, h => by
    have h1 := joinAll_size bold m l (joinP s x bold) (fun y hy => h y (List.mem_cons_of_mem _ hy))
    have h2 := join_size s x bold
    have h3 := h x (List.mem_cons_self ..)
    show (joinAll bold (joinP s x bold) l).size ≤ _
    rw [List.length_cons, Nat.add_mul, Nat.one_mul]
    omega
end Go.Proofs.YtoejfgmfdjoonaaGreatDoor
