/- small plain laws: numbers, bytes, texts. -/
import Derived.Test.YtccalibapiiifaaTknown
namespace Go.Proofs.Ytccalibapiiifaa.T
open Go.RowKit Go.Proofs.YtccalibapiiifaaW.PrintWords Go.Proofs.YtccalibapiiifaaW.PrintLast Go.Proofs.YtccalibapiiifaaW.PrintMore

theorem w64 {x : Int} (h0 : -9223372036854775808 ≤ x) (h1 : x ≤ 9223372036854775807) : wrap64 x = x := by unfold wrap64; omega

theorem bt_nat (s : ByteArray) (i : Nat) (h : i < s.size) : bt s (i : Int) = (s[i].toNat : Int) := by
  have := bt_at s (i : Int) (by simpa using h)
  simpa using this.symm

theorem ba_ext {a b : ByteArray} (h : a.data.toList = b.data.toList) : a = b := by
  cases a; cases b
  simp at h
  simp [h]

theorem ba_append (a b : ByteArray) : (a ++ b).data.toList = a.data.toList ++ b.data.toList := by simp

theorem extract_one (s : ByteArray) (i : Nat) (h : i < s.size) : (s.extract i (i + 1)).data.toList = [s[i]] := by
  have h' : i < s.data.toList.length := by simpa using h
  have : (s.extract i (i + 1)).data.toList = (s.data.toList.take (i + 1)).drop i := by simp [ByteArray.data_extract, List.extract_eq_take_drop, List.drop_take]
  rw [this, List.drop_take]
  have h2 : List.drop i s.data.toList = s[i] :: List.drop (i + 1) s.data.toList := drop_at s i h
  rw [h2]
  simp

theorem ofNat_toNat (c : UInt8) : UInt8.ofNat ((c.toNat : Int).toNat) = c := by simp

end Go.Proofs.Ytccalibapiiifaa.T
