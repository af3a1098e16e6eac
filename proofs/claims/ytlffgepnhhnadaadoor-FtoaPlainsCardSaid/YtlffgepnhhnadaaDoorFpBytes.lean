/- Bytes as lists, for the printed functions: what 'bt', 'extract', 'size' and 'toList' give on '⟨l.toArray⟩'. No conditions. -/
import Derived.Test.YtlffgepnhhnadaaDoorPFtoaPlainsx2
import Derived.Lib.IndexBytes
import Derived.Lib.PathFns
namespace Go.Proofs.YtlffgepnhhnadaaDoor.Fp
open Go.RowKit Go.Proofs.YtlffgepnhhnadaaDoorW.PrintWords Go.Proofs.YtlffgepnhhnadaaDoorW.PrintLast Go.Proofs.YtlffgepnhhnadaaDoorW.PrintMore

def B (l : List UInt8) : ByteArray := ⟨l.toArray⟩

theorem B_data (s : ByteArray) : B s.data.toList = s := by simp [B]
theorem B_inj {l m : List UInt8} (h : B l = B m) : l = m := by
  have := congrArg (fun s : ByteArray => s.data.toList) h
  simpa [B] using this
theorem B_size (l : List UInt8) : (B l).size = l.length := by simp [B, ByteArray.size]
theorem B_list (l : List UInt8) : (B l).toList = l := by rw [Lib.toList_data]; simp [B]
theorem B_list_nil (l : List UInt8) : ((B l).toList = ([] : List UInt8)) = (l = []) := by rw [B_list]
theorem B_bt (l : List UInt8) (i : Nat) (h : i < l.length) : bt (B l) i = (l[i].toNat : Int) := by
  unfold bt
  have h' : (i : Int).toNat < (B l).size := by rw [B_size]; simpa using h
  rw [dif_pos h']
  simp [B]
  rfl
theorem B_drop (l : List UInt8) (a : Nat) : (B l).extract a (B l).size = B (l.drop a) := by
  have h := Lib.extract_to_end (B l) a
  rw [← B_data ((B l).extract a (B l).size), h]; simp [B]
theorem B_take (l : List UInt8) (a : Nat) : (B l).extract 0 a = B (l.take a) := by
  have h := Go.Lib.Pa.extract_upto_list (B l) a
  rw [← B_data ((B l).extract 0 a), h]; simp [B]
theorem w64 {x : Int} (h : -9223372036854775808 ≤ x) (h' : x ≤ 9223372036854775807) : wrap64 x = x := by unfold wrap64; omega
end Go.Proofs.YtlffgepnhhnadaaDoor.Fp
