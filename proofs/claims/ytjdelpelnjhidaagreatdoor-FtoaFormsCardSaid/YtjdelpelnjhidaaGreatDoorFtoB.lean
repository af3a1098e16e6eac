/- ftoa: texts as lists of bytes; laid, walked. -/
import Derived.Test.YtjdelpelnjhidaaGreatDoorRyuC
import Derived.Test.YtjdelpelnjhidaaGreatDoorShelf
import Derived.Lib.IndexBytes
import Derived.Lib.PathFns
import Derived.WalkKit
import Derived.Deep.QuietTactic
import Derived.BigQuiet
import Derived.Lib.Hide
namespace Go.Proofs.YtjdelpelnjhidaaGreatDoor.Pl
open Go.RowKit
def B (l : List UInt8) : ByteArray := ⟨l.toArray⟩

theorem B_data (s : ByteArray) : B s.data.toList = s := by simp [B]
theorem B_inj {l m : List UInt8} (h : B l = B m) : l = m := by
  have := congrArg (fun s : ByteArray => s.data.toList) h
  simpa [B] using this
theorem B_size (l : List UInt8) : (B l).size = l.length := by simp [B, ByteArray.size]
theorem B_list (l : List UInt8) : (B l).toList = l := by rw [Lib.toList_data]; simp [B]
theorem B_list_nil (l : List UInt8) : ((B l).toList = ([] : List UInt8)) = (l = []) := by rw [B_list]
theorem B_drop (l : List UInt8) (a : Nat) : (B l).extract a (B l).size = B (l.drop a) := by
  have h := Lib.extract_to_end (B l) a
  rw [← B_data ((B l).extract a (B l).size), h]; simp [B]
theorem B_take (l : List UInt8) (a : Nat) : (B l).extract 0 a = B (l.take a) := by
  have h := Go.Lib.Pa.extract_upto_list (B l) a
  rw [← B_data ((B l).extract 0 a), h]; simp [B]
/-- the program's 'laid' -/
def laidL (s : List UInt8) (point : Int) : List UInt8 :=
  if point ≤ 0 then [48, 46] ++ List.replicate (-point).toNat 48 ++ s
  else if point ≥ s.length then s ++ List.replicate (point - s.length).toNat 48
  else s.take point.toNat ++ [46] ++ s.drop point.toNat

theorem rep48 (c : Nat) : (⟨(Lib.repeatL (⟨#[48]⟩ : ByteArray).data.toList c).toArray⟩ : ByteArray) = B (List.replicate c 48) := by
  have h : Lib.repeatL [48] c = List.replicate c 48 := by
    induction c with
    | zero => rfl
    | succ c ih => rw [List.replicate_succ, ← ih]; rfl
  unfold B
  rw [← h]

theorem B_add (l m : List UInt8) : B l ++ B m = B (l ++ m) := by
  rw [← B_data (B l ++ B m)]
  rw [show (B l ++ B m).data.toList = l ++ m from by simp [B]]

theorem B_cons (c : UInt8) : (⟨#[c]⟩ : ByteArray) = B [c] := rfl

theorem laid_le (l : List UInt8) (c : Nat) (w : World) (hl : l.length ≤ 2000) (hc : c ≤ 4000) :
    Calls Tryz.prog 31 #[.string (B l), .int .i64 (-(c : Int))] w fun e w' => e = .returned (.string (B (laidL l (-(c : Int))))) ∧ Below w.heap.size w w' := by
  have h1 : (-(c : Int)) ≤ 0 := by omega
  have hfin : B [48, 46] ++ B (List.replicate c 48) ++ B l = B (laidL l (-(c : Int))) := by
    unfold laidL
    rw [if_pos h1, B_add, B_add, show (- -(c : Int)).toNat = c from by omega]
  have HF := Lib.hid hfin
  clear hfin
  have b1 : (B l).size ≤ 2000 := by rw [B_size]; omega
  have b2 : (B (List.replicate c 48)).size ≤ 4000 := by rw [B_size]; simpa using hc
  have hr := Tryz.strings_Repeat ⟨#[48]⟩ c
  rw [rep48] at hr
  have HR := Lib.hid hr
  clear hr
  go_enter Tryz.func31, Tryz.ntmps31
  go_wp2_with fail
  refine (HR.out w (by omega) (by show 1 * c ≤ _; omega)).mono ?_
  rintro e w1 ⟨rfl, hb⟩
  go_wp2_with fail
  go_ret
  exact ⟨congrArg (fun s => Ending.returned (Value.string s)) HF.out, hb⟩

theorem laid_ge (l : List UInt8) (c : Nat) (w : World) (hl : l.length ≤ 2000) (hc : c ≤ 4000) (h0 : 0 < l.length + c) :
    Calls Tryz.prog 31 #[.string (B l), .int .i64 ((l.length : Int) + c)] w fun e w' => e = .returned (.string (B (laidL l ((l.length : Int) + c)))) ∧ Below w.heap.size w w' := by
  have hsz := B_size l
  have HS := Lib.hid hsz
  clear hsz
  have h1 : ¬ ((l.length : Int) + c ≤ 0) := by omega
  have h2 : ((l.length : Int) + c ≥ (B l).size) := by rw [HS.out]; omega
  have hfin : B l ++ B (List.replicate c 48) = B (laidL l ((l.length : Int) + c)) := by
    unfold laidL
    rw [if_neg h1, if_pos (by omega), B_add, show ((l.length : Int) + c - l.length).toNat = c from by omega]
  have HF := Lib.hid hfin
  clear hfin
  have b1 : (B l).size ≤ 2000 := by rw [B_size]; omega
  have b2 : (B (List.replicate c 48)).size ≤ 4000 := by rw [B_size]; simpa using hc
  have hr := Tryz.strings_Repeat ⟨#[48]⟩ c
  rw [rep48] at hr
  have HR := Lib.hid hr
  clear hr
  go_enter Tryz.func31, Tryz.ntmps31
  go_wp2_with fail
  rw [show ((l.length : Int) + c - (B l).size) = (c : Int) from by rw [HS.out]; omega]
  refine (HR.out w (by omega) (by show 1 * c ≤ _; omega)).mono ?_
  rintro e w1 ⟨rfl, hb⟩
  go_wp2_with fail
  go_ret
  exact ⟨congrArg (fun s => Ending.returned (Value.string s)) HF.out, hb⟩

theorem laid_in (l : List UInt8) (k : Nat) (w : World) (hl : l.length ≤ 2000) (h0 : 0 < k) (hk : k < l.length) :
    Calls Tryz.prog 31 #[.string (B l), .int .i64 (k : Int)] w fun e w' => e = .returned (.string (B (laidL l k))) ∧ Below w.heap.size w w' := by
  have hsz := B_size l
  have HS := Lib.hid hsz
  clear hsz
  have h1 : ¬ ((k : Int) ≤ 0) := by omega
  have h2 : ¬ ((k : Int) ≥ (B l).size) := by rw [HS.out]; omega
  have h3 : k ≤ (B l).size := by rw [HS.out]; omega
  have h4 : (k : Int) ≤ (B l).size := by rw [HS.out]; omega
  have b1 : (B l).size ≤ 2000 := by rw [B_size]; omega
  have hfin : (B l).extract 0 k ++ B [46] ++ (B l).extract k (B l).size = B (laidL l k) := by
    unfold laidL
    rw [if_neg h1, if_neg (by omega), B_take, B_drop, B_add, B_add, Int.toNat_natCast]
  have HF := Lib.hid hfin
  clear hfin
  go_enter Tryz.func31, Tryz.ntmps31
  go_wp2
  go_quiet (fail)
  go_wp2
  go_ret
  exact ⟨congrArg (fun s => Ending.returned (Value.string s)) HF.out, drewN_below _ _⟩

theorem laid_any (l : List UInt8) (p : Int) (w : World) (hl : l.length ≤ 2000) (hp : -4000 ≤ p ∧ p ≤ 4000) (h0 : l ≠ []) :
    Calls Tryz.prog 31 #[.string (B l), .int .i64 p] w fun e w' => e = .returned (.string (B (laidL l p))) ∧ Below w.heap.size w w' := by
  have hl0 : 0 < l.length := List.length_pos_iff.2 h0
  by_cases h1 : p ≤ 0
  · obtain ⟨c, hc⟩ := Int.eq_ofNat_of_zero_le (by omega : 0 ≤ -p)
    obtain rfl : p = -(c : Int) := by omega
    exact laid_le l c w hl (by omega)
  · by_cases h2 : p ≥ l.length
    · obtain ⟨c, hc⟩ := Int.eq_ofNat_of_zero_le (by omega : 0 ≤ p - l.length)
      obtain rfl : p = (l.length : Int) + c := by omega
      exact laid_ge l c w hl (by omega) (by omega)
    · obtain ⟨c, rfl⟩ := Int.eq_ofNat_of_zero_le (by omega : 0 ≤ p)
      exact laid_in l c w hl (by omega) (by omega)

end Go.Proofs.YtjdelpelnjhidaaGreatDoor.Pl
