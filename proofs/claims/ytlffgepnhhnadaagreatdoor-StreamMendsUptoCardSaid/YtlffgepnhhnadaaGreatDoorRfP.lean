/- Plain laws for the document's answers: a number's bytes from the other end, the sum bit by bit. No conditions; nothing of the program. -/
import Derived.Test.YtlffgepnhhnadaaGreatDoorSum
namespace Go.Proofs.YtlffgepnhhnadaaGreatDoor.Pl
open Go.RowKit

theorem decL_next {l : List UInt8} {k i : Nat} (hk : k < l.length) : decB ((l.drop k).take (i + 1)) true = (l[k]).toNat + 256 * decB ((l.drop (k + 1)).take i) true := by
  rw [List.drop_eq_getElem_cons hk, List.take_succ_cons]; simp [decB]
theorem decB_nil (lt : Bool) : decB [] lt = 0 := by cases lt <;> rfl

theorem xor_back (a b : Nat) : (a ^^^ b) ^^^ b = a := by rw [Nat.xor_assoc, Nat.xor_self, Nat.xor_zero]
theorem xor_half (a b : Nat) : (a ^^^ b) / 2 = a / 2 ^^^ b / 2 := by
  apply Nat.eq_of_testBit_eq
  intro i
  simp [Nat.testBit_xor, Nat.testBit_div_two]
theorem xor_odd (a b : Nat) : (a ^^^ b) % 2 = 1 ↔ a % 2 ≠ b % 2 := by
  have h := Nat.testBit_xor a b 0
  simp only [Nat.testBit_zero] at h
  have ha : a % 2 = 0 ∨ a % 2 = 1 := by omega
  have hb : b % 2 = 0 ∨ b % 2 = 1 := by omega
  rcases ha with ha | ha <;> rcases hb with hb | hb <;> simp [ha, hb] at h ⊢ <;> omega
/-- the sum's step as the document has it -/
theorem ref_bit (r v : Nat) : (if r % 2 ≠ v % 2 then (r / 2) ^^^ 3988292384 else r / 2) = crcBit (r ^^^ v) ^^^ (v / 2) := by
  unfold crcBit
  by_cases h : r % 2 = v % 2
  · rw [if_neg (by simp [h]), if_neg (by rw [xor_odd]; simp [h]), Nat.xor_zero, xor_half, xor_back]
  · rw [if_pos h, if_pos ((xor_odd r v).2 h), xor_half]
    rw [Nat.xor_assoc, Nat.xor_assoc, Nat.xor_comm (v / 2), Nat.xor_assoc, Nat.xor_self, Nat.xor_zero]
/-- the sum behind k bits of a byte, as the document has it: y is the sum ahead of the byte, taken with the byte -/
def refS (k y c : Nat) : Nat := crcBits k y ^^^ (c / 2 ^ k)
theorem refS_zero (x c : Nat) : refS 0 (x ^^^ c) c = x := by simp [refS, crcBits, xor_back]
theorem refS_next (k y c : Nat) : (if refS k y c % 2 ≠ (c / 2 ^ k) % 2 then (refS k y c / 2) ^^^ 3988292384 else refS k y c / 2) = refS (k + 1) y c := by
  rw [ref_bit]
  unfold refS
  rw [xor_back, crcBits_snoc, Nat.pow_succ, ← Nat.div_div_eq_div_mul]
theorem refS_end {y c : Nat} (hc : c < 256) : refS 8 y c = crcBits 8 y := by
  unfold refS; rw [show c / 2 ^ 8 = 0 by omega, Nat.xor_zero]
theorem refS_lt {k y c : Nat} (hy : y < 4294967296) (hc : c < 256) : refS k y c < 4294967296 :=
  Nat.xor_lt_two_pow (n := 32) (crcBits_lt k y hy) (Nat.lt_of_le_of_lt (Nat.div_le_self _ _) (by omega))
end Go.Proofs.YtlffgepnhhnadaaGreatDoor.Pl
