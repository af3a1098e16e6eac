/- the statements' own small functions: finite, alive; f64.Neg. -/
import Derived.Test.YtjdelpelnjhidaaGreatDoorFtoJ
namespace Go.Proofs.YtjdelpelnjhidaaGreatDoor.Pl
open Go.RowKit
theorem xor63 (b : Nat) (hb : b < 18446744073709551616) : bits .xor .u64 (b : Int) 9223372036854775808 = ((if 9223372036854775808 ≤ b then b - 9223372036854775808 else b + 9223372036854775808 : Nat) : Int) := by
  have h1 : (BitVec.ofInt 64 (b : Int)).toNat = b := by
    rw [BitVec.ofInt_natCast, BitVec.toNat_ofNat]; exact Nat.mod_eq_of_lt hb
  have h2 : (BitVec.ofInt 64 (9223372036854775808 : Int)).toNat = 9223372036854775808 := by decide
  show IntKind.u64.wrap ((BitVec.ofInt 64 (b : Int) ^^^ BitVec.ofInt 64 (9223372036854775808 : Int)).toNat : Int) = _
  rw [BitVec.toNat_xor, h1, h2]
  have e1 : (b ^^^ 9223372036854775808) % 2 ^ 63 = b % 2 ^ 63 := by rw [Nat.xor_mod_two_pow]; simp
  have e2 : (b ^^^ 9223372036854775808) / 2 ^ 63 = (b / 2 ^ 63) ^^^ 1 := by rw [Nat.xor_div_two_pow]
  have hp : (2 : Nat) ^ 63 = 9223372036854775808 := by decide
  rw [hp] at e1 e2
  have h3 : b / 9223372036854775808 = 0 ∨ b / 9223372036854775808 = 1 := by omega
  generalize b ^^^ 9223372036854775808 = z at *
  have e3 : z / 9223372036854775808 = 1 - b / 9223372036854775808 := by
    rcases h3 with h3 | h3 <;> rw [e2, h3] <;> rfl
  clear e2
  simp only [IntKind.wrap_u64]
  split <;> omega
theorem clear52 (b : Nat) (hb : b < 18446744073709551616) (h : b / 4503599627370496 % 2048 = 2047) : bits .andNot .u64 (b : Int) 4503599627370496 = ((b - 4503599627370496 : Nat) : Int) := by
  have h1 : (BitVec.ofInt 64 (b : Int)).toNat = b := by
    rw [BitVec.ofInt_natCast, BitVec.toNat_ofNat]; exact Nat.mod_eq_of_lt hb
  have h2 : (BitVec.ofInt 64 (4503599627370496 : Int)).toNat = 4503599627370496 := by decide
  show IntKind.u64.wrap ((BitVec.ofInt 64 (b : Int) &&& ~~~ BitVec.ofInt 64 (4503599627370496 : Int)).toNat : Int) = _
  rw [BitVec.toNat_and, BitVec.toNat_not, h1, h2, show 2 ^ 64 - 1 - 4503599627370496 = 18442240474082181119 by decide]
  have e1 : (b &&& 18442240474082181119) % 2 ^ 52 = b % 2 ^ 52 := by
    rw [Nat.and_mod_two_pow, show 18442240474082181119 % 2 ^ 52 = 2 ^ 52 - 1 by decide, Nat.and_two_pow_sub_one_eq_mod, Nat.mod_mod]
  have e2 : (b &&& 18442240474082181119) / 2 ^ 53 = b / 2 ^ 53 := by
    rw [Nat.and_div_two_pow, show 18442240474082181119 / 2 ^ 53 = 2 ^ 11 - 1 by decide, Nat.and_two_pow_sub_one_eq_mod]
    exact Nat.mod_eq_of_lt (by omega)
  have e3 : (b &&& 18442240474082181119) / 2 ^ 52 % 2 ^ 1 = 0 := by
    rw [Nat.and_div_two_pow, Nat.and_mod_two_pow, show 18442240474082181119 / 2 ^ 52 % 2 ^ 1 = 0 by decide, Nat.and_zero]
  have p1 : (2 : Nat) ^ 52 = 4503599627370496 := by decide
  have p2 : (2 : Nat) ^ 53 = 9007199254740992 := by decide
  rw [p1] at e1 e3
  rw [p2] at e2
  rw [Nat.pow_one] at e3
  generalize b &&& 18442240474082181119 = z at *
  simp only [IntKind.wrap_u64]
  omega
/-- a pattern made finite -/
def finB (b : Nat) : Nat := if b / 4503599627370496 % 2048 = 2047 then b - 4503599627370496 else b
theorem finB_lt {b : Nat} (hb : b < 18446744073709551616) : finB b < 18446744073709551616 := by unfold finB; split <;> omega
theorem finB_fin (b : Nat) : finP (finB b) := by
  unfold finB finP
  split <;> omega
def negB (b : Nat) : Nat := if 9223372036854775808 ≤ b then b - 9223372036854775808 else b + 9223372036854775808
theorem neg_any (b : Nat) (w : World) (hb : b < 18446744073709551616) : Calls Tryz.prog 12 #[.int .u64 b] w fun e w' => e = .returned (.int .u64 (negB b)) ∧ w' = w := by
  have h := xor63 b hb
  have hn : negB b = (if 9223372036854775808 ≤ b then b - 9223372036854775808 else b + 9223372036854775808) := rfl
  rw [← hn] at h
  clear hn
  go_enter Tryz.func12, Tryz.ntmps12
  go_wp2_with fail
  go_ret
  exact ⟨rfl, rfl⟩
theorem finite_any (b : Nat) (w : World) (hb : b < 18446744073709551616) : Calls Tryz.prog 7 #[.int .u64 b] w fun e w' => e = .returned (.int .u64 (finB b)) ∧ w' = w := by
  have h1 := u64_low11 ((b : Int) / 4503599627370496) (by omega) (by omega)
  by_cases h : b / 4503599627370496 % 2048 = 2047
  · have h2 := clear52 b hb h
    have hn : finB b = b - 4503599627370496 := by unfold finB; rw [if_pos h]
    rw [← hn] at h2
    obtain ⟨n, hn2⟩ : ∃ n, n = finB b := ⟨_, rfl⟩
    rw [← hn2] at h2 ⊢
    clear hn hn2
    have h3 : (b : Int) / 4503599627370496 % 2048 = 2047 := by omega
    go_enter Tryz.func7, Tryz.ntmps7
    go_wp2_with fail
    all_goals go_ret
    all_goals exact ⟨rfl, rfl⟩
  · have hn : finB b = b := by unfold finB; rw [if_neg h]
    rw [hn]
    clear hn
    have h3 : ¬ (b : Int) / 4503599627370496 % 2048 = 2047 := by omega
    go_enter Tryz.func7, Tryz.ntmps7
    go_wp2_with fail
    all_goals go_ret
    all_goals exact ⟨rfl, rfl⟩
theorem half_short : ShortR 4609434218613702656 15 (-1) := by
  refine ⟨0, 1, 0, ⟨of_decide_eq_true (by kernel_rfl), of_decide_eq_true (by kernel_rfl)⟩, by decide, of_decide_eq_true (by kernel_rfl), fun j hj => ?_, by kernel_rfl, by decide, by decide, by decide, by decide⟩
  obtain rfl : j = 0 := by omega
  kernel_rfl
theorem half_text : textT 13832806255468478464 1 = [45, 49, 46, 53] := by
  have h : TextR 4609434218613702656 1 (shortL (Lib.decDigits 15) ((Lib.decDigits 15).length + -1)) := .inl ⟨rfl, 15, -1, half_short, rfl⟩
  have h2 := h.text
  have h3 : (13832806255468478464 : Nat) % 9223372036854775808 = 4609434218613702656 := by decide
  unfold textT
  rw [h3, ← h2, if_pos (by decide), if_neg (by decide)]
  have h4 : Lib.decDigits 15 = [49, 53] := by rw [Lib.decDigits_two (by decide) (by decide)]; rfl
  rw [h4]
  rfl
theorem alive_ok (w : World) (hS : Std w) : Calls Tryz.prog 9 #[] w fun e w' => e = .returned (.bool true) ∧ Below w.heap.size w w' := by
  have ht := text_any 13832806255468478464 1 w (by decide) (by unfold finP; decide) (by decide) hS
  rw [half_text] at ht
  have HT := Lib.hid ht
  clear ht
  go_enter Tryz.func9, Tryz.ntmps9
  go_wp2_with (first
    | (go_at_call 8; refine HT.out.mono ?_; rintro e w2 ⟨⟨rfl, _⟩, hb2⟩)
    | fail)
  go_ret
  refine ⟨?_, hb2⟩
  show Ending.returned (Value.bool ((B [45, 49, 46, 53]).toList == [45, 49, 46, 53])) = _
  rw [B_list]
  rfl
end Go.Proofs.YtjdelpelnjhidaaGreatDoor.Pl
