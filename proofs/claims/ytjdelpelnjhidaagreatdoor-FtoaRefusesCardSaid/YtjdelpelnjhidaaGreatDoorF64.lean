/- f64.Class, walked: by exponent and fraction. The pattern has at most 64 bits. -/
import Derived.Test.YtjdelpelnjhidaaGreatDoorProg
import Derived.Test.YtjdelpelnjhidaaGreatDoorMem
import Derived.Deep.QuietTactic
import Derived.BigQuiet
import Derived.Laws.BitsLemmas
namespace Go.Proofs.YtjdelpelnjhidaaGreatDoor.Pl
open Go.RowKit

def cls (b : Nat) : Int :=
  if b / 4503599627370496 % 2048 = 0 then (if b % 4503599627370496 = 0 then 0 else 1)
  else if b / 4503599627370496 % 2048 < 2047 then 2 else if b % 4503599627370496 = 0 then 3 else 4

theorem wraps_u64 (n : Int) (h0 : 0 ≤ n) (h1 : n < 2 ^ 64) : IntKind.u64.wrap n = n := by
  simp only [IntKind.wrap, IntKind.bits, IntKind.signed] at *
  simp
  omega
theorem u64_low (k : Nat) (x : Int) (hk : k ≤ 64) (h0 : 0 ≤ x) (h1 : x < 18446744073709551616) : bits .and .u64 x ((2 : Int) ^ k - 1) = x % 2 ^ k := bits_mask .u64 64 (by decide) wraps_u64 k hk x h0 h1
theorem u64_low11 (x : Int) (h0 : 0 ≤ x) (h1 : x < 18446744073709551616) : bits .and .u64 x 2047 = x % 2048 := u64_low 11 x (by decide) h0 h1
theorem u64_low52 (x : Int) (h0 : 0 ≤ x) (h1 : x < 18446744073709551616) : bits .and .u64 x 4503599627370495 = x % 4503599627370496 := u64_low 52 x (by decide) h0 h1

theorem fields_any (b : Nat) (w : World) (hb : b < 18446744073709551616) :
    Calls Tryz.prog 33 #[.int .u64 b] w fun e w' => e = .returned (.tuple #[.int .i64 (b / 4503599627370496 % 2048 : Nat), .int .u64 (b % 4503599627370496 : Nat)]) ∧ w = w' := by
  have h1 := u64_low11 ((b : Int) / 4503599627370496) (by omega) (by omega)
  have h2 := u64_low52 (b : Int) (by omega) (by omega)
  have h3 : wrap64 ((b : Int) / 4503599627370496 % 2048) = (b / 4503599627370496 % 2048 : Nat) := by unfold wrap64; omega
  have H1 := Lib.hid h1
  have H2 := Lib.hid h2
  have H3 := Lib.hid h3
  clear h1 h2 h3
  go_enter Tryz.func33, Tryz.ntmps33
  go_wp2
  go_ret2
  refine ⟨?_, rfl⟩
  simp only [Array.getD, H1.out, H2.out, H3.out]
  rfl

set_option maxRecDepth 100000 in
theorem cls_any (b : Nat) (w : World) (hb : b < 18446744073709551616) :
    Calls Tryz.prog 21 #[.int .u64 b] w fun e w' => e = .returned (.int .i64 (cls b)) ∧ w = w' := by
  have hf := fields_any b
  unfold cls
  generalize b / 4503599627370496 % 2048 = e at hf ⊢
  generalize b % 4503599627370496 = f at hf ⊢
  have H := Lib.hid hf
  clear hf
  rcases Nat.eq_zero_or_pos e with rfl | he <;> rcases Nat.eq_zero_or_pos f with rfl | hf
  · go_enter Tryz.func21, Tryz.ntmps21
    go_wp2_with (go_at_call 33; refine (H.out _ hb).mono ?_; rintro e w1 ⟨rfl, rfl⟩)
    go_ret
    exact ⟨rfl, rfl⟩
  · have h1 : ((f : Int) == 0) = false := beq_eq_false_iff_ne.2 (by omega)
    have h2 : ¬ f = 0 := by omega
    go_enter Tryz.func21, Tryz.ntmps21
    go_wp2_with (go_at_call 33; refine (H.out _ hb).mono ?_; rintro e w1 ⟨rfl, rfl⟩)
    go_ret
    exact ⟨by first | rfl | simp | simp [h2], rfl⟩
  · have h1 : ((e : Int) == 0) = false := beq_eq_false_iff_ne.2 (by omega)
    have h2 : ¬ e = 0 := by omega
    by_cases h3 : e < 2047
    all_goals
      go_enter Tryz.func21, Tryz.ntmps21
      go_wp2_with (go_at_call 33; refine (H.out _ hb).mono ?_; rintro e w1 ⟨rfl, rfl⟩)
      go_ret
      exact ⟨by first | rfl | simp | simp [h2], rfl⟩
  · have h1 : ((e : Int) == 0) = false := beq_eq_false_iff_ne.2 (by omega)
    have h2 : ¬ e = 0 := by omega
    have h4 : ((f : Int) == 0) = false := beq_eq_false_iff_ne.2 (by omega)
    have h5 : ¬ f = 0 := by omega
    by_cases h3 : e < 2047
    all_goals
      go_enter Tryz.func21, Tryz.ntmps21
      go_wp2_with (go_at_call 33; refine (H.out _ hb).mono ?_; rintro e w1 ⟨rfl, rfl⟩)
      go_ret
      exact ⟨by first | rfl | simp | simp [h2], rfl⟩

theorem cls_nonneg (b : Nat) : 0 ≤ cls b ∧ cls b ≤ 4 := by unfold cls; repeat' split <;> omega
end Go.Proofs.YtjdelpelnjhidaaGreatDoor.Pl
