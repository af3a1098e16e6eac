/- wide: sums, differences. -/
import Derived.Test.YtjdelpelnjhidaaGreatDoorWide
namespace Go.Proofs.YtjdelpelnjhidaaGreatDoor.Pl
open Go.RowKit
theorem ret_uu {x y : Int} {s t : Nat} (hx : x = s) (hy : y = t) : Ending.returned (.tuple #[.int .u64 x, .int .u64 y]) = .returned (.tuple #[.int .u64 (s : Int), .int .u64 (t : Int)]) := by rw [hx, hy]
set_option maxRecDepth 100000 in
theorem addw_any (a b c : Nat) (w : World) (ha : a < 18446744073709551616) (hb : b < 18446744073709551616) (hc : c ≤ 1) : Calls Tryz.prog 132 #[.int .u64 a, .int .u64 b, .int .u64 c] w fun e w' => ∃ s co : Nat, e = .returned (.tuple #[.int .u64 s, .int .u64 co]) ∧ s + 18446744073709551616 * co = a + b + c ∧ s < 18446744073709551616 ∧ co ≤ 1 ∧ w = w' := by
  have hand : bits .and .u64 (c : Int) 1 = (c : Int) := by
    rcases (by omega : c = 0 ∨ c = 1) with rfl | rfl <;> rfl
  go_enter Tryz.func132, Tryz.ntmps132
  go_wp2_with fail
  all_goals
    go_ret2
    simp only [IntKind.wrap_u64] at *
    exact ⟨(a + b + c) % 18446744073709551616, (a + b + c) / 18446744073709551616, ret_uu (by omega) (by omega), by omega, by omega, by omega, by trivial⟩
set_option maxRecDepth 100000 in
theorem subw_any (a b c : Nat) (w : World) (ha : a < 18446744073709551616) (hb : b < 18446744073709551616) (hc : c ≤ 1) : Calls Tryz.prog 145 #[.int .u64 a, .int .u64 b, .int .u64 c] w fun e w' => ∃ d br : Nat, e = .returned (.tuple #[.int .u64 d, .int .u64 br]) ∧ d + b + c = a + 18446744073709551616 * br ∧ d < 18446744073709551616 ∧ br ≤ 1 ∧ w = w' := by
  have hand : bits .and .u64 (c : Int) 1 = (c : Int) := by
    rcases (by omega : c = 0 ∨ c = 1) with rfl | rfl <;> rfl
  go_enter Tryz.func145, Tryz.ntmps145
  go_wp2_with fail
  all_goals
    go_ret2
    simp only [IntKind.wrap_u64, beq_iff_eq, beq_eq_false_iff_ne, ne_eq] at *
    by_cases h : a < b + c
    · exact ⟨a + 18446744073709551616 - b - c, 1, ret_uu (by omega) (by omega), by omega, by omega, by omega, by trivial⟩
    · exact ⟨a - b - c, 0, ret_uu (by omega) (by omega), by omega, by omega, by omega, by trivial⟩
def cmpN (a b : Nat) : Int := if a < b then -1 else if a = b then 0 else 1
set_option maxRecDepth 100000 in
theorem cmpw_any (a b : Nat) (w : World) : Calls Tryz.prog 121 #[.int .u64 0, .int .u64 a, .int .u64 0, .int .u64 b] w fun e w' => e = .returned (.int .i64 (cmpN a b)) ∧ w = w' := by
  go_enter Tryz.func121, Tryz.ntmps121
  rcases Nat.lt_trichotomy a b with h | h | h
  · have h1 : (a : Int) < b := by omega
    go_wp2_with fail
    go_ret
    exact ⟨by rw [show cmpN a b = -1 by unfold cmpN; rw [if_pos h]]; rfl, rfl⟩
  · subst h
    go_wp2_with fail
    go_ret
    exact ⟨by unfold cmpN; simp, rfl⟩
  · have h1 : ¬ (a : Int) < b := by omega
    have h2 : ¬ (a : Int) = b := by omega
    go_wp2_with fail
    go_ret
    exact ⟨by rw [show cmpN a b = 1 by unfold cmpN; rw [if_neg (by omega), if_neg (by omega)]]; rfl, rfl⟩
end Go.Proofs.YtjdelpelnjhidaaGreatDoor.Pl
