/- wide: shifts. -/
import Derived.Test.YtjdelpelnjhidaaGreatDoorWideB
import Derived.Deep.QuietTactic
import Derived.OwnWalk
namespace Go.Proofs.YtjdelpelnjhidaaGreatDoor.Pl
open Go.RowKit
theorem drewN_below (w : World) (n : Nat) : Below w.heap.size w (w.drewN n) := ⟨rfl, rfl, rfl, Nat.le_refl _, fun _ _ => rfl⟩
theorem or_shl (a b n : Nat) (hn : n ≤ 64) (hb : b < 2 ^ n) : (a * 2 ^ n % 18446744073709551616) ||| b = a * 2 ^ n % 18446744073709551616 + b := by
  have h1 : a * 2 ^ n % 18446744073709551616 = (a % 2 ^ (64 - n)) <<< n := by
    rw [Nat.shiftLeft_eq, ← Nat.mul_mod_mul_right, ← Nat.pow_add, show 64 - n + n = 64 by omega]
  rw [h1, Nat.shiftLeft_add_eq_or_of_lt hb]
theorem shr_lt (b n : Nat) (hn : n ≤ 64) (hb : b < 18446744073709551616) : b / 2 ^ (64 - n) < 2 ^ n := by
  refine (Nat.div_lt_iff_lt_mul (Nat.two_pow_pos _)).2 ?_
  rw [← Nat.pow_add, show n + (64 - n) = 64 by omega]
  exact hb
set_option maxRecDepth 100000 in
theorem within_any (n : Nat) (w : World) (hn : n ≤ 128) : Calls Tryz.prog 138 #[.int .i64 n] w fun e w' => e = .returned (.int .i64 n) ∧ w = w' := by
  have h0 : ¬ (n : Int) < 0 := by omega
  have h1 : ¬ (128 : Int) < n := by omega
  go_enter Tryz.func138, Tryz.ntmps138
  go_wp2_with fail
  go_ret
  exact ⟨rfl, rfl⟩
set_option maxRecDepth 100000 in
theorem shlw_quiet (hi lo n : Nat) (w : World) (hl : lo < 18446744073709551616) (hn : n < 64) : Calls Tryz.prog 119 #[.int .u64 hi, .int .u64 lo, .int .i64 n] w fun e w' => e = .returned (.tuple #[.int .u64 (hi * 2 ^ n % 18446744073709551616 + lo / 2 ^ (64 - n) : Nat), .int .u64 (lo * 2 ^ n % 18446744073709551616 : Nat)]) ∧ ∃ m, w' = w.drewN m := by
  have HW := Lib.hid (within_any n w (by omega))
  have h0 : ¬ (64 : Int) ≤ (n : Int) := by omega
  have h1 : (n : Int) ≤ 64 := by omega
  have h2 : (0 : Int) ≤ (n : Int) := by omega
  have h3 : (0 : Int) ≤ 64 - (n : Int) := by omega
  have h4 : 64 - (n : Int) ≤ 64 := by omega
  have h5 : IntKind.i64.wrap (64 - (n : Int)) = 64 - (n : Int) := IntWalk.i64_in _ (by omega)
  go_enter Tryz.func119, Tryz.ntmps119
  go_wp2_with fail
  refine HW.out.mono ?_
  rintro e w' ⟨rfl, rfl⟩
  go_wp2_with fail
  go_quiet (fail)
  go_wp2_with fail
  go_ret2
  have e1 : IntKind.u64.wrap ((hi : Int) * 2 ^ n) = ((hi * 2 ^ n % 18446744073709551616 : Nat) : Int) := by rw [IntKind.wrap_u64, Int.natCast_emod, Int.natCast_mul, Int.natCast_pow]; rfl
  have e2 : IntKind.u64.wrap ((lo : Int) * 2 ^ n) = ((lo * 2 ^ n % 18446744073709551616 : Nat) : Int) := by rw [IntKind.wrap_u64, Int.natCast_emod, Int.natCast_mul, Int.natCast_pow]; rfl
  have e3 : (lo : Int) / 2 ^ (64 - n) = ((lo / 2 ^ (64 - n) : Nat) : Int) := by rw [Int.natCast_ediv, Int.natCast_pow]; rfl
  rw [e1, e2, e3, u64_or_nat _ _ (Nat.mod_lt _ (by decide)) (Nat.lt_of_le_of_lt (Nat.div_le_self _ _) hl), or_shl hi _ n (by omega) (shr_lt lo n (by omega) hl)]
  exact ⟨rfl, _, rfl⟩
theorem shlw_any (hi lo n : Nat) (w : World) (hl : lo < 18446744073709551616) (hn : n < 64) : Calls Tryz.prog 119 #[.int .u64 hi, .int .u64 lo, .int .i64 n] w fun e w' => e = .returned (.tuple #[.int .u64 (hi * 2 ^ n % 18446744073709551616 + lo / 2 ^ (64 - n) : Nat), .int .u64 (lo * 2 ^ n % 18446744073709551616 : Nat)]) ∧ Below w.heap.size w w' :=
  (shlw_quiet hi lo n w hl hn).mono fun _ _ ⟨h, m, hm⟩ => ⟨h, by rw [hm]; exact drewN_below _ _⟩
theorem shl_low (b n : Nat) (hn : n ≤ 64) (hb : b < 18446744073709551616) : b / 2 ^ n < 2 ^ (64 - n) := by
  refine (Nat.div_lt_iff_lt_mul (Nat.two_pow_pos _)).2 ?_
  rw [← Nat.pow_add, show 64 - n + n = 64 by omega]
  exact hb
theorem or_shr (a b n : Nat) (hn : n ≤ 64) (hb : b < 18446744073709551616) : (b / 2 ^ n) ||| (a * 2 ^ (64 - n) % 18446744073709551616) = b / 2 ^ n + a * 2 ^ (64 - n) % 18446744073709551616 := by
  rw [Nat.or_comm, or_shl a _ (64 - n) (by omega) (shl_low b n hn hb), Nat.add_comm]
set_option maxRecDepth 100000 in
theorem shrw_quiet (hi lo n : Nat) (w : World) (hl : lo < 18446744073709551616) (hn : n < 64) : Calls Tryz.prog 146 #[.int .u64 hi, .int .u64 lo, .int .i64 n] w fun e w' => (∃ lost, e = .returned (.tuple #[.int .u64 (hi / 2 ^ n : Nat), .int .u64 (lo / 2 ^ n + hi * 2 ^ (64 - n) % 18446744073709551616 : Nat), .bool lost]) ∧ (lost = true ↔ lo * 2 ^ (64 - n) % 18446744073709551616 ≠ 0)) ∧ ∃ m, w' = w.drewN m := by
  have HW := Lib.hid (within_any n w (by omega))
  have h0 : ¬ (64 : Int) ≤ (n : Int) := by omega
  have h1 : (n : Int) ≤ 64 := by omega
  have h2 : (0 : Int) ≤ (n : Int) := by omega
  have h3 : (0 : Int) ≤ 64 - (n : Int) := by omega
  have h4 : 64 - (n : Int) ≤ 64 := by omega
  have h5 : IntKind.i64.wrap (64 - (n : Int)) = 64 - (n : Int) := IntWalk.i64_in _ (by omega)
  go_enter Tryz.func146, Tryz.ntmps146
  go_wp2_with fail
  refine HW.out.mono ?_
  rintro e w' ⟨rfl, rfl⟩
  go_wp2_with fail
  go_quiet (fail)
  go_wp2_with fail
  have e1 : IntKind.u64.wrap ((hi : Int) * 2 ^ (64 - n)) = ((hi * 2 ^ (64 - n) % 18446744073709551616 : Nat) : Int) := by rw [IntKind.wrap_u64, Int.natCast_emod, Int.natCast_mul, Int.natCast_pow]; rfl
  have e2 : IntKind.u64.wrap ((lo : Int) * 2 ^ (64 - n)) = ((lo * 2 ^ (64 - n) % 18446744073709551616 : Nat) : Int) := by rw [IntKind.wrap_u64, Int.natCast_emod, Int.natCast_mul, Int.natCast_pow]; rfl
  have e3 : (lo : Int) / 2 ^ n = ((lo / 2 ^ n : Nat) : Int) := by rw [Int.natCast_ediv, Int.natCast_pow]; rfl
  have e4 : (hi : Int) / 2 ^ n = ((hi / 2 ^ n : Nat) : Int) := by rw [Int.natCast_ediv, Int.natCast_pow]; rfl
  go_ret3
  rw [e1, e2, e3, e4, u64_or_nat _ _ (Nat.lt_of_le_of_lt (Nat.div_le_self _ _) hl) (Nat.mod_lt _ (by decide)), or_shr hi lo n (by omega) hl]
  refine ⟨⟨_, rfl, ?_⟩, _, rfl⟩
  generalize lo * 2 ^ (64 - n) % 18446744073709551616 = z
  rw [bne_iff_ne]
  omega
end Go.Proofs.YtjdelpelnjhidaaGreatDoor.Pl
