/- radix: powers of five and ten; how many digits a number has. -/
import Derived.Test.YtjdelpelnjhidaaGreatDoorByt
import Derived.Deep.DeepMust
namespace Go.Proofs.YtjdelpelnjhidaaGreatDoor.Pl
open Go.RowKit
theorem ones_wx (w : World) (x : Nat) (hx : x < 18446744073709551616) : Wx (w.alloc (.cells (([x].map uv).toArray) 22 (0, 0))) (.slice (some ⟨w.heap.size, 0, none⟩) 1 1) [x] :=
  (Ar.new w 22 [x]).wx0 (fun y hy => by simp at hy; omega) rfl (by simp)
theorem val_one (x : Nat) : val [x] = x := by simp [val]
set_option maxRecDepth 100000 in
theorem five_any (n : Nat) (w : World) (hn : n ≤ 80000) : Calls Tryz.prog 130 #[.int .i64 n] w fun e w' => (∃ z, e = .returned (.tuple #[z, .int .i64 0]) ∧ Wx w' z (ws (5 ^ n))) ∧ Below w.heap.size w w' := by
  have h1 := pow_any _ [5] n _ (ones_wx w 5 (by decide)) (by simp) (by rw [val_one, show bl 5 = 3 by decide]; omega) (by omega)
  rw [val_one] at h1
  have HP := Lib.hid h1
  clear h1
  have hn1 : ¬ (112899 : Int) < (n : Int) := by omega
  go_enter Tryz.func130, Tryz.ntmps130
  go_wp2_with (first | (refine HP.out.mono ?_; rintro e w' ⟨⟨z, rfl, hz⟩, hb⟩) | fail)
  go_ret2
  exact ⟨⟨z, rfl, hz⟩, ((Below.refl _ _).alloc (Nat.le_refl _) _).trans (hb.mono (by simp))⟩
theorem bl5 (n : Nat) : bl (5 ^ n) ≤ 3 * n + 1 := by
  have := bl_pow_le 5 n
  rw [show bl 5 = 3 by decide] at this
  omega
theorem five_two (n : Nat) : 5 ^ n * 2 ^ n = 10 ^ n := by rw [← Nat.mul_pow]
set_option maxRecDepth 100000 in
theorem ten_any (n : Nat) (w : World) (hn : n ≤ 60000) : Calls Tryz.prog 112 #[.int .i64 n] w fun e w' => (∃ z, e = .returned (.tuple #[z, .int .i64 0]) ∧ Wx w' z (ws (10 ^ n))) ∧ Below w.heap.size w w' := by
  have HF := Lib.hid (five_any n w (by omega))
  have hb5 := bl5 n
  have HS := fun z W hz => Lib.hid (shl_any z (ws (5 ^ n)) n W hz (by have := ws_len_bits (n := 5 ^ n) (k := 4096) (by omega); omega) (by rw [val_ws]; omega))
  simp only [val_ws, five_two] at HS
  have hn1 : ¬ (78913 : Int) < (n : Int) := by omega
  clear hb5
  go_enter Tryz.func112, Tryz.ntmps112
  go_wp2_with (first | (go_at_call 130; refine HF.out.mono ?_; rintro e w1 ⟨⟨z, rfl, hz⟩, hb⟩) | (go_at_call 100; refine (HS _ _ hz).out.mono ?_; rintro e w2 ⟨⟨z2, rfl, hz2⟩, hb2⟩) | fail)
  go_ret2
  exact ⟨⟨z2, rfl, hz2⟩, hb.trans (hb2.mono hb.size)⟩
set_option maxRecDepth 100000 in
theorem chunk_ten (w : World) : Calls Tryz.prog 147 #[.int .i64 10] w fun e w' => e = .returned (.tuple #[.int .u64 10000000000000000000, .int .i64 19]) ∧ w' = w := by
  go_enter Tryz.func147, Tryz.ntmps147
  go_wp2_with fail
  go_loopw [4, 5] (fun p i W => ∃ k q : Nat, p = .int .u64 q ∧ i = .int .i64 k ∧ Hid (q = 10 ^ k) ∧ 1 ≤ k ∧ k ≤ 19 ∧ W = w) (fun _ i _ => 19 - (intOf i).toNat)
  case atStart => exact ⟨1, 10, rfl, rfl, Lib.hid rfl, by omega, by omega, rfl⟩
  case round =>
    obtain ⟨k, q, rfl, rfl, hq, hk1, hk, rfl⟩ := hrel
    by_cases h : k < 19
    · have h1 : q ≤ 1000000000000000000 := by
        rw [hq.out]
        exact Nat.pow_le_pow_right (n := 10) (by decide) (show k ≤ 18 by omega)
      have hq2 := Lib.hid (show q * 10 = 10 ^ (k + 1) by rw [Nat.pow_succ, hq.out])
      go_wp2_with fail
      go_roundw
      case rel => exact ⟨k + 1, q * 10, by go_num, by go_num, hq2, by omega, by omega, by trivial⟩
      case measure => simp [intOf]; omega
    · have h2 : k = 19 := by omega
      subst h2
      have h1 : q = 10000000000000000000 := hq.out
      subst h1
      go_wp2_with fail
      go_ret2
      exact ⟨rfl, rfl⟩
set_option maxRecDepth 100000 in
theorem based_ten (w : World) : Calls Tryz.prog 141 #[.int .i64 10] w fun e w' => e = .returned (.bool true) ∧ w' = w := by
  go_enter Tryz.func141, Tryz.ntmps141
  go_wp2_with fail
  go_ret
  exact ⟨rfl, rfl⟩
end Go.Proofs.YtjdelpelnjhidaaGreatDoor.Pl
