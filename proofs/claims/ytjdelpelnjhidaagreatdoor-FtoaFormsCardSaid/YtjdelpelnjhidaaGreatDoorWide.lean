/- wide: words of 64 bits. -/
import Derived.Test.YtjdelpelnjhidaaGreatDoorWd
namespace Go.Proofs.YtjdelpelnjhidaaGreatDoor.Pl
open Go.RowKit

theorem bl_split (y k : Nat) (h : y / 2 ^ k ≠ 0) : bl y = k + bl (y / 2 ^ k) := bitLen_shift y k h
def LenS (k : Int) (y : Nat) : Prop := (k = 32 ∧ y < 18446744073709551616) ∨ (k = 16 ∧ y < 4294967296) ∨ (k = 8 ∧ y < 65536) ∨ (k = 4 ∧ y < 256) ∨ (k = 2 ∧ y < 16) ∨ (k = 1 ∧ y < 4) ∨ (k = 0 ∧ y < 2)
set_option maxRecDepth 100000 in
theorem len_any (x : Nat) (w : World) (hx : x < 18446744073709551616) : Calls Tryz.prog 96 #[.int .u64 x] w fun e w' => e = .returned (.int .i64 (bl x)) ∧ w' = w := by
  go_enter Tryz.func96, Tryz.ntmps96
  go_wp2_with fail
  go_loopw [0, 3, 4] (fun a n k W => ∃ (y m : Nat) (kk : Int), a = .int .u64 y ∧ n = .int .i64 m ∧ k = .int .i64 kk ∧ m + 2 * kk ≤ 64 ∧ Hid (bl x = m + bl y) ∧ LenS kk y ∧ w = W) (fun _ _ k _ => (intOf k).toNat)
  case atStart => exact ⟨x, 0, 32, rfl, rfl, rfl, by omega, Lib.hid (by simp), .inl ⟨rfl, hx⟩, rfl⟩
  case round =>
    obtain ⟨y, m, kk, rfl, rfl, rfl, hm, HB, hS, rfl⟩ := hrel
    rcases hS with ⟨rfl, hy⟩ | ⟨rfl, hy⟩ | ⟨rfl, hy⟩ | ⟨rfl, hy⟩ | ⟨rfl, hy⟩ | ⟨rfl, hy⟩ | ⟨rfl, hy⟩
    · by_cases h0 : y / 2 ^ 32 = 0
      · have hz : (y : Int) / 4294967296 = 0 := by omega
        go_wp2_with fail
        go_roundw
        · exact ⟨y, m, 16, rfl, rfl, rfl, by omega, HB, .inr (.inl ⟨rfl, by omega⟩), by trivial⟩
        · simp [intOf]
      · have hz : ¬ (y : Int) / 4294967296 = 0 := by omega
        have hb := bl_split y 32 h0
        have HB2 := Lib.hid (HB.out.trans (by rw [hb]))
        clear hb
        go_wp2_with fail
        go_roundw
        · exact ⟨y / 2 ^ 32, m + 32, 16, by simp, by simp, rfl, by omega, Lib.hid (by rw [HB2.out]; omega), .inr (.inl ⟨rfl, by omega⟩), by trivial⟩
        · simp [intOf]
    · by_cases h0 : y / 2 ^ 16 = 0
      · have hz : (y : Int) / 65536 = 0 := by omega
        go_wp2_with fail
        go_roundw
        · exact ⟨y, m, 8, rfl, rfl, rfl, by omega, HB, .inr (.inr (.inl ⟨rfl, by omega⟩)), by trivial⟩
        · simp [intOf]
      · have hz : ¬ (y : Int) / 65536 = 0 := by omega
        have hb := bl_split y 16 h0
        have HB2 := Lib.hid (HB.out.trans (by rw [hb]))
        clear hb
        go_wp2_with fail
        go_roundw
        · exact ⟨y / 2 ^ 16, m + 16, 8, by simp, by simp, rfl, by omega, Lib.hid (by rw [HB2.out]; omega), .inr (.inr (.inl ⟨rfl, by omega⟩)), by trivial⟩
        · simp [intOf]
    · by_cases h0 : y / 2 ^ 8 = 0
      · have hz : (y : Int) / 256 = 0 := by omega
        go_wp2_with fail
        go_roundw
        · exact ⟨y, m, 4, rfl, rfl, rfl, by omega, HB, .inr (.inr (.inr (.inl ⟨rfl, by omega⟩))), by trivial⟩
        · simp [intOf]
      · have hz : ¬ (y : Int) / 256 = 0 := by omega
        have hb := bl_split y 8 h0
        have HB2 := Lib.hid (HB.out.trans (by rw [hb]))
        clear hb
        go_wp2_with fail
        go_roundw
        · exact ⟨y / 2 ^ 8, m + 8, 4, by simp, by simp, rfl, by omega, Lib.hid (by rw [HB2.out]; omega), .inr (.inr (.inr (.inl ⟨rfl, by omega⟩))), by trivial⟩
        · simp [intOf]
    · by_cases h0 : y / 2 ^ 4 = 0
      · have hz : (y : Int) / 16 = 0 := by omega
        go_wp2_with fail
        go_roundw
        · exact ⟨y, m, 2, rfl, rfl, rfl, by omega, HB, .inr (.inr (.inr (.inr (.inl ⟨rfl, by omega⟩)))), by trivial⟩
        · simp [intOf]
      · have hz : ¬ (y : Int) / 16 = 0 := by omega
        have hb := bl_split y 4 h0
        have HB2 := Lib.hid (HB.out.trans (by rw [hb]))
        clear hb
        go_wp2_with fail
        go_roundw
        · exact ⟨y / 2 ^ 4, m + 4, 2, by simp, by simp, rfl, by omega, Lib.hid (by rw [HB2.out]; omega), .inr (.inr (.inr (.inr (.inl ⟨rfl, by omega⟩)))), by trivial⟩
        · simp [intOf]
    · by_cases h0 : y / 2 ^ 2 = 0
      · have hz : (y : Int) / 4 = 0 := by omega
        go_wp2_with fail
        go_roundw
        · exact ⟨y, m, 1, rfl, rfl, rfl, by omega, HB, .inr (.inr (.inr (.inr (.inr (.inl ⟨rfl, by omega⟩))))), by trivial⟩
        · simp [intOf]
      · have hz : ¬ (y : Int) / 4 = 0 := by omega
        have hb := bl_split y 2 h0
        have HB2 := Lib.hid (HB.out.trans (by rw [hb]))
        clear hb
        go_wp2_with fail
        go_roundw
        · exact ⟨y / 2 ^ 2, m + 2, 1, by simp, by simp, rfl, by omega, Lib.hid (by rw [HB2.out]; omega), .inr (.inr (.inr (.inr (.inr (.inl ⟨rfl, by omega⟩))))), by trivial⟩
        · simp [intOf]
    · by_cases h0 : y / 2 ^ 1 = 0
      · have hz : (y : Int) / 2 = 0 := by omega
        go_wp2_with fail
        go_roundw
        · exact ⟨y, m, 0, rfl, rfl, rfl, by omega, HB, .inr (.inr (.inr (.inr (.inr (.inr (⟨rfl, by omega⟩)))))), by trivial⟩
        · simp [intOf]
      · have hz : ¬ (y : Int) / 2 = 0 := by omega
        have hb := bl_split y 1 h0
        have HB2 := Lib.hid (HB.out.trans (by rw [hb]))
        clear hb
        go_wp2_with fail
        go_roundw
        · exact ⟨y / 2 ^ 1, m + 1, 0, by simp, by simp, rfl, by omega, Lib.hid (by rw [HB2.out]; omega), .inr (.inr (.inr (.inr (.inr (.inr (⟨rfl, by omega⟩)))))), by trivial⟩
        · simp [intOf]
    · have hb : bl y = y := by
        rcases (by omega : y = 0 ∨ y = 1) with rfl | rfl <;> rfl
      have HB2 := Lib.hid (HB.out.trans (by rw [hb]))
      clear hb
      go_wp2_with fail
      go_ret
      exact ⟨by rw [HB2.out]; simp, rfl⟩
end Go.Proofs.YtjdelpelnjhidaaGreatDoor.Pl
