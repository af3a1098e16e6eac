/- ftoa.Plain at three inputs, and plumblaw14.FtoaRefuses, walked. -/
import Derived.Test.YtjdelpelnjhidaaGreatDoorFtoR
import Derived.Test.YtjdelpelnjhidaaGreatDoorFtoM
import Derived.Test.YtjdelpelnjhidaaGreatDoorShelfB
namespace Go.Proofs.YtjdelpelnjhidaaGreatDoor.Pl
open Go.RowKit
theorem plain_none (x : Int) (w : World) : Calls Tryz.prog 19 #[.string ⟨#[]⟩, .int .i64 x] w fun e w' => e = .returned (.tuple #[.string ⟨#[]⟩, .int .i64 41]) ∧ w' = w := by
  go_enter Tryz.func19, Tryz.ntmps19
  go_wp2_with fail
  go_ret2
  exact ⟨rfl, rfl⟩
theorem plain_blank (x : Int) (w : World) : Calls Tryz.prog 19 #[.string ⟨#[49, 32]⟩, .int .i64 x] w fun e w' => e = .returned (.tuple #[.string ⟨#[]⟩, .int .i64 41]) ∧ w' = w := by
  have e0 : ∀ h : 0 < (⟨#[49, 32]⟩ : ByteArray).size, ((⟨#[49, 32]⟩ : ByteArray)[0]'h).toNat = 49 := fun _ => rfl
  have e1 : ∀ h : 1 < (⟨#[49, 32]⟩ : ByteArray).size, ((⟨#[49, 32]⟩ : ByteArray)[1]'h).toNat = 32 := fun _ => rfl
  go_enter Tryz.func19, Tryz.ntmps19
  go_wp2_with fail
  go_loopw [13] (fun i wr => ∃ n : Nat, i = .int .i64 n ∧ n ≤ 1 ∧ wr = w) (fun i _ => ((2 : Int) - intOf i).toNat)
  case atStart => exact ⟨0, rfl, by decide, rfl⟩
  case round =>
    obtain ⟨n, rfl, hn, rfl⟩ := hrel
    rcases (by omega : n = 0 ∨ n = 1) with rfl | rfl
    · go_wp2_with fail
      exact ⟨⟨1, rfl, by decide, trivial⟩, by decide⟩
    · go_wp2_with fail
      go_ret2
      exact ⟨rfl, rfl⟩
theorem trim_one (w : World) : Calls Tryz.prog 30 #[.string ⟨#[49]⟩, .string ⟨#[48]⟩] w fun e w' => e = .returned (.string ⟨#[49]⟩) ∧ w' = w := by
  have h := Tryz.strings_TrimLeft_one ⟨#[49]⟩ 48 (by decide) w
  have e : (⟨(Lib.trimLeftB (⟨#[49]⟩ : ByteArray).data.toList 48).toArray⟩ : ByteArray) = ⟨#[49]⟩ := rfl
  rwa [e] at h
set_option maxRecDepth 100000 in
set_option maxHeartbeats 8000000 in
theorem trimmed_one (p : Int) (w : World) (h1 : -2000 ≤ p) (h2 : p ≤ 2000) : Calls Tryz.prog 32 #[.string ⟨#[49]⟩, .int .i64 p] w fun e w' => e = .returned (.string ⟨#[49]⟩) ∧ w' = w := by
  go_enter Tryz.func32, Tryz.ntmps32
  go_wp2_with fail
  go_loopw [0] (fun s wr => s = .string ⟨#[49]⟩ ∧ wr = w) (fun _ _ => 0)
  case atStart => exact ⟨rfl, rfl⟩
  case round =>
    obtain ⟨rfl, rfl⟩ := hrel
    have hm : ¬ max p 1 < 1 := by omega
    have hm2 : decide (max p 1 < 1) = false := decide_eq_false hm
    clear hm
    go_wp2_with fail
    all_goals go_ret
    all_goals exact ⟨rfl, rfl⟩
theorem laid_ne {l : List UInt8} (h : l ≠ []) (p : Int) : laidL l p ≠ [] := by
  unfold laidL
  split
  · simp
  · split
    · simp [h]
    · simp
set_option maxRecDepth 100000 in
set_option maxHeartbeats 8000000 in
theorem plain_one (x : Int) (w : World) (h1 : -1100 ≤ x) (h2 : x ≤ 1100) : Calls Tryz.prog 19 #[.string ⟨#[49]⟩, .int .i64 x] w fun e w' => (∃ l, e = .returned (.tuple #[.string (B l), .int .i64 0]) ∧ l ≠ []) ∧ Below w.heap.size w w' := by
  have e0 : ∀ h : 0 < (⟨#[49]⟩ : ByteArray).size, ((⟨#[49]⟩ : ByteArray)[0]'h).toNat = 49 := fun _ => rfl
  have hl := fun w => laid_any [49] (1 + x) w (by decide) (by omega) (by decide)
  rw [show B [49] = ⟨#[49]⟩ from rfl] at hl
  have HL := Lib.hid hl
  have hne := laid_ne (l := [49]) (by decide) (1 + x)
  generalize laidL [49] (1 + x) = L at *
  clear hl
  have HN := Lib.hid hne
  clear hne
  have hd1 : decide (x < -1100) = false := decide_eq_false (by omega)
  have hd2 : decide (1100 < x) = false := decide_eq_false (by omega)
  have ht := fun w => Lib.hid (trimmed_one (1 + x) w (by omega) (by omega))
  go_enter Tryz.func19, Tryz.ntmps19
  go_wp2_with fail
  go_loopw [13] (fun i wr => ∃ n : Nat, i = .int .i64 n ∧ n ≤ 1 ∧ wr = w) (fun i _ => ((2 : Int) - intOf i).toNat)
  case atStart => exact ⟨0, rfl, by decide, rfl⟩
  case round =>
    obtain ⟨n, rfl, hn, rfl⟩ := hrel
    rcases (by omega : n = 0 ∨ n = 1) with rfl | rfl
    · go_wp2_with fail
      exact ⟨⟨1, rfl, by decide, trivial⟩, by decide⟩
    · go_wp2_with (first
        | (go_at_call 30; refine (trim_one _).mono ?_; rintro e w1 ⟨rfl, hw1⟩; rw [hw1]; clear hw1)
        | (go_at_call 32; refine (ht _).out.mono ?_; rintro e w2 ⟨rfl, hw2⟩; rw [hw2]; clear hw2)
        | (go_at_call 31; refine (HL.out _).mono ?_; rintro e w3 ⟨rfl, hbz⟩)
        | fail)
      go_ret2
      exact ⟨⟨_, rfl, HN.out⟩, hbz⟩
set_option maxRecDepth 100000 in
set_option maxHeartbeats 8000000 in
theorem plain_far (x : Int) (w : World) (h : x < -1100 ∨ 1100 < x) : Calls Tryz.prog 19 #[.string ⟨#[49]⟩, .int .i64 x] w fun e w' => e = .returned (.tuple #[.string ⟨#[]⟩, .int .i64 130]) ∧ w' = w := by
  have e0 : ∀ h : 0 < (⟨#[49]⟩ : ByteArray).size, ((⟨#[49]⟩ : ByteArray)[0]'h).toNat = 49 := fun _ => rfl
  go_enter Tryz.func19, Tryz.ntmps19
  go_wp2_with fail
  go_loopw [13] (fun i wr => ∃ n : Nat, i = .int .i64 n ∧ n ≤ 1 ∧ wr = w) (fun i _ => ((2 : Int) - intOf i).toNat)
  case atStart => exact ⟨0, rfl, by decide, rfl⟩
  case round =>
    obtain ⟨n, rfl, hn, rfl⟩ := hrel
    rcases (by omega : n = 0 ∨ n = 1) with rfl | rfl
    · clear h
      go_wp2_with fail
      exact ⟨⟨1, rfl, by decide, trivial⟩, by decide⟩
    · rcases h with h | h
      · go_wp2_with fail
        go_ret2
        exact ⟨rfl, rfl⟩
      · have hd1 : decide (x < -1100) = false := decide_eq_false (by omega)
        go_wp2_with fail
        go_ret2
        exact ⟨rfl, rfl⟩
end Go.Proofs.YtjdelpelnjhidaaGreatDoor.Pl
