/- ftoa: known and form; Text where it refuses. -/
import Derived.Test.YtjdelpelnjhidaaGreatDoorFtoD
namespace Go.Proofs.YtjdelpelnjhidaaGreatDoor.Pl
open Go.RowKit
theorem known_yes (m : Int) (w : World) (h1 : 1 ≤ m) (h2 : m < 4) : Calls Tryz.prog 20 #[.int .i64 m] w fun e w' => e = .returned (.bool true) ∧ w' = w := by
  go_enter Tryz.func20, Tryz.ntmps20
  go_wp2_with fail
  all_goals go_ret
  all_goals first | exact ⟨rfl, rfl⟩ | (exfalso; omega)
theorem known_no (m : Int) (w : World) (h : ¬ (1 ≤ m ∧ m < 4)) : Calls Tryz.prog 20 #[.int .i64 m] w fun e w' => e = .returned (.bool false) ∧ w' = w := by
  go_enter Tryz.func20, Tryz.ntmps20
  by_cases h1 : 1 ≤ m
  · have h2 : ¬ m < 4 := by omega
    go_wp2_with fail
    all_goals go_ret
    all_goals first | exact ⟨rfl, rfl⟩ | (exfalso; omega)
  · go_wp2_with fail
    all_goals go_ret
    all_goals first | exact ⟨rfl, rfl⟩ | (exfalso; omega)
theorem text_mode (b : Nat) (m : Int) (w : World) (h : ¬ (1 ≤ m ∧ m < 4)) : Calls Tryz.prog 8 #[.int .u64 b, .int .i64 m] w fun e w' => e = .returned (.tuple #[.string ⟨#[]⟩, .int .i64 140]) ∧ w' = w := by
  have hk := Lib.hid (known_no m w h)
  go_enter Tryz.func8, Tryz.ntmps8
  go_wp2_with (first | (go_at_call 20; refine hk.out.mono ?_; rintro e w1 ⟨rfl, hw1⟩; subst hw1) | fail)
  go_ret2
  exact ⟨rfl, rfl⟩
theorem text_class (b : Nat) (m : Int) (w : World) (hb : b < 18446744073709551616) (h : 1 ≤ m ∧ m < 4) (hc : 3 ≤ cls b) : Calls Tryz.prog 8 #[.int .u64 b, .int .i64 m] w fun e w' => e = .returned (.tuple #[.string ⟨#[]⟩, .int .i64 60]) ∧ w' = w := by
  have hk := Lib.hid (known_yes m w h.1 h.2)
  have hcl := Lib.hid (cls_any b w hb)
  obtain ⟨c, hcc⟩ : ∃ c, c = cls b := ⟨_, rfl⟩
  rw [← hcc] at hcl hc
  clear hcc
  go_enter Tryz.func8, Tryz.ntmps8
  go_wp2_with (first
    | (go_at_call 20; refine hk.out.mono ?_; rintro e w1 ⟨rfl, hw1⟩; subst hw1)
    | (go_at_call 21; refine hcl.out.mono ?_; rintro e w1 ⟨rfl, hw1⟩; subst hw1)
    | fail)
  go_ret2
  exact ⟨rfl, rfl⟩
theorem form_any (m : Int) (w : World) (h : 1 ≤ m ∧ m < 4) : Calls Tryz.prog 34 #[.int .i64 m] w fun e w' => e = .returned (.func (.func (if m = 1 then 48 else if m = 2 then 49 else 50)) #[] #[]) ∧ w' = w := by
  rcases (by omega : m = 1 ∨ m = 2 ∨ m = 3) with rfl | rfl | rfl
  all_goals
    go_enter Tryz.func34, Tryz.ntmps34
    go_wp2_with fail
    go_ret
    exact ⟨rfl, rfl⟩
end Go.Proofs.YtjdelpelnjhidaaGreatDoor.Pl
