/- the library's formatBits at base 16: the small calls. -/
import Derived.Test.YtjdelpelnjhidaaGreatDoorFtoE
namespace Go.Proofs.YtjdelpelnjhidaaGreatDoor.Pl
open Go.RowKit
/-- the cell of the library's table that tells how many zeros stand behind the one of 16 -/
def Tab16 (w : World) : Prop := ∀ g, Tryz.prog.globalNamed "math/bits.deBruijn64tab" = some g → w.cell? ⟨g, 15, none⟩ = some (.int .u8 4)
theorem Tab16.cell {w : World} (h : Tab16 w) : w.cell? ⟨6, 15, none⟩ = some (.int .u8 4) := h 6 (by kernel_rfl)
theorem pow2_16 (w : World) : Calls Tryz.prog 125 #[.int .i64 16] w fun e w' => e = .returned (.bool true) ∧ w' = w := by
  have hb : bits .and .i64 16 15 = 0 := by decide
  go_enter Tryz.func125, Tryz.ntmps125
  go_wp2_with fail
  go_ret
  exact ⟨rfl, rfl⟩
theorem tz64_16 (w : World) (hT : Tab16 w) : Calls Tryz.prog 140 #[.int .u64 16] w fun e w' => e = .returned (.int .i64 4) ∧ w' = w := by
  have hw : IntKind.u64.wrap (-16) = 18446744073709551600 := by decide
  have hb : bits .and .u64 16 18446744073709551600 = 16 := by decide
  have hm : IntKind.u64.wrap (16 * 285870213051353865) = 4573923408821661840 := by decide
  have hm2 : IntKind.u64.wrap 4573923408821661840 = 4573923408821661840 := by decide
  have hd : (4573923408821661840 : Int) / 288230376151711744 = 15 := by decide
  have hc := hT.cell
  go_enter Tryz.func140, Tryz.ntmps140
  go_wp2_with fail
  go_ret
  exact ⟨rfl, rfl⟩
theorem tz_16 (w : World) (hT : Tab16 w) : Calls Tryz.prog 126 #[.int .u64 16] w fun e w' => e = .returned (.int .i64 4) ∧ w' = w := by
  have h := Lib.hid (tz64_16 w hT)
  go_enter Tryz.func126, Tryz.ntmps126
  go_wp2_with (first | (go_at_call 140; refine h.out.mono ?_; rintro e w1 ⟨rfl, hw1⟩; subst hw1) | fail)
  go_ret
  exact ⟨rfl, rfl⟩
end Go.Proofs.YtjdelpelnjhidaaGreatDoor.Pl
