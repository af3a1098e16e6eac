/- errors of the program: none, or a Fault with its place and number; api.Wrap, walked. -/
import Derived.Test.YtlffgepnhhnadaaDoorF64
import Derived.OwnWalk
namespace Go.Proofs.YtlffgepnhhnadaaDoor.Pl
open Go.RowKit

/-- an error: none, or a Fault (place, number) -/
def IsErr (ok : Nat → Prop) (w : World) (v : Value) : Option (Int × Int) → Prop
  | none => v = .nilIface
  | some (at_, e) => ∃ b, v = .iface 87 (.pointer (some ⟨b, 0, none⟩)) ∧ ok b ∧ w.cell? ⟨b, 0, none⟩ = some (.int .i64 at_) ∧ w.cell? ⟨b, 1, none⟩ = some (.iface 22 (.int .i64 e))
theorem IsErr.keeps {ok : Nat → Prop} {w w' : World} {v : Value} {e : Option (Int × Int)} (h : IsErr ok w v e) (k : Keeps ok w w') : IsErr ok w' v e := by
  cases e with
  | none => exact h
  | some p => obtain ⟨b, h0, hb, h1, h2⟩ := h; exact ⟨b, h0, hb, k.cell hb h1, k.cell hb h2⟩

theorem wrap_any (at_ e : Int) (w : World) : Calls Tryd.prog 51 #[.int .i64 at_, .int .i64 e] w fun en w' =>
    en = .returned (.iface 87 (.pointer (some ⟨w.heap.size, 0, none⟩))) ∧ w' = w.alloc (.cells #[.int .i64 at_, .iface 22 (.int .i64 e)] 102) := by
  go_enter Tryd.func51, Tryd.ntmps51
  go_wp2
  go_ret
  exact ⟨rfl, rfl⟩
end Go.Proofs.YtlffgepnhhnadaaDoor.Pl
