/- api.Code and api.Place, walked. -/
import Derived.Test.YtlffgepnhhnadaaDoorAs
namespace Go.Proofs.YtlffgepnhhnadaaDoor.Pl
open Go.RowKit

def codeOf : Option (Int × Int) → Int
  | none => 0
  | some p => p.2
def placeOf : Option (Int × Int) → Int
  | none => -1
  | some p => p.1
theorem code_any {ok : Nat → Prop} (er : Option (Int × Int)) (v : Value) (w : World) (hg : ErrT w) (hv : IsErr ok w v er) :
    Calls Tryd.prog 35 #[v] w fun e w' => e = .returned (.int .i64 (codeOf er)) ∧ Below w.heap.size w w' := by
  obtain ⟨w1, hw1⟩ : ∃ w1, w1 = w.alloc (.cells #[.int .i64 0] 22) := ⟨_, rfl⟩
  have hb1 : Below w.heap.size w w1 := by subst hw1; exact (Below.refl _ w).alloc (Nat.le_refl _) _
  have hx1 : w1.heap[w.heap.size]? = some (.cells #[.int .i64 0] 22 (0, 0)) := by subst hw1; exact World.alloc_heap_new _ _
  cases er with
  | none =>
    cases hv
    have HB := Lib.hid hb1
    clear hb1 hx1
    go_enter Tryd.func35, Tryd.ntmps35
    go_wp2_with fail
    rw [← hw1]
    go_ret
    exact ⟨rfl, HB.out⟩
  | some p =>
    obtain ⟨at_, c⟩ := p
    obtain ⟨eb, rfl, _, h0, h1⟩ := hv
    have hel := lt_of_cell h1
    have HA := Lib.hid (as_number eb c ⟨w.heap.size, 0, none⟩ (.int .i64 0) w1 (hg.below hb1) ((hb1.cell (p := ⟨eb, 1, none⟩) hel).trans h1) (cell_row (cs := [_]) (j := 0) hx1 rfl) (frozen_row (cs := [_]) hx1 0))
    have HB := Lib.hid (And.intro hb1 (And.intro hx1 (lt_of_heap hx1)))
    clear hb1 hx1 h0 h1 hg
    go_enter Tryd.func35, Tryd.ntmps35
    go_wp2_with fail
    rw [← hw1]
    clear hw1
    refine HA.out.mono ?_
    rintro e w' ⟨rfl, w2, hb2, rfl⟩
    have HB2 := Lib.hid ((HB.out.1.trans (hb2.mono (Nat.le_of_lt HB.out.2.2))).setCell (p := ⟨w.heap.size, 0, none⟩) (Nat.le_refl _) (.int .i64 c))
    have hx2 := (hb2.block _ HB.out.2.2).trans HB.out.2.1
    have hs := heap_store (cs := [_]) hx2 (j := 0) (.int .i64 c)
    have c0 := cell_row (cs := [_]) (j := 0) (by simpa using hs) rfl
    clear hb2 hx2 hs
    go_wp2
    go_ret
    exact ⟨rfl, HB2.out⟩

theorem place_of {ok : Nat → Prop} (er : Option (Int × Int)) (v : Value) (w : World) (hg : ErrT w) (hv : IsErr ok w v er) :
    Calls Tryd.prog 36 #[v] w fun e w' => e = .returned (.int .i64 (placeOf er)) ∧ Below w.heap.size w w' := by
  obtain ⟨w1, hw1⟩ : ∃ w1, w1 = w.alloc (.cells #[.pointer none] 87) := ⟨_, rfl⟩
  have hb1 : Below w.heap.size w w1 := by subst hw1; exact (Below.refl _ w).alloc (Nat.le_refl _) _
  have hx1 : w1.heap[w.heap.size]? = some (.cells #[.pointer none] 87 (0, 0)) := by subst hw1; exact World.alloc_heap_new _ _
  cases er with
  | none =>
    cases hv
    have HB := Lib.hid hb1
    have HA := Lib.hid (as_nil (.iface 107 (.pointer (some ⟨w.heap.size, 0, none⟩))) w1)
    clear hb1 hx1
    go_enter Tryd.func36, Tryd.ntmps36
    go_wp2_with fail
    rw [← hw1]
    clear hw1
    refine HA.out.mono ?_
    rintro e w' ⟨rfl, rfl⟩
    go_wp2
    go_ret
    exact ⟨rfl, HB.out⟩
  | some p =>
    obtain ⟨at_, c⟩ := p
    obtain ⟨eb, rfl, _, h0, h1⟩ := hv
    have hel := lt_of_cell h1
    have HA := Lib.hid (as_fault eb ⟨w.heap.size, 0, none⟩ (.pointer none) w1 (hg.below hb1) (cell_row (cs := [_]) (j := 0) hx1 rfl) (frozen_row (cs := [_]) hx1 0))
    have HB := Lib.hid (And.intro hb1 (And.intro hx1 (And.intro (lt_of_heap hx1) h0)))
    clear hb1 hx1 h0 h1 hg
    go_enter Tryd.func36, Tryd.ntmps36
    go_wp2_with fail
    rw [← hw1]
    clear hw1
    refine HA.out.mono ?_
    rintro e w' ⟨rfl, w2, hb2, rfl⟩
    have hb3 := HB.out.1.trans (hb2.mono (Nat.le_of_lt HB.out.2.2.1))
    have HB2 := Lib.hid (hb3.setCell (p := ⟨w.heap.size, 0, none⟩) (Nat.le_refl _) (.pointer (some ⟨eb, 0, none⟩)))
    have hx2 := (hb2.block _ HB.out.2.2.1).trans HB.out.2.1
    have hs := heap_store (cs := [_]) hx2 (j := 0) (.pointer (some ⟨eb, 0, none⟩))
    have c0 := cell_row (cs := [_]) (j := 0) (by simpa using hs) rfl
    have c1 := (World.cell?_setCell_far w2 ⟨w.heap.size, 0, none⟩ ⟨eb, 0, none⟩ (.pointer (some ⟨eb, 0, none⟩)) (by simp; omega)).trans ((hb3.cell (p := ⟨eb, 0, none⟩) hel).trans HB.out.2.2.2)
    clear hb2 hx2 hs hb3
    go_wp2
    go_ret
    exact ⟨rfl, HB2.out⟩
end Go.Proofs.YtlffgepnhhnadaaDoor.Pl
