/- stream.New, Waiting, Count, and Feed of a reader that is broken: walked. -/
import Derived.Test.YtlffgepnhhnadaaDoorFeed
namespace Go.Proofs.YtlffgepnhhnadaaDoor.Pl
open Go.RowKit

theorem New_any (depth : Int) (w : World) : Calls Tryd.prog 14 #[.int .i64 depth] w fun e w' =>
    e = .returned (.pointer (some ⟨w.heap.size, 0, none⟩)) ∧ Below w.heap.size w w' ∧ IsSt w.heap.size w' w.heap.size depth [] 0 0 (.pointer none) := by
  obtain ⟨w1, hw1⟩ : ∃ w1, w1 = w.alloc (.cells #[.int .i64 depth, .slice none 0 0, .int .i64 0, .int .i64 0, .pointer none] 89) := ⟨_, rfl⟩
  have hb1 : Below w.heap.size w w1 := by rw [hw1]; exact (Below.refl _ w).alloc (Nat.le_refl _) _
  have hx1 : w1.heap[w.heap.size]? = some (.cells #[.int .i64 depth, .slice none 0 0, .int .i64 0, .int .i64 0, .pointer none] 89 (0, 0)) := by rw [hw1]; exact World.alloc_heap_new _ _
  have H := Lib.hid (And.intro hb1 hx1)
  clear hb1 hx1
  go_enter Tryd.func14, Tryd.ntmps14
  go_wp2
  rw [← hw1]
  go_ret
  exact ⟨rfl, H.out.1, Nat.le_refl _, _, H.out.2, .inl ⟨rfl, rfl⟩⟩

theorem Waiting_any {B rb : Nat} {depth begin_ count : Int} {l : List UInt8} {bp : Value} (w : World) (h : IsSt B w rb depth l begin_ count bp) :
    Calls Tryd.prog 17 #[.pointer (some ⟨rb, 0, none⟩)] w fun e w' => e = .returned (.int .i64 l.length) ∧ w = w' := by
  obtain ⟨wv, h1, h2⟩ := h.mem
  obtain ⟨A, c, rfl, _, _⟩ := h2.shape
  have c1 := cell_row (cs := [_, _, _, _, _]) (j := 1) h1 rfl
  clear h1 h2 h
  go_enter Tryd.func17, Tryd.ntmps17
  go_wp2
  go_ret
  exact ⟨rfl, rfl⟩
theorem Count_any {B rb : Nat} {depth begin_ count : Int} {l : List UInt8} {bp : Value} (w : World) (h : IsSt B w rb depth l begin_ count bp) :
    Calls Tryd.prog 19 #[.pointer (some ⟨rb, 0, none⟩)] w fun e w' => e = .returned (.int .i64 count) ∧ w = w' := by
  obtain ⟨wv, h1, h2⟩ := h.mem
  have c3 := cell_row (cs := [_, _, _, _, _]) (j := 3) h1 rfl
  clear h1 h2 h
  go_enter Tryd.func19, Tryd.ntmps19
  go_wp2
  go_ret
  exact ⟨rfl, rfl⟩
theorem Feed_broken {B rb fb : Nat} {depth begin_ count p : Int} {l : List UInt8} (pv : Value) (w : World) (h : IsSt B w rb depth l begin_ count (.pointer (some ⟨fb, 0, none⟩))) (hf : w.cell? ⟨fb, 0, none⟩ = some (.int .i64 p)) :
    Calls Tryd.prog 32 #[.pointer (some ⟨rb, 0, none⟩), pv] w fun e w' => ∃ ev, e = .returned (.tuple #[.slice none 0 0, ev]) ∧ Below w.heap.size w w' ∧ IsErr (fun b => w.heap.size ≤ b) w' ev (some (p, 272)) := by
  obtain ⟨wv, h1, h2⟩ := h.mem
  have c4 := cell_row (cs := [_, _, _, _, _]) (j := 4) h1 rfl
  clear h1 h2 h
  go_enter Tryd.func32, Tryd.ntmps32
  go_wp2_with fail
  refine (wrap_any p 272 w).mono ?_
  rintro e w2 ⟨rfl, hw2⟩
  have hb2 : Below w.heap.size w w2 := by rw [hw2]; exact (Below.refl _ w).alloc (Nat.le_refl _) _
  have hx2 : w2.heap[w.heap.size]? = some (.cells #[.int .i64 p, .iface 22 (.int .i64 272)] 102 (0, 0)) := by rw [hw2]; exact World.alloc_heap_new _ _
  have H := Lib.hid (And.intro hb2 hx2)
  clear hb2 hx2 hw2
  go_wp2
  go_ret2
  exact ⟨_, rfl, H.out.1, _, rfl, Nat.le_refl _, cell_row (cs := [_, _]) (j := 0) H.out.2 rfl, cell_row (cs := [_, _]) (j := 1) H.out.2 rfl⟩
end Go.Proofs.YtlffgepnhhnadaaDoor.Pl
