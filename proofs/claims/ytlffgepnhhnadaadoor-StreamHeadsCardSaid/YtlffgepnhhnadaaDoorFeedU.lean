/- What Feed gives, in one form; states kept. -/
import Derived.Test.YtlffgepnhhnadaaDoorApp
namespace Go.Proofs.YtlffgepnhhnadaaDoor.Pl
open Go.RowKit

/-- an error's place, told from a stream's beginning -/
def errAt (b : Int) : Option (Int × Int) → Option (Int × Int)
  | none => none
  | some x => some (wrap64 (x.1 + b), x.2)
/-- what a reader holds on to: nothing, or the error that broke it -/
def Broke (w w' : World) (rb : Nat) (b : Int) : Option (Int × Int) → Value → Prop
  | none, bp => bp = .pointer none
  | some x, bp => ∃ fb, bp = .pointer (some ⟨fb, 0, none⟩) ∧ NewS w w' rb fb ∧ w'.cell? ⟨fb, 0, none⟩ = some (.int .i64 (wrap64 (x.1 + b)))
/-- what Feed gives, in one form -/
structure FeedU (B : Nat) (w : World) (rb : Nat) (depth begin_ count : Int) (r : List G × Nat × List UInt8 × Option (Int × Int)) (ov ev bp : Value) (vs : List Value) (w' : World) : Prop where
  below : Below B w w'
  keep : KeepS rb w w'
  sl : Sl (NewS w w' rb) w' ov r.1.length vs
  gs : IsGs (NewS w w' rb) w' r.1 vs
  err : IsErr (NewS w w' rb) w' ev (errAt (begin_ + r.2.1) r.2.2.2)
  st : IsSt B w' rb depth r.2.2.1 (begin_ + r.2.1) (count + r.1.length) bp
  bp : Broke w w' rb (begin_ + r.2.1) r.2.2.2 bp
theorem feed_any {B rb : Nat} {ok : Nat → Prop} {pv : Value} {depth begin_ count : Int} {l m : List UInt8} (w : World) (hs : IsSt B w rb depth l begin_ count (.pointer none)) (hm : Bytes ok w pv m) (hl : l.length + m.length ≤ 1073741824) (hbc : 0 ≤ begin_ ∧ begin_ ≤ 1152921504606846976 ∧ 0 ≤ count ∧ count ≤ 1152921504606846976) (hg : ErrT w) (hB : B ≤ w.heap.size) (hB0 : 0 < B) :
    Calls Tryd.prog 32 #[.pointer (some ⟨rb, 0, none⟩), pv] w fun e w' => ∃ ov ev bp vs, e = .returned (.tuple #[ov, ev]) ∧ FeedU B w rb depth begin_ count (feed depth (l ++ m)) ov ev bp vs w' := by
  refine (Feed_any w hs hm hl hbc hg hB hB0).mono ?_
  rintro e w' ⟨ov, ev, vs, rfl, h1, h2, h3, h4, h5⟩
  rw [show feedR depth ((l ++ m).length + 1) (l ++ m) = feed depth (l ++ m) from rfl] at *
  generalize feed depth (l ++ m) = r at *
  obtain ⟨gs, n, rest, er⟩ := r
  cases er with
  | none =>
    obtain ⟨rfl, h6⟩ := h5
    exact ⟨ov, _, _, vs, rfl, h1, h2, h3, h4, rfl, h6, rfl⟩
  | some x =>
    obtain ⟨a, c⟩ := x
    obtain ⟨fb, h6, h7, h8, h9⟩ := h5
    exact ⟨ov, ev, _, vs, rfl, h1, h2, h3, h4, h6, h7, fb, rfl, h8, h9⟩
theorem IsSt.kept {B rb : Nat} {w w' : World} {depth begin_ count : Int} {l : List UInt8} {bp : Value} (h : IsSt B w rb depth l begin_ count bp) (hs : w.heap.size ≤ w'.heap.size) (h1 : w'.heap[rb]? = w.heap[rb]?) (h2 : ∀ v g, w.cell? ⟨rb, 1, none⟩ = some v → v.ownBlock = some g → w'.heap[g]? = w.heap[g]?) : IsSt B w' rb depth l begin_ count bp := by
  obtain ⟨wv, m1, m2⟩ := h.mem
  exact ⟨h.base, wv, h1.trans m1, m2.keep hs fun g hg => h2 wv g (cell_row (cs := [_, _, _, _, _]) (j := 1) m1 rfl) hg⟩
/-- a reader that has nothing yet -/
def FreshR (w : World) (rb : Nat) (depth : Int) : Prop := w.heap[rb]? = some (.cells #[.int .i64 depth, .slice none 0 0, .int .i64 0, .int .i64 0, .pointer none] 89 (0, 0))
theorem FreshR.st {w : World} {rb B : Nat} {depth : Int} (h : FreshR w rb depth) (hB : B ≤ rb) : IsSt B w rb depth [] 0 0 (.pointer none) := ⟨hB, _, h, .inl ⟨rfl, rfl⟩⟩
theorem FreshR.apt {w : World} {rb b : Nat} {depth : Int} (h : FreshR w rb depth) (hb : b < w.heap.size) (hn : b ≠ rb) : AptS w rb b :=
  ⟨hb, hn, fun v hv => by
    have := cell_row (cs := [_, _, _, _, _]) (j := 1) (show w.heap[rb]? = _ from h) rfl
    rw [this] at hv; cases hv; simp [Value.ownBlock]⟩
theorem new_any (depth : Int) (w : World) : Calls Tryd.prog 14 #[.int .i64 depth] w fun e w' =>
    e = .returned (.pointer (some ⟨w.heap.size, 0, none⟩)) ∧ Below w.heap.size w w' ∧ FreshR w' w.heap.size depth := by
  obtain ⟨w1, hw1⟩ : ∃ w1, w1 = w.alloc (.cells #[.int .i64 depth, .slice none 0 0, .int .i64 0, .int .i64 0, .pointer none] 89) := ⟨_, rfl⟩
  have hb1 : Below w.heap.size w w1 := by rw [hw1]; exact (Below.refl _ w).alloc (Nat.le_refl _) _
  have hx1 : w1.heap[w.heap.size]? = some (.cells #[.int .i64 depth, .slice none 0 0, .int .i64 0, .int .i64 0, .pointer none] 89 (0, 0)) := by rw [hw1]; exact World.alloc_heap_new _ _
  have H := Lib.hid (And.intro hb1 hx1)
  clear hb1 hx1
  go_enter Tryd.func14, Tryd.ntmps14
  go_wp2
  rw [← hw1]
  go_ret
  exact ⟨rfl, H.out.1, H.out.2⟩
theorem wrap_at {a b : Int} (h1 : 0 ≤ a) (h2 : a ≤ 1152921504606846976) (h3 : 0 ≤ b) (h4 : b ≤ 1152921504606846976) : wrap64 (a + b) = a + b := by unfold wrap64; omega
end Go.Proofs.YtlffgepnhhnadaaDoor.Pl
