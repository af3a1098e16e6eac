/- Lists of words in memory: what an argument names, what a call makes. -/
import Derived.Test.YtjdelpelnjhidaaGreatDoorMem
import Derived.Test.YtjdelpelnjhidaaGreatDoorNum
import Derived.Test.YtjdelpelnjhidaaGreatDoorProg
import Derived.Laws.OwnMore
import Derived.Laws.CopyOwn
namespace Go.Proofs.YtjdelpelnjhidaaGreatDoor.Pl
open Go.RowKit

theorem Tryz.size64x : (Tryz.prog.info? 22).map (·.size) = some 1 := by kernel_rfl
theorem Tryz.info64x : (Tryz.prog.info? 22).map (fun i => (i.zero, i.size, i.bytes)) = some (some (.int .u64 0), 1, 8) := by kernel_rfl
theorem addw0 (g j : Nat) : (⟨g, 0, none⟩ : Addr).add j = ⟨g, j, none⟩ := by
  unfold Addr.add
  split
  · rename_i h; simp_all
  · simp
def uv (n : Nat) : Value := .int .u64 n
theorem uv_one (l : List Nat) : ∀ u ∈ l.map uv, u.oneCell' = true := fun u hu => by
  obtain ⟨x, _, rfl⟩ := List.mem_map.1 hu; rfl
theorem uv_get (l : List Nat) (i x : Nat) (h : l[i]? = some x) : (l.map uv)[i]? = some (.int .u64 x) := by rw [List.getElem?_map, h]; rfl
/-- words that an argument names -/
def Wd (ok : Nat → Prop) (w : World) (v : Value) (l : List Nat) : Prop := W64 l ∧ Sl ok w v l.length (l.map uv)
theorem Wd.keeps {ok : Nat → Prop} {w w' : World} {v : Value} {l : List Nat} (h : Wd ok w v l) (k : Keeps ok w w') : Wd ok w' v l := ⟨h.1, h.2.keeps k⟩
theorem Wd.below {ok : Nat → Prop} {w w' : World} {v : Value} {l : List Nat} (h : Wd ok w v l) (k : Below w.heap.size w w') : Wd ok w' v l := h.keeps fun i _ _ hl _ => (k.block i (lt_of_heap hl)).trans hl
theorem Wd.mono {ok ok' : Nat → Prop} {w : World} {v : Value} {l : List Nat} (h : Wd ok w v l) (hk : ∀ b, b < w.heap.size → ok b → ok' b) : Wd ok' w v l := ⟨h.1, h.2.mono hk⟩
theorem Wd.nil (ok : Nat → Prop) (w : World) : Wd ok w (.slice none 0 0) [] := ⟨W64.nil, Sl.nil ok w⟩
theorem Wd.len {ok : Nat → Prop} {w : World} {v : Value} {l : List Nat} (h : Wd ok w v l) : l.length ≤ 140737488355328 := by obtain ⟨_, _, _, _, _, h, _⟩ := h; exact h
/-- words that a call made -/
def OwnN (B : Nat) (w : World) (v : Value) (l : List Nat) : Prop := W64 l ∧ l.length ≤ 140737488355328 ∧ w.ownsRow B 22 1 v l.length (l.map uv)
theorem OwnN.wd {B : Nat} {w : World} {v : Value} {l : List Nat} (h : OwnN B w v l) : Wd (fun b => B ≤ b) w v l := by
  obtain ⟨h1, h2, h3⟩ := h
  refine ⟨h1, ?_⟩
  have hh := h3
  rcases h3.2 with ⟨rfl, h0⟩ | ⟨g, cap, cur, rfl, hb, hg, hn, _⟩
  · rw [List.eq_nil_of_length_eq_zero h0]; exact Sl.nil _ _
  · refine ⟨_, _, rfl, hn, h2, .inr ⟨g, 0, rfl, hb, fun i c hc => ?_⟩⟩
    have := World.ownsRow.cells hh (g := g) rfl i c hc
    rw [Nat.zero_add]
    rwa [addw0] at this
theorem OwnN.below {B : Nat} {w w' : World} {v : Value} {l : List Nat} (h : OwnN B w v l) (k : Below w.heap.size w w') : OwnN B w' v l := by
  refine ⟨h.1, h.2.1, h.2.2.1, h.2.2.2.imp id ?_⟩
  rintro ⟨g, cap, cur, rfl, hb, hg, rest⟩
  exact ⟨g, cap, cur, rfl, hb, (k.block g (lt_of_heap hg)).trans hg, rest⟩
theorem OwnN.mono {B B' : Nat} {w : World} {v : Value} {l : List Nat} (h : OwnN B w v l) (hb : B' ≤ B) : OwnN B' w v l :=
  ⟨h.1, h.2.1, h.2.2.1, h.2.2.2.imp id fun ⟨g, c, cur, q1, q2, q3⟩ => ⟨g, c, cur, q1, Nat.le_trans hb q2, q3⟩⟩
/-- make of n words -/
theorem make_words (n : Nat) (w : World) (hn : n ≤ 17592186044416) : ∃ w1, (Instr.makeSlice 33 (.int .i64 n) (.int .i64 n)).run Tryz.prog w = .ok (.slice (some ⟨w.heap.size, 0, none⟩) n n) w1 ∧
    w1.heap[w.heap.size]? = some (.cells (((List.replicate n 0).map uv).toArray) 22 (0, 0)) ∧ Below w.heap.size w w1 := by
  obtain ⟨i0, hi, hz0, hz1, hz2⟩ := info_parts Tryz.info64x
  have hr := run_make (P := Tryz.prog) w 33 22 i0 (.int .u64 0) Tryz.underlying33 hi hz0 .i64 .i64 n n (by omega) (Int.le_refl _) (by rw [hz2]; omega) (by omega)
  rw [Int.toNat_natCast, hz1, Nat.mul_one] at hr
  refine ⟨_, hr, ?_, (Below.refl _ _).alloc (Nat.le_refl _) _⟩
  rw [World.alloc_heap_new]
  have : madeCells #[Value.int .u64 0] n = ((List.replicate n 0).map uv).toArray := by
    rw [List.map_replicate, ← Array.toList_inj, toList_madeCells_one]; rfl
  rw [show (Value.int .u64 0).cells = #[Value.int .u64 0] from rfl, this]
end Go.Proofs.YtjdelpelnjhidaaGreatDoor.Pl
