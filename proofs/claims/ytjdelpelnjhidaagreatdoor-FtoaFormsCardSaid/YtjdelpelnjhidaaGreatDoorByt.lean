/- Slices of bytes that a call made: appends, and a string of them. -/
import Derived.Test.YtjdelpelnjhidaaGreatDoorQuoP
import Derived.Deep.AppendLies
import Derived.Deep.RegionWith
import Derived.Deep.RegionHeld3
namespace Go.Proofs.YtjdelpelnjhidaaGreatDoor.Pl
open Go.RowKit
/-- a slice of bytes that the call made, from its block's head on -/
def OwnB (base : Nat) (w : World) (v : Value) (l : List UInt8) : Prop := w.ownsRow base 5 1 v l.length (l.map bv)

theorem Tryz.size5x : (Tryz.prog.info? 5).map (·.size) = some 1 := by kernel_rfl
theorem Tryz.info5x : (Tryz.prog.info? 5).map (fun i => (i.zero, i.size, i.bytes)) = some (some (.int .u8 0), 1, 1) := by kernel_rfl

theorem OwnB.bytes {base : Nat} {w : World} {v : Value} {l : List UInt8} (h : OwnB base w v l) (hl : l.length ≤ 140737488355328) : Bytes (fun b => base ≤ b) w v l := by
  have hc := fun {g : Nat} (hg : v.ownBlock = some g) => World.ownsRow.cells h hg
  have h' := h
  obtain ⟨hlen, hv⟩ := h'
  rcases hv with ⟨rfl, hx⟩ | ⟨g, cap, cur, rfl, hb, hg, hn, hm, hs, ht⟩
  · have h0 : l = [] := by simpa using hx
    subst h0
    exact Sl.nil _ _
  · refine ⟨_, cap, rfl, hn, hl, .inr ⟨g, 0, rfl, hb, fun i c hi => ?_⟩⟩
    have := hc (g := g) rfl i c hi
    unfold Addr.add at this
    simp only [Nat.zero_add] at this ⊢
    split at this <;> simp_all

theorem ownB_of {w : World} {g n base : Nat} {l : List UInt8} {t : TypeId} (h : w.heap[g]? = some (.cells (l.map bv).toArray t (0, 0))) (ht : t = 5) (hn : n = l.length) (hb : base ≤ g) (hl : l.length ≤ 140737488355328) : OwnB base w (.slice (some ⟨g, 0, none⟩) n n) l := by
  subst ht hn
  exact ⟨by simp, .inr ⟨g, l.length, (l.map bv).toArray, rfl, hb, h, Nat.le_refl _, by unfold maxLen; omega, by simp, by simp [List.take_of_length_le]⟩⟩

theorem OwnB.form {B : Nat} {w : World} {v : Value} {l : List UInt8} (h : OwnB B w v l) (hn : l ≠ []) : ∃ g cap, v = .slice (some ⟨g, 0, none⟩) l.length cap ∧ B ≤ g ∧ g < w.heap.size ∧ ∀ j u, (l.map bv)[j]? = some u → w.cell? ((⟨g, 0, none⟩ : Addr).add j) = some u := by
  have hc := fun {g : Nat} (hg : v.ownBlock = some g) => World.ownsRow.cells h hg
  have hlt := World.ownsRow.lt h
  rcases h.2 with ⟨_, hx⟩ | ⟨g, cap, cur, rfl, hb, hg, _⟩
  · simp at hx; exact (hn hx).elim
  · exact ⟨g, cap, rfl, hb, (hlt g rfl).2, hc rfl⟩

theorem OwnB.below {B : Nat} {w w1 w2 : World} {v : Value} {l : List UInt8} (h : OwnB B w v l) (hb : Below w1.heap.size w1 w2) (he : w1.heap = w.heap) : OwnB B w2 v l := by
  refine ⟨h.1, ?_⟩
  rcases h.2 with hn | ⟨g, cap, cur, rfl, hB, hg, rest⟩
  · exact .inl hn
  · refine .inr ⟨g, cap, cur, rfl, hB, ?_, rest⟩
    rw [hb.block g (by rw [he]; exact lt_of_heap hg), he]; exact hg

/-- append of a made slice to a made slice, as a step of a region -/
theorem step_append {w : World} {ops : Array Oper} {o : Oper} {a : Act} {K : Act → World → Prop} {Q : Exit → Act → World → Prop} {E : Prop} (hgd : o.guard = none) (s x : Operand)
    (ho : o.op = .call { callee := .builtin .append, args := #[s, x], argTypes := #[65, 65] }) {B B' : Nat} (v y : Value) {l m : List UInt8} (hs : a.eval s = v) (hx : a.eval x = y) (hv : OwnB B w v l) (hy : OwnB B' w y m) (hm : m ≠ []) (hl : l.length + m.length ≤ 140737488355328) (hB : B ≤ w.heap.size)
    (h : ∀ g cap w', OwnB B w' (.slice (some ⟨g, 0, none⟩) (l.length + m.length) cap) (l ++ m) → w.grownBy w' v.ownBlock → (v.ownBlock = some g ∨ g = w.heap.size) → g < w'.heap.size → K (a.put o.dst (.slice (some ⟨g, 0, none⟩) (l.length + m.length) cap)) w') :
    if Region.wanted o (yielded ops a.tmps) = true then Oper.wp Tryz.prog o a w K Q else E := by
  obtain ⟨i0, hi, hz0, hz1, hz2⟩ := info_parts Tryz.info5x
  obtain ⟨g2, c2, rfl, _, _, hcell⟩ := hy.form hm
  refine step_append_lies w hgd s x 65 ho B 5 i0 (.int .u8 0) 1 1 Tryz.underlying65 hi hz0 hz1 hz2 rfl (by decide) v l.length (l.map bv) hs hv ⟨g2, 0, none⟩ m.length c2 (m.map bv) hx (by simp) hcell (by simp [bv, Value.oneCell']) (List.length_pos_iff.2 hm) (by unfold maxLen; omega) (by omega) hB w.heap.size rfl ?_
  intro g cap w' h2 h3 h4 h5
  refine h g cap w' ?_ h3 h4 h5
  unfold OwnB
  rw [List.map_append, List.length_append]; exact h2

/-- .. in the list of a plain region -/
theorem list_append {w : World} {ops : Array Oper} {rest : List Oper} {o : Oper} {a : Act} {Q : Exit → Act → World → Prop} (hgd : o.guard = none) (s x : Operand)
    (ho : o.op = .call { callee := .builtin .append, args := #[s, x], argTypes := #[65, 65] }) {B B' : Nat} (v y : Value) {l m : List UInt8} (hs : a.eval s = v) (hx : a.eval x = y) (hv : OwnB B w v l) (hy : OwnB B' w y m) (hm : m ≠ []) (hl : l.length + m.length ≤ 140737488355328) (hB : B ≤ w.heap.size)
    (h : ∀ g cap w', OwnB B w' (.slice (some ⟨g, 0, none⟩) (l.length + m.length) cap) (l ++ m) → w.grownBy w' v.ownBlock → (v.ownBlock = some g ∨ g = w.heap.size) → g < w'.heap.size → wpList Tryz.prog ops Q rest (a.put o.dst (.slice (some ⟨g, 0, none⟩) (l.length + m.length) cap)) w') :
    wpList Tryz.prog ops Q (o :: rest) a w := by
  obtain ⟨i0, hi, hz0, hz1, hz2⟩ := info_parts Tryz.info5x
  obtain ⟨g2, c2, rfl, _, _, hcell⟩ := hy.form hm
  refine wpList_append_lies w hgd s x 65 ho B 5 i0 (.int .u8 0) 1 1 Tryz.underlying65 hi hz0 hz1 hz2 rfl (by decide) v l.length (l.map bv) hs hv ⟨g2, 0, none⟩ m.length c2 (m.map bv) hx (by simp) hcell (by simp [bv, Value.oneCell']) (List.length_pos_iff.2 hm) (by unfold maxLen; omega) (by omega) hB w.heap.size rfl ?_
  intro g cap w' h2 h3 h4 h5
  refine h g cap w' ?_ h3 h4 h5
  unfold OwnB
  rw [List.map_append, List.length_append]; exact h2

/-- a made slice of one byte -/
theorem one_byte (w : World) (x : UInt8) : OwnB w.heap.size (w.alloc (.cells #[bv x] 5)) (.slice (some ⟨w.heap.size, 0, none⟩) 1 1) [x] :=
  ownB_of (l := [x]) (n := 1) (World.alloc_heap_new w _) rfl rfl (Nat.le_refl _) (by simp)

/-- append of a made slice to a made slice -/
theorem addn (b o j : Nat) : (⟨b, o, none⟩ : Addr).add j = ⟨b, o + j, none⟩ := by
  cases j <;> simp [Addr.add]
theorem conv_take {ok : Nat → Prop} {w : World} {b o c : Nat} {l : List UInt8} (h : Bytes ok w (.slice (some ⟨b, o, none⟩) l.length c) l) (k : Nat) (hk : k ≤ l.length) (h0 : l ≠ []) :
    (convert 65 9 (.slice (some ⟨b, o, none⟩) k c)).run Tryz.prog w = .ok (.string ⟨(l.take k).toArray⟩) w := by
  have hl : (l.take k).length = k := by rw [List.length_take]; omega
  obtain ⟨A', c', hv, _, _, h3⟩ := h
  simp only [Value.slice.injEq, true_and] at hv
  obtain ⟨rfl, rfl⟩ := hv
  obtain ⟨b', o', hA, _, _, hc⟩ := h3.at (by simpa using h0)
  simp only [Option.some.injEq, Addr.mk.injEq, and_true] at hA
  obtain ⟨rfl, rfl⟩ := hA
  have := run_convert_bytes_back (P := Tryz.prog) w 65 9 5 ⟨b, o, none⟩ c (l.take k) Tryz.underlying65 Tryz.underlying5 Tryz.underlying9 (fun j hj => by
    rw [addn]
    refine hc j _ ?_
    have hj2 : j < l.length := by rw [hl] at hj; omega
    rw [List.getElem_take, List.getElem?_map, List.getElem?_eq_getElem hj2]
    rfl)
  rw [hl] at this
  exact this

end Go.Proofs.YtjdelpelnjhidaaGreatDoor.Pl
