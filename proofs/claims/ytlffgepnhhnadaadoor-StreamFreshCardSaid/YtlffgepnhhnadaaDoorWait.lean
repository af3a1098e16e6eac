/- stream.Reader's state: what waits, and an append to it. -/
import Derived.Test.YtlffgepnhhnadaaDoorRec
import Derived.Deep.Upon
import Derived.ArgAppend
namespace Go.Proofs.YtlffgepnhhnadaaDoor.Pl
open Go.RowKit

/-- bytes in memory of the reader's own, maybe behind others that were read -/
def WaitS (B rb : Nat) (w : World) (wv : Value) (l : List UInt8) : Prop :=
  (wv = .slice none 0 0 ∧ l = []) ∨ ∃ g off cap, wv = .slice (some ⟨g, off, none⟩) l.length cap ∧ B ≤ g ∧ g ≠ rb ∧ g < w.heap.size ∧ l.length ≤ cap ∧ cap ≤ maxLen ∧
    (∀ j u, (l.map bv)[j]? = some u → w.cell? ⟨g, off + j, none⟩ = some u) ∧ ∀ j, j < cap → (w.cell? ⟨g, off + j, none⟩).isSome = true ∧ w.frozen? ⟨g, off + j, none⟩ = false
theorem WaitS.shape {B rb : Nat} {w : World} {wv : Value} {l : List UInt8} (h : WaitS B rb w wv l) : ∃ A c, wv = .slice A l.length c ∧ l.length ≤ c ∧ c ≤ maxLen := by
  rcases h with ⟨rfl, rfl⟩ | ⟨g, off, cap, rfl, _, _, _, h1, h2, _⟩
  · exact ⟨_, _, rfl, by simp, by simp⟩
  · exact ⟨_, _, rfl, h1, h2⟩
theorem WaitS.keep {B rb : Nat} {w w' : World} {wv : Value} {l : List UInt8} (h : WaitS B rb w wv l) (hs : w.heap.size ≤ w'.heap.size) (hk : ∀ g, wv.ownBlock = some g → w'.heap[g]? = w.heap[g]?) : WaitS B rb w' wv l := by
  rcases h with h | ⟨g, off, cap, rfl, h1, h2, h3, h4, h5, h6, h7⟩
  · exact .inl h
  · have e := hk g rfl
    exact .inr ⟨g, off, cap, rfl, h1, h2, Nat.lt_of_lt_of_le h3 hs, h4, h5, fun j u hj => (World.cell?_of_block (a := ⟨g, off + j, none⟩) e).trans (h6 j u hj),
      fun j hj => ⟨by rw [World.cell?_of_block (a := ⟨g, off + j, none⟩) e]; exact (h7 j hj).1, (World.frozen?_of_block (a := ⟨g, off + j, none⟩) e).trans (h7 j hj).2⟩⟩
theorem WaitS.bytes {B rb : Nat} {w : World} {wv : Value} {l : List UInt8} (h : WaitS B rb w wv l) (hl : l.length ≤ 140737488355328) : Bytes (fun b => wv.ownBlock = some b) w wv l := by
  rcases h with ⟨rfl, rfl⟩ | ⟨g, off, cap, rfl, h1, h2, h3, h4, h5, h6, h7⟩
  · exact ⟨_, _, rfl, by simp, by simp, .inl rfl⟩
  · exact ⟨_, _, rfl, h4, hl, .inr ⟨g, off, rfl, rfl, h6⟩⟩
theorem WaitS.own {B rb : Nat} {w : World} {wv : Value} {l : List UInt8} (h : WaitS B rb w wv l) : ∀ g, wv.ownBlock = some g → B ≤ g ∧ g ≠ rb ∧ g < w.heap.size := by
  rcases h with ⟨rfl, rfl⟩ | ⟨g, off, cap, rfl, h1, h2, h3, _⟩
  · intro g hg; cases hg
  · intro g' hg; cases hg; exact ⟨h1, h2, h3⟩
/-- what is read goes -/
theorem WaitS.drop {B rb : Nat} {w : World} {g off cap : Nat} {l : List UInt8} (h : WaitS B rb w (.slice (some ⟨g, off, none⟩) l.length cap) l) (n : Nat) (hn : n ≤ l.length) :
    WaitS B rb w (.slice (if cap = n then some ⟨g, off, none⟩ else some ⟨g, off + n, none⟩) (l.length - n) (cap - n)) (l.drop n) := by
  rcases h with ⟨h, _⟩ | ⟨g', off', cap', hv, h1, h2, h3, h4, h5, h6, h7⟩
  · cases h
  simp only [Value.slice.injEq, Option.some.injEq, Addr.mk.injEq, and_true, true_and] at hv
  obtain ⟨⟨rfl, rfl⟩, rfl⟩ := hv
  have hl : (l.drop n).length = l.length - n := by simp
  by_cases hc : cap = n
  · rw [if_pos hc]
    refine .inr ⟨g, off, cap - n, by rw [hl], h1, h2, h3, by omega, by omega, fun j u hj => ?_, fun j hj => by omega⟩
    have := (List.getElem?_eq_some_iff.1 hj).1
    rw [List.length_map, hl] at this
    omega
  · rw [if_neg hc]
    refine .inr ⟨g, off + n, cap - n, by rw [hl], h1, h2, h3, by omega, by omega, fun j u hj => ?_, fun j hj => ?_⟩
    · rw [Nat.add_assoc]
      exact h6 _ _ (by rw [List.map_drop, List.getElem?_drop] at hj; exact hj)
    · rw [Nat.add_assoc]; exact h7 _ (by omega)

theorem setCells_block (b : Nat) : ∀ (vs : List Value) (o : Nat) (w : World) (i : Nat), i ≠ b → (w.setCells b o vs).heap[i]? = w.heap[i]?
  | [], _, _, _, _ => rfl
  | v :: vs, o, w, i, h => (setCells_block b vs (o + 1) (w.setCell ⟨b, o, none⟩ v) i h).trans (Below.heap_setCell w ⟨b, o, none⟩ v i h)
theorem setCells_rest (b : Nat) : ∀ (vs : List Value) (o : Nat) (w : World), (w.setCells b o vs).os = w.os ∧ (w.setCells b o vs).tape = w.tape ∧ (w.setCells b o vs).output = w.output ∧ (w.setCells b o vs).heap.size = w.heap.size
  | [], _, _ => ⟨rfl, rfl, rfl, rfl⟩
  | v :: vs, o, w => by
    obtain ⟨h1, h2, h3, h4⟩ := setCells_rest b vs (o + 1) (w.setCell ⟨b, o, none⟩ v)
    exact ⟨h1, h2, h3, h4.trans (by simp [World.setCell])⟩

theorem list_appendW {w : World} {ops : Array Oper} {rest : List Oper} {o : Oper} {a : Act} {Q : Exit → Act → World → Prop} (hgd : o.guard = none) (s x : Operand)
    (ho : o.op = .call { callee := .builtin .append, args := #[s, x], argTypes := #[35, 35] }) {B rb : Nat} {ok : Nat → Prop} (wv xv : Value) {l m : List UInt8} (hs : a.eval s = wv) (hx : a.eval x = xv) (hv : WaitS B rb w wv l) (hy : Bytes ok w xv m) (hl : l.length + m.length ≤ 140737488355328) (hB : B ≤ w.heap.size) (hrb : rb < w.heap.size)
    (h : ∀ v' w', WaitS B rb w' v' (l ++ m) → w.grownBy w' wv.ownBlock → (v'.ownBlock = wv.ownBlock ∨ ∃ g, v'.ownBlock = some g ∧ w.heap.size ≤ g) → wpList Tryd.prog ops Q rest (a.put o.dst v') w') :
    wpList Tryd.prog ops Q (o :: rest) a w := by
  obtain ⟨i0, hi, hz0, hz1, hz2⟩ := info_parts Tryd.info5x
  have hu := Tryd.underlying35
  obtain ⟨A, c, rfl, hc, hm2, hrow⟩ := hy
  by_cases hm : m = []
  · subst hm
    obtain ⟨A1, c1, rfl, hle, _⟩ := hv.shape
    refine wpList_plain hgd fun K hK' => ?_
    have hsrc : Src Tryd.prog i0.size 35 (.slice A 0 c) 0 [] w := by
      cases A with
      | none => exact Src.ofNil w hu c
      | some a => exact Src.ofSlice w hu a 0 c [] (by simp) (by simp) (by simp)
    have hrun := run_append_nothing (P := Tryd.prog) w 35 35 o.type 5 i0 hu hi A1 l.length c1 hle (.slice A 0 c) hsrc
    unfold Oper.wp
    simp only [List.length_nil] at hx
    simp [execOp, ho, resolve, invoke, builtin, hs, hx, hrun, Result.andThen]
    exact hK' _ _ (h _ w (by simpa using hv) ⟨rfl, rfl, rfl, Nat.le_refl _, fun _ _ _ => rfl⟩ (.inl rfl))
  obtain ⟨b2, o2, rfl, _, _, hcell⟩ := hrow.at (by simpa using hm)
  have hmp : 0 < m.length := List.length_pos_iff.2 hm
  have hone : ∀ u ∈ m.map bv, u.oneCell' = true := by simp [bv, Value.oneCell']
  have hgrow : ∀ v' w', w'.ownsRow w.heap.size 5 1 v' (l.length + m.length) (l.map bv ++ m.map bv) → w.grownBy w' none → wpList Tryd.prog ops Q rest (a.put o.dst v') w' := by
    intro v' w' ho' hg'
    have ho2 := ho'
    obtain ⟨_, ⟨_, hz⟩ | ⟨g, cap, cur, rfl, hgb, hgh, h4, h5, h6, h7⟩⟩ := ho2
    · omega
    refine h _ w' (.inr ⟨g, 0, cap, by rw [List.length_append], by omega, by omega, lt_of_heap hgh, by rw [List.length_append]; exact h4, h5, fun j u hj => ?_, fun j hj => ?_⟩) ⟨hg'.os, hg'.tape, hg'.output, hg'.size, fun k hk _ => hg'.block k hk (by simp)⟩ (.inr ⟨g, rfl, hgb⟩)
    · rw [Nat.zero_add]
      have := World.ownsRow.cells ho' (g := g) rfl j u (by rw [← List.map_append]; exact hj)
      rw [add0] at this; exact this
    · rw [Nat.zero_add]
      have hjl : j < cur.size := by omega
      exact ⟨by simp [World.cell?, hgh, hjl], by simp [World.frozen?, hgh]⟩
  rcases hv with ⟨rfl, rfl⟩ | ⟨g, off, cap, rfl, h1, h2, h3, h4, h5, h6, h7⟩
  · exact wpList_append_grows w hgd s x 35 ho 5 i0 (.int .u8 0) 1 1 hu hi hz0 hz1 hz2 rfl (by decide) none 0 0 [] hs (fun _ => ⟨rfl, rfl⟩) (by simp) (by simp) ⟨b2, o2, none⟩ m.length c (m.map bv) hx (by simp) (fun j u hj => by rw [addn]; exact hcell j u hj) hone (by omega) (by unfold maxLen; omega) (by omega) (by simpa using hgrow)
  · refine wpList_append_arg w hgd s x 35 ho 5 i0 (.int .u8 0) 1 1 hu hi hz0 hz1 hz2 rfl (by decide) g off l.length cap (l.map bv) hs (by simp) h6 ⟨b2, o2, none⟩ m.length c (m.map bv) hx (by simp) (fun j u hj => by rw [addn]; exact hcell j u hj) hone (fun hr j hj => ?_) (by unfold maxLen; omega) (by omega) (fun hr => ?_) (fun _ => hgrow)
    · rw [List.length_map] at hj
      rw [Nat.mul_one, Nat.add_assoc]; exact h7 _ (by omega)
    · obtain ⟨r1, r2, r3, r4⟩ := setCells_rest g (m.map bv) (off + l.length * 1) w
      refine h _ _ (.inr ⟨g, off, cap, by rw [List.length_append], h1, h2, by rw [r4]; exact h3, by rw [List.length_append]; exact hr, h5, fun j u hj => ?_, fun j hj => ?_⟩) ⟨r1, r2, r3, by rw [r4]; exact Nat.le_refl _, fun k hk hkr => setCells_block g _ _ _ k (fun e => hkr (by rw [e]; rfl))⟩ (.inl rfl)
      · rw [List.map_append] at hj
        by_cases hjl : j < l.length
        · rw [List.getElem?_append_left (by simpa using hjl)] at hj
          rw [World.cell?_setCells_out g _ _ _ _ (fun _ _ => .inl (by show off + j < _; omega))]
          exact h6 j u hj
        · rw [List.getElem?_append_right (by simpa using hjl), List.length_map] at hj
          have hjm := (List.getElem?_eq_some_iff.1 hj).1
          have := World.cell?_setCells_in g (m.map bv) (off + l.length * 1) w (fun i hi => by rw [List.length_map] at hi; rw [Nat.mul_one, Nat.add_assoc]; exact (h7 _ (by omega)).1) (j - l.length) hjm
          rw [show off + l.length * 1 + (j - l.length) = off + j by omega] at this
          rw [this, ← hj, List.getElem?_eq_getElem hjm]
      · rw [World.frozen?_setCells]
        refine ⟨?_, (h7 j hj).2⟩
        by_cases hin : l.length ≤ j ∧ j < l.length + m.length
        · have := World.cell?_setCells_in g (m.map bv) (off + l.length * 1) w (fun i hi => by rw [List.length_map] at hi; rw [Nat.mul_one, Nat.add_assoc]; exact (h7 _ (by omega)).1) (j - l.length) (by rw [List.length_map]; omega)
          rw [show off + l.length * 1 + (j - l.length) = off + j by omega] at this
          rw [this]; rfl
        · rw [World.cell?_setCells_out g _ _ _ _ (fun _ _ => by show off + j < _ ∨ _ ≤ off + j; rw [List.length_map]; omega)]
          exact (h7 j hj).1
end Go.Proofs.YtlffgepnhhnadaaDoor.Pl
