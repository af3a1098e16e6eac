/- StreamFresh: what is kept where some blocks are written; rows that are written cell by cell. -/
import Derived.Test.YtlffgepnhhnadaaDoorHeads
import Derived.Laws.OwnMore
import Derived.ArgAppend
namespace Go.Proofs.YtlffgepnhhnadaaDoor.Pl
open Go.RowKit

/-- all blocks of w but those of X are as they were -/
structure KX (X : Nat → Prop) (w W : World) : Prop where
  os : W.os = w.os
  tape : W.tape = w.tape
  output : W.output = w.output
  size : w.heap.size ≤ W.heap.size
  block : ∀ b, b < w.heap.size → ¬ X b → W.heap[b]? = w.heap[b]?
theorem KX.refl (X : Nat → Prop) (w : World) : KX X w w := ⟨rfl, rfl, rfl, Nat.le_refl _, fun _ _ _ => rfl⟩
theorem KX.trans {X : Nat → Prop} {a b c : World} (h : KX X a b) (k : KX X b c) : KX X a c :=
  ⟨k.os.trans h.os, k.tape.trans h.tape, k.output.trans h.output, Nat.le_trans h.size k.size, fun i hi hx => (k.block i (Nat.lt_of_lt_of_le hi h.size) hx).trans (h.block i hi hx)⟩
theorem KX.weak {X Y : Nat → Prop} {w W : World} (h : KX X w W) (hx : ∀ b, b < w.heap.size → X b → Y b) : KX Y w W := ⟨h.os, h.tape, h.output, h.size, fun b hb hn => h.block b hb fun e => hn (hx b hb e)⟩
theorem KX.then {X Y Z : Nat → Prop} {a b c : World} (h : KX X a b) (k : KX Y b c) (hx : ∀ i, i < a.heap.size → X i → Z i) (hy : ∀ i, i < a.heap.size → Y i → Z i) : KX Z a c :=
  ⟨k.os.trans h.os, k.tape.trans h.tape, k.output.trans h.output, Nat.le_trans h.size k.size, fun i hi hz => (k.block i (Nat.lt_of_lt_of_le hi h.size) fun e => hz (hy i hi e)).trans (h.block i hi fun e => hz (hx i hi e))⟩
theorem KX.of_below {B : Nat} {w W : World} (h : Below B w W) : KX (fun b => B ≤ b) w W := ⟨h.os, h.tape, h.output, h.size, fun b _ hn => h.block b (by omega)⟩
theorem KX.of_new {w W : World} (h : Below w.heap.size w W) (X : Nat → Prop) : KX X w W := ⟨h.os, h.tape, h.output, h.size, fun b hb _ => h.block b hb⟩
theorem KX.of_grown {w W : World} {r : Option Nat} (h : w.grownBy W r) : KX (fun b => r = some b) w W := ⟨h.os, h.tape, h.output, h.size, fun b hb hn => h.block b hb fun e => hn e.symm⟩
theorem KX.below {X : Nat → Prop} {w W : World} {B : Nat} (h : KX X w W) (hB : B ≤ w.heap.size) (hx : ∀ b, b < B → ¬ X b) : Below B w W := ⟨h.os, h.tape, h.output, h.size, fun b hb => h.block b (by omega) (hx b hb)⟩
theorem KX.keeps {X : Nat → Prop} {w W : World} {ok : Nat → Prop} (h : KX X w W) (hx : ∀ b, ok b → ¬ X b) : Keeps ok w W := fun b _ hb ho _ => (h.block b (lt_of_heap ho) (hx b hb)).trans ho
theorem KX.own {X : Nat → Prop} {w W : World} {B k n : Nat} {e : TypeId} {v : Value} {xs : List Value} (h : KX X w W) (ho : w.ownsRow B e k v n xs) (hx : ∀ b, v.ownBlock = some b → ¬ X b) : W.ownsRow B e k v n xs := by
  have hl := World.ownsRow.lt ho
  refine ⟨ho.1, ho.2.imp id ?_⟩
  rintro ⟨g, cap, cur, rfl, hb, hg, rest⟩
  exact ⟨g, cap, cur, rfl, hb, (h.block g (hl g rfl).2 (hx g rfl)).trans hg, rest⟩
theorem KX.cell {X : Nat → Prop} {w W : World} {a : Addr} {v : Value} (h : KX X w W) (hc : w.cell? a = some v) (hx : ¬ X a.block) : W.cell? a = some v := (World.cell?_of_block (h.block _ (lt_of_cell hc) hx)).trans hc
theorem KX.errT {X : Nat → Prop} {w W : World} (h : KX X w W) (hg : ErrT w) (hx : ¬ X 0) : ErrT W := h.cell hg hx

/-- a piece of made bytes -/
theorem own_take {B : Nat} {w : World} {g n c : Nat} {l : List UInt8} (h : OwnB B w (.slice (some ⟨g, 0, none⟩) n c) l) (hl : l.length ≤ 140737488355328) (k : Nat) (hk : k ≤ l.length) :
    Bytes (fun b => B ≤ b) w (.slice (some ⟨g, 0, none⟩) k c) (l.take k) := by
  have hb := OwnB.bytes h hl
  obtain ⟨A, c', hv, h1, h2, h3⟩ := hb
  simp only [Value.slice.injEq] at hv
  obtain ⟨rfl, rfl, rfl⟩ := hv
  refine ⟨_, _, by rw [List.length_take, Nat.min_eq_left hk], by rw [List.length_take]; omega, by rw [List.length_take]; omega, ?_⟩
  rcases h3 with h3 | ⟨b, o, ha, hok, hc⟩
  · exact .inl (by rw [List.map_take, h3, List.take_nil])
  · refine .inr ⟨b, o, ha, hok, fun i u hu => hc i u ?_⟩
    rw [List.map_take, List.getElem?_take] at hu
    split at hu
    · exact hu
    · cases hu
/-- .. from a place on, up to another -/
theorem own_mid {B : Nat} {w : World} {g n c : Nat} {l : List UInt8} (h : OwnB B w (.slice (some ⟨g, 0, none⟩) n c) l) (hl : l.length ≤ 140737488355328) (i k : Nat) (hi : i ≤ k) (hk : k ≤ l.length) :
    Bytes (fun b => B ≤ b) w (.slice (if c = i then some ⟨g, 0, none⟩ else some ⟨g, i, none⟩) (k - i) (c - i)) ((l.take k).drop i) := by
  have hb := own_take h hl k hk
  have hlen : (l.take k).length = k := by rw [List.length_take]; omega
  have h2 := Bytes.drop (show Bytes (fun b => B ≤ b) w (.slice (some ⟨g, 0, none⟩) (l.take k).length c) (l.take k) by rw [hlen]; exact hb) i (by omega)
  rw [hlen, Nat.zero_add] at h2
  obtain ⟨A, c', hv, h3, h4, h5⟩ := h2
  simp only [Value.slice.injEq] at hv
  obtain ⟨rfl, _, rfl⟩ := hv
  by_cases hc : c = i
  · obtain ⟨A', c'', hv', h1', _, _⟩ := hb
    simp only [Value.slice.injEq] at hv'
    rw [hlen] at h1'
    obtain ⟨_, _, hv'⟩ := hv'
    rw [if_pos hc]
    have hz : (l.take k).drop i = [] := List.drop_eq_nil_of_le (by omega)
    rw [hz]
    exact ⟨_, _, by rw [show k - i = 0 by omega]; rfl, by simp, by simp, .inl rfl⟩
  · rw [if_neg hc]
    exact ⟨_, _, by rw [List.length_drop, hlen], by rw [List.length_drop, hlen] at h3 ⊢; exact h3, h4, h5⟩
theorem own_form0 {w : World} {B : Nat} {e : TypeId} {k n : Nat} {v : Value} {xs : List Value} (h : w.ownsRow B e k v n xs) (hn : 0 < n) : ∃ g c, v = .slice (some ⟨g, 0, none⟩) n c := by
  rcases h.2 with ⟨_, rfl⟩ | ⟨g, cap, cur, rfl, _⟩
  · omega
  · exact ⟨_, _, rfl⟩
def setL : List Value → Nat → Array Value → Array Value
  | [], _, cur => cur
  | v :: vs, o, cur => setL vs (o + 1) (cur.setIfInBounds o v)
theorem setL_toList : ∀ (vs : List Value) (o : Nat) (cur : Array Value), o + vs.length ≤ cur.size → (setL vs o cur).toList = cur.toList.take o ++ vs ++ cur.toList.drop (o + vs.length)
  | [], o, cur, _ => by simp [setL]
  | v :: vs, o, cur, h => by
    rw [List.length_cons] at h
    have ih := setL_toList vs (o + 1) (cur.setIfInBounds o v) (by simp; omega)
    have ho : o < cur.toList.length := by simp; omega
    rw [setL, ih, Array.toList_setIfInBounds, List.drop_set_of_lt (by omega), List.take_add_one, List.getElem?_set_self ho, List.take_set, List.set_eq_of_length_le (by rw [List.length_take]; omega), List.length_cons]
    simp only [Option.toList_some, List.append_assoc, List.nil_append, List.cons_append]
    rw [show o + 1 + vs.length = o + (vs.length + 1) by omega]
theorem setL_size : ∀ (vs : List Value) (o : Nat) (cur : Array Value), (setL vs o cur).size = cur.size
  | [], _, _ => rfl
  | v :: vs, o, cur => by rw [setL, setL_size vs]; simp
theorem heap_setL (g : Nat) (e : TypeId) : ∀ (vs : List Value) (o : Nat) (w : World) (cur : Array Value), w.heap[g]? = some (.cells cur e (0, 0)) → (w.setCells g o vs).heap[g]? = some (.cells (setL vs o cur) e (0, 0))
  | [], _, _, _, h => h
  | v :: vs, o, w, cur, h => heap_setL g e vs (o + 1) _ _ (heap_setCell_same w g o cur e v h)
/-- append in the room of a row -/
theorem own_room {B g n cap sz m : Nat} {e : TypeId} {w : World} {olds news : List Value} (h : w.ownsRow B e sz (.slice (some ⟨g, 0, none⟩) n cap) n olds) (hr : n + m ≤ cap) (hn : news.length = m * sz) :
    (w.setCells g (n * sz) news).ownsRow B e sz (.slice (some ⟨g, 0, none⟩) (n + m) cap) (n + m) (olds ++ news) ∧ w.grownBy (w.setCells g (n * sz) news) (some g) := by
  obtain ⟨r1, r2, r3, r4⟩ := setCells_rest g news (n * sz) w
  refine ⟨⟨by rw [List.length_append, h.1, hn, Nat.add_mul], ?_⟩, ⟨r1, r2, r3, Nat.le_of_eq r4.symm, fun k _ hk => setCells_block g news (n * sz) w k fun e => hk (by rw [e])⟩⟩
  rcases h.2 with ⟨h', _⟩ | ⟨g', cap', cur, h', hb, hg, hnc, hcm, hcs, htake⟩
  · cases h'
  · simp only [Value.slice.injEq, Option.some.injEq, Addr.mk.injEq, and_true, true_and] at h'
    obtain ⟨rfl, rfl⟩ := h'
    have hle : (n + m) * sz ≤ cap * sz := Nat.mul_le_mul_right _ hr
    have hle2 : n * sz + news.length ≤ cur.size := by rw [hn, ← Nat.add_mul, hcs]; exact hle
    refine .inr ⟨g, cap, setL news (n * sz) cur, rfl, hb, heap_setL g e news (n * sz) w cur hg, hr, hcm, by rw [setL_size]; exact hcs, ?_⟩
    rw [setL_toList news (n * sz) cur hle2, htake, Nat.add_mul, ← hn, List.take_append_of_le_length (by rw [List.length_append, h.1]; exact Nat.le_refl _), List.take_of_length_le (by rw [List.length_append, h.1]; exact Nat.le_refl _)]
/-- append of one element to a row of the call's own: what was in the row stands -/
theorem list_append_keep {w : World} {ops : Array Oper} {rest : List Oper} {o : Oper} {a : Act} {Q : Exit → Act → World → Prop} {t e : TypeId} {i : TypeInfo} {z : Value} {sz bytes : Nat} (hu : Tryd.prog.underlying t = some (.slice e)) (hi : Tryd.prog.info? e = some i) (hz : i.zero = some z) (hsz : i.size = sz) (hby : i.bytes = bytes) (hzs : z.cells.size = sz) (h0 : 0 < sz) (hb : bytes ≤ 64) (hgd : o.guard = none) (s x : Operand)
    (ho : o.op = .call { callee := .builtin .append, args := #[s, x], argTypes := #[t, t] }) {B n yb : Nat} (v : Value) {olds news : List Value} (hs : a.eval s = v) (hx : a.eval x = .slice (some ⟨yb, 0, none⟩) 1 1) (hv : w.ownsRow B e sz v n olds) (hn : news.length = sz) (hc : ∀ j u, news[j]? = some u → w.cell? ⟨yb, j, none⟩ = some u) (h1 : ∀ u ∈ news, u.oneCell' = true)
    (hl : n ≤ 1099511627776) (hB : B ≤ w.heap.size)
    (h : ∀ r w', w'.ownsRow B e sz r (n + 1) (olds ++ news) → w.grownBy w' v.ownBlock → (∀ b, r.ownBlock = some b → v.ownBlock = some b ∨ w.heap.size ≤ b) → (∀ g, v.ownBlock = some g → ∀ j u, olds[j]? = some u → w'.cell? ⟨g, j, none⟩ = some u) → wpList Tryd.prog ops Q rest (a.put o.dst r) w') :
    wpList Tryd.prog ops Q (o :: rest) a w := by
  have hlim : (n + 1) * bytes ≤ 140737488355328 := Nat.le_trans (Nat.mul_le_mul_left _ hb) (by omega)
  rcases hv.2 with ⟨rfl, rfl⟩ | ⟨g, cap, cur, rfl, hbg, hg, hnc, hcm, hcs, htake⟩
  · refine wpList_append_grows w hgd s x t ho e i z sz bytes hu hi hz hsz hby hzs h0 none 0 0 [] hs (fun _ => ⟨rfl, rfl⟩) (by simp) (fun b e => by cases e) ⟨yb, 0, none⟩ 1 1 news hx (by omega) (fun j u hj => by rw [add0]; exact hc j u hj) h1 (by omega) (by unfold maxLen; omega) hlim ?_
    intro v' w' h2 h3
    have he : olds = [] := List.eq_nil_of_length_eq_zero (by rw [hv.1]; simp)
    subst he
    refine h v' w' ⟨h2.1, h2.2.imp id fun ⟨g, c, cur, q1, q2, q3⟩ => ⟨g, c, cur, q1, Nat.le_trans hB q2, q3⟩⟩ h3 (fun b e => .inr (World.ownsRow.lt h2 b e).1) (fun g e => by cases e)
  · have hcell := fun j u (hj : olds[j]? = some u) => World.ownsRow.cells hv (g := g) rfl j u hj
    have hg0 : g < w.heap.size := (World.ownsRow.lt hv g rfl).2
    refine wpList_append_arg w hgd s x t ho e i z sz bytes hu hi hz hsz hby hzs h0 g 0 n cap olds hs hv.1 (fun j u hj => by rw [Nat.zero_add, ← add0]; exact hcell j u hj) ⟨yb, 0, none⟩ 1 1 news hx (by omega) (fun j u hj => by rw [add0]; exact hc j u hj) h1 ?_ (by unfold maxLen; omega) hlim ?_ ?_
    · intro hr j hj
      have hle : (n + 1) * sz ≤ cap * sz := Nat.mul_le_mul_right _ hr
      rw [Nat.add_mul, Nat.one_mul] at hle
      have hjl : n * sz + j < cur.size := by omega
      rw [Nat.zero_add]
      exact ⟨by simp [World.cell?, hg, hjl], by simp [World.frozen?, hg]⟩
    · intro hr
      obtain ⟨q1, q2⟩ := own_room (m := 1) (news := news) hv hr (by omega)
      rw [Nat.zero_add]
      refine h _ _ q1 q2 (fun b e => .inl e) (fun g' e j u hj => ?_)
      have e' : g = g' := by simpa [Value.ownBlock] using e
      subst e'
      have := World.ownsRow.cells q1 (g := g) rfl j u (by rw [List.getElem?_append_left (List.getElem?_eq_some_iff.1 hj).1]; exact hj)
      rwa [add0] at this
    · intro _ v' w' h2 h3
      refine h v' w' ⟨h2.1, h2.2.imp id fun ⟨g, c, cur, q1, q2, q3⟩ => ⟨g, c, cur, q1, Nat.le_trans hB q2, q3⟩⟩ ⟨h3.os, h3.tape, h3.output, h3.size, fun k hk _ => h3.block k hk (by simp)⟩ (fun b e => .inr (World.ownsRow.lt h2 b e).1) (fun g' e j u hj => ?_)
      have e' : g = g' := by simpa [Value.ownBlock] using e
      subst e'
      have := hcell j u hj
      rw [add0] at this
      exact (World.cell?_of_block (a := ⟨g, j, none⟩) (h3.block g hg0 (by simp))).trans this
theorem list_set_fill {α : Type} (l : List α) (x : α) (j : Nat) (h : j < l.length) : (List.replicate j x ++ l.drop j).set j x = List.replicate (j + 1) x ++ l.drop (j + 1) := by
  rw [List.set_append_right _ _ (by simp), List.length_replicate, Nat.sub_self, List.drop_eq_getElem_cons h, List.set_cons_zero, List.replicate_succ', List.append_assoc]; rfl
end Go.Proofs.YtlffgepnhhnadaaDoor.Pl
