/- plumbref17's geometry: what its walk keeps, and its law's parts. -/
import Derived.Test.YtlffgepnhhnadaaDoorRfC
namespace Go.Proofs.YtlffgepnhhnadaaDoor.Pl
open Go.RowKit
variable {oc oc0 : Nat}

theorem StepW.undrew1 {B wb : Nat} {a b : World} (h : StepW B wb a.drew b) : StepW B wb a b := ⟨h.1, h.2.os, h.2.tape, h.2.output, h.2.size, h.2.block⟩
theorem IsWk.drew {B wb at_ : Nat} {w : World} {v : Value} {l : List UInt8} {deep : Int} {er : Option PErr} (h : IsWk B w wb v l at_ deep er oc) : IsWk B w.drew wb v l at_ deep er oc := ⟨h.base, h.ole, h.le, h.nz, h.bytes, h.mem⟩

/-- what came of a reader: its value, its place, its error -/
abbrev Gives {α : Type} (r : Except PErr (α × Nat)) (x : α) (a : Nat) (er : Option PErr) : Prop := match r with
  | .ok y => x = y.1 ∧ a = y.2 ∧ er = none
  | .error z => er = some z
theorem Gives.map {α β : Type} {r : Except PErr (α × Nat)} {x : α} {a : Nat} {er : Option PErr} (h : Gives r x a er) (g : α → β) : Gives (r.map fun y => (g y.1, y.2)) (g x) a er := by
  cases r with
  | error z => exact h
  | ok y => obtain ⟨rfl, rfl, rfl⟩ := h; exact ⟨rfl, rfl, rfl⟩
/-- a count, and what is read behind it -/
def thenR {β : Type} (r : Except PErr (Nat × Nat)) (k : Nat → Nat → Except PErr β) : Except PErr β :=
  match r with
  | .error e => .error e
  | .ok y => k y.1 y.2
/-- a loop's law: the whole, what was read, what is still to be read -/
def loopL {α : Type} (R : Except PErr (List α × Nat)) (f : Nat → Except PErr (α × Nat)) (m : Nat) (acc : List α) (a : Nat) : Option PErr → Prop
  | none => R = (manyR f m a).map fun r => (acc ++ r.1, r.2)
  | some z => R = .error z
theorem loopL_start {α : Type} {f : Nat → Except PErr (α × Nat)} {r : Except PErr (Nat × Nat)} {n a : Nat} {er : Option PErr} (h : Gives r n a er) : loopL (thenR r fun n a => manyR f n a) f n [] a er := by
  cases r with
  | error z => obtain rfl : er = some z := h; rfl
  | ok y =>
    obtain ⟨rfl, rfl, rfl⟩ := h
    show manyR f y.1 y.2 = _
    cases manyR f y.1 y.2 <;> simp [Except.map]
theorem loopL_next {α : Type} {R : Except PErr (List α × Nat)} {f : Nat → Except PErr (α × Nat)} {m a a' : Nat} {acc : List α} {x : α} {er : Option PErr} (h : loopL R f (m + 1) acc a none) (hx : Gives (f a) x a' er) : loopL R f m (acc ++ [x]) a' er := by
  have h : R = (manyR f (m + 1) a).map fun r => (acc ++ r.1, r.2) := h
  cases hf : f a with
  | error z =>
    rw [hf] at hx
    obtain rfl : er = some z := hx
    show R = .error z
    rw [h]; simp [manyR, hf, Except.map]
  | ok y =>
    rw [hf] at hx
    obtain ⟨rfl, rfl, rfl⟩ := hx
    show R = (manyR f m y.2).map _
    rw [h]
    simp only [manyR, hf]
    cases manyR f m y.2 <;> simp [Except.map]
theorem loopL_end {α : Type} {R : Except PErr (List α × Nat)} {f : Nat → Except PErr (α × Nat)} {a : Nat} {acc : List α} (h : loopL R f 0 acc a none) : R = .ok (acc, a) := by
  have h : R = (manyR f 0 a).map fun r => (acc ++ r.1, r.2) := h
  rw [h]; simp [manyR, Except.map]
theorem loopL_gives {α : Type} {R : Except PErr (List α × Nat)} {f : Nat → Except PErr (α × Nat)} {m a : Nat} {acc : List α} {er : Option PErr} (h : loopL R f m acc a er) (hm : er = none → m = 0) : Gives R acc a er := by
  cases er with
  | none => obtain rfl := hm rfl; rw [loopL_end h]; exact ⟨rfl, rfl, rfl⟩
  | some z => rw [show R = .error z from h]
theorem manyR_map {α β : Type} (f : Nat → Except PErr (α × Nat)) (g : α → β) : ∀ (n a : Nat), manyR (fun a => (f a).map fun y => (g y.1, y.2)) n a = (manyR f n a).map fun r => (r.1.map g, r.2)
  | 0, a => rfl
  | n + 1, a => by
    simp only [manyR]
    cases hf : f a with
    | error z => rfl
    | ok y =>
      have ih := manyR_map f g n y.2
      simp only [Except.map] at ih ⊢
      simp only [ih]
      cases manyR f n y.2 <;> rfl

/-- the geometry's law, tree alone -/
def treeR (l : List UInt8) (deep : Int) (f : Nat) (level home : Int) (at_ : Nat) : Except PErr (G × Nat) := (geomR l deep f level home at_).map fun x => (x.1.1, x.2)
section
variable {l : List UInt8} {deep level home : Int} {f at_ k : Nat} {lt : Bool}
theorem treeR_err {e : PErr} (h : headR l deep at_ level home = .error e) : treeR l deep (f + 1) level home at_ = .error e := by simp only [treeR, geomR_err h]; rfl
theorem treeR_one (h : headR l deep at_ level home = .ok (lt, 1)) : treeR l deep (f + 1) level home at_ = (placeR l lt (at_ + 5)).map fun r => (.mk 1 r.1 [] [], r.2) := by
  simp only [treeR, geomR, h, if_true]
  cases placeR l lt (at_ + 5) <;> rfl
theorem treeR_two (h : headR l deep at_ level home = .ok (lt, 2)) : treeR l deep (f + 1) level home at_ = (thenR (cntR l lt 16 false (at_ + 5)) fun n a => ptsR l lt n a).map fun r => (.mk 2 r.1 [] [], r.2) := by
  simp only [treeR, geomR, h, cnt_plain]
  rw [if_neg (by decide), if_pos trivial]
  cases countR l lt 16 (at_ + 5) with
  | error e => rfl
  | ok y => simp only [thenR]; cases ptsR l lt y.1 y.2 <;> rfl
theorem treeR_three (h : headR l deep at_ level home = .ok (lt, 3)) : treeR l deep (f + 1) level home at_ = (thenR (cntR l lt 20 false (at_ + 5)) fun n a => manyR (ringR l lt) n a).map fun r => (.mk 3 [] r.1 [], r.2) := by
  simp only [treeR, geomR, h, cnt_plain]
  rw [if_neg (by decide), if_neg (by decide), if_pos trivial]
  cases countR l lt 20 (at_ + 5) with
  | error e => rfl
  | ok y => simp only [thenR]; cases manyR (ringR l lt) y.1 y.2 <;> rfl
theorem treeR_more (h : headR l deep at_ level home = .ok (lt, k)) (h1 : k ≠ 1) (h2 : k ≠ 2) (h3 : k ≠ 3) : treeR l deep (f + 1) level home at_ = (thenR (cntR l lt (if k = 4 then 21 else 9) false (at_ + 5)) fun n a => manyR (treeR l deep f (level + 1) k) n a).map fun r => (.mk k [] [] r.1, r.2) := by
  have hm : ∀ n a, manyR (treeR l deep f (level + 1) k) n a = (manyR (geomR l deep f (level + 1) k) n a).map fun r => (r.1.map (·.1), r.2) := fun n a => manyR_map (geomR l deep f (level + 1) k) (·.1) n a
  simp only [treeR, geomR, h, cnt_plain, hm]
  rw [if_neg h1, if_neg h2, if_neg h3]
  cases countR l lt (if k = 4 then 21 else 9) (at_ + 5) with
  | error e => rfl
  | ok y => simp only [thenR]; cases manyR (geomR l deep f (level + 1) k) y.1 y.2 <;> rfl
end
theorem ring_then (l : List UInt8) (lt : Bool) (a : Nat) : ringR l lt a = thenR (cntR l lt 16 true a) fun n a => ptsR l lt n a := by
  rw [cnt_ring]; cases cntR l lt 16 true a <;> rfl
theorem cntR_len {l : List UInt8} {lt ring : Bool} {least at_ : Nat} {y : Nat × Nat} (h : cntR l lt least ring at_ = .ok y) : y.2 = at_ + 4 ∧ y.1 * least + y.2 ≤ l.length ∧ y.1 < 4294967296 := by
  unfold cntR at h
  split at h
  · cases h
  split at h
  · cases h
  split at h
  · cases h
  have := wd_lt l at_ 4 lt
  cases h
  refine ⟨rfl, ?_, by simp only; omega⟩
  simp only
  generalize wd l at_ 4 lt * least = y at *
  omega

/-- pairs, in either state -/
theorem pairs_both {B wb a : Nat} {v : Value} {l : List UInt8} {deep : Int} {er : Option PErr} {r : Except PErr (Nat × Nat)} (little : Bool) (n : Nat) (w : World) (h : IsWk B w wb v l a deep er oc) (hB : B ≤ w.heap.size) (hr : Gives r n a er) (hl : ∀ y, r = .ok y → y.1 * 16 + y.2 ≤ l.length) :
    Calls Tryd.prog 135 #[.pointer (some ⟨wb, 0, none⟩), .bool little, .int .i64 n] w
      (WPost B w wb v l deep (fun x u w' => Pts (NewW w w' wb) w' u x) (thenR r fun n a => ptsR l little n a)) := by
  cases r with
  | error z =>
    obtain rfl : er = some z := hr
    refine (pairs_dead little n w h).mono ?_
    rintro e w' ⟨rfl, rfl⟩
    exact ⟨[], _, a, some z, _, rfl, ⟨by simp, Sl.nil _ _⟩, h, .refl _ _ _, rfl⟩
  | ok y =>
    obtain ⟨rfl, rfl, rfl⟩ := hr
    exact pairs_any little y.1 w h hB (by have := hl y rfl; omega)

/-- behind an append to its orders and the store of what it gave -/
theorem IsWk.note {B wb at_ g3 cap3 oc' : Nat} {w w2 w3 : World} {v ov : Value} {l : List UInt8} {deep : Int} {os os' : List Bool} (hp : IsWk B w wb v l at_ deep none oc) (hB : B ≤ w.heap.size)
    (hblk : w.heap[wb]? = some (.cells #[v, .int .i64 at_, .int .i64 deep, .int .i64 0, .int .i64 0, ov] 191 (0, 0))) (hown : OwnO B w ov os) (hle : os'.length ≤ oc') (hoc : oc' ≤ at_) (hne : ov.ownBlock ≠ some wb)
    (h2 : Below w.heap.size w w2) {len : Nat} (ho3 : OwnO B w3 (.slice (some ⟨g3, 0, none⟩) len cap3) os') (hgr : w2.grownBy w3 ov.ownBlock) (hg3 : ov.ownBlock = some g3 ∨ g3 = w2.heap.size) :
    IsWk B (w3.setCell ⟨wb, 5, none⟩ (.slice (some ⟨g3, 0, none⟩) len cap3)) wb v l at_ deep none oc' ∧ StepW B wb w (w3.setCell ⟨wb, 5, none⟩ (.slice (some ⟨g3, 0, none⟩) len cap3)) := by
  have hlt := hp.lt
  have hlt2 : wb < w2.heap.size := Nat.lt_of_lt_of_le hlt h2.size
  have hg : g3 ≠ wb := by
    rintro rfl
    rcases hg3 with h | h
    · exact hne h
    · omega
  have hb3 : w3.heap[wb]? = some (.cells #[v, .int .i64 at_, .int .i64 deep, .int .i64 0, .int .i64 0, ov] 191 (0, 0)) := by
    rw [hgr.block wb hlt2 (fun e => hne e.symm), h2.block wb hlt]; exact hblk
  have hBl : Below B w w3 := (h2.mono hB).grown hgr (Nat.le_trans hB h2.size) (fun k e => (World.ownsRow.lt hown k e).1)
  have hblk' : (w3.setCell ⟨wb, 5, none⟩ (.slice (some ⟨g3, 0, none⟩) len cap3)).heap[wb]? = some (.cells #[v, .int .i64 at_, .int .i64 deep, .int .i64 0, .int .i64 0, .slice (some ⟨g3, 0, none⟩) len cap3] 191 (0, 0)) := by
    have := heap_store (cs := [_, _, _, _, _, _]) hb3 (j := 5) (.slice (some ⟨g3, 0, none⟩) len cap3)
    simpa using this
  have hset : ∀ b, b ≠ wb → (w3.setCell ⟨wb, 5, none⟩ (.slice (some ⟨g3, 0, none⟩) len cap3)).heap[b]? = w3.heap[b]? := fun b hb => Below.heap_setCell w3 _ _ b hb
  have hK : KeepW wb w (w3.setCell ⟨wb, 5, none⟩ (.slice (some ⟨g3, 0, none⟩) len cap3)) := by
    intro b ⟨hb1, hb3', hb4⟩
    have hno := hb4 ov (by simp [World.cell?, hblk])
    refine ⟨?_, ?_, hb3', fun u hu => ?_⟩
    · rw [hset b hb3', hgr.block b (Nat.lt_of_lt_of_le hb1 h2.size) (fun e => hno e.symm), h2.block b hb1]
    · have := hgr.size; have := h2.size; simp [World.setCell]; omega
    · simp [World.cell?, hblk'] at hu
      subst hu
      rcases hg3 with h | h
      · rw [h] at hno; simpa [Value.ownBlock] using hno
      · have := h2.size
        simp only [Value.ownBlock, ne_eq, Option.some.injEq]
        omega
  exact ⟨⟨hp.base, hoc, hp.le, hp.nz, hp.bytes.walk hK, _, os', hblk', World.ownsRow.kept ho3 (grownBy_set w3 ⟨wb, 5, none⟩ _) (.inr (by simpa [Value.ownBlock] using hg)), hle, by simpa [Value.ownBlock] using hg⟩, hK, hBl.setCell hp.base _⟩

/-- behind a store into something made since -/
theorem IsWk.set {B wb a0 a g : Nat} {w1 W : World} {v : Value} {l : List UInt8} {deep : Int} {er0 er : Option PErr} (h0 : IsWk B w1 wb v l a0 deep er0 oc0) (hs : StepW B wb w1 W) (h : IsWk B W wb v l a deep er oc) (hg : w1.heap.size ≤ g) (ha : AptW W wb g) (hB : B ≤ w1.heap.size) (j : Nat) (u : Value) :
    IsWk B (W.setCell ⟨g, j, none⟩ u) wb v l a deep er oc ∧ StepW B wb w1 (W.setCell ⟨g, j, none⟩ u) ∧ ∀ b, AptW W wb b → AptW (W.setCell ⟨g, j, none⟩ u) wb b := by
  obtain ⟨o1, o2, o3, _⟩ := IsWk.other h0 hs h (some g) (grownBy_set W ⟨g, j, none⟩ u) (fun _ hb => by cases hb; exact ⟨hg, ha⟩) hB
  exact ⟨o1, o2, o3⟩

/-- the list that a loop grows, in cell j of the box gb -/
structure GrowW (B : Nat) (w8 : World) (wb gb : Nat) (v : Value) (l : List UInt8) (deep : Int) (a : Nat) (er : Option PErr) (oc : Nat) (cs : List Value) (j : Nat) (t : TypeId) (sz n : Nat) (vs : List Value) (sv : Value) (W : World) : Prop where
  wk : IsWk B W wb v l a deep er oc
  step : StepW B wb w8 W
  box : W.heap[gb]? = some (.cells (cs.set j sv).toArray 51 (0, 0))
  apt : AptW W wb gb
  own : OwnW (gb + 1) W wb t sz sv n vs
def GrowOkW (W : World) (wb gb : Nat) (sv : Value) (b : Nat) : Prop := (AptW W wb b ∧ gb < b) ∧ sv.ownBlock ≠ some b
section
variable {B : Nat} {w8 : World} {wb gb : Nat} {v : Value} {l : List UInt8} {deep : Int} {a : Nat} {er : Option PErr} {oc : Nat} {cs : List Value} {j : Nat} {t : TypeId} {sz n : Nat} {vs : List Value} {sv : Value} {W : World}
theorem GrowW.start (kd : Value) (j : Nat) (sz : Nat) (hj : j = 2 ∨ j = 3) (hp : IsWk B W wb v l a deep er oc) (hk : StepW B wb w8 W) (ha : AptW W wb gb) (hbox : W.heap[gb]? = some (.cells #[kd, .slice none 0 0, .slice none 0 0, .slice none 0 0] 51 (0, 0))) :
    GrowW B w8 wb gb v l deep a er oc [kd, .slice none 0 0, .slice none 0 0, .slice none 0 0] j t sz 0 [] (.slice none 0 0) W :=
  ⟨hp, hk, by rcases hj with rfl | rfl <;> simpa using hbox, ha, OwnW.nil _ _ _ _ _⟩
theorem GrowW.call {a2 oc2 : Nat} {er2 : Option PErr} {W2 : World} (h : GrowW B w8 wb gb v l deep a er oc cs j t sz n vs sv W) (hp : IsWk B W2 wb v l a2 deep er2 oc2) (hs : StepW B wb W W2) :
    GrowW B w8 wb gb v l deep a2 er2 oc2 cs j t sz n vs sv W2 ∧ Keeps (GrowOkW W wb gb sv) W W2 ∧ ∀ b, GrowOkW W wb gb sv b → GrowOkW W2 wb gb sv b :=
  ⟨⟨hp, h.step.trans hs, (hs.1 _ h.apt).1.trans h.box, (hs.1 _ h.apt).2, h.own.keep hs.1⟩, hs.1.keeps.mono fun _ _ hb => hb.1.1, fun b hb => ⟨⟨(hs.1 b hb.1.1).2, hb.1.2⟩, hb.2⟩⟩
theorem GrowW.grow {a0 : Nat} {er0 : Option PErr} {n' : Nat} {vs' : List Value} {W' W3 : World} {g cap : Nat} (hgb : w8.heap.size ≤ gb) (hB : B ≤ w8.heap.size) (h0 : IsWk B w8 wb v l a0 deep er0 oc0) (h : GrowW B w8 wb gb v l deep a er oc cs j t sz n vs sv W) (hal : Below W.heap.size W W')
    (ho3 : W3.ownsRow (gb + 1) t sz (.slice (some ⟨g, 0, none⟩) n' cap) n' vs') (hgr : W'.grownBy W3 sv.ownBlock) (hg : sv.ownBlock = some g ∨ g = W'.heap.size) (hgl : g < W3.heap.size) :
    GrowW B w8 wb gb v l deep a er oc cs j t sz n' vs' (.slice (some ⟨g, 0, none⟩) n' cap) (W3.setCell ⟨gb, j, none⟩ (.slice (some ⟨g, 0, none⟩) n' cap)) ∧
    Keeps (GrowOkW W wb gb sv) W (W3.setCell ⟨gb, j, none⟩ (.slice (some ⟨g, 0, none⟩) n' cap)) ∧
    ∀ b, GrowOkW W wb gb sv b → GrowOkW (W3.setCell ⟨gb, j, none⟩ (.slice (some ⟨g, 0, none⟩) n' cap)) wb gb (.slice (some ⟨g, 0, none⟩) n' cap) b := by
  obtain ⟨o1, o2, o3, o4⟩ := OwnW.grow h0 h.step h.wk h.own hal ho3 hgr hg hgl hB (by omega)
  have hgo : sv.ownBlock ≠ some gb := fun e => by have := (World.ownsRow.lt h.own.own gb e).1; omega
  obtain ⟨q1, q2, q3⟩ := o4 gb h.apt hgo
  obtain ⟨s1, s2, s3⟩ := IsWk.set h0 o2 o1 hgb q2 hB j (.slice (some ⟨g, 0, none⟩) n' cap)
  have hset : ∀ b, b ≠ gb → (W3.setCell ⟨gb, j, none⟩ (.slice (some ⟨g, 0, none⟩) n' cap)).heap[b]? = W3.heap[b]? := fun b hb => Below.heap_setCell W3 _ _ b hb
  refine ⟨⟨s1, s2, ?_, s3 _ q2, ⟨World.ownsRow.kept o3.own (grownBy_set W3 ⟨gb, j, none⟩ _) (.inr (by simp only [Value.ownBlock, ne_eq, Option.some.injEq]; exact q3)), fun b hb => s3 b (o3.apt b hb)⟩⟩, ?_, ?_⟩
  · have := heap_store (cs := cs.set j sv) (q1.trans h.box) (j := j) (.slice (some ⟨g, 0, none⟩) n' cap)
    rw [List.set_set] at this
    exact this
  · intro b o hb ho _
    rw [hset b (by have := hb.1.2; omega)]
    exact (o4 b hb.1.1 hb.2).1.trans ho
  · intro b hb
    exact ⟨⟨s3 b (o4 b hb.1.1 hb.2).2.1, hb.1.2⟩, by simp only [Value.ownBlock, ne_eq, Option.some.injEq]; exact (o4 b hb.1.1 hb.2).2.2⟩
end
end Go.Proofs.YtlffgepnhhnadaaDoor.Pl
