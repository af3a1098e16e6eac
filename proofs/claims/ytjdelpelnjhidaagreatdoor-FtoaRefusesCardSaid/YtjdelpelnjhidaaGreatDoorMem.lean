/- Memory words: rows of cells, slices, bytes, points, trees, as lists; and what keeps them. No conditions; nothing of the program. -/
import Derived.WalkKit
import Derived.Below
import Derived.Lib.Hide
import Derived.Laws.AppendOwn
import Derived.RangeFuncOwn
namespace Go.Proofs.YtjdelpelnjhidaaGreatDoor.Pl
open Go.RowKit

/-- of the rows of cells in ok nothing has turned -/
def Keeps (ok : Nat → Prop) (w w' : World) : Prop := ∀ b o, ok b → w.heap[b]? = some o → o.isCells = true → w'.heap[b]? = some o
theorem Keeps.refl (ok : Nat → Prop) (w : World) : Keeps ok w w := fun _ _ _ h _ => h
theorem Keeps.trans {ok : Nat → Prop} {a b c : World} (h : Keeps ok a b) (k : Keeps ok b c) : Keeps ok a c :=
  fun i o hi hl hc => k i o hi (h i o hi hl hc) hc
theorem lt_of_heap {w : World} {b : Nat} {o : Obj} (h : w.heap[b]? = some o) : b < w.heap.size := (Array.getElem?_eq_some_iff.1 h).1
theorem Keeps.of_below {B : Nat} {w w' : World} (h : Below B w w') : Keeps (· < B) w w' := fun i _ hi hl _ => (h.block i hi).trans hl
theorem Keeps.mono {ok ok' : Nat → Prop} {w w' : World} (h : Keeps ok w w') (hk : ∀ b, b < w.heap.size → ok' b → ok b) : Keeps ok' w w' := fun i o hi hl hc => h i o (hk i (lt_of_heap hl) hi) hl hc
theorem below_keeps {w w' : World} (h : Below w.heap.size w w') (ok : Nat → Prop) : Keeps ok w w' := fun i _ _ hl _ => (h.block i (lt_of_heap hl)).trans hl

theorem cells_of_cell {w : World} {a : Addr} {v : Value} (h : w.cell? a = some v) : ∃ o, w.heap[a.block]? = some o ∧ o.isCells = true := by
  unfold World.cell? at h
  cases ho : w.heap[a.block]? with
  | none => rw [ho] at h; simp at h
  | some o =>
    rw [ho] at h
    cases o <;> first | exact ⟨_, rfl, rfl⟩ | simp at h
theorem Keeps.cell {ok : Nat → Prop} {w w' : World} (k : Keeps ok w w') {a : Addr} {v : Value} (hb : ok a.block) (h : w.cell? a = some v) : w'.cell? a = some v := by
  obtain ⟨o, ho, hc⟩ := cells_of_cell h
  have e : w'.heap[a.block]? = w.heap[a.block]? := (k _ _ hb ho hc).trans ho.symm
  rw [World.cell?_of_block (w := w) e]; exact h

/-- cells that follow one another, in a block of ok -/
def Row (ok : Nat → Prop) (w : World) (A : Option Addr) (cs : List Value) : Prop :=
  cs = [] ∨ ∃ b o, A = some ⟨b, o, none⟩ ∧ ok b ∧ ∀ i c, cs[i]? = some c → w.cell? ⟨b, o + i, none⟩ = some c

theorem lt_of_cell {w : World} {a : Addr} {v : Value} (h : w.cell? a = some v) : a.block < w.heap.size := by
  apply Classical.byContradiction
  intro hn
  unfold World.cell? at h
  rw [Array.getElem?_eq_none (by omega)] at h
  simp at h

theorem Row.nil (ok : Nat → Prop) (w : World) (A : Option Addr) : Row ok w A [] := .inl rfl
theorem Row.keeps {ok : Nat → Prop} {w w' : World} {A : Option Addr} {cs : List Value} (h : Row ok w A cs) (k : Keeps ok w w') : Row ok w' A cs := by
  rcases h with h | ⟨b, o, ha, hb, h⟩
  · exact .inl h
  · exact .inr ⟨b, o, ha, hb, fun i c hc => k.cell (a := ⟨b, o + i, none⟩) hb (h i c hc)⟩
theorem Row.mono {ok ok' : Nat → Prop} {w : World} {A : Option Addr} {cs : List Value} (h : Row ok w A cs) (hk : ∀ b, b < w.heap.size → ok b → ok' b) : Row ok' w A cs := by
  rcases h with h | ⟨b, o, ha, hb, h⟩
  · exact .inl h
  · cases cs with
    | nil => exact .inl rfl
    | cons c cs => exact .inr ⟨b, o, ha, hk b (lt_of_cell (h 0 c rfl)) hb, h⟩
theorem Row.at {ok : Nat → Prop} {w : World} {A : Option Addr} {cs : List Value} (h : Row ok w A cs) (hn : cs ≠ []) :
    ∃ b o, A = some ⟨b, o, none⟩ ∧ ok b ∧ b < w.heap.size ∧ ∀ i c, cs[i]? = some c → w.cell? ⟨b, o + i, none⟩ = some c := by
  rcases h with h | ⟨b, o, ha, hb, h⟩
  · exact (hn h).elim
  · cases cs with
    | nil => exact (hn rfl).elim
    | cons c cs => exact ⟨b, o, ha, hb, lt_of_cell (h 0 c rfl), h⟩

/-- a slice of n elements that lie in these cells -/
def Sl (ok : Nat → Prop) (w : World) (v : Value) (n : Nat) (cs : List Value) : Prop := ∃ A c, v = .slice A n c ∧ n ≤ c ∧ n ≤ 140737488355328 ∧ Row ok w A cs
theorem Sl.keeps {ok : Nat → Prop} {w w' : World} {v : Value} {n : Nat} {cs : List Value} (h : Sl ok w v n cs) (k : Keeps ok w w') : Sl ok w' v n cs := by
  obtain ⟨A, c, h1, h2, h4, h3⟩ := h; exact ⟨A, c, h1, h2, h4, h3.keeps k⟩
theorem Sl.mono {ok ok' : Nat → Prop} {w : World} {v : Value} {n : Nat} {cs : List Value} (h : Sl ok w v n cs) (hk : ∀ b, b < w.heap.size → ok b → ok' b) : Sl ok' w v n cs := by
  obtain ⟨A, c, h1, h2, h4, h3⟩ := h; exact ⟨A, c, h1, h2, h4, h3.mono hk⟩
theorem Sl.nil (ok : Nat → Prop) (w : World) : Sl ok w (.slice none 0 0) 0 [] := ⟨none, 0, rfl, Nat.le_refl _, by omega, .inl rfl⟩

/-- bytes -/
def bv (b : UInt8) : Value := .int .u8 b.toNat
def Bytes (ok : Nat → Prop) (w : World) (v : Value) (l : List UInt8) : Prop := Sl ok w v l.length (l.map bv)

/-- points: two patterns each -/
abbrev Pt := Nat × Nat
def ptCells : List Pt → List Value
  | [] => []
  | p :: l => .int .u64 p.1 :: .int .u64 p.2 :: ptCells l
def PtOk (p : Pt) : Prop := p.1 < 18446744073709551616 ∧ p.2 < 18446744073709551616
def Pts (ok : Nat → Prop) (w : World) (v : Value) (l : List Pt) : Prop := (∀ p ∈ l, PtOk p) ∧ Sl ok w v l.length (ptCells l)
theorem Pts.keeps {ok : Nat → Prop} {w w' : World} {v : Value} {l : List Pt} (h : Pts ok w v l) (k : Keeps ok w w') : Pts ok w' v l := ⟨h.1, h.2.keeps k⟩
theorem Pts.mono {ok ok' : Nat → Prop} {w : World} {v : Value} {l : List Pt} (h : Pts ok w v l) (hk : ∀ b, b < w.heap.size → ok b → ok' b) : Pts ok' w v l := ⟨h.1, h.2.mono hk⟩
theorem ptCells_length (l : List Pt) : (ptCells l).length = 2 * l.length := by induction l with | nil => rfl | cons p l ih => simp [ptCells, ih]; omega
theorem ptCells_at (l : List Pt) : ∀ (i : Nat) (p : Pt), l[i]? = some p → (ptCells l)[i * 2]? = some (.int .u64 p.1) ∧ (ptCells l)[i * 2 + 1]? = some (.int .u64 p.2) := by
  induction l with
  | nil => intro i p h; simp at h
  | cons q l ih =>
    intro i p h
    cases i with
    | zero => simp at h; subst h; exact ⟨rfl, rfl⟩
    | succ i =>
      have := ih i p (by simpa using h)
      rw [show (i + 1) * 2 = i * 2 + 1 + 1 from by omega]
      simpa [ptCells] using this
theorem ptCells_append (l m : List Pt) : ptCells (l ++ m) = ptCells l ++ ptCells m := by induction l with | nil => rfl | cons p l ih => simp [ptCells, ih]

/-- lists of such slices: one cell each -/
inductive Each {α : Type} (R : Value → α → Prop) : List Value → List α → Prop
  | nil : Each R [] []
  | cons {v : Value} {x : α} {vs : List Value} {xs : List α} : R v x → Each R vs xs → Each R (v :: vs) (x :: xs)
theorem Each.length {α : Type} {R : Value → α → Prop} {vs : List Value} {xs : List α} (h : Each R vs xs) : vs.length = xs.length := by induction h with | nil => rfl | cons _ _ ih => simp [ih]
theorem Each.imp {α : Type} {R R' : Value → α → Prop} {vs : List Value} {xs : List α} (h : Each R vs xs) (k : ∀ v x, R v x → R' v x) : Each R' vs xs := by induction h with | nil => exact .nil | cons a _ ih => exact .cons (k _ _ a) ih
theorem Each.at {α : Type} {R : Value → α → Prop} {vs : List Value} {xs : List α} (h : Each R vs xs) : ∀ (i : Nat) (x : α), xs[i]? = some x → ∃ v, vs[i]? = some v ∧ R v x := by
  induction h with
  | nil => intro i x h; simp at h
  | cons a _ ih =>
    intro i x h
    cases i with
    | zero => simp at h; subst h; exact ⟨_, rfl, a⟩
    | succ i => simpa using ih i x (by simpa using h)
theorem Each.append {α : Type} {R : Value → α → Prop} {vs us : List Value} {xs ys : List α} (h : Each R vs xs) (k : Each R us ys) : Each R (vs ++ us) (xs ++ ys) := by
  induction h with | nil => exact k | cons a _ ih => exact .cons a ih

/-- a tree, as the program's Geom tells it -/
inductive G where
  | mk (kind : Int) (line : List Pt) (rings : List (List Pt)) (parts : List G)
def G.kind : G → Int | .mk k _ _ _ => k
def G.line : G → List Pt | .mk _ l _ _ => l
def G.rings : G → List (List Pt) | .mk _ _ r _ => r
def G.parts : G → List G | .mk _ _ _ p => p

mutual
/-- the four cells of a tree -/
def IsG (ok : Nat → Prop) (w : World) : G → List Value → Prop
  | .mk k l r p, cs => ∃ v1 v2 v3, cs = [.int .i64 k, v1, v2, v3] ∧ Pts ok w v1 l ∧ (∃ vs, Sl ok w v2 r.length vs ∧ Each (Pts ok w) vs r) ∧ ∃ ps, Sl ok w v3 p.length ps ∧ IsGs ok w p ps
/-- the cells of trees that follow one another -/
def IsGs (ok : Nat → Prop) (w : World) : List G → List Value → Prop
  | [], cs => cs = []
  | g :: gs, cs => ∃ c d, cs = c ++ d ∧ IsG ok w g c ∧ IsGs ok w gs d
end

theorem IsG.four {ok : Nat → Prop} {w : World} {g : G} {cs : List Value} (h : IsG ok w g cs) : cs.length = 4 := by
  cases g; simp only [IsG] at h; obtain ⟨v1, v2, v3, rfl, _⟩ := h; rfl
theorem IsGs.length {ok : Nat → Prop} {w : World} : ∀ {gs : List G} {cs : List Value}, IsGs ok w gs cs → cs.length = 4 * gs.length
  | [], _, h => by simp only [IsGs] at h; subst h; rfl
  | g :: gs, _, h => by
    simp only [IsGs] at h
    obtain ⟨c, d, rfl, h1, h2⟩ := h
    have := h2.length
    simp [h1.four, this]; omega

mutual
theorem IsG.keeps {ok : Nat → Prop} {w w' : World} (k : Keeps ok w w') : ∀ {g : G} {cs : List Value}, IsG ok w g cs → IsG ok w' g cs
  | .mk _ _ _ p, _, h => by
    simp only [IsG] at h ⊢
    obtain ⟨v1, v2, v3, h0, h1, ⟨vs, h2, h3⟩, ps, h4, h5⟩ := h
    exact ⟨v1, v2, v3, h0, Pts.keeps h1 k, ⟨vs, h2.keeps k, h3.imp fun _ _ h => Pts.keeps h k⟩, ps, h4.keeps k, IsGs.keeps k (gs := p) h5⟩
theorem IsGs.keeps {ok : Nat → Prop} {w w' : World} (k : Keeps ok w w') : ∀ {gs : List G} {cs : List Value}, IsGs ok w gs cs → IsGs ok w' gs cs
  | [], _, h => by simp only [IsGs] at h ⊢; exact h
  | g :: gs, _, h => by
    simp only [IsGs] at h ⊢
    obtain ⟨c, d, h0, h1, h2⟩ := h
    exact ⟨c, d, h0, IsG.keeps k (g := g) h1, IsGs.keeps k (gs := gs) h2⟩
end
mutual
theorem IsG.mono {ok ok' : Nat → Prop} {w : World} (hk : ∀ b, b < w.heap.size → ok b → ok' b) : ∀ {g : G} {cs : List Value}, IsG ok w g cs → IsG ok' w g cs
  | .mk _ _ _ p, _, h => by
    simp only [IsG] at h ⊢
    obtain ⟨v1, v2, v3, h0, h1, ⟨vs, h2, h3⟩, ps, h4, h5⟩ := h
    exact ⟨v1, v2, v3, h0, Pts.mono h1 hk, ⟨vs, h2.mono hk, h3.imp fun _ _ h => Pts.mono h hk⟩, ps, h4.mono hk, IsGs.mono hk (gs := p) h5⟩
theorem IsGs.mono {ok ok' : Nat → Prop} {w : World} (hk : ∀ b, b < w.heap.size → ok b → ok' b) : ∀ {gs : List G} {cs : List Value}, IsGs ok w gs cs → IsGs ok' w gs cs
  | [], _, h => by simp only [IsGs] at h ⊢; exact h
  | g :: gs, _, h => by
    simp only [IsGs] at h ⊢
    obtain ⟨c, d, h0, h1, h2⟩ := h
    exact ⟨c, d, h0, IsG.mono hk (g := g) h1, IsGs.mono hk (gs := gs) h2⟩
end
theorem IsGs.at {ok : Nat → Prop} {w : World} : ∀ {gs : List G} {cs : List Value}, IsGs ok w gs cs → ∀ (i : Nat) (g : G), gs[i]? = some g → ∃ c, IsG ok w g c ∧ ∀ j x, c[j]? = some x → cs[i * 4 + j]? = some x
  | [], _, _, i, g, hg => by simp at hg
  | g0 :: gs, _, h, i, g, hg => by
    simp only [IsGs] at h
    obtain ⟨c, d, rfl, h1, h2⟩ := h
    cases i with
    | zero =>
      simp at hg; subst hg
      refine ⟨c, h1, fun j x hj => ?_⟩
      have := List.getElem?_eq_some_iff.1 hj
      rw [show 0 * 4 + j = j from by omega, List.getElem?_append_left this.1]; exact hj
    | succ i =>
      obtain ⟨c', h3, h4⟩ := h2.at i g (by simpa using hg)
      refine ⟨c', h3, fun j x hj => ?_⟩
      rw [List.getElem?_append_right (by rw [h1.four]; omega), h1.four, show (i + 1) * 4 + j - 4 = i * 4 + j from by omega]
      exact h4 j x hj
theorem IsGs.append {ok : Nat → Prop} {w : World} : ∀ {gs hs : List G} {cs ds : List Value}, IsGs ok w gs cs → IsGs ok w hs ds → IsGs ok w (gs ++ hs) (cs ++ ds)
  | [], _, _, _, h, k => by simp only [IsGs] at h; subst h; exact k
  | g :: gs, _, _, _, h, k => by
    simp only [IsGs, List.cons_append] at h ⊢
    obtain ⟨c, d, rfl, h1, h2⟩ := h
    exact ⟨c, _, by rw [List.append_assoc], h1, h2.append k⟩
theorem IsGs.one {ok : Nat → Prop} {w : World} {g : G} {c : List Value} (h : IsG ok w g c) : IsGs ok w [g] c := by
  simp only [IsGs]; exact ⟨c, [], by simp, h, rfl⟩

/-- what a walk wants of a slice: its address where it has elements -/
theorem Sl.open {ok : Nat → Prop} {w : World} {v : Value} {n : Nat} {cs : List Value} (h : Sl ok w v n cs) (hn : cs ≠ []) :
    ∃ b o c, v = .slice (some ⟨b, o, none⟩) n c ∧ n ≤ c ∧ n ≤ 140737488355328 ∧ ok b ∧ b < w.heap.size ∧ ∀ i x, cs[i]? = some x → w.cell? ⟨b, o + i, none⟩ = some x := by
  obtain ⟨A, c, h1, h2, h4, h3⟩ := h
  obtain ⟨b, o, rfl, hb, hl, h5⟩ := h3.at hn
  exact ⟨b, o, c, h1, h2, h4, hb, hl, h5⟩

/-- a point's two cells, in the walk's spelling -/
theorem pt_cells {w : World} {b o : Nat} {l : List Pt} (h : ∀ i x, (ptCells l)[i]? = some x → w.cell? ⟨b, o + i, none⟩ = some x) (k : Nat) (p : Pt) (hk : l[k]? = some p) :
    w.cell? ⟨b, o + k * 2, none⟩ = some (.int .u64 p.1) ∧ w.cell? ⟨b, o + k * 2 + 1, none⟩ = some (.int .u64 p.2) := by
  obtain ⟨g1, g2⟩ := ptCells_at l k p hk
  exact ⟨h _ _ g1, by rw [Nat.add_assoc]; exact h _ _ g2⟩

/-- a tree behind a pointer -/
def AtG (ok : Nat → Prop) (w : World) (b o : Nat) (g : G) : Prop := ∃ v1 v2 v3, IsG ok w g [.int .i64 g.kind, v1, v2, v3] ∧ ok b ∧
  w.cell? ⟨b, o, none⟩ = some (.int .i64 g.kind) ∧ w.cell? ⟨b, o + 1, none⟩ = some v1 ∧ w.cell? ⟨b, o + 2, none⟩ = some v2 ∧ w.cell? ⟨b, o + 3, none⟩ = some v3
theorem AtG.keeps {ok : Nat → Prop} {w w' : World} {b o : Nat} {g : G} (h : AtG ok w b o g) (k : Keeps ok w w') : AtG ok w' b o g := by
  obtain ⟨v1, v2, v3, h0, hb, h1, h2, h3, h4⟩ := h
  exact ⟨v1, v2, v3, h0.keeps k, hb, k.cell hb h1, k.cell hb h2, k.cell hb h3, k.cell hb h4⟩
end Go.Proofs.YtjdelpelnjhidaaGreatDoor.Pl
