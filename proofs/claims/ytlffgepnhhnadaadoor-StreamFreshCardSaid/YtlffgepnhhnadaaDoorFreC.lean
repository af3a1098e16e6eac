/- StreamFresh: trees that a reader gave are written over: what stands. -/
import Derived.Test.YtlffgepnhhnadaaDoorFreA
namespace Go.Proofs.YtlffgepnhhnadaaDoor.Pl
open Go.RowKit

theorem own_shape {w : World} {B : Nat} {e : TypeId} {k n : Nat} {v : Value} {xs : List Value} (h : w.ownsRow B e k v n xs) : ∃ A c, v = .slice A n c := by
  rcases h.2 with ⟨rfl, rfl⟩ | ⟨g, cap, cur, rfl, _⟩
  · exact ⟨_, _, rfl⟩
  · exact ⟨_, _, rfl⟩
theorem own_type {w : World} {B : Nat} {e : TypeId} {k n b : Nat} {v : Value} {xs : List Value} (h : w.ownsRow B e k v n xs) (hb : v.ownBlock = some b) : ∃ cur, w.heap[b]? = some (.cells cur e (0, 0)) := by
  rcases h.2 with ⟨rfl, rfl⟩ | ⟨g, cap, cur, rfl, _, hg, _⟩
  · cases hb
  · have : g = b := by simpa [Value.ownBlock] using hb
    subst this
    exact ⟨cur, hg⟩
theorem own_apart {w : World} {B B' : Nat} {e e' : TypeId} {k k' n n' b : Nat} {v v' : Value} {xs xs' : List Value} (h : w.ownsRow B e k v n xs) (h' : w.ownsRow B' e' k' v' n' xs') (he : e ≠ e') (hb : v.ownBlock = some b) : v'.ownBlock ≠ some b := fun hb' => by
  obtain ⟨c1, h1⟩ := own_type h hb
  obtain ⟨c2, h2⟩ := own_type h' hb'
  rw [h1] at h2
  simp only [Option.some.injEq, Obj.cells.injEq] at h2
  exact he h2.2.1
theorem ob_eq0 {g n c j : Nat} (e : (Value.slice (some ⟨g, 0, none⟩) n c).ownBlock = some j) : j = g := by simpa [Value.ownBlock] using e.symm
/-- a row of whatever cells stands where cells are set -/
theorem own_any_set {w : World} {B : Nat} {e : TypeId} {k n : Nat} {v : Value} {xs : List Value} (h : w.ownsRow B e k v n xs) (g j : Nat) (u : Value) : ∃ xs', (w.setCell ⟨g, j, none⟩ u).ownsRow B e k v n xs' := by
  rcases h.2 with ⟨rfl, rfl⟩ | ⟨g', cap, cur, rfl, _⟩
  · exact ⟨xs, h.1, .inl ⟨rfl, rfl⟩⟩
  · by_cases hg : g' = g
    · subst hg; exact ⟨_, (World.ownsRow.stored h j u).1⟩
    · exact ⟨xs, World.ownsRow.kept h (grownBy_set w ⟨g, j, none⟩ u) (.inr fun e => hg (ob_eq0 e).symm)⟩
theorem pt_set1 (l : List Pt) : ∀ (j x y : Nat), ((ptCells l).set (j * 2) (.int .u64 x)).set (j * 2 + 1) (.int .u64 y) = ptCells (l.set j (x, y)) := by
  induction l with
  | nil => intro j x y; rfl
  | cons p l ih =>
    intro j x y
    cases j with
    | zero => rfl
    | succ j =>
      rw [show (j + 1) * 2 = j * 2 + 1 + 1 by omega]
      simp only [ptCells, List.set_cons_succ]
      rw [ih]

/-- the blocks of the first m trees' own lists -/
def TB (vg : List Value) (m b : Nat) : Prop := ∃ j u, j < m ∧ (vg[j * 4 + 1]? = some u ∨ vg[j * 4 + 3]? = some u) ∧ u.ownBlock = some b
/-- a tree's points are all written over -/
def Fill (W : World) (vg : List Value) (j : Nat) : Prop := ∀ g n c, vg[j * 4 + 1]? = some (.slice (some ⟨g, 0, none⟩) n c) → ∀ m, m < n → W.cell? ⟨g, m * 2, none⟩ = some (.int .u64 7) ∧ W.cell? ⟨g, m * 2 + 1, none⟩ = some (.int .u64 0)
def PartsOk (W : World) (gs : List G) (vg : List Value) : Prop := ∀ j u x, gs[j]? = some x → vg[j * 4 + 3]? = some u → ∃ ps, W.ownsRow 0 51 4 u x.parts.length ps
structure DSt (gs : List G) (vg : List Value) (W0 : World) (m : Nat) (W : World) : Prop where
  kx : KX (TB vg m) W0 W
  fill : ∀ j, j < m → Fill W vg j
  parts : PartsOk W gs vg
section
variable {ok : Nat → Prop} {gs : List G} {vg : List Value} {W0 W : World} {m : Nat}
theorem dst_tree (hn : IsNA ok W0 gs vg) {j : Nat} {x : G} (hx : gs[j]? = some x) : ∃ k v1 A2 n2 c2 v3 ps, (∀ i u, [.int .i64 k, v1, .slice A2 n2 c2, v3][i]? = some u → vg[j * 4 + i]? = some u) ∧
    OwnL ok W0 71 2 v1 x.line.length (ptCells x.line) ∧ OwnL ok W0 51 4 v3 x.parts.length ps := by
  obtain ⟨c, ⟨hg, a, v1, v2, v3, ps, rfl, h1, h2⟩, hat⟩ := hn.1.at j x hx
  obtain ⟨i1, D1, m1, r1, D2, m2, r2, D3, m3, r3, he⟩ := geom_shape hg
  simp only [List.cons.injEq, and_true] at he
  obtain ⟨rfl, _, rfl, _⟩ := he
  exact ⟨i1, v1, _, _, _, v3, ps, hat, h1, h2⟩
theorem DSt.start (hn : IsNA ok W0 gs vg) : DSt gs vg W0 0 W0 := by
  refine ⟨KX.refl _ _, fun j h => by omega, fun j u x hx hu => ?_⟩
  obtain ⟨k, v1, A2, n2, c2, v3, ps, hat, _, h2⟩ := dst_tree hn hx
  have := hat 3 v3 rfl
  rw [hu] at this
  cases this
  exact ⟨ps, h2.1⟩
theorem DSt.round (hn : IsNA ok W0 gs vg) (h : DSt gs vg W0 m W) {x : G} (hx : gs[m]? = some x) : ∃ k v1 A2 n2 c2 v3 ps, (∀ i u, [.int .i64 k, v1, .slice A2 n2 c2, v3][i]? = some u → vg[m * 4 + i]? = some u) ∧
    W.ownsRow 0 71 2 v1 x.line.length (ptCells x.line) ∧ W.ownsRow 0 51 4 v3 x.parts.length ps ∧ (∀ b, v1.ownBlock = some b → ok b) ∧ (∀ b, v3.ownBlock = some b → ok b) := by
  obtain ⟨k, v1, A2, n2, c2, v3, ps, hat, h1, h3⟩ := dst_tree hn hx
  obtain ⟨ps', hp⟩ := h.parts m v3 x hx (hat 3 v3 rfl)
  refine ⟨k, v1, A2, n2, c2, v3, ps', hat, h.kx.own h1.1 fun b hb ⟨j, u, hj, hu, hub⟩ => ?_, hp, h1.2, h3.2⟩
  rcases hu with hu | hu
  · exact hn.2 j m u v1 b hj hu (hat 1 v1 rfl) hub hb
  · obtain ⟨y, hy⟩ : ∃ y, gs[j]? = some y := by
      have h2 := (List.getElem?_eq_some_iff.1 hx).1
      exact ⟨_, List.getElem?_eq_getElem (by omega)⟩
    obtain ⟨_, _, _, _, _, v3', ps2, hat', _, h3'⟩ := dst_tree hn hy
    have := hat' 3 v3' rfl
    rw [hu] at this
    cases this
    exact own_apart h1.1 h3'.1 (by decide) hb hub
theorem DSt.next (hn : IsNA ok W0 gs vg) (h : DSt gs vg W0 m W) {x : G} {W' : World} {k v2 v1 v3 : Value} (hx : gs[m]? = some x) (hat : ∀ i u, [k, v1, v2, v3][i]? = some u → vg[m * 4 + i]? = some u)
    (hk : KX (fun b => v1.ownBlock = some b ∨ v3.ownBlock = some b) W W') (hf : Fill W' vg m) (hp : PartsOk W' gs vg) : DSt gs vg W0 (m + 1) W' := by
  have hb1 := fun b (e : v1.ownBlock = some b) => (⟨m, v1, by omega, .inl (hat 1 v1 rfl), e⟩ : TB vg (m + 1) b)
  have hb3 := fun b (e : v3.ownBlock = some b) => (⟨m, v3, by omega, .inr (hat 3 v3 rfl), e⟩ : TB vg (m + 1) b)
  refine ⟨h.kx.then hk (fun b _ ⟨j, u, hj, hu, hub⟩ => ⟨j, u, by omega, hu, hub⟩) (fun b _ e => e.elim (hb1 b) (hb3 b)), fun j hj => ?_, hp⟩
  by_cases hjm : j = m
  · subst hjm; exact hf
  · intro g n c hv i hi
    obtain ⟨c0, c1⟩ := h.fill j (by omega) g n c hv i hi
    have hne : ¬ (v1.ownBlock = some g ∨ v3.ownBlock = some g) := by
      rintro (e | e)
      · exact hn.2 j m _ v1 g (by omega) hv (hat 1 v1 rfl) rfl e
      · obtain ⟨y, hy⟩ : ∃ y, gs[j]? = some y := by
          have h2 := (List.getElem?_eq_some_iff.1 hx).1
          exact ⟨_, List.getElem?_eq_getElem (by omega)⟩
        obtain ⟨_, u1, _, _, _, _, _, hat', h1', _⟩ := dst_tree hn hy
        have hq := hat' 1 u1 rfl
        rw [hv] at hq
        cases hq
        obtain ⟨_, _, _, _, _, u3, ps3, hat3, _, h3'⟩ := dst_tree hn hx
        have hq3 := hat3 3 u3 rfl
        rw [hat 3 v3 rfl] at hq3
        cases hq3
        exact own_apart h1'.1 h3'.1 (by decide) rfl e
    exact ⟨hk.cell c0 hne, hk.cell c1 hne⟩
theorem PartsOk.kept {W' : World} {X : Nat → Prop} (h : PartsOk W gs vg) (hk : KX X W W') (hx : ∀ j u y, gs[j]? = some y → vg[j * 4 + 3]? = some u → ∀ b, u.ownBlock = some b → ¬ X b) : PartsOk W' gs vg := fun j u y hy hu => by
  obtain ⟨ps, hp⟩ := h j u y hy hu
  exact ⟨ps, hk.own hp (hx j u y hy hu)⟩
theorem PartsOk.line {W' : World} {v1 : Value} {n : Nat} {xs : List Value} (h : PartsOk W gs vg) (h1 : W.ownsRow 0 71 2 v1 n xs) (hk : KX (fun b => v1.ownBlock = some b) W W') : PartsOk W' gs vg :=
  h.kept hk fun j u y hy hu b hb e => by
    obtain ⟨ps, hp⟩ := h j u y hy hu
    exact own_apart h1 hp (by decide) e hb
theorem PartsOk.set (h : PartsOk W gs vg) (g j : Nat) (u : Value) : PartsOk (W.setCell ⟨g, j, none⟩ u) gs vg := fun i v y hy hv => by
  obtain ⟨ps, hp⟩ := h i v y hy hv
  exact own_any_set hp g j u
theorem TB.isOk (hn : IsNA ok W0 gs vg) {b : Nat} (h : TB vg m b) : ok b := by
  obtain ⟨j, u, _, hu, hb⟩ := h
  have hl : j < gs.length := by
    rcases hu with hu | hu
    · have := (List.getElem?_eq_some_iff.1 hu).1; rw [hn.1.len] at this; omega
    · have := (List.getElem?_eq_some_iff.1 hu).1; rw [hn.1.len] at this; omega
  obtain ⟨_, u1, _, _, _, u3, _, hat, h1, h3⟩ := dst_tree hn (List.getElem?_eq_getElem hl)
  rcases hu with hu | hu
  · have := hat 1 u1 rfl; rw [hu] at this; cases this; exact h1.2 b hb
  · have := hat 3 u3 rfl; rw [hu] at this; cases this; exact h3.2 b hb
end
theorem own_cellsF {w : World} {B : Nat} {e : TypeId} {k n : Nat} {v : Value} {xs : List Value} (h : w.ownsRow B e k v n xs) (hn : 0 < n) : ∃ g c, v = .slice (some ⟨g, 0, none⟩) n c ∧ B ≤ g ∧ g < w.heap.size ∧ ∀ j u, xs[j]? = some u → w.cell? ⟨g, j, none⟩ = some u := by
  have hh := h
  rcases h.2 with ⟨_, rfl⟩ | ⟨g, cap, cur, rfl, _⟩
  · omega
  · have hl := World.ownsRow.lt hh g rfl
    refine ⟨g, cap, rfl, hl.1, hl.2, fun j u hj => ?_⟩
    have := World.ownsRow.cells hh (g := g) rfl j u hj
    rwa [add0] at this
/-- .. of a point -/
theorem keep_pt {w : World} {ops : Array Oper} {rest : List Oper} {o : Oper} {a : Act} {Q : Exit → Act → World → Prop} (hgd : o.guard = none) (s x : Operand)
    (ho : o.op = .call { callee := .builtin .append, args := #[s, x], argTypes := #[48, 48] }) {B n yb : Nat} (v : Value) {olds : List Value} {u1 u2 : Value} (hs : a.eval s = v) (hx : a.eval x = .slice (some ⟨yb, 0, none⟩) 1 1) (hv : w.ownsRow B 71 2 v n olds)
    (hy : w.heap[yb]? = some (.cells #[u1, u2] 71 (0, 0))) (h1 : u1.oneCell' = true) (h2 : u2.oneCell' = true) (hl : n ≤ 1099511627776) (hB : B ≤ w.heap.size)
    (h : ∀ r w', w'.ownsRow B 71 2 r (n + 1) (olds ++ [u1, u2]) → w.grownBy w' v.ownBlock → (∀ b, r.ownBlock = some b → v.ownBlock = some b ∨ w.heap.size ≤ b) → (∀ g, v.ownBlock = some g → ∀ j u, olds[j]? = some u → w'.cell? ⟨g, j, none⟩ = some u) → wpList Tryd.prog ops Q rest (a.put o.dst r) w') :
    wpList Tryd.prog ops Q (o :: rest) a w := by
  obtain ⟨i0, hi, hz0, hz1, hz2⟩ := info_parts Tryd.info71x
  refine list_append_keep Tryd.under48x hi hz0 hz1 hz2 rfl (by decide) (by decide) hgd s x ho v hs hx hv (news := [u1, u2]) rfl (fun j u hj => cell_row (cs := [_, _]) hy hj) (fun u hu => ?_) hl hB h
  simp only [List.mem_cons, List.not_mem_nil, or_false] at hu
  rcases hu with rfl | rfl
  · exact h1
  · exact h2
/-- .. of a byte -/
theorem keep_by {w : World} {ops : Array Oper} {rest : List Oper} {o : Oper} {a : Act} {Q : Exit → Act → World → Prop} (hgd : o.guard = none) (s x : Operand)
    (ho : o.op = .call { callee := .builtin .append, args := #[s, x], argTypes := #[35, 35] }) {B n yb : Nat} (v : Value) {olds : List Value} {u1 : Value} (hs : a.eval s = v) (hx : a.eval x = .slice (some ⟨yb, 0, none⟩) 1 1) (hv : w.ownsRow B 5 1 v n olds)
    (hy : w.heap[yb]? = some (.cells #[u1] 5 (0, 0))) (h1 : u1.oneCell' = true) (hl : n ≤ 1099511627776) (hB : B ≤ w.heap.size)
    (h : ∀ r w', w'.ownsRow B 5 1 r (n + 1) (olds ++ [u1]) → w.grownBy w' v.ownBlock → (∀ b, r.ownBlock = some b → v.ownBlock = some b ∨ w.heap.size ≤ b) → (∀ g, v.ownBlock = some g → ∀ j u, olds[j]? = some u → w'.cell? ⟨g, j, none⟩ = some u) → wpList Tryd.prog ops Q rest (a.put o.dst r) w') :
    wpList Tryd.prog ops Q (o :: rest) a w := by
  obtain ⟨i0, hi, hz0, hz1, hz2⟩ := info_parts Tryd.info5x
  refine list_append_keep Tryd.underlying35 hi hz0 hz1 hz2 rfl (by decide) (by decide) hgd s x ho v hs hx hv (news := [u1]) rfl (fun j u hj => cell_row (cs := [_]) hy hj) (fun u hu => ?_) hl hB h
  simp only [List.mem_cons, List.not_mem_nil, or_false] at hu
  rw [hu]; exact h1
end Go.Proofs.YtlffgepnhhnadaaDoor.Pl
