/- StreamFresh: records are written over: what stands. -/
import Derived.Test.YtlffgepnhhnadaaDoorFreC
namespace Go.Proofs.YtlffgepnhhnadaaDoor.Pl
open Go.RowKit

/-- the blocks of the first m records -/
def RB (rs : List Value) (m b : Nat) : Prop := ∃ j u, j < m ∧ rs[j]? = some u ∧ u.ownBlock = some b
/-- a record is all written over -/
def FillR (W : World) (rs : List Value) (j : Nat) : Prop := ∀ g n c, rs[j]? = some (.slice (some ⟨g, 0, none⟩) n c) → ∀ i, i < n → W.cell? ⟨g, i, none⟩ = some (.int .u8 221)
structure FSt (rs : List Value) (W0 : World) (m : Nat) (W : World) : Prop where
  kx : KX (RB rs m) W0 W
  fill : ∀ j, j < m → FillR W rs j
section
variable {B : Nat} {ok : Nat → Prop} {bs : List (List UInt8)} {rs : List Value} {W0 W : World} {m : Nat}
theorem FSt.start (rs : List Value) (W0 : World) : FSt rs W0 0 W0 := ⟨KX.refl _ _, fun j h => by omega⟩
theorem FSt.round (he : Each (RecB B ok W0) rs bs) (ha : ApB rs) (h : FSt rs W0 m W) {l : List UInt8} (hl : bs[m]? = some l) : ∃ v, rs[m]? = some v ∧ OwnB B W v l ∧ (∀ b, v.ownBlock = some b → ok b) := by
  obtain ⟨v, hv, ho, hb⟩ := he.at m l hl
  exact ⟨v, hv, h.kx.own ho fun b e ⟨j, u, hj, hu, hub⟩ => ha j m u v b hj hu hv hub e, hb⟩
theorem FSt.next (ha : ApB rs) (h : FSt rs W0 m W) {W' : World} {v : Value} (hv : rs[m]? = some v) (hk : KX (fun b => v.ownBlock = some b) W W') (hf : FillR W' rs m) : FSt rs W0 (m + 1) W' := by
  refine ⟨h.kx.then hk (fun b _ ⟨j, u, hj, hu, hub⟩ => ⟨j, u, by omega, hu, hub⟩) (fun b _ e => ⟨m, v, by omega, hv, e⟩), fun j hj => ?_⟩
  by_cases hjm : j = m
  · subst hjm; exact hf
  · intro g n c hu i hi
    exact hk.cell (h.fill j (by omega) g n c hu i hi) fun e => ha j m _ v g (by omega) hu hv rfl e
theorem RB.isOk (he : Each (RecB B ok W0) rs bs) {b : Nat} (h : RB rs m b) : ok b ∧ b < W0.heap.size := by
  obtain ⟨j, u, _, hu, hb⟩ := h
  obtain ⟨l, _, ho, hk⟩ := he.atv j u hu
  exact ⟨hk b hb, (World.ownsRow.lt ho b hb).2⟩
end
theorem recs_keep {B : Nat} {ok : Nat → Prop} {W W' : World} {X : Nat → Prop} {rs : List Value} {bs : List (List UInt8)} (he : Each (RecB B ok W) rs bs) (hk : KX X W W') (hx : ∀ b, ok b → b < W.heap.size → ¬ X b) : Each (RecB B ok W') rs bs :=
  he.imp fun _ _ h => ⟨hk.own h.1 fun b e => hx b (h.2 b e) (World.ownsRow.lt h.1 b e).2, h.2⟩
end Go.Proofs.YtlffgepnhhnadaaDoor.Pl
