/- plumblaw27.read: what its loop keeps. -/
import Derived.Test.YtlffgepnhhnadaaDoorHeads
namespace Go.Proofs.YtlffgepnhhnadaaDoor.Pl
open Go.RowKit

/-- the call's own blocks that neither the reader nor the list writes -/
def OkR (w W : World) (rb : Nat) (av : Value) (b : Nat) : Prop := AptS W rb b ∧ w.heap.size ≤ b ∧ av.ownBlock ≠ some b
/-- what the reader holds on to -/
def BrokeF (ok : Nat → Prop) (W : World) (b : Int) : Option (Int × Int) → Value → Prop
  | none, bp => bp = .pointer none
  | some x, bp => ∃ fb, bp = .pointer (some ⟨fb, 0, none⟩) ∧ ok fb ∧ W.cell? ⟨fb, 0, none⟩ = some (.int .i64 (wrap64 (x.1 + b)))
structure RdF (w : World) (rb : Nat) (d : Int) (gs : List G) (b : Int) (l : List UInt8) (er : Option (Int × Int)) (av fv bp : Value) (W : World) : Prop where
  below : Below w.heap.size w W
  own : ∃ vs, W.ownsRow w.heap.size 51 4 av gs.length vs ∧ IsGs (OkR w W rb av) W gs vs
  apt : ∀ x, av.ownBlock = some x → AptS W rb x
  err : IsErr (OkR w W rb av) W fv (errAt b er)
  st : IsSt w.heap.size W rb d l b gs.length bp
  bp : BrokeF (OkR w W rb av) W b er bp
theorem IsErr.imp {ok ok' : Nat → Prop} {w w' : World} {v : Value} {e : Option (Int × Int)} (h : IsErr ok w v e) (k : ∀ b, b < w.heap.size → ok b → ok' b ∧ w'.heap[b]? = w.heap[b]?) : IsErr ok' w' v e := by
  cases e with
  | none => exact h
  | some p =>
    obtain ⟨b, h0, hb, h1, h2⟩ := h
    obtain ⟨k1, k2⟩ := k b (lt_of_cell h1) hb
    exact ⟨b, h0, k1, (World.cell?_of_block (a := ⟨b, 0, none⟩) k2).trans h1, (World.cell?_of_block (a := ⟨b, 1, none⟩) k2).trans h2⟩
theorem BrokeF.imp {ok ok' : Nat → Prop} {w w' : World} {b : Int} {e : Option (Int × Int)} {bp : Value} (h : BrokeF ok w b e bp) (k : ∀ b, b < w.heap.size → ok b → ok' b ∧ w'.heap[b]? = w.heap[b]?) : BrokeF ok' w' b e bp := by
  cases e with
  | none => exact h
  | some p =>
    obtain ⟨fb, h0, hb, h1⟩ := h
    obtain ⟨k1, k2⟩ := k fb (lt_of_cell h1) hb
    exact ⟨fb, h0, k1, (World.cell?_of_block (a := ⟨fb, 0, none⟩) k2).trans h1⟩
theorem IsGs.imp {ok ok' : Nat → Prop} {w w' : World} {gs : List G} {vs : List Value} (h : IsGs ok w gs vs) (k : ∀ b, b < w.heap.size → ok b → ok' b ∧ w'.heap[b]? = w.heap[b]?) : IsGs ok' w' gs vs := by
  have h1 : IsGs (fun b => ok b ∧ b < w.heap.size) w gs vs := h.mono fun b hb hk => ⟨hk, hb⟩
  exact (h1.keeps (w' := w') fun b o hb ho _ => (k b hb.2 hb.1).2.trans ho).mono fun b _ hb => (k b hb.2 hb.1).1
theorem RdF.under {w W W' : World} {rb : Nat} {d b : Int} {gs : List G} {l : List UInt8} {er : Option (Int × Int)} {av fv bp : Value} (h : RdF w rb d gs b l er av fv bp W) (hb : Below W.heap.size W W') : RdF w rb d gs b l er av fv bp W' := by
  have hk := KeepS.of_below h.st.lt hb
  have hok : ∀ x, x < W.heap.size → OkR w W rb av x → OkR w W' rb av x ∧ W'.heap[x]? = W.heap[x]? := fun x h1 h2 => ⟨⟨(hk x h2.1).2, h2.2⟩, (hk x h2.1).1⟩
  obtain ⟨vs, h1, h2⟩ := h.own
  exact ⟨h.below.trans (hb.mono h.below.size), ⟨vs, ownsRow_below h1 hb, h2.imp hok⟩, fun x hx => (hk x (h.apt x hx)).2, h.err.imp hok, h.st.below hb, h.bp.imp hok⟩
/-- trees behind the trees -/
theorem RdF.step {w W2 W3 : World} {rb : Nat} {d b : Int} {gs gs2 : List G} {l : List UInt8} {er : Option (Int × Int)} {av av' fv bp : Value} {vs us : List Value} (hbl : Below w.heap.size w W2)
    (h1 : W2.ownsRow w.heap.size 51 4 av gs.length vs) (h2 : IsGs (OkR w W2 rb av) W2 gs vs) (ha : ∀ x, av.ownBlock = some x → AptS W2 rb x) (hu : IsGs (OkR w W2 rb av) W2 gs2 us)
    (he : IsErr (OkR w W2 rb av) W2 fv (errAt b er)) (hst : IsSt w.heap.size W2 rb d l b ((gs.length : Int) + gs2.length) bp) (hbp : BrokeF (OkR w W2 rb av) W2 b er bp)
    (h3 : W3.ownsRow w.heap.size 51 4 av' (gs.length + gs2.length) (vs ++ us)) (hg : W2.grownBy W3 av.ownBlock) (ho : ∀ x, av'.ownBlock = some x → av.ownBlock = some x ∨ x = W2.heap.size) :
    RdF w rb d (gs ++ gs2) b l er av' fv bp W3 := by
  have hs := hg.size
  have hal := World.ownsRow.lt h1
  have hrl := hst.lt
  have hrb : av.ownBlock ≠ some rb := fun e => (ha rb e).2.1 rfl
  have hkr : W3.heap[rb]? = W2.heap[rb]? := hg.block rb hrl (fun e => hrb e.symm)
  have hst3 : IsSt w.heap.size W3 rb d l b ((gs.length : Int) + gs2.length) bp := hst.kept hs hkr fun v g hv hgo => hg.block g (by
      obtain ⟨wv, m1, m2⟩ := hst.mem
      have e1 := cell_row (cs := [_, _, _, _, _]) (j := 1) m1 rfl
      rw [e1] at hv; cases hv
      exact (m2.own g hgo).2.2) (fun e => (ha g e.symm).2.2 v hv hgo)
  have hq : ∀ v, W3.cell? ⟨rb, 1, none⟩ = some v → W2.cell? ⟨rb, 1, none⟩ = some v := fun v hv => by rw [World.cell?_of_block (a := ⟨rb, 1, none⟩) hkr] at hv; exact hv
  have hap : ∀ x, AptS W2 rb x → AptS W3 rb x := fun x hx => ⟨Nat.lt_of_lt_of_le hx.1 hs, hx.2.1, fun v hv => hx.2.2 v (hq v hv)⟩
  have hok : ∀ x, x < W2.heap.size → OkR w W2 rb av x → OkR w W3 rb av' x ∧ W3.heap[x]? = W2.heap[x]? := fun x hx hk =>
    ⟨⟨hap x hk.1, hk.2.1, fun e => (ho x e).elim hk.2.2 (fun e => by omega)⟩, hg.block x hx (fun e => hk.2.2 e.symm)⟩
  refine ⟨hbl.grown hg hbl.size (fun k e => (hal k e).1), ⟨vs ++ us, by rw [List.length_append]; exact h3, (h2.imp hok).append (hu.imp hok)⟩, fun x hx => ?_, he.imp hok, ?_, hbp.imp hok⟩
  · rcases ho x hx with e | e
    · exact hap x (ha x e)
    · subst e
      refine ⟨(World.ownsRow.lt h3 _ hx).2, by omega, fun v hv e2 => ?_⟩
      obtain ⟨wv, m1, m2⟩ := hst.mem
      have e1 := cell_row (cs := [_, _, _, _, _]) (j := 1) m1 rfl
      have := hq v hv
      rw [e1] at this; cases this
      have := (m2.own _ e2).2.2
      omega
  · rw [List.length_append, show ((gs.length + gs2.length : Nat) : Int) = (gs.length : Int) + gs2.length by omega]
    exact hst3
/-- the reader is fed once more -/
theorem RdF.fed {w W W2 W3 : World} {rb : Nat} {d b : Int} {gs : List G} {l : List UInt8} {av av' fv ov ev bp2 bp : Value} {r : List G × Nat × List UInt8 × Option (Int × Int)} {vs us : List Value} (h : RdF w rb d gs b l none av fv bp W)
    (hv : W.ownsRow w.heap.size 51 4 av gs.length vs) (hvg : IsGs (OkR w W rb av) W gs vs) (hU : FeedU w.heap.size W rb d b gs.length r ov ev bp2 us W2) (hws : w.heap.size ≤ W.heap.size)
    (h3 : W3.ownsRow w.heap.size 51 4 av' (gs.length + r.1.length) (vs ++ us)) (hg : W2.grownBy W3 av.ownBlock) (ho : ∀ x, av'.ownBlock = some x → av.ownBlock = some x ∨ x = W2.heap.size) :
    RdF w rb d (gs ++ r.1) (b + r.2.1) r.2.2.1 r.2.2.2 av' ev bp2 W3 := by
  have hal := World.ownsRow.lt hv
  have hok : ∀ x, x < W.heap.size → OkR w W rb av x → OkR w W2 rb av x ∧ W2.heap[x]? = W.heap[x]? := fun x _ hx => ⟨⟨(hU.keep x hx.1).2, hx.2⟩, (hU.keep x hx.1).1⟩
  have hnew : ∀ x, NewS W W2 rb x → OkR w W2 rb av x := fun x hx => ⟨hx.1, Nat.le_trans hws hx.2, fun e => by have := (hal x e).2; have := hx.2; omega⟩
  refine RdF.step (vs := vs) (us := us) (av := av) (h.below.trans hU.below) ?_ (hvg.imp hok) (fun x hx => (hU.keep x (h.apt x hx)).2) (hU.gs.mono fun x _ hx => hnew x hx) ?_ ?_ ?_ h3 hg ho
  · refine ⟨hv.1, hv.2.imp id ?_⟩
    rintro ⟨g, cap, cur, h0, hb, hgh, rest⟩
    exact ⟨g, cap, cur, h0, hb, (hU.keep g (h.apt g (by rw [h0]; rfl))).1.trans hgh, rest⟩
  · exact hU.err.imp fun x _ hx => ⟨hnew x hx, rfl⟩
  · exact hU.st
  · have := hU.bp
    cases hr : r.2.2.2 with
    | none => rw [hr] at this; exact this
    | some x =>
      rw [hr] at this
      obtain ⟨fb, q1, q2, q3⟩ := this
      exact ⟨fb, q1, hnew fb q2, q3⟩
/-- nothing more, the list itself again -/
theorem RdF.same {w W W3 : World} {rb : Nat} {d b : Int} {gs : List G} {l : List UInt8} {er : Option (Int × Int)} {av av' fv bp : Value} {vs : List Value} (h : RdF w rb d gs b l er av fv bp W)
    (hv : W.ownsRow w.heap.size 51 4 av gs.length vs) (hvg : IsGs (OkR w W rb av) W gs vs)
    (h3 : W3.ownsRow w.heap.size 51 4 av' (gs.length + 0) (vs ++ [])) (hg : W.grownBy W3 av.ownBlock) (ho : ∀ x, av'.ownBlock = some x → av.ownBlock = some x ∨ x = W.heap.size) :
    RdF w rb d gs b l er av' fv bp W3 := by
  have := RdF.step (gs2 := []) (us := []) h.below hv hvg h.apt (by simp [IsGs]) h.err (by simpa using h.st) h.bp h3 hg ho
  simpa using this
end Go.Proofs.YtlffgepnhhnadaaDoor.Pl
