/- stream.Reader.Feed: what its walk keeps. -/
import Derived.Test.YtlffgepnhhnadaaDoorWait
import Derived.Deep.DeepCutAuto
import Derived.Deep.CutBlock
namespace Go.Proofs.YtlffgepnhhnadaaDoor.Pl
open Go.RowKit

/-- all that is read at the beginning of bytes: the trees, how many bytes they took, what is left, the error behind them -/
def feedR (depth : Int) : Nat → List UInt8 → List G × Nat × List UInt8 × Option (Int × Int)
  | 0, l => ([], 0, l, none)
  | f + 1, l => match recR l depth with
    | .wait => ([], 0, l, none)
    | .bad a c => ([], 0, l, some (a, c))
    | .got g n => (g :: (feedR depth f (l.drop n)).1, n + (feedR depth f (l.drop n)).2.1, (feedR depth f (l.drop n)).2.2)
/-- the loop's law: what was read, and what is still to be read -/
def feedK (depth : Int) (r : List G × Nat × List UInt8 × Option (Int × Int)) (acc : List G) (n f : Nat) (l : List UInt8) : Prop := r = (acc ++ (feedR depth f l).1, n + (feedR depth f l).2.1, (feedR depth f l).2.2)
theorem recR_got {l : List UInt8} {depth : Int} {g : G} {n : Nat} (h : recR l depth = .got g n) : 12 ≤ n ∧ n ≤ l.length := by
  unfold recR at h
  split at h
  · cases h
  split at h
  · cases h
  split at h
  · cases h
  split at h
  · cases h
  split at h
  · cases h
  split at h
  · cases h
  cases h
  omega
theorem feedK_next {depth : Int} {r : List G × Nat × List UInt8 × Option (Int × Int)} {acc : List G} {n f m : Nat} {l : List UInt8} {g : G} (h : feedK depth r acc n (f + 1) l) (hr : recR l depth = .got g m) : feedK depth r (acc ++ [g]) (n + m) f (l.drop m) := by
  unfold feedK at h ⊢
  rw [h]
  simp only [feedR, hr, List.append_assoc, List.singleton_append, Nat.add_assoc]

/-- trees that calls made, one behind the other -/
def IsNs (ok : Nat → Prop) (w : World) : List G → List Value → Prop
  | [], cs => cs = []
  | g :: gs, cs => ∃ c d, cs = c ++ d ∧ IsN ok w g c ∧ IsNs ok w gs d
theorem IsNs.keeps {ok : Nat → Prop} {w w' : World} (k : Keeps ok w w') : ∀ {gs : List G} {cs : List Value}, IsNs ok w gs cs → IsNs ok w' gs cs
  | [], _, h => h
  | _ :: _, _, ⟨c, d, h1, h2, h3⟩ => ⟨c, d, h1, h2.keeps k, IsNs.keeps k h3⟩
theorem IsNs.mono {ok ok' : Nat → Prop} {w : World} (hk : ∀ b, b < w.heap.size → ok b → ok' b) : ∀ {gs : List G} {cs : List Value}, IsNs ok w gs cs → IsNs ok' w gs cs
  | [], _, h => h
  | _ :: _, _, ⟨c, d, h1, h2, h3⟩ => ⟨c, d, h1, h2.mono hk, IsNs.mono hk h3⟩
theorem IsNs.toGs {ok : Nat → Prop} {w : World} : ∀ {gs : List G} {cs : List Value}, IsNs ok w gs cs → IsGs ok w gs cs
  | [], _, h => by simp only [IsNs] at h; simp only [IsGs]; exact h
  | _ :: _, _, ⟨c, d, h1, h2, h3⟩ => by simp only [IsGs]; exact ⟨c, d, h1, h2.1, IsNs.toGs h3⟩
theorem IsNs.append {ok : Nat → Prop} {w : World} {gs2 : List G} {ds : List Value} (k : IsNs ok w gs2 ds) : ∀ {gs : List G} {cs : List Value}, IsNs ok w gs cs → IsNs ok w (gs ++ gs2) (cs ++ ds)
  | [], _, h => by simp only [IsNs] at h; subst h; exact k
  | _ :: _, _, ⟨c, d, h1, h2, h3⟩ => ⟨c, d ++ ds, by rw [h1, List.append_assoc], h2, IsNs.append k h3⟩
theorem IsNs.at {ok : Nat → Prop} {w : World} : ∀ {gs : List G} {cs : List Value}, IsNs ok w gs cs → ∀ (i : Nat) (x : G), gs[i]? = some x → ∃ c, IsN ok w x c ∧ ∀ j u, c[j]? = some u → cs[i * 4 + j]? = some u
  | [], _, _, i, x, h => by simp at h
  | g :: gs, _, ⟨c, d, h1, h2, h3⟩, 0, x, h => by
    simp at h; subst h; subst h1
    exact ⟨c, h2, fun j u hj => by rw [Nat.zero_mul, Nat.zero_add, List.getElem?_append_left (List.getElem?_eq_some_iff.1 hj).1]; exact hj⟩
  | g :: gs, _, ⟨c, d, h1, h2, h3⟩, i + 1, x, h => by
    obtain ⟨e, he, hat⟩ := h3.at i x (by simpa using h)
    subst h1
    refine ⟨e, he, fun j u hj => ?_⟩
    have h4 := h2.1.four
    rw [List.getElem?_append_right (by omega), show (i + 1) * 4 + j - c.length = i * 4 + j by omega]
    exact hat j u hj
theorem IsNs.len {ok : Nat → Prop} {w : World} {gs : List G} {cs : List Value} (h : IsNs ok w gs cs) : cs.length = 4 * gs.length := h.toGs.length
/-- a block of points of one of the trees' own lists -/
def LineB (vs : List Value) (b : Nat) : Prop := ∃ i u, vs[i * 4 + 1]? = some u ∧ u.ownBlock = some b
theorem IsNs.lines {ok : Nat → Prop} {w : World} {gs : List G} {cs : List Value} (h : IsNs ok w gs cs) (b : Nat) (hb : LineB cs b) : ok b ∧ b < w.heap.size := by
  obtain ⟨i, u, hu, hb⟩ := hb
  have hl := (List.getElem?_eq_some_iff.1 hu).1
  rw [h.len] at hl
  obtain ⟨x, hx⟩ : ∃ x, gs[i]? = some x := ⟨_, List.getElem?_eq_getElem (by omega)⟩
  obtain ⟨c, ⟨_, a, v1, v2, v3, ps, rfl, h1, _⟩, hat⟩ := h.at i x hx
  have := hat 1 v1 rfl
  rw [hu] at this
  cases this
  exact ⟨h1.2 b hb, (World.ownsRow.lt h1.1 b hb).2⟩
/-- no two of the trees' own lists of points lie in one block -/
def ApL (vs : List Value) : Prop := ∀ (i j : Nat) (u v : Value) (b : Nat), i < j → vs[i * 4 + 1]? = some u → vs[j * 4 + 1]? = some v → u.ownBlock = some b → v.ownBlock ≠ some b
def IsNA (ok : Nat → Prop) (w : World) (gs : List G) (vs : List Value) : Prop := IsNs ok w gs vs ∧ ApL vs
theorem IsNA.nil (ok : Nat → Prop) (w : World) : IsNA ok w [] [] := ⟨rfl, fun i j u v b _ hu => by simp at hu⟩
theorem IsNA.keeps {ok : Nat → Prop} {w w' : World} {gs : List G} {cs : List Value} (h : IsNA ok w gs cs) (k : Keeps ok w w') : IsNA ok w' gs cs := ⟨IsNs.keeps k h.1, h.2⟩
theorem IsNA.mono {ok ok' : Nat → Prop} {w : World} {gs : List G} {cs : List Value} (h : IsNA ok w gs cs) (hk : ∀ b, b < w.heap.size → ok b → ok' b) : IsNA ok' w gs cs := ⟨IsNs.mono hk h.1, h.2⟩
theorem IsNA.append {ok : Nat → Prop} {w : World} {gs gs2 : List G} {vs us : List Value} (h : IsNA ok w gs vs) (k : IsNA ok w gs2 us) (hd : ∀ b, LineB vs b → LineB us b → False) : IsNA ok w (gs ++ gs2) (vs ++ us) := by
  refine ⟨IsNs.append k.1 h.1, fun i j u v b hij hu hv hb hb2 => ?_⟩
  have hl := h.1.len
  rw [List.getElem?_append] at hu hv
  split at hu
  · rename_i h1
    split at hv
    · exact h.2 i j u v b hij hu hv hb hb2
    · rename_i h2
      exact hd b ⟨i, u, hu, hb⟩ ⟨j - gs.length, v, by rw [← hv]; congr 1; omega, hb2⟩
  · rename_i h1
    rw [if_neg (by omega)] at hv
    exact k.2 (i - gs.length) (j - gs.length) u v b (by omega) (by rw [← hu]; congr 1; omega) (by rw [← hv]; congr 1; omega) hb hb2
theorem IsNA.one {ok : Nat → Prop} {w : World} {x : G} {cs : List Value} (h : IsN ok w x cs) : IsNA ok w [x] cs := by
  refine ⟨⟨cs, [], by simp, h, rfl⟩, fun i j u v b hij hu hv => ?_⟩
  have h4 := h.1.four
  have := (List.getElem?_eq_some_iff.1 hv).1
  omega
theorem IsNA.snoc {ok : Nat → Prop} {w : World} {gs : List G} {vs cs : List Value} {x : G} (h : IsNA ok w gs vs) (hx : IsN ok w x cs) (hd : ∀ b, LineB vs b → ∀ v, cs[1]? = some v → v.ownBlock ≠ some b) : IsNA ok w (gs ++ [x]) (vs ++ cs) :=
  h.append (.one hx) fun b h1 h2 => by
    obtain ⟨i, u, hu, hb⟩ := h2
    have h4 := hx.1.four
    have := (List.getElem?_eq_some_iff.1 hu).1
    obtain rfl : i = 0 := by omega
    exact hd b h1 u (by simpa using hu) hb

/-- the blocks that the reader in rb does not write -/
def AptS (w : World) (rb b : Nat) : Prop := b < w.heap.size ∧ b ≠ rb ∧ ∀ v, w.cell? ⟨rb, 1, none⟩ = some v → v.ownBlock ≠ some b
def KeepS (rb : Nat) (w w' : World) : Prop := ∀ b, AptS w rb b → w'.heap[b]? = w.heap[b]? ∧ AptS w' rb b
/-- the reader's state -/
structure IsSt (B : Nat) (w : World) (rb : Nat) (depth : Int) (l : List UInt8) (begin_ count : Int) (bp : Value) : Prop where
  base : B ≤ rb
  mem : ∃ wv, w.heap[rb]? = some (.cells #[.int .i64 depth, wv, .int .i64 begin_, .int .i64 count, bp] 89 (0, 0)) ∧ WaitS B rb w wv l
theorem IsSt.lt {B rb : Nat} {w : World} {depth begin_ count : Int} {l : List UInt8} {bp : Value} (h : IsSt B w rb depth l begin_ count bp) : rb < w.heap.size := by obtain ⟨_, h1, _⟩ := h.mem; exact lt_of_heap h1
theorem IsSt.below {B rb : Nat} {w w' : World} {depth begin_ count : Int} {l : List UInt8} {bp : Value} (h : IsSt B w rb depth l begin_ count bp) (hb : Below w.heap.size w w') : IsSt B w' rb depth l begin_ count bp := by
  obtain ⟨wv, h1, h2⟩ := h.mem
  exact ⟨h.base, wv, (hb.block _ (lt_of_heap h1)).trans h1, h2.keep hb.size fun g hg => hb.block g (h2.own g hg).2.2⟩
theorem KeepS.of_below {rb : Nat} {w w' : World} (hr : rb < w.heap.size) (h : Below w.heap.size w w') : KeepS rb w w' := fun b ⟨h1, h2, h3⟩ => ⟨h.block b h1, Nat.lt_of_lt_of_le h1 h.size, h2, fun v hv => h3 v (by rw [← h.cell (p := ⟨rb, 1, none⟩) hr]; exact hv)⟩
theorem KeepS.trans {rb : Nat} {a b c : World} (h : KeepS rb a b) (k : KeepS rb b c) : KeepS rb a c := fun i hi => ⟨(k i (h i hi).2).1.trans (h i hi).1, (k i (h i hi).2).2⟩

/-- what Feed's loop keeps; w1: the world behind the append of the piece -/
structure LoopS (B : Nat) (w1 : World) (rb : Nat) (ow : Option Nat) (depth begin_ count : Int) (acc : List G) (n : Nat) (l : List UInt8) (sv : Value) (W : World) : Prop where
  grown : w1.grownBy W (some rb)
  base : B ≤ rb
  rlt : rb < w1.heap.size
  olt : ∀ g, ow = some g → g < w1.heap.size
  mem : ∃ wv vs, W.heap[rb]? = some (.cells #[.int .i64 depth, wv, .int .i64 (begin_ + n), .int .i64 (count + acc.length), .pointer none] 89 (0, 0)) ∧ WaitS B rb W wv l ∧ wv.ownBlock = ow ∧
    W.ownsRow w1.heap.size 51 4 sv acc.length vs ∧ IsNA (fun b => w1.heap.size ≤ b ∧ sv.ownBlock ≠ some b) W acc vs

theorem LoopS.below {B rb : Nat} {w1 W W' : World} {ow : Option Nat} {depth begin_ count : Int} {acc : List G} {n : Nat} {l : List UInt8} {sv : Value} (h : LoopS B w1 rb ow depth begin_ count acc n l sv W) (hb : Below W.heap.size W W') : LoopS B w1 rb ow depth begin_ count acc n l sv W' := by
  obtain ⟨wv, vs, h1, h2, h3, h4, h5⟩ := h.mem
  have hs := h.grown.size
  refine ⟨⟨hb.os.trans h.grown.os, hb.tape.trans h.grown.tape, hb.output.trans h.grown.output, Nat.le_trans hs hb.size, fun k hk hkr => (hb.block k (by omega)).trans (h.grown.block k hk hkr)⟩, h.base, h.rlt, h.olt, wv, vs, (hb.block _ (lt_of_heap h1)).trans h1, h2.keep hb.size fun g hg => hb.block g (h2.own g hg).2.2, h3, ownsRow_below h4 hb, h5.keeps (below_keeps hb _)⟩

/-- a tree more -/
theorem LoopS.next {B rb m g cap : Nat} {w1 W W' W3 W4 : World} {ow : Option Nat} {depth begin_ count : Int} {acc : List G} {n : Nat} {l : List UInt8} {sv wv wv' : Value} {x : G} {cs vs : List Value} (h : LoopS B w1 rb ow depth begin_ count acc n l sv W)
    (h1 : W.heap[rb]? = some (.cells #[.int .i64 depth, wv, .int .i64 (begin_ + n), .int .i64 (count + acc.length), .pointer none] 89 (0, 0))) (h2 : WaitS B rb W wv l) (h3 : wv.ownBlock = ow) (h5 : IsNA (fun b => w1.heap.size ≤ b ∧ sv.ownBlock ≠ some b) W acc vs)
    (hx : IsN (fun b => w1.heap.size ≤ b ∧ sv.ownBlock ≠ some b) W x cs) (hd : ∀ b, LineB vs b → ∀ v, cs[1]? = some v → v.ownBlock ≠ some b) (hsv : ∀ k, sv.ownBlock = some k → w1.heap.size ≤ k ∧ k < W.heap.size) (hal : Below W.heap.size W W') (ho3 : W3.ownsRow w1.heap.size 51 4 (.slice (some ⟨g, 0, none⟩) (acc.length + 1) cap) (acc.length + 1) (vs ++ cs)) (hgr : W'.grownBy W3 sv.ownBlock) (hg : sv.ownBlock = some g ∨ g = W'.heap.size)
    (hwv : wv'.ownBlock = wv.ownBlock) (hw' : ∀ V, W.heap.size ≤ V.heap.size → (∀ b, wv.ownBlock = some b → V.heap[b]? = W.heap[b]?) → WaitS B rb V wv' (l.drop m))
    (hW4 : W4 = ((W3.setCell ⟨rb, 1, none⟩ wv').setCell ⟨rb, 2, none⟩ (.int .i64 (begin_ + n + m))).setCell ⟨rb, 3, none⟩ (.int .i64 (count + acc.length + 1))) :
    LoopS B w1 rb ow depth begin_ count (acc ++ [x]) (n + m) (l.drop m) (.slice (some ⟨g, 0, none⟩) (acc.length + 1) cap) W4 := by
  have hs := h.grown.size
  have hrl := lt_of_heap h1
  have hset : ∀ b, b ≠ rb → W4.heap[b]? = W3.heap[b]? := fun b hb => by
    rw [hW4, Below.heap_setCell _ _ _ b hb, Below.heap_setCell _ _ _ b hb, Below.heap_setCell _ _ _ b hb]
  have hsz : W4.heap.size = W3.heap.size := by rw [hW4]; simp [World.setCell]
  have hs1 := hal.size
  have hs2 := hgr.size
  have hblk : ∀ b, b < W.heap.size → sv.ownBlock ≠ some b → W3.heap[b]? = W.heap[b]? := fun b hb hn => (hgr.block b (by omega) (fun e => hn e.symm)).trans (hal.block b hb)
  have hrs : sv.ownBlock ≠ some rb := fun e => by have := (hsv rb e).1; have := h.rlt; omega
  have hr3 := (hblk rb hrl hrs).trans h1
  have r1 := heap_store (cs := [.int .i64 depth, wv, .int .i64 (begin_ + n), .int .i64 (count + acc.length), .pointer none]) hr3 (j := 1) wv'
  have r2 := heap_store (cs := [.int .i64 depth, wv', .int .i64 (begin_ + n), .int .i64 (count + acc.length), .pointer none]) (by simpa using r1) (j := 2) (.int .i64 (begin_ + n + m))
  have r3 := heap_store (cs := [.int .i64 depth, wv', .int .i64 (begin_ + n + m), .int .i64 (count + acc.length), .pointer none]) (by simpa using r2) (j := 3) (.int .i64 (count + acc.length + 1))
  rw [← hW4] at r3
  have hgl := (World.ownsRow.lt ho3 g rfl)
  have how : ∀ b, wv.ownBlock = some b → b < w1.heap.size := fun b hb => h.olt b (by rw [← h3]; exact hb)
  have hg4 : w1.grownBy W4 (some rb) := by
    refine ⟨?_, ?_, ?_, by omega, fun k hk hkr => ?_⟩
    · rw [hW4]; exact (hgr.os.trans (hal.os.trans h.grown.os))
    · rw [hW4]; exact (hgr.tape.trans (hal.tape.trans h.grown.tape))
    · rw [hW4]; exact (hgr.output.trans (hal.output.trans h.grown.output))
    · rw [hset k (fun e => hkr (by rw [e])), hblk k (by omega) (fun e => by have := (hsv k e).1; omega)]
      exact h.grown.block k hk hkr
  have hk4 : Keeps (fun b => w1.heap.size ≤ b ∧ sv.ownBlock ≠ some b) W W4 := fun b o hb ho _ => by
    rw [hset b (fun e => by have := h.rlt; omega), hblk b (lt_of_heap ho) hb.2]; exact ho
  refine ⟨hg4, h.base, h.rlt, h.olt, wv', vs ++ cs, ?_, ?_, hwv.trans h3, ?_, ?_⟩
  · rw [List.length_append, show (begin_ + ((n + m : Nat) : Int)) = begin_ + n + m by omega, show (count + ((acc.length + [x].length : Nat) : Int)) = count + acc.length + 1 by simp; omega]
    simpa using r3
  · exact hw' W4 (by omega) fun b hb => by
      have hbr := (h2.own b hb).2.1
      rw [hset b hbr, hblk b (by have := how b hb; omega) (fun e => by have := (hsv b e).1; have := how b hb; omega)]
  · have e : W4.ownsRow w1.heap.size 51 4 (.slice (some ⟨g, 0, none⟩) (acc.length + 1) cap) (acc.length + 1) (vs ++ cs) := by
      obtain ⟨k0, k1⟩ := ho3
      refine ⟨k0, k1.imp id ?_⟩
      rintro ⟨g', cap', cur, hv, hb, hgh, rest⟩
      exact ⟨g', cap', cur, hv, hb, (hset g' (fun e => by have := h.rlt; omega)).trans hgh, rest⟩
    simpa using e
  · have hs5 : IsNA (fun b => w1.heap.size ≤ b ∧ sv.ownBlock ≠ some b) W (acc ++ [x]) (vs ++ cs) := h5.snoc hx hd
    have hp : IsNA (fun b => (w1.heap.size ≤ b ∧ sv.ownBlock ≠ some b) ∧ b < W.heap.size) W (acc ++ [x]) (vs ++ cs) := hs5.mono fun b hb h => ⟨h, hb⟩
    refine (hp.keeps (w' := W4) fun b o hb ho hc => hk4 b o hb.1 ho hc).mono fun b _ hb => ⟨hb.1.1, fun e => ?_⟩
    cases e
    rcases hg with hg | hg
    · exact hb.1.2 hg
    · have h2 : g < W.heap.size := hb.2
      omega

/-- the blocks made since w that the reader does not write -/
def NewS (w w' : World) (rb b : Nat) : Prop := AptS w' rb b ∧ w.heap.size ≤ b
/-- what Feed gives -/
def FeedPost (B : Nat) (w : World) (rb : Nat) (depth begin_ count : Int) (r : List G × Nat × List UInt8 × Option (Int × Int)) (e : Ending) (w' : World) : Prop := ∃ ov ev vs, e = .returned (.tuple #[ov, ev]) ∧ Below B w w' ∧ KeepS rb w w' ∧
  Sl (NewS w w' rb) w' ov r.1.length vs ∧ IsNA (NewS w w' rb) w' r.1 vs ∧
  match r.2.2.2 with
  | none => ev = .nilIface ∧ IsSt B w' rb depth r.2.2.1 (begin_ + r.2.1) (count + r.1.length) (.pointer none)
  | some (a, c) => ∃ fb, IsErr (NewS w w' rb) w' ev (some (wrap64 (a + (begin_ + r.2.1)), c)) ∧ IsSt B w' rb depth r.2.2.1 (begin_ + r.2.1) (count + r.1.length) (.pointer (some ⟨fb, 0, none⟩)) ∧ NewS w w' rb fb ∧ w'.cell? ⟨fb, 0, none⟩ = some (.int .i64 (wrap64 (a + (begin_ + r.2.1))))
/-- what record gives, its cells in sight -/
def RecM (w : World) (r : Rec) (w' : World) (cs : List Value) (n : Int) (fv : Value) : Prop := match r with
  | .wait => n = 0 ∧ fv = .pointer none
  | .bad a c => n = 0 ∧ ∃ fb, fv = .pointer (some ⟨fb, 0, none⟩) ∧ w.heap.size ≤ fb ∧ w'.heap[fb]? = some (.cells #[.int .i64 a, .iface 22 (.int .i64 c)] 102 (0, 0))
  | .got g m => IsN (fun b => w.heap.size ≤ b) w' g cs ∧ n = (m : Int) ∧ fv = .pointer none
theorem recM_of {w w' : World} {r : Rec} {e : Ending} (h : RecPost w r e w') : ∃ ki A1 n1 c1 A2 n2 c2 A3 n3 c3 n fv, e = .returned (.tuple #[.agg #[.int .i64 ki, .slice A1 n1 c1, .slice A2 n2 c2, .slice A3 n3 c3], .int .i64 n, fv]) ∧ Below w.heap.size w w' ∧ RecM w r w' [.int .i64 ki, .slice A1 n1 c1, .slice A2 n2 c2, .slice A3 n3 c3] n fv := by
  obtain ⟨cs, n, fv, rfl, hb, hr⟩ := h
  cases r with
  | wait =>
    obtain ⟨_, _, _, _, _, _, _, _, _, _, rfl⟩ := geom_shape hr.1
    exact ⟨_, _, _, _, _, _, _, _, _, _, _, _, rfl, hb, hr.2⟩
  | bad a c =>
    obtain ⟨_, _, _, _, _, _, _, _, _, _, rfl⟩ := geom_shape hr.1
    exact ⟨_, _, _, _, _, _, _, _, _, _, _, _, rfl, hb, hr.2⟩
  | got g m =>
    obtain ⟨_, _, _, _, _, _, _, _, _, _, rfl⟩ := geom_shape hr.1.1
    exact ⟨_, _, _, _, _, _, _, _, _, _, _, _, rfl, hb, hr⟩
/-- behind the call of record: its tree in a variable -/
def RecV (wr : World) (r : Rec) (x7 x8 x9 : Value) (W : World) : Prop := ∃ gb ki A1 n1 c1 A2 n2 c2 A3 n3 c3 n, x7 = .pointer (some ⟨gb, 0, none⟩) ∧ x8 = .int .i64 n ∧ Below wr.heap.size wr W ∧
  W.heap[gb]? = some (.cells #[.int .i64 ki, .slice A1 n1 c1, .slice A2 n2 c2, .slice A3 n3 c3] 51 (0, 0)) ∧ RecM wr r W [.int .i64 ki, .slice A1 n1 c1, .slice A2 n2 c2, .slice A3 n3 c3] n x9
theorem RecM.keeps {w0 w w' W : World} {r : Rec} {cs : List Value} {n : Int} {fv : Value} (h : RecM w r w' cs n fv) (h0 : w0.heap.size ≤ w.heap.size) (hk : ∀ b, w.heap.size ≤ b → b < w'.heap.size → W.heap[b]? = w'.heap[b]?) : RecM w0 r W cs n fv := by
  cases r with
  | wait => exact h
  | bad a c =>
    obtain ⟨h1, fb, h2, h3, h4⟩ := h
    exact ⟨h1, fb, h2, Nat.le_trans h0 h3, (hk fb h3 (lt_of_heap h4)).trans h4⟩
  | got g m =>
    exact ⟨(h.1.keeps (w' := W) fun b o hb ho _ => (hk b hb (lt_of_heap ho)).trans ho).mono fun b _ hb => Nat.le_trans h0 hb, h.2⟩
theorem recV_after {wr w3 : World} {r : Rec} {ki n : Int} {A1 A2 A3 : Option Addr} {n1 c1 n2 c2 n3 c3 : Nat} {fv : Value} (hb : Below wr.heap.size wr w3) (hm : RecM wr r w3 [.int .i64 ki, .slice A1 n1 c1, .slice A2 n2 c2, .slice A3 n3 c3] n fv) :
    RecV wr r (.pointer (some ⟨w3.heap.size, 0, none⟩)) (.int .i64 n) fv (w3.alloc (.cells #[.int .i64 ki, .slice A1 n1 c1, .slice A2 n2 c2, .slice A3 n3 c3] 51)) := by
  have ha : Below w3.heap.size w3 (w3.alloc (.cells #[.int .i64 ki, .slice A1 n1 c1, .slice A2 n2 c2, .slice A3 n3 c3] 51)) := (Below.refl _ w3).alloc (Nat.le_refl _) _
  exact ⟨_, _, _, _, _, _, _, _, _, _, _, _, rfl, rfl, hb.trans (ha.mono hb.size), World.alloc_heap_new _ _, hm.keeps (Nat.le_refl _) fun b _ hb => ha.block b hb⟩
theorem recV_first {wr w0 w3 W : World} {r : Rec} {ki n : Int} {A1 A2 A3 : Option Addr} {n1 c1 n2 c2 n3 c3 : Nat} {fv : Value} (h0 : w0 = wr.alloc (.cells #[.int .i64 0, .slice none 0 0, .slice none 0 0, .slice none 0 0] 51)) (hb : Below w0.heap.size w0 w3) (hm : RecM w0 r w3 [.int .i64 ki, .slice A1 n1 c1, .slice A2 n2 c2, .slice A3 n3 c3] n fv)
    (hW : W = (((w3.setCell ⟨wr.heap.size, 0, none⟩ (.int .i64 ki)).setCell ⟨wr.heap.size, 1, none⟩ (.slice A1 n1 c1)).setCell ⟨wr.heap.size, 2, none⟩ (.slice A2 n2 c2)).setCell ⟨wr.heap.size, 3, none⟩ (.slice A3 n3 c3)) :
    RecV wr r (.pointer (some ⟨wr.heap.size, 0, none⟩)) (.int .i64 n) fv W := by
  have hb0 : Below wr.heap.size wr w0 := by rw [h0]; exact (Below.refl _ wr).alloc (Nat.le_refl _) _
  have hx0 : w0.heap[wr.heap.size]? = some (.cells #[.int .i64 0, .slice none 0 0, .slice none 0 0, .slice none 0 0] 51 (0, 0)) := by rw [h0]; exact World.alloc_heap_new _ _
  have hlt := lt_of_heap hx0
  have hx3 := (hb.block _ hlt).trans hx0
  obtain ⟨q1, q2, q3, q4⟩ := four_set hx3 _ _ _ _ hW
  exact ⟨_, _, _, _, _, _, _, _, _, _, _, _, rfl, rfl, q4 _ _ (Nat.le_refl _) (hb0.trans (hb.mono (Nat.le_of_lt hlt))), q1, hm.keeps (Nat.le_of_lt hlt) fun b h1 _ => q2 b (by omega)⟩
def lenAt (W : World) (rb : Nat) : Nat := match W.cell? ⟨rb, 1, none⟩ with | some (.slice _ n _) => n | _ => 0

/-- what Feed leaves, at the end or where it breaks -/
def FeedSt (B : Nat) (w : World) (rb : Nat) (depth begin_ count : Int) (acc : List G) (n : Nat) (l : List UInt8) (sv bp : Value) (W : World) : Prop :=
  Below B w W ∧ KeepS rb w W ∧ (∃ vs, Sl (NewS w W rb) W sv acc.length vs ∧ IsNA (NewS w W rb) W acc vs) ∧ IsSt B W rb depth l (begin_ + n) (count + acc.length) bp
theorem FeedSt.below {B rb : Nat} {w W W' : World} {depth begin_ count : Int} {acc : List G} {n : Nat} {l : List UInt8} {sv bp : Value} (h : FeedSt B w rb depth begin_ count acc n l sv bp W) (hb : Below W.heap.size W W') (hB : B ≤ W.heap.size) : FeedSt B w rb depth begin_ count acc n l sv bp W' := by
  obtain ⟨h1, h2, ⟨vs, h3, h4⟩, h5⟩ := h
  have hk := KeepS.of_below h5.lt hb
  have hm : ∀ b, NewS w W rb b → NewS w W' rb b := fun b hb => ⟨(hk b hb.1).2, hb.2⟩
  exact ⟨h1.trans (hb.mono hB), h2.trans hk, ⟨vs, (h3.keeps (below_keeps hb _)).mono fun b _ hb => hm b hb, (h4.keeps (below_keeps hb _)).mono fun b _ hb => hm b hb⟩, h5.below hb⟩
theorem LoopS.done {B rb : Nat} {w w2 W : World} {ow : Option Nat} {depth begin_ count : Int} {acc : List G} {n : Nat} {l : List UInt8} {sv : Value} (h : LoopS B w2 rb ow depth begin_ count acc n l sv W) (hB2 : Below B w w2) (hK2 : KeepS rb w w2) (hws : w.heap.size ≤ w2.heap.size) (ho2 : ∀ v, w2.cell? ⟨rb, 1, none⟩ = some v → v.ownBlock = ow) (hc2 : ∃ v, w2.cell? ⟨rb, 1, none⟩ = some v) (hn : acc.length ≤ 140737488355328) :
    FeedSt B w rb depth begin_ count acc n l sv (.pointer none) W := by
  obtain ⟨wv, vs, m1, m2, m3, m4, m5⟩ := h.mem
  have hq : ∀ v, W.cell? ⟨rb, 1, none⟩ = some v → v.ownBlock = ow := fun v hv => by
    simp [World.cell?, m1] at hv; subst hv; exact m3
  have hapt : ∀ b, b < W.heap.size → w2.heap.size ≤ b → AptS W rb b := fun b h1 h2 => ⟨h1, by have := h.rlt; omega, fun v hv e => by rw [hq v hv] at e; have := h.olt b e; omega⟩
  have hsl : Sl (fun b => w2.heap.size ≤ b) W sv acc.length vs := by
    obtain ⟨h0, ⟨rfl, h2⟩ | ⟨g, cap, cur, hv, hb, hg, h3, h4, h5, h6⟩⟩ := m4
    · refine ⟨_, _, by rw [h2], by omega, hn, .inl ?_⟩
      exact List.eq_nil_of_length_eq_zero (by rw [h0, h2])
    · refine ⟨_, _, hv, h3, hn, .inr ⟨g, 0, rfl, hb, fun i c hc => ?_⟩⟩
      have := World.ownsRow.cells (show W.ownsRow w2.heap.size 51 4 sv acc.length vs from ⟨h0, .inr ⟨g, cap, cur, hv, hb, hg, h3, h4, h5, h6⟩⟩) (g := g) (by rw [hv]; rfl) i c hc
      rw [add0] at this
      rw [Nat.zero_add]; exact this
  refine ⟨hB2.grown h.grown (Nat.le_trans (by have := h.base; have := h.rlt; omega) (Nat.le_refl w2.heap.size)) (fun k e => by cases e; exact h.base), fun b hb => ?_, ⟨vs, hsl.mono fun b h1 h2 => ⟨hapt b h1 h2, by omega⟩, m5.mono fun b h1 h2 => ⟨hapt b h1 h2.1, by have := h2.1; omega⟩⟩, h.base, wv, m1, m2⟩
  obtain ⟨k1, k2⟩ := hK2 b hb
  refine ⟨(h.grown.block b k2.1 (fun e => k2.2.1 (Option.some.inj e))).trans k1, Nat.lt_of_lt_of_le k2.1 h.grown.size, k2.2.1, fun v hv e => ?_⟩
  obtain ⟨v2, hv2⟩ := hc2
  rw [hq v hv, ← ho2 v2 hv2] at e
  exact k2.2.2 v2 hv2 e
/-- the reader breaks -/
theorem FeedSt.broke {B rb fb : Nat} {w W V W2 : World} {depth begin_ count a p : Int} {acc : List G} {n : Nat} {l : List UInt8} {sv cv : Value} (h : FeedSt B w rb depth begin_ count acc n l sv (.pointer none) W) (hb : Below W.heap.size W V) (hB : B ≤ W.heap.size) (hws : w.heap.size ≤ W.heap.size) (hf : V.heap[fb]? = some (.cells #[.int .i64 a, cv] 102 (0, 0))) (hfl : W.heap.size ≤ fb)
    (hW2 : W2 = (V.setCell ⟨fb, 0, none⟩ (.int .i64 p)).setCell ⟨rb, 4, none⟩ (.pointer (some ⟨fb, 0, none⟩))) :
    FeedSt B w rb depth begin_ count acc n l sv (.pointer (some ⟨fb, 0, none⟩)) W2 ∧ NewS w W2 rb fb ∧ W2.heap[fb]? = some (.cells #[.int .i64 p, cv] 102 (0, 0)) ∧ Below B w W2 := by
  obtain ⟨h1, h2, ⟨vs, h3, h4⟩, h5⟩ := h
  obtain ⟨wv, m1, m2⟩ := h5.mem
  have hrl := h5.lt
  have hrb := h5.base
  have hfr : fb ≠ rb := by omega
  have hset : ∀ b, b ≠ fb → b ≠ rb → W2.heap[b]? = V.heap[b]? := fun b k1 k2 => by rw [hW2, Below.heap_setCell _ _ _ b k2, Below.heap_setCell _ _ _ b k1]
  have hsz : W2.heap.size = V.heap.size := by rw [hW2]; simp [World.setCell]
  have hfb2 : W2.heap[fb]? = some (.cells #[.int .i64 p, cv] 102 (0, 0)) := by
    rw [hW2, Below.heap_setCell _ _ _ fb hfr]
    have := heap_store (cs := [.int .i64 a, cv]) hf (j := 0) (.int .i64 p)
    simpa using this
  have hr2 : W2.heap[rb]? = some (.cells #[.int .i64 depth, wv, .int .i64 (begin_ + n), .int .i64 (count + acc.length), .pointer (some ⟨fb, 0, none⟩)] 89 (0, 0)) := by
    have hv : (V.setCell ⟨fb, 0, none⟩ (.int .i64 p)).heap[rb]? = some (.cells #[.int .i64 depth, wv, .int .i64 (begin_ + n), .int .i64 (count + acc.length), .pointer none] 89 (0, 0)) :=
      (Below.heap_setCell V ⟨fb, 0, none⟩ _ rb hfr.symm).trans ((hb.block _ hrl).trans m1)
    have := heap_store (cs := [.int .i64 depth, wv, .int .i64 (begin_ + n), .int .i64 (count + acc.length), .pointer none]) hv (j := 4) (.pointer (some ⟨fb, 0, none⟩))
    rw [hW2]; simpa using this
  have hold : ∀ b, b < W.heap.size → b ≠ rb → W2.heap[b]? = W.heap[b]? := fun b k1 k2 => (hset b (by omega) k2).trans (hb.block b k1)
  have hapt : ∀ b, AptS W rb b → AptS W2 rb b := fun b ⟨k1, k2, k3⟩ => ⟨by rw [hsz]; have := hb.size; omega, k2, fun v hv => by
    simp [World.cell?, hr2] at hv; subst hv
    exact k3 wv (by simp [World.cell?, m1])⟩
  have hbW2 : Below B w W2 := by
    rw [hW2]
    exact ((h1.trans (hb.mono hB)).setCell (show B ≤ fb by omega) _).setCell hrb _
  have hnew : ∀ b, NewS w W rb b → NewS w W2 rb b := fun b hb => ⟨hapt b hb.1, hb.2⟩
  have hkp : Keeps (NewS w W rb) W W2 := fun b o hb ho _ => (hold b (lt_of_heap ho) hb.1.2.1).trans ho
  refine ⟨⟨hbW2, fun b hb => ⟨(hold b (h2 b hb).2.1 (h2 b hb).2.2.1).trans (h2 b hb).1, hapt b (h2 b hb).2⟩, ⟨vs, (h3.keeps hkp).mono fun b _ hb => hnew b hb, (h4.keeps hkp).mono fun b _ hb => hnew b hb⟩, hrb, wv, hr2, ?_⟩, ⟨⟨lt_of_heap hfb2, hfr, fun v hv e => ?_⟩, by omega⟩, hfb2, hbW2⟩
  · exact m2.keep (by rw [hsz]; exact hb.size) fun g hg => hold g (m2.own g hg).2.2 (m2.own g hg).2.1
  · simp [World.cell?, hr2] at hv; subst hv
    have := (m2.own fb e).2.2
    omega

theorem NewS.fresh {B rb b : Nat} {w W W' : World} {depth begin_ count : Int} {l : List UInt8} {bp : Value} (h : IsSt B W rb depth l begin_ count bp) (hb : Below W.heap.size W W') (h1 : W.heap.size ≤ b) (h2 : b < W'.heap.size) (hw : w.heap.size ≤ W.heap.size) : NewS w W' rb b := by
  obtain ⟨wv, m1, m2⟩ := h.mem
  refine ⟨⟨h2, by have := h.lt; omega, fun v hv e => ?_⟩, by omega⟩
  rw [hb.cell (p := ⟨rb, 1, none⟩) h.lt] at hv
  simp [World.cell?, m1] at hv; subst hv
  have := (m2.own b e).2.2
  omega
theorem list_appendG {w : World} {ops : Array Oper} {rest : List Oper} {o : Oper} {a : Act} {Q : Exit → Act → World → Prop} (hgd : o.guard = none) (s x : Operand)
    (ho : o.op = .call { callee := .builtin .append, args := #[s, x], argTypes := #[40, 40] }) {B yb n : Nat} (v : Value) {u1 u2 u3 u4 : Value} {vs : List Value} (hs : a.eval s = v) (hx : a.eval x = .slice (some ⟨yb, 0, none⟩) 1 1) (hv : w.ownsRow B 51 4 v n vs)
    (hy : ∀ j u, [u1, u2, u3, u4][j]? = some u → w.cell? ⟨yb, j, none⟩ = some u) (hu : ∀ u ∈ [u1, u2, u3, u4], u.oneCell' = true) (hl : n + 1 ≤ 1099511627776) (hB : B ≤ w.heap.size)
    (h : ∀ g cap w', w'.ownsRow B 51 4 (.slice (some ⟨g, 0, none⟩) (n + 1) cap) (n + 1) (vs ++ [u1, u2, u3, u4]) → w.grownBy w' v.ownBlock → (v.ownBlock = some g ∨ g = w.heap.size) → g < w'.heap.size → wpList Tryd.prog ops Q rest (a.put o.dst (.slice (some ⟨g, 0, none⟩) (n + 1) cap)) w') :
    wpList Tryd.prog ops Q (o :: rest) a w := by
  obtain ⟨i0, hi, hz0, hz1, hz2⟩ := info_parts Tryd.infoGx
  refine wpList_append_lies w hgd s x 40 ho B 51 i0 (.agg #[.int .i64 0, .slice none 0 0, .slice none 0 0, .slice none 0 0]) 4 80 Tryd.underGx hi hz0 hz1 hz2 rfl (by decide) v n vs hs hv ⟨yb, 0, none⟩ 1 1 [u1, u2, u3, u4] hx rfl ?_ hu (by omega) (by unfold maxLen; omega) (by omega) hB w.heap.size rfl h
  intro j u hj
  rw [add0]; exact hy j u hj
theorem lenAt_eq {B rb : Nat} {W : World} {wv d b c p : Value} {t : TypeId} {l : List UInt8} (h : W.heap[rb]? = some (.cells #[d, wv, b, c, p] t (0, 0))) (hw : WaitS B rb W wv l) : lenAt W rb = l.length := by
  obtain ⟨A, k, rfl, _, _⟩ := hw.shape
  simp [lenAt, World.cell?, h]
theorem LoopS.len {B rb : Nat} {w1 W : World} {ow : Option Nat} {depth begin_ count : Int} {acc : List G} {n : Nat} {l : List UInt8} {sv : Value} (h : LoopS B w1 rb ow depth begin_ count acc n l sv W) : lenAt W rb = l.length := by
  obtain ⟨wv, vs, m1, m2, _⟩ := h.mem
  exact lenAt_eq m1 m2
end Go.Proofs.YtlffgepnhhnadaaDoor.Pl
