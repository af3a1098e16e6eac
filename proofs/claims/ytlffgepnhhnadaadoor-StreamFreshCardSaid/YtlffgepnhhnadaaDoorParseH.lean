/- wkb's parser: what its walk of a geometry keeps. -/
import Derived.Test.YtlffgepnhhnadaaDoorParseR
import Derived.Deep.DeepCutAuto
import Derived.Deep.CutBlock
namespace Go.Proofs.YtlffgepnhhnadaaDoor.Pl
open Go.RowKit

theorem geomR_err {l : List UInt8} {deep level home : Int} {f at_ : Nat} {e : PErr} (h : headR l deep at_ level home = .error e) : geomR l deep (f + 1) level home at_ = .error e := by
  simp only [geomR, h]

theorem Tryd.infoBx : (Tryd.prog.info? 4).map (fun i => (i.zero, i.size, i.bytes)) = some (some (.bool false), 1, 1) := by kernel_rfl
theorem Tryd.underBx : Tryd.prog.underlying 96 = some (.slice 4) := by kernel_rfl
theorem one_bool (w : World) (b : Bool) : OwnO w.heap.size (w.alloc (.cells #[.bool b] 4)) (.slice (some ⟨w.heap.size, 0, none⟩) 1 1) [b] :=
  ⟨rfl, .inr ⟨w.heap.size, 1, #[.bool b], rfl, Nat.le_refl _, World.alloc_heap_new _ _, Nat.le_refl _, by unfold maxLen; omega, rfl, rfl⟩⟩
theorem OwnO.belowO {B : Nat} {w w' : World} {v : Value} {os : List Bool} (h : OwnO B w v os) (hb : Below w.heap.size w w') : OwnO B w' v os :=
  World.ownsRow.kept h (show w.grownBy w' none from ⟨hb.os, hb.tape, hb.output, hb.size, fun k hk _ => hb.block k hk⟩) (by cases v.ownBlock with | none => exact .inl rfl | some x => exact .inr (by simp))
theorem list_appendO {w : World} {ops : Array Oper} {rest : List Oper} {o : Oper} {a : Act} {Q : Exit → Act → World → Prop} (hgd : o.guard = none) (s x : Operand)
    (ho : o.op = .call { callee := .builtin .append, args := #[s, x], argTypes := #[96, 96] }) {B B' : Nat} (v y : Value) {l : List Bool} {b : Bool} (hs : a.eval s = v) (hx : a.eval x = y) (hv : OwnO B w v l) (hy : OwnO B' w y [b]) (hl : l.length + 1 ≤ 140737488355328) (hB : B ≤ w.heap.size)
    (h : ∀ g cap w', OwnO B w' (.slice (some ⟨g, 0, none⟩) (l.length + 1) cap) (l ++ [b]) → w.grownBy w' v.ownBlock → (v.ownBlock = some g ∨ g = w.heap.size) → g < w'.heap.size → wpList Tryd.prog ops Q rest (a.put o.dst (.slice (some ⟨g, 0, none⟩) (l.length + 1) cap)) w') :
    wpList Tryd.prog ops Q (o :: rest) a w := by
  obtain ⟨i0, hi, hz0, hz1, hz2⟩ := info_parts Tryd.infoBx
  have hc := fun {g : Nat} (hg : y.ownBlock = some g) => World.ownsRow.cells hy hg
  rcases hy.2 with ⟨_, hx2⟩ | ⟨g, cap, cur, rfl, hb, hg, _⟩
  · cases hx2
  refine wpList_append_lies w hgd s x 96 ho B 4 i0 (.bool false) 1 1 Tryd.underBx hi hz0 hz1 hz2 rfl (by decide) v l.length (l.map .bool) hs hv ⟨g, 0, none⟩ 1 cap [.bool b] hx rfl (hc rfl) (by simp [Value.oneCell']) (by omega) (by unfold maxLen; omega) (by omega) hB w.heap.size rfl ?_
  intro g cap w' h2 h3 h4 h5
  refine h g cap w' ?_ h3 h4 h5
  unfold OwnO
  rw [List.map_append, List.length_append]; exact h2

/-- the parser behind an append to its orders and the store of what it gave -/
theorem par_grow {B pb rb at_ g3 len cap3 : Nat} {w w2 w3 : World} {v ov : Value} {l : List UInt8} {deep : Int} {os os' : List Bool} (hp : IsPar B w pb rb v l at_ deep os) (hB : B ≤ w.heap.size)
    (hblk : w.heap[pb]? = some (.cells #[.pointer (some ⟨rb, 0, none⟩), .int .i64 deep, ov] 205 (0, 0))) (hown : OwnO B w ov os) (hne : ov.ownBlock ≠ some pb) (hne2 : ov.ownBlock ≠ some rb)
    (h2 : Below w.heap.size w w2) (ho3 : OwnO B w3 (.slice (some ⟨g3, 0, none⟩) len cap3) os') (hgr : w2.grownBy w3 ov.ownBlock) (hg3 : ov.ownBlock = some g3 ∨ g3 = w2.heap.size) :
    IsPar B (w3.setCell ⟨pb, 2, none⟩ (.slice (some ⟨g3, 0, none⟩) len cap3)) pb rb v l at_ deep os' ∧ KeepR pb rb w (w3.setCell ⟨pb, 2, none⟩ (.slice (some ⟨g3, 0, none⟩) len cap3)) ∧ Below B w (w3.setCell ⟨pb, 2, none⟩ (.slice (some ⟨g3, 0, none⟩) len cap3)) := by
  have hlt := hp.lt
  have hrl := lt_of_heap hp.rd.blk
  have hlt2 : pb < w2.heap.size := Nat.lt_of_lt_of_le hlt h2.size
  have hrl2 : rb < w2.heap.size := Nat.lt_of_lt_of_le hrl h2.size
  have hg : g3 ≠ pb := by
    rintro rfl
    rcases hg3 with h | h
    · exact hne h
    · omega
  have hgrb : g3 ≠ rb := by
    rintro rfl
    rcases hg3 with h | h
    · exact hne2 h
    · omega
  have hb3 : w3.heap[pb]? = some (.cells #[.pointer (some ⟨rb, 0, none⟩), .int .i64 deep, ov] 205 (0, 0)) := by
    rw [hgr.block pb hlt2 (fun e => hne e.symm), h2.block pb hlt]; exact hblk
  have hBl : Below B w w3 := (h2.mono hB).grown hgr (Nat.le_trans hB h2.size) (fun k e => (World.ownsRow.lt hown k e).1)
  have hblk' : (w3.setCell ⟨pb, 2, none⟩ (.slice (some ⟨g3, 0, none⟩) len cap3)).heap[pb]? = some (.cells #[.pointer (some ⟨rb, 0, none⟩), .int .i64 deep, .slice (some ⟨g3, 0, none⟩) len cap3] 205 (0, 0)) := by
    have := heap_store (cs := [.pointer (some ⟨rb, 0, none⟩), .int .i64 deep, ov]) hb3 (j := 2) (.slice (some ⟨g3, 0, none⟩) len cap3)
    simpa using this
  have hset : ∀ b, b ≠ pb → (w3.setCell ⟨pb, 2, none⟩ (.slice (some ⟨g3, 0, none⟩) len cap3)).heap[b]? = w3.heap[b]? := fun b hb => Below.heap_setCell w3 _ _ b hb
  have hK : KeepR pb rb w (w3.setCell ⟨pb, 2, none⟩ (.slice (some ⟨g3, 0, none⟩) len cap3)) := by
    intro b ⟨hb1, hb2, hb3', hb4⟩
    have hno := hb4 ov (by simp [World.cell?, hblk])
    refine ⟨?_, ?_, hb2, hb3', fun u hu => ?_⟩
    · rw [hset b hb3', hgr.block b (Nat.lt_of_lt_of_le hb1 h2.size) (fun e => hno e.symm), h2.block b hb1]
    · have := hgr.size; have := h2.size; simp [World.setCell]; omega
    · simp [World.cell?, hblk'] at hu
      subst hu
      rcases hg3 with h | h
      · rw [h] at hno; simpa [Value.ownBlock] using hno
      · have := h2.size
        simp only [Value.ownBlock, ne_eq, Option.some.injEq]
        omega
  refine ⟨⟨hp.basep, hp.baser, hp.ne, ⟨?_, (hp.bytes.par hK).mono fun b _ hb => ⟨hb.2.1, hb.1⟩, hp.rd.le⟩, hp.bytes.par hK, _, hblk', World.ownsRow.kept ho3 (grownBy_set w3 ⟨pb, 2, none⟩ _) (.inr (by simpa [Value.ownBlock] using hg)), by simpa [Value.ownBlock] using hg, by simpa [Value.ownBlock] using hgrb⟩, hK, hBl.setCell hp.basep _⟩
  rw [hset rb hp.ne.symm, hgr.block rb hrl2 (fun e => hne2 e.symm), h2.block rb hrl]; exact hp.rd.blk

theorem headR_eq (l : List UInt8) (deep : Int) (at_ : Nat) (level home : Int) (h : at_ < l.length) : headR l deep at_ level home =
    if 1 < l[at_].toNat then .error (at_, 170) else
    if l.length - (at_ + 1) < 4 then .error (at_ + 1, 160) else
    if wd l (at_ + 1) 4 (l[at_].toNat == 1) < 1 ∨ 7 < wd l (at_ + 1) 4 (l[at_].toNat == 1) then .error (at_ + 1, 171) else
    if memberB home (wd l (at_ + 1) 4 (l[at_].toNat == 1)) = false then .error (at_ + 1, 172) else
    if deep < level then .error (at_, 191) else .ok (l[at_].toNat == 1, wd l (at_ + 1) 4 (l[at_].toNat == 1)) := by
  unfold headR
  rw [dif_neg (by omega)]

theorem AptR.set {w : World} {pb rb g b j : Nat} {u : Value} (h : AptR w pb rb b) (hg : g ≠ pb) : AptR (w.setCell ⟨g, j, none⟩ u) pb rb b :=
  ⟨by simpa [World.setCell] using h.1, h.2.1, h.2.2.1, fun x hx => h.2.2.2 x (by rw [World.cell?_setCell_far _ _ _ _ hg] at hx; exact hx)⟩
theorem keeps_set {w : World} {g j : Nat} {u : Value} {ok : Nat → Prop} (hg : ∀ b, ok b → b ≠ g) : Keeps ok w (w.setCell ⟨g, j, none⟩ u) := fun b _ hb ho _ => (Below.heap_setCell w ⟨g, j, none⟩ u b (hg b hb)).trans ho
/-- where the four kinds meet: g in its box gb -/
def GeoM (B : Nat) (w w1 : World) (pb rb : Nat) (v : Value) (l : List UInt8) (deep level home : Int) (os : List Bool) (f at_ kd gb : Nat) (W : World) : Prop :=
  ∃ x a os' v1 v2 v3, geomR l deep (f + 1) level home at_ = .ok ((x, os'), a) ∧ IsN (fun b => AptR W pb rb b ∧ gb < b) W x [.int .i64 kd, v1, v2, v3] ∧ W.heap[gb]? = some (.cells #[.int .i64 kd, v1, v2, v3] 51 (0, 0)) ∧
    IsPar B W pb rb v l a deep (os ++ os') ∧ KeepR pb rb w1 W ∧ Below B w W


theorem countR_len {l : List UInt8} {lt : Bool} {least at_ n a : Nat} (h : countR l lt least at_ = .ok (n, a)) : a = at_ + 4 ∧ n * least + a ≤ l.length ∧ n < 4294967296 := by
  unfold countR at h
  split at h
  · cases h
  split at h
  · cases h
  have := wd_lt l at_ 4 lt
  simp only [Except.ok.injEq, Prod.mk.injEq] at h
  obtain ⟨rfl, rfl⟩ := h
  refine ⟨rfl, ?_, by omega⟩
  generalize wd l at_ 4 lt * least = y at *
  omega

theorem add0 (g j : Nat) : (⟨g, 0, none⟩ : Addr).add j = ⟨g, j, none⟩ := by
  cases j <;> simp [Addr.add]
/-- the list that a loop grows, in cell j of the box gb -/
structure GrowI (B : Nat) (w w1 : World) (pb rb gb : Nat) (v : Value) (l : List UInt8) (deep : Int) (a : Nat) (os : List Bool) (cs : List Value) (j : Nat) (t : TypeId) (sz n : Nat) (vs : List Value) (sv : Value) (W : World) : Prop where
  par : IsPar B W pb rb v l a deep os
  keep : KeepR pb rb w1 W
  below : Below B w W
  box : W.heap[gb]? = some (.cells (cs.set j sv).toArray 51 (0, 0))
  apt : AptR W pb rb gb
  own : W.ownsRow (gb + 1) t sz sv n vs
  oapt : ∀ g, sv.ownBlock = some g → AptR W pb rb g
/-- where the elements' rows lie -/
def GrowOk (W : World) (pb rb gb : Nat) (sv : Value) (b : Nat) : Prop := (AptR W pb rb b ∧ gb < b) ∧ sv.ownBlock ≠ some b

section
variable {B : Nat} {w w1 : World} {pb rb gb : Nat} {v : Value} {l : List UInt8} {deep : Int} {a : Nat} {os : List Bool} {cs : List Value} {j : Nat} {t : TypeId} {sz n : Nat} {vs : List Value} {sv : Value} {W : World}

theorem GrowI.call {a2 : Nat} {os2 : List Bool} {W2 : World} (h : GrowI B w w1 pb rb gb v l deep a os cs j t sz n vs sv W) (hp : IsPar B W2 pb rb v l a2 deep os2) (hk : KeepR pb rb W W2) (hb : Below B W W2) :
    GrowI B w w1 pb rb gb v l deep a2 os2 cs j t sz n vs sv W2 ∧ Keeps (GrowOk W pb rb gb sv) W W2 ∧ ∀ b, GrowOk W pb rb gb sv b → GrowOk W2 pb rb gb sv b := by
  refine ⟨⟨hp, h.keep.trans hk, h.below.trans hb, (hk _ h.apt).1.trans h.box, (hk _ h.apt).2, ?_, fun g hg => (hk g (h.oapt g hg)).2⟩, hk.keeps.mono fun b _ hb => hb.1.1, fun b hb => ⟨⟨(hk b hb.1.1).2, hb.1.2⟩, hb.2⟩⟩
  obtain ⟨h0, h1⟩ := h.own
  refine ⟨h0, h1.imp id ?_⟩
  rintro ⟨g, cap, cur, hv, hb, hg, rest⟩
  exact ⟨g, cap, cur, hv, hb, (hk g (h.oapt g (by rw [hv]; rfl))).1.trans hg, rest⟩

theorem GrowI.sl (h : GrowI B w w1 pb rb gb v l deep a os cs j t sz n vs sv W) (hn : n ≤ 140737488355328) : Sl (fun b => AptR W pb rb b ∧ gb < b) W sv n vs := by
  obtain ⟨h0, ⟨rfl, h2⟩ | ⟨g, cap, cur, hv, hb, hg, h3, h4, h5, h6⟩⟩ := h.own
  · subst h2
    refine ⟨_, _, rfl, Nat.le_refl _, hn, .inl ?_⟩
    exact List.eq_nil_of_length_eq_zero (by simpa using h0)
  · refine ⟨_, _, hv, h3, hn, .inr ⟨g, 0, rfl, ⟨h.oapt g (by rw [hv]; rfl), hb⟩, fun i c hc => ?_⟩⟩
    have := World.ownsRow.cells h.own (g := g) (by rw [hv]; rfl) i c hc
    rw [add0] at this
    rw [Nat.zero_add]; exact this

theorem GrowI.ownl (h : GrowI B w w1 pb rb gb v l deep a os cs j t sz n vs sv W) : OwnL (fun b => AptR W pb rb b ∧ gb < b) W t sz sv n vs := by
  refine ⟨⟨h.own.1, ?_⟩, fun b e => ⟨h.oapt b e, (World.ownsRow.lt h.own b e).1⟩⟩
  rcases h.own.2 with hn | ⟨g, cap, cur, rfl, hb, rest⟩
  · exact .inl hn
  · exact .inr ⟨g, cap, cur, rfl, Nat.zero_le _, rest⟩
theorem GrowI.grow {a0 : Nat} {os0 : List Bool} {n' : Nat} {vs' : List Value} {W' W3 : World} {g cap : Nat} (hgb : w1.heap.size ≤ gb) (hB : B ≤ gb) (h0 : IsPar B w1 pb rb v l a0 deep os0) (h : GrowI B w w1 pb rb gb v l deep a os cs j t sz n vs sv W) (hal : Below W.heap.size W W')
    (ho3 : W3.ownsRow (gb + 1) t sz (.slice (some ⟨g, 0, none⟩) n' cap) n' vs') (hgr : W'.grownBy W3 sv.ownBlock) (hg : sv.ownBlock = some g ∨ g = W'.heap.size) (hgl : g < W3.heap.size) :
    GrowI B w w1 pb rb gb v l deep a os cs j t sz n' vs' (.slice (some ⟨g, 0, none⟩) n' cap) (W3.setCell ⟨gb, j, none⟩ (.slice (some ⟨g, 0, none⟩) n' cap)) ∧
    Keeps (GrowOk W pb rb gb sv) W (W3.setCell ⟨gb, j, none⟩ (.slice (some ⟨g, 0, none⟩) n' cap)) ∧
    ∀ b, GrowOk W pb rb gb sv b → GrowOk (W3.setCell ⟨gb, j, none⟩ (.slice (some ⟨g, 0, none⟩) n' cap)) pb rb gb (.slice (some ⟨g, 0, none⟩) n' cap) b := by
  have hsz : (W3.setCell ⟨gb, j, none⟩ (.slice (some ⟨g, 0, none⟩) n' cap)).heap.size = W3.heap.size := by simp [World.setCell]
  have hs1 := hal.size
  have hs2 := hgr.size
  have hown := World.ownsRow.lt h.own
  have hset : ∀ b, b ≠ gb → (W3.setCell ⟨gb, j, none⟩ (.slice (some ⟨g, 0, none⟩) n' cap)).heap[b]? = W3.heap[b]? := fun b hb => Below.heap_setCell W3 _ _ b hb
  have hblk3 : ∀ b, b < W.heap.size → sv.ownBlock ≠ some b → W3.heap[b]? = W.heap[b]? := fun b h1 h2 => by
    rw [hgr.block b (Nat.lt_of_lt_of_le h1 hs1) (fun e => h2 e.symm), hal.block b h1]
  have hblk : ∀ b, b < W.heap.size → sv.ownBlock ≠ some b → b ≠ gb → (W3.setCell ⟨gb, j, none⟩ (.slice (some ⟨g, 0, none⟩) n' cap)).heap[b]? = W.heap[b]? := fun b h1 h2 h3 => by
    rw [hset b h3, hblk3 b h1 h2]
  have hpl := h.par.lt
  have hrl := lt_of_heap h.par.rd.blk
  have hpo : sv.ownBlock ≠ some pb := fun e => (h.oapt pb e).2.2.1 rfl
  have hro : sv.ownBlock ≠ some rb := fun e => (h.oapt rb e).2.1 rfl
  have hgo : sv.ownBlock ≠ some gb := fun e => by have := (hown gb e).1; omega
  obtain ⟨ov, m1, m2, m3, m4⟩ := h.par.mem
  have hq : W.cell? ⟨pb, 2, none⟩ = some ov := by simp [World.cell?, m1]
  have hgl2 : gb + 1 ≤ g := (World.ownsRow.lt ho3 g rfl).1
  generalize hW4 : W3.setCell ⟨gb, j, none⟩ (.slice (some ⟨g, 0, none⟩) n' cap) = W4 at *
  have hpb : W4.heap[pb]? = some (.cells #[.pointer (some ⟨rb, 0, none⟩), .int .i64 deep, ov] 205 (0, 0)) := (hblk pb hpl hpo h.apt.2.2.1.symm).trans m1
  have hov : ∀ x, W4.cell? ⟨pb, 2, none⟩ = some x → x = ov := fun x hx => by simp [World.cell?, hpb] at hx; exact hx.symm
  have hK : KeepR pb rb w1 W4 := fun b hb => by
    obtain ⟨k1, k2⟩ := h.keep b hb
    have hb1 := hb.1
    have hbg : b ≠ gb := by omega
    have hbo : sv.ownBlock ≠ some b := fun e => by have := (hown b e).1; omega
    exact ⟨(hblk b k2.1 hbo hbg).trans k1, by rw [hsz]; have := k2.1; omega, k2.2.1, k2.2.2.1, fun x hx => by rw [hov x hx]; exact k2.2.2.2 ov hq⟩
  have hapt : ∀ b, AptR W pb rb b → AptR W4 pb rb b := fun b hb => ⟨by rw [hsz]; have := hb.1; omega, hb.2.1, hb.2.2.1, fun x hx => by rw [hov x hx]; exact hb.2.2.2 ov hq⟩
  have hgapt : AptR W4 pb rb g := by
    rcases hg with hg | hg
    · exact hapt g (h.oapt g hg)
    · refine ⟨by rw [hsz]; exact hgl, by omega, by omega, fun x hx e => ?_⟩
      rw [hov x hx] at e
      have := (World.ownsRow.lt m2 g e).2
      omega
  have hnew : ∀ b, b < W.heap.size → sv.ownBlock ≠ some b → g ≠ b := fun b h1 h2 e => by
    subst e
    rcases hg with hg | hg
    · exact h2 hg
    · omega
  refine ⟨⟨⟨h.par.basep, h.par.baser, h.par.ne, ⟨(hblk rb hrl hro h.apt.2.1.symm).trans h.par.rd.blk, (h0.bytes.par hK).mono fun b _ hb => ⟨hb.2.1, hb.1⟩, h.par.rd.le⟩, h0.bytes.par hK, ov, hpb, ?_, m3, m4⟩, hK, ?_, ?_, hapt gb h.apt, ?_, fun g' hg' => by cases hg'; exact hgapt⟩, ?_, ?_⟩
  · have h1 : W'.ownsRow B 4 1 ov os.length (os.map .bool) := OwnO.belowO m2 hal
    have h2 : W3.ownsRow B 4 1 ov os.length (os.map .bool) := World.ownsRow.kept h1 hgr (by
      cases ho : sv.ownBlock with
      | none => cases hov2 : ov.ownBlock with
        | none => exact .inl rfl
        | some x => exact .inr (by simp)
      | some x => exact .inr fun e => (h.oapt x ho).2.2.2 ov hq e)
    rw [← hW4]
    exact World.ownsRow.kept h2 (grownBy_set W3 ⟨gb, j, none⟩ _) (.inr (h.apt.2.2.2 ov hq))
  · rw [← hW4]
    exact (h.below.trans ((hal.mono (Nat.le_of_lt (Nat.lt_of_le_of_lt hB h.apt.1))).grown hgr (by have := h.apt.1; omega) (fun k e => by have := (hown k e).1; omega))).setCell hB _
  · have := heap_store (cs := cs.set j sv) ((hblk3 gb h.apt.1 hgo).trans h.box) (j := j) (.slice (some ⟨g, 0, none⟩) n' cap)
    rw [List.set_set] at this
    rw [← hW4]; exact this
  · rw [← hW4]
    exact World.ownsRow.kept ho3 (grownBy_set W3 ⟨gb, j, none⟩ _) (.inr (by simp only [Value.ownBlock, ne_eq, Option.some.injEq]; omega))
  · intro b o hb ho _
    exact (hblk b hb.1.1.1 hb.2 (by have := hb.1.2; omega)).trans ho
  · intro b hb
    exact ⟨⟨hapt b hb.1.1, hb.1.2⟩, by simp only [Value.ownBlock, ne_eq, Option.some.injEq]; exact hnew b hb.1.1.1 hb.2⟩
end

theorem manyR_le {α : Type} {f : Nat → Except PErr (α × Nat)} (g : α → Nat) (hf : ∀ a x a', f a = .ok (x, a') → a + g x ≤ a') : ∀ (n a : Nat) (xs : List α) (a' : Nat), manyR f n a = .ok (xs, a') → a + (xs.map g).sum ≤ a' := by
  intro n
  induction n with
  | zero => intro a xs a' h; simp [manyR] at h; obtain ⟨rfl, rfl⟩ := h; simp
  | succ n ih =>
    intro a xs a' h
    simp only [manyR] at h
    split at h
    · cases h
    · rename_i x a1 h1
      split at h
      · cases h
      · rename_i xs2 a2 h2
        simp only [Except.ok.injEq, Prod.mk.injEq] at h
        obtain ⟨rfl, rfl⟩ := h
        have := hf _ _ _ h1
        have := ih _ _ _ h2
        simp only [List.map_cons, List.sum_cons]
        omega
theorem ptsR_le {l : List UInt8} {lt : Bool} {n a : Nat} {xs : List Pt} {a' : Nat} (h : ptsR l lt n a = .ok (xs, a')) : a ≤ a' := by
  have := manyR_le (fun _ => 0) (fun a x a' h => by
    cases hq : ptR l lt a with
    | error e => rw [hq] at h; cases h
    | ok p => rw [hq] at h; simp [Except.map] at h; omega) n a xs a' h
  omega
theorem ringR_le {l : List UInt8} {lt : Bool} {a : Nat} {x : List Pt} {a' : Nat} (h : ringR l lt a = .ok (x, a')) : a ≤ a' := by
  unfold ringR at h
  split at h
  · cases h
  split at h
  · cases h
  split at h
  · cases h
  have := ptsR_le h
  omega
theorem placeR_le {l : List UInt8} {lt : Bool} {a : Nat} {x : List Pt} {a' : Nat} (h : placeR l lt a = .ok (x, a')) : a ≤ a' := by
  unfold placeR at h
  repeat' split at h
  all_goals first | (cases h; done) | skip
  all_goals (simp only [Except.ok.injEq, Prod.mk.injEq] at h; omega)
theorem map_ok {α β : Type} {r : Except PErr α} {f : α → β} {y : β} (h : r.map f = .ok y) : ∃ x, r = .ok x ∧ f x = y := by
  cases r with
  | error e => cases h
  | ok x => exact ⟨x, rfl, by simpa [Except.map] using h⟩
theorem geomR_len (l : List UInt8) (deep : Int) : ∀ (f : Nat) (level home : Int) (at_ : Nat) (x : G × List Bool) (a : Nat), geomR l deep f level home at_ = .ok (x, a) → at_ + x.2.length ≤ a := by
  intro f
  induction f with
  | zero => intro level home at_ x a h; simp [geomR] at h
  | succ f ih =>
    intro level home at_ x a h
    simp only [geomR] at h
    split at h
    · cases h
    rename_i lt k _
    split at h
    · obtain ⟨r, hr, hx⟩ := map_ok h
      cases hx
      have := placeR_le hr
      simp; omega
    split at h
    · split at h
      · cases h
      rename_i n a1 hc
      obtain ⟨r, hr, hx⟩ := map_ok h
      cases hx
      have := ptsR_le hr
      have := countR_len hc
      simp; omega
    split at h
    · split at h
      · cases h
      rename_i n a1 hc
      obtain ⟨r, hr, hx⟩ := map_ok h
      cases hx
      have := manyR_le (fun _ => 0) (fun a x a' h => by have := ringR_le h; omega) _ _ _ _ hr
      have := countR_len hc
      simp; omega
    · split at h
      · cases h
      rename_i n a1 hc
      obtain ⟨r, hr, hx⟩ := map_ok h
      cases hx
      have h1 := manyR_le (fun x => x.2.length) (fun a x a' h => ih _ _ _ _ _ h) _ _ _ _ hr
      have h2 := countR_len hc
      simp only [List.length_cons, List.length_flatten, List.map_map]
      rw [show List.length ∘ (fun x : G × List Bool => x.2) = fun x => x.2.length from rfl]
      omega

/-- what the loop over rings keeps -/
def RingsI (B : Nat) (w w1 : World) (pb rb gb : Nat) (v : Value) (l : List UInt8) (deep : Int) (os : List Bool) (lt : Bool) (n a0 k : Nat) (W : World) : Prop :=
  ∃ (acc : List (List Pt)) (a : Nat) (vs : List Value) (sv : Value), acc.length = k ∧ manyK (ringR l lt) n a0 acc (n - k) a ∧
    GrowI B w w1 pb rb gb v l deep a os [.int .i64 3, .slice none 0 0, .slice none 0 0, .slice none 0 0] 2 48 1 k vs sv W ∧ Each (Pts (GrowOk W pb rb gb sv) W) vs acc
/-- what the loop over parts keeps -/
def PartsI (B : Nat) (w w1 : World) (pb rb gb : Nat) (v : Value) (l : List UInt8) (deep : Int) (os : List Bool) (f : Nat) (level kd : Int) (n a0 k : Nat) (W : World) : Prop :=
  ∃ (acc : List (G × List Bool)) (a : Nat) (vs : List Value) (sv : Value), acc.length = k ∧ manyK (geomR l deep f level kd) n a0 acc (n - k) a ∧ (os ++ (acc.map (·.2)).flatten).length ≤ a ∧
    GrowI B w w1 pb rb gb v l deep a (os ++ (acc.map (·.2)).flatten) [.int .i64 kd, .slice none 0 0, .slice none 0 0, .slice none 0 0] 3 51 4 k vs sv W ∧ IsGs (GrowOk W pb rb gb sv) W (acc.map (·.1)) vs
theorem GrowI.start {B : Nat} {w w1 : World} {pb rb gb : Nat} {v : Value} {l : List UInt8} {deep : Int} {a : Nat} {os : List Bool} {kd : Value} {t : TypeId} {W : World} (j : Nat) (sz : Nat) (hj : j = 2 ∨ j = 3) (hp : IsPar B W pb rb v l a deep os) (hk : KeepR pb rb w1 W) (hb : Below B w W) (ha : AptR W pb rb gb)
    (hbox : W.heap[gb]? = some (.cells #[kd, .slice none 0 0, .slice none 0 0, .slice none 0 0] 51 (0, 0))) :
    GrowI B w w1 pb rb gb v l deep a os [kd, .slice none 0 0, .slice none 0 0, .slice none 0 0] j t sz 0 [] (.slice none 0 0) W :=
  ⟨hp, hk, hb, by rcases hj with rfl | rfl <;> simpa using hbox, ha, ⟨by simp, .inl ⟨rfl, rfl⟩⟩, fun g hg => by cases hg⟩

theorem Tryd.infoPx : (Tryd.prog.info? 48).map (fun i => (i.zero, i.size, i.bytes)) = some (some (.slice none 0 0), 1, 24) := by kernel_rfl
theorem Tryd.underPx : Tryd.prog.underlying 49 = some (.slice 48) := by kernel_rfl
theorem Tryd.infoGx : (Tryd.prog.info? 51).map (fun i => (i.zero, i.size, i.bytes)) = some (some (.agg #[.int .i64 0, .slice none 0 0, .slice none 0 0, .slice none 0 0]), 4, 80) := by kernel_rfl
theorem Tryd.underGx : Tryd.prog.underlying 40 = some (.slice 51) := by kernel_rfl

theorem step_appendR {w : World} {ops : Array Oper} {o : Oper} {a : Act} {K : Act → World → Prop} {Q : Exit → Act → World → Prop} {E : Prop} (hgd : o.guard = none) (s x : Operand)
    (ho : o.op = .call { callee := .builtin .append, args := #[s, x], argTypes := #[49, 49] }) {B yb n : Nat} (v u : Value) {vs : List Value} (hs : a.eval s = v) (hx : a.eval x = .slice (some ⟨yb, 0, none⟩) 1 1) (hv : w.ownsRow B 48 1 v n vs) (hy : w.cell? ⟨yb, 0, none⟩ = some u) (hu : u.oneCell' = true) (hl : n + 1 ≤ 4294967296) (hB : B ≤ w.heap.size)
    (h : ∀ g cap w', w'.ownsRow B 48 1 (.slice (some ⟨g, 0, none⟩) (n + 1) cap) (n + 1) (vs ++ [u]) → w.grownBy w' v.ownBlock → (v.ownBlock = some g ∨ g = w.heap.size) → g < w'.heap.size → K (a.put o.dst (.slice (some ⟨g, 0, none⟩) (n + 1) cap)) w') :
    if Region.wanted o (yielded ops a.tmps) = true then Oper.wp Tryd.prog o a w K Q else E := by
  obtain ⟨i0, hi, hz0, hz1, hz2⟩ := info_parts Tryd.infoPx
  refine step_append_lies w hgd s x 49 ho B 48 i0 (.slice none 0 0) 1 24 Tryd.underPx hi hz0 hz1 hz2 rfl (by decide) v n vs hs hv ⟨yb, 0, none⟩ 1 1 [u] hx rfl ?_ (by simpa using hu) (by omega) (by unfold maxLen; omega) (by omega) hB w.heap.size rfl h
  intro j u' hj
  cases j with
  | zero => simp at hj; subst hj; exact hy
  | succ j => simp at hj
theorem step_appendG {w : World} {ops : Array Oper} {o : Oper} {a : Act} {K : Act → World → Prop} {Q : Exit → Act → World → Prop} {E : Prop} (hgd : o.guard = none) (s x : Operand)
    (ho : o.op = .call { callee := .builtin .append, args := #[s, x], argTypes := #[40, 40] }) {B yb n : Nat} (v : Value) {u1 u2 u3 u4 : Value} {vs : List Value} (hs : a.eval s = v) (hx : a.eval x = .slice (some ⟨yb, 0, none⟩) 1 1) (hv : w.ownsRow B 51 4 v n vs)
    (hy : ∀ j u, [u1, u2, u3, u4][j]? = some u → w.cell? ⟨yb, j, none⟩ = some u) (hu : ∀ u ∈ [u1, u2, u3, u4], u.oneCell' = true) (hl : n + 1 ≤ 4294967296) (hB : B ≤ w.heap.size)
    (h : ∀ g cap w', w'.ownsRow B 51 4 (.slice (some ⟨g, 0, none⟩) (n + 1) cap) (n + 1) (vs ++ [u1, u2, u3, u4]) → w.grownBy w' v.ownBlock → (v.ownBlock = some g ∨ g = w.heap.size) → g < w'.heap.size → K (a.put o.dst (.slice (some ⟨g, 0, none⟩) (n + 1) cap)) w') :
    if Region.wanted o (yielded ops a.tmps) = true then Oper.wp Tryd.prog o a w K Q else E := by
  obtain ⟨i0, hi, hz0, hz1, hz2⟩ := info_parts Tryd.infoGx
  refine step_append_lies w hgd s x 40 ho B 51 i0 (.agg #[.int .i64 0, .slice none 0 0, .slice none 0 0, .slice none 0 0]) 4 80 Tryd.underGx hi hz0 hz1 hz2 rfl (by decide) v n vs hs hv ⟨yb, 0, none⟩ 1 1 [u1, u2, u3, u4] hx rfl ?_ hu (by omega) (by unfold maxLen; omega) (by omega) hB w.heap.size rfl h
  intro j u hj
  rw [add0]; exact hy j u hj
theorem ownsRow_below {B : Nat} {e : TypeId} {k : Nat} {v : Value} {n : Nat} {xs : List Value} {w w' : World} (h : w.ownsRow B e k v n xs) (hb : Below w.heap.size w w') : w'.ownsRow B e k v n xs :=
  World.ownsRow.kept h (show w.grownBy w' none from ⟨hb.os, hb.tape, hb.output, hb.size, fun k hk _ => hb.block k hk⟩) (by cases v.ownBlock with | none => exact .inl rfl | some x => exact .inr (by simp))
/-- a step of a drawn region that does not come back: the main goal is shown whole; what the walk goes on with is dead -/
theorem die_step (v : Value) (W : World) {P : Program} {ops : Array Oper} {o : Oper} {a : Act} {w : World} {K : Act → World → Prop} {Q : Exit → Act → World → Prop} {E : Prop} (h : if Region.wanted o (yielded ops a.tmps) = true then Oper.wp P o a w K Q else E) (_ : Hid False → K (a.put o.dst v) W) :
    if Region.wanted o (yielded ops a.tmps) = true then Oper.wp P o a w K Q else E := h
theorem dead_step (v : Value) (W : World) {P : Program} {ops : Array Oper} {o : Oper} {a : Act} {w : World} {K : Act → World → Prop} {Q : Exit → Act → World → Prop} {E : Prop} (h : Hid False) (_ : K (a.put o.dst v) W) :
    if Region.wanted o (yielded ops a.tmps) = true then Oper.wp P o a w K Q else E := h.out.elim
theorem parts_next {ok1 ok2 ok3 : Nat → Prop} {W1 W2 W3 : World} {gs : List G} {g : G} {os : List Bool} {vs cs : List Value} (h : IsGs ok1 W1 gs vs) (k1 : Keeps ok1 W1 W2) (m1 : ∀ b, ok1 b → ok2 b) (hg : IsG ok2 W2 g cs) (k2 : Keeps ok2 W2 W3) (m2 : ∀ b, ok2 b → ok3 b) :
    IsGs ok3 W3 (gs ++ [(g, os)].map (·.1)) (vs ++ cs) :=
  ((((h.keeps k1).mono fun b _ hb => m1 b hb).append (IsGs.one hg)).keeps k2).mono fun b _ hb => m2 b hb
theorem below_drewB {B : Nat} {w w2 : World} {k : Nat} (h : Below B (w.drewN k) w2) : Below B w w2 := ⟨h.os, h.tape, h.output, h.size, h.block⟩
theorem below_drewB1 {B : Nat} {w w2 : World} (h : Below B w.drew w2) : Below B w w2 := ⟨h.os, h.tape, h.output, h.size, h.block⟩
theorem par_end {B pb rb a0 a g : Nat} {w wc : World} {v : Value} {l : List UInt8} {deep : Int} {os0 os : List Bool} {z0 z1 z2 z3 : Value} {t : TypeId} (hp : IsPar B w pb rb v l a0 deep os0) (hk : KeepR pb rb w wc) (h : IsPar B wc pb rb v l a deep os) (hg : w.heap.size ≤ g) (hB : B ≤ g) (hbl : Below B w wc) (ha : AptR wc pb rb g)
    (hz : wc.heap[g]? = some (.cells #[z0, z1, z2, z3] t (0, 0))) (x0 x1 x2 x3 : Value) (W : World) (hW : W = (((wc.setCell ⟨g, 0, none⟩ x0).setCell ⟨g, 1, none⟩ x1).setCell ⟨g, 2, none⟩ x2).setCell ⟨g, 3, none⟩ x3) :
    IsPar B W pb rb v l a deep os ∧ KeepR pb rb w W ∧ Below B w W ∧ W.heap[g]? = some (.cells #[x0, x1, x2, x3] t (0, 0)) ∧
    ∀ (x : G) (cs : List Value) (k : Nat), g ≤ k → IsN (fun b => AptR wc pb rb b ∧ k < b) wc x cs → IsN (NewR w W pb rb) W x cs := by
  have s0 := hp.set hk h hg ha 0 x0
  have s1 := hp.set s0.2.1 s0.1 hg s0.2.2 1 x1
  have s2 := hp.set s1.2.1 s1.1 hg s1.2.2 2 x2
  have s3 := hp.set s2.2.1 s2.1 hg s2.2.2 3 x3
  have g0 := heap_store (cs := [z0, z1, z2, z3]) hz (j := 0) x0
  have g1 := heap_store (cs := [x0, z1, z2, z3]) (by simpa using g0) (j := 1) x1
  have g2 := heap_store (cs := [x0, x1, z2, z3]) (by simpa using g1) (j := 2) x2
  have g3 := heap_store (cs := [x0, x1, x2, z3]) (by simpa using g2) (j := 3) x3
  rw [← hW] at s3 g3
  have hbW : Below B w W := by rw [hW]; exact (((hbl.setCell hB _).setCell hB _).setCell hB _).setCell hB _
  refine ⟨s3.1, s3.2.1, hbW, by simpa using g3, fun x cs k hk2 hx => ?_⟩
  have hset : ∀ b, b ≠ g → W.heap[b]? = wc.heap[b]? := fun b hb => by
    rw [hW, Below.heap_setCell _ _ _ b hb, Below.heap_setCell _ _ _ b hb, Below.heap_setCell _ _ _ b hb, Below.heap_setCell _ _ _ b hb]
  have hsz : W.heap.size = wc.heap.size := by rw [hW]; simp [World.setCell]
  refine (hx.keeps (w' := W) fun b o hb ho _ => (hset b (by have := hb.2; omega)).trans ho).mono fun b _ hb => ⟨⟨by rw [hsz]; exact hb.1.1, hb.1.2.1, hb.1.2.2.1, fun y hy => hb.1.2.2.2 y ?_⟩, by have := hb.2; omega⟩
  rw [← World.cell?_of_block (a := ⟨pb, 2, none⟩) (hset pb ha.2.2.1.symm)]; exact hy
theorem Tryd.infoG4 : (Tryd.prog.info? 51).map (·.size) = some 4 := by kernel_rfl
end Go.Proofs.YtlffgepnhhnadaaDoor.Pl
